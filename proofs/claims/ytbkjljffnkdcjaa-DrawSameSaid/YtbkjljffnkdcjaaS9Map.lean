/- A map of turns as one permutation of its darts and lone vertices: rings, pieces, Euler's inequality. No program here. -/
import Derived.Test.YtbkjljffnkdcjaaS9RestS
namespace Go.Proofs.Ytbkjljffnkdcjaa.Plain
theorem tw_eq:∀ {S:List Int},S.Nodup→∀ x,tw S x=if x / 2∈S then twin x else x
 | [],_,x=>by simp[tw]
 | e :: S,h,x=>by
  rw[List.nodup_cons] at h
  show tw S (swp (2*e) (2*e+1) x)=_
  rw[tw_eq h.2]
  by_cases h1:x=2*e
  ·subst h1
   have a1:(2*e+1) / 2=e:=by omega
   have a2:2*e / 2=e:=by omega
   rw[swp_left,a1,a2,if_neg h.1,if_pos (by simp)]
   unfold twin;rw[if_pos (by omega)]
  by_cases h2:x=2*e+1
  ·subst h2
   have a1:(2*e+1) / 2=e:=by omega
   have a2:2*e / 2=e:=by omega
   rw[swp_right,a1,a2,if_neg h.1,if_pos (by simp)]
   unfold twin;rw[if_neg (by omega)];omega
  rw[swp_none h1 h2]
  have hne:x / 2≠e:=by omega
  by_cases h3:x / 2∈S
  ·rw[if_pos h3,if_pos (by simp[h3])]
  rw[if_neg h3,if_neg (by simp[h3,hne])]
theorem Come.congr {g:Gr} {p q:Pt} {s a b:Int} (he:p.e=q.e) (h:Come g p s a b):Come g q s a b:=by
 induction h with
 | here=>exact .here
 | step _ hn hs ih =>
  obtain⟨e,h1,h2⟩:=hn
  exact ih.step ⟨e,he ▸ h1,h2⟩ hs
theorem no_come {g:Gr} {p:Pt} (h:PartOk g p) {u:Int} (hc:Come g p (-1) (-1) u) (hu:u≠-1):False:=by
 induction hc with
 | here=>exact hu rfl
 | @step u w _ hn hs ih =>
  by_cases e:u = -1
  ·obtain⟨f,hf,q⟩:=hn
   have h1:=h.ends f hf
   have h2:=h.vr _ h1.1
   have h3:=h.vr _ h1.2
   rcases q with q | q
   ·rw[q] at h2;simp only at h2;omega
   rw[q] at h3;simp only at h3;omega
  exact ih e
def vert (g:Gr) (d:Int):Int:=if d<0 then -1 - d else g.tail d
def ground (g:Gr) (p:Pt) (turn:List (List Int)) (U:List Int):List Int:=leaving g p U++(U.filter fun v=>(turnAt turn v).isEmpty).map fun v=>-1 - v
def bef (g:Gr) (turn:List (List Int)) (d:Int):Int:=if d<0 then d else before g turn d
def bRings (turn:List (List Int)) (U:List Int):List (List Int):=((busy turn U).map fun v=>(turnAt turn v).reverse)++(U.filter fun v=>(turnAt turn v).isEmpty).map fun v=>[-1 - v]
def edgesOf (g:Gr) (p:Pt) (U:List Int):List Int:=p.e.filter fun e=>decide (g.tail (2*e)∈U)
def walksIn (g:Gr) (W:List Face) (U:List Int):List (List Int):=(W.filter fun f=>decide (f.corner g∈U)).map marks
structure Stretch (g:Gr) (p:Pt) (U:List Int):Prop where
 nodup:U.Nodup
 sub:∀ v∈U,v∈p.v
 closed:Closed g p U
theorem dart_pos {g:Gr} {p:Pt} (h:PartOk g p) {d:Int} (hd:d∈p.darts):0≤d:=by
 have:=h.er _ (mem_darts.1 hd);omega
theorem mem_ground {g:Gr} {p:Pt} {turn:List (List Int)} {U:List Int} {x:Int}:x∈ground g p turn U↔(x∈p.darts∧g.tail x∈U)∨∃ v∈U,turnAt turn v=[]∧x = -1 - v:=by
 unfold ground leaving
 rw[List.mem_append,List.mem_filter,List.mem_map]
 simp only[decide_eq_true_eq,List.mem_filter,List.isEmpty_iff]
 constructor
 ·rintro (h | ⟨v,⟨h1,h2⟩,h3⟩)
  ·exact Or.inl h
  exact Or.inr ⟨v,h1,h2,h3.symm⟩
 rintro (h | ⟨v,h1,h2,h3⟩)
 ·exact Or.inl h
 exact Or.inr ⟨v,⟨h1,h2⟩,h3.symm⟩
theorem vert_dart {g:Gr} {p:Pt} (h:PartOk g p) {d:Int} (hd:d∈p.darts):vert g d=g.tail d:=by
 unfold vert;rw[if_neg (by have:=dart_pos h hd;omega)]
theorem vert_lone {g:Gr} {v:Int} (h:0≤v):vert g (-1 - v)=v:=by
 unfold vert;rw[if_pos (by omega)];omega
theorem ground_vert {g:Gr} {p:Pt} {turn:List (List Int)} {U:List Int} (h:PartOk g p) (hU:Stretch g p U) {x:Int} (hx:x∈ground g p turn U):vert g x∈U:=by
 rcases mem_ground.1 hx with ⟨h1,h2⟩ | ⟨v,h1,-,rfl⟩
 ·rw[vert_dart h h1];exact h2
 rw[vert_lone (h.vr v (hU.sub v h1)).1];exact h1
theorem Stretch.comp {g:Gr} {p:Pt} (h:PartOk g p) (r:Int):Stretch g p (comp g p r):=⟨comp_nodup h r,fun _ hv=>(mem_comp.1 hv).1,comp_closed h r⟩
theorem busy_len (turn:List (List Int)):∀ U:List Int,(busy turn U).length+(U.filter fun v=>(turnAt turn v).isEmpty).length=U.length
 | []=>rfl
 | v :: U=>by
  have ih:=busy_len turn U
  unfold busy at ih ⊢
  simp only[List.filter_cons,List.length_cons]
  cases (turnAt turn v).isEmpty <;> simp <;> omega
theorem bRings_len (turn:List (List Int)) (U:List Int):(bRings turn U).length=U.length:=by
 unfold bRings
 rw[List.length_append,List.length_map,List.length_map,busy_len]
theorem flatten_singles (f:Int→Int):∀ L:List Int,(L.map fun v=>[f v]).flatten=L.map f
 | []=>rfl
 | v :: L=>by rw[List.map_cons,List.flatten_cons,flatten_singles f L];rfl
theorem ground_nodup {g:Gr} {p:Pt} {turn:List (List Int)} {U:List Int} (h:PartOk g p) (hU:Stretch g p U):(ground g p turn U).Nodup:=by
 unfold ground
 rw[List.nodup_append]
 refine⟨(darts_nodup h.en).filter _,List.Pairwise.map _ (fun a b (hab:a≠b) (e:-1 - a = -1 - b)=>hab (by omega)) (hU.nodup.filter _),fun a ha b hb e=>?_⟩
 obtain⟨v,hv,e2⟩:=List.mem_map.1 hb
 have h1:=dart_pos h (List.mem_filter.1 ha).1
 have h2:=(h.vr v (hU.sub v (List.mem_filter.1 hv).1)).1
 omega
theorem bef_rings {g:Gr} {p:Pt} {turn:List (List Int)} {U:List Int} (h:PartOk g p) (ht:TurnsOk g p turn) (hU:Stretch g p U):Rings (bef g turn) (bRings turn U)∧(bRings turn U).flatten.Perm (ground g p turn U):=by
 obtain⟨h1,h2⟩:=before_rings ht h.en hU.nodup (fun v hv=>h.vr v (hU.sub v hv))
 have hp:(bRings turn U).flatten.Perm (ground g p turn U):=by
  unfold bRings ground
  rw[List.flatten_append,flatten_singles]
  exact h2.append_right _
 refine⟨⟨fun c hc=>?_,hp.nodup_iff.2 (ground_nodup h hU)⟩,hp⟩
 unfold bRings at hc
 rcases List.mem_append.1 hc with q | q
 ·refine (h1.ring c q).congr fun x hx=>?_
  have hxd:x∈p.darts:=(List.mem_filter.1 (h2.mem_iff.1 (List.mem_flatten.2 ⟨c,q,hx⟩))).1
  unfold bef
  rw[if_neg (by have:=dart_pos h hxd;omega)]
 obtain⟨v,hv,rfl⟩:=List.mem_map.1 q
 have:=(h.vr v (hU.sub v (List.mem_filter.1 hv).1)).1
 show bef g turn (-1 - v) = -1 - v
 unfold bef
 rw[if_pos (by omega)]
theorem edges_in {g:Gr} {p:Pt} {turn:List (List Int)} {U:List Int} (_h:PartOk g p) (hU:Stretch g p U) {e:Int} (he:e∈edgesOf g p U):2*e∈ground g p turn U∧2*e+1∈ground g p turn U:=by
 unfold edgesOf at he
 obtain⟨h1,h2⟩:=List.mem_filter.1 he
 have h2:=of_decide_eq_true h2
 have d1:2*e∈p.darts:=mem_darts.2 (by rwa[show 2*e / 2=e by omega])
 have d2:2*e+1∈p.darts:=mem_darts.2 (by rwa[show (2*e+1) / 2=e by omega])
 have e2:twin (2*e)=2*e+1:=by unfold twin;rw[if_pos (by omega)]
 refine⟨mem_ground.2 (Or.inl ⟨d1,h2⟩),mem_ground.2 (Or.inl ⟨d2,?_⟩)⟩
 rw[←e2,tail_twin]
 exact hU.closed _ d1 h2
theorem half_in {g:Gr} {p:Pt} {U:List Int} (hU:Stretch g p U) {x:Int} (hx:x∈p.darts) (ht:g.tail x∈U):x / 2∈edgesOf g p U:=by
 unfold edgesOf
 refine List.mem_filter.2 ⟨mem_darts.1 hx,decide_eq_true ?_⟩
 rcases twin_cases x with ⟨e,-⟩ | ⟨e,e2⟩
 ·rw[←e];exact ht
 rw[←e2,tail_twin];exact hU.closed x hx ht
theorem dart_ends {g:Gr} {p:Pt} (h:PartOk g p) {d:Int} (hd:d∈p.darts):0≤g.tail d∧g.tail d<g.n:=h.vr _ (h.tail_mem hd).1
theorem walk_const {g:Gr} {p:Pt} {turn:List (List Int)} {W:List Face} {U:List Int} (h:PartOk g p) (ht:TurnsOk g p turn) (hW:FacesOk g p turn W) (hC:Closed g p U) {f:Face} (hf:f∈W) {x:Int} (hx:x∈f.2):x∈p.darts∧(g.tail x∈U↔f.corner g∈U):=by
 have hne:f.2≠[]:=fun e=>by rw[e] at hx;simp at hx
 have hc:f.2∈(W.filter fun f=>!f.2.isEmpty).map (·.2):=List.mem_map.2 ⟨f,List.mem_filter.2 ⟨hf,by simp[hne]⟩,rfl⟩
 have hd:∀ y∈f.2,y∈p.darts:=fun y hy=>hW.all.mem_iff.1 (List.mem_flatten.2 ⟨f.2,hc,hy⟩)
 have hk:=ring_const (f:=fun d=>decide (g.tail d∈U)) (hW.rings.ring f.2 hc) (fun y hy=>by
  have h2:=(next_tail ht (fun d hd=>dart_ends h hd) (hd y hy)).2
  simp only[h2,closed_back hC (hd y hy)])
 refine⟨hd x hx,?_⟩
 match e:f.2 with
 | []=>exact absurd e hne
 | d :: l =>
  have hcr:f.corner g=g.tail f.1:=by unfold Face.corner;rw[e]
  rw[hcr,hW.key f hf d l e]
  have:=hk x hx d (by rw[e];simp)
  simpa using this
theorem lone_walk {g:Gr} {p:Pt} {turn:List (List Int)} {W:List Face} (hW:FacesOk g p turn W) {v:Int} (hv:v∈p.v) (h0:turnAt turn v=[]):(-1 - v,[])∈W:=by
 have:-1 - v∈(W.filter fun f=>f.2.isEmpty).map (·.1):=hW.lone.mem_iff.2 (List.mem_map.2 ⟨v,List.mem_filter.2 ⟨hv,by simp[h0]⟩,rfl⟩)
 obtain⟨f,hf,e⟩:=List.mem_map.1 this
 obtain⟨h1,h2⟩:=List.mem_filter.1 hf
 have h2:f.2=[]:=by simpa using h2
 have:f=(-1 - v,[]):=Prod.ext e h2
 rw[←this];exact h1
theorem lone_of {g:Gr} {p:Pt} {turn:List (List Int)} {W:List Face} (hW:FacesOk g p turn W) {f:Face} (hf:f∈W) (h0:f.2=[]):∃ v∈p.v,turnAt turn v=[]∧f.1 = -1 - v:=by
 have:f.1∈(W.filter fun f=>f.2.isEmpty).map (·.1):=List.mem_map.2 ⟨f,List.mem_filter.2 ⟨hf,by simp[h0]⟩,rfl⟩
 obtain⟨v,hv,e⟩:=List.mem_map.1 (hW.lone.mem_iff.1 this)
 obtain⟨h1,h2⟩:=List.mem_filter.1 hv
 exact⟨v,h1,by simpa using h2,e.symm⟩
theorem walk_of {g:Gr} {p:Pt} {turn:List (List Int)} {W:List Face} (hW:FacesOk g p turn W) {x:Int} (hx:x∈p.darts):∃ f∈W,x∈f.2:=by
 obtain⟨c,hc,hxc⟩:=List.mem_flatten.1 (hW.all.mem_iff.2 hx)
 obtain⟨f,hf,rfl⟩:=List.mem_map.1 hc
 exact⟨f,(List.mem_filter.1 hf).1,hxc⟩
theorem walk_rings {g:Gr} {p:Pt} {turn:List (List Int)} {W:List Face} {U:List Int} (hpe:p.err g=0) (ht:TurnsOk g p turn) (hW:WalksOk g p turn W) (hU:Stretch g p U) :
  Rings (fun x=>bef g turn (tw (edgesOf g p U) x)) (walksIn g W U)∧(walksIn g W U).flatten.Perm (ground g p turn U):=by
 have h:=Pt.ok_of_err hpe
 have hSn:(edgesOf g p U).Nodup:=h.en.filter _
 have hnd:(walksIn g W U).flatten.Nodup:=by
  have h8:=places_nodup hpe hW
  have hs:(walksIn g W U).Sublist (places8 W):=(List.filter_sublist).map marks
  rw[nodup_flat] at h8 ⊢
  exact⟨fun l hl=>h8.1 l (hs.subset hl),h8.2.sublist hs⟩
 refine⟨⟨fun c hc=>?_,hnd⟩,?_⟩
 ·obtain⟨f,hf,rfl⟩:=List.mem_map.1 hc
  obtain⟨hfW,hfU⟩:=List.mem_filter.1 hf
  have hfU:=of_decide_eq_true hfU
  by_cases e:f.2=[]
  ·obtain⟨v,hv,-,e1⟩:=lone_of hW.faces hfW e
   rw[marks_nil e,e1]
   have hv0:=(h.vr v hv).1
   show bef g turn (tw _ (-1 - v)) = -1 - v
   rw[tw_eq hSn,if_neg (fun q=>by
    have:=h.er _ (List.mem_filter.1 q).1
    omega)]
   unfold bef
   rw[if_pos (by omega)]
  rw[marks_some e]
  have hc2:f.2∈(W.filter fun f=>!f.2.isEmpty).map (·.2):=List.mem_map.2 ⟨f,List.mem_filter.2 ⟨hfW,by simp[e]⟩,rfl⟩
  refine (hW.faces.rings.ring f.2 hc2).congr fun x hx=>?_
  obtain⟨hxd,hxU⟩:=walk_const h ht hW.faces hU.closed hfW hx
  rw[tw_eq hSn,if_pos (half_in hU hxd (hxU.2 hfU))]
  have:=dart_pos h (twin_mem hxd)
  unfold bef
  rw[if_neg (by omega)]
  rfl
 refine (List.perm_ext_iff_of_nodup hnd (ground_nodup h hU)).2 fun x=>?_
 rw[mem_ground,List.mem_flatten]
 constructor
 ·rintro ⟨c,hc,hxc⟩
  obtain⟨f,hf,rfl⟩:=List.mem_map.1 hc
  obtain⟨hfW,hfU⟩:=List.mem_filter.1 hf
  have hfU:=of_decide_eq_true hfU
  by_cases e:f.2=[]
  ·rw[marks_nil e] at hxc
   obtain⟨v,hv,e2,e1⟩:=lone_of hW.faces hfW e
   refine Or.inr ⟨v,?_,e2,by rw[←e1];simpa using hxc⟩
   have:f.corner g = -1 - f.1:=by unfold Face.corner;rw[e]
   rw[this,e1,show -1 - (-1 - v)=v by omega] at hfU
   exact hfU
  rw[marks_some e] at hxc
  obtain⟨hxd,hxU⟩:=walk_const h ht hW.faces hU.closed hfW hxc
  exact Or.inl ⟨hxd,hxU.2 hfU⟩
 rintro (⟨h1,h2⟩ | ⟨v,h1,h2,rfl⟩)
 ·obtain⟨f,hf,hxf⟩:=walk_of hW.faces h1
  obtain⟨-,hxU⟩:=walk_const h ht hW.faces hU.closed hf hxf
  exact⟨marks f,List.mem_map.2 ⟨f,List.mem_filter.2 ⟨hf,decide_eq_true (hxU.1 h2)⟩,rfl⟩,by rw[marks_some (fun e=>by rw[e] at hxf;simp at hxf)];exact hxf⟩
 have hf:=lone_walk hW.faces (hU.sub v h1) h2
 refine⟨marks (-1 - v,[]),List.mem_map.2 ⟨_,List.mem_filter.2 ⟨hf,decide_eq_true ?_⟩,rfl⟩,by rw[marks_nil rfl];simp⟩
 show -1 - (-1 - v)∈U
 rw[show -1 - (-1 - v)=v by omega];exact h1
theorem same_vert {g:Gr} {p:Pt} {turn:List (List Int)} {U:List Int} (h:PartOk g p) (ht:TurnsOk g p turn) (hU:Stretch g p U) {x y:Int} (hx:x∈ground g p turn U) (hy:y∈ground g p turn U) (e:vert g x=vert g y):Same (bRings turn U) x y:=by
 have key:∀ {x y v:Int},x∈p.darts→g.tail x=v→v∈U→y∈ground g p turn U→vert g y=v→Same (bRings turn U) x y:=by
  intro x y v hx e1 hv hy e2
  have hb:=h.vr v (hU.sub v hv)
  have hxt:x∈turnAt turn v:=(ht.mem v hb.1 hb.2 x).2 ⟨hx,e1⟩
  rcases mem_ground.1 hy with ⟨q1,-⟩ | ⟨u,q1,q2,rfl⟩
  ·rw[vert_dart h q1] at e2
   have hyt:y∈turnAt turn v:=(ht.mem v hb.1 hb.2 y).2 ⟨q1,e2⟩
   refine Or.inr ⟨(turnAt turn v).reverse,?_,by simpa using hxt,by simpa using hyt⟩
   unfold bRings busy
   refine List.mem_append.2 (Or.inl (List.mem_map.2 ⟨v,List.mem_filter.2 ⟨hv,?_⟩,rfl⟩))
   cases hq:turnAt turn v with
   | nil=>rw[hq] at hxt;simp at hxt
   | cons _ _=>rfl
  rw[vert_lone (h.vr u (hU.sub u q1)).1] at e2
  subst e2
  rw[q2] at hxt;simp at hxt
 have hB:=(bef_rings h ht hU).1.nodup
 rcases mem_ground.1 hx with ⟨q1,q2⟩ | ⟨u,q1,q2,rfl⟩
 ·exact key q1 rfl q2 hy (by rw[←e,vert_dart h q1])
 rw[vert_lone (h.vr u (hU.sub u q1)).1] at e
 rcases mem_ground.1 hy with ⟨r1,r2⟩ | ⟨w,r1,r2,rfl⟩
 ·rw[vert_dart h r1] at e
  exact (Same.eqv hB).symm (key r1 e.symm q1 hx (vert_lone (h.vr u (hU.sub u q1)).1))
 rw[vert_lone (h.vr w (hU.sub w r1)).1] at e
 rw[e];exact Or.inl rfl
theorem come_gen {g:Gr} {p:Pt} {turn:List (List Int)} {U S:List Int} (h:PartOk g p) (hU:Stretch g p U) {G:Int→Int→Prop} (hG:Eqv G) (h1:∀ x∈ground g p turn U,∀ y∈ground g p turn U,vert g x=vert g y→G x y)
  (hS:∀ e∈S,e∈p.e) (h2:∀ e∈S,g.tail (2*e)∈U→G (2*e) (2*e+1)) {a v:Int} (hc:Come g ⟨p.v,S⟩ (-1) a v):∀ x∈ground g p turn U,vert g x=a→∀ y∈ground g p turn U,vert g y=v→G x y:=by
 induction hc with
 | here=>exact fun x hx e1 y hy e2=>h1 x hx y hy (e1.trans e2.symm)
 | @step u w _ hn _ ih =>
  intro x hx e1 y hy e2
  obtain⟨e,he,hends⟩:=hn
  have d1:2*e∈p.darts:=mem_darts.2 (by rw[show 2*e / 2=e by omega];exact hS e he)
  have d2:2*e+1∈p.darts:=mem_darts.2 (by rw[show (2*e+1) / 2=e by omega];exact hS e he)
  have t1:=tail_even g e
  have t2:g.tail (2*e+1)=(g.at e).2:=by
   have e2:twin (2*e)=2*e+1:=by unfold twin;rw[if_pos (by omega)]
   rw[←e2,tail_twin];exact t1.2
  have hyU:w∈U:=by rw[←e2];exact ground_vert h hU hy
  rcases hends with q | q
  .-- 2e at u,its twin at w
   have a1:g.tail (2*e)=u:=by rw[t1.1,q]
   have a2:g.tail (2*e+1)=w:=by rw[t2,q]
   have aU:u∈U:=by
    have e2':twin (2*e)=2*e+1:=by unfold twin;rw[if_pos (by omega)]
    rw[←a1]
    refine (closed_back hU.closed d1).1 ?_
    rw[←tail_twin,e2',a2];exact hyU
   have g1:2*e∈ground g p turn U:=mem_ground.2 (Or.inl ⟨d1,by rw[a1];exact aU⟩)
   have g2:2*e+1∈ground g p turn U:=mem_ground.2 (Or.inl ⟨d2,by rw[a2];exact hyU⟩)
   exact hG.trans (hG.trans (ih x hx e1 _ g1 (by rw[vert_dart h d1,a1])) (h2 e he (by rw[a1];exact aU))) (h1 _ g2 y hy (by rw[vert_dart h d2,a2,e2]))
  have a1:g.tail (2*e)=w:=by rw[t1.1,q]
  have a2:g.tail (2*e+1)=u:=by rw[t2,q]
  have aU:u∈U:=by
   have e2':twin (2*e)=2*e+1:=by unfold twin;rw[if_pos (by omega)]
   rw[←a2,←e2',tail_twin]
   exact hU.closed _ d1 (by rw[a1];exact hyU)
  have g1:2*e∈ground g p turn U:=mem_ground.2 (Or.inl ⟨d1,by rw[a1];exact hyU⟩)
  have g2:2*e+1∈ground g p turn U:=mem_ground.2 (Or.inl ⟨d2,by rw[a2];exact aU⟩)
  exact hG.trans (hG.trans (ih x hx e1 _ g2 (by rw[vert_dart h d2,a2])) (hG.symm (h2 e he (by rw[a1];exact hyU)))) (h1 _ g1 y hy (by rw[vert_dart h d1,a1,e2]))
theorem piece_le {g:Gr} {p:Pt} {turn:List (List Int)} {W:List Face} (hpe:p.err g=0) (ht:TurnsOk g p turn) (hW:WalksOk g p turn W) (r:Int) :
  (comp g p r).length+(W.filter fun f=>decide (f.corner g∈comp g p r)).length≤2+(p.e.filter fun e=>decide (g.tail (2*e)∈comp g p r)).length:=by
 have h:=Pt.ok_of_err hpe
 have hU:=Stretch.comp h r
 obtain⟨b1,b2⟩:=bef_rings h ht hU
 obtain⟨w1,w2⟩:=walk_rings hpe ht hW hU
 have hle:=euler_le b1 b2 (fun e he=>edges_in (turn:=turn) h hU he) w1 w2
 rw[bRings_len] at hle
 have hE:=Same.eqv b1.nodup
 have h1:cnt (Gen (Same (bRings turn (comp g p r))) (edgesOf g p (comp g p r))) (ground g p turn (comp g p r))≤1:=by
  refine cnt_le_one (Gen.eqv hE _) fun x hx y hy=>?_
  have vx:=mem_comp.1 (ground_vert h hU hx)
  have vy:=mem_comp.1 (ground_vert h hU hy)
  have hc:=((vx.2.symm (by
   intro e
   have:r = -1:=e
   have h2:=h.vr _ vx.1
   have h3:Come g p (-1) (-1) (vert g x):=by rw[←this];exact this ▸ vx.2
   exact no_come h h3 (by omega))).2).trans vy.2
  exact come_gen (S:=p.e) h hU (Gen.eqv hE _) (fun u hu w hw e=>Gen.base (same_vert h ht hU hu hw e) _) (fun _ he=>he) (fun e he ht2=>Gen.edge hE (List.mem_filter.2 ⟨he,decide_eq_true ht2⟩)) (Come.congr (q:=⟨p.v,p.e⟩) rfl hc) x hx rfl y hy rfl
 unfold walksIn at hle
 rw[List.length_map] at hle
 unfold edgesOf at hle h1
 omega
noncomputable def cls (g:Gr) (p:Pt) (turn same:List (List Int)) (f:Face):Int:=numOf (regionsOf g p turn same) f.1
theorem rise_ext:∀ {l m:List Int},l.Pairwise (·<·)→m.Pairwise (·<·)→(∀ x,x∈l↔x∈m)→l=m
 | [],[],_,_,_=>rfl
 | [],y :: m,_,_,h=>by have:=(h y).2 (by simp);simp at this
 | x :: l,[],_,_,h=>by have:=(h x).1 (by simp);simp at this
 | x :: l,y :: m,h1,h2,h=>by
  rw[List.pairwise_cons] at h1 h2
  have e:x=y:=by
   rcases List.mem_cons.1 ((h x).1 (by simp)) with q | q
   ·exact q
   rcases List.mem_cons.1 ((h y).2 (by simp)) with r | r
   ·exact r.symm
   have:=h1.1 y r;have:=h2.1 x q;omega
  subst e
  rw[rise_ext h1.2 h2.2 fun z=>?_]
  constructor
  ·intro hz
   rcases List.mem_cons.1 ((h z).1 (by simp[hz])) with q | q
   ·have:=h1.1 z hz;omega
   exact q
  intro hz
  rcases List.mem_cons.1 ((h z).2 (by simp[hz])) with q | q
  ·have:=h2.1 z hz;omega
  exact q
def back (l:List Int) (u:Int):List Int:=(l.take (l.idxOf u+1)).reverse++(l.drop (l.idxOf u+1)).reverse
theorem idxOf_split {a c:List Int} {u:Int} (h:u ∉ a):(a++u :: c).idxOf u=a.length:=by
 rw[List.idxOf_append,if_neg h];simp
theorem split_at {l:List Int} {u:Int} (h:u∈l):∃ a c,l=a++u :: c∧u ∉ a:=by
 induction l with
 | nil=>simp at h
 | cons x l ih =>
  by_cases e:u=x
  ·exact⟨[],l,by rw[e];rfl,by simp⟩
  obtain⟨a,c,e1,h1⟩:=ih ((List.mem_cons.1 h).resolve_left e)
  exact⟨x :: a,c,by rw[e1];rfl,by simp[e,h1]⟩
theorem ahead_split {a c:List Int} {u:Int} (h:u ∉ a):ahead (a++u :: c) u=(a.reverse++(c.reverse++[u])).getD 0 0:=by
 unfold ahead
 rw[idxOf_split h,show (a++u :: c).length=a.length+c.length+1 by simp;omega]
 rcases List.eq_nil_or_concat a with rfl | ⟨a,z,rfl⟩
 ·rcases List.eq_nil_or_concat c with rfl | ⟨c,y,rfl⟩
  ·simp
  have e1:([]:List Int).length+(([]:List Int).length+(c.concat y).length+1) - 1=c.length+1:=by simp
  have e2:([]:List Int).length+(c.concat y).length+1=c.length+2:=by simp
  rw[e1,e2,Nat.mod_eq_of_lt (by omega)]
  simp[List.getD]
 simp only[List.concat_eq_append,List.length_append,List.length_cons,List.length_nil,List.reverse_append,List.reverse_cons,List.reverse_nil]
 rw[show a.length+(0+1)+(a.length+(0+1)+c.length+1) - 1=a.length+(a.length+(0+1)+c.length+1) by omega,Nat.add_mod_right,Nat.mod_eq_of_lt (by omega)]
 simp[List.getD]
theorem ahead_mem {l:List Int} (hn:l.Nodup) {u:Int} (hu:u∈l):ahead l u∈l:=by
 have h:=ahead_ring hn (List.ne_nil_of_mem hu)
 exact List.mem_reverse.1 (h.map_perm.mem_iff.1 (List.mem_map.2 ⟨u,List.mem_reverse.2 hu,rfl⟩))
structure Subs (g:Gr) (p q:Pt) (turn:List (List Int)):Prop where
 pe:p.err g=0
 qe:q.err g=0
 to_:TurnsOk g p turn
 sube:∀ e∈q.e,e∈p.e
 subv:∀ v∈q.v,v∈p.v
section
variable {g : Gr} {p q : Pt} {turn : List (List Int)}
end
end Go.Proofs.Ytbkjljffnkdcjaa.Plain
