/- A way is put into a face: the turns that this makes. No program here. -/
import Derived.Test.YtbkjljffnkdcjaaS9Find
namespace Go.Proofs.Ytbkjljffnkdcjaa.Plain
theorem Faces.perm {g:Gr} {p:Pt} {turn F F':List (List Int)} (h:Faces g p turn F) (hF:F.Perm F'):Faces g p turn F' :=
 ⟨h.pe,h.to_,h.rings.perm hF,hF.symm.flatten.trans h.all,fun f hf=>h.simple f (hF.mem_iff.2 hf),h.full,by have:=hF.length_eq;have:=h.euler;omega,h.joined⟩
theorem Faces.roll {g:Gr} {p:Pt} {turn R:List (List Int)} {A B:List Int} (h:Faces g p turn ((A++B) :: R)):Faces g p turn ((B++A) :: R):=by
 have hp:((B++A) :: R).flatten.Perm ((A++B) :: R).flatten:=by
  rw[List.flatten_cons,List.flatten_cons]
  exact List.perm_append_comm.append_right _
 have hr:Ring (nextDart g turn) (B++A):=by
  have h1:=h.rings.ring (A++B) (by simp)
  match A,B,h1 with
  | [],B,h1=>simpa using h1
  | x :: A,[],h1=>simpa using h1
  | x :: A,y :: B,h1=>exact h1.turn
 refine⟨h.pe,h.to_,⟨fun c hc=>?_,hp.nodup_iff.2 h.rings.nodup⟩,hp.trans h.all,fun f hf=>?_,h.full,h.euler,h.joined⟩
 ·rcases List.mem_cons.1 hc with rfl | hc
  ·exact hr
  exact h.rings.ring c (List.mem_cons_of_mem _ hc)
 rcases List.mem_cons.1 hf with rfl | hf
 ·have:=h.simple (A++B) (by simp)
  rw[List.map_append] at this ⊢
  exact List.perm_append_comm.nodup_iff.1 this
 exact h.simple f (List.mem_cons_of_mem _ hf)
theorem find_split {P:Int→Bool} {l:List Int} (h:∃ x∈l,P x=true):∃ x m,l.drop (l.findIdx P)=x :: m∧P x=true∧l=l.take (l.findIdx P)++x :: m∧∀ y∈l.take (l.findIdx P),P y=false:=by
 have hlt:l.findIdx P<l.length:=List.findIdx_lt_length_of_exists h
 refine⟨l[l.findIdx P],l.drop (l.findIdx P+1),List.drop_eq_getElem_cons hlt,List.findIdx_getElem,?_,fun y hy=>?_⟩
 ·rw[←List.drop_eq_getElem_cons hlt,List.take_append_drop]
 obtain⟨i,hi,rfl⟩:=List.getElem_of_mem hy
 rw[List.length_take] at hi
 rw[List.getElem_take]
 exact List.not_of_lt_findIdx (by omega)
def cutFace (g:Gr) (old w:List Int) (a z:Int):List Int × List Int :=
 let k:=old.findIdx fun d=>decide (g.tail d=a)
 let o:=old.drop k++old.take k
 let j:=o.findIdx fun d=>decide (g.tail d=z)
 (o.take j++twins w,w++o.drop j)
theorem cutFace_split {g:Gr} {old w:List Int} {a z:Int} (ha:∃ x∈old,g.tail x=a) (hz:∃ y∈old,g.tail y=z) (hne:a≠z) :
  ∃ x y A B U V,old=U++V∧V++U=x :: A++y :: B∧g.tail x=a∧g.tail y=z∧cutFace g old w a z=(x :: A++twins w,w++y :: B):=by
 obtain⟨x,m,h1,h2,h3,-⟩:=find_split (P:=fun d=>decide (g.tail d=a)) (l:=old) (by obtain⟨x,hx,e⟩:=ha;exact⟨x,hx,decide_eq_true e⟩)
 have h2:g.tail x=a:=of_decide_eq_true h2
 obtain⟨U,hU⟩:∃ U,old.take (old.findIdx fun d=>decide (g.tail d=a))=U:=⟨_,rfl⟩
 have hxm:∃ y∈(x :: m)++U,decide (g.tail y=z)=true:=by
  obtain⟨y,hy,e⟩:=hz
  refine⟨y,?_,decide_eq_true e⟩
  rw[h3,hU] at hy
  exact List.perm_append_comm.mem_iff.1 hy
 obtain⟨y,B,k1,k2,k3,k4⟩:=find_split (P:=fun d=>decide (g.tail d=z)) hxm
 have k2:g.tail y=z:=of_decide_eq_true k2
 have hA:∃ A,((x :: m)++U).take (((x :: m)++U).findIdx fun d=>decide (g.tail d=z))=x :: A:=by
  cases hj:((x :: m)++U).findIdx fun d=>decide (g.tail d=z) with
  | zero =>
   rw[hj] at k1
   simp only[List.drop_zero,List.cons_append,List.cons.injEq] at k1
   exact absurd (h2.symm.trans ((congrArg g.tail k1.1).trans k2)) hne
  | succ j=>exact⟨_,by rw[List.cons_append,List.take_succ_cons]⟩
 obtain⟨A,hA⟩:=hA
 refine⟨x,y,A,B,U,x :: m,?_,?_,h2,k2,?_⟩
 ·rw[←hU];exact h3
 ·rw[hA] at k3;exact k3
 unfold cutFace
 simp only
 rw[h1,hU,hA,k1]
theorem dart_two {g:Gr} {l:List Int} (h:(l.map g.tail).Nodup) {d e:Int} (hd:d∈l) (he:e∈l) (hde:g.tail d=g.tail e):d=e:=inj_of_map h d hd e he hde
def plusTurn (g:Gr) (p q:Pt) (turn:List (List Int)) (w:List Int) (a z x y:Int):List (List Int) :=
 (List.range g.n.toNat).map fun v:Nat=>if (v:Int)=a then insAt x (w.headD 0) (turnAt turn v) else if (v:Int)=z then insAt y (twin (w.getLastD 0)) (turnAt turn v) else if (v:Int)∈p.v then turnAt turn v else dartsAt g q v
theorem plusTurn_at {g:Gr} {p q:Pt} {turn:List (List Int)} {w:List Int} {a z x y v:Int} (h0:0≤v) (hn:v<g.n) :
  turnAt (plusTurn g p q turn w a z x y) v=if v=a then insAt x (w.headD 0) (turnAt turn v) else if v=z then insAt y (twin (w.getLastD 0)) (turnAt turn v) else if v∈p.v then turnAt turn v else dartsAt g q v:=by
 obtain⟨n,rfl⟩:∃ n:Nat,v=n:=⟨v.toNat,by omega⟩
 have hlt:n<g.n.toNat:=by omega
 show ((List.range g.n.toNat).map _).getD n []=_
 simp only[List.getD,List.getElem?_map,List.getElem?_range hlt,Option.map_some,Option.getD_some]
theorem plusTurn_ok {g:Gr} {p q:Pt} {turn F:List (List Int)} {w:List Int} {a z x y:Int} (h:Faces g p turn F) (hw:WayIn g p w a z) (hq:Plus g p w q) (hx:x∈p.darts) (hxa:g.tail x=a) (hy:y∈p.darts) (hyz:g.tail y=z) :
  TurnsOk g q (plusTurn g p q turn w a z x y)∧TurnPlus g p turn w x y (plusTurn g p q turn w a z x y):=by
 have hpk:=Pt.ok_of_err h.pe
 have hqk:=Pt.ok_of_err hq.qe
 obtain⟨c,l,rfl⟩:=hw.cons
 have hca:g.tail c=a:=hw.link.1
 have hhd:=heads_tails hw.link
 have hlv:∀ u∈l.map g.tail,u ∉ p.v:=fun u hu=>by
  obtain⟨d,hd,rfl⟩:=List.mem_map.1 hu
  exact hw.vnew d hd
 have hln:(l.map g.tail).Nodup:=by have:=hw.vn;rw[List.map_cons,List.nodup_cons] at this;exact this.2
 have hhn:((c :: l).map g.head).Nodup:=by
  rw[hhd,List.nodup_append]
  exact⟨hln,by simp,fun u hu v hv e=>by
   rw[List.mem_singleton.1 hv] at e
   exact hlv u hu (by rw[e];exact hw.zv)⟩
 obtain⟨e,m,hem⟩:∃ e m,c :: l=m++[e]:=by
  rcases List.eq_nil_or_concat (c :: l) with r | ⟨m,e,r⟩
  ·cases r
  exact⟨e,m,by rw[r,List.concat_eq_append]⟩
 have hez:g.head e=z:=by have:=hw.link;rw[hem] at this;exact link_last this
 have hel:(c :: l).getLastD 0=e:=by rw[hem,List.getLastD_eq_getLast?];simp
 have hein:e∈c :: l:=by rw[hem];simp
 have W1:∀ d∈c :: l,g.tail d=a→d=c:=fun d hd r=>dart_two hw.vn hd (by simp) (r.trans hca.symm)
 have W2:∀ d∈c :: l,g.tail d≠z:=fun d hd r=>by
  rcases List.mem_cons.1 hd with rfl | hd
  ·exact hw.ne (hca.symm.trans r)
  exact hw.vnew d hd (by rw[r];exact hw.zv)
 have hh:∀ d∈c :: l,g.head d∈l.map g.tail++[z]:=fun d hd=>by rw[←hhd];exact List.mem_map.2 ⟨d,hd,rfl⟩
 have W3:∀ d∈c :: l,g.head d≠a:=fun d hd r=>by
  have:=hh d hd
  rw[r] at this
  rcases List.mem_append.1 this with k | k
  ·exact hlv a k hw.av
  exact hw.ne (List.mem_singleton.1 k)
 have W4:∀ d∈c :: l,g.head d=z→d=e:=fun d hd r=>inj_of_map hhn d hd e hein (r.trans hez.symm)
 have W5:∀ v∈p.v,v≠a→v≠z→∀ d∈c :: l,g.tail d≠v∧g.head d≠v:=fun v hv ha hz d hd=>by
  refine⟨fun r=>?_,fun r=>?_⟩
  ·rcases List.mem_cons.1 hd with rfl | hd
   ·exact ha (r.symm.trans hca)
   exact hw.vnew d hd (by rw[r];exact hv)
  have:=hh d hd
  rw[r] at this
  rcases List.mem_append.1 this with k | k
  ·exact hlv v k hv
  exact hz (List.mem_singleton.1 k)
 have htt:∀ d,g.tail d=g.head (twin d):=fun d=>by rw[←tail_twin,twin_twin]
 have hta:=h.to_.mem a (hpk.vr a hw.av).1 (hpk.vr a hw.av).2
 have htz:=h.to_.mem z (hpk.vr z hw.zv).1 (hpk.vr z hw.zv).2
 have hxt:x∈turnAt turn a:=(hta x).2 ⟨hx,hxa⟩
 have hyt:y∈turnAt turn z:=(htz y).2 ⟨hy,hyz⟩
 have hcn:c ∉ turnAt turn a:=fun r=>(hw.dart_new (show c∈c :: l by simp)).1 ((hta c).1 r).1
 have hen:twin e ∉ turnAt turn z:=fun r=>(hw.dart_new hein).2 ((htz _).1 r).1
 have hT:∀ v,0≤v→v<g.n→((turnAt (plusTurn g p q turn (c :: l) a z x y) v).Nodup∧∀ d,d∈turnAt (plusTurn g p q turn (c :: l) a z x y) v↔d∈q.darts∧g.tail d=v):=fun v h0 hn=>by
  rw[plusTurn_at h0 hn]
  by_cases e1:v=a
  ·rw[if_pos e1,e1]
   have hpm:=insAt_perm (y:=c) hxt
   refine⟨hpm.nodup_iff.2 (List.nodup_cons.2 ⟨hcn,h.to_.nodup a⟩),fun d=>?_⟩
   show d∈insAt x c (turnAt turn a)↔_
   rw[hpm.mem_iff,List.mem_cons,hta,hq.darts]
   constructor
   ·rintro (rfl | ⟨r1,r2⟩)
    ·exact⟨Or.inr (Or.inl (by simp)),hca⟩
    exact⟨Or.inl r1,r2⟩
   rintro ⟨r | r | r,r2⟩
   ·exact Or.inr ⟨r,r2⟩
   ·exact Or.inl (W1 d r r2)
   exact absurd ((htt d).symm.trans r2) (W3 _ r)
  rw[if_neg e1]
  by_cases e2:v=z
  ·rw[if_pos e2,e2,hel]
   have hpm:=insAt_perm (y:=twin e) hyt
   refine⟨hpm.nodup_iff.2 (List.nodup_cons.2 ⟨hen,h.to_.nodup z⟩),fun d=>?_⟩
   rw[hpm.mem_iff,List.mem_cons,htz,hq.darts]
   constructor
   ·rintro (rfl | ⟨r1,r2⟩)
    ·exact⟨Or.inr (Or.inr (by rw[twin_twin];exact hein)),by rw[tail_twin];exact hez⟩
    exact⟨Or.inl r1,r2⟩
   rintro ⟨r | r | r,r2⟩
   ·exact Or.inr ⟨r,r2⟩
   ·exact absurd r2 (W2 d r)
   exact Or.inl (by rw[←W4 _ r ((htt d).symm.trans r2),twin_twin])
  rw[if_neg e2]
  by_cases e3:v∈p.v
  ·rw[if_pos e3]
   refine⟨h.to_.nodup v,fun d=>?_⟩
   rw[h.to_.mem v h0 hn,hq.darts]
   constructor
   ·rintro ⟨r1,r2⟩;exact⟨Or.inl r1,r2⟩
   rintro ⟨r | r | r,r2⟩
   ·exact⟨r,r2⟩
   ·exact absurd r2 (W5 v e3 e1 e2 d r).1
   exact absurd ((htt d).symm.trans r2) (W5 v e3 e1 e2 _ r).2
  rw[if_neg e3]
  exact⟨dartsAt_nodup hqk.en v,fun d=>mem_dartsAt⟩
 have hlen:(plusTurn g p q turn (c :: l) a z x y).length=g.n.toNat:=by simp[plusTurn]
 have hn0:=(Gr.err_ok (Pt.err_ok h.pe).1).1
 refine⟨⟨by rw[hlen];omega,fun v=>?_,fun v h0 hn=>(hT v h0 hn).2⟩,?_⟩
 ·by_cases hv:v.toNat<g.n.toNat
  ·exact (hT (v.toNat:Int) (by omega) (by omega)).1
  have:turnAt (plusTurn g p q turn (c :: l) a z x y) v=[]:=by
   unfold turnAt
   rw[List.getD,List.getElem?_eq_none (by omega)]
   rfl
  rw[this];simp
 have hva:=hpk.vr a hw.av
 have hvz:=hpk.vr z hw.zv
 refine⟨fun d l' hd=>?_,fun d l' hd=>?_,fun u hu=>?_⟩
 ·obtain⟨rfl,-⟩:=List.cons.inj hd
  unfold before
  rw[hca,plusTurn_at hva.1 hva.2,if_pos rfl]
  exact ahead_ins_new (h.to_.nodup a) hxt hcn
 ·obtain rfl:d=e:=by
   rw[hem] at hd
   exact (List.append_inj' hd rfl).2 |> fun k=>by simpa using k.symm
  unfold before
  rw[tail_twin,hez,plusTurn_at hvz.1 hvz.2,if_neg (fun k=>hw.ne k.symm),if_pos rfl,hel]
  exact ahead_ins_new (h.to_.nodup z) hyt hen
 have huv:=(hpk.tail_mem hu).1
 have hur:=hpk.vr _ huv
 have hut:u∈turnAt turn (g.tail u):=(h.to_.mem _ hur.1 hur.2 u).2 ⟨hu,rfl⟩
 have hbt:g.tail (before g turn u)=g.tail u:=((h.to_.mem _ hur.1 hur.2 _).1 (ahead_mem (h.to_.nodup _) hut)).2
 have hgoal:before g (plusTurn g p q turn (c :: l) a z x y) u=ahead (if g.tail u=a then insAt x c (turnAt turn (g.tail u)) else if g.tail u=z then insAt y (twin e) (turnAt turn (g.tail u)) else turnAt turn (g.tail u)) u:=by
  unfold before
  rw[plusTurn_at hur.1 hur.2,if_pos huv,hel]
  rfl
 rw[hgoal,hel]
 show _=if before g turn u=x then c else if before g turn u=y then twin e else before g turn u
 by_cases e1:g.tail u=a
 ·rw[if_pos e1]
  have hby:before g turn u≠y:=fun r=>hw.ne (by rw[←e1,←hbt,r];exact hyz)
  rw[if_neg hby]
  rw[e1] at hut ⊢
  rw[ahead_ins_old (h.to_.nodup a) hxt hcn hut]
  unfold before
  rw[e1]
 rw[if_neg e1]
 have hbx:before g turn u≠x:=fun r=>e1 (by rw[←hbt,r];exact hxa)
 rw[if_neg hbx]
 by_cases e2:g.tail u=z
 ·rw[if_pos e2]
  rw[e2] at hut ⊢
  rw[ahead_ins_old (h.to_.nodup z) hyt hen hut]
  unfold before
  rw[e2]
 rw[if_neg e2]
 have hby:before g turn u≠y:=fun r=>e2 (by rw[←hbt,r];exact hyz)
 rw[if_neg hby]
 rfl
structure Scrap where
 edges:List Int
 ends:List Int
 faces:List Int
structure Sk where
 on:Int→Bool
 faces:List (List Int)
 rest:List Scrap
def hasV (g:Gr) (f:List Int) (v:Int):Bool:=f.any fun d=>decide (g.tail d=v)
def faceAt (F:List (List Int)) (i:Int):List Int:=F.getD i.toNat []
def fitF (g:Gr) (F:List (List Int)) (V ks:List Int):List Int:=ks.filter fun i=>V.all fun v=>hasV g (faceAt F i) v
def endsOf (g:Gr) (on:Int→Bool) (E:List Int):List Int:=tidy (E.flatMap fun e=>[(g.at e).1,(g.at e).2].filter on)
def without (E l:List Int):List Int:=E.filter fun e=>!(l.contains (2*e))&&!(l.contains (2*e+1))
def scraps (g:Gr) (on:Int→Bool) (F:List (List Int)) (E ks:List Int):List Scrap:=(scJoin g on E).1.groups.map fun l=>⟨l,endsOf g on l,fitF g F (endsOf g on l) ks⟩
def onTo (g:Gr) (on:Int→Bool) (w:List Int):Int→Bool:=fun v=>on v || w.any fun d=>decide (g.tail d=v)
def refit (g:Gr) (F:List (List Int)) (f k:Int) (r:Scrap):Scrap:=if f∈r.faces then ⟨r.edges,r.ends,r.faces.erase f++fitF g F r.ends [f,k]⟩ else r
def Sk.put (g:Gr) (V:List Int) (s:Sk) (i:Nat):Sk :=
 let c:=s.rest.getD i ⟨[],[],[]⟩
 let a:=c.ends.getD 0 0
 let w:=wayOf g s.on ⟨V,c.edges⟩ a
 let f:=c.faces.getD 0 0
 let k:Int:=s.faces.length
 let FF:=cutFace g (faceAt s.faces f) w a (g.head (w.getLastD 0))
 let F:=s.faces.set f.toNat FF.1++[FF.2]
 ⟨onTo g s.on w,F,(s.rest.eraseIdx i).map (refit g F f k)++scraps g (onTo g s.on w) F (without c.edges w) [f,k]⟩
theorem hasV_iff {g:Gr} {f:List Int} {v:Int}:hasV g f v=true↔∃ d∈f,g.tail d=v:=by
 unfold hasV
 rw[List.any_eq_true]
 exact⟨fun ⟨d,h1,h2⟩=>⟨d,h1,of_decide_eq_true h2⟩,fun ⟨d,h1,h2⟩=>⟨d,h1,decide_eq_true h2⟩⟩
theorem mem_endsOf {g:Gr} {on:Int→Bool} {E:List Int} {v:Int}:v∈endsOf g on E↔on v=true∧∃ e∈E,EndOf g e v:=by
 unfold endsOf
 rw[(tidy_ok _).2,List.mem_flatMap]
 constructor
 ·rintro ⟨e,he,h⟩
  obtain⟨h1,h2⟩:=List.mem_filter.1 h
  refine⟨h2,e,he,?_⟩
  rcases List.mem_cons.1 h1 with r | r
  ·exact Or.inl r.symm
  exact Or.inr (List.mem_singleton.1 r).symm
 rintro ⟨h1,e,he,r⟩
 refine⟨e,he,List.mem_filter.2 ⟨?_,h1⟩⟩
 rcases r with r | r <;> simp[r]
theorem endsOf_nodup (g:Gr) (on:Int→Bool) (E:List Int):(endsOf g on E).Nodup:=(tidy_ok _).1.imp fun h e=>by omega
theorem mem_fitF {g:Gr} {F:List (List Int)} {V ks:List Int} {i:Int}:i∈fitF g F V ks↔i∈ks∧∀ v∈V,hasV g (faceAt F i) v=true:=by
 unfold fitF
 rw[List.mem_filter,List.all_eq_true]
theorem mem_without {E l:List Int} {e:Int}:e∈without E l↔e∈E∧∀ d∈l,d / 2≠e:=by
 unfold without
 rw[List.mem_filter]
 refine and_congr Iff.rfl ?_
 rw[Bool.and_eq_true,Bool.not_eq_true',Bool.not_eq_true',Bool.eq_false_iff,Bool.eq_false_iff,Ne,Ne,List.contains_iff_mem,List.contains_iff_mem]
 constructor
 ·rintro ⟨h1,h2⟩ d hd r
  rcases (show d=2*e∨d=2*e+1 by omega) with rfl | rfl
  ·exact h1 hd
  exact h2 hd
 intro h
 exact⟨fun r=>h _ r (by omega),fun r=>h _ r (by omega)⟩
theorem onTo_iff {g:Gr} {on:Int→Bool} {w:List Int} {v:Int}:onTo g on w v=true↔on v=true∨v∈w.map g.tail:=by
 unfold onTo
 rw[Bool.or_eq_true,List.any_eq_true,List.mem_map]
 exact or_congr Iff.rfl ⟨fun ⟨d,h1,h2⟩=>⟨d,h1,of_decide_eq_true h2⟩,fun ⟨d,h1,h2⟩=>⟨d,h1,decide_eq_true h2⟩⟩
structure ScrOk (g:Gr) (b:Pt) (on:Int→Bool) (F:List (List Int)) (c:Scrap):Prop where
 hang:Hangs g on c.edges
 shut:∀ e∈c.edges,∀ f∈b.e,Lk g on e f→f∈c.edges
 sub:∀ e∈c.edges,e∈b.e
 ends:c.ends=endsOf g on c.edges
 two:2≤c.ends.length
 fnd:c.faces.Nodup
 fcs:∀ i,i∈c.faces↔0≤i∧i.toNat<F.length∧∀ v∈c.ends,hasV g (faceAt F i) v=true
structure SkOk (g:Gr) (b:Pt) (s:Sk) (p:Pt) (turn:List (List Int)):Prop where
 faces:Faces g p turn s.faces
 on:∀ v,s.on v=true↔v∈p.v
 sub:∀ v∈p.v,v∈b.v
 drawn:p.e≠[]
 part:(p.e++s.rest.flatMap (·.edges)).Perm b.e
 scr:∀ c∈s.rest,ScrOk g b s.on s.faces c
theorem solid_any {g:Gr} {b:Pt} (h:SolidP g b):∀ e∈b.e,∀ f∈b.e,∀ v∈b.v,¬ Apart g b v e f:=by
 obtain⟨⟨e0,l,he,hs⟩,-⟩:=h
 have h0:e0∈b.e:=by rw[he];simp
 intro e hee f hff v hv hap
 have h1:=hs e hee v hv
 have h2:=hs f hff v hv
 obtain⟨hne,hap⟩:=hap
 have hl:∀ x∈b.e,e0≠x→¬ ((g.at x).1=v∧(g.at x).2=v):=fun x hx hn q=>hs x hx v hv ⟨hn,Or.inr (Or.inl q)⟩
 have hl0:∀ x∈b.e,e0≠x→¬ ((g.at e0).1=v∧(g.at e0).2=v):=fun x hx hn q=>hs x hx v hv ⟨hn,Or.inl q⟩
 have hc:∀ x∈b.e,e0≠x→Come g b v (off g v e0) (off g v x):=fun x hx hn=>Classical.byContradiction fun q=>hs x hx v hv ⟨hn,Or.inr (Or.inr q)⟩
 by_cases q1:e0=e
 ·subst q1
  exact h2 ⟨hne,hap⟩
 by_cases q2:e0=f
 ·subst q2
  rcases hap with r | r | r
  ·exact hl e hee q1 r
  ·exact hl0 e hee q1 r
  exact r (((hc e hee q1).symm (off_ne (hl0 e hee q1))).2)
 rcases hap with r | r | r
 ·exact hl e hee q1 r
 ·exact hl f hff q2 r
 exact r ((((hc e hee q1).symm (off_ne (hl0 e hee q1))).2).trans (hc f hff q2))
theorem off_end {g:Gr} {v e:Int}:EndOf g e (off g v e):=by
 unfold off EndOf
 split
 ·exact Or.inr rfl
 exact Or.inl rfl
theorem near_end {g:Gr} {p:Pt} {u w:Int} (h:Near g p u w):∃ e∈p.e,EndOf g e u∧EndOf g e w:=by
 obtain⟨e,he,h | h⟩:=h
 ·exact⟨e,he,Or.inl (by rw[h]),Or.inr (by rw[h])⟩
 exact⟨e,he,Or.inr (by rw[h]),Or.inl (by rw[h])⟩
theorem scrap_two {g:Gr} {b p:Pt} {on:Int→Bool} {E:List Int} (hS:SolidP g b) (hpk:PartOk g p) (hpe:p.e≠[]) (hon:∀ v,on v=true↔v∈p.v) (hsub:∀ v∈p.v,v∈b.v) (hps:∀ e∈p.e,e∈b.e) (hE:E≠[]) (hEs:∀ e∈E,e∈b.e) (hEp:∀ e∈E,e ∉ p.e)
  (hshut:∀ e∈E,∀ f∈b.e,Lk g on e f→f∈E):2≤(endsOf g on E).length:=by
 obtain⟨e1,he1⟩:=List.exists_mem_of_ne_nil _ hpe
 obtain⟨e2,he2⟩:=List.exists_mem_of_ne_nil _ hE
 refine Classical.byContradiction fun hlt=>?_
 -- one vertex alone may be an end
 obtain⟨v,hv,hone⟩:∃ v∈p.v,∀ u∈endsOf g on E,u=v:=by
  match hL:endsOf g on E with
  | []=>exact⟨_,(hpk.ends e1 he1).1,by simp⟩
  | [x] =>
   have:x∈endsOf g on E:=by rw[hL];simp
   exact⟨x,(hon x).1 (mem_endsOf.1 this).1,fun u hu=>List.mem_singleton.1 hu⟩
  | _ :: _ :: _=>rw[hL] at hlt;simp at hlt
 have hne:e2≠e1:=fun r=>hEp e2 he2 (r ▸ he1)
 have hap:=solid_any hS e2 (hEs e2 he2) e1 (hps e1 he1) v (hsub v hv)
 have hl2:¬ ((g.at e2).1=v∧(g.at e2).2=v):=fun r=>hap ⟨hne,Or.inl r⟩
 have hl1:¬ ((g.at e1).1=v∧(g.at e1).2=v):=fun r=>hap ⟨hne,Or.inr (Or.inl r)⟩
 have hc:Come g b v (off g v e2) (off g v e1):=Classical.byContradiction fun r=>hap ⟨hne,Or.inr (Or.inr r)⟩
 have hoff:∀ u,Come g b v (off g v e2) u→on u=false∧∃ e∈E,EndOf g e u:=fun u hu=>by
  have key:∀ u e,e∈E→EndOf g e u→u≠v→on u=false:=fun u e he hu hn=>Bool.eq_false_iff.2 fun r=>hn (hone u (mem_endsOf.2 ⟨r,e,he,hu⟩))
  induction hu with
  | here=>exact⟨key _ e2 he2 off_end (off_ne hl2),e2,he2,off_end⟩
  | step _ hn hs ih =>
   obtain⟨i1,e,he,i2⟩:=ih
   obtain⟨f,hf,f1,f2⟩:=near_end hn
   have hfE:=hshut e he f hf ⟨_,i1,i2,f1⟩
   exact⟨key _ f hfE f2 hs,f,hfE,f2⟩
 have h1:=(hoff _ hc).1
 have h2:on (off g v e1)=true:=by
  rw[hon]
  have:=hpk.ends e1 he1
  unfold off
  split
  ·exact this.2
  exact this.1
 rw[h2] at h1
 cases h1
theorem link_edges {g:Gr} {z:Int}:∀ {w:List Int} {a:Int},Link g a w z→(w.map g.head).Nodup→a ∉ w.map g.head→(w.map (· / 2)).Nodup
 | [],_,_,_,_=>by simp
 | d :: w,a,h,hn,ha=>by
  rw[List.map_cons,List.nodup_cons] at hn
  rw[List.map_cons,List.mem_cons] at ha
  rw[List.map_cons,List.nodup_cons]
  refine⟨fun q=>?_,link_edges h.2 hn.2 hn.1⟩
  obtain⟨x,hx,e⟩:=List.mem_map.1 q
  rcases div_twin e with r | r
  ·exact hn.1 (List.mem_map.2 ⟨x,hx,by rw[r]⟩)
  refine ha (Or.inr (List.mem_map.2 ⟨x,hx,?_⟩))
  rw[r,←h.1,←tail_twin,twin_twin]
theorem WayS.way {g:Gr} {p b:Pt} {on:Int→Bool} {E w:List Int} {a z:Int} (h:WayS g on ⟨b.v,E⟩ w a z) (hon:∀ v,on v=true↔v∈p.v) (ha:on a=true) (hE:∀ e∈E,e ∉ p.e):WayIn g p w a z:=by
 have hne:∃ c l,w=c :: l:=by
  cases w with
  | nil=>exact absurd h.link h.ne
  | cons c l=>exact⟨c,l,rfl⟩
 obtain⟨c,l,rfl⟩:=hne
 have hca:=h.link.1
 have hht:=heads_tails h.link
 have hn:=h.heads
 have hna:=h.na
 rw[hht] at hn hna
 refine⟨h.link,h.ne,(hon a).1 ha,(hon z).1 h.oz,fun d hd r=>?_,?_,link_edges h.link h.heads h.na,fun d hd=>hE _ (mem_darts.1 (h.sub d hd))⟩
 ·have:=h.inn d hd
  rw[(hon _).2 r] at this
  cases this
 rw[List.map_cons,List.nodup_cons,hca]
 exact⟨fun r=>hna (List.mem_append_left _ r),(List.nodup_append.1 hn).1⟩
theorem getD_split {α:Type} {l:List α} {i:Nat} (hi:i<l.length) (d:α):l=l.take i++l.getD i d :: l.drop (i+1)∧l.eraseIdx i=l.take i++l.drop (i+1):=by
 refine⟨?_,List.eraseIdx_eq_take_drop_succ _ _⟩
 have e:l.getD i d=l[i]:=by simp[List.getD,hi]
 rw[e,←List.drop_eq_getElem_cons hi,List.take_append_drop]
theorem cut_old {g:Gr} {p:Pt} {w old A B U V:List Int} {a z x y:Int} (hw:WayIn g p w a z) (hold:old=U++V) (hcut:V++U=x :: A++y :: B) (hx:g.tail x=a) (hy:g.tail y=z) {v:Int} (hv:v∈p.v) :
  (hasV g (x :: A++twins w) v=true→hasV g old v=true)∧(hasV g (w++y :: B) v=true→hasV g old v=true):=by
 have hmem:∀ d,d∈old↔d∈x :: A++y :: B:=fun d=>by rw[←hcut,hold];simp[or_comm]
 have hz:hasV g old z=true:=hasV_iff.2 ⟨y,(hmem y).2 (by simp),hy⟩
 have ha:hasV g old (g.tail x)=true:=hasV_iff.2 ⟨x,(hmem x).2 (by simp),rfl⟩
 obtain⟨c,l,rfl⟩:=hw.cons
 have hht:=heads_tails hw.link
 refine⟨fun h=>?_,fun h=>?_⟩
 ·obtain⟨d,hd,e⟩:=hasV_iff.1 h
  rcases List.mem_append.1 hd with r | r
  ·exact hasV_iff.2 ⟨d,(hmem d).2 (List.mem_append_left _ r),e⟩
  rw[twins_mem] at r
  have h1:g.head (twin d)∈(c :: l).map g.head:=List.mem_map.2 ⟨_,r,rfl⟩
  have h2:g.head (twin d)=v:=by rw[←tail_twin,twin_twin];exact e
  rw[hht,h2] at h1
  rcases List.mem_append.1 h1 with k | k
  ·obtain⟨d',hd',e'⟩:=List.mem_map.1 k
   exact absurd hv (by rw[←e'];exact hw.vnew d' hd')
  rw[List.mem_singleton.1 k];exact hz
 obtain⟨d,hd,e⟩:=hasV_iff.1 h
 rcases List.mem_append.1 hd with r | r
 ·rcases List.mem_cons.1 r with r | r
  .-- the way's first dart leaves a
   have h1:g.tail d=a:=by rw[r];exact hw.link.1
   have:v=a:=e.symm.trans h1
   rw[this,←hx]
   exact ha
  exact absurd hv (by rw[←e];exact hw.vnew d r)
 exact hasV_iff.2 ⟨d,(hmem d).2 (List.mem_append_right _ r),e⟩
theorem face_set {F:List (List Int)} {f:Int} (h0:0≤f) (hf:f.toNat<F.length) (m1 m2:List Int) :
  (∀ i,0≤i→i.toNat<F.length→i≠f→faceAt (F.set f.toNat m1++[m2]) i=faceAt F i)∧faceAt (F.set f.toNat m1++[m2]) f=m1∧faceAt (F.set f.toNat m1++[m2]) (F.length:Int)=m2∧(F.set f.toNat m1++[m2]).length=F.length+1:=by
 refine⟨fun i hi0 hi hne=>?_,?_,?_,by simp⟩
 ·unfold faceAt List.getD
  rw[List.getElem?_append_left (by simpa using hi),List.getElem?_set_ne (by omega)]
 ·unfold faceAt List.getD
  rw[List.getElem?_append_left (by simpa using hf),List.getElem?_set_self hf]
  rfl
 unfold faceAt List.getD
 rw[List.getElem?_append_right (by simp)]
 simp
theorem refit_edges (g:Gr) (F:List (List Int)) (f k:Int) (r:Scrap):(refit g F f k r).edges=r.edges∧(refit g F f k r).ends=r.ends:=by
 unfold refit
 split <;> exact⟨rfl,rfl⟩
theorem refits_edges (g:Gr) (F:List (List Int)) (f k:Int) (L:List Scrap):(L.map (refit g F f k)).flatMap (·.edges)=L.flatMap (·.edges):=by
 rw[List.flatMap_map]
 congr 1
 funext r
 exact (refit_edges g F f k r).1
theorem scraps_edges {g:Gr} {on:Int→Bool} {F:List (List Int)} {E ks:List Int} (hE:E.Nodup):((scraps g on F E ks).flatMap (·.edges)).Perm E:=by
 have h:=scJoin_ok g on E
 have h1:=groups_perm h.ok
 rw[h.all,new_all_nodup hE] at h1
 unfold scraps
 rw[List.flatMap_map]
 have:((scJoin g on E).1.groups.flatMap fun l=>l)=(scJoin g on E).1.groups.flatten:=by rw[List.flatMap_id']
 exact (List.Perm.of_eq this).trans h1
theorem new_scrap {g:Gr} {b p':Pt} {on on':Int→Bool} {c:Scrap} {w:List Int} {F F':List (List Int)} {f k:Int} (hS:SolidP g b) (hc:ScrOk g b on F c) (hpk:PartOk g p') (hpe:p'.e≠[]) (hon:∀ v,on' v=true↔v∈p'.v) (hmono:∀ v,on' v=false→on v=false) (hsub:∀ v∈p'.v,v∈b.v) (hps:∀ e∈p'.e,e∈b.e)
  (hw:∀ d∈w,d / 2∈c.edges∧on' (g.tail d)=true∧on' (g.head d)=true) (hwn:w≠[]) (hcn:c.edges.Nodup) (hEp:∀ e∈without c.edges w,e ∉ p'.e) (hfk:0≤f∧f<k) (hkF:k.toNat+1=F'.length)
  (hF:∀ i,0≤i→i<k→i≠f→∀ u,hasV g (faceAt F' i) u=true→on u=true) {c':Scrap} (hm:c'∈scraps g on' F' (without c.edges w) [f,k]):ScrOk g b on' F' c':=by
 obtain⟨l,hl,rfl⟩:=List.mem_map.1 hm
 have hsc:=scJoin_ok g on' (without c.edges w)
 have hEn:(without c.edges w).Nodup:=hcn.filter _
 have hall:(scJoin g on' (without c.edges w)).1.all=without c.edges w:=by rw[hsc.all,new_all_nodup hEn]
 obtain⟨g1,g2,g3⟩:=groups_mem hsc.ok hl
 rw[hall] at g2
 have lE:∀ e∈l,e∈c.edges:=fun e he=>(mem_without.1 (g2 e he)).1
 have hshut:∀ e∈l,∀ f∈b.e,Lk g on' e f→f∈l:=fun e he f' hf' hlk=>by
  obtain⟨v,hv,h1,h2⟩:=hlk
  have hfc:=hc.shut e (lE e he) f' hf' ⟨v,hmono v hv,h1,h2⟩
  have hfE:f'∈without c.edges w:=mem_without.2 ⟨hfc,fun d hd r=>by
   rw[←r] at h2
   obtain⟨-,k1,k2⟩:=hw d hd
   rcases end_head h2 with q | q
   ·rw[q,k1] at hv;cases hv
   rw[q,k2] at hv;cases hv⟩
  exact (g3 e he f').2 (scRel_link (g2 e he) hfE ⟨v,hv,h1,h2⟩)
 have hinner:∃ u∈endsOf g on' l,on u=false:=by
  refine Classical.byContradiction fun hno=>?_
  obtain⟨e,he⟩:=List.exists_mem_of_ne_nil _ g1
  obtain⟨d,hd⟩:=List.exists_mem_of_ne_nil _ hwn
  have hq:=hc.hang (fun x y=>x∈l↔y∈l) ⟨fun _=>Iff.rfl,fun q=>q.symm,fun q r=>q.trans r⟩ (fun x hx y hy hlk=>by
   have half:∀ x∈c.edges,∀ y∈c.edges,Lk g on x y→x∈l→y∈l:=fun x _ y hy ⟨v,hv,h1,h2⟩ hxl=>by
    by_cases hv':on' v=true
    ·exact absurd ⟨v,mem_endsOf.2 ⟨hv',x,hxl,h1⟩,hv⟩ hno
    exact hshut x hxl y (hc.sub y hy) ⟨v,Bool.eq_false_iff.2 hv',h1,h2⟩
   obtain⟨v,hv,h1,h2⟩:=hlk
   exact⟨half x hx y hy ⟨v,hv,h1,h2⟩,half y hy x hx ⟨v,hv,h2,h1⟩⟩) e (lE e he) (d / 2) (hw d hd).1
  exact (mem_without.1 (g2 _ (hq.1 he))).2 d hd rfl
 refine⟨fun Q hQ hh e he f' hf'=>?_,hshut,fun e he=>hc.sub e (lE e he),rfl,scrap_two hS hpk hpe hon hsub hps g1 (fun e he=>hc.sub e (lE e he)) (fun e he=>hEp e (g2 e he)) hshut,?_,fun i=>?_⟩
 ·have:=scRel_least (g:=g) (on:=on') (E:=without c.edges w) (Q:=fun x y=>(x∈l∧y∈l∧Q x y)∨(x ∉ l∧y ∉ l)) ⟨fun x=>by
    by_cases q:x∈l
    ·exact Or.inl ⟨q,q,hQ.refl x⟩
    ·exact Or.inr ⟨q,q⟩,fun {x y} q=>by
    rcases q with ⟨q1,q2,q3⟩ | ⟨q1,q2⟩
    ·exact Or.inl ⟨q2,q1,hQ.symm q3⟩
    ·exact Or.inr ⟨q2,q1⟩,fun {x y z} q r=>by
    rcases q with ⟨q1,q2,q3⟩ | ⟨q1,q2⟩ <;> rcases r with ⟨r1,r2,r3⟩ | ⟨r1,r2⟩
    ·exact Or.inl ⟨q1,r2,hQ.trans q3 r3⟩
    ·exact absurd q2 r1
    ·exact absurd r1 q2
    ·exact Or.inr ⟨q1,r2⟩⟩ (fun x hx y hy hlk=>by
    by_cases q:x∈l
    ·have hy2:=(g3 x q y).2 (scRel_link hx hy hlk)
     exact Or.inl ⟨q,hy2,hh x q y hy2 hlk⟩
    refine Or.inr ⟨q,fun r=>q ((g3 y r x).2 (scRel_link hy hx ?_))⟩
    obtain⟨v,hv,h1,h2⟩:=hlk
    exact⟨v,hv,h2,h1⟩) ((g3 e he f').1 hf')
  rcases this with r | r
  ·exact r.2.2
  exact absurd he r.1
 ·show (fitF g F' (endsOf g on' l) [f,k]).Nodup
  unfold fitF
  exact (show [f,k].Nodup by simp;omega).filter _
 show i∈fitF g F' (endsOf g on' l) [f,k]↔_
 rw[mem_fitF]
 constructor
 ·rintro ⟨h1,h2⟩
  rcases List.mem_cons.1 h1 with r | r
  ·exact⟨by omega,by omega,h2⟩
  have:=List.mem_singleton.1 r
  exact⟨by omega,by omega,h2⟩
 rintro ⟨h1,h2,h3⟩
 refine⟨?_,h3⟩
 refine Classical.byContradiction fun hno=>?_
 simp at hno
 obtain⟨u,hu,hou⟩:=hinner
 have:=hF i h1 (by omega) hno.1 u (h3 u hu)
 rw[hou] at this
 cases this
theorem old_scrap {g:Gr} {b:Pt} {on on':Int→Bool} {r:Scrap} {F F':List (List Int)} {f:Int} (hr:ScrOk g b on F r) (hmono:∀ v,on' v=false→on v=false) (hD:∀ e∈r.edges,∀ v,EndOf g e v→on v=false→on' v=false) (h0:0≤f) (hf:f.toNat<F.length)
  (hF:∀ i,0≤i→i.toNat<F.length→i≠f→faceAt F' i=faceAt F i) (hl:F'.length=F.length+1) (hfc:∀ v,on v=true→(hasV g (faceAt F' f) v=true→hasV g (faceAt F f) v=true)∧(hasV g (faceAt F' (F.length:Int)) v=true→hasV g (faceAt F f) v=true)):ScrOk g b on' F' (refit g F' f (F.length:Int) r):=by
 obtain⟨e1,e2⟩:=refit_edges g F' f (F.length:Int) r
 have heq:endsOf g on' r.edges=endsOf g on r.edges:=by
  unfold endsOf
  have:∀ e∈r.edges,([(g.at e).1,(g.at e).2].filter on')=[(g.at e).1,(g.at e).2].filter on:=fun e he=>List.filter_congr fun v hv=>by
   have hE:EndOf g e v:=by
    rcases List.mem_cons.1 hv with q | q
    ·exact Or.inl q.symm
    exact Or.inr (List.mem_singleton.1 q).symm
   cases h1:on' v with
   | true =>
    cases h2:on v with
    | true=>rfl
    | false=>rw[hD e he v hE h2] at h1;cases h1
   | false=>exact (hmono v h1).symm
  rw[List.flatMap_def,List.flatMap_def,List.map_congr_left this]
 have hon:∀ v∈r.ends,on v=true:=fun v hv=>by rw[hr.ends] at hv;exact (mem_endsOf.1 hv).1
 refine⟨?_,?_,?_,?_,by rw[e2];exact hr.two,?_,fun i=>?_⟩
 ·rw[e1]
  exact fun Q hQ hh=>hr.hang Q hQ fun e he f' hf' ⟨v,hv,h1,h2⟩=>hh e he f' hf' ⟨v,hD e he v h1 hv,h1,h2⟩
 ·rw[e1]
  exact fun e he f' hf' ⟨v,hv,h1,h2⟩=>hr.shut e he f' hf' ⟨v,hmono v hv,h1,h2⟩
 ·rw[e1];exact hr.sub
 ·rw[e1,e2,heq];exact hr.ends
 ·unfold refit
  by_cases q:f∈r.faces
  ·rw[if_pos q]
   show (r.faces.erase f++fitF g F' r.ends [f,(F.length:Int)]).Nodup
   rw[List.nodup_append]
   refine⟨hr.fnd.erase f,(show [f,(F.length:Int)].Nodup by simp;omega).filter _,fun x hx y hy e=>?_⟩
   subst e
   have h1:=(mem_fitF.1 hy).1
   rcases List.mem_cons.1 h1 with k | k
   ·rw[k] at hx
    exact (hr.fnd.not_mem_erase) hx
   have:=((hr.fcs x).1 (List.mem_of_mem_erase hx)).2.1
   have:=List.mem_singleton.1 k
   omega
  rw[if_neg q];exact hr.fnd
 have hi:i∈(refit g F' f (F.length:Int) r).faces↔if f∈r.faces then (i≠f∧i∈r.faces)∨((i=f∨i=(F.length:Int))∧∀ v∈r.ends,hasV g (faceAt F' i) v=true) else i∈r.faces:=by
  unfold refit
  by_cases q:f∈r.faces
  ·rw[if_pos q,if_pos q]
   show i∈r.faces.erase f++fitF g F' r.ends [f,(F.length:Int)]↔_
   rw[List.mem_append,hr.fnd.mem_erase_iff,mem_fitF]
   simp only[List.mem_cons,List.not_mem_nil,or_false]
  rw[if_neg q,if_neg q]
 rw[hi,e2]
 by_cases q:f∈r.faces
 ·rw[if_pos q]
  constructor
  ·rintro (⟨k1,k2⟩ | ⟨k1,k2⟩)
   ·obtain⟨j1,j2,j3⟩:=(hr.fcs i).1 k2
    exact⟨j1,by omega,fun v hv=>by rw[hF i j1 j2 k1];exact j3 v hv⟩
   exact⟨by omega,by omega,k2⟩
  rintro ⟨k1,k2,k3⟩
  by_cases k4:i=f
  ·exact Or.inr ⟨Or.inl k4,k3⟩
  by_cases k5:i=(F.length:Int)
  ·exact Or.inr ⟨Or.inr k5,k3⟩
  exact Or.inl ⟨k4,(hr.fcs i).2 ⟨k1,by omega,fun v hv=>by rw[←hF i k1 (by omega) k4];exact k3 v hv⟩⟩
 rw[if_neg q]
 constructor
 ·intro k
  obtain⟨j1,j2,j3⟩:=(hr.fcs i).1 k
  have k1:i≠f:=fun e=>q (e ▸ k)
  exact⟨j1,by omega,fun v hv=>by rw[hF i j1 j2 k1];exact j3 v hv⟩
 rintro ⟨k1,k2,k3⟩
 have hall:(∀ v∈r.ends,hasV g (faceAt F f) v=true)→f∈r.faces:=fun k=>(hr.fcs f).2 ⟨h0,hf,k⟩
 by_cases k4:i=f
 ·exact absurd (hall fun v hv=>(hfc v (hon v hv)).1 (by rw[←k4];exact k3 v hv)) q
 by_cases k5:i=(F.length:Int)
 ·exact absurd (hall fun v hv=>(hfc v (hon v hv)).2 (by rw[←k5];exact k3 v hv)) q
 exact (hr.fcs i).2 ⟨k1,by omega,fun v hv=>by rw[←hF i k1 (by omega) k4];exact k3 v hv⟩
def Sk.left (s:Sk):Nat:=(s.rest.flatMap (·.edges)).length
theorem put_ok {g:Gr} {b:Pt} {s:Sk} {p:Pt} {turn:List (List Int)} {i:Nat} (hbe:b.err g=0) (hS:SolidP g b) (h:SkOk g b s p turn) (hi:i<s.rest.length) (hf:(s.rest.getD i ⟨[],[],[]⟩).faces≠[]) :
  ∃ p' turn',SkOk g b (s.put g b.v i) p' turn'∧(s.put g b.v i).left<s.left:=by
 have hbk:=Pt.ok_of_err hbe
 have hpk:=Pt.ok_of_err h.faces.pe
 obtain⟨hsp,hse⟩:=getD_split hi (⟨[],[],[]⟩:Scrap)
 unfold Sk.put
 dsimp only
 generalize hc0:s.rest.getD i ⟨[],[],[]⟩=c at *
 generalize hR1:s.rest.take i=R1 at *
 generalize hR2:s.rest.drop (i+1)=R2 at *
 have hcm:c∈s.rest:=by rw[hsp];simp
 have hc:=h.scr c hcm
 have hpart:=h.part
 have hfl:s.rest.flatMap (·.edges)=R1.flatMap (·.edges)++(c.edges++R2.flatMap (·.edges)):=by
  conv=>lhs;rw[hsp]
  rw[List.flatMap_append,List.flatMap_cons]
 rw[hfl] at hpart
 have hnd:=(hpart.nodup_iff).2 hbk.en
 have hcount:∀ x,List.count x p.e+(List.count x (R1.flatMap (·.edges))+(List.count x c.edges+List.count x (R2.flatMap (·.edges))))≤1:=fun x=>by
  have:=List.nodup_iff_count.1 hnd x
  simpa[List.count_append] using this
 have hcn:c.edges.Nodup:=List.nodup_iff_count.2 fun x=>by have:=hcount x;omega
 have hcp:∀ e∈c.edges,e ∉ p.e:=fun e h1 h2=>by
  have:=hcount e
  have:=List.count_pos_iff.2 h1
  have:=List.count_pos_iff.2 h2
  omega
 have hcR:∀ e∈c.edges,∀ r,r∈R1∨r∈R2→e ∉ r.edges:=fun e h1 r hr h2=>by
  have:=hcount e
  have:=List.count_pos_iff.2 h1
  rcases hr with hr | hr
  ·have:=List.count_pos_iff.2 (show e∈R1.flatMap (·.edges) from List.mem_flatMap.2 ⟨r,hr,h2⟩)
   omega
  have:=List.count_pos_iff.2 (show e∈R2.flatMap (·.edges) from List.mem_flatMap.2 ⟨r,hr,h2⟩)
  omega
 have hck:PartOk g ⟨b.v,c.edges⟩:=⟨hbk.vn,hcn,hbk.vr,fun e he=>hbk.er e (hc.sub e he),fun e he=>hbk.ends e (hc.sub e he)⟩
 -- the ends
 obtain⟨a,z0,m,hcends⟩:∃ a z0 m,c.ends=a :: z0 :: m:=by
  have:=hc.two
  match hL:c.ends with
  | []=>rw[hL] at this;simp at this
  | [_]=>rw[hL] at this;simp at this
  | a :: z0 :: m=>exact⟨a,z0,m,rfl⟩
 have hen:(a :: z0 :: m).Nodup:=by rw[←hcends,hc.ends];exact endsOf_nodup g s.on c.edges
 have hae:a∈c.ends:=by rw[hcends];simp
 have hze:z0∈c.ends:=by rw[hcends];simp
 have ha1:=hae
 have hz1:=hze
 rw[hc.ends] at ha1 hz1
 obtain⟨hoa,e0,he0,hea⟩:=mem_endsOf.1 ha1
 obtain⟨hoz,e1,he1,hez⟩:=mem_endsOf.1 hz1
 have hza:z0≠a:=fun q=>by rw[q] at hen;simp at hen
 have hd0:∀ d∈(⟨b.v,c.edges⟩:Pt).darts,0≤d:=fun d hd=>by have:=hbk.er _ (hc.sub _ (mem_darts.1 hd));omega
 obtain⟨z,hws⟩:=wayOf_ok (g:=g) (on:=s.on) hck hd0 hc.hang he0 hea he1 hez hoz hza
 have ha0:c.ends.getD 0 0=a:=by rw[hcends];rfl
 rw[ha0]
 generalize hw0:wayOf g s.on ⟨b.v,c.edges⟩ a=w at *
 have hwi:=hws.way h.on hoa hcp
 obtain⟨hwne⟩:w≠[]∧True:=⟨fun q=>hws.ne (by have:=hws.link;rw[q] at this;exact this),trivial⟩
 have hzl:g.head (w.getLastD 0)=z:=by
  rcases List.eq_nil_or_concat w with r | ⟨m,e,r⟩
  ·exact absurd r hwne
  rw[List.concat_eq_append] at r
  have:=hws.link
  rw[r] at this ⊢
  rw[List.getLastD_eq_getLast?]
  simpa using link_last this
 rw[hzl]
 have hwc:∀ d∈w,d / 2∈c.edges:=fun d hd=>mem_darts.1 (hws.sub d hd)
 -- z is an end of the scrap
 have hzin:z∈c.ends:=by
  rcases List.eq_nil_or_concat w with r | ⟨m,e,r⟩
  ·exact absurd r hwne
  rw[List.concat_eq_append] at r
  have h1:=hws.link
  rw[r] at h1
  rw[hc.ends]
  have h2:=dart_end g e
  rw[link_last h1] at h2
  exact mem_endsOf.2 ⟨hws.oz,e / 2,hwc e (by rw[r];simp),h2.2⟩
 -- the face
 obtain⟨f,fl,hcf⟩:∃ f fl,c.faces=f :: fl:=by
  cases hL:c.faces with
  | nil=>exact absurd hL hf
  | cons f fl=>exact⟨f,fl,rfl⟩
 have hff:c.faces.getD 0 0=f:=by rw[hcf];rfl
 rw[hff]
 obtain⟨hf0,hfl2,hfh⟩:=(hc.fcs f).1 (by rw[hcf];simp)
 obtain⟨hFs,-⟩:=getD_split hfl2 ([]:List Int)
 have hold:s.faces.getD f.toNat []=faceAt s.faces f:=rfl
 rw[hold] at hFs
 generalize hold2:faceAt s.faces f=old at *
 generalize hF1:s.faces.take f.toNat=F1 at *
 generalize hF2:s.faces.drop (f.toNat+1)=F2 at *
 have hF1l:F1.length=f.toNat:=by rw[←hF1,List.length_take];omega
 obtain⟨x,y,A,B,U,V,c1,c2,c3,c4,c5⟩:=cutFace_split (g:=g) (old:=old) (w:=w) (hasV_iff.1 (hfh a hae)) (hasV_iff.1 (hfh z hzin)) hws.ne
 rw[c5]
 obtain⟨f1,f2,f3,f4⟩:=face_set (F:=s.faces) hf0 hfl2 (x :: A++twins w) (w++y :: B)
 generalize hF':s.faces.set f.toNat (x :: A++twins w)++[w++y :: B]=F' at *
 have hF'p:F'.Perm ((x :: A++twins w) :: (w++y :: B) :: (F1++F2)):=by
  have e:s.faces.set f.toNat (x :: A++twins w)=F1++(x :: A++twins w) :: F2:=by
   conv=>lhs;rw[hFs]
   rw[←hF1l,List.set_append_right _ _ (Nat.le_refl _)]
   simp
  rw[←hF',e]
  refine (List.perm_append_comm (l₁:=F1++(x :: A++twins w) :: F2) (l₂:=[w++y :: B])).trans ?_
  refine (List.Perm.cons _ List.perm_middle).trans ?_
  exact List.Perm.swap _ _ _
 -- the part
 have hon':∀ v,onTo g s.on w v=true↔v∈p.v∨v∈w.map g.tail:=fun v=>by rw[onTo_iff,h.on]
 have hwv:∀ v∈w.map g.tail,v∈b.v:=fun v hv=>by
  obtain⟨d,hd,rfl⟩:=List.mem_map.1 hv
  exact (hck.tail_mem (hws.sub d hd)).1
 have hsubE:∀ e∈p.e,e∈b.e:=fun e he=>hpart.mem_iff.1 (List.mem_append_left _ he)
 obtain⟨q,hqd⟩:∃ q:Pt,q=⟨b.v.filter (onTo g s.on w),b.e.filter fun e=>decide (e∈p.e) || decide (e∈w.map (· / 2))⟩:=⟨_,rfl⟩
 have hqv:∀ v,v∈q.v↔v∈p.v∨v∈w.map g.tail:=fun v=>by
  rw[hqd,List.mem_filter,hon']
  exact⟨fun k=>k.2,fun k=>⟨k.elim (h.sub v) (hwv v),k⟩⟩
 have hqe:∀ e,e∈q.e↔e∈p.e∨e∈w.map (· / 2):=fun e=>by
  rw[hqd,List.mem_filter,Bool.or_eq_true,decide_eq_true_iff,decide_eq_true_iff]
  refine⟨fun k=>k.2,fun k=>⟨k.elim (hsubE e) fun k=>?_,k⟩⟩
  obtain⟨d,hd,rfl⟩:=List.mem_map.1 k
  exact hc.sub _ (hwc d hd)
 obtain⟨cc,ll,hcl⟩:=hwi.cons
 have hheads:∀ d∈w,g.head d∈w.map g.tail∨g.head d=z:=fun d hd=>by
  have h1:=hws.link
  rw[hcl] at h1
  have h2:=heads_tails h1
  have h3:g.head d∈(cc :: ll).map g.head:=by rw[←hcl];exact List.mem_map.2 ⟨d,hd,rfl⟩
  rw[h2] at h3
  rcases List.mem_append.1 h3 with k | k
  ·refine Or.inl ?_
   rw[hcl,List.map_cons]
   exact List.mem_cons_of_mem _ k
  exact Or.inr (List.mem_singleton.1 k)
 have hqv2:∀ d∈w,g.tail d∈q.v∧g.head d∈q.v:=fun d hd=>⟨(hqv _).2 (Or.inr (List.mem_map.2 ⟨d,hd,rfl⟩)),(hqv _).2 ((hheads d hd).elim Or.inr fun k=>Or.inl (by rw[k];exact hwi.zv))⟩
 have hqerr:q.err g=0:=by
  obtain⟨g1,g2,g3,-⟩:=Pt.err_ok hbe
  refine Pt.err_of g1 (by rw[hqd];exact rises_filter g2 _) (by rw[hqd];exact rises_filter g3 _) fun e he=>?_
  have hb:=hbk.er e (by
   have:=he
   rw[hqd] at this
   exact (List.mem_filter.1 this).1)
  show (g.at e).1∈q.v∧(g.at e).2∈q.v
  rcases (hqe e).1 he with k | k
  ·exact⟨(hqv _).2 (Or.inl (hpk.ends e k).1),(hqv _).2 (Or.inl (hpk.ends e k).2)⟩
  obtain⟨d,hd,rfl⟩:=List.mem_map.1 k
  obtain⟨k1,k2⟩:=hqv2 d hd
  rcases dart_ats g d with ⟨j1,j2⟩ | ⟨j1,j2⟩
  ·rw[←j1,←j2];exact⟨k1,k2⟩
  rw[←j1,←j2];exact⟨k2,k1⟩
 have hplus:Plus g p w q:=⟨hqerr,hqv,hqe⟩
 have hqk:=Pt.ok_of_err hqerr
 -- the faces
 have hfp:Faces g p turn ((x :: A++y :: B) :: (F1++F2)):=by
  rw[←c2]
  refine Faces.roll ?_
  rw[←c1]
  refine h.faces.perm ?_
  rw[hFs]
  exact List.perm_middle
 have hxd:x∈p.darts∧y∈p.darts:=by
  have k:∀ d∈x :: A++y :: B,d∈p.darts:=fun d hd=>hfp.all.mem_iff.1 (by rw[List.flatten_cons];exact List.mem_append_left _ hd)
  exact⟨k x (by simp),k y (by simp)⟩
 obtain⟨t1,t2⟩:=plusTurn_ok hfp hwi hplus hxd.1 c3 hxd.2 c4
 have hfq:=hfp.put hwi hplus t1 t2 (List.Perm.refl _) hF'p c3 c4
 have hmono:∀ v,onTo g s.on w v=false→s.on v=false:=fun v hv=>Bool.eq_false_iff.2 fun r=>by
  have:=(hon' v).2 (Or.inl ((h.on v).1 r))
  rw[hv] at this;cases this
 have hold':∀ v,s.on v=true→(hasV g (faceAt F' f) v=true→hasV g (faceAt s.faces f) v=true)∧(hasV g (faceAt F' (s.faces.length:Int)) v=true→hasV g (faceAt s.faces f) v=true):=fun v hv=>by
  rw[f2,f3,hold2]
  exact cut_old hwi c1 c2 c3 c4 ((h.on v).1 hv)
 have hwo:without c.edges w=c.edges.filter fun e=>decide (e ∉ w.map (· / 2)):=by
  refine List.filter_congr fun e _=>?_
  have h1:=mem_without (E:=[e]) (l:=w) (e:=e)
  unfold without at h1
  rw[List.mem_filter] at h1
  rw[Bool.eq_iff_iff,decide_eq_true_iff,List.mem_map]
  constructor
  ·rintro k ⟨d,hd,r⟩
   exact (h1.1 ⟨by simp,k⟩).2 d hd r
  intro k
  exact (h1.2 ⟨by simp,fun d hd r=>k ⟨d,hd,r⟩⟩).2
 have hsplit:∀ x,List.count x c.edges=List.count x (w.map (· / 2))+List.count x (without c.edges w):=fun x=>by
  have hp2:(w.map (· / 2)++without c.edges w).Perm c.edges:=by
   refine (List.perm_ext_iff_of_nodup ?_ hcn).2 fun u=>?_
   ·rw[List.nodup_append]
    refine⟨hwi.en,hcn.filter _,fun u hu v hv e=>?_⟩
    subst e
    obtain⟨d,hd,rfl⟩:=List.mem_map.1 hu
    exact (mem_without.1 hv).2 d hd rfl
   rw[List.mem_append,mem_without]
   constructor
   ·rintro (k | k)
    ·obtain⟨d,hd,rfl⟩:=List.mem_map.1 k;exact hwc d hd
    exact k.1
   intro k
   by_cases j:u∈w.map (· / 2)
   ·exact Or.inl j
   exact Or.inr ⟨k,fun d hd r=>j (List.mem_map.2 ⟨d,hd,r⟩)⟩
  rw[←hp2.count_eq,List.count_append]
 have hqec:∀ x,List.count x q.e=List.count x p.e+List.count x (w.map (· / 2)):=fun x=>by
  have hp2:q.e.Perm (p.e++w.map (· / 2)):=by
   refine (List.perm_ext_iff_of_nodup hqk.en ?_).2 fun u=>by rw[hqe,List.mem_append]
   rw[List.nodup_append]
   refine⟨hpk.en,hwi.en,fun u hu v hv e=>?_⟩
   subst e
   obtain⟨d,hd,rfl⟩:=List.mem_map.1 hv
   exact hcp _ (hwc d hd) hu
  rw[hp2.count_eq,List.count_append]
 have hsE:=scraps_edges (g:=g) (on:=onTo g s.on w) (F:=F') (ks:=[f,(s.faces.length:Int)]) (E:=without c.edges w) (hcn.filter _)
 have hrest:∀ x,List.count x (((s.rest.eraseIdx i).map (refit g F' f s.faces.length)++scraps g (onTo g s.on w) F' (without c.edges w) [f,(s.faces.length:Int)]).flatMap (·.edges))=List.count x (R1.flatMap (·.edges))+List.count x (R2.flatMap (·.edges))+List.count x (without c.edges w):=fun x=>by
  rw[List.flatMap_append,refits_edges,hse,List.flatMap_append,List.count_append,List.count_append,hsE.count_eq]
 refine⟨q,plusTurn g p q turn w a z x y,⟨hfq,fun v=>(hon' v).trans (hqv v).symm,fun v hv=>?_,?_,?_,fun r hr=>?_⟩,?_⟩
 ·rw[hqd] at hv;exact (List.mem_filter.1 hv).1
 ·obtain⟨e,he⟩:=List.exists_mem_of_ne_nil _ h.drawn
  exact List.ne_nil_of_mem ((hqe e).2 (Or.inl he))
 ·rw[List.perm_iff_count]
  intro x
  rw[List.count_append,hrest,hqec,←hpart.count_eq]
  simp only[List.count_append]
  have:=hsplit x
  omega
 ·rcases List.mem_append.1 hr with k | k
  ·obtain⟨r0,hr0,rfl⟩:=List.mem_map.1 k
   rw[hse] at hr0
   have hrR:r0∈R1∨r0∈R2:=List.mem_append.1 hr0
   have hrm:r0∈s.rest:=by
    rw[hsp]
    rcases hrR with j | j <;> simp[j]
   have hr1:=h.scr r0 hrm
   refine old_scrap hr1 hmono (fun e he v hev hv=>Bool.eq_false_iff.2 fun j=>?_) hf0 hfl2 f1 f4 hold'
   rcases (hon' v).1 j with j | j
   ·rw[(h.on v).2 j] at hv;cases hv
   obtain⟨d,hd,rfl⟩:=List.mem_map.1 j
   exact hcR _ (hwc d hd) r0 hrR (hr1.shut e he _ (hc.sub _ (hwc d hd)) ⟨_,hv,hev,(dart_end g d).1⟩)
  refine new_scrap hS hc hqk ?_ (fun v=>(hon' v).trans (hqv v).symm) hmono (fun v hv=>?_) (fun e he=>?_) (fun d hd=>⟨hwc d hd,(hon' _).2 ((hqv _).1 (hqv2 d hd).1),(hon' _).2 ((hqv _).1 (hqv2 d hd).2)⟩) hwne hcn (fun e he=>?_) ⟨hf0,by omega⟩ (by rw[f4];omega) (fun j j0 jk jf u hu=>?_) k
  ·obtain⟨e,he⟩:=List.exists_mem_of_ne_nil _ h.drawn
   exact List.ne_nil_of_mem ((hqe e).2 (Or.inl he))
  ·rw[hqd] at hv;exact (List.mem_filter.1 hv).1
  ·rw[hqd] at he;exact (List.mem_filter.1 he).1
  ·intro r
   obtain⟨k1,k2⟩:=mem_without.1 he
   rcases (hqe e).1 r with j | j
   ·exact hcp e k1 j
   obtain⟨d,hd,e'⟩:=List.mem_map.1 j
   exact k2 d hd e'
  rw[f1 j j0 (by omega) jf] at hu
  obtain⟨d,hd,e⟩:=hasV_iff.1 hu
  have hdp:d∈p.darts:=h.faces.all.mem_iff.1 (List.mem_flatten.2 ⟨_,by
   unfold faceAt
   rw[show s.faces.getD j.toNat []=s.faces[j.toNat]'(by omega) by simp[List.getD,show j.toNat<s.faces.length by omega]]
   exact List.getElem_mem _,hd⟩)
  rw[←e]
  exact (h.on _).2 (hpk.tail_mem hdp).1
 unfold Sk.left
 have hA:(((s.rest.eraseIdx i).map (refit g F' f s.faces.length)++scraps g (onTo g s.on w) F' (without c.edges w) [f,(s.faces.length:Int)]).flatMap (·.edges)).Perm (R1.flatMap (·.edges)++R2.flatMap (·.edges)++without c.edges w):=List.perm_iff_count.2 fun x=>by
  rw[hrest,List.count_append,List.count_append]
 have hB:c.edges.Perm (w.map (· / 2)++without c.edges w):=List.perm_iff_count.2 fun x=>by rw[hsplit,List.count_append]
 have h1:=hA.length_eq
 have h2:=hB.length_eq
 have h3:0<w.length:=List.length_pos_iff.2 hwne
 show _<_
 rw[hfl]
 simp only[List.length_append,List.length_map] at h1 h2 ⊢
 omega
end Go.Proofs.Ytbkjljffnkdcjaa.Plain
