/- Lists made of classes of walks: when they make a right plan, and what the regions then are. No program here. -/
import Derived.Test.YtkacjmoamgjfpaaGreatHxCut
import Derived.Test.YtkacjmoamgjfpaaGreatHxAround9
namespace Go.Proofs.YtkacjmoamgjfpaaGreat.Plain
def nCls (c:Face→Int) (W:List Face):Nat:=(W.filter fun f=>decide ((keysAt c W (c f)).getD 0 0=f.1)).length
theorem keysAt_mem {c:Face→Int} {W:List Face} {h k:Int}:k∈keysAt c W h↔∃ f∈W,c f=h∧f.1=k:=by
 unfold keysAt
 rw[List.mem_map]
 constructor
 ·rintro ⟨f,hf,e⟩
  obtain⟨h1,h2⟩:=List.mem_filter.1 hf
  exact⟨f,h1,of_decide_eq_true h2,e⟩
 rintro ⟨f,h1,h2,e⟩
 exact⟨f,List.mem_filter.2 ⟨h1,decide_eq_true h2⟩,e⟩
theorem keysAt_sub (c:Face→Int) (W:List Face) (h:Int):(keysAt c W h).Sublist (W.map (·.1)):=(List.filter_sublist).map _
theorem keysAt_rise {c:Face→Int} {W:List Face} (hk:(W.map (·.1)).Pairwise (·<·)) (h:Int):(keysAt c W h).Pairwise (·<·):=hk.sublist (keysAt_sub c W h)
theorem key_face {W:List Face} (hk:(W.map (·.1)).Pairwise (·<·)) {f x:Face} (hf:f∈W) (hx:x∈W) (e:f.1=x.1):f=x:=by
 induction W with
 | nil=>simp at hf
 | cons a W ih =>
  rw[List.map_cons,List.pairwise_cons] at hk
  rcases List.mem_cons.1 hf with e1 | h1 <;> rcases List.mem_cons.1 hx with e2 | h2
  ·rw[e1,e2]
  ·have:=hk.1 x.1 (List.mem_map.2 ⟨x,h2,rfl⟩);rw[e1] at e;omega
  ·have:=hk.1 f.1 (List.mem_map.2 ⟨f,h1,rfl⟩);rw[e2] at e;omega
  exact ih hk.2 h1 h2
theorem grps_two {c:Face→Int} {W:List Face}:∀ l∈grps c W,2≤l.length:=fun l hl=>by
 obtain⟨h,-,h2⟩:=mem_grps.1 hl;omega
theorem grps_rise {c:Face→Int} {W:List Face} (hk:(W.map (·.1)).Pairwise (·<·)):∀ l∈grps c W,l.Pairwise (·<·):=fun l hl=>by
 obtain⟨h,rfl,-⟩:=mem_grps.1 hl
 exact keysAt_rise hk h
theorem grps_keys {c:Face→Int} {W:List Face}:∀ x∈(grps c W).flatten,x∈W.map (·.1):=by
 intro x hx
 obtain⟨l,hl,hxl⟩:=List.mem_flatten.1 hx
 obtain⟨h,rfl,-⟩:=mem_grps.1 hl
 exact (keysAt_sub c W h).subset hxl
theorem grps_nodup {c:Face→Int} {W:List Face} (hk:(W.map (·.1)).Pairwise (·<·)):(grps c W).flatten.Nodup:=by
 rw[nodup_flat]
 refine⟨fun l hl=>(grps_rise hk l hl).imp fun h=>by omega,(grps_heads hk).imp_of_mem fun {a b} ha hb hlt x hx y hy e=>?_⟩
 subst e
 obtain⟨h1,rfl,-⟩:=mem_grps.1 ha
 obtain⟨h2,rfl,-⟩:=mem_grps.1 hb
 obtain⟨f,hf,e1,e2⟩:=keysAt_mem.1 hx
 obtain⟨f',hf',e3,e4⟩:=keysAt_mem.1 hy
 have:=key_face hk hf hf' (e2.trans e4.symm)
 subst this
 rw[e1] at e3
 subst e3
 omega
theorem sum_split {α:Type} (a:α→Nat):∀ {H:List α},(∀ x∈H,1≤a x)→(H.map a).sum+(H.filter fun x=>decide (1<a x)).length=((H.filter fun x=>decide (1<a x)).map a).sum+H.length
 | [],_=>rfl
 | x :: H,h=>by
  have ih:=sum_split a (H:=H) fun y hy=>h y (by simp[hy])
  have hx:=h x (by simp)
  by_cases q:1<a x
  ·rw[List.filter_cons_of_pos (by simpa using q)]
   simp only[List.map_cons,List.sum_cons,List.length_cons]
   omega
  rw[List.filter_cons_of_neg (by simpa using q)]
  simp only[List.map_cons,List.sum_cons,List.length_cons]
  omega
theorem head_of {c:Face→Int} {W:List Face} {f:Face} (hf:f∈W):∃ r∈W,c r=c f∧(keysAt c W (c r)).getD 0 0=r.1:=by
 have hm:f∈W.filter fun x=>decide (c x=c f):=List.mem_filter.2 ⟨hf,by simp⟩
 cases e:W.filter fun x=>decide (c x=c f) with
 | nil=>rw[e] at hm;simp at hm
 | cons r l =>
  have hr:r∈W.filter fun x=>decide (c x=c f):=by rw[e];simp
  obtain⟨h1,h2⟩:=List.mem_filter.1 hr
  have h2:=of_decide_eq_true h2
  refine⟨r,h1,h2,?_⟩
  rw[h2]
  unfold keysAt
  rw[e];rfl
theorem keys_len {c:Face→Int} {W:List Face} (h:Int):(keysAt c W h).length=(W.filter fun x=>decide (c x=h)).length:=by simp[keysAt]
theorem grps_count {c:Face→Int} {W:List Face} (hk:(W.map (·.1)).Pairwise (·<·)):(grps c W).flatten.length+nCls c W=W.length+(grps c W).length:=by
 obtain⟨H,hH⟩:∃ H,(W.filter fun f=>decide ((keysAt c W (c f)).getD 0 0=f.1))=H:=⟨_,rfl⟩
 have hmH:∀ r,r∈H↔r∈W∧(keysAt c W (c r)).getD 0 0=r.1:=fun r=>by rw[←hH,List.mem_filter,decide_eq_true_iff]
 have hWn:W.Nodup:=by
  rw[List.pairwise_map] at hk
  exact hk.imp fun h e=>by rw[e] at h;omega
 have hHn:H.Nodup:=by rw[←hH];exact hWn.filter _
 have hsum:(H.map fun r=>(W.filter fun x=>decide (c x=c r)).length).sum=W.length:=by
  refine sum_classes (fun x r=>decide (c x=c r)) hHn fun x hx=>⟨?_,fun r hr s hs h1 h2=>?_⟩
  ·obtain⟨r,hr,e,h⟩:=head_of (c:=c) hx
   exact⟨r,(hmH r).2 ⟨hr,h⟩,decide_eq_true e.symm⟩
  have e:c r=c s:=(of_decide_eq_true h1).symm.trans (of_decide_eq_true h2)
  obtain⟨r1,r2⟩:=(hmH r).1 hr
  obtain⟨s1,s2⟩:=(hmH s).1 hs
  rw[e] at r2
  exact key_face hk r1 s1 (r2.symm.trans s2)
 have hpos:∀ r∈H,1≤(keysAt c W (c r)).length:=fun r hr=>List.length_pos_of_mem (keysAt_mem.2 ⟨r,((hmH r).1 hr).1,rfl,rfl⟩)
 have hs:=sum_split (fun r=>(keysAt c W (c r)).length) hpos
 have e1:(H.map fun r=>(keysAt c W (c r)).length).sum=W.length:=by
  rw[←hsum]
  congr 1
  exact List.map_congr_left fun r _=>keys_len _
 have e2:grps c W=(H.filter fun r=>decide (1<(keysAt c W (c r)).length)).map fun r=>keysAt c W (c r):=by
  unfold grps
  rw[←hH,List.filter_filter]
  congr 1
  refine List.filter_congr fun f _=>?_
  by_cases h1:1<(keysAt c W (c f)).length <;> by_cases h2:(keysAt c W (c f)).getD 0 0=f.1 <;> simp[h1]
 have e3:(grps c W).flatten.length=((H.filter fun r=>decide (1<(keysAt c W (c r)).length)).map fun r=>(keysAt c W (c r)).length).sum:=by
  rw[e2,List.length_flatten,List.map_map];rfl
 have e4:(grps c W).length=(H.filter fun r=>decide (1<(keysAt c W (c r)).length)).length:=by rw[e2,List.length_map]
 have e5:nCls c W=H.length:=by unfold nCls;rw[hH]
 rw[e1] at hs
 omega
theorem nCls_cnt {c:Face→Int} {W:List Face} (hk:(W.map (·.1)).Pairwise (·<·)) {R:Int→Int→Prop} (hR:Eqv R) {K:List Int} {pl:Face→Int} (hpl:∀ f∈W,pl f∈K) (h:∀ f∈W,∀ x∈W,c f=c x↔R (pl f) (pl x)) (hall:∀ k∈K,∃ f∈W,R k (pl f)):cnt R K=nCls c W:=by
 have hT:Reps R K ((W.filter fun f=>decide ((keysAt c W (c f)).getD 0 0=f.1)).map pl):=by
  refine⟨fun t ht=>?_,fun k hkK=>?_,?_⟩
  ·obtain⟨f,hf,rfl⟩:=List.mem_map.1 ht
   exact hpl f (List.mem_filter.1 hf).1
  ·obtain⟨f,hf,hr⟩:=hall k hkK
   obtain⟨r,hr1,hr2,hr3⟩:=head_of (c:=c) hf
   exact⟨pl r,List.mem_map.2 ⟨r,List.mem_filter.2 ⟨hr1,decide_eq_true hr3⟩,rfl⟩,hR.trans hr ((h f hf r hr1).1 hr2.symm)⟩
  rw[List.pairwise_map]
  have hk2:=hk
  rw[List.pairwise_map] at hk2
  refine (hk2.filter _).imp_of_mem fun {a b} ha hb hlt hr=>?_
  obtain⟨a1,a2⟩:=List.mem_filter.1 ha
  obtain⟨b1,b2⟩:=List.mem_filter.1 hb
  have e:=(h a a1 b b1).2 hr
  have a2:=of_decide_eq_true a2
  have b2:=of_decide_eq_true b2
  rw[e] at a2
  omega
 rw[cnt_eq hR hT,List.length_map]
 rfl
theorem own_corner {g:Gr} {p:Pt} {turn:List (List Int)} (hpe:p.err g=0) (hto:TurnsOk g p turn) {f:Face} (hf:f∈walksOf g p turn):ownAt g p turn f.1=(pieceIx g p (f.corner g):Int):=by
 have hW:=walks_ok hpe hto
 unfold ownAt ownerOf
 have hfind:(walksOf g p turn).find? (fun x=>decide (x.1=f.1))=some f:=by
  cases e:(walksOf g p turn).find? (fun x=>decide (x.1=f.1)) with
  | none=>exact absurd (List.find?_eq_none.1 e f hf) (by simp)
  | some x =>
   have h1:=List.mem_of_find?_eq_some e
   have h3:=List.find?_some e
   have h2:x.1=f.1:=by simpa using h3
   rw[key_face (walks_keys hpe hW) h1 hf h2]
 rw[hfind];rfl
theorem plan_grps {g:Gr} {p:Pt} {turn:List (List Int)} {c:Face→Int} (hpe:p.err g=0) (hto:TurnsOk g p turn) (hfl:Flat g p turn) (hcount:(walksOf g p turn).length+1=(roots g p).length+nCls c (walksOf g p turn))
  (tot:∀ J,Eqv J→(∀ f∈walksOf g p turn,∀ x∈walksOf g p turn,c f=c x→J (ownAt g p turn f.1) (ownAt g p turn x.1))→∀ a∈upTo (roots g p).length,∀ b∈upTo (roots g p).length,J a b):planErr g p turn (grps c (walksOf g p turn))=0:=by
 have hk:=walks_keys hpe (walks_ok hpe hto)
 have hc:=grps_count (c:=c) hk
 refine plan_right hpe hto hfl grps_two (grps_heads hk) (grps_nodup hk) grps_keys (grps_rise hk) (by omega) fun J hJ hj=>?_
 refine tot J hJ fun f hf x hx e=>?_
 by_cases hfx:f=x
 ·rw[hfx];exact hJ.refl _
 have m1:f.1∈keysAt c (walksOf g p turn) (c f):=keysAt_mem.2 ⟨f,hf,rfl,rfl⟩
 have m2:x.1∈keysAt c (walksOf g p turn) (c f):=keysAt_mem.2 ⟨x,hx,e.symm,rfl⟩
 have hlen:1<(keysAt c (walksOf g p turn) (c f)).length:=by
  match hq:keysAt c (walksOf g p turn) (c f) with
  | []=>rw[hq] at m1;simp at m1
  | [a] =>
   rw[hq] at m1 m2
   simp at m1 m2
   exact absurd (key_face hk hf hx (m1.trans m2.symm)) hfx
  | _ :: _ :: _=>simp
 have hg:keysAt c (walksOf g p turn) (c f)∈grps c (walksOf g p turn):=mem_grps.2 ⟨_,rfl,hlen⟩
 exact hJ.trans (hJ.symm (hj _ hg _ m1)) (hj _ hg _ m2)
theorem regs_ok {g:Gr} {p:Pt} {turn same:List (List Int)} (_h:Parted g p turn same):IsRegs g p turn same (regionsOf g p turn same):=by
 unfold regionsOf
 have hex:∃ ll,IsRegs g p turn same ll:=by
  refine⟨(allRegs g p turn same).mergeSort fun a b=>decide (a.getD 0 0≤b.getD 0 0),List.mergeSort_perm _ _,?_⟩
  have:=List.pairwise_mergeSort (le:=fun a b:List Int=>decide (a.getD 0 0≤b.getD 0 0)) (fun a b c h1 h2=>by simp only[decide_eq_true_eq] at h1 h2 ⊢;omega) (fun a b=>by simp only[Bool.or_eq_true,decide_eq_true_eq];omega) (allRegs g p turn same)
  exact this.imp fun h=>of_decide_eq_true h
 rw[dif_pos hex]
 exact Classical.choose_spec hex
noncomputable def cls (g:Gr) (p:Pt) (turn same:List (List Int)) (f:Face):Int:=numOf (regionsOf g p turn same) f.1
theorem regs_nodup {g:Gr} {p:Pt} {turn same:List (List Int)} (h:Parted g p turn same):(regionsOf g p turn same).flatten.Nodup:=((regs_ok h).perm.flatten).nodup_iff.2 h.nodupAll
theorem cls_at {g:Gr} {p:Pt} {turn same:List (List Int)} (h:Parted g p turn same) {i:Nat} (hi:i<(regionsOf g p turn same).length) {f:Face} (hf:f.1∈(regionsOf g p turn same).getD i []):cls g p turn same f=i:=by
 unfold cls numOf
 rw[regionAt_hit (regs_nodup h) hi hf];rfl
theorem cls_has {g:Gr} {p:Pt} {turn same:List (List Int)} (h:Parted g p turn same) {f:Face} (hf:f∈walksOf g p turn):∃ i,i<(regionsOf g p turn same).length∧f.1∈(regionsOf g p turn same).getD i []∧cls g p turn same f=i:=by
 have hm:f.1∈(regionsOf g p turn same).flatten:=((regs_ok h).perm.flatten.trans h.all).mem_iff.2 (List.mem_map.2 ⟨f,hf,rfl⟩)
 obtain⟨l,hl,hfl⟩:=List.mem_flatten.1 hm
 obtain⟨i,hi,e⟩:=List.getElem_of_mem hl
 have hg:(regionsOf g p turn same).getD i []=l:=by simp[List.getD,hi,e]
 rw[←hg] at hfl
 exact⟨i,hi,hfl,cls_at h hi hfl⟩
theorem cls_keys {g:Gr} {p:Pt} {turn same:List (List Int)} (h:Parted g p turn same) {i:Nat} (hi:i<(regionsOf g p turn same).length):∀ x,x∈keysAt (cls g p turn same) (walksOf g p turn) i↔x∈(regionsOf g p turn same).getD i []:=by
 intro x
 rw[keysAt_mem]
 constructor
 ·rintro ⟨f,hf,e,rfl⟩
  obtain⟨j,hj,hfj,ej⟩:=cls_has h hf
  have:i=j:=by rw[e] at ej;exact Int.ofNat.inj ej
  rw[this];exact hfj
 intro hx
 have hgi:(regionsOf g p turn same).getD i []=(regionsOf g p turn same)[i]:=by simp[List.getD,hi]
 have hm:x∈(regionsOf g p turn same).flatten:=List.mem_flatten.2 ⟨_,List.getElem_mem hi,by rw[←hgi];exact hx⟩
 obtain⟨f,hf,rfl⟩:=List.mem_map.1 (((regs_ok h).perm.flatten.trans h.all).mem_iff.1 hm)
 exact⟨f,hf,cls_at h hi hx,rfl⟩
theorem rise_ext:∀ {l m:List Int},l.Pairwise (·<·)→m.Pairwise (·<·)→(∀ x,x∈l↔x∈m)→l=m
 | [],[],_,_,_=>rfl
 | [],y :: m,_,_,h=>by have:=(h y).2 (by simp);simp at this
 | x :: l,[],_,_,h=>by have:=(h x).1 (by simp);simp at this
 | x :: l,y :: m,h1,h2,h=>by
  rw[List.pairwise_cons] at h1 h2
  have e:x=y:=by
   rcases List.mem_cons.1 ((h x).1 (by simp)) with q | q
   ·exact q
   rcases List.mem_cons.1 ((h y).2 (by simp)) with r | r
   ·exact r.symm
   have:=h1.1 y r;have:=h2.1 x q;omega
  subst e
  rw[rise_ext h1.2 h2.2 fun z=>?_]
  constructor
  ·intro hz
   rcases List.mem_cons.1 ((h z).1 (by simp[hz])) with q | q
   ·have:=h1.1 z hz;omega
   exact q
  intro hz
  rcases List.mem_cons.1 ((h z).2 (by simp[hz])) with q | q
  ·have:=h2.1 z hz;omega
  exact q
theorem same_grps {g:Gr} {p:Pt} {turn same:List (List Int)} (hz:planErr g p turn same=0):same=grps (cls g p turn same) (walksOf g p turn):=by
 obtain⟨hpe,hto⟩:=turnErr_zero (flatErr_zero (planErr_zero hz).1).1
 have hpt:=parted hz (walks_ok hpe hto)
 have hk:=walks_keys hpe (walks_ok hpe hto)
 have hnds:same.Nodup:=by
  have h1:=(nodup_flat.1 hpt.nodup).2
  refine h1.imp_of_mem fun {a b} ha hb hd e=>?_
  subst e
  have:=hpt.two a ha
  match a,this with
  | x :: l,_=>exact hd x (by simp) x (by simp) rfl
 have hheads:same.Pairwise fun a b=>a.getD 0 0≤b.getD 0 0:=by
  have h1:=same_heads hz
  exact h1.imp fun h=>by omega
 refine grps_of hk hnds (fun l=>⟨fun hl=>?_,fun ⟨h,e,h1⟩=>?_⟩) (List.Perm.refl _) hheads
 ·have hla:l∈regionsOf g p turn same:=(regs_ok hpt).perm.mem_iff.2 (List.mem_append.2 (Or.inl hl))
  obtain⟨i,hi,e⟩:=List.getElem_of_mem hla
  have hg:(regionsOf g p turn same).getD i []=l:=by simp[List.getD,hi,e]
  refine⟨i,?_,by have:=hpt.two l hl;omega⟩
  refine rise_ext (hpt.rise l hl) (keysAt_rise hk _) fun x=>?_
  rw[cls_keys hpt hi,hg]
 have hne:l≠[]:=by intro q;rw[q] at h1;simp at h1
 obtain⟨k,hkl⟩:=List.exists_mem_of_ne_nil l hne
 rw[e] at hkl
 obtain⟨f,hf,e2,rfl⟩:=keysAt_mem.1 hkl
 obtain⟨i,hi,hfi,ei⟩:=cls_has hpt hf
 rw[e2] at ei
 subst ei
 have hg:(regionsOf g p turn same).getD i []=(regionsOf g p turn same)[i]:=by simp[List.getD,hi]
 have hmem:(regionsOf g p turn same).getD i []∈allRegs g p turn same:=(regs_ok hpt).perm.mem_iff.1 (by rw[hg];exact List.getElem_mem hi)
 rcases List.mem_append.1 hmem with q | q
 ·have:l=(regionsOf g p turn same).getD i []:=by
   rw[e]
   exact rise_ext (keysAt_rise hk _) (hpt.rise _ q) fun x=>cls_keys hpt hi x
  rw[this];exact q
 exfalso
 unfold singles at q
 obtain⟨f',-,e3⟩:=List.mem_map.1 q
 have hx:=cls_keys hpt hi
 rw[←e3] at hx
 have hnd:l.Nodup:=by rw[e];exact (keysAt_rise hk _).imp fun h=>by omega
 match l,h1,e,hnd with
 | a :: b :: m,_,e,hnd =>
  have ha:=(hx a).1 (by rw[←e];simp)
  have hb:=(hx b).1 (by rw[←e];simp)
  simp at ha hb
  rw[ha,hb] at hnd
  simp at hnd
theorem cls_grps {g:Gr} {p:Pt} {turn:List (List Int)} {c d:Face→Int} (hk:((walksOf g p turn).map (·.1)).Pairwise (·<·)) (he:grps c (walksOf g p turn)=grps d (walksOf g p turn)) {f x:Face} (hf:f∈walksOf g p turn) (hx:x∈walksOf g p turn):c f=c x↔d f=d x:=by
 have key:∀ {c d:Face→Int},grps c (walksOf g p turn)=grps d (walksOf g p turn)→c f=c x→d f=d x:=by
  intro c d he e
  by_cases hfx:f=x
  ·rw[hfx]
  have m1:f.1∈keysAt c (walksOf g p turn) (c f):=keysAt_mem.2 ⟨f,hf,rfl,rfl⟩
  have m2:x.1∈keysAt c (walksOf g p turn) (c f):=keysAt_mem.2 ⟨x,hx,e.symm,rfl⟩
  have hlen:1<(keysAt c (walksOf g p turn) (c f)).length:=by
   match hq:keysAt c (walksOf g p turn) (c f) with
   | []=>rw[hq] at m1;simp at m1
   | [a] =>
    rw[hq] at m1 m2
    simp at m1 m2
    exact absurd (key_face hk hf hx (m1.trans m2.symm)) hfx
   | _ :: _ :: _=>simp
  have hg:keysAt c (walksOf g p turn) (c f)∈grps d (walksOf g p turn):=by rw[←he];exact mem_grps.2 ⟨_,rfl,hlen⟩
  obtain⟨h,e2,-⟩:=mem_grps.1 hg
  rw[e2] at m1 m2
  obtain⟨f',hf',a1,a2⟩:=keysAt_mem.1 m1
  obtain⟨x',hx',b1,b2⟩:=keysAt_mem.1 m2
  rw[key_face hk hf' hf a2] at a1
  rw[key_face hk hx' hx b2] at b1
  rw[a1,b1]
 exact⟨key he,key he.symm⟩
def back (l:List Int) (u:Int):List Int:=(l.take (l.idxOf u+1)).reverse++(l.drop (l.idxOf u+1)).reverse
theorem idxOf_split {a c:List Int} {u:Int} (h:u ∉ a):(a++u :: c).idxOf u=a.length:=by
 rw[List.idxOf_append,if_neg h];simp
theorem back_split {a c:List Int} {u:Int} (h:u ∉ a):back (a++u :: c) u=u :: (a.reverse++c.reverse):=by
 unfold back
 rw[idxOf_split h]
 have e1:(a++u :: c).take (a.length+1)=a++[u]:=by
  rw[show a++u :: c=(a++[u])++c by simp]
  exact List.take_left' (by simp)
 have e2:(a++u :: c).drop (a.length+1)=c:=by
  rw[show a++u :: c=(a++[u])++c by simp]
  exact List.drop_left' (by simp)
 rw[e1,e2];simp
theorem split_at {l:List Int} {u:Int} (h:u∈l):∃ a c,l=a++u :: c∧u ∉ a:=by
 induction l with
 | nil=>simp at h
 | cons x l ih =>
  by_cases e:u=x
  ·exact⟨[],l,by rw[e];rfl,by simp⟩
  obtain⟨a,c,e1,h1⟩:=ih ((List.mem_cons.1 h).resolve_left e)
  exact⟨x :: a,c,by rw[e1];rfl,by simp[e,h1]⟩
theorem ahead_split {a c:List Int} {u:Int} (h:u ∉ a):ahead (a++u :: c) u=(a.reverse++(c.reverse++[u])).getD 0 0:=by
 unfold ahead
 rw[idxOf_split h,show (a++u :: c).length=a.length+c.length+1 by simp;omega]
 rcases List.eq_nil_or_concat a with rfl | ⟨a,z,rfl⟩
 ·rcases List.eq_nil_or_concat c with rfl | ⟨c,y,rfl⟩
  ·simp
  have e1:([]:List Int).length+(([]:List Int).length+(c.concat y).length+1) - 1=c.length+1:=by simp
  have e2:([]:List Int).length+(c.concat y).length+1=c.length+2:=by simp
  rw[e1,e2,Nat.mod_eq_of_lt (by omega)]
  simp[List.getD]
 simp only[List.concat_eq_append,List.length_append,List.length_cons,List.length_nil,List.reverse_append,List.reverse_cons,List.reverse_nil]
 rw[show a.length+(0+1)+(a.length+(0+1)+c.length+1) - 1=a.length+(a.length+(0+1)+c.length+1) by omega,Nat.add_mod_right,Nat.mod_eq_of_lt (by omega)]
 simp[List.getD]
theorem back_ahead {l:List Int} (hn:l.Nodup) {u:Int} (hu:u∈l):∃ t,back l u=u :: t∧back l (ahead l u)=t++[u]:=by
 obtain⟨a,c,rfl,hua⟩:=split_at hu
 refine⟨a.reverse++c.reverse,back_split hua,?_⟩
 rw[ahead_split hua]
 rcases List.eq_nil_or_concat a with rfl | ⟨a,z,rfl⟩
 ·rcases List.eq_nil_or_concat c with rfl | ⟨c,y,rfl⟩
  ·have h0:=back_split (a:=[]) (c:=[]) (u:=u) (by simp)
   simpa using h0
  have hy:y ∉ u :: c:=by
   rw[List.nil_append,List.concat_eq_append,←List.cons_append,List.nodup_append] at hn
   exact fun h=>hn.2.2 y h y (by simp) rfl
  have e:([]:List Int).reverse++((c.concat y).reverse++[u])=y :: (c.reverse++[u]):=by simp
  rw[e]
  show back ([]++u :: c.concat y) y=_
  have h2:=back_split (c:=[]) hy
  rw[show []++u :: c.concat y=(u :: c)++[y] by simp,h2]
  simp
 have hz:z ∉ a:=by
  rw[List.concat_eq_append,List.append_assoc,List.nodup_append] at hn
  exact fun h=>hn.2.2 z h z (by simp) rfl
 have e:(a.concat z).reverse++(c.reverse++[u])=z :: (a.reverse++(c.reverse++[u])):=by simp
 rw[e]
 show back (a.concat z++u :: c) z=_
 have h2:=back_split (c:=u :: c) hz
 rw[show a.concat z++u :: c=a++z :: (u :: c) by simp,h2]
 simp
theorem back_self {l:List Int} {u:Int} (hu:u∈l):∃ t,back l u=u :: t:=by
 obtain⟨a,c,rfl,hua⟩:=split_at hu
 exact⟨_,back_split hua⟩
theorem mem_back {l:List Int} {u x:Int} (hu:u∈l):x∈back l u↔x∈l:=by
 obtain⟨a,c,rfl,hua⟩:=split_at hu
 rw[back_split hua]
 simp only[List.mem_cons,List.mem_append,List.mem_reverse]
 constructor
 ·rintro (h | h | h)
  ·exact Or.inr (Or.inl h)
  ·exact Or.inl h
  exact Or.inr (Or.inr h)
 rintro (h | h | h)
 ·exact Or.inr (Or.inl h)
 ·exact Or.inl h
 exact Or.inr (Or.inr h)
theorem ahead_mem {l:List Int} (hn:l.Nodup) {u:Int} (hu:u∈l):ahead l u∈l:=by
 have h:=ahead_ring hn (List.ne_nil_of_mem hu)
 exact List.mem_reverse.1 (h.map_perm.mem_iff.1 (List.mem_map.2 ⟨u,List.mem_reverse.2 hu,rfl⟩))
theorem land_skip {l:List Int} (hn:l.Nodup) {P:Int→Bool} {u:Int} (hu:u∈l) (hp:P u=false):(back l (ahead l u)).find? P=(back l u).find? P:=by
 obtain⟨t,e1,e2⟩:=back_ahead hn hu
 rw[e1,e2,List.find?_append,List.find?_cons_of_neg (by simp[hp]),List.find?_cons_of_neg (by simp[hp])]
 simp
theorem land_at {l:List Int} {P:Int→Bool} {u:Int} (hu:u∈l) (hp:P u=true):(back l u).find? P=some u:=by
 obtain⟨t,e⟩:=back_self hu
 rw[e,List.find?_cons_of_pos hp]
theorem filter_first {P:Int→Bool} {l:List Int} {z:Int} (h:l.find? P=some z):(l.filter P).getD 0 0=z:=by
 rw[←List.head?_filter] at h
 cases e:l.filter P with
 | nil=>rw[e] at h;cases h
 | cons a m=>rw[e] at h;cases h;rfl
theorem land_ahead {l:List Int} (hn:l.Nodup) {P:Int→Bool} {d:Int} (hd:d∈l) (hp:P d=true):(back l (ahead l d)).find? P=some (ahead (l.filter P) d):=by
 obtain⟨a,c,rfl,hda⟩:=split_at hd
 obtain⟨t,e1,e2⟩:=back_ahead hn hd
 rw[back_split hda] at e1
 obtain rfl:a.reverse++c.reverse=t:=by simpa using e1
 rw[e2]
 have e3:(a++d :: c).filter P=a.filter P++d :: c.filter P:=by rw[List.filter_append,List.filter_cons_of_pos hp]
 have hda2:d ∉ a.filter P:=fun h=>hda (List.mem_filter.1 h).1
 rw[e3,ahead_split hda2]
 have hs:((a.reverse++c.reverse++[d]).find? P).isSome=true:=by
  rw[List.find?_isSome];exact⟨d,by simp,hp⟩
 obtain⟨z,hz⟩:=Option.isSome_iff_exists.1 hs
 rw[hz]
 have h4:=filter_first hz
 rw[←h4]
 congr 2
 simp only[List.filter_append,List.filter_reverse,List.append_assoc]
 rw[List.filter_cons_of_pos hp];simp
theorem land_rel {l:List Int} (hn:l.Nodup) {P:Int→Bool} {R:Int→Int→Prop} (hR:Eqv R) (h:∀ y∈l,P y=false→R y (ahead l y)) {u:Int} (hu:u∈l):R u (((back l u).find? P).getD (l.getD 0 0)):=by
 cases e:(back l u).find? P with
 | none =>
  have hno:∀ y∈l,P y=false:=fun y hy=>by
   have:=List.find?_eq_none.1 e y ((mem_back hu).2 hy)
   simpa using this
  have hr:=ring_rel hR (ahead_ring hn (List.ne_nil_of_mem hu)) (fun w hw=>h w (List.mem_reverse.1 hw) (hno w (List.mem_reverse.1 hw)))
  have hl:0<l.length:=List.length_pos_of_mem hu
  exact hr u (List.mem_reverse.2 hu) _ (List.mem_reverse.2 (getD_mem hl))
 | some z =>
  obtain⟨hz,s,r,e2,hs⟩:=List.find?_eq_some_iff_append.1 e
  show R u z
  clear e
  induction s generalizing u r with
  | nil =>
   obtain⟨t,e3⟩:=back_self hu
   rw[e3] at e2
   have:u=z:=by simpa using (List.cons.inj e2).1
   rw[this];exact hR.refl z
  | cons y s ih =>
   obtain⟨t,e3,e4⟩:=back_ahead hn hu
   rw[e3] at e2
   obtain⟨rfl,e5⟩:=List.cons.inj e2
   have hy:P u=false:=by have:=hs u (by simp);simpa using this
   rw[e5] at e4
   exact hR.trans (h u hu hy) (ih (ahead_mem hn hu) (r:=r++[u]) (by rw[e4];simp) (fun x hx=>hs x (List.mem_cons_of_mem _ hx)))
def onE (E:List Int) (d:Int):Bool:=decide (d / 2∈E)
def lnd (g:Gr) (turn:List (List Int)) (E:List Int) (u:Int):Int:=if u<0 then u else ((back (turnAt turn (g.tail u)) u).find? (onE E)).getD (-1 - g.tail u)
def stand (turn:List (List Int)) (x:Int):Int:=if x<0 then seat turn (-1 - x) else x
structure Subs (g:Gr) (p q:Pt) (turn:List (List Int)):Prop where
 pe:p.err g=0
 qe:q.err g=0
 to_:TurnsOk g p turn
 sube:∀ e∈q.e,e∈p.e
 subv:∀ v∈q.v,v∈p.v
section
variable {g : Gr} {p q : Pt} {turn : List (List Int)}
theorem Subs.pk (h:Subs g p q turn):PartOk g p:=Pt.ok_of_err h.pe
theorem Subs.qk (h:Subs g p q turn):PartOk g q:=Pt.ok_of_err h.qe
theorem Subs.turns (h:Subs g p q turn):TurnsOk g q (restTurn q.e turn):=restTurn_ok h.to_ h.sube
theorem Subs.darts (h:Subs g p q turn) {d:Int} (hd:d∈q.darts):d∈p.darts:=mem_darts.2 (h.sube _ (mem_darts.1 hd))
theorem restTurn_nil {E:List Int} {v:Int}:turnAt (restTurn E turn) v=[]↔∀ d∈turnAt turn v,onE E d=false:=by
 rw[restTurn_at]
 constructor
 ·intro e d hd
  have h1:keepOf E (turnAt turn v)=[]:=by
   have:=(first_perm (keepOf E (turnAt turn v)))
   rw[e] at this
   exact List.Perm.eq_nil this.symm
  unfold keepOf at h1
  have:=List.filter_eq_nil_iff.1 h1 d hd
  unfold onE
  simpa using this
 intro h
 have h1:keepOf E (turnAt turn v)=[]:=by
  unfold keepOf
  rw[List.filter_eq_nil_iff]
  intro d hd
  have:=h d hd
  unfold onE at this
  simpa using this
 rw[h1];rfl
theorem all_ground (h:PartOk g p) {x:Int}:x∈ground g p turn p.v↔x∈p.darts∨∃ v∈p.v,turnAt turn v=[]∧x = -1 - v:=by
 rw[mem_ground]
 constructor
 ·rintro (q | q)
  ·exact Or.inl q.1
  exact Or.inr q
 rintro (q | q)
 ·exact Or.inl ⟨q,(h.tail_mem q).1⟩
 exact Or.inr q
theorem dart_turn (h:PartOk g p) (ht:TurnsOk g p turn) {d:Int} (hd:d∈p.darts):d∈turnAt turn (g.tail d):=by
 have:=h.vr _ (h.tail_mem hd).1
 exact (ht.mem _ this.1 this.2 d).2 ⟨hd,rfl⟩
theorem turn_dart (h:PartOk g p) (ht:TurnsOk g p turn) {v d:Int} (hv:v∈p.v) (hd:d∈turnAt turn v):d∈p.darts∧g.tail d=v:=by
 have:=h.vr _ hv
 exact (ht.mem _ this.1 this.2 d).1 hd
theorem onE_q {d:Int}:onE q.e d=true↔d∈q.darts:=by unfold onE;rw[decide_eq_true_iff,mem_darts]
theorem lnd_key {E:List Int} {u:Int} (hu:u<0):lnd g turn E u=u:=if_pos hu
theorem lnd_on (h:Subs g p q turn) {d:Int} (hd:d∈q.darts):lnd g turn q.e d=d:=by
 have h0:=dart_pos h.qk hd
 unfold lnd
 rw[if_neg (by omega),land_at (dart_turn h.pk h.to_ (h.darts hd)) (onE_q.2 hd)];rfl
theorem lnd_vert (h:Subs g p q turn) {u:Int} (hu:u∈ground g p turn p.v):vert g (lnd g turn q.e u)=vert g u:=by
 rcases (all_ground h.pk).1 hu with hd | ⟨v,hv,-,rfl⟩
 ·have h0:=dart_pos h.pk hd
  unfold lnd
  rw[if_neg (by omega)]
  cases e:(back (turnAt turn (g.tail u)) u).find? (onE q.e) with
  | none =>
   show vert g (-1 - g.tail u)=_
   rw[vert_lone (h.pk.vr _ (h.pk.tail_mem hd).1).1,vert_dart h.pk hd]
  | some z =>
   have hz:=(mem_back (dart_turn h.pk h.to_ hd)).1 (List.mem_of_find?_eq_some e)
   obtain⟨z1,z2⟩:=turn_dart h.pk h.to_ (h.pk.tail_mem hd).1 hz
   show vert g z=_
   rw[vert_dart h.pk z1,vert_dart h.pk hd,z2]
 rw[lnd_key (by have:=(h.pk.vr v hv).1;omega)]
theorem lnd_mem (h:Subs g p q turn) {u:Int} (hu:u∈ground g p turn p.v) (hv:vert g u∈q.v):lnd g turn q.e u∈ground g q (restTurn q.e turn) q.v:=by
 rw[all_ground h.qk]
 rcases (all_ground h.pk).1 hu with hd | ⟨v,hv2,e,rfl⟩
 ·have h0:=dart_pos h.pk hd
  rw[vert_dart h.pk hd] at hv
  unfold lnd
  rw[if_neg (by omega)]
  cases e:(back (turnAt turn (g.tail u)) u).find? (onE q.e) with
  | none =>
   refine Or.inr ⟨_,hv,restTurn_nil.2 fun d hdt=>?_,rfl⟩
   have:=List.find?_eq_none.1 e d ((mem_back (dart_turn h.pk h.to_ hd)).2 hdt)
   simpa using this
  | some z=>exact Or.inl (onE_q.1 (List.find?_some e))
 rw[vert_lone (h.pk.vr v hv2).1] at hv
 rw[lnd_key (by have:=(h.pk.vr v hv2).1;omega)]
 exact Or.inr ⟨v,hv,restTurn_nil.2 (by rw[e];simp),rfl⟩
theorem lnd_skip (h:Subs g p q turn) {u:Int} (hu:u∈p.darts) (hq:u ∉ q.darts):lnd g turn q.e (before g turn u)=lnd g turn q.e u:=by
 have h0:=dart_pos h.pk hu
 have hut:=dart_turn h.pk h.to_ hu
 have hat:=ahead_mem (h.to_.nodup _) hut
 obtain⟨a1,a2⟩:=turn_dart h.pk h.to_ (h.pk.tail_mem hu).1 hat
 have h1:=dart_pos h.pk a1
 unfold before lnd
 rw[if_neg (by omega),if_neg (by omega),a2,land_skip (h.to_.nodup _) hut (by
  have:=mt onE_q.1 hq
  simpa using this)]
theorem lnd_next (h:Subs g p q turn) {d:Int} (hd:d∈q.darts):lnd g turn q.e (before g turn d)=before g (restTurn q.e turn) d:=by
 have hdp:=h.darts hd
 have hut:=dart_turn h.pk h.to_ hdp
 have hat:=ahead_mem (h.to_.nodup _) hut
 obtain⟨a1,a2⟩:=turn_dart h.pk h.to_ (h.pk.tail_mem hdp).1 hat
 have h1:=dart_pos h.pk a1
 unfold before lnd
 rw[if_neg (by omega),a2,land_ahead (h.to_.nodup _) hut (onE_q.2 hd),restTurn_at]
 have e:keepOf q.e (turnAt turn (g.tail d))=(turnAt turn (g.tail d)).filter (onE q.e):=rfl
 rw[←e,ahead_begun (by rw[e];exact (h.to_.nodup _).filter _) d (by rw[e];exact List.mem_filter.2 ⟨hut,onE_q.2 hd⟩)]
 rfl
theorem stand_mem (h:Subs g p q turn) {x:Int} (hx:x∈ground g q (restTurn q.e turn) q.v):stand turn x∈ground g p turn p.v∧vert g (stand turn x)=vert g x:=by
 rcases (all_ground h.qk).1 hx with hd | ⟨v,hv,-,rfl⟩
 ·have h0:=dart_pos h.qk hd
  unfold stand
  rw[if_neg (by omega)]
  exact⟨(all_ground h.pk).2 (Or.inl (h.darts hd)),rfl⟩
 have h0:=(h.qk.vr v hv).1
 unfold stand seat
 rw[if_pos (by omega),show -1 - (-1 - v)=v by omega]
 split
 ·rename_i hl
  obtain⟨d1,d2⟩:=turn_dart h.pk h.to_ (h.subv v hv) (getD_mem hl)
  exact⟨(all_ground h.pk).2 (Or.inl d1),by rw[vert_dart h.pk d1,vert_lone h0,d2]⟩
 rename_i hl
 exact⟨(all_ground h.pk).2 (Or.inr ⟨v,h.subv v hv,List.length_eq_zero_iff.1 (by omega),rfl⟩),rfl⟩
theorem lnd_stand (h:Subs g p q turn) {x:Int} (hx:x∈ground g q (restTurn q.e turn) q.v):lnd g turn q.e (stand turn x)=x:=by
 rcases (all_ground h.qk).1 hx with hd | ⟨v,hv,e,rfl⟩
 ·have h0:=dart_pos h.qk hd
  rw[show stand turn x=x by unfold stand;rw[if_neg (by omega)]]
  exact lnd_on h hd
 have h0:=(h.qk.vr v hv).1
 have hno:=restTurn_nil.1 e
 unfold stand seat
 rw[if_pos (by omega),show -1 - (-1 - v)=v by omega]
 split
 ·rename_i hl
  obtain⟨d1,d2⟩:=turn_dart h.pk h.to_ (h.subv v hv) (getD_mem hl)
  have h1:=dart_pos h.pk d1
  unfold lnd
  rw[if_neg (by omega),d2]
  have:(back (turnAt turn v) ((turnAt turn v).getD 0 0)).find? (onE q.e)=none:=by
   rw[List.find?_eq_none]
   intro y hy
   have:=hno y ((mem_back (getD_mem hl)).1 hy)
   simp[this]
  rw[this];rfl
 exact lnd_key (by omega)
theorem stand_rel (h:Subs g p q turn) {R:Int→Int→Prop} (hR:Eqv R) (hs:∀ y∈p.darts,y ∉ q.darts→R y (before g turn y)) {u:Int} (hu:u∈ground g p turn p.v):R u (stand turn (lnd g turn q.e u)):=by
 rcases (all_ground h.pk).1 hu with hd | ⟨v,hv,e,rfl⟩
 ·have h0:=dart_pos h.pk hd
  have hut:=dart_turn h.pk h.to_ hd
  have hl:=land_rel (P:=onE q.e) (h.to_.nodup (g.tail u)) hR (fun y hy hn=>by
   obtain⟨y1,y2⟩:=turn_dart h.pk h.to_ (h.pk.tail_mem hd).1 hy
   have:=hs y y1 (fun k=>by rw[onE_q.2 k] at hn;cases hn)
   unfold before at this
   rw[y2] at this
   exact this) hut
  unfold lnd
  rw[if_neg (by omega)]
  cases e:(back (turnAt turn (g.tail u)) u).find? (onE q.e) with
  | none =>
   rw[e] at hl
   show R u (stand turn (-1 - g.tail u))
   have hv:=(h.pk.vr _ (h.pk.tail_mem hd).1).1
   unfold stand seat
   rw[if_pos (by omega),show -1 - (-1 - g.tail u)=g.tail u by omega,if_pos (List.length_pos_of_mem hut)]
   exact hl
  | some z =>
   rw[e] at hl
   show R u (stand turn z)
   have hz:=(mem_back hut).1 (List.mem_of_find?_eq_some e)
   have:=dart_pos h.pk (turn_dart h.pk h.to_ (h.pk.tail_mem hd).1 hz).1
   unfold stand
   rw[if_neg (by omega)]
   exact hl
 have h0:=(h.pk.vr v hv).1
 rw[lnd_key (by omega)]
 unfold stand seat
 rw[if_pos (by omega),show -1 - (-1 - v)=v by omega,e]
 exact hR.refl _
end
theorem Eqv.comap {R:Int→Int→Prop} (h:Eqv R) (f:Int→Int):Eqv fun x y=>R (f x) (f y):=⟨fun _x=>h.refl _,fun q=>h.symm q,fun q r=>h.trans q r⟩
theorem cnt_split {R:Int→Int→Prop} (hR:Eqv R) {K:List Int} (s:Int→Bool) (h:∀ x∈K,∀ y∈K,R x y→s x=s y):cnt R K=cnt R (K.filter s)+cnt R (K.filter fun x=>!s x):=by
 have h1:=reps_ok hR (K.filter s)
 have h2:=reps_ok hR (K.filter fun x=>!s x)
 have h3:Reps R K (reps R (K.filter s)++reps R (K.filter fun x=>!s x)):=by
  refine⟨fun t ht=>?_,fun x hx=>?_,?_⟩
  ·rcases List.mem_append.1 ht with q | q
   ·exact (List.mem_filter.1 (h1.sub t q)).1
   exact (List.mem_filter.1 (h2.sub t q)).1
  ·cases e:s x with
   | true =>
    obtain⟨t,ht,hr⟩:=h1.all x (List.mem_filter.2 ⟨hx,e⟩)
    exact⟨t,List.mem_append.2 (Or.inl ht),hr⟩
   | false =>
    obtain⟨t,ht,hr⟩:=h2.all x (List.mem_filter.2 ⟨hx,by simp[e]⟩)
    exact⟨t,List.mem_append.2 (Or.inr ht),hr⟩
  rw[List.pairwise_append]
  refine⟨h1.one,h2.one,fun a ha b hb hr=>?_⟩
  have a1:=List.mem_filter.1 (h1.sub a ha)
  have b1:=List.mem_filter.1 (h2.sub b hb)
  have e:=h a a1.1 b b1.1 hr
  have b2:=b1.2
  rw[←e,a1.2] at b2
  cases b2
 rw[cnt_eq hR h3,List.length_append];rfl
section
variable {g : Gr} {p q : Pt} {turn : List (List Int)}
theorem go_dart (h:PartOk g p) {S:List Int} (hS:S.Nodup) {x:Int} (hx:x∈p.darts) (hin:x / 2∈S):bef g turn (tw S x)=nextDart g turn x:=by
 rw[tw_eq hS,if_pos hin]
 have:=dart_pos h (twin_mem hx)
 unfold bef
 rw[if_neg (by omega)];rfl
theorem go_off (h:PartOk g p) {S:List Int} (hS:S.Nodup) {x:Int} (hx:x∈p.darts) (hno:x / 2 ∉ S):bef g turn (tw S x)=before g turn x:=by
 rw[tw_eq hS,if_neg hno]
 have:=dart_pos h hx
 unfold bef
 rw[if_neg (by omega)]
theorem go_key {S:List Int} (hS:S.Nodup) (h0:∀ e∈S,0≤e) {x:Int} (hx:x<0):bef g turn (tw S x)=x:=by
 rw[tw_eq hS,if_neg (fun q=>by have:=h0 _ q;omega)]
 unfold bef
 rw[if_pos hx]
theorem edges_all (h:PartOk g p):edgesOf g p p.v=p.e:=by
 unfold edgesOf
 rw[List.filter_eq_self]
 intro e he
 refine decide_eq_true (h.tail_mem (mem_darts.2 ?_)).1
 rwa[show 2*e / 2=e by omega]
theorem walks_all (h:PartOk g p) {W:List Face} (hW:FacesOk g p turn W):(walksIn g W p.v).length=W.length:=by
 unfold walksIn
 rw[List.length_map]
 congr 1
 rw[List.filter_eq_self]
 exact fun f hf=>decide_eq_true (corner_mem h hW f hf)
theorem seat_mem (h:PartOk g p) (ht:TurnsOk g p turn) {v:Int} (hv:v∈p.v):seat turn v∈ground g p turn p.v∧vert g (seat turn v)=v:=by
 have h0:=(h.vr v hv).1
 unfold seat
 split
 ·rename_i hl
  obtain⟨d1,d2⟩:=turn_dart h ht hv (getD_mem hl)
  exact⟨(all_ground h).2 (Or.inl d1),by rw[vert_dart h d1,d2]⟩
 rename_i hl
 exact⟨(all_ground h).2 (Or.inr ⟨v,hv,List.length_eq_zero_iff.1 (by omega),rfl⟩),vert_lone h0⟩
theorem Subs.rings (h:Subs g p q turn):Rings (fun x=>bef g (restTurn q.e turn) (tw q.e x)) (walksIn g (walksOf g q (restTurn q.e turn)) q.v)∧(walksIn g (walksOf g q (restTurn q.e turn)) q.v).flatten.Perm (ground g q (restTurn q.e turn) q.v):=by
 have:=walk_rings h.qe h.turns (walks_ok h.qe h.turns) (Stretch.all h.qk)
 rwa[edges_all h.qk] at this
structure RingsOf (g:Gr) (p q:Pt) (turn:List (List Int)) (C:List (List Int)):Prop where
 rings:Rings (fun x=>bef g turn (tw q.e x)) C
 all:C.flatten.Perm (ground g p turn p.v)
theorem land_step (h:Subs g p q turn) {w:Int} (hw:w∈q.darts):lnd g turn q.e (bef g turn (tw q.e w))=bef g (restTurn q.e turn) (tw q.e w):=by
 rw[go_dart h.pk h.qk.en (h.darts hw) (mem_darts.1 hw),go_dart h.qk h.qk.en hw (mem_darts.1 hw)]
 exact lnd_next h (twin_mem hw)
theorem same_land (h:Subs g p q turn) {C:List (List Int)} (hC:RingsOf g p q turn C) {u v:Int} (hs:Same C u v):Same (walksIn g (walksOf g q (restTurn q.e turn)) q.v) (lnd g turn q.e u) (lnd g turn q.e v):=by
 obtain⟨c1,c2⟩:=h.rings
 have hE:=Same.eqv c1.nodup
 refine Same.least (hE.comap (lnd g turn q.e)) hC.rings (fun w hw=>?_) hs
 rcases (all_ground h.pk).1 (hC.all.mem_iff.1 hw) with hd | ⟨v,hv,-,rfl⟩
 ·by_cases hq:w∈q.darts
  ·show Same _ (lnd g turn q.e w) (lnd g turn q.e (bef g turn (tw q.e w)))
   rw[lnd_on h hq,land_step h hq]
   exact Same.step c1 (c2.mem_iff.2 ((all_ground h.qk).2 (Or.inl hq)))
  show Same _ (lnd g turn q.e w) (lnd g turn q.e (bef g turn (tw q.e w)))
  rw[go_off h.pk h.qk.en hd (fun k=>hq (mem_darts.2 k)),lnd_skip h hd hq]
  exact hE.refl _
 show Same _ (lnd g turn q.e _) (lnd g turn q.e (bef g turn (tw q.e _)))
 rw[go_key h.qk.en h.qk.er (by have:=(h.pk.vr v hv).1;omega)]
 exact hE.refl _
theorem same_out (h:Subs g p q turn) {C:List (List Int)} (hC:RingsOf g p q turn C) {u:Int} (hu:u∈ground g p turn p.v):Same C u (stand turn (lnd g turn q.e u)):=by
 refine stand_rel h (Same.eqv hC.rings.nodup) (fun y hy hn=>?_) hu
 have:=Same.step hC.rings (hC.all.mem_iff.2 ((all_ground h.pk).2 (Or.inl hy)))
 rw[go_off h.pk h.qk.en hy (fun k=>hn (mem_darts.2 k))] at this
 exact this
theorem same_stand (h:Subs g p q turn) {C:List (List Int)} (hC:RingsOf g p q turn C) {x y:Int} (hs:Same (walksIn g (walksOf g q (restTurn q.e turn)) q.v) x y):Same C (stand turn x) (stand turn y):=by
 obtain⟨c1,c2⟩:=h.rings
 have hE:=Same.eqv hC.rings.nodup
 refine Same.least (hE.comap (stand turn)) c1 (fun w hw=>?_) hs
 rcases (all_ground h.qk).1 (c2.mem_iff.1 hw) with hd | ⟨v,hv,-,rfl⟩
 ·show Same C (stand turn w) (stand turn (bef g (restTurn q.e turn) (tw q.e w)))
  have hw1:=hC.all.mem_iff.2 ((all_ground h.pk).2 (Or.inl (h.darts hd)))
  have s1:=Same.step hC.rings hw1
  have s2:=same_out h hC (hC.all.mem_iff.1 (hC.rings.next hw1))
  rw[←land_step h hd]
  have e:stand turn w=w:=by unfold stand;rw[if_neg (by have:=dart_pos h.qk hd;omega)]
  rw[e]
  exact hE.trans s1 s2
 show Same C (stand turn _) (stand turn (bef g (restTurn q.e turn) (tw q.e _)))
 rw[go_key h.qk.en h.qk.er (by have:=(h.qk.vr v hv).1;omega)]
 exact hE.refl _
theorem same_both (h:Subs g p q turn) {C:List (List Int)} (hC:RingsOf g p q turn C) {x y:Int} (hx:x∈ground g p turn p.v) (hy:y∈ground g p turn p.v):Same C x y↔Same (walksIn g (walksOf g q (restTurn q.e turn)) q.v) (lnd g turn q.e x) (lnd g turn q.e y):=by
 have hE:=Same.eqv hC.rings.nodup
 exact⟨same_land h hC,fun k=>hE.trans (hE.trans (same_out h hC hx) (same_stand h hC k)) (hE.symm (same_out h hC hy))⟩
def dropped (p q:Pt):List Int:=p.v.filter fun v=>decide (v ∉ q.v)
def keepB (g:Gr) (q:Pt) (x:Int):Bool:=decide (vert g x∈q.v)
theorem drop_len (h:Subs g p q turn):(dropped p q).length+q.v.length=p.v.length:=left_over h.pk.vn h.qk.vn h.subv
theorem land_same_vert (h:Subs g p q turn) {x y:Int} (hx:x∈ground g p turn p.v) (hy:y∈ground g p turn p.v) (hs:Same (walksIn g (walksOf g q (restTurn q.e turn)) q.v) (lnd g turn q.e x) (lnd g turn q.e y)):vert g x=vert g y∨(vert g x∈q.v∧vert g y∈q.v):=by
 obtain⟨c1,c2⟩:=h.rings
 rw[←lnd_vert h hx,←lnd_vert h hy]
 rcases hs with e | ⟨c,hc,h1,h2⟩
 ·left;rw[e]
 right
 exact⟨ground_vert h.qk (Stretch.all h.qk) (c2.mem_iff.1 (List.mem_flatten.2 ⟨c,hc,h1⟩)),ground_vert h.qk (Stretch.all h.qk) (c2.mem_iff.1 (List.mem_flatten.2 ⟨c,hc,h2⟩))⟩
theorem cnt_drop (h:Subs g p q turn) {R:Int→Int→Prop} (hR:Eqv R) (h1:∀ x∈ground g p turn p.v,∀ y∈ground g p turn p.v,R x y→vert g x=vert g y∨(vert g x∈q.v∧vert g y∈q.v)) (h2:∀ x∈ground g p turn p.v,∀ y∈ground g p turn p.v,vert g x=vert g y→vert g x ∉ q.v→R x y) :
  cnt R (ground g p turn p.v)=cnt R ((ground g p turn p.v).filter (keepB g q))+(dropped p q).length:=by
 rw[cnt_split hR (keepB g q) (fun x hx y hy k=>by
  unfold keepB
  rcases h1 x hx y hy k with e | ⟨a,b⟩
  ·rw[e]
  rw[decide_eq_true a,decide_eq_true b])]
 congr 1
 have hm:∀ x,x∈(ground g p turn p.v).filter (fun x=>!keepB g q x)↔x∈ground g p turn p.v∧vert g x ∉ q.v:=fun x=>by
  rw[List.mem_filter];unfold keepB;simp
 rw[cnt_via hR eqv_eq (L:=dropped p q) (vert g) (fun x hx=>?_) (fun x hx y hy=>⟨fun k=>?_,fun k=>?_⟩) (fun v hv=>?_)]
 ·exact cnt_id (h.pk.vn.filter _)
 ·obtain⟨a,b⟩:=(hm x).1 hx
  exact List.mem_filter.2 ⟨ground_vert h.pk (Stretch.all h.pk) a,decide_eq_true b⟩
 ·obtain⟨a,b⟩:=(hm x).1 hx
  obtain⟨c,d⟩:=(hm y).1 hy
  exact (h1 x a y c k).resolve_right fun e=>b e.1
 ·obtain⟨a,b⟩:=(hm x).1 hx
  obtain⟨c,d⟩:=(hm y).1 hy
  exact h2 x a y c k b
 obtain⟨v1,v2⟩:=List.mem_filter.1 hv
 obtain⟨s1,s2⟩:=seat_mem h.pk h.to_ v1
 exact⟨seat turn v,(hm _).2 ⟨s1,by rw[s2];exact of_decide_eq_true v2⟩,s2.symm⟩
theorem mem_in {x:Int}:x∈(ground g p turn p.v).filter (keepB g q)↔x∈ground g p turn p.v∧vert g x∈q.v:=by
 rw[List.mem_filter];unfold keepB;simp
theorem cnt_walks (h:Subs g p q turn) {C:List (List Int)} (hC:RingsOf g p q turn C):C.length=(walksOf g q (restTurn q.e turn)).length+(dropped p q).length:=by
 obtain⟨c1,c2⟩:=h.rings
 have hE:=Same.eqv hC.rings.nodup
 rw[←cnt_same hC.rings hC.all,cnt_drop h hE (fun x hx y hy k=>land_same_vert h hx hy (same_land h hC k)) (fun x hx y hy e hn=>?_)]
 ·congr 1
  rw[cnt_via hE (Same.eqv c1.nodup) (L:=ground g q (restTurn q.e turn) q.v) (lnd g turn q.e) (fun x hx=>?_) (fun x hx y hy=>same_both h hC (mem_in.1 hx).1 (mem_in.1 hy).1) (fun z hz=>?_),cnt_same c1 c2]
  ·exact walks_all h.qk (walks_ok h.qe h.turns).faces
  ·exact lnd_mem h (mem_in.1 hx).1 (mem_in.1 hx).2
  obtain⟨s1,s2⟩:=stand_mem h hz
  exact⟨stand turn z,mem_in.2 ⟨s1,by rw[s2];exact ground_vert h.qk (Stretch.all h.qk) hz⟩,by rw[lnd_stand h hz];exact (Same.eqv c1.nodup).refl z⟩
 rw[same_both h hC hx hy]
 have key:∀ {x:Int},x∈ground g p turn p.v→vert g x ∉ q.v→lnd g turn q.e x = -1 - vert g x:=by
  intro x hx hn
  rcases (all_ground h.pk).1 hx with hd | ⟨v,hv,-,rfl⟩
  ·rw[vert_dart h.pk hd] at hn ⊢
   have h0:=dart_pos h.pk hd
   unfold lnd
   rw[if_neg (by omega)]
   have:(back (turnAt turn (g.tail x)) x).find? (onE q.e)=none:=by
    rw[List.find?_eq_none]
    intro y hy hy2
    have hyt:=(mem_back (dart_turn h.pk h.to_ hd)).1 hy
    obtain⟨-,y2⟩:=turn_dart h.pk h.to_ (h.pk.tail_mem hd).1 hyt
    have:=(h.qk.tail_mem (onE_q.1 hy2)).1
    rw[y2] at this
    exact hn this
   rw[this];rfl
  have h0:=(h.pk.vr v hv).1
  rw[lnd_key (by omega),vert_lone h0]
 rw[key hx hn,key hy (by rw[←e];exact hn),e]
 exact (Same.eqv c1.nodup).refl _
def Hang (g:Gr) (q:Pt) (u v:Int):Prop:=u=v∨(u∈q.v∧v∈q.v∧Come g q (-1) u v)
theorem Hang.eqv (h:PartOk g q):Eqv (Hang g q):=by
 have h0:∀ v∈q.v,v≠-1:=fun v hv e=>by have:=(h.vr v hv).1;omega
 refine⟨fun x=>Or.inl rfl,fun {x y} k=>?_,fun {x y z} k m=>?_⟩
 ·rcases k with rfl | ⟨a,b,c⟩
  ·exact Or.inl rfl
  exact Or.inr ⟨b,a,(c.symm (h0 _ a)).2⟩
 rcases k with rfl | ⟨a,b,c⟩
 ·exact m
 rcases m with rfl | ⟨a',b',c'⟩
 ·exact Or.inr ⟨a,b,c⟩
 exact Or.inr ⟨a,b',c.trans c'⟩
theorem cnt_hang (h:PartOk g q):cnt (Hang g q) q.v=(roots g q).length:=by
 have h0:∀ v∈q.v,v≠-1:=fun v hv e=>by have:=(h.vr v hv).1;omega
 refine cnt_eq (Hang.eqv h) ⟨fun t ht=>(mem_roots.1 ht).1,fun x hx=>?_,?_⟩
 ·obtain⟨r,hr,hc⟩:=root_of (g:=g) (fun v hv=>(h.vr v hv).1) hx
  exact⟨r,hr,Or.inr ⟨hx,(mem_roots.1 hr).1,(hc.symm (h0 _ (mem_roots.1 hr).1)).2⟩⟩
 refine (roots_nodup h).imp_of_mem fun {a b} ha hb hn k=>hn ?_
 rcases k with e | ⟨-,-,c⟩
 ·exact e
 exact root_one (u:=b) (fun v hv=>(h.vr v hv).1) ha hb c .here
theorem cnt_pieces (h:Subs g p q turn):cnt (Gen (Same (bRings turn p.v)) q.e) (ground g p turn p.v)=(roots g q).length+(dropped p q).length:=by
 have hB:=(bef_rings h.pk h.to_ (Stretch.all h.pk))
 have hE:=Same.eqv hB.1.nodup
 have hG:=Gen.eqv hE q.e
 have hside:∀ e∈q.e,vert g (2*e)∈q.v∧vert g (2*e+1)∈q.v∧Come g q (-1) (vert g (2*e)) (vert g (2*e+1)):=by
  intro e he
  have d1:2*e∈q.darts:=mem_darts.2 (by rwa[show 2*e / 2=e by omega])
  have d2:2*e+1∈q.darts:=mem_darts.2 (by rwa[show (2*e+1) / 2=e by omega])
  rw[vert_dart h.qk d1,vert_dart h.qk d2]
  have e2:twin (2*e)=2*e+1:=by unfold twin;rw[if_pos (by omega)]
  have h1:=h.qk.tail_mem d1
  have e3:g.tail (2*e+1)=g.head (2*e):=by rw[←e2,tail_twin]
  rw[e3]
  exact⟨h1.1,h1.2,Come.step .here (near_dart d1) (fun k=>by have:=(h.qk.vr _ h1.2).1;omega)⟩
 have hsv:∀ {x y:Int},Same (bRings turn p.v) x y→vert g x=vert g y:=by
  intro x y k
  refine Same.least (Q:=fun x y=>vert g x=vert g y) ⟨fun _=>rfl,fun k=>k.symm,fun k m=>k.trans m⟩ hB.1 (fun w hw=>?_) k
  exact (vert_bef h.pk h.to_ (Stretch.all h.pk) (hB.2.mem_iff.1 hw)).2.symm
 have hgen:∀ {x y:Int},Gen (Same (bRings turn p.v)) q.e x y→Hang g q (vert g x) (vert g y):=by
  intro x y k
  refine Gen.least (Q:=fun x y=>Hang g q (vert g x) (vert g y)) ((Hang.eqv h.qk).comap _) (fun x y k=>Or.inl (hsv k)) (fun e he=>Or.inr (hside e he)) k
 rw[cnt_drop h hG (fun x hx y hy k=>?_) (fun x hx y hy e hn=>Gen.base (same_vert h.pk h.to_ (Stretch.all h.pk) hx hy e) _)]
 ·congr 1
  rw[←cnt_hang h.qk]
  refine cnt_via hG (Hang.eqv h.qk) (vert g) (fun x hx=>(mem_in.1 hx).2) (fun x hx y hy=>⟨hgen,fun k=>?_⟩) (fun v hv=>?_)
  ·rcases k with e | ⟨-,-,c⟩
   ·exact Gen.base (same_vert h.pk h.to_ (Stretch.all h.pk) (mem_in.1 hx).1 (mem_in.1 hy).1 e) _
   exact come_gen (S:=q.e) h.pk (Stretch.all h.pk) hG (fun u hu w hw e=>Gen.base (same_vert h.pk h.to_ (Stretch.all h.pk) hu hw e) _) h.sube (fun e he _=>Gen.edge hE he) (Come.congr (p:=q) (q:=⟨p.v,q.e⟩) rfl c) x (mem_in.1 hx).1 rfl y (mem_in.1 hy).1 rfl
  obtain⟨s1,s2⟩:=seat_mem h.pk h.to_ (h.subv v hv)
  exact⟨seat turn v,mem_in.2 ⟨s1,by rw[s2];exact hv⟩,Or.inl s2.symm⟩
 rcases hgen k with e | ⟨a,b,-⟩
 ·exact Or.inl e
 exact Or.inr ⟨a,b⟩
theorem flat_of {W:List Face} (hpe:p.err g=0) (ht:TurnsOk g p turn) (hW:WalksOk g p turn W) (he:p.v.length+W.length=2*(roots g p).length+p.e.length):∀ r∈roots g p,genusAt g p W r=0:=by
 have h:=Pt.ok_of_err hpe
 have h1:=class_sum h (fun v:Int=>v) p.v (fun _ hx=>hx)
 have h2:=class_sum h (fun f:Face=>f.corner g) W (corner_mem h hW.faces)
 have h3:=class_sum h (fun e:Int=>g.tail (2*e)) p.e (fun e hx=>(h.tail_mem (d:=2*e) (mem_darts.2 (by rw[show 2*e / 2=e by omega];exact hx))).1)
 have hcl:∀ r,(p.v.filter fun v=>decide (v∈comp g p r)).length=(comp g p r).length:=fun r=>sub_verts r
 have key:∀ {R:List Int} {a b c:Int→Nat},(∀ r∈R,a r+b r≤2+c r)→(R.map a).sum+(R.map b).sum=2*R.length+(R.map c).sum→∀ r∈R,a r+b r=2+c r:=by
  intro R a b c
  induction R with
  | nil=>intro _ _ r hr;simp at hr
  | cons x R ih =>
   intro hle hs r hr
   simp only[List.map_cons,List.sum_cons,List.length_cons] at hs
   have hx:=hle x (by simp)
   have hR:(R.map a).sum+(R.map b).sum≤2*R.length+(R.map c).sum:=by
    have:∀ {R:List Int},(∀ r∈R,a r+b r≤2+c r)→(R.map a).sum+(R.map b).sum≤2*R.length+(R.map c).sum:=by
     intro R
     induction R with
     | nil=>intro _;simp
     | cons y R ih2 =>
      intro hl
      have:=hl y (by simp)
      have:=ih2 fun r hr=>hl r (by simp[hr])
      simp only[List.map_cons,List.sum_cons,List.length_cons]
      omega
    exact this fun r hr=>hle r (by simp[hr])
   rcases List.mem_cons.1 hr with rfl | hr
   ·omega
   exact ih (fun r hr=>hle r (by simp[hr])) (by omega) r hr
 intro r hr
 have:=key (R:=roots g p) (a:=fun r=>(p.v.filter fun v=>decide (v∈comp g p r)).length) (b:=fun r=>(W.filter fun f=>decide (f.corner g∈comp g p r)).length) (c:=fun r=>(p.e.filter fun e=>decide (g.tail (2*e)∈comp g p r)).length)
  (fun r hr=>by show (p.v.filter fun v=>decide (v∈comp g p r)).length+_≤_;rw[hcl];exact piece_le hpe ht hW r) (by rw[h1,h2,h3];exact he) r hr
 simp only[hcl] at this
 unfold genusAt
 have e:(2 - ((comp g p r).length:Int)+((p.e.filter fun e=>decide (g.tail (2*e)∈comp g p r)).length:Int) - ((W.filter fun f=>decide (f.corner g∈comp g p r)).length:Int))=0:=by omega
 rw[e];rfl
end
theorem mark_lof {g:Gr} {p:Pt} {turn:List (List Int)} {W:List Face} (ll:List (List Int)) (hpe:p.err g=0) (hW:WalksOk g p turn W) {f:Face} (hf:f∈W) {y:Int} (hy:y∈marks f):lf (leftOf ll W) y=numOf ll f.1:=by
 obtain⟨i,hi,hfi⟩:=List.getElem_of_mem hf
 have hp8:=places8_getD hi
 rw[show W.getD i (0,[])=f by simp[List.getD,hi,hfi]] at hp8
 unfold lf leftOf
 rw[regionAt_hit (places_nodup hpe hW) (by rw[places8_len];exact hi) (by rw[hp8];exact hy)]
 simp[List.getD,hi,hfi]
noncomputable def lof (g:Gr) (p:Pt) (turn same:List (List Int)) (x:Int):Int:=lf (leftOf (regionsOf g p turn same) (walksOf g p turn)) x
def RegR (g:Gr) (p:Pt) (turn same:List (List Int)) (x y:Int):Prop:=lof g p turn same x=lof g p turn same y
theorem RegR.eqv (g:Gr) (p:Pt) (turn same:List (List Int)):Eqv (RegR g p turn same):=eqv_eq.comap _
section
variable {g : Gr} {p q : Pt} {turn same : List (List Int)}
theorem zero_ok (hz:planErr g p turn same=0):p.err g=0∧TurnsOk g p turn:=turnErr_zero (flatErr_zero (planErr_zero hz).1).1
theorem mark_of (hpe:p.err g=0) (ht:TurnsOk g p turn) {x:Int} (hx:x∈ground g p turn p.v):∃ f∈walksOf g p turn,x∈marks f:=by
 have hW:=walks_ok hpe ht
 obtain⟨w1,w2⟩:=walk_rings hpe ht hW (Stretch.all (Pt.ok_of_err hpe))
 obtain⟨c,hc,hxc⟩:=List.mem_flatten.1 (w2.mem_iff.2 hx)
 obtain⟨f,hf,rfl⟩:=List.mem_map.1 hc
 exact⟨f,(List.mem_filter.1 hf).1,hxc⟩
theorem marks_ground (hpe:p.err g=0) (ht:TurnsOk g p turn) {f:Face} (hf:f∈walksOf g p turn):marks f∈walksIn g (walksOf g p turn) p.v∧∀ x∈marks f,x∈ground g p turn p.v:=by
 have h:=Pt.ok_of_err hpe
 have hW:=walks_ok hpe ht
 obtain⟨w1,w2⟩:=walk_rings hpe ht hW (Stretch.all h)
 have hm:marks f∈walksIn g (walksOf g p turn) p.v:=List.mem_map.2 ⟨f,List.mem_filter.2 ⟨hf,decide_eq_true (corner_mem h hW.faces f hf)⟩,rfl⟩
 exact⟨hm,fun x hx=>w2.mem_iff.1 (List.mem_flatten.2 ⟨_,hm,hx⟩)⟩
theorem key_mark (hpe:p.err g=0) (ht:TurnsOk g p turn) {f:Face} (hf:f∈walksOf g p turn):f.1∈marks f∧vert g f.1=f.corner g:=by
 have h:=Pt.ok_of_err hpe
 have hW:=walks_ok hpe ht
 match e:f.2 with
 | [] =>
  obtain⟨v,hv,-,e1⟩:=lone_of hW.faces hf e
  refine⟨by rw[marks_nil e];simp,?_⟩
  unfold Face.corner
  rw[e,e1,vert_lone (h.vr v hv).1]
  show v = -1 - (-1 - v)
  omega
 | d :: l =>
  have hk:=hW.faces.key f hf d l e
  have hm:f.1∈marks f:=by rw[marks_some (by rw[e];simp),e,hk];simp
  refine⟨hm,?_⟩
  have hd:f.1∈p.darts:=by
   rcases (all_ground h).1 ((marks_ground hpe ht hf).2 _ hm) with q | ⟨v,hv,e2,e3⟩
   ·exact q
   exfalso
   have hl:=lone_walk hW.faces hv e2
   have:=key_face (walks_keys hpe hW) hf hl e3
   rw[this] at e
   cases e
  rw[vert_dart h hd]
  unfold Face.corner
  rw[e]
theorem lof_cls (hz:planErr g p turn same=0) {f:Face} (hf:f∈walksOf g p turn) {y:Int} (hy:y∈marks f):lof g p turn same y=cls g p turn same f:=by
 obtain⟨hpe,hto⟩:=zero_ok hz
 exact mark_lof _ hpe (walks_ok hpe hto) hf hy
theorem lof_in (hz:planErr g p turn same=0) {x:Int} (hx:x∈ground g p turn p.v):lof g p turn same x∈upTo (regionsOf g p turn same).length:=by
 obtain⟨hpe,hto⟩:=zero_ok hz
 obtain⟨f,hf,hxf⟩:=mark_of hpe hto hx
 obtain⟨i,hi,-,e⟩:=cls_has (parted hz (walks_ok hpe hto)) hf
 rw[lof_cls hz hf hxf,e,mem_upTo]
 omega
theorem lof_all (hz:planErr g p turn same=0) {i:Nat} (hi:i<(regionsOf g p turn same).length):∃ f∈walksOf g p turn,cls g p turn same f=i:=by
 obtain⟨hpe,hto⟩:=zero_ok hz
 have hpt:=parted hz (walks_ok hpe hto)
 have hg:(regionsOf g p turn same).getD i []=(regionsOf g p turn same)[i]:=by simp[List.getD,hi]
 have hne:=hpt.ne _ ((regs_ok hpt).perm.mem_iff.1 (List.getElem_mem hi))
 rw[←hg] at hne
 obtain⟨k,hk⟩:=List.exists_mem_of_ne_nil _ hne
 obtain⟨f,hf,e,-⟩:=keysAt_mem.1 ((cls_keys hpt hi k).2 hk)
 exact⟨f,hf,e⟩
theorem cnt_regs (hz:planErr g p turn same=0):cnt (RegR g p turn same) (ground g p turn p.v)=(regionsOf g p turn same).length:=by
 obtain⟨hpe,hto⟩:=zero_ok hz
 rw[cnt_via (RegR.eqv g p turn same) eqv_eq (L:=upTo (regionsOf g p turn same).length) (lof g p turn same) (fun x hx=>lof_in hz hx) (fun x _ y _=>Iff.rfl) (fun z hzz=>?_),cnt_id (upTo_nodup _)]
 ·simp[upTo]
 obtain⟨h1,h2⟩:=mem_upTo.1 hzz
 obtain⟨f,hf,e⟩:=lof_all hz (i:=z.toNat) (by omega)
 have hm:=key_mark hpe hto hf
 refine⟨f.1,(marks_ground hpe hto hf).2 _ hm.1,?_⟩
 rw[lof_cls hz hf hm.1,e];omega
theorem regs_count (hz:planErr g p turn same=0) (hne:p.v≠[]):(roots g p).length+(regionsOf g p turn same).length=(walksOf g p turn).length+1:=by
 obtain⟨hpe,hto⟩:=zero_ok hz
 have h:=Pt.ok_of_err hpe
 have hW:=walks_ok hpe hto
 have hpt:=parted hz hW
 have hr:(roots g p).length≠0:=by
  obtain⟨v,hv⟩:=List.exists_mem_of_ne_nil _ hne
  obtain⟨r,hr,-⟩:=root_of (g:=g) (fun v hv=>(h.vr v hv).1) hv
  have:=List.length_pos_of_mem hr
  omega
 have h1:=(plan_tot hz).1 hr
 have h2:=(regs_ok hpt).perm.length_eq
 unfold allRegs at h2
 rw[List.length_append] at h2
 have h3:=singles_count hpt.keysNodup hpt.nodup hpt.keys
 omega
theorem piece_at (h:PartOk g p) {u:Int} (hu:u∈p.v):pieceIx g p u<(roots g p).length∧u∈comp g p ((roots g p).getD (pieceIx g p u) 0):=by
 obtain⟨r,hr,hc⟩:=root_of (g:=g) (fun v hv=>(h.vr v hv).1) hu
 obtain⟨n,hn,e⟩:=List.getElem_of_mem hr
 have hg:(roots g p).getD n 0=r:=by simp[List.getD,hn,e]
 have hm:u∈comp g p ((roots g p).getD n 0):=by rw[hg];exact mem_comp.2 ⟨hu,hc⟩
 have:=pieceIx_eq h hn hm
 rw[this]
 exact⟨hn,hm⟩
theorem piece_come (h:PartOk g p) {u v:Int} (hu:u∈p.v) (hv:v∈p.v) (e:pieceIx g p u=pieceIx g p v):Come g p (-1) u v:=by
 obtain⟨n1,c1⟩:=piece_at h hu
 obtain⟨-,c2⟩:=piece_at h hv
 rw[←e] at c2
 have hr:(roots g p).getD (pieceIx g p u) 0∈p.v:=(mem_roots.1 (getD_mem n1)).1
 have hne:(roots g p).getD (pieceIx g p u) 0≠-1:=by have:=(h.vr _ hr).1;omega
 exact ((mem_comp.1 c1).2.symm hne).2.trans (mem_comp.1 c2).2
theorem come_piece (h:PartOk g p) {u v:Int} (hu:u∈p.v) (hv:v∈p.v) (c:Come g p (-1) u v):pieceIx g p u=pieceIx g p v:=by
 obtain⟨n1,c1⟩:=piece_at h hu
 exact (pieceIx_eq h n1 (mem_comp.2 ⟨hv,(mem_comp.1 c1).2.trans c⟩)).symm
theorem tot_start (hz:planErr g p turn same=0) (J:Int→Int→Prop) (hJ:Eqv J) (h1:∀ x∈ground g p turn p.v,J x (bef g turn x)) (h2:∀ f∈p.e,J (2*f) (2*f+1)) (h3:∀ x∈ground g p turn p.v,∀ y∈ground g p turn p.v,RegR g p turn same x y→J x y) :
  ∀ x∈ground g p turn p.v,∀ y∈ground g p turn p.v,J x y:=by
 obtain⟨hpe,hto⟩:=zero_ok hz
 have h:=Pt.ok_of_err hpe
 have hW:=walks_ok hpe hto
 have hpt:=parted hz hW
 obtain⟨b1,b2⟩:=bef_rings h hto (Stretch.all h)
 have hpiece:∀ x∈ground g p turn p.v,∀ y∈ground g p turn p.v,pieceIx g p (vert g x)=pieceIx g p (vert g y)→J x y:=by
  intro x hx y hy e
  have c:=piece_come h (ground_vert h (Stretch.all h) hx) (ground_vert h (Stretch.all h) hy) e
  exact come_gen (S:=p.e) h (Stretch.all h) hJ (fun u hu w hw e=>Same.least hJ b1 (fun w hw=>h1 w (b2.mem_iff.1 hw)) (same_vert h hto (Stretch.all h) hu hw e)) (fun _ he=>he) (fun e he _=>h2 e he) (Come.congr (p:=p) (q:=⟨p.v,p.e⟩) rfl c) x hx rfl y hy rfl
 obtain⟨P,hP⟩:∃ P:Int→Int,∀ x,P x=(pieceIx g p (vert g x):Int):=⟨_,fun _=>rfl⟩
 have hpc:∀ x∈ground g p turn p.v,∀ y∈ground g p turn p.v,P x=P y→J x y:=fun x hx y hy e=>hpiece x hx y hy (by rw[hP,hP] at e;omega)
 let J':Int→Int→Prop:=fun a b=>a=b∨∃ x∈ground g p turn p.v,∃ y∈ground g p turn p.v,P x=a∧P y=b∧J x y
 have hJ':Eqv J':=by
  refine⟨fun x=>Or.inl rfl,fun {a b} k=>?_,fun {a b c} k m=>?_⟩
  ·rcases k with e | ⟨x,hx,y,hy,e1,e2,k⟩
   ·exact Or.inl e.symm
   exact Or.inr ⟨y,hy,x,hx,e2,e1,hJ.symm k⟩
  rcases k with e | ⟨x,hx,y,hy,e1,e2,k⟩
  ·rw[e];exact m
  rcases m with e | ⟨u,hu,v,hv,e3,e4,m⟩
  ·rw[←e];exact Or.inr ⟨x,hx,y,hy,e1,e2,k⟩
  exact Or.inr ⟨x,hx,v,hv,e1,e4,hJ.trans k (hJ.trans (hpc y hy u hu (e2.trans e3.symm)) m)⟩
 have htot:=(plan_tot hz).2 J' hJ' (fun l hl k hk=>by
  have hla:l∈regionsOf g p turn same:=(regs_ok hpt).perm.mem_iff.2 (List.mem_append.2 (Or.inl hl))
  obtain⟨i,hi,e⟩:=List.getElem_of_mem hla
  have hg:(regionsOf g p turn same).getD i []=l:=by simp[List.getD,hi,e]
  have face:∀ y∈l,∃ f∈walksOf g p turn,f.1=y∧cls g p turn same f=i:=by
   intro y hy
   obtain⟨f,hf,e1,e2⟩:=keysAt_mem.1 ((cls_keys hpt hi y).2 (by rw[hg];exact hy))
   exact⟨f,hf,e2,e1⟩
  have h0:l.getD 0 0∈l:=getD_mem (List.length_pos_of_mem hk)
  obtain⟨f,hf,e1,e2⟩:=face _ h0
  obtain⟨x,hx,e3,e4⟩:=face k hk
  rw[←e1,←e3,own_corner hpe hto hf,own_corner hpe hto hx]
  obtain⟨a1,a2⟩:=key_mark hpe hto hf
  obtain⟨b1,b2⟩:=key_mark hpe hto hx
  refine Or.inr ⟨f.1,(marks_ground hpe hto hf).2 _ a1,x.1,(marks_ground hpe hto hx).2 _ b1,by rw[hP,a2],by rw[hP,b2],h3 _ ((marks_ground hpe hto hf).2 _ a1) _ ((marks_ground hpe hto hx).2 _ b1) ?_⟩
  show lof g p turn same f.1=lof g p turn same x.1
  rw[lof_cls hz hf a1,lof_cls hz hx b1,e2,e4])
 intro x hx y hy
 have hin:∀ x∈ground g p turn p.v,P x∈upTo (roots g p).length:=fun x hx=>by
  rw[mem_upTo,hP]
  have:=(piece_at h (ground_vert h (Stretch.all h) hx)).1
  omega
 rcases htot _ (hin x hx) _ (hin y hy) with e | ⟨u,hu,v,hv,e1,e2,k⟩
 ·exact hpc x hx y hy e
 exact hJ.trans (hpc x hx u hu e1.symm) (hJ.trans k (hpc v hv y hy e2))
theorem cut_start (hz:planErr g p turn same=0) (hne:p.v≠[]) {S:List Int} (hS:S.Perm p.e):Cut (bef g turn) (bRings turn p.v) (ground g p turn p.v) (RegR g p turn same) [] S:=by
 obtain⟨hpe,hto⟩:=zero_ok hz
 have h:=Pt.ok_of_err hpe
 have hW:=walks_ok hpe hto
 have hSn:S.Nodup:=hS.nodup_iff.2 h.en
 have hsub:Subs g p p turn:=⟨hpe,hpe,hto,fun _ h=>h,fun _ h=>h⟩
 refine⟨by simp,fun e he=>edges_in h (Stretch.all h) (by rw[edges_all h];exact hS.mem_iff.1 he),fun x hx=>?_,fun C hC hCK=>?_⟩
 ·show lof g p turn same x=lof g p turn same (bef g turn (tw S x))
  rcases (all_ground h).1 hx with hd | ⟨v,hv,-,rfl⟩
  ·rw[go_dart h hSn hd (hS.mem_iff.2 (mem_darts.1 hd))]
   unfold lof lf
   rw[(left_next _ hpe hW hd).1]
  rw[go_key hSn (fun e he=>h.er e (hS.mem_iff.1 he)) (by have:=(h.vr v hv).1;omega)]
 have htw:∀ x,tw S x=tw p.e x:=fun x=>by
  rw[tw_eq hSn,tw_eq h.en]
  by_cases q:x / 2∈p.e
  ·rw[if_pos q,if_pos (hS.mem_iff.2 q)]
  rw[if_neg q,if_neg (fun k=>q (hS.mem_iff.1 k))]
 have hC2:RingsOf g p p turn C:=⟨hC.congr fun x _=>by show bef g turn (tw S x)=bef g turn (tw p.e x);rw[htw],hCK⟩
 obtain⟨w1,w2⟩:=walk_rings hpe hto hW (Stretch.all h)
 rw[edges_all h] at w1
 have hlen:=Rings.count hC2.rings w1 (hCK.trans w2.symm)
 rw[walks_all h hW.faces] at hlen
 have hpc:=cnt_pieces hsub
 have hdr:=drop_len hsub
 have hE:=Same.eqv (bef_rings h hto (Stretch.all h)).1.nodup
 have hgen:cnt (Gen (Same (bRings turn p.v)) S) (ground g p turn p.v)=cnt (Gen (Same (bRings turn p.v)) p.e) (ground g p turn p.v) :=
  cnt_congr (Gen.eqv hE S) (Gen.eqv hE p.e) fun x _ y _=>⟨fun k=>Gen.mono hE (fun e he=>hS.mem_iff.1 he) k,fun k=>Gen.mono hE (fun e he=>hS.mem_iff.2 he) k⟩
 have hr:=regs_count hz hne
 have heu:=euler h hto hW.faces (flatErr_zero (planErr_zero hz).1).2
 have hreg:cnt (Gen (RegR g p turn same) []) (ground g p turn p.v)=(regionsOf g p turn same).length:=cnt_regs hz
 rw[bRings_len,hgen,hpc,hreg,hS.length_eq]
 omega
theorem rings_cut {b:Int→Int} {K S:List Int}:∀ {T:List Int},(∀ e∈T,2*e∈K∧2*e+1∈K)→∀ {C:List (List Int)},Rings (fun x=>b (tw (T++S) x)) C→C.flatten.Perm K→∃ D,Rings (fun x=>b (tw S x)) D∧D.flatten.Perm K
 | [],_,C,hC,hCK=>⟨C,hC,hCK⟩
 | e :: T,hT,C,hC,hCK=>by
  obtain⟨he1,he2⟩:=hT e (by simp)
  obtain⟨D,hD,hDC,-⟩:=hC.swap2 (hCK.mem_iff.2 he1) (hCK.mem_iff.2 he2) (even_odd_ne e)
  refine rings_cut (T:=T) (fun f hf=>hT f (List.mem_cons_of_mem _ hf)) (C:=D) (hD.congr fun x _=>?_) (hDC.trans hCK)
  show b (tw (e :: (T++S)) (swp _ _ x))=_
  rw[tw_swp]
def outE (p q:Pt):List Int:=p.e.filter fun e=>decide (e ∉ q.e)
theorem out_perm (h:Subs g p q turn):(outE p q++q.e).Perm p.e:=by
 refine (List.perm_ext_iff_of_nodup ?_ h.pk.en).2 fun x=>?_
 ·rw[List.nodup_append]
  refine⟨h.pk.en.filter _,h.qk.en,fun a ha b hb e=>?_⟩
  have:=of_decide_eq_true (List.mem_filter.1 ha).2
  rw[e] at this
  exact this hb
 rw[List.mem_append]
 unfold outE
 rw[List.mem_filter,decide_eq_true_iff]
 constructor
 ·rintro (k | k)
  ·exact k.1
  exact h.sube x k
 intro k
 by_cases q:x∈q.e
 ·exact Or.inr q
 exact Or.inl ⟨k,q⟩
def GenR (g:Gr) (p q:Pt) (turn same:List (List Int)):Int→Int→Prop:=Gen (RegR g p turn same) ((outE p q).reverse++[])
theorem GenR.eqv:Eqv (GenR g p q turn same):=Gen.eqv (RegR.eqv g p turn same) _
theorem rest_cut (hz:planErr g p turn same=0) (h:Subs g p q turn) (hne:p.v≠[]):Cut (bef g turn) (bRings turn p.v) (ground g p turn p.v) (RegR g p turn same) ((outE p q).reverse++[]) q.e:=by
 obtain⟨b1,b2⟩:=bef_rings h.pk h.to_ (Stretch.all h.pk)
 exact Cut.all b1 b2 (RegR.eqv g p turn same) (A:=p.e) (fun J hJ j1 j2 j3=>tot_start hz J hJ j1 j2 j3) (fun f hf=>Or.inr ((out_perm h).mem_iff.2 hf)) (cut_start hz hne (out_perm h))
theorem rest_rings (h:Subs g p q turn):∃ C,RingsOf g p q turn C:=by
 have hW:=walks_ok h.pe h.to_
 obtain⟨w1,w2⟩:=walk_rings h.pe h.to_ hW (Stretch.all h.pk)
 rw[edges_all h.pk] at w1
 have hpm:=out_perm h
 have hn:(outE p q++q.e).Nodup:=hpm.nodup_iff.2 h.pk.en
 obtain⟨D,hD,hDK⟩:=rings_cut (b:=bef g turn) (K:=ground g p turn p.v) (S:=q.e) (T:=outE p q) (fun e he=>edges_in h.pk (Stretch.all h.pk) (by rw[edges_all h.pk];exact (List.mem_filter.1 he).1)) (C:=walksIn g (walksOf g p turn) p.v) (w1.congr fun x _=>by
  show bef g turn (tw p.e x)=bef g turn (tw (outE p q++q.e) x)
  congr 1
  rw[tw_eq hn,tw_eq h.pk.en]
  by_cases k:x / 2∈p.e
  ·rw[if_pos k,if_pos (hpm.mem_iff.2 k)]
  rw[if_neg k,if_neg (fun m=>k (hpm.mem_iff.1 m))]) w2
 exact⟨D,hD,hDK⟩
theorem gen_side {x y:Int}:GenR g p q turn same x y↔sideRel (leftOf (regionsOf g p turn same) (walksOf g p turn)) p (evens q.e) (lof g p turn same x) (lof g p turn same y):=by
 obtain⟨L,hL⟩:∃ L,leftOf (regionsOf g p turn same) (walksOf g p turn)=L:=⟨_,rfl⟩
 have hlof:∀ x,lof g p turn same x=lf L x:=fun x=>by unfold lof;rw[hL]
 have hR:Eqv (RegR g p turn same):=RegR.eqv g p turn same
 have hG:=GenR.eqv (g:=g) (p:=p) (q:=q) (turn:=turn) (same:=same)
 have hout:∀ e,e∈(outE p q).reverse++[]↔e∈p.e∧e ∉ q.e:=fun e=>by
  rw[List.append_nil,List.mem_reverse];unfold outE;rw[List.mem_filter,decide_eq_true_iff]
 rw[hL]
 constructor
 ·intro k
  refine Gen.least (R:=RegR g p turn same) (Q:=fun x y=>sideRel L p (evens q.e) (lof g p turn same x) (lof g p turn same y)) ⟨fun x=>St.rel_refl _ _,fun k=>St.rel_symm k,fun k m=>St.rel_trans k m⟩ (fun x y e=>?_) (fun e he=>?_) k
  ·have e:lof g p turn same x=lof g p turn same y:=e
   show sideRel L p (evens q.e) _ _
   rw[e];exact St.rel_refl _ _
  obtain⟨h1,h2⟩:=(hout e).1 he
  show sideRel L p (evens q.e) (lof g p turn same _) (lof g p turn same _)
  rw[hlof,hlof]
  exact sideRel_edge h1 (by rw[evens_half];exact h2)
 intro k
 have hb:∀ {u v:Int},lof g p turn same u=lof g p turn same v→GenR g p q turn same u v:=fun e=>Gen.base (R:=RegR g p turn same) e _
 have:=sideRel_least (R:=fun a b=>a=b∨∃ u v,lof g p turn same u=a∧lof g p turn same v=b∧GenR g p q turn same u v) (fun _=>Or.inl rfl) (fun a b k=>by
  rcases k with e | ⟨u,v,e1,e2,k⟩
  ·exact Or.inl e.symm
  ·exact Or.inr ⟨v,u,e2,e1,hG.symm k⟩) (fun a b c k m=>by
  rcases k with e | ⟨u,v,e1,e2,k⟩
  ·rw[e];exact m
  rcases m with e | ⟨u',v',e3,e4,m⟩
  ·rw[←e];exact Or.inr ⟨u,v,e1,e2,k⟩
  exact Or.inr ⟨u,v',e1,e4,hG.trans k (hG.trans (hb (e2.trans e3.symm)) m)⟩) (fun e he hn=>Or.inr ⟨2*e,2*e+1,hlof _,hlof _,Gen.edge hR ((hout e).2 ⟨he,by rw[evens_half] at hn;exact hn⟩)⟩) k
 rcases this with e | ⟨u,v,e1,e2,k⟩
 ·exact hb e
 exact hG.trans (hb e1.symm) (hG.trans k (hb e2))
theorem place_stand (hpe:p.err g=0) (ht:TurnsOk g p turn) {f:Face} (hf:f∈walksOf g p turn) (turn0:List (List Int)):place turn0 f=stand turn0 f.1:=by
 have h:=Pt.ok_of_err hpe
 have hW:=walks_ok hpe ht
 unfold place stand
 by_cases e:f.2=[]
 ·obtain⟨v,hv,-,e1⟩:=lone_of hW.faces hf e
  have:=(h.vr v hv).1
  rw[if_pos e,if_pos (by omega)]
 have hm:=(key_mark hpe ht hf).1
 rcases (all_ground h).1 ((marks_ground hpe ht hf).2 _ hm) with q | ⟨v,hv,e2,e3⟩
 ·rw[if_neg e,if_neg (by have:=dart_pos h q;omega)]
 exfalso
 have hl:=lone_walk hW.faces hv e2
 have:=key_face (walks_keys hpe hW) hf hl e3
 rw[this] at e
 exact e rfl
theorem walk_beside (hz:planErr g p turn same=0) (h:Subs g p q turn) (hne:p.v≠[]) {k:Int} (hk:k∈ground g p turn p.v) (hkq:vert g k∈q.v) :
  ∃ f∈walksOf g q (restTurn q.e turn),GenR g p q turn same k (place turn f)∧ownAt g q (restTurn q.e turn) f.1=(pieceIx g q (vert g k):Int):=by
 obtain⟨C,hC⟩:=rest_rings h
 have cut:=rest_cut hz h hne
 obtain⟨f,hf,hm⟩:=mark_of h.qe h.turns (lnd_mem h hk hkq)
 have hkm:=key_mark h.qe h.turns hf
 refine⟨f,hf,?_,?_⟩
 ·rw[place_stand h.qe h.turns hf]
  have s1:=same_out h hC hk
  have s2:=same_stand h hC (x:=lnd g turn q.e k) (y:=f.1) (Or.inr ⟨marks f,(marks_ground h.qe h.turns hf).1,hm,hkm.1⟩)
  exact Same.least (GenR.eqv (g:=g) (p:=p) (q:=q) (turn:=turn) (same:=same)) hC.rings (fun w hw=>cut.left w (hC.all.mem_iff.1 hw)) ((Same.eqv hC.rings.nodup).trans s1 s2)
 rw[own_corner h.qe h.turns hf]
 have hW:=walks_ok h.qe h.turns
 have hv:=lnd_vert h hk
 have hcm:=corner_mem h.qk hW.faces f hf
 by_cases e:f.2=[]
 ·rw[marks_nil e] at hm
  have hm:lnd g turn q.e k=f.1:=by simpa using hm
  rw[←hv,hm,hkm.2]
 rw[marks_some e] at hm
 obtain⟨n1,c1⟩:=piece_at h.qk hcm
 obtain⟨d1,d2⟩:=walk_const h.qk h.turns hW.faces (comp_closed h.qk _) hf hm
 have h3:=d2.2 c1
 rw[←hv,vert_dart h.qk d1,pieceIx_eq h.qk n1 h3]
theorem walk_any (hz:planErr g p turn same=0) (h:Subs g p q turn) (hqn:q.v≠[]) {k:Int} (hk:k∈ground g p turn p.v):∃ f∈walksOf g q (restTurn q.e turn),GenR g p q turn same k (place turn f):=by
 have hne:p.v≠[]:=by
  obtain⟨v,hv⟩:=List.exists_mem_of_ne_nil _ hqn
  exact List.ne_nil_of_mem (h.subv v hv)
 have hG:=GenR.eqv (g:=g) (p:=p) (q:=q) (turn:=turn) (same:=same)
 have cut:=rest_cut hz h hne
 by_cases hex:∃ u∈ground g p turn p.v,vert g u∈q.v∧GenR g p q turn same k u
 ·obtain⟨u,hu,huq,hku⟩:=hex
  obtain⟨f,hf,h1,-⟩:=walk_beside hz h hne hu huq
  exact⟨f,hf,hG.trans hku h1⟩
 exfalso
 have hno:∀ u∈ground g p turn p.v,GenR g p q turn same k u→vert g u ∉ q.v:=fun u hu hku hv=>hex ⟨u,hu,hv,hku⟩
 have off:∀ u∈ground g p turn p.v,vert g u ∉ q.v→GenR g p q turn same u (bef g turn u):=by
  intro u hu hv
  have hl:=cut.left u hu
  rcases (all_ground h.pk).1 hu with hd | ⟨v,hv2,-,rfl⟩
  ·have hnq:u / 2 ∉ q.e:=fun m=>by
    have:=(h.qk.tail_mem (mem_darts.2 m)).1
    rw[vert_dart h.pk hd] at hv
    exact hv this
   rw[go_off h.pk h.qk.en hd hnq] at hl
   have h0:=dart_pos h.pk hd
   unfold bef
   rw[if_neg (by omega)]
   exact hl
  unfold bef
  rw[if_pos (by have:=(h.pk.vr v hv2).1;omega)]
  exact hG.refl _
 have hJ:Eqv fun u v=>(GenR g p q turn same k u↔GenR g p q turn same k v):=⟨fun _=>Iff.rfl,fun k=>k.symm,fun k m=>k.trans m⟩
 have ht:=tot_start hz _ hJ (fun u hu=>by
  have hvb:=vert_bef h.pk h.to_ (Stretch.all h.pk) hu
  constructor
  ·intro m
   exact hG.trans m (off u hu (hno u hu m))
  ·intro m
   have hv:=hno _ hvb.1 m
   rw[hvb.2] at hv
   exact hG.trans m (hG.symm (off u hu hv))) (fun f hf=>by
  have hg2:=edges_in (turn:=turn) h.pk (Stretch.all h.pk) (by rw[edges_all h.pk];exact hf)
  by_cases hq:f∈q.e
  ·have d1:2*f∈q.darts:=mem_darts.2 (by rwa[show 2*f / 2=f by omega])
   have d2:2*f+1∈q.darts:=mem_darts.2 (by rwa[show (2*f+1) / 2=f by omega])
   exact⟨fun m=>absurd (by rw[vert_dart h.qk d1];exact (h.qk.tail_mem d1).1) (hno _ hg2.1 m),fun m=>absurd (by rw[vert_dart h.qk d2];exact (h.qk.tail_mem d2).1) (hno _ hg2.2 m)⟩
  ·have he:GenR g p q turn same (2*f) (2*f+1):=Gen.edge (RegR.eqv g p turn same) (by
    rw[List.append_nil,List.mem_reverse];exact List.mem_filter.2 ⟨hf,decide_eq_true hq⟩)
   exact⟨fun m=>hG.trans m he,fun m=>hG.trans m (hG.symm he)⟩) (fun u hu v hv m=>by
  have he:GenR g p q turn same u v:=Gen.base m _
  exact⟨fun m=>hG.trans m he,fun m=>hG.trans m (hG.symm he)⟩)
 obtain⟨v,hv⟩:=List.exists_mem_of_ne_nil _ hqn
 obtain⟨s1,s2⟩:=seat_mem h.pk h.to_ (h.subv v hv)
 exact hno _ s1 ((ht k hk _ s1).1 (hG.refl k)) (by rw[s2];exact hv)
theorem rest_cls (_h:Subs g p q turn) {f x:Face}:restCls (leftOf (regionsOf g p turn same) (walksOf g p turn)) p q.e turn f=restCls (leftOf (regionsOf g p turn same) (walksOf g p turn)) p q.e turn x↔GenR g p q turn same (place turn f) (place turn x):=restCls_iff.trans gen_side.symm
theorem place_mem (h:Subs g p q turn) {f:Face} (hf:f∈walksOf g q (restTurn q.e turn)):place turn f∈ground g p turn p.v∧vert g (place turn f)=f.corner g:=by
 obtain⟨k1,k2⟩:=key_mark h.qe h.turns hf
 have:=stand_mem h ((marks_ground h.qe h.turns hf).2 _ k1)
 rw[place_stand h.qe h.turns hf,←k2]
 exact this
theorem rest_ncls (hz:planErr g p turn same=0) (h:Subs g p q turn) (hqn:q.v≠[]):cnt (GenR g p q turn same) (ground g p turn p.v)=nCls (restCls (leftOf (regionsOf g p turn same) (walksOf g p turn)) p q.e turn) (walksOf g q (restTurn q.e turn)) :=
 nCls_cnt (walks_keys h.qe (walks_ok h.qe h.turns)) GenR.eqv (fun _f hf=>(place_mem h hf).1) (fun _f _ _x _=>rest_cls h) (fun _k hk=>walk_any hz h hqn hk)
theorem rest_counts (hz:planErr g p turn same=0) (h:Subs g p q turn) (hqn:q.v≠[]) :
  q.v.length+(walksOf g q (restTurn q.e turn)).length=2*(roots g q).length+q.e.length∧(roots g q).length+cnt (GenR g p q turn same) (ground g p turn p.v)=(walksOf g q (restTurn q.e turn)).length+1:=by
 have hne:p.v≠[]:=by
  obtain⟨v,hv⟩:=List.exists_mem_of_ne_nil _ hqn
  exact List.ne_nil_of_mem (h.subv v hv)
 obtain⟨C,hC⟩:=rest_rings h
 obtain⟨f1,f2⟩:=(rest_cut hz h hne).flat C hC.rings hC.all
 have h1:=cnt_walks h hC
 have h2:=cnt_pieces h
 have h3:=drop_len h
 rw[bRings_len] at f1
 have e:cnt (GenR g p q turn same) (ground g p turn p.v)=cnt (Gen (RegR g p turn same) ((outE p q).reverse++[])) (ground g p turn p.v):=rfl
 omega
theorem no_walks (h:Subs g p q turn) (hqn:q.v=[]):walksOf g q (restTurn q.e turn)=[]:=by
 have hW:=walks_ok h.qe h.turns
 cases e:walksOf g q (restTurn q.e turn) with
 | nil=>rfl
 | cons f W =>
  have:=corner_mem h.qk hW.faces f (by rw[e];simp)
  rw[hqn] at this
  cases this
theorem rest_right (hz:planErr g p turn same=0) (hqe:q.err g=0) (hsub:∀ e∈q.e,e∈p.e) (hsv:∀ v∈q.v,v∈p.v):planErr g q (restTurn q.e turn) (restSame g p q turn same)=0:=by
 obtain⟨hpe,hto⟩:=zero_ok hz
 have h:Subs g p q turn:=⟨hpe,hqe,hto,hsub,hsv⟩
 have hW:=walks_ok h.qe h.turns
 by_cases hqn:q.v=[]
 ·have hw:=no_walks h hqn
  have hs:restSame g p q turn same=[]:=by unfold restSame;rw[hw];rfl
  have hr:roots g q=[]:=by
   cases e:roots g q with
   | nil=>rfl
   | cons r R =>
    have:=(mem_roots.1 (show r∈roots g q by rw[e];simp)).1
    rw[hqn] at this
    cases this
  rw[hs,←planErr_first]
  refine lone_plan ?_
  unfold loneErr
  have hf:flatErr g q (restTurn q.e turn)=0:=flatErr_ok (turnErr_ok hqe h.turns) (fun r hr2=>by rw[hr] at hr2;cases hr2)
  rw[if_neg (by simp[hf]),if_pos (by rw[hr];simp)]
 obtain⟨c1,c2⟩:=rest_counts hz h hqn
 have hn:=rest_ncls hz h hqn
 have hne:p.v≠[]:=by
  obtain⟨v,hv⟩:=List.exists_mem_of_ne_nil _ hqn
  exact List.ne_nil_of_mem (h.subv v hv)
 refine plan_grps hqe h.turns (flat_of hqe h.turns hW c1) (by omega) fun J hJ hj=>?_
 have hG:=GenR.eqv (g:=g) (p:=p) (q:=q) (turn:=turn) (same:=same)
 have cut:=rest_cut hz h hne
 have hcl:∀ {f x:Face},f∈walksOf g q (restTurn q.e turn)→x∈walksOf g q (restTurn q.e turn)→GenR g p q turn same (place turn f) (place turn x)→J (ownAt g q (restTurn q.e turn) f.1) (ownAt g q (restTurn q.e turn) x.1):=fun hf hx k=>hj _ hf _ hx ((rest_cls h).2 k)
 let J':Int→Int→Prop:=fun u v=>u=v∨∃ f∈walksOf g q (restTurn q.e turn),∃ x∈walksOf g q (restTurn q.e turn),GenR g p q turn same u (place turn f)∧GenR g p q turn same v (place turn x)∧J (ownAt g q (restTurn q.e turn) f.1) (ownAt g q (restTurn q.e turn) x.1)
 have hJ':Eqv J':=by
  refine⟨fun _=>Or.inl rfl,fun {u v} k=>?_,fun {u v w} k m=>?_⟩
  ·rcases k with e | ⟨f,hf,x,hx,k1,k2,k3⟩
   ·exact Or.inl e.symm
   exact Or.inr ⟨x,hx,f,hf,k2,k1,hJ.symm k3⟩
  rcases k with e | ⟨f,hf,x,hx,k1,k2,k3⟩
  ·rw[e];exact m
  rcases m with e | ⟨f',hf',x',hx',m1,m2,m3⟩
  ·rw[←e];exact Or.inr ⟨f,hf,x,hx,k1,k2,k3⟩
  exact Or.inr ⟨f,hf,x',hx',k1,m2,hJ.trans k3 (hJ.trans (hcl hx hf' (hG.trans (hG.symm k2) m1)) m3)⟩
 have hgen:∀ u∈ground g p turn p.v,∀ v,GenR g p q turn same u v→J' u v:=fun u hu v k=>by
  obtain⟨f,hf,h1⟩:=walk_any hz h hqn hu
  exact Or.inr ⟨f,hf,f,hf,h1,hG.trans (hG.symm k) h1,hJ.refl _⟩
 have hpc:∀ u∈ground g p turn p.v,∀ v∈ground g p turn p.v,vert g u∈q.v→vert g v∈q.v→pieceIx g q (vert g u)=pieceIx g q (vert g v)→J' u v:=fun u hu v hv huq hvq e=>by
  obtain⟨f,hf,h1,o1⟩:=walk_beside hz h hne hu huq
  obtain⟨x,hx,h2,o2⟩:=walk_beside hz h hne hv hvq
  exact Or.inr ⟨f,hf,x,hx,h1,h2,by rw[o1,o2,e];exact hJ.refl _⟩
 have ht:=tot_start hz J' hJ' (fun u hu=>by
  have hvb:=vert_bef h.pk h.to_ (Stretch.all h.pk) hu
  by_cases huq:vert g u∈q.v
  ·exact hpc u hu _ hvb.1 huq (by rw[hvb.2];exact huq) (by rw[hvb.2])
  ·refine hgen u hu _ ?_
   have hl:=cut.left u hu
   rcases (all_ground h.pk).1 hu with hd | ⟨v,hv2,-,rfl⟩
   ·have hnq:u / 2 ∉ q.e:=fun m=>by
     have:=(h.qk.tail_mem (mem_darts.2 m)).1
     rw[vert_dart h.pk hd] at huq
     exact huq this
    rw[go_off h.pk h.qk.en hd hnq] at hl
    have h0:=dart_pos h.pk hd
    unfold bef
    rw[if_neg (by omega)]
    exact hl
   unfold bef
   rw[if_pos (by have:=(h.pk.vr v hv2).1;omega)]
   exact hG.refl _) (fun f hf=>by
  have hg2:=edges_in (turn:=turn) h.pk (Stretch.all h.pk) (by rw[edges_all h.pk];exact hf)
  by_cases hq:f∈q.e
  ·have d1:2*f∈q.darts:=mem_darts.2 (by rwa[show 2*f / 2=f by omega])
   have d2:2*f+1∈q.darts:=mem_darts.2 (by rwa[show (2*f+1) / 2=f by omega])
   have e2:twin (2*f)=2*f+1:=by unfold twin;rw[if_pos (by omega)]
   have e3:g.tail (2*f+1)=g.head (2*f):=by rw[←e2,tail_twin]
   have t1:=h.qk.tail_mem d1
   refine hpc _ hg2.1 _ hg2.2 (by rw[vert_dart h.qk d1];exact t1.1) (by rw[vert_dart h.qk d2,e3];exact t1.2) ?_
   rw[vert_dart h.qk d1,vert_dart h.qk d2,e3]
   exact come_piece h.qk t1.1 t1.2 (Come.step .here (near_dart d1) (fun k=>by have:=(h.qk.vr _ t1.2).1;omega))
  exact hgen _ hg2.1 _ (Gen.edge (RegR.eqv g p turn same) (by
   rw[List.append_nil,List.mem_reverse];exact List.mem_filter.2 ⟨hf,decide_eq_true hq⟩))) (fun u hu v hv m=>hgen u hu v (Gen.base m _))
 have pick:∀ a∈upTo (roots g q).length,∃ k∈ground g p turn p.v,vert g k∈q.v∧(pieceIx g q (vert g k):Int)=a:=by
  intro a ha
  obtain⟨a1,a2⟩:=mem_upTo.1 ha
  have hn:a.toNat<(roots g q).length:=by omega
  have hr:=(mem_roots.1 (getD_mem hn)).1
  obtain⟨s1,s2⟩:=seat_mem h.pk h.to_ (h.subv _ hr)
  refine⟨_,s1,by rw[s2];exact hr,?_⟩
  rw[s2,pieceIx_eq h.qk hn (mem_comp.2 ⟨hr,.here⟩)]
  omega
 intro a ha b hb
 obtain⟨u,hu,huq,eu⟩:=pick a ha
 obtain⟨v,hv,hvq,ev⟩:=pick b hb
 obtain⟨fu,hfu,ru,ou⟩:=walk_beside hz h hne hu huq
 obtain⟨fv,hfv,rv,ov⟩:=walk_beside hz h hne hv hvq
 rcases ht u hu v hv with e | ⟨f,hf,x,hx,k1,k2,k3⟩
 ·rw[←eu,←ev,e];exact hJ.refl _
 have j1:=hcl hfu hf (hG.trans (hG.symm ru) k1)
 have j2:=hcl hx hfv (hG.trans (hG.symm k2) rv)
 rw[ou,eu] at j1
 rw[ov,ev] at j2
 exact hJ.trans j1 (hJ.trans k3 j2)
end
end Go.Proofs.YtkacjmoamgjfpaaGreat.Plain
