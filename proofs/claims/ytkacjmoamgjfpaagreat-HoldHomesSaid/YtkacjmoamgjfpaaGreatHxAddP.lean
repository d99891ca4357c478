/- A vertex added at its home: the lists are those of what is held with it. No program here. -/
import Derived.Test.YtkacjmoamgjfpaaGreatHxHoldAgainW
namespace Go.Proofs.YtkacjmoamgjfpaaGreat.Plain
def addR (R:List (List Int)) (k:Nat):List (List Int):=(R.take k).map (fun l=>l.mergeSort fun x y=>decide (x≤y))++R.drop k
def addL (R:List (List Int)) (k:Nat):List (List Int):=((R.take k).filter fun l=>decide (1<l.length)).map fun l=>l.mergeSort fun x y=>decide (x≤y)
theorem addR_zero (R:List (List Int)):addR R 0=R:=by simp[addR]
theorem addR_len (R:List (List Int)) (k:Nat):(addR R k).length=R.length:=by simp[addR];omega
theorem addR_get {R:List (List Int)} {k i:Nat} (hi:i<R.length) (hk:k≤i):(addR R k).getD i []=R.getD i []:=by
 unfold addR
 have hkl:((R.take k).map fun l=>l.mergeSort fun x y=>decide (x≤y)).length=k:=by simp;omega
 simp only[List.getD]
 rw[List.getElem?_append_right (by omega),hkl,List.getElem?_drop,show k+(i - k)=i by omega]
theorem addR_step {R:List (List Int)} {k:Nat} (hk:k<R.length):addR R (k+1)=(addR R k).set k ((R.getD k []).mergeSort fun x y=>decide (x≤y)):=by
 unfold addR
 have hkl:((R.take k).map fun l=>l.mergeSort fun x y=>decide (x≤y)).length=k:=by simp;omega
 have hg:R.getD k []=R[k]:=by simp[List.getD,hk]
 rw[List.take_succ_eq_append_getElem hk,List.map_append,List.append_assoc,List.set_append_right _ _ (by omega),hkl,Nat.sub_self,List.drop_eq_getElem_cons hk,hg]
 rfl
theorem addL_zero (R:List (List Int)):addL R 0=[]:=rfl
theorem sort_short {l:List Int} (h:¬ 1<l.length):(l.mergeSort fun x y=>decide (x≤y))=l:=by
 match l,h with
 | [],_=>rw[List.mergeSort_nil]
 | [x],_=>rw[List.mergeSort_singleton]
 | x :: y :: l,h=>simp at h
theorem addR_skip {R:List (List Int)} {k:Nat} (hk:k<R.length) (h:¬ 1<(R.getD k []).length):addR R (k+1)=addR R k:=by
 rw[addR_step hk,sort_short h,←addR_get (R:=R) hk (Nat.le_refl k)]
 have hl:k<(addR R k).length:=by rw[addR_len];exact hk
 refine List.ext_getElem (by simp) fun i h1 h2=>?_
 rw[List.getElem_set]
 split
 ·rename_i e;subst e;simp[List.getD,hl]
 rfl
theorem addL_skip {R:List (List Int)} {k:Nat} (hk:k<R.length) (h:¬ 1<(R.getD k []).length):addL R (k+1)=addL R k:=by
 unfold addL
 have hg:R.getD k []=R[k]:=by simp[List.getD,hk]
 rw[hg] at h
 rw[List.take_succ_eq_append_getElem hk,List.filter_append,List.filter_cons_of_neg (by simpa using h)]
 simp
theorem addL_step {R:List (List Int)} {k:Nat} (hk:k<R.length) (h:1<(R.getD k []).length):addL R (k+1)=addL R k++[(R.getD k []).mergeSort fun x y=>decide (x≤y)]:=by
 unfold addL
 have hg:R.getD k []=R[k]:=by simp[List.getD,hk]
 rw[hg] at h ⊢
 rw[List.take_succ_eq_append_getElem hk,List.filter_append,List.filter_cons_of_pos (by simpa using h),List.map_append]
 rfl
theorem addL_len (R:List (List Int)) (k:Nat):(addL R k).length≤k:=by
 unfold addL
 rw[List.length_map]
 exact Nat.le_trans (List.length_filter_le _ _) (by simp;omega)
theorem addL_mem {R:List (List Int)} {k:Nat} {l:List Int} (h:l∈addL R k):∃ m∈R,l.Perm m∧1<m.length:=by
 obtain⟨m,hm,rfl⟩:=List.mem_map.1 h
 obtain⟨h1,h2⟩:=List.mem_filter.1 hm
 exact⟨m,List.mem_of_mem_take h1,List.mergeSort_perm _ _,of_decide_eq_true h2⟩
def sorted (l:List Int):List Int:=l.mergeSort fun x y=>decide (x≤y)
def addTo (R:List (List Int)) (n:Nat) (x:Int):List (List Int):=((R.set n (R.getD n []++[x])).filter fun l=>decide (1<l.length)).map sorted
theorem addL_all (R:List (List Int)) (n:Nat) (x:Int):addL (R.set n (R.getD n []++[x])) (R.set n (R.getD n []++[x])).length=addTo R n x:=by
 unfold addL addTo
 rw[List.take_length];rfl
theorem sorted_perm (l:List Int):(sorted l).Perm l:=List.mergeSort_perm _ _
theorem sorted_le (l:List Int):(sorted l).Pairwise (·≤·):=by
 have h:=List.pairwise_mergeSort (le:=fun x y:Int=>decide (x≤y)) (fun a b c h1 h2=>by simp only[decide_eq_true_eq] at *;omega) (fun a b=>by simp only[Bool.or_eq_true,decide_eq_true_eq];omega) l
 exact h.imp fun h=>by simpa using h
theorem sorted_rise {l:List Int} (h:l.Nodup):(sorted l).Pairwise (·<·):=by
 have h1:=sorted_le l
 have h2:(sorted l).Nodup:=(sorted_perm l).nodup_iff.2 h
 exact (h1.and h2).imp fun ⟨a,b⟩=>by omega
theorem sorted_eq {l m:List Int} (hl:l.Nodup) (hm:m.Pairwise (·<·)) (h:∀ x,x∈l↔x∈m):sorted l=m :=
 rise_ext (sorted_rise hl) hm fun x=>(sorted_perm l).mem_iff.trans (h x)
theorem addTo_eq (R:List (List Int)) (n:Nat) (x:Int):addTo R n x=((R.set n (R.getD n []++[x])).map sorted).filter fun l=>decide (1<l.length):=by
 unfold addTo
 rw[List.filter_map]
 congr 1
 exact List.filter_congr fun l _=>by simp only[Function.comp];rw[(sorted_perm l).length_eq]
theorem add_core {c:Face→Int} {W W':List Face} {xf:Face} (hk:(W'.map (·.1)).Pairwise (·<·)) (hm:∀ f,f∈W'↔f∈W∨f=xf) (hx:∀ f∈W,f.1≠xf.1) (hkW:(W.map (·.1)).Pairwise (·<·)) {H:List Int} (hH:H.Nodup) (hcov:∀ f∈W',c f∈H) {n:Nat} (hn:n<H.length) (hHn:H[n]=c xf)
  {S:List (List Int)} (hp:S.Perm (addTo (H.map (keysAt c W)) n xf.1)) (ho:S.Pairwise fun a b=>a.getD 0 0≤b.getD 0 0):S=grps c W':=by
 have hmap:((H.map (keysAt c W)).set n ((H.map (keysAt c W)).getD n []++[xf.1])).map sorted=H.map (keysAt c W'):=by
  refine List.ext_getElem (by simp) fun i h1 h2=>?_
  simp only[List.length_map,List.length_set] at h1 h2
  rw[List.getElem_map,List.getElem_map,List.getElem_set]
  have hgn:(H.map (keysAt c W)).getD n []=keysAt c W (c xf):=by simp[List.getD,hn,hHn]
  by_cases e:n=i
  ·subst e
   rw[if_pos rfl,hgn,hHn]
   refine sorted_eq ?_ (keysAt_rise hk _) fun x=>?_
   ·rw[List.nodup_append]
    refine⟨(keysAt_rise hkW _).imp fun h=>by omega,by simp,fun a ha b hb e=>?_⟩
    obtain⟨f,hf,-,e2⟩:=keysAt_mem.1 ha
    rw[List.mem_singleton.1 hb] at e
    exact hx f hf (e2.trans e)
   rw[List.mem_append,keysAt_mem,keysAt_mem,List.mem_singleton]
   constructor
   ·rintro (⟨f,hf,e1,e2⟩ | e)
    ·exact⟨f,(hm f).2 (Or.inl hf),e1,e2⟩
    exact⟨xf,(hm xf).2 (Or.inr rfl),rfl,e.symm⟩
   rintro ⟨f,hf,e1,e2⟩
   rcases (hm f).1 hf with q | q
   ·exact Or.inl ⟨f,q,e1,e2⟩
   rw[q] at e2;exact Or.inr e2.symm
  rw[if_neg e,List.getElem_map]
  have hne:H[i]≠c xf:=fun q=>by
   rw[←hHn] at q
   rcases Nat.lt_or_gt_of_ne e with r | r
   ·exact List.pairwise_iff_getElem.1 hH n i hn h2 r q.symm
   exact List.pairwise_iff_getElem.1 hH i n h2 hn r q
  refine sorted_eq ((keysAt_rise hkW _).imp fun h=>by omega) (keysAt_rise hk _) fun x=>?_
  rw[keysAt_mem,keysAt_mem]
  constructor
  ·rintro ⟨f,hf,e1,e2⟩
   exact⟨f,(hm f).2 (Or.inl hf),e1,e2⟩
  rintro ⟨f,hf,e1,e2⟩
  rcases (hm f).1 hf with q | q
  ·exact⟨f,q,e1,e2⟩
  rw[q] at e1;exact absurd e1.symm hne
 rw[addTo_eq,hmap,List.filter_map] at hp
 refine grps_of hk ?_ (fun l=>?_) hp ho
 ·unfold List.Nodup
  rw[List.pairwise_map]
  refine (hH.filter _).imp_of_mem fun {a b} ha hb hab e=>hab ?_
  have hla:1<(keysAt c W' a).length:=by simpa using (List.mem_filter.1 ha).2
  obtain⟨x,hxa⟩:=List.exists_mem_of_length_pos (l:=keysAt c W' a) (by omega)
  have hxb:=hxa
  rw[e] at hxb
  obtain⟨f,hf,e1,e2⟩:=keysAt_mem.1 hxa
  obtain⟨f',hf',e3,e4⟩:=keysAt_mem.1 hxb
  rw[←e1,←e3,key_face hk hf hf' (e2.trans e4.symm)]
 rw[List.mem_map]
 constructor
 ·rintro ⟨h,hh,rfl⟩
  exact⟨h,rfl,by simpa using (List.mem_filter.1 hh).2⟩
 rintro ⟨h,rfl,hl⟩
 obtain⟨x,hxa⟩:=List.exists_mem_of_length_pos (l:=keysAt c W' h) (by omega)
 obtain⟨f,hf,e1,-⟩:=keysAt_mem.1 hxa
 exact⟨h,List.mem_filter.2 ⟨by rw[←e1];exact hcov f hf,by simpa using hl⟩,rfl⟩
theorem regs_cls {g:Gr} {q:Pt} {T:List (List Int)} {c:Face→Int} (hz:planErr g q T (grps c (walksOf g q T))=0) :
  ∃ H:List Int,H.Nodup∧regionsOf g q T (grps c (walksOf g q T))=H.map (keysAt c (walksOf g q T))∧(∀ f∈walksOf g q T,c f∈H)∧∀ h∈H,∃ f∈walksOf g q T,c f=h:=by
 obtain⟨hpe,hto⟩:=zero_ok hz
 have hW:=walks_ok hpe hto
 have hk:=walks_keys hpe hW
 have hpt:=parted hz hW
 have hir:=regs_ok hpt
 obtain⟨W,hWe⟩:∃ W,walksOf g q T=W:=⟨_,rfl⟩
 obtain⟨R,hR⟩:∃ R,regionsOf g q T (grps c (walksOf g q T))=R:=⟨_,rfl⟩
 rw[hR] at hir ⊢
 have hnd:=hpt.nodupAll
 have hne:=hpt.ne
 unfold allRegs at hnd hne
 have hper:=hir.perm
 unfold allRegs at hper
 rw[hWe] at hper hnd hne hk ⊢
 clear hir hpt
 have hone:∀ f∈W,f.1∈keysAt c W (c f):=fun f hf=>keysAt_mem.2 ⟨f,hf,rfl,rfl⟩
 have hsub:∀ l∈R,∃ f∈W,keysAt c W (c f)=l:=by
  intro l hl
  rcases List.mem_append.1 (hper.mem_iff.1 hl) with q | q
  ·obtain⟨h,rfl,hlen⟩:=mem_grps.1 q
   obtain⟨x,hx⟩:=List.exists_mem_of_length_pos (l:=keysAt c W h) (by omega)
   obtain⟨f,hf,e1,-⟩:=keysAt_mem.1 hx
   exact⟨f,hf,by rw[e1]⟩
  unfold singles at q
  obtain⟨f,hf,rfl⟩:=List.mem_map.1 q
  obtain⟨hf1,hf2⟩:=List.mem_filter.1 hf
  have hf2:f.1 ∉ (grps c W).flatten:=of_decide_eq_true hf2
  have hlen:¬ 1<(keysAt c W (c f)).length:=fun q=>hf2 (List.mem_flatten.2 ⟨_,mem_grps.2 ⟨c f,rfl,q⟩,hone f hf1⟩)
  refine⟨f,hf1,?_⟩
  cases e:keysAt c W (c f) with
  | nil=>have:=hone f hf1;rw[e] at this;cases this
  | cons a l =>
   rw[e] at hlen
   have hl0:l=[]:=by cases l with
    | nil=>rfl
    | cons b m=>simp at hlen
   have:=hone f hf1
   rw[e,hl0] at this
   rw[hl0,List.mem_singleton.1 this]
 have hsup:∀ f∈W,keysAt c W (c f)∈R:=by
  intro f hf
  refine hper.mem_iff.2 (List.mem_append.2 ?_)
  by_cases hlen:1<(keysAt c W (c f)).length
  ·exact Or.inl (mem_grps.2 ⟨c f,rfl,hlen⟩)
  right
  unfold singles
  have hno:f.1 ∉ (grps c W).flatten:=by
   intro q
   obtain⟨l,hl,hfl⟩:=List.mem_flatten.1 q
   obtain⟨h,rfl,hl2⟩:=mem_grps.1 hl
   obtain⟨f',hf',e1,e2⟩:=keysAt_mem.1 hfl
   rw[key_face hk hf' hf e2] at e1
   rw[e1] at hlen
   exact hlen hl2
  refine List.mem_map.2 ⟨f,List.mem_filter.2 ⟨hf,decide_eq_true hno⟩,?_⟩
  cases e:keysAt c W (c f) with
  | nil=>have:=hone f hf;rw[e] at this;cases this
  | cons a l =>
   rw[e] at hlen
   have hl0:l=[]:=by cases l with
    | nil=>rfl
    | cons b m=>simp at hlen
   have:=hone f hf
   rw[e,hl0] at this
   rw[hl0,List.mem_singleton.1 this]
 have hRn:R.Nodup:=by
  refine hper.nodup_iff.2 ?_
  obtain⟨-,h2⟩:=nodup_flat.1 hnd
  refine h2.imp_of_mem fun {a b} ha hb hdis e=>?_
  subst e
  obtain⟨x,hx⟩:=List.exists_mem_of_ne_nil _ (hne a ha)
  exact hdis x hx x hx rfl
 obtain⟨H,hH⟩:∃ H:List Int,R=H.map (keysAt c W)∧∀ h∈H,∃ f∈W,c f=h:=by
  clear hR hRn hsup hper hne hnd
  induction R with
  | nil=>exact⟨[],rfl,by simp⟩
  | cons l R ih =>
   obtain⟨H,e,hh⟩:=ih fun l hl=>hsub l (List.mem_cons_of_mem _ hl)
   obtain⟨f,hf,e2⟩:=hsub l (by simp)
   exact⟨c f :: H,by rw[List.map_cons,←e,e2],fun h hm=>(List.mem_cons.1 hm).elim (fun q=>⟨f,hf,q.symm⟩) (hh h)⟩
 obtain⟨e,hh⟩:=hH
 refine⟨H,?_,e,fun f hf=>?_,hh⟩
 ·rw[e] at hRn
  unfold List.Nodup at hRn
  rw[List.pairwise_map] at hRn
  exact hRn.imp fun q r=>q (by rw[r])
 have:=hsup f hf
 rw[e] at this
 obtain⟨h,hm,e2⟩:=List.mem_map.1 this
 obtain⟨f',hf',e3⟩:=hh h hm
 have h1:=hone f hf
 rw[←e2] at h1
 obtain⟨f2,hf2,e4,e5⟩:=keysAt_mem.1 h1
 rw[key_face hk hf2 hf e5] at e4
 rw[e4];exact hm
theorem walks_more {g:Gr} {h k:Pt} {T:List (List Int)} {v:Int} (hhe:h.err g=0) (hke:k.err g=0) (hth:TurnsOk g h T) (he:k.e=h.e) (hv:∀ u,u∈k.v↔u∈h.v∨u=v) (hvn:v ∉ h.v) (f:Face):f∈walksOf g k T↔f∈walksOf g h T∨f=(-1 - v,[]):=by
 have hd:k.darts=h.darts:=by unfold Pt.darts;rw[he]
 obtain⟨F,hF,tF⟩:=(walks_ok hhe hth).split
 have tK:Trk g k T F k.darts:=by
  rw[hd]
  exact⟨tF.rings,by rw[hd];exact tF.sub,tF.key,tF.keys,tF.least,tF.cover⟩
 have hK:=(tK.walks (Pt.ok_of_err hke)).eq hke
 have hvr:=(Pt.ok_of_err hke).vr v ((hv v).2 (Or.inr rfl))
 have hempty:turnAt T v=[]:=by
  cases e:turnAt T v with
  | nil=>rfl
  | cons d l =>
   have hm:d∈turnAt T v:=by rw[e];simp
   obtain⟨h1,h2⟩:=(hth.mem v hvr.1 hvr.2 d).1 hm
   have:=((Pt.ok_of_err hhe).tail_mem h1).1
   rw[h2] at this
   exact absurd this hvn
 rw[←hK,hF,List.mem_append,List.mem_append]
 have hl:f∈loneAt T k.v↔f∈loneAt T h.v∨f=(-1 - v,[]):=by
  unfold loneAt
  simp only[List.mem_map,List.mem_filter,List.mem_reverse]
  constructor
  ·rintro ⟨u,⟨h1,h2⟩,rfl⟩
   rcases (hv u).1 h1 with q | q
   ·exact Or.inl ⟨u,⟨q,h2⟩,rfl⟩
   rw[q];exact Or.inr rfl
  rintro (⟨u,⟨h1,h2⟩,rfl⟩ | rfl)
  ·exact⟨u,⟨(hv u).2 (Or.inl h1),h2⟩,rfl⟩
  exact⟨v,⟨(hv v).2 (Or.inr rfl),by rw[hempty];rfl⟩,rfl⟩
 rw[hl]
 constructor
 ·rintro ((q | q) | q)
  ·exact Or.inl (Or.inl q)
  ·exact Or.inr q
  exact Or.inl (Or.inr q)
 rintro ((q | q) | q)
 ·exact Or.inl (Or.inl q)
 ·exact Or.inr q
 exact Or.inl (Or.inr q)
noncomputable def homeR (g:Gr) (p:Pt) (turn same:List (List Int)):List (List Int):=if p.v=[] then [[]] else regionsOf g p turn same
theorem getD_memL {ll:List (List Int)} {n:Nat} (h:n<ll.length):ll.getD n []∈ll:=by simp[List.getD,h]
theorem flat_ge:∀ {ll:List (List Int)},(∀ l∈ll,l≠[])→ll.length≤ll.flatten.length
 | [],_=>Nat.le_refl _
 | l :: ll,h=>by
  have ih:=flat_ge (ll:=ll) fun x hx=>h x (List.mem_cons_of_mem _ hx)
  have h1:=List.length_pos_iff.2 (h l (by simp))
  rw[List.flatten_cons,List.length_append,List.length_cons];omega
theorem homeR_small {g:Gr} {p:Pt} {turn same:List (List Int)} (hz:planErr g p turn same=0) (hpl:p.e.length≤60) (hpv:p.v.length≤60) :
  (∀ l∈homeR g p turn same,(∀ x∈l,I64 x∧-1000000≤x∧x≤1000000)∧l.length≤1000)∧(homeR g p turn same).length≤1000:=by
 obtain⟨hpe,hto⟩:=zero_ok hz
 have hW:=walks_ok hpe hto
 have hpt:=parted hz hW
 have hreg:=regs_ok hpt
 have hsm:=regs_small hpt hreg
 have hwl:=hW.len
 unfold homeR
 by_cases h:p.v=[]
 ·rw[if_pos h]
  refine⟨fun l hl=>?_,by decide⟩
  rw[List.mem_singleton.1 hl]
  exact⟨by simp,by simp⟩
 rw[if_neg h]
 refine⟨fun l hl=>⟨fun x hx=>?_,by have:=(hsm l hl).2;omega⟩,?_⟩
 ·obtain⟨f,hf,rfl⟩:=List.mem_map.1 ((hsm l hl).1 x hx).2
  have hb:-1024≤f.1∧f.1<2048:=by
   rcases mem_ground.1 ((marks_ground hpe hto hf).2 _ (key_mark hpe hto hf).1) with ⟨h1,-⟩ | ⟨v,h1,-,e⟩
   ·obtain⟨n,e,-,hn⟩:=Pt.dart_nat hpe h1
    omega
   have h2:=(Pt.ok_of_err hpe).vr v h1
   have h3:=(Gr.err_ok (Pt.err_ok hpe).1).2.1
   omega
  exact⟨I64.mk (by omega) (by omega),by omega,by omega⟩
 have h1:=flat_ge (regs_ne hz)
 have h2:=(hreg.perm.flatten.trans hpt.all).length_eq
 rw[List.length_map] at h2
 omega
theorem find_at {ll:List (List Int)} {q:List Int→Bool} {n:Nat} (h:ll.findIdx? q=some n):∃ hn:n<ll.length,q ll[n]=true:=by
 rw[List.findIdx?_eq_some_iff_getElem] at h
 obtain⟨h1,h2,-⟩:=h
 exact⟨h1,h2⟩
theorem home_add {g:Gr} {p h:Pt} {turn same:List (List Int)} {v:Int} {n:Nat} (hh:homeAt g p h turn same v=some n) :
  planErr g p turn same=0∧h.err g=0∧v∈p.v∧v ∉ h.v∧n<(homeR g h (restTurn h.e turn) (restSame g p h turn same)).length ∧
  ∀ {S:List (List Int)},S.Perm (addTo (homeR g h (restTurn h.e turn) (restSame g p h turn same)) n (-1 - v))→S.Pairwise (fun a b=>a.getD 0 0≤b.getD 0 0)→S=restSame g p (orPt h ⟨[v],[]⟩) turn same:=by
 unfold homeR
 unfold homeAt at hh
 split at hh
 ·cases hh
 rename_i h1
 split at hh
 ·cases hh
 rename_i h2
 have hz:planErr g p turn same=0:=Classical.byContradiction fun q=>h1 (Or.inl q)
 have hhe:h.err g=0:=Classical.byContradiction fun q=>h1 (Or.inr (Or.inl q))
 have hsb:subB h.v p.v=true∧subB h.e p.e=true:=Classical.byContradiction fun q=>h1 (Or.inr (Or.inr q))
 have hv:v∈p.v:=Classical.byContradiction fun q=>h2 (Or.inl q)
 have hvn:v ∉ h.v:=fun q=>h2 (Or.inr q)
 clear h1 h2
 refine⟨hz,hhe,hv,hvn,?_⟩
 obtain⟨hpe,hto⟩:=zero_ok hz
 have hvr:=(Pt.ok_of_err hpe).vr v hv
 have hvq:(⟨[v],[]⟩:Pt).err g=0:=Pt.err_of (Pt.err_ok hpe).1 (rises_of (List.pairwise_singleton _ _) (by simpa using hvr)) rfl (by simp)
 have hke:=orPt_err hhe hvq
 have hkE:(orPt h ⟨[v],[]⟩).e=h.e:=orL_nil _
 have hkV:∀ u,u∈(orPt h ⟨[v],[]⟩).v↔u∈h.v∨u=v:=fun u=>by
  show u∈orL h.v [v]↔_
  rw[mem_orL,List.mem_singleton]
 have sH:Subs g p h turn:=⟨hpe,hhe,hto,subB_iff.1 hsb.2,subB_iff.1 hsb.1⟩
 obtain⟨k,hk⟩:∃ k,orPt h ⟨[v],[]⟩=k:=⟨_,rfl⟩
 unfold homeRegs at hh
 rw[hk] at hke hkE hkV hh ⊢
 have sK:Subs g p k turn:=⟨hpe,hke,hto,fun e he=>by rw[hkE] at he;exact subB_iff.1 hsb.2 e he,fun u hu=>((hkV u).1 hu).elim (subB_iff.1 hsb.1 u) fun e=>by rw[e];exact hv⟩
 have tH:=sH.turns
 have tK:=sK.turns
 have hzK:=rest_right hz hke sK.sube sK.subv
 have hzH:=rest_right hz hhe sH.sube sH.subv
 unfold restSame at hh hzK hzH ⊢
 rw[hkE] at tK hh hzK ⊢
 obtain⟨T,hT⟩:∃ T,restTurn h.e turn=T:=⟨_,rfl⟩
 obtain⟨c,hc⟩:∃ c,restCls (leftOf (regionsOf g p turn same) (walksOf g p turn)) p h.e turn=c:=⟨_,rfl⟩
 have hno:h.v=[]→walksOf g h (restTurn h.e turn)=[]:=fun q=>no_walks sH q
 rw[hT] at tH tK hh hzK hzH hno ⊢
 rw[hc] at hh hzK hzH ⊢
 have hm:=walks_more hhe hke tH hkE hkV hvn
 have hkK:=walks_keys hke (walks_ok hke tK)
 have hkH:=walks_keys hhe (walks_ok hhe tH)
 have hx:∀ f∈walksOf g h T,f.1≠(-1 - v):=by
  intro f hf e
  obtain⟨-,k2⟩:=key_mark hhe tH hf
  have hcm:=corner_mem (Pt.ok_of_err hhe) (walks_ok hhe tH).faces f hf
  rw[e] at k2
  have:f.corner g=v:=by
   rw[←k2]
   unfold vert
   rw[if_pos (by omega)];omega
  rw[this] at hcm
  exact hvn hcm
 obtain⟨xf,hxf⟩:∃ xf:Face,xf=(-1 - v,[]):=⟨_,rfl⟩
 have hx1:-1 - v=xf.1:=by rw[hxf]
 by_cases hhv:h.v=[]
 ·rw[if_pos hhv] at hh ⊢
  cases hh
  refine⟨by decide,fun {S} hp ho=>?_⟩
  have hw:=hno hhv
  rw[hw] at hm hx
  refine add_core (c:=c) (xf:=xf) (W:=[]) (H:=[c xf]) (n:=0) hkK (fun f=>by rw[hm,hxf]) (by simp) (by simp) (by simp) (fun f hf=>?_) (by simp) rfl ?_ ho
  ·rcases (hm f).1 hf with q | q
   ·cases q
   rw[q,hxf];simp
  rw[←hx1];exact hp
 rw[if_neg hhv] at hh ⊢
 obtain⟨H,hH,eH,cH,-⟩:=regs_cls hzH
 obtain⟨K,hK,eK,cK,-⟩:=regs_cls hzK
 rw[eH,eK] at hh
 rw[eH]
 unfold homeIn at hh
 cases hr:regionAt (K.map (keysAt c (walksOf g k T))) (-1 - v) with
 | none=>rw[hr] at hh;cases hh
 | some a =>
  rw[hr] at hh
  obtain⟨ha,hka⟩:=regionAt_lt hr
  obtain⟨hn,hq⟩:=find_at hh
  have hq:=of_decide_eq_true hq
  have ha2:a<K.length:=by simpa using ha
  have hn2:n<H.length:=by simpa using hn
  have eA:(K.map (keysAt c (walksOf g k T))).getD a []=keysAt c (walksOf g k T) K[a]:=by simp[List.getD,ha2]
  rw[eA] at hka hq
  rw[List.getElem_map] at hq
  obtain⟨f1,hf1,e1,e2⟩:=keysAt_mem.1 hka
  have hf1x:f1=xf:=key_face hkK hf1 ((hm xf).2 (Or.inr hxf)) (by rw[e2,hx1])
  rw[hf1x] at e1
  -- the head of the n-th region is a walk of its class
  have hne:keysAt c (walksOf g h T) H[n]≠[]:=by
   have h1:=regs_ne hzH (keysAt c (walksOf g h T) H[n])
   rw[eH] at h1
   exact h1 (List.mem_map.2 ⟨H[n],List.getElem_mem hn2,rfl⟩)
  obtain⟨f2,hf2,e3,e4⟩:=keysAt_mem.1 (head_mem hne)
  obtain⟨f3,hf3,e5,e6⟩:=keysAt_mem.1 hq
  have hf23:f3=f2:=key_face hkK hf3 ((hm f2).2 (Or.inl hf2)) (by rw[e6,e4])
  have hHn:H[n]=c xf:=by rw[←e3,←hf23,e5,e1]
  refine⟨by simpa using hn2,fun {S} hp ho=>?_⟩
  refine add_core (c:=c) (xf:=xf) (H:=H) (n:=n) hkK (fun f=>by rw[hm,hxf]) (fun f hf=>by rw[←hx1];exact hx f hf) hkH hH (fun f hf=>?_) hn2 hHn (by rw[←hx1];exact hp) ho
  rcases (hm f).1 hf with q | q
  ·exact cH f q
  rw[q,←hxf,←hHn];exact List.getElem_mem hn2
end Go.Proofs.YtkacjmoamgjfpaaGreat.Plain
namespace Go.Proofs.YtkacjmoamgjfpaaGreat
open Go.RowKit Go.Maps
theorem add1_any (ga gb n m c c':Nat) (x y:Int) (w:World) (hn:0<n) (hm:0<m) (hw:IntKind.i64.wrap (x - y)=x - y) (h1:w.cell? ⟨ga,0,none⟩=some (.int .i64 x)) (h2:w.cell? ⟨gb,0,none⟩=some (.int .i64 y)) :
  Calls Tryz.prog 80 #[.slice (some ⟨ga,0,none⟩) n c,.slice (some ⟨gb,0,none⟩) m c'] w fun e w'=>e=.returned (.int .i64 (x - y))∧∃ q,w'=w.drewN q:=by
 have i3:(0:Int)<(n:Int):=by omega
 have i4:(0:Int)<(m:Int):=by omega
 go_enter Tryz.func80,Tryz.ntmps80
 go_wp2
 have hS0:(fun w':World=>w'.cell? ⟨ga,0,none⟩=some (.int .i64 x)∧w'.cell? ⟨gb,0,none⟩=some (.int .i64 y)) w.drew:=⟨h1,h2⟩
 refine wp_region_way (fun w':World=>w'.cell? ⟨ga,0,none⟩=some (.int .i64 x)∧w'.cell? ⟨gb,0,none⟩=some (.int .i64 y)) [0,1,2,3,4,5,6] (Way.line [0,1,2,3,4,5,6,7] .done) (by kernel_rfl) (by kernel_rfl) ?_
 simp only[Way.line]
 repeat
  first
   | (refine along_off rfl (by rfl) (by rfl) (fun _ _ _ h=>h) hS0 ?_;simp only[Act.put,Z1,Z2,Z3,Z4,Z5,Z6])
   | (refine along_read (v:=?_) rfl (by rfl) (by rfl) (fun _ _ _ h=>h) hS0 (fun w' hS'=>?_) ?_;rotate_left;(focus ((try dsimp only at hS');go_simp;try with_reducible rfl));simp only[Act.put,Z1,Z2,Z3,Z4,Z5,Z6])
   | (refine along_skip rfl (by rfl) (by rfl) hS0 ?_;simp only[Act.put,Z1,Z2,Z3,Z4,Z5,Z6])
 refine along_op rfl (by rfl) (by rfl) (fun K hK=>?_)
 go_simp
 refine hK.out _ _ (fun _=>hS0) ?_
 clear hK K
 try simp only[Act.put,Z1,Z2,Z3,Z4,Z5,Z6]
 refine along_done ?_
 go_wp2
 go_ret
 exact⟨rfl,1,rfl⟩
def RowB (w:World) (B:Nat):Type:={z:RowIn w B // -1000000≤z.key∧z.key≤1000000}
def RowB.row {w:World} {B:Nat} (z:RowB w B):RowIn w B:=z.1
def RowB.val {w:World} {B:Nat} (z:RowB w B):Value:=z.row.val
def RowB.cmp {w:World} {B:Nat} (y z:RowB w B):Int:=y.row.key - z.row.key
theorem RowB.one {w:World} {B:Nat}:OneCell (RowB.val (w:=w) (B:=B)):=fun z=>RowIn.one z.row
theorem RowB.lt {w:World} {B:Nat} (y z:RowB w B):ltOf RowB.cmp y z=decide (y.row.key<z.row.key):=by
 unfold ltOf RowB.cmp
 by_cases h:y.row.key<z.row.key
 ·rw[decide_eq_true h,decide_eq_true (by omega)]
 rw[decide_eq_false h,decide_eq_false (by omega)]
theorem RowB.swo {w:World} {B:Nat}:Go.Sort.SWO (ltOf (RowB.cmp (w:=w) (B:=B))) where
 irrefl x:=by rw[RowB.lt];simp
 trans x y z h1 h2:=by rw[RowB.lt] at *;simp at *;omega
 ntrans x y z h1 h2:=by rw[RowB.lt] at *;simp at *;omega
theorem sortB_world {w:World} {B g m:Nat} {os:Array Obj} [Inhabited (RowIn w B)] [Inhabited (RowB w B)] (d:Array (RowB w B)):Go.Proofs.sortWorld RowB.val w g 0 m d os=Go.Proofs.sortWorld RowIn.val w g 0 m (d.map RowB.row) os:=by
 have e:Go.Sort.putCells RowB.val 0 d=Go.Sort.putCells RowIn.val 0 (d.map RowB.row):=by
  funext c
  unfold Go.Sort.putCells
  congr 1
  funext k x
  rw[Array.size_map]
  by_cases h:0≤k∧k<0+d.size
  ·rw[if_pos h,if_pos h]
   have hk:k - 0<d.size:=by omega
   rw[getElem!_pos d _ hk,getElem!_pos (d.map RowB.row) _ (by simpa using hk),Array.getElem_map]
   rfl
  rw[if_neg h,if_neg h]
 unfold Go.Proofs.sortWorld Go.Sort.putRow
 rw[e]
theorem rows_inB {w:World} {B:Nat}:∀ (dl:List (RowIn w B)),(∀ z∈dl,-1000000≤z.key∧z.key≤1000000)→∃ d:List (RowB w B),d.map RowB.row=dl
 | [],_=>⟨[],rfl⟩
 | z :: dl,h=>by
  obtain⟨d,hd⟩:=rows_inB dl fun x hx=>h x (List.mem_cons_of_mem _ hx)
  exact⟨⟨z,h z (by simp)⟩ :: d,congrArg (z :: ·) hd⟩
set_option maxHeartbeats 1000000 in
theorem addSort_any (v:Value) (vs:List Value) (ll:List (List Int)) (B:Nat) (w:World) (hn:vs.length<4294967296) (h:RowsOwn w B v vs ll) (hne:∀ l∈ll,l≠[]∧-1000000≤l.getD 0 0∧l.getD 0 0≤1000000) :
  Calls Tryz.prog 79 #[v,.func (.func 80) #[] #[]] w fun e w'=>e=.returned (.tuple #[])∧∃ vs' ll',RowsOwn w' B v vs' ll'∧vs'.length=vs.length∧ll'.Perm ll∧ll'.Pairwise (fun a b=>a.getD 0 0≤b.getD 0 0)∧Chg v.ownBlock.toList w w':=by
 by_cases h0:vs.length=0
 ·obtain⟨ao,cap,rfl⟩:=owns_shape h.out
  have hl0:ll=[]:=List.length_eq_zero_iff.1 (by rw[←h.len,h0])
  have hcon:=AnyF.slices_SortFunc_none { Tryz.sortRows with } ao cap (.func (.func 80) #[] #[]) w
  change Calls Tryz.prog 79 _ _ _ at hcon
  rw[h0] at h ⊢
  refine hcon.mono ?_
  rintro e w' ⟨rfl,rfl⟩
  have hvs:vs=[]:=List.length_eq_zero_iff.1 h0
  subst hvs
  exact⟨rfl,[],ll,h,rfl,List.Perm.refl _,by rw[hl0];exact List.Pairwise.nil,Chg.refl _ _⟩
 obtain⟨g,cap,rfl⟩:=owns_some h.out (by omega)
 have hrow:∀ k,k<vs.length→w.ownsRow B 3 1 (vs.getD k undef) (ll.getD k []).length (ints (ll.getD k []))∧ll.getD k []≠[]:=fun k hk=>⟨h.rows k hk,(hne _ (by have:=h.len;simp[List.getD,show k<ll.length by omega])).1⟩
 obtain⟨dl,hvl,hll⟩:=rows_in vs ll h.len hrow
 obtain⟨db,hdb⟩:=rows_inB dl fun z hz=>by
  have:=hne z.1.2 (by rw[←hll];exact List.mem_map.2 ⟨z,hz,rfl⟩)
  exact this.2
 obtain⟨z0,hz0⟩:∃ z0:RowB w B,z0∈db:=by
  cases db with
  | nil=>rw[List.map_nil] at hdb;rw[←hdb] at hvl;rw[←hvl] at h0;simp at h0
  | cons z db=>exact⟨z,by simp⟩
 haveI:Inhabited (RowB w B):=⟨z0⟩
 haveI:Inhabited (RowIn w B):=⟨z0.row⟩
 obtain⟨d,hd⟩:∃ d:Array (RowB w B),d=db.toArray:=⟨_,rfl⟩
 have hdm:(d.map RowB.row).toList=dl:=by rw[hd];simpa using hdb
 have hv:(d.map RowB.row).toList.map RowIn.val=vs:=by rw[hdm];exact hvl
 have hl:(d.map RowB.row).toList.map (fun z=>z.1.2)=ll:=by rw[hdm];exact hll
 have hvB:d.toList.map RowB.val=vs:=by rw[←hv,Array.toList_map,List.map_map];rfl
 have hds:d.size=vs.length:=by rw[←hvB];simp
 have hg:∀ z:RowIn w B,∀ b,z.val.ownBlock=some b→b≠g:=fun z b hb e=>by
  rcases owns_two z.2.1 h.out (by decide) with q | q
  ·rw[show z.1.1.ownBlock=some b from hb] at q;cases q
  exact q (by rw[show z.1.1.ownBlock=some b from hb,e];rfl)
 have hgb:g<w.heap.size:=owns_lt h.out rfl
 have eg:∀ args w,(callFunc 80 args).run Tryz.prog w=.ok (.enter 80 args) w:=enters_of Tryz.func80 (by kernel_rfl) rfl
 have hcmp:CmpLays1 (α:=RowB w B) Tryz.prog 80 #[] RowB.val RowB.cmp g 0 d.size w:=by
  refine CmpReads.lays (fun m os dk _ x y=>?_)
  rw[sortB_world]
  obtain⟨b1,n1,c1,e1,hn1,hc1⟩:=x.row.cell (hg x.row) m os (dk.map RowB.row)
  obtain⟨b2,n2,c2,e2,hn2,hc2⟩:=y.row.cell (hg y.row) m os (dk.map RowB.row)
  show Calls _ _ #[x.row.val,y.row.val] _ _
  rw[e1,e2]
  exact add1_any b1 b2 n1 n2 c1 c2 x.row.key y.row.key _ hn1 hn2 (by have h1:_∧_:=x.2;have h2:_∧_:=y.2;change (-1000000≤x.row.key∧x.row.key≤1000000) at h1;change (-1000000≤y.row.key∧y.row.key≤1000000) at h2;exact IntWalk.i64_in _ (by omega)) hc1 hc2
 have hcon:=Any.slices_SortFunc Tryz.sortRows RowB.val RowB.one RowB.cmp RowB.swo 80 #[] g 0 cap d w eg hcmp (sorted_holds h.out hvB) hgb (by omega)
 change Calls Tryz.prog 79 _ _ _ at hcon
 rw[hds] at hcon
 refine hcon.mono ?_
 rintro e w' ⟨rfl,d',n,os,hp,hs,rfl⟩
 obtain⟨p1,-,p3⟩:=hp
 have q1:(d'.extract 0 vs.length)=d':=by rw[←hds,←p1];simp
 have q2:(d.extract 0 vs.length)=d:=by rw[←hds];simp
 rw[q1,q2] at p3
 have p4:(d'.map RowB.row).toList.Perm (d.map RowB.row).toList:=by
  rw[Array.toList_map,Array.toList_map]
  exact p3.map _
 have hs2:Go.Sort.SortedIn (ltOf RowIn.cmp) 0 (d.map RowB.row).size (d'.map RowB.row):=by
  intro i j h1 h2 h3
  rw[Array.size_map] at h3
  have hsz:d'.size=d.size:=p1
  have h4:=hs i j h1 h2 (by omega)
  rw[RowB.lt,getElem!_pos d' _ (by omega),getElem!_pos d' _ (by omega)] at h4
  rw[RowIn.lt,getElem!_pos (d'.map RowB.row) _ (by simp;omega),getElem!_pos (d'.map RowB.row) _ (by simp;omega),Array.getElem_map,Array.getElem_map]
  exact h4
 obtain⟨vs',ll',r1,r2,r3,r4⟩:=RowsOwn.sorted (m:=n) (os:=os) h hv hl p4 hs2 hg
 rw[sortB_world]
 exact⟨rfl,vs',ll',r1,r2,r3,r4,sorted_chg RowIn.val w g n os _⟩
theorem RowsOwn.turn {w w':World} {B:Nat} {ov:Value} {vs:List Value} {ll:List (List Int)} {k:Nat} {l:List Int} (h:RowsOwn w B ov vs ll) (hk:k<vs.length) (hr:w'.ownsRow B 3 1 (vs.getD k undef) l.length (ints l)) (hc:Chg (vs.getD k undef).ownBlock.toList w w'):RowsOwn w' B ov vs (ll.set k l):=by
 have hl:=h.len
 refine⟨owns_chg h.out hc fun b hb hm=>?_,by simpa using hl,fun j hj=>?_,h.apart⟩
 ·rcases owns_two (h.rows k hk) h.out (by decide) with q | q
  ·rw[q] at hm;cases hm
  exact q (by rw[hb];simpa using hm)
 rw[getD_setL _ _ _ _ (by omega)]
 by_cases e:j=k
 ·subst e;rw[if_pos rfl];exact hr
 rw[if_neg e]
 refine owns_chg (h.rows j hj) hc fun b hb hm=>?_
 rcases h.apart j k hj hk e with q | q
 ·rw[q] at hb;cases hb
 exact q (by rw[hb];exact (by simpa using hm:_=some b).symm)
theorem RowsOwn.cellK {w:World} {B:Nat} {ov:Value} {vs:List Value} {ll:List (List Int)} (h:RowsOwn w B ov vs ll) {k:Nat} (hk:k<ll.length):∃ g c uo uc,ov=.slice (some ⟨g,0,none⟩) ll.length c∧w.cell? ⟨g,k,none⟩=some (.slice uo (ll.getD k []).length uc)∧vs.getD k undef=.slice uo (ll.getD k []).length uc:=by
 have hl:=h.len
 obtain⟨g,c,e⟩:=owns_some h.out (by omega)
 obtain⟨uo,uc,e2⟩:=owns_shape (h.rows k (by omega))
 have ho:=h.out
 rw[e] at ho
 refine⟨g,c,uo,uc,by rw[e,hl],?_,e2⟩
 rw[ho.cellAt k (by omega),←e2]
 simp[List.getD,show k<vs.length by omega]
structure AddV (w:World) (yb B:Nat) (tv:Value) (rg rc:Nat) (vs:List Value) (R:List (List Int)) (k:Nat) (yo:Option Addr) (yc:Nat) (us:List Value):Prop where
 var:w.heap[yb]?=some (.cells #[tv,.slice yo us.length yc] 32 (0,0))
 rows:RowsOwn w B (.slice (some ⟨rg,0,none⟩) R.length rc) vs (Plain.addR R k)
 ys:RowsOwn w B (.slice yo us.length yc) us (Plain.addL R k)
 of_:∀ i,i<us.length→∃ j,j<k∧us.getD i undef=vs.getD j undef
 two:(Value.slice yo us.length yc).ownBlock≠some rg
theorem AddV.cell {w:World} {yb B:Nat} {tv:Value} {rg rc:Nat} {vs:List Value} {R:List (List Int)} {k:Nat} {yo:Option Addr} {yc:Nat} {us:List Value} (h:AddV w yb B tv rg rc vs R k yo yc us) (hk:k<R.length) :
  ∃ uo uc,w.cell? ⟨rg,k,none⟩=some (.slice uo (R.getD k []).length uc)∧vs.getD k undef=.slice uo (R.getD k []).length uc∧w.ownsRow B 3 1 (vs.getD k undef) (R.getD k []).length (ints (R.getD k [])):=by
 have hr:=h.rows
 obtain⟨g,c,uo,uc,e,h1,h2⟩:=hr.cellK (k:=k) (by rw[Plain.addR_len];exact hk)
 simp only[Value.slice.injEq,Option.some.injEq,Addr.mk.injEq,and_true] at e
 obtain⟨rfl,-,rfl⟩:=e
 have h3:=hr.rows k (by rw[hr.len,Plain.addR_len];exact hk)
 rw[Plain.addR_get hk (Nat.le_refl k)] at h1 h2 h3
 exact⟨uo,uc,h1,h2,h3⟩
theorem RowsOwn.slot {w w':World} {B g m c:Nat} {vs:List Value} {ll:List (List Int)} (h:RowsOwn w B (.slice (some ⟨g,0,none⟩) m c) vs ll) {k:Nat} (hk:k<vs.length) (hc:Chg (vs.getD k undef).ownBlock.toList w w') :
  w'.cell? ⟨g,k,none⟩=some (vs.getD k undef)∧w'.frozen? ⟨g,k,none⟩=false:=by
 have ho:=owns_chg h.out hc fun b hb hm=>by
  rcases owns_two (h.rows k hk) h.out (by decide) with q | q
  ·rw[q] at hm;cases hm
  exact q (by rw[hb];simpa using hm)
 obtain⟨ao,c2,e⟩:=owns_shape ho
 cases e
 obtain⟨cs,hh⟩:=owns_kind ho (b:=g) rfl
 exact⟨by rw[ho.cellAt k (by omega)];simp[List.getD,hk],free_at hh k⟩
theorem AddV.skip {w:World} {yb B:Nat} {tv:Value} {rg rc:Nat} {vs:List Value} {R:List (List Int)} {k:Nat} {yo:Option Addr} {yc:Nat} {us:List Value} (h:AddV w yb B tv rg rc vs R k yo yc us) (hk:k<R.length) (hl:¬ 1<(R.getD k []).length):AddV w yb B tv rg rc vs R (k+1) yo yc us:=by
 have e1:=Plain.addR_skip hk hl
 have e2:=Plain.addL_skip hk hl
 exact⟨h.var,by rw[e1];exact h.rows,by rw[e2];exact h.ys,fun i hi=>by
  obtain⟨j,hj,e⟩:=h.of_ i hi
  exact⟨j,by omega,e⟩,h.two⟩
theorem AddV.sort {w w':World} {yb B:Nat} {tv:Value} {rg rc:Nat} {vs:List Value} {R:List (List Int)} {k:Nat} {yo:Option Addr} {yc:Nat} {us:List Value} (h:AddV w yb B tv rg rc vs R k yo yc us) (hk:k<R.length)
  (hr:w'.ownsRow B 3 1 (vs.getD k undef) ((R.getD k []).mergeSort fun x y=>decide (x≤y)).length (ints ((R.getD k []).mergeSort fun x y=>decide (x≤y)))) (hc:Chg (vs.getD k undef).ownBlock.toList w w') :
  w'.heap[yb]?=some (.cells #[tv,.slice yo us.length yc] 32 (0,0))∧RowsOwn w' B (.slice (some ⟨rg,0,none⟩) R.length rc) vs (Plain.addR R (k+1))∧RowsOwn w' B (.slice yo us.length yc) us (Plain.addL R k):=by
 have hvl:vs.length=R.length:=by rw[h.rows.len,Plain.addR_len]
 have hrk:=h.rows.rows k (by omega)
 refine⟨hc.heap h.var fun hm=>?_,?_,h.ys.chg hc (fun b hb hm=>?_) fun i b hi hb hm=>?_⟩
 ·obtain⟨cs,hh⟩:=owns_kind hrk (by simpa using hm:_=some yb)
  rw[h.var] at hh
  simp at hh
 ·rw[Plain.addR_step hk]
  exact h.rows.turn (by omega) hr hc
 ·rcases owns_two hrk h.ys.out (by decide) with q | q
  ·rw[q] at hm;cases hm
  exact q (by rw[hb];simpa using hm)
 obtain⟨j,hj,e⟩:=h.of_ i hi
 rw[e] at hb
 rcases h.rows.apart j k (by omega) (by omega) (by omega) with q | q
 ·rw[q] at hb;cases hb
 exact q (by rw[hb];exact (by simpa using hm:_=some b).symm)
theorem AddV.step {w w7 w8:World} {yb B:Nat} {tv:Value} {rg rc:Nat} {vs:List Value} {R:List (List Int)} {k:Nat} {yo:Option Addr} {yc:Nat} {us:List Value} {g8 c8:Nat} (h:AddV w yb B tv rg rc vs R k yo yc us) (hk:k<R.length) (hl:1<(R.getD k []).length)
  (hr:w7.ownsRow B 3 1 (vs.getD k undef) ((R.getD k []).mergeSort fun x y=>decide (x≤y)).length (ints ((R.getD k []).mergeSort fun x y=>decide (x≤y)))) (hc:Chg (vs.getD k undef).ownBlock.toList w w7)
  (h8:w8.ownsRow B 27 1 (.slice (some ⟨g8,0,none⟩) (us.length+1) c8) (us.length+1) (us++[vs.getD k undef])) (hc8:Chg (Value.slice yo us.length yc).ownBlock.toList w7 w8) (hg8:(Value.slice yo us.length yc).ownBlock=some g8∨w7.heap.size≤g8) :
  AddV (w8.setCell ⟨yb,1,none⟩ (.slice (some ⟨g8,0,none⟩) (us.length+1) c8)) yb B tv rg rc vs R (k+1) (some ⟨g8,0,none⟩) c8 (us++[vs.getD k undef])∧Chg (yb :: (Value.slice yo us.length yc).ownBlock.toList) w7 (w8.setCell ⟨yb,1,none⟩ (.slice (some ⟨g8,0,none⟩) (us.length+1) c8)):=by
 obtain⟨s1,s2,s3⟩:=h.sort hk hr hc
 have hvl:vs.length=R.length:=by rw[h.rows.len,Plain.addR_len]
 have e2:=Plain.addL_step hk hl
 have hel:(us++[vs.getD k undef]).length=us.length+1:=by simp
 have hcs:Chg [yb] w8 (w8.setCell ⟨yb,1,none⟩ (.slice (some ⟨g8,0,none⟩) (us.length+1) c8)):=(Chg.refl _ w8).setCell (Or.inl (by simp)) _
 have hyb:∀ b,(Value.slice yo us.length yc).ownBlock=some b→b≠yb:=fun b hb e=>by
  obtain⟨cs,hh⟩:=owns_kind s3.out hb
  rw[e,s1] at hh
  simp at hh
 have s18:=hc8.heap s1 fun hm=>hyb yb (by simpa using hm) rfl
 have noyb:∀ {v:Value} {n:Nat} {xs:List Value} {e:TypeId},e≠32→w8.ownsRow B e 1 v n xs→∀ b,v.ownBlock=some b→b ∉ [yb]:=fun he ho b hb hm=>by
  obtain⟨cs,hh⟩:=owns_kind ho hb
  rw[List.mem_singleton.1 hm,s18] at hh
  simp at hh
  exact he hh.2.symm
 have hadd:RowsOwn w8 B (.slice (some ⟨g8,0,none⟩) (us.length+1) c8) (us++[vs.getD k undef]) (Plain.addL R (k+1)):=by
  rw[e2]
  refine s3.add hr (fun i b hi hb q=>?_) h8 hc8
  obtain⟨j,hj,e⟩:=h.of_ i hi
  rw[e] at hb
  rcases h.rows.apart j k (by omega) (by omega) (by omega) with r | r
  ·rw[r] at hb;cases hb
  exact r (hb.trans q.symm)
 have hrows8:RowsOwn w8 B (.slice (some ⟨rg,0,none⟩) R.length rc) vs (Plain.addR R (k+1)):=by
  refine s2.chg hc8 (fun b hb hm=>?_) fun i b hi hb hm=>?_
  ·have hb:rg=b:=by simpa[Value.ownBlock] using hb
   exact h.two (by rw[hb];simpa using hm)
  rcases owns_two (s2.rows i hi) s3.out (by decide) with q | q
  ·rw[q] at hb;cases hb
  exact q (by rw[hb];exact (by simpa using hm:_=some b).symm)
 refine⟨⟨?_,hrows8.chg hcs (noyb (by decide) hrows8.out) (fun i b hi hb=>noyb (by decide) (hrows8.rows i hi) b hb),?_,fun i hi=>?_,?_⟩,?_⟩
 ·rw[hel]
  exact heap_setCell_same s18 1 _
 ·rw[hel]
  exact hadd.chg hcs (noyb (by decide) hadd.out) (fun i b hi hb=>noyb (by decide) (hadd.rows i hi) b hb)
 ·rw[List.length_append] at hi
  by_cases e:i<us.length
  ·obtain⟨j,hj,e3⟩:=h.of_ i e
   exact⟨j,by omega,by rw[←e3];simp[List.getD,List.getElem?_append_left e]⟩
  have e4:i=us.length:=by simp at hi;omega
  exact⟨k,by omega,by rw[e4];simp[List.getD]⟩
 ·intro q
  simp only[Value.ownBlock,Option.some.injEq] at q
  rcases hg8 with r | r
  ·exact h.two (by rw[r,q])
  have:=owns_lt s2.out (b:=rg) rfl
  omega
 exact (hc8.mono (fun j hj=>Or.inl (List.mem_cons_of_mem _ hj))).trans hcs fun j hj=>Or.inl (by rw[List.mem_singleton.1 hj];simp)
theorem RowsOwn.nil1 {w:World} {B:Nat} (hB:B≤w.heap.size):RowsOwn (w.alloc (.cells #[.slice none 0 0] 27)) B (.slice (some ⟨w.heap.size,0,none⟩) 1 1) [.slice none 0 0] [[]] :=
 ⟨World.ownsRow_lit w #[.slice none 0 0] 1 hB (by decide) rfl,rfl,fun k hk=>by
  obtain rfl:k=0:=by simpa using hk
  exact World.ownsRow_nil _ _ _ _,fun k l hk hl hne=>by
  simp at hk hl;omega⟩
set_option maxRecDepth 100000 in
set_option maxHeartbeats 8000000 in
theorem addH_any (vg vp vx:Value) (g:Plain.Gr) (p:Plain.Pt) (turn same:List (List Int)) (v:Int) (n:Nat) (w:World) (hpl:p.e.length≤60) (hpv:p.v.length≤60) (hTL:turn.length≤100) (htr:∀ i,(turn.getD i []).length≤200) (hS:Plain.sumLen turn turn.length<2147483648) (hsl:same.length≤10000) (hsr:∀ i,(same.getD i []).length≤10000)
  (hz:Plain.planErr g p turn same=0) (hv0:0≤v) (hv1:v<g.n) (hvn:v ∉ p.v) (hn:n<(Plain.homeR g p turn same).length) (hg:GrAt w vg g) (hp:PtC w vp p) (hx:PlAt w vx turn same) :
  Calls Tryz.prog 29 #[vg,vp,vx,.int .i64 v,.int .i64 n] w fun e w'=>∃ o1 o2 S,e=.returned (.tuple #[o1,o2,.int .i64 0])∧S.Perm (Plain.addTo (Plain.homeR g p turn same) n (-1 - v))∧S.Pairwise (fun a b=>a.getD 0 0≤b.getD 0 0) ∧
   (∀ own wx,Chg own w' wx→(∀ j∈own,j<w.heap.size)→PtC wx o1 (Plain.orPt p ⟨[v],[]⟩)∧PlAt wx o2 (turn.map Plain.first) S)∧Chg [] w w':=by
 have HS1:=lh hS
 have HSR:=lh hsr
 have HTR:=lh htr
 have HZ:=lh hz
 have HG:=lh hg
 have HP:=lh hp
 have HX0:=lh hx
 have HPE:=lh (Plain.zero_ok hz).1
 have HPR:=lh (Plain.part_rise (Plain.zero_ok hz).1)
 have hgn:=(Plain.Gr.err_ok (Plain.Pt.err_ok (Plain.zero_ok hz).1).1).2.1
 have HVN:=lh hvn
 obtain⟨eo,cap,rfl,hnI,-⟩:=hg
 obtain⟨ao,ac,bo,bc,rfl⟩:=hp.shape
 obtain⟨u1,u2,rfl,ht0,⟨so,sc,rfl,-⟩⟩:=hx
 have HT:=lh ht0
 obtain⟨tno,tc,rfl,-⟩:=ht0
 have HPVI:=lh (show IntsAt w (.slice ao p.v.length ac) p.v by obtain⟨v1,v2,e,he,-⟩:=HP.out.at;cases e;exact he)
 obtain⟨hQs,hQl⟩:=Plain.homeR_small hz hpl hpv
 have HRE:=lh (show p.v=[]→Plain.homeR g p turn same=[[]] from fun q=>if_pos q)
 have HRN:=lh (show p.v≠[]→Plain.homeR g p turn same=Plain.regionsOf g p turn same from fun q=>if_neg q)
 obtain⟨Q,hQ⟩:∃ Q,Plain.homeR g p turn same=Q:=⟨_,rfl⟩
 rw[hQ] at hn hQs hQl HRE HRN ⊢
 have HQS:=lh hQs
 obtain⟨x,hxv⟩:∃ x,-1 - v=x:=⟨_,rfl⟩
 have HXV:=lh hxv
 have IX:I64 x:=I64.mk (by omega) (by omega)
 have wv:IntKind.i64.wrap (-1 - v)=x:=by rw[←hxv];exact IntWalk.i64_in _ (by omega)
 have hvlt:decide (v<0)=false:=decide_eq_false (by omega)
 rw[hxv]
 clear hp hz hS hsr htr hnI hQs hQ hvn hxv
 have HXC:=lh (show Chg [] w (((((w.alloc (.cells #[.int .i64 g.n,.slice eo g.e.length cap] 24)).alloc (.cells #[.slice ao p.v.length ac,.slice bo p.e.length bc] 29)).alloc (.cells #[.slice tno turn.length tc,.slice so same.length sc] 32)).alloc (.cells #[.slice none 0 0,.slice none 0 0] 29)).alloc (.cells #[.slice none 0 0,.slice none 0 0] 32)) from (show Chg [] w (((((w.alloc (.cells #[.int .i64 g.n,.slice eo g.e.length cap] 24)).alloc (.cells #[.slice ao p.v.length ac,.slice bo p.e.length bc] 29)).alloc (.cells #[.slice tno turn.length tc,.slice so same.length sc] 32)).alloc (.cells #[.slice none 0 0,.slice none 0 0] 29)).alloc (.cells #[.slice none 0 0,.slice none 0 0] 32)) from ((((((Chg.refl [] w).alloc _).alloc _).alloc _).alloc _).alloc _)))
 have qbx0:=heap_alloc_new w (.cells #[.int .i64 g.n,.slice eo g.e.length cap] 24)
 replace qbx0:=(show Chg [] (w.alloc (.cells #[.int .i64 g.n,.slice eo g.e.length cap] 24)) (((((w.alloc (.cells #[.int .i64 g.n,.slice eo g.e.length cap] 24)).alloc (.cells #[.slice ao p.v.length ac,.slice bo p.e.length bc] 29)).alloc (.cells #[.slice tno turn.length tc,.slice so same.length sc] 32)).alloc (.cells #[.slice none 0 0,.slice none 0 0] 29)).alloc (.cells #[.slice none 0 0,.slice none 0 0] 32)) from (((((Chg.refl [] (w.alloc (.cells #[.int .i64 g.n,.slice eo g.e.length cap] 24))).alloc _).alloc _).alloc _).alloc _)).heap qbx0 (by simp)
 have qbx1:=heap_alloc_new (w.alloc (.cells #[.int .i64 g.n,.slice eo g.e.length cap] 24)) (.cells #[.slice ao p.v.length ac,.slice bo p.e.length bc] 29)
 rw[show (w.alloc (.cells #[.int .i64 g.n,.slice eo g.e.length cap] 24)).heap.size=w.heap.size+1 by simp] at qbx1
 replace qbx1:=(show Chg [] ((w.alloc (.cells #[.int .i64 g.n,.slice eo g.e.length cap] 24)).alloc (.cells #[.slice ao p.v.length ac,.slice bo p.e.length bc] 29)) (((((w.alloc (.cells #[.int .i64 g.n,.slice eo g.e.length cap] 24)).alloc (.cells #[.slice ao p.v.length ac,.slice bo p.e.length bc] 29)).alloc (.cells #[.slice tno turn.length tc,.slice so same.length sc] 32)).alloc (.cells #[.slice none 0 0,.slice none 0 0] 29)).alloc (.cells #[.slice none 0 0,.slice none 0 0] 32)) from ((((Chg.refl [] ((w.alloc (.cells #[.int .i64 g.n,.slice eo g.e.length cap] 24)).alloc (.cells #[.slice ao p.v.length ac,.slice bo p.e.length bc] 29))).alloc _).alloc _).alloc _)).heap qbx1 (by simp)
 have qbx2:=heap_alloc_new ((w.alloc (.cells #[.int .i64 g.n,.slice eo g.e.length cap] 24)).alloc (.cells #[.slice ao p.v.length ac,.slice bo p.e.length bc] 29)) (.cells #[.slice tno turn.length tc,.slice so same.length sc] 32)
 rw[show ((w.alloc (.cells #[.int .i64 g.n,.slice eo g.e.length cap] 24)).alloc (.cells #[.slice ao p.v.length ac,.slice bo p.e.length bc] 29)).heap.size=w.heap.size+2 by simp] at qbx2
 replace qbx2:=(show Chg [] (((w.alloc (.cells #[.int .i64 g.n,.slice eo g.e.length cap] 24)).alloc (.cells #[.slice ao p.v.length ac,.slice bo p.e.length bc] 29)).alloc (.cells #[.slice tno turn.length tc,.slice so same.length sc] 32)) (((((w.alloc (.cells #[.int .i64 g.n,.slice eo g.e.length cap] 24)).alloc (.cells #[.slice ao p.v.length ac,.slice bo p.e.length bc] 29)).alloc (.cells #[.slice tno turn.length tc,.slice so same.length sc] 32)).alloc (.cells #[.slice none 0 0,.slice none 0 0] 29)).alloc (.cells #[.slice none 0 0,.slice none 0 0] 32)) from (((Chg.refl [] (((w.alloc (.cells #[.int .i64 g.n,.slice eo g.e.length cap] 24)).alloc (.cells #[.slice ao p.v.length ac,.slice bo p.e.length bc] 29)).alloc (.cells #[.slice tno turn.length tc,.slice so same.length sc] 32))).alloc _).alloc _)).heap qbx2 (by simp)
 have qbx3:=heap_alloc_new (((w.alloc (.cells #[.int .i64 g.n,.slice eo g.e.length cap] 24)).alloc (.cells #[.slice ao p.v.length ac,.slice bo p.e.length bc] 29)).alloc (.cells #[.slice tno turn.length tc,.slice so same.length sc] 32)) (.cells #[.slice none 0 0,.slice none 0 0] 29)
 rw[show (((w.alloc (.cells #[.int .i64 g.n,.slice eo g.e.length cap] 24)).alloc (.cells #[.slice ao p.v.length ac,.slice bo p.e.length bc] 29)).alloc (.cells #[.slice tno turn.length tc,.slice so same.length sc] 32)).heap.size=w.heap.size+3 by simp] at qbx3
 replace qbx3:=(show Chg [] ((((w.alloc (.cells #[.int .i64 g.n,.slice eo g.e.length cap] 24)).alloc (.cells #[.slice ao p.v.length ac,.slice bo p.e.length bc] 29)).alloc (.cells #[.slice tno turn.length tc,.slice so same.length sc] 32)).alloc (.cells #[.slice none 0 0,.slice none 0 0] 29)) (((((w.alloc (.cells #[.int .i64 g.n,.slice eo g.e.length cap] 24)).alloc (.cells #[.slice ao p.v.length ac,.slice bo p.e.length bc] 29)).alloc (.cells #[.slice tno turn.length tc,.slice so same.length sc] 32)).alloc (.cells #[.slice none 0 0,.slice none 0 0] 29)).alloc (.cells #[.slice none 0 0,.slice none 0 0] 32)) from ((Chg.refl [] ((((w.alloc (.cells #[.int .i64 g.n,.slice eo g.e.length cap] 24)).alloc (.cells #[.slice ao p.v.length ac,.slice bo p.e.length bc] 29)).alloc (.cells #[.slice tno turn.length tc,.slice so same.length sc] 32)).alloc (.cells #[.slice none 0 0,.slice none 0 0] 29))).alloc _)).heap qbx3 (by simp)
 have qbx4:=heap_alloc_new ((((w.alloc (.cells #[.int .i64 g.n,.slice eo g.e.length cap] 24)).alloc (.cells #[.slice ao p.v.length ac,.slice bo p.e.length bc] 29)).alloc (.cells #[.slice tno turn.length tc,.slice so same.length sc] 32)).alloc (.cells #[.slice none 0 0,.slice none 0 0] 29)) (.cells #[.slice none 0 0,.slice none 0 0] 32)
 rw[show ((((w.alloc (.cells #[.int .i64 g.n,.slice eo g.e.length cap] 24)).alloc (.cells #[.slice ao p.v.length ac,.slice bo p.e.length bc] 29)).alloc (.cells #[.slice tno turn.length tc,.slice so same.length sc] 32)).alloc (.cells #[.slice none 0 0,.slice none 0 0] 29)).heap.size=w.heap.size+4 by simp] at qbx4
 have HX:=lh (fun (w2:World) (hbx:Chg [] (((((w.alloc (.cells #[.int .i64 g.n,.slice eo g.e.length cap] 24)).alloc (.cells #[.slice ao p.v.length ac,.slice bo p.e.length bc] 29)).alloc (.cells #[.slice tno turn.length tc,.slice so same.length sc] 32)).alloc (.cells #[.slice none 0 0,.slice none 0 0] 29)).alloc (.cells #[.slice none 0 0,.slice none 0 0] 32)) w2)=>(⟨hbx.cell ((cell_of_row _ _ 0 _ _ _ qbx0).trans rfl) (by simp),hbx.cell ((cell_of_row _ _ 1 _ _ _ qbx0).trans rfl) (by simp),hbx.cell ((cell_of_row _ _ 0 _ _ _ qbx1).trans rfl) (by simp),hbx.cell ((cell_of_row _ _ 1 _ _ _ qbx1).trans rfl) (by simp),hbx.cell ((cell_of_row _ _ 0 _ _ _ qbx2).trans rfl) (by simp),hbx.cell ((cell_of_row _ _ 1 _ _ _ qbx2).trans rfl) (by simp),hbx.heap qbx3 (by simp),hbx.heap qbx4 (by simp),by have hz:=hbx.size;simpa using hz⟩:w2.cell? ⟨w.heap.size,0,none⟩=some (.int .i64 g.n)∧w2.cell? ⟨w.heap.size,1,none⟩=some (.slice eo g.e.length cap)∧w2.cell? ⟨w.heap.size+1,0,none⟩=some (.slice ao p.v.length ac)∧w2.cell? ⟨w.heap.size+1,1,none⟩=some (.slice bo p.e.length bc)∧w2.cell? ⟨w.heap.size+2,0,none⟩=some (.slice tno turn.length tc)∧w2.cell? ⟨w.heap.size+2,1,none⟩=some (.slice so same.length sc)∧w2.heap[w.heap.size+3]?=some (.cells #[.slice none 0 0,.slice none 0 0] 29 (0,0))∧w2.heap[w.heap.size+4]?=some (.cells #[.slice none 0 0,.slice none 0 0] 32 (0,0))∧w.heap.size+5≤w2.heap.size))
 clear qbx0 qbx1 qbx2 qbx3 qbx4
 have HXZ:=lh (show (((((w.alloc (.cells #[.int .i64 g.n,.slice eo g.e.length cap] 24)).alloc (.cells #[.slice ao p.v.length ac,.slice bo p.e.length bc] 29)).alloc (.cells #[.slice tno turn.length tc,.slice so same.length sc] 32)).alloc (.cells #[.slice none 0 0,.slice none 0 0] 29)).alloc (.cells #[.slice none 0 0,.slice none 0 0] 32)).heap.size=w.heap.size+5 by simp)
 obtain⟨x0,x1,y0,y1,z0,z1,-,-,hsz⟩:=HX.out _ (Chg.refl _ _)
 go_enter Tryz.func29,Tryz.ntmps29
 go_wp2_with fail
 generalize (((((w.alloc (.cells #[.int .i64 g.n,.slice eo g.e.length cap] 24)).alloc (.cells #[.slice ao p.v.length ac,.slice bo p.e.length bc] 29)).alloc (.cells #[.slice tno turn.length tc,.slice so same.length sc] 32)).alloc (.cells #[.slice none 0 0,.slice none 0 0] 29)).alloc (.cells #[.slice none 0 0,.slice none 0 0] 32))=w1 at *
 refine (regionsL_any _ _ _ g p turn same _ (by omega) (by omega) (by omega) HS1.out hsl HSR.out HZ.out (HG.out.fresh HXC.out) (HP.out.at.fresh HXC.out) (HX0.out.fresh HXC.out)).mono ?_
 rintro e w2 ⟨rv,vs,rfl,hro,-,hc2⟩
 have HC2:=lh hc2
 have HRO:=lh hro
 have HW2:=lh (HXC.out.trans hc2 (by simp))
 clear x0 x1 y0 y1 z0 z1 hsz hc2 hro
 obtain⟨x0,x1,y0,y1,z0,z1,-,-,hsz⟩:=HX.out _ HC2.out
 go_wp2_with fail
 refine (has_any _ p.v v _ HPR.out.1 (by omega) (HPVI.out.fresh HW2.out)).mono ?_
 rintro e w3 ⟨rfl,hc3⟩
 have HC3:=lh (HC2.out.trans hc3 (by simp))
 have HRO3:=lh (HRO.out.chg hc3 (by simp) (by simp))
 rw[decide_eq_false HVN.out]
 clear x0 x1 y0 y1 z0 z1 hsz hc3
 obtain⟨x0,x1,y0,y1,z0,z1,-,-,hsz⟩:=HX.out _ HC3.out
 go_upto_if 49 with fail
 go_cut [13] (fun c13 wc=>∃ vs,RowsOwn wc w1.heap.size c13 vs Q∧Chg [] w1 wc)
 case first =>
  by_cases hv0:p.v=[]
  ·have hvl:((p.v.length:Int)==0)=true:=by rw[hv0];rfl
   have HQ:=lh (HRE.out hv0)
   clear hv0
   go_wp2
   go_meet
   case rel=>exact⟨_,by rw[HQ.out];exact RowsOwn.nil1 HC3.out.size,HC3.out.alloc _⟩
  have hvl:((p.v.length:Int)==0)=false:=by rw[beq_eq_false_iff_ne];have:=List.length_pos_iff.2 hv0;omega
  have HQ:=lh (HRN.out hv0)
  clear hv0
  go_wp2
  go_meet
  case rel=>exact⟨vs,by rw[HQ.out];exact HRO3.out,HC3.out⟩
 case rest =>
  rename World=>w4
  obtain⟨us0,hro4,hc4⟩:=hcut
  have HC4:=lh hc4
  have HRO4:=lh hro4
  obtain⟨rg,rc,uo,uc,rfl,rcell,hus⟩:=hro4.cellK hn
  have HUS:=lh hus
  have hql:∀ l∈Q,l.length≤1000:=fun l hl=>(HQS.out l hl).2
  have hun:=hql _ (Plain.getD_memL hn)
  have hrow:=hro4.rows n (by rw[hro4.len];exact hn)
  rw[hus] at hrow
  have HROW:=lh (show RowAt w4 w1.heap.size (.slice uo (Q.getD n []).length uc) (Q.getD n []) from⟨hrow,fun y hy=>((HQS.out _ (Plain.getD_memL hn)).1 y hy).1,by omega⟩)
  obtain⟨T,hT⟩:∃ T,Q.getD n []=T:=⟨_,rfl⟩
  have HT0:=lh hT
  rw[hT] at HROW HUS hun rcell
  clear x0 x1 y0 y1 z0 z1 hsz hc4 hro4 hus hrow hql hT
  obtain⟨x0,x1,y0,y1,z0,z1,-,-,hsz⟩:=HX.out _ HC4.out
  have hsl0:=fun w'=>HRO4.out.slot (k:=n) (w':=w') (by rw[HRO4.out.len];exact hn)
  rw[HUS.out] at hsl0
  have HSL0:=lh hsl0
  have HB4:=lh HC4.out.size
  have hrow4:=HROW.out
  obtain⟨M,hM⟩:∃ M,Q.length=M:=⟨_,rfl⟩
  have HM:=lh hM
  rw[hM] at hn hQl HRO4 ⊢
  clear hsl0 hM
  have hrg:w1.heap.size≤rg:=(HRO4.out.out.lt rg rfl).1
  go_upto_region 11 with (at_builtin;refine wl_push rfl _ _ rfl (B:=w1.heap.size) (v:=.slice uo T.length uc) rfl rfl hrow4 IX HB4.out (by omega) rfl ?_;intro v6 w6 r6 c6 f6;have HR6:=lh r6;have HC6:=lh c6;have HF6:=lh f6;obtain⟨k1,k2⟩:=HSL0.out _ c6;have HW6:=lh (HC4.out.trans c6 (fun j hj=>Or.inr (HROW.out.low j (by rw[HROW.out.foot] at hj;exact hj)).1));obtain⟨g6,q6,e6⟩:=owns_some r6.1 (by simp);rw[List.length_append,show [x].length=1 from rfl] at e6;subst e6;clear r6 c6 f6 rcell x0 x1 y0 y1 z0 z1 hsz)
  have hp7:=HRO4.out.put (w':=w6) (g':=g6) (cap':=q6) (q:=n) (x:=x) (by rw[HRO4.out.len,HM.out]) (by rw[HRO4.out.len,HM.out];exact hn) (by rw[HT0.out];have h:=HR6.out.1;rw[List.length_append,show [x].length=1 from rfl,show ints (T++[x])=ints T++[.int .i64 x] by simp[ints]] at h;exact h) (by rw[HUS.out];have h:=HC6.out;rwa[HROW.out.foot] at h) (by rw[HUS.out];exact (HF6.out g6 (by simp[foot,Value.ownBlock])).imp (fun h=>by rw[HROW.out.foot] at h;simpa using h) id)
  rw[HT0.out] at hp7
  have HRO7:=lh hp7
  have HC7:=lh (HW6.out.setCell (p:=⟨rg,n,none⟩) (Or.inr hrg) (.slice (some ⟨g6,0,none⟩) (T.length+1) q6))
  clear hp7 k1 k2 hrow4
  generalize (w6.setCell ⟨rg,n,none⟩ (.slice (some ⟨g6,0,none⟩) (T.length+1) q6))=w7 at *
  obtain⟨x0,x1,y0,y1,z0,z1,-,-,hsz⟩:=HX.out _ HC7.out
  go_upto_region 12 with fail
  have HYB:=lh (heap_alloc_new w7 (.cells #[.slice tno turn.length tc,.slice none 0 0] 32))
  have HAL:=lh (show Chg [] w7 (w7.alloc (.cells #[.slice tno turn.length tc,.slice none 0 0] 32)) from (Chg.refl _ _).alloc _)
  have HYL:=lh HC7.out.size
  have HYN:=lh (show w7.heap.size<(w7.alloc (.cells #[.slice tno turn.length tc,.slice none 0 0] 32)).heap.size by simp)
  obtain⟨yb,hyb⟩:∃ b,w7.heap.size=b:=⟨_,rfl⟩
  rw[hyb] at HYB HYL HYN ⊢
  clear hyb x0 x1 y0 y1 z0 z1 hsz
  generalize (w7.alloc (.cells #[.slice tno turn.length tc,.slice none 0 0] 32))=w8 at *
  have HC8:=lh (HC7.out.trans HAL.out (by simp))
  have hro8:=HRO7.out.chg HAL.out (by simp) (by simp)
  obtain⟨vs,hvs⟩:∃ vs,us0.set n (.slice (some ⟨g6,0,none⟩) (T.length+1) q6)=vs:=⟨_,rfl⟩
  obtain⟨R,hR⟩:∃ R,Q.set n (T++[x])=R:=⟨_,rfl⟩
  rw[hvs,hR] at hro8
  have HRL:=lh (show R.length=M by rw[←hR,List.length_set,HM.out])
  have HRS:=lh (show ∀ l∈R,(∀ y∈l,I64 y∧-1000000≤y∧y≤1000000)∧l.length≤1001 from fun l hl=>by
   rw[←hR] at hl
   rcases List.mem_or_eq_of_mem_set hl with q | q
   ·have:=HQS.out l q
    exact⟨this.1,by omega⟩
   rw[q]
   refine⟨fun y hy=>?_,by simp;omega⟩
   rcases List.mem_append.1 hy with r | r
   ·exact (HQS.out _ (by rw[←HT0.out];exact Plain.getD_memL (by rw[HM.out];exact hn))).1 y r
   rw[List.mem_singleton.1 r]
   exact⟨IX,by have:=HXV.out;omega,by have:=HXV.out;omega⟩)
  have HFIN:=lh (show Plain.addL R R.length=Plain.addTo Q n x by rw[←hR,←HT0.out];exact Plain.addL_all Q n x)
  rw[←HRL.out] at hro8
  have HRO8:=lh hro8
  clear hro8 hvs hR
  go_wp2
  go_loopw [17,77] (fun _ c wi=>∃ (k:Nat) (yo:Option Addr) (yc:Nat) (us:List Value),k≤M∧c=.int .i64 k∧AddV wi yb w1.heap.size (.slice tno turn.length tc) rg rc vs R k yo yc us∧Chg [] w1 wi) (fun _ c _=>M - (intOf c).toNat)
  case atStart=>exact⟨0,none,0,[],Nat.zero_le _,rfl,⟨HYB.out,by rw[Plain.addR_zero];exact HRO8.out,by rw[Plain.addL_zero];exact RowsOwn.nil _ _,by simp,by simp[Value.ownBlock]⟩,HC8.out⟩
  case round =>
   rename World=>wi
   obtain⟨k,yo,yc,us,hk,rfl,hv,hci⟩:=hrel
   have HV:=lh hv
   have HCI:=lh hci
   have HUL:=lh (show us.length≤k by rw[hv.ys.len];exact Plain.addL_len R k)
   clear hv hci
   by_cases hlt:k<M
   ·obtain⟨uo2,uc2,kcell,hvk,hrow⟩:=HV.out.cell (k:=k) (by rw[HRL.out];exact hlt)
    have hLm:=HRS.out _ (Plain.getD_memL (show k<R.length by rw[HRL.out];exact hlt))
    have HSK:=lh (fun hl=>HV.out.skip (k:=k) (by rw[HRL.out];exact hlt) hl)
    have HSO:=lh (fun w' hr hc=>HV.out.sort (w':=w') (k:=k) (by rw[HRL.out];exact hlt) hr hc)
    have HTE:=lh (fun w7 w8 g8 c8 hl hr hc h8 hc8 hg8=>HV.out.step (w7:=w7) (w8:=w8) (g8:=g8) (c8:=c8) (k:=k) (by rw[HRL.out];exact hlt) hl hr hc h8 hc8 hg8)
    obtain⟨L,hLe⟩:∃ L,R.getD k []=L:=⟨_,rfl⟩
    rw[hLe] at kcell hvk hrow hLm HSK HSO HTE
    clear hLe
    by_cases hl:1<L.length
    ·have hdl:decide ((L.length:Int) > 1)=true:=decide_eq_true (by omega)
     obtain⟨y0,y1⟩:wi.cell? ⟨yb,0,none⟩=some (.slice tno turn.length tc)∧wi.cell? ⟨yb,1,none⟩=some (.slice yo us.length yc):=⟨(cell_of_row _ _ 0 _ _ _ HV.out.var).trans rfl,(cell_of_row _ _ 1 _ _ _ HV.out.var).trans rfl⟩
     have HKR:=lh (show RowAt wi w1.heap.size (.slice uo2 L.length uc2) L from⟨by rw[←hvk];exact hrow,fun y hy=>(hLm.1 y hy).1,by omega⟩)
     have HVK:=lh hvk
     have HL:=lh hl
     have HLM:=lh hLm.2
     clear hrow hvk hLm y0 y1
     go_wp2_with fail
     refine (sortI_any _ L w1.heap.size wi (by have:=HLM.out;omega) HKR.out).mono ?_
     rintro e wj ⟨rfl,hr,hcs⟩
     rw[←HVK.out] at hr hcs
     have hsl:=HSO.out wj hr.1 hcs
     have HST:=lh hr.1
     have HCS:=lh hcs
     have HS1':=lh hsl.1
     obtain⟨g8,c8,w9,hrun,h8,hc8,hg8⟩:=run_app elemRow hsl.2.2.out (show w1.heap.size≤wj.heap.size from Nat.le_trans HCI.out.size hcs.size) (cs:=#[.slice uo2 L.length uc2]) rfl (oneSlice _ _ _) (by have:=HUL.out;omega) (Or.inl rfl) 30
     have hst:=HTE.out wj w9 g8 c8 HL.out HST.out HCS.out (by rw[HVK.out];exact h8) hc8 hg8
     have hno:yb ∉ (Value.slice yo us.length yc).ownBlock.toList:=fun hm=>owns_other hsl.2.2.out HS1'.out (by decide) (by simpa using hm)
     have h18:=hc8.heap HS1'.out hno
     have y1:=(cell_of_row _ _ 1 _ _ _ HS1'.out).trans (show _=some (Value.slice yo us.length yc) from rfl)
     have z1:=(cell_of_row _ _ 1 _ _ _ h18).trans (show _=some (Value.slice yo us.length yc) from rfl)
     have f1:=free_at h18 1
     have HVS:=lh hst.1
     have HCX:=lh (show Chg [] w1 (w9.setCell ⟨yb,1,none⟩ (.slice (some ⟨g8,0,none⟩) (us.length+1) c8)) from (HCI.out.trans hcs (fun j hj=>Or.inr (HST.out.lt j (by simpa using hj)).1)).trans hst.2 (fun j hj=>Or.inr (by
      rcases List.mem_cons.1 hj with q | q
      ·rw[q];exact HYL.out
      exact (hsl.2.2.out.lt j (by simpa using q)).1)))
     clear hr hcs hsl h8 hc8 hg8 hst hno h18 HSK HSO HTE
     go_wp2_with (at_builtin;refine wl_apprun rfl _ _ 30 rfl rfl rfl hrun ?_)
     clear hrun y1 z1 f1 kcell
     generalize (w9.setCell ⟨yb,1,none⟩ (.slice (some ⟨g8,0,none⟩) (us.length+1) c8))=wk at *
     go_roundw
     case rel=>exact⟨k+1,_,_,_,by omega,by go_num,HVS.out,HCX.out⟩
     case measure=>simp[intOf];omega
    have hdl:decide ((L.length:Int) > 1)=false:=decide_eq_false (by omega)
    have HVS:=lh (HSK.out hl)
    clear hrow hvk hLm hl HSK HSO HTE
    go_wp2
    clear kcell
    go_roundw
    case rel=>exact⟨k+1,_,_,_,by omega,by go_num,HVS.out,HCI.out⟩
    case measure=>simp[intOf];omega
   have e:k=M:=by omega
   subst e
   have HSF:=lh (show RowsOwn wi w1.heap.size (.slice yo us.length yc) us (Plain.addTo Q n x) by rw[←HFIN.out,HRL.out];exact HV.out.ys)
   have HNE:=lh (show ∀ l∈Plain.addTo Q n x,l≠[]∧-1000000≤l.getD 0 0∧l.getD 0 0≤1000000 from fun l hl=>by
    rw[←HFIN.out] at hl
    obtain⟨m,hm,hpm,h1⟩:=Plain.addL_mem hl
    have hlen:0<l.length:=by rw[hpm.length_eq];omega
    have hmem:l.getD 0 0∈m:=hpm.mem_iff.1 (Plain.getD_mem hlen)
    have:=(HRS.out m hm).1 _ hmem
    exact⟨List.ne_nil_of_length_pos hlen,this.2.1,this.2.2⟩)
   have HSB:=lh (show ∀ l∈Plain.addTo Q n x,(∀ y∈l,I64 y)∧l.length<1000000000 from fun l hl=>by
    rw[←HFIN.out] at hl
    obtain⟨m,hm,hpm,-⟩:=Plain.addL_mem hl
    exact⟨fun y hy=>((HRS.out m hm).1 y (hpm.mem_iff.1 hy)).1,by have:=(HRS.out m hm).2;rw[hpm.length_eq];omega⟩)
   obtain⟨x0,x1,y0,y1,z0,z1,r8,r9,hsz⟩:=HX.out _ HCI.out
   obtain⟨q0,q1⟩:wi.cell? ⟨yb,0,none⟩=some (.slice tno turn.length tc)∧wi.cell? ⟨yb,1,none⟩=some (.slice yo us.length yc):=⟨(cell_of_row _ _ 0 _ _ _ HV.out.var).trans rfl,(cell_of_row _ _ 1 _ _ _ HV.out.var).trans rfl⟩
   clear hlt hk q0 x0 x1 y0 y1 z0 z1 r8 r9 hsz
   go_wp2_with fail
   refine (addSort_any _ us _ w1.heap.size wi (by have:=HUL.out;omega) HSF.out HNE.out).mono ?_
   rintro e wj ⟨rfl,us',S,hro,hlen,hperm,hord,hcj⟩
   have HCJ:=lh (show Chg [] w1 wj from HCI.out.trans hcj (fun j hj=>Or.inr (HSF.out.out.lt j (by simpa using hj)).1))
   have hyj:=hcj.heap HV.out.var (fun hm=>owns_other HSF.out.out HV.out.var (by decide) (by simpa using hm))
   have HYJ:=lh hyj
   have HPS:=lh hperm
   have HOS:=lh hord
   have hsl9:S.length≤1001:=by
    rw[hperm.length_eq,←HFIN.out]
    have h1:=Plain.addL_len R R.length
    have h2:=HRL.out
    omega
   have HSR9:=lh (show ∀ l∈S,(∀ y∈l,I64 y)∧l.length<1000000000 from fun l hl=>HSB.out l (hperm.mem_iff.1 hl))
   have hul:us'.length=S.length:=hro.len
   have hus:us.length=S.length:=by rw[←hlen,hul]
   rw[hus] at hro hyj HYJ
   have HRS9:=lh (show RowsAt wj (.slice yo S.length yc) S from hro.read (fun l hl=>⟨(HSR9.out l hl).1,by have:=(HSR9.out l hl).2;omega⟩))
   obtain⟨q0,q1⟩:wj.cell? ⟨yb,0,none⟩=some (.slice tno turn.length tc)∧wj.cell? ⟨yb,1,none⟩=some (.slice yo S.length yc):=⟨(cell_of_row _ _ 0 _ _ _ hyj).trans rfl,(cell_of_row _ _ 1 _ _ _ hyj).trans rfl⟩
   obtain⟨x0,x1,y0,y1,z0,z1,r8,r9,hsz⟩:=HX.out _ HCJ.out
   have HML:=lh (show (⟨Plain.mergeL true p.v [v],Plain.mergeL true p.e []⟩:Plain.Pt)=Plain.orPt p ⟨[v],[]⟩ by rw[Plain.mergeL_one,Plain.mergeL_one];rfl)
   have HT1:=lh (show ∀ i,(turn.getD i []).length<1000000000 from fun i=>Nat.lt_of_le_of_lt (HTR.out i) (by decide))
   have HT2:=lh (show ∀ i,(S.getD i []).length<1000000000 from fun i=>by
    by_cases hi:i<S.length
    ·exact (HSR9.out _ (Plain.getD_memL hi)).2
    rw[show S.getD i []=[] by simp[List.getD,show S.length≤i by omega]];decide)
   have HS9:=lh hsl9
   have IV:I64 v:=I64.mk (by omega) (by omega)
   have HWJ:=lh (HXC.out.trans HCJ.out (by simp))
   have R8:=lh r8
   have R9:=lh r9
   have HSJ:=lh hsz
   clear hro hlen hperm hord hcj hyj hul hus x0 x1 z0 z1 r8 r9 hsz hsl9
   go_wp2
   have hS0:Chg [] wj wj.drew:=(Chg.refl [] wj).drew
   refine wp_region_way (Chg [] wj) [0,1,3,5] (Way.line [0,1,5,2,3,4,6,7,8,9] .done) (by kernel_rfl) (by kernel_rfl) ?_
   simp only[Way.line]
   repeat
    first
     | (refine along_off rfl (by rfl) (by rfl) (fun _ _ _ h=>h) hS0 ?_;simp only[Act.put,Z1,Z2,Z3,Z4,Z5,Z6])
     | (refine along_read (v:=?_) rfl (by rfl) (by rfl) (fun _ _ _ h=>h) hS0 (fun w' hS'=>?_) ?_;rotate_left;(focus (have rd0:=hS'.cell y0 (by simp);have rd1:=hS'.cell y1 (by simp);have rd2:=hS'.cell q0 (by simp);have rd3:=hS'.cell q1 (by simp);clear hS';go_simp;try with_reducible rfl));simp only[Act.put,Z1,Z2,Z3,Z4,Z5,Z6])
     | (refine along_skip rfl (by rfl) (by rfl) hS0 ?_;simp only[Act.put,Z1,Z2,Z3,Z4,Z5,Z6])
   refine along_op rfl (by rfl) (by rfl) (fun K hK=>?_)
   go_simp
   have HRV:=lh (((row_lit1 (w:=wj) (B:=wj.heap.size) (Nat.le_refl _) IV).chg ((Chg.refl [] _).drew) (by simp):RowAt (wj.alloc (.cells #[.int .i64 v] 3)).drew _ _ _))
   have hS1:=((Chg.refl [] wj).alloc (.cells #[.int .i64 v] 3)).drew
   refine hK.out _ _ (fun _=>hS1) ?_
   clear hK K hS0
   have hS0:=hS1
   clear hS1
   try simp only[Act.put,Z1,Z2,Z3,Z4,Z5,Z6]
   obtain⟨vb,hvb⟩:∃ b,wj.heap.size=b:=⟨_,rfl⟩
   replace HRV:Hid (RowAt (wj.alloc (.cells #[.int .i64 v] 3)).drew vb (.slice (some ⟨vb,0,none⟩) 1 1) [v]):=by rw[←hvb];exact HRV
   rw[hvb]
   clear hvb
   generalize (wj.alloc (.cells #[.int .i64 v] 3)).drew=u1 at *
   repeat
    first
     | (refine along_off rfl (by rfl) (by rfl) (fun _ _ _ h=>h) hS0 ?_;simp only[Act.put,Z1,Z2,Z3,Z4,Z5,Z6])
     | (refine along_read (v:=?_) rfl (by rfl) (by rfl) (fun _ _ _ h=>h) hS0 (fun w' hS'=>?_) ?_;rotate_left;(focus (skip;clear hS';go_simp;try with_reducible rfl));simp only[Act.put,Z1,Z2,Z3,Z4,Z5,Z6])
     | (refine along_skip rfl (by rfl) (by rfl) hS0 ?_;simp only[Act.put,Z1,Z2,Z3,Z4,Z5,Z6])
   refine along_op rfl (by rfl) (by rfl) (fun K hK=>?_)
   go_simp
   have HU1:=lh hS0.size
   refine (or_low _ _ p ⟨[v],[]⟩ u1 (by omega) (by omega) (by simp) (by simp) (HP.out.fresh (HWJ.out.trans hS0 (by simp))) ⟨_,_,rfl,⟨HRV.out.ints,CapOk.row HRV.out⟩,⟨IntsAt.nil _,none,0,0,rfl,by decide,by decide⟩⟩).mono ?_
   rintro e u2 ⟨ov,rfl,hor,hcx⟩
   rw[HML.out] at hor
   have HOR:=lh hor
   obtain⟨a1,k1,a2,k2,rfl⟩:=(hor [] u2 (Chg.refl _ _) (by simp)).shape
   have OX:=lh hcx
   have hS1:=hS0.trans hcx (by simp)
   clear hS0 hcx hor
   have hS0:=hS1
   clear hS1
   refine hK.out _ _ (fun _=>hS0) ?_
   clear hK K
   try simp only[Act.put,Z1,Z2,Z3,Z4,Z5,Z6]
   repeat
    first
     | (refine along_off rfl (by rfl) (by rfl) (fun _ _ _ h=>h) hS0 ?_;simp only[Act.put,Z1,Z2,Z3,Z4,Z5,Z6])
     | (refine along_read (v:=?_) rfl (by rfl) (by rfl) (fun _ _ _ h=>h) hS0 (fun w' hS'=>?_) ?_;rotate_left;(focus (skip;clear hS';go_simp;try with_reducible rfl));simp only[Act.put,Z1,Z2,Z3,Z4,Z5,Z6])
     | (refine along_skip rfl (by rfl) (by rfl) hS0 ?_;simp only[Act.put,Z1,Z2,Z3,Z4,Z5,Z6])
   refine along_op rfl (by rfl) (by rfl) (fun K hK=>?_)
   go_simp
   have HU2:=lh hS0.size
   refine (clean_any _ turn S u2 (by omega) (by have:=HS9.out;omega) HT1.out HT2.out ⟨_,_,rfl,HT.out.fresh (HWJ.out.trans hS0 (by simp)),HRS9.out.fresh hS0⟩).mono ?_
   rintro e u3 ⟨vy,rfl,hcl,hcx⟩
   have HCL:=lh hcl
   obtain⟨c1,c2,rfl,⟨p3,k3,e3,-⟩,⟨p4,k4,rfl,-⟩⟩:=hcl [] u3 (Chg.refl _ _) (by simp)
   rw[List.length_map] at e3
   subst e3
   have CX:=lh hcx
   have hS1:=hS0.trans hcx (by simp)
   clear hS0 hcx hcl
   have hS0:=hS1
   clear hS1
   refine hK.out _ _ (fun _=>hS0) ?_
   clear hK K
   try simp only[Act.put,Z1,Z2,Z3,Z4,Z5,Z6]
   have HS03:=lh hS0
   obtain⟨KV,hKV⟩:∃ KV,Plain.orPt p ⟨[v],[]⟩=KV:=⟨_,rfl⟩
   have HKV:=lh hKV
   rw[hKV] at HOR ⊢
   clear hKV y0 y1 q0 q1
   have b8:u3.heap[w.heap.size+1+1+1]?=_:=hS0.heap R8.out (by simp)
   have b9:u3.heap[w.heap.size+1+1+1+1]?=_:=hS0.heap R9.out (by simp)
   obtain⟨e8,o0,o1,o2⟩:=out_store2 b8 (.slice a1 KV.v.length k1) (.slice a2 KV.e.length k2)
   have b9':=o2.heap b9 (by simp)
   obtain⟨e9,o3,o4,o5⟩:=out_store2 b9' (.slice p3 turn.length k3) (.slice p4 S.length k4)
   have o6:=o5.cell o0 (by simp)
   have o7:=o5.cell o1 (by simp)
   have HO25:=lh (show Chg [w.heap.size+1+1+1,w.heap.size+1+1+1+1] u3 _ from (o2.mono (fun j hj=>Or.inl (by simp at hj;simp[hj]))).trans o5 (fun j hj=>Or.inl (by simp at hj;simp[hj])))
   have z0:=(cell_of_row _ _ 0 _ _ _ b8).trans (show _=some (Value.slice none 0 0) from rfl)
   have z1:=(cell_of_row _ _ 1 _ _ _ b8).trans (show _=some (Value.slice none 0 0) from rfl)
   have z2:=free_at b8 0
   have z3:=free_at b8 1
   have t0:=(cell_of_row _ _ 0 _ _ _ b9').trans (show _=some (Value.slice none 0 0) from rfl)
   have t1:=(cell_of_row _ _ 1 _ _ _ b9').trans (show _=some (Value.slice none 0 0) from rfl)
   have t2:=free_at b9' 0
   have t3:=free_at b9' 1
   clear b8 b9 b9' e8 e9 o0 o1 o2 o5
   refine along_op rfl (by rfl) (by rfl) (fun K hK=>?_)
   go_simp
   refine hK.out _ _ (fun h=>absurd h (Bool.eq_false_iff.1 (by kernel_rfl))) ?_
   clear hK K z0 z1 z2 z3
   try simp only[Act.put,Z1,Z2,Z3,Z4,Z5,Z6]
   refine along_op rfl (by rfl) (by rfl) (fun K hK=>?_)
   go_simp
   refine hK.out _ _ (fun h=>absurd h (Bool.eq_false_iff.1 (by kernel_rfl))) ?_
   clear hK K t0 t1 t2 t3
   try simp only[Act.put,Z1,Z2,Z3,Z4,Z5,Z6]
   refine along_op rfl (by rfl) (by rfl) (fun K hK=>?_)
   go_simp
   refine hK.out _ _ (fun h=>absurd h (Bool.eq_false_iff.1 (by kernel_rfl))) ?_
   clear hK K
   try simp only[Act.put,Z1,Z2,Z3,Z4,Z5,Z6]
   refine along_done ?_
   go_wp2
   refine bodyPost_ret (v:=.tuple #[.agg #[.slice a1 KV.v.length k1,.slice a2 KV.e.length k2],.agg #[.slice p3 turn.length k3,.slice p4 S.length k4],.int .i64 0]) (by simp[results,Tryz.results29,go_sem,o3,o4,o6,o7]) rfl ?_
   have h1:=HU1.out
   have h2:=HU2.out
   have h3:=HSJ.out
   refine⟨_,_,S,rfl,HPS.out,HOS.out,fun own wx hx hlo=>⟨?_,?_⟩,?_⟩
   ·rw[HKV.out]
    exact HOR.out ([w.heap.size+1+1+1,w.heap.size+1+1+1+1]++own) wx (((CX.out.mono (by simp)).trans (HO25.out.mono (fun j hj=>Or.inl (List.mem_append_left _ hj))) (fun j hj=>Or.inl hj)).trans hx (fun j hj=>Or.inl (List.mem_append_right _ hj))) (fun j hj=>by
     rcases List.mem_append.1 hj with q | q
     ·simp at q;omega
     have:=hlo j q;omega)
   ·exact HCL.out ([w.heap.size+1+1+1,w.heap.size+1+1+1+1]++own) wx ((HO25.out.mono (fun j hj=>Or.inl (List.mem_append_left _ hj))).trans hx (fun j hj=>Or.inl (List.mem_append_right _ hj))) (fun j hj=>by
     rcases List.mem_append.1 hj with q | q
     ·simp at q;omega
     have:=hlo j q;omega)
   exact (HWJ.out.trans HS03.out (by simp)).trans HO25.out (fun j hj=>Or.inr (by simp at hj;omega))
namespace Plain
theorem home_nil (g:Gr) (p:Pt) (turn same:List (List Int)) (v:Int):optN (homeAt g p ⟨[],[]⟩ turn same v)=0:=by
 unfold homeAt
 split
 ·rfl
 split
 ·rfl
 rw[if_pos rfl];rfl
theorem restTurn_firsts (E:List Int) (turn:List (List Int)):(restTurn E turn).map first=restTurn E turn:=by
 unfold restTurn
 rw[List.map_map]
 exact List.map_congr_left fun l _=>first_first _
theorem home_all {g:Gr} {p h:Pt} {turn same:List (List Int)} {v:Int} (hz:planErr g p turn same=0) (hhe:h.err g=0) (hv1:∀ u∈h.v,u∈p.v) (he1:∀ e∈h.e,e∈p.e) (hv:v∈p.v) (_hvn:v ∉ h.v) (hpv:p.v.length≤60) (hpe:p.e.length≤60) (hT:turn.length≤100) (hr:∀ i,(turn.getD i []).length≤200) :
  (orPt h ⟨[v],[]⟩).err g=0∧(orPt h ⟨[v],[]⟩).v.length≤60∧(orPt h ⟨[v],[]⟩).e=h.e∧andPt p (orPt h ⟨[v],[]⟩)=orPt h ⟨[v],[]⟩∧planErr g (orPt h ⟨[v],[]⟩) (restTurn h.e turn) (restSame g p (orPt h ⟨[v],[]⟩) turn same)=0 ∧
  restErr g (orPt h ⟨[v],[]⟩) h (restTurn h.e turn) (restSame g p (orPt h ⟨[v],[]⟩) turn same)=0∧restTurn h.e (restTurn h.e turn)=restTurn h.e turn∧restSame g (orPt h ⟨[v],[]⟩) h (restTurn h.e turn) (restSame g p (orPt h ⟨[v],[]⟩) turn same)=restSame g p h turn same ∧
  (restSame g p (orPt h ⟨[v],[]⟩) turn same).length≤1000∧∀ i,((restSame g p (orPt h ⟨[v],[]⟩) turn same).getD i []).length≤1000:=by
 obtain⟨hpr,hto⟩:=zero_ok hz
 have hvr:=(Pt.ok_of_err hpr).vr v hv
 have hvq:(⟨[v],[]⟩:Pt).err g=0:=Pt.err_of (Pt.err_ok hpr).1 (rises_of (List.pairwise_singleton _ _) (by simpa using hvr)) rfl (by simp)
 have hke:=orPt_err hhe hvq
 have hkE:(orPt h ⟨[v],[]⟩).e=h.e:=orL_nil _
 have hkV:∀ u∈(orPt h ⟨[v],[]⟩).v,u∈h.v∨u=v:=fun u hu=>(mem_orL.1 (show u∈orL h.v [v] from hu)).imp id (fun e=>List.mem_singleton.1 e)
 have hhk:∀ u∈h.v,u∈(orPt h ⟨[v],[]⟩).v:=fun u hu=>mem_orL.2 (Or.inl hu)
 obtain⟨k,hk⟩:∃ k,orPt h ⟨[v],[]⟩=k:=⟨_,rfl⟩
 rw[hk] at hke hkE hkV hhk ⊢
 have hkv:∀ u∈k.v,u∈p.v:=fun u hu=>(hkV u hu).elim (hv1 u) fun e=>by rw[e];exact hv
 have hkp:∀ e∈k.e,e∈p.e:=fun e he=>by rw[hkE] at he;exact he1 e he
 have sK:Subs g p k turn:=⟨hpr,hke,hto,hkp,hkv⟩
 obtain⟨rp1,rp2⟩:=part_rise hpr
 obtain⟨rk1,rk2⟩:=part_rise hke
 have hl:k.v.length≤60:=Nat.le_trans (len_le_of_sub (rk1.imp fun h=>by omega) hkv) hpv
 have hl2:k.e.length≤60:=Nat.le_trans (len_le_of_sub (rk2.imp fun h=>by omega) hkp) hpe
 have hzk:=rest_right hz hke hkp hkv
 have hrs:=rest_sizes (restErr_zero hz hke (subB_iff.2 hkv) (subB_iff.2 hkp)) hl hl2 hT hr
 obtain⟨a1,a2⟩:=rest_again hz sK hhe (fun e he=>by rw[hkE];exact he) hhk
 rw[hkE] at hzk a1 a2
 refine⟨hke,hl,hkE,andPt_sub hkv hkp rp1 rk1 rp2 rk2,hzk,restErr_zero hzk hhe (subB_iff.2 hhk) (subB_iff.2 fun e he=>by rw[hkE];exact he),a1,a2,hrs.2.2.2.1,hrs.2.2.2.2⟩
end Plain
set_option maxRecDepth 100000 in
set_option maxHeartbeats 8000000 in
theorem holdHomes_any (vc vq:Value) (g:Plain.Gr) (p:Plain.Pt) (turn same:List (List Int)) (q:Plain.Pt) (v:Int) (w:World) (hc:CaseAt w vc g p turn same) (hq:PtC w vq q) (IV:I64 v) :
  Calls Tryz.prog 7 #[vc,vq,.int .i64 v] w fun e w'=>e=.returned (.bool true)∧Chg [] w w':=by
 have HQ:=lh hq
 have HCA:=lh hc
 obtain⟨eo,cap,ao,ac,bo,bc,tno,tc,so,sc,rfl,hg,hp,hx⟩:=hc.shape
 obtain⟨co,cc,fo,fc,rfl⟩:=hq.shape
 have HG:=lh hg
 have HPC:=lh hp
 have HP:=lh hp.at
 clear hg hp hx hc hq
 have HXC:=lh (show Chg [] w ((w.alloc (.cells #[.int .i64 g.n,.slice eo g.e.length cap,.slice ao p.v.length ac,.slice bo p.e.length bc,.slice tno turn.length tc,.slice so same.length sc] 34)).alloc (.cells #[.slice co q.v.length cc,.slice fo q.e.length fc] 29)) from (show Chg [] w ((w.alloc (.cells #[.int .i64 g.n,.slice eo g.e.length cap,.slice ao p.v.length ac,.slice bo p.e.length bc,.slice tno turn.length tc,.slice so same.length sc] 34)).alloc (.cells #[.slice co q.v.length cc,.slice fo q.e.length fc] 29)) from (((Chg.refl [] w).alloc _).alloc _)))
 have qbx0:=heap_alloc_new w (.cells #[.int .i64 g.n,.slice eo g.e.length cap,.slice ao p.v.length ac,.slice bo p.e.length bc,.slice tno turn.length tc,.slice so same.length sc] 34)
 replace qbx0:=(show Chg [] (w.alloc (.cells #[.int .i64 g.n,.slice eo g.e.length cap,.slice ao p.v.length ac,.slice bo p.e.length bc,.slice tno turn.length tc,.slice so same.length sc] 34)) ((w.alloc (.cells #[.int .i64 g.n,.slice eo g.e.length cap,.slice ao p.v.length ac,.slice bo p.e.length bc,.slice tno turn.length tc,.slice so same.length sc] 34)).alloc (.cells #[.slice co q.v.length cc,.slice fo q.e.length fc] 29)) from ((Chg.refl [] (w.alloc (.cells #[.int .i64 g.n,.slice eo g.e.length cap,.slice ao p.v.length ac,.slice bo p.e.length bc,.slice tno turn.length tc,.slice so same.length sc] 34))).alloc _)).heap qbx0 (by simp)
 have qbx1:=heap_alloc_new (w.alloc (.cells #[.int .i64 g.n,.slice eo g.e.length cap,.slice ao p.v.length ac,.slice bo p.e.length bc,.slice tno turn.length tc,.slice so same.length sc] 34)) (.cells #[.slice co q.v.length cc,.slice fo q.e.length fc] 29)
 rw[show (w.alloc (.cells #[.int .i64 g.n,.slice eo g.e.length cap,.slice ao p.v.length ac,.slice bo p.e.length bc,.slice tno turn.length tc,.slice so same.length sc] 34)).heap.size=w.heap.size+1 by simp] at qbx1
 have HX:=lh (fun (w2:World) (hbx:Chg [] ((w.alloc (.cells #[.int .i64 g.n,.slice eo g.e.length cap,.slice ao p.v.length ac,.slice bo p.e.length bc,.slice tno turn.length tc,.slice so same.length sc] 34)).alloc (.cells #[.slice co q.v.length cc,.slice fo q.e.length fc] 29)) w2)=>(⟨hbx.cell ((cell_of_row _ _ 0 _ _ _ qbx0).trans rfl) (by simp),hbx.cell ((cell_of_row _ _ 1 _ _ _ qbx0).trans rfl) (by simp),hbx.cell ((cell_of_row _ _ 2 _ _ _ qbx0).trans rfl) (by simp),hbx.cell ((cell_of_row _ _ 3 _ _ _ qbx0).trans rfl) (by simp),hbx.cell ((cell_of_row _ _ 4 _ _ _ qbx0).trans rfl) (by simp),hbx.cell ((cell_of_row _ _ 5 _ _ _ qbx0).trans rfl) (by simp),hbx.cell ((cell_of_row _ _ 0 _ _ _ qbx1).trans rfl) (by simp),hbx.cell ((cell_of_row _ _ 1 _ _ _ qbx1).trans rfl) (by simp),by have hz:=hbx.size;simpa using hz⟩:w2.cell? ⟨w.heap.size,0,none⟩=some (.int .i64 g.n)∧w2.cell? ⟨w.heap.size,1,none⟩=some (.slice eo g.e.length cap)∧w2.cell? ⟨w.heap.size,2,none⟩=some (.slice ao p.v.length ac)∧w2.cell? ⟨w.heap.size,3,none⟩=some (.slice bo p.e.length bc)∧w2.cell? ⟨w.heap.size,4,none⟩=some (.slice tno turn.length tc)∧w2.cell? ⟨w.heap.size,5,none⟩=some (.slice so same.length sc)∧w2.cell? ⟨w.heap.size+1,0,none⟩=some (.slice co q.v.length cc)∧w2.cell? ⟨w.heap.size+1,1,none⟩=some (.slice fo q.e.length fc)∧w.heap.size+2≤w2.heap.size))
 clear qbx0 qbx1
 have HXZ:=lh (show ((w.alloc (.cells #[.int .i64 g.n,.slice eo g.e.length cap,.slice ao p.v.length ac,.slice bo p.e.length bc,.slice tno turn.length tc,.slice so same.length sc] 34)).alloc (.cells #[.slice co q.v.length cc,.slice fo q.e.length fc] 29)).heap.size=w.heap.size+2 by simp)
 obtain⟨c0,c1,c2,c3,c4,c5,q0,q1,hsz⟩:=HX.out _ (Chg.refl _ _)
 go_enter Tryz.func7,Tryz.ntmps7
 go_wp2_with fail
 generalize ((w.alloc (.cells #[.int .i64 g.n,.slice eo g.e.length cap,.slice ao p.v.length ac,.slice bo p.e.length bc,.slice tno turn.length tc,.slice so same.length sc] 34)).alloc (.cells #[.slice co q.v.length cc,.slice fo q.e.length fc] 29))=w1 at *
 refine (awake17_any _).mono ?_
 rintro e w2 ⟨rfl,hc2⟩
 have HC2:=lh hc2
 clear c0 c1 c2 c3 c4 c5 q0 q1 hsz hc2
 obtain⟨c0,c1,c2,c3,c4,c5,q0,q1,hsz⟩:=HX.out _ HC2.out
 go_wp2_with fail
 refine (small17_any _ g p turn same _ (HCA.out.fresh (HXC.out.trans HC2.out (by simp)))).mono ?_
 rintro e w3 ⟨rfl,hc3⟩
 have HC3:=lh (HC2.out.trans hc3 (by simp))
 clear c0 c1 c2 c3 c4 c5 q0 q1 hsz hc3
 obtain⟨c0,c1,c2,c3,c4,c5,q0,q1,hsz⟩:=HX.out _ HC3.out
 cases hb1:Plain.small8 g p turn same with
 | false =>
  clear hb1
  go_wp2_with fail
  refine (awake17_any _).mono ?_
  rintro e w4 ⟨rfl,hc4⟩
  have HC4:=lh ((HXC.out.trans HC3.out (by simp)).trans hc4 (by simp))
  clear c0 c1 c2 c3 c4 c5 q0 q1 hsz hc4
  go_wp2
  go_ret
  exact⟨rfl,HC4.out⟩
 | true =>
 go_wp2_with fail
 refine (small4_any _ _ g q _ (HG.out.fresh (HXC.out.trans HC3.out (by simp))) (HQ.out.at.fresh (HXC.out.trans HC3.out (by simp)))).mono ?_
 rintro e w4 ⟨rfl,hc4⟩
 have HC4:=lh (HC3.out.trans hc4 (by simp))
 clear c0 c1 c2 c3 c4 c5 q0 q1 hsz hc4
 obtain⟨c0,c1,c2,c3,c4,c5,q0,q1,hsz⟩:=HX.out _ HC4.out
 cases hb2:Plain.small4 g q with
 | false =>
  clear hb2
  go_wp2_with fail
  refine (awake17_any _).mono ?_
  rintro e w5 ⟨rfl,hc5⟩
  have HC5:=lh ((HXC.out.trans HC4.out (by simp)).trans hc5 (by simp))
  clear c0 c1 c2 c3 c4 c5 q0 q1 hsz hc5
  go_wp2
  go_ret
  exact⟨rfl,HC5.out⟩
 | true =>
 obtain⟨b1,b2,b3,b4,b5,b6⟩:=Plain.small8_is hb1
 obtain⟨d1,d2,d3⟩:=Plain.small4_is hb2
 have HB4:=lh b4
 have HB6:=lh (fun i=>Nat.le_trans (b6 i) (by omega:60≤10000))
 have HROWS:=lh (Plain.small8_four hb1).2
 clear hb1 hb2 b4 b6
 go_wp2_with fail
 refine (holdOf_any _ _ g p q turn same _ (by omega) (by omega) (by omega) (by omega) (by omega) (by have:=HB4.out;omega) (by omega) HB6.out (HCA.out.fresh (HXC.out.trans HC4.out (by simp))) (HQ.out.fresh (HXC.out.trans HC4.out (by simp)))).mono ?_
 rintro e w6 ⟨o1,o2,rfl,hno,hyes,hc6⟩
 have HC6:=lh (HC4.out.trans hc6 (by simp))
 clear c0 c1 c2 c3 c4 c5 q0 q1 hsz
 by_cases hz:Plain.ofErr g p q turn same=0
 ·obtain⟨hpz,hqz⟩:=Plain.ofErr_ok hz
  have hpe:=(Plain.zero_ok hpz).1
  have hae:=Plain.andPt_err hpe hqz
  have hse:∀ e∈(Plain.andPt p q).e,e∈p.e:=fun e h=>(Plain.mem_andOf.1 h).1
  have hsv:∀ e∈(Plain.andPt p q).v,e∈p.v:=fun e h=>(Plain.mem_andOf.1 h).1
  have hl1:(Plain.andPt p q).v.length≤60:=Nat.le_trans (List.length_filter_le _ _) b1
  have hl2:(Plain.andPt p q).e.length≤60:=Nat.le_trans (List.length_filter_le _ _) b2
  have hrz:=Plain.rest_right hpz hae hse hsv
  have HSZ:=lh (Plain.rest_sizes (restErr_zero hpz hae Plain.andPt_left.1 Plain.andPt_left.2) hl1 hl2 b3 HROWS.out)
  have HPZ:=lh hpz
  have HRZ:=lh hrz
  have HPL:=lh (hyes hz).2
  have HPT:=lh (hyes hz).1
  have HHOME:=lh (fun n (q1:Plain.homeAt g p (Plain.andPt p q) turn same v=some n)=>Plain.home_add q1)
  have HALL:=lh (fun (q1:v∈p.v) (q2:v ∉ (Plain.andPt p q).v)=>Plain.home_all hpz hae hsv hse q1 q2 b1 b2 b3 HROWS.out)
  have HVR:=lh (fun (q1:v∈p.v)=>(Plain.Pt.ok_of_err hpe).vr v q1)
  have HFI:=lh (Plain.restTurn_firsts (Plain.andPt p q).e turn)
  obtain⟨h,hh⟩:∃ h,Plain.andPt p q=h:=⟨_,rfl⟩
  obtain⟨A1,hA1⟩:∃ x,Plain.restTurn h.e turn=x:=⟨_,rfl⟩
  obtain⟨A2,hA2⟩:∃ x,Plain.restSame g p h turn same=x:=⟨_,rfl⟩
  rw[hh] at HSZ HPL HPT HRZ HHOME HALL HFI hl1 hl2
  rw[hA1,hA2] at HSZ HPL HRZ HHOME HALL
  rw[hA1] at HFI
  have HA1:=lh hA1
  obtain⟨p1,k1,p2,k2,rfl⟩:=HPT.out.shape
  obtain⟨u1,u2,rfl,⟨p3,k3,rfl,-⟩,⟨p4,k4,rfl,-⟩⟩:=HPL.out
  rw[hz]
  clear hno hyes hz hc6 hpz hqz hpe hae hse hsv hrz hh hA1 hA2
  have HYC:=lh (show Chg [] w6 ((w6.alloc (.cells #[.slice p1 h.v.length k1,.slice p2 h.e.length k2] 29)).alloc (.cells #[.slice p3 A1.length k3,.slice p4 A2.length k4] 32)) from (show Chg [] w6 ((w6.alloc (.cells #[.slice p1 h.v.length k1,.slice p2 h.e.length k2] 29)).alloc (.cells #[.slice p3 A1.length k3,.slice p4 A2.length k4] 32)) from (((Chg.refl [] w6).alloc _).alloc _)))
  have qbx0:=heap_alloc_new w6 (.cells #[.slice p1 h.v.length k1,.slice p2 h.e.length k2] 29)
  replace qbx0:=(show Chg [] (w6.alloc (.cells #[.slice p1 h.v.length k1,.slice p2 h.e.length k2] 29)) ((w6.alloc (.cells #[.slice p1 h.v.length k1,.slice p2 h.e.length k2] 29)).alloc (.cells #[.slice p3 A1.length k3,.slice p4 A2.length k4] 32)) from ((Chg.refl [] (w6.alloc (.cells #[.slice p1 h.v.length k1,.slice p2 h.e.length k2] 29))).alloc _)).heap qbx0 (by simp)
  have qbx1:=heap_alloc_new (w6.alloc (.cells #[.slice p1 h.v.length k1,.slice p2 h.e.length k2] 29)) (.cells #[.slice p3 A1.length k3,.slice p4 A2.length k4] 32)
  rw[show (w6.alloc (.cells #[.slice p1 h.v.length k1,.slice p2 h.e.length k2] 29)).heap.size=w6.heap.size+1 by simp] at qbx1
  have HY:=lh (fun (w2:World) (hbx:Chg [] ((w6.alloc (.cells #[.slice p1 h.v.length k1,.slice p2 h.e.length k2] 29)).alloc (.cells #[.slice p3 A1.length k3,.slice p4 A2.length k4] 32)) w2)=>(⟨hbx.cell ((cell_of_row _ _ 0 _ _ _ qbx0).trans rfl) (by simp),hbx.cell ((cell_of_row _ _ 1 _ _ _ qbx0).trans rfl) (by simp),hbx.cell ((cell_of_row _ _ 0 _ _ _ qbx1).trans rfl) (by simp),hbx.cell ((cell_of_row _ _ 1 _ _ _ qbx1).trans rfl) (by simp),by have hz:=hbx.size;simpa using hz⟩:w2.cell? ⟨w6.heap.size,0,none⟩=some (.slice p1 h.v.length k1)∧w2.cell? ⟨w6.heap.size,1,none⟩=some (.slice p2 h.e.length k2)∧w2.cell? ⟨w6.heap.size+1,0,none⟩=some (.slice p3 A1.length k3)∧w2.cell? ⟨w6.heap.size+1,1,none⟩=some (.slice p4 A2.length k4)∧w6.heap.size+2≤w2.heap.size))
  clear qbx0 qbx1
  have HYZ:=lh (show ((w6.alloc (.cells #[.slice p1 h.v.length k1,.slice p2 h.e.length k2] 29)).alloc (.cells #[.slice p3 A1.length k3,.slice p4 A2.length k4] 32)).heap.size=w6.heap.size+2 by simp)
  have HCY:=lh (HC6.out.trans HYC.out (by simp))
  have HWY:=lh (HXC.out.trans HCY.out (by simp))
  obtain⟨c0,c1,c2,c3,c4,c5,q0,q1,hsz⟩:=HX.out _ HCY.out
  obtain⟨m0,m1,n0,n1,hsz2⟩:=HY.out _ (Chg.refl _ _)
  obtain⟨s1,s2,s3,s4,s5⟩:=HSZ.out
  have HS2:=lh s2
  have HS5:=lh s5
  clear s2 s5
  go_wp2_with fail
  generalize ((w6.alloc (.cells #[.slice p1 h.v.length k1,.slice p2 h.e.length k2] 29)).alloc (.cells #[.slice p3 A1.length k3,.slice p4 A2.length k4] 32))=w7 at *
  refine (home_any _ _ g p h turn same v _ (by omega) (by omega) (by omega) (by omega) (by omega) HROWS.out (by have:=HB4.out;omega) (by omega) HB6.out IV (HCA.out.fresh HWY.out) (HPT.out.fresh HYC.out)).mono ?_
  rintro e w8 ⟨rfl,hc8⟩
  have HC78:=lh hc8
  have HC8:=lh (HCY.out.trans hc8 (by simp))
  have HW8:=lh (HXC.out.trans HC8.out (by simp))
  have HY8:=lh (HYC.out.trans HC78.out (by simp))
  clear c0 c1 c2 c3 c4 c5 q0 q1 hsz m0 m1 n0 n1 hsz2 hc8
  cases hhm:Plain.homeAt g p h turn same v with
  | none =>
   rw[show optN none=0 from rfl,show (none:Option Nat).isSome=false from rfl]
   clear hhm
   go_wp2
   go_ret
   exact⟨ret_bool (by simp),HW8.out⟩
  | some n =>
   rw[show optN (some n)=(n:Int) from rfl,show (some n).isSome=true from rfl]
   obtain⟨-,-,hvp,hvh,hnl,hS⟩:=HHOME.out n hhm
   obtain⟨a1,a2,a3,a4,a5,a6,a7,a8,a9,a10⟩:=HALL.out hvp hvh
   have hvr:=HVR.out hvp
   have HHS:=lh (fun S=>@hS S)
   have HVH:=lh hvh
   have HNL:=lh hnl
   obtain⟨K,hK⟩:∃ K,Plain.orPt h ⟨[v],[]⟩=K:=⟨_,rfl⟩
   obtain⟨B2,hB2⟩:∃ B,Plain.restSame g p K turn same=B:=⟨_,rfl⟩
   rw[hK] at a1 a2 a3 a4 a5 a6 a8 a9 a10 HHS
   rw[hB2] at a5 a6 a8 a9 a10 HHS
   have HKK:=lh hK
   have HKE:=lh a1
   have HKEE:=lh a3
   have HKA:=lh a4
   have HKZ:=lh a5
   have HKR:=lh a6
   have HBT:=lh a7
   have HBS:=lh a8
   have HA10:=lh a10
   have HBB:=lh hB2
   have hkel:K.e.length≤60:=by rw[a3];exact hl2
   clear hhm hvp hvh hnl hS hK hB2 a1 a3 a4 a5 a6 a7 a8 a10
   obtain⟨c0,c1,c2,c3,c4,c5,q0,q1,hsz⟩:=HX.out _ HC8.out
   obtain⟨m0,m1,n0,n1,hsz2⟩:=HY.out _ HC78.out
   go_wp2_with fail
   refine (addH_any _ _ _ g h A1 A2 v n _ (by omega) (by omega) (by omega) HS2.out (by omega) (by omega) (fun i=>Nat.le_trans (HS5.out i) (by decide)) HRZ.out hvr.1 hvr.2 HVH.out HNL.out (HG.out.fresh HW8.out) (HPT.out.fresh HY8.out) (HPL.out.fresh HY8.out)).mono ?_
   rintro e w9 ⟨o1,o2,S,rfl,hSp,hSo,hlow,hc9⟩
   obtain rfl:=HHS.out S hSp hSo
   have HKC:=lh (hlow [] w9 (Chg.refl _ _) (by simp)).1
   have HKP:=lh (hlow [] w9 (Chg.refl _ _) (by simp)).2
   rw[HKK.out] at HKC
   rw[HFI.out] at HKP
   obtain⟨g1,x1,g2,x2,rfl⟩:=HKC.out.shape
   obtain⟨u1,u2,rfl,⟨g3,x3,rfl,-⟩,⟨g4,x4,rfl,-⟩⟩:=HKP.out
   have HC79:=lh (HC78.out.trans hc9 (by simp))
   have HC9:=lh (HC8.out.trans hc9 (by simp))
   clear c0 c1 c2 c3 c4 c5 q0 q1 hsz m0 m1 n0 n1 hsz2 hc9 hSp hSo hlow hvr
   have HUC:=lh (show Chg [] w9 ((w9.alloc (.cells #[.slice g1 K.v.length x1,.slice g2 K.e.length x2] 29)).alloc (.cells #[.slice g3 A1.length x3,.slice g4 S.length x4] 32)) from (show Chg [] w9 ((w9.alloc (.cells #[.slice g1 K.v.length x1,.slice g2 K.e.length x2] 29)).alloc (.cells #[.slice g3 A1.length x3,.slice g4 S.length x4] 32)) from (((Chg.refl [] w9).alloc _).alloc _)))
   have qbx0:=heap_alloc_new w9 (.cells #[.slice g1 K.v.length x1,.slice g2 K.e.length x2] 29)
   replace qbx0:=(show Chg [] (w9.alloc (.cells #[.slice g1 K.v.length x1,.slice g2 K.e.length x2] 29)) ((w9.alloc (.cells #[.slice g1 K.v.length x1,.slice g2 K.e.length x2] 29)).alloc (.cells #[.slice g3 A1.length x3,.slice g4 S.length x4] 32)) from ((Chg.refl [] (w9.alloc (.cells #[.slice g1 K.v.length x1,.slice g2 K.e.length x2] 29))).alloc _)).heap qbx0 (by simp)
   have qbx1:=heap_alloc_new (w9.alloc (.cells #[.slice g1 K.v.length x1,.slice g2 K.e.length x2] 29)) (.cells #[.slice g3 A1.length x3,.slice g4 S.length x4] 32)
   rw[show (w9.alloc (.cells #[.slice g1 K.v.length x1,.slice g2 K.e.length x2] 29)).heap.size=w9.heap.size+1 by simp] at qbx1
   have HU:=lh (fun (w2:World) (hbx:Chg [] ((w9.alloc (.cells #[.slice g1 K.v.length x1,.slice g2 K.e.length x2] 29)).alloc (.cells #[.slice g3 A1.length x3,.slice g4 S.length x4] 32)) w2)=>(⟨hbx.cell ((cell_of_row _ _ 0 _ _ _ qbx0).trans rfl) (by simp),hbx.cell ((cell_of_row _ _ 1 _ _ _ qbx0).trans rfl) (by simp),hbx.cell ((cell_of_row _ _ 0 _ _ _ qbx1).trans rfl) (by simp),hbx.cell ((cell_of_row _ _ 1 _ _ _ qbx1).trans rfl) (by simp),by have hz:=hbx.size;simpa using hz⟩:w2.cell? ⟨w9.heap.size,0,none⟩=some (.slice g1 K.v.length x1)∧w2.cell? ⟨w9.heap.size,1,none⟩=some (.slice g2 K.e.length x2)∧w2.cell? ⟨w9.heap.size+1,0,none⟩=some (.slice g3 A1.length x3)∧w2.cell? ⟨w9.heap.size+1,1,none⟩=some (.slice g4 S.length x4)∧w9.heap.size+2≤w2.heap.size))
   clear qbx0 qbx1
   have HUZ:=lh (show ((w9.alloc (.cells #[.slice g1 K.v.length x1,.slice g2 K.e.length x2] 29)).alloc (.cells #[.slice g3 A1.length x3,.slice g4 S.length x4] 32)).heap.size=w9.heap.size+2 by simp)
   have HC7U:=lh (HC79.out.trans HUC.out (by simp))
   have HCU:=lh (HC9.out.trans HUC.out (by simp))
   have HWU:=lh (HXC.out.trans HCU.out (by simp))
   obtain⟨c0,c1,c2,c3,c4,c5,q0,q1,hsz⟩:=HX.out _ HCU.out
   obtain⟨m0,m1,n0,n1,hsz2⟩:=HY.out _ HC7U.out
   obtain⟨e0,e1,f0,f1,hsz3⟩:=HU.out _ (Chg.refl _ _)
   go_wp2_with fail
   generalize ((w9.alloc (.cells #[.slice g1 K.v.length x1,.slice g2 K.e.length x2] 29)).alloc (.cells #[.slice g3 A1.length x3,.slice g4 S.length x4] 32))=w10 at *
   refine (holdOf_any _ _ g p K turn same _ (by omega) (by omega) (by omega) (by omega) (by omega) (by have:=HB4.out;omega) (by omega) HB6.out (HCA.out.fresh HWU.out) (HKC.out.fresh HUC.out)).mono ?_
   rintro e w11 ⟨o3,o4,rfl,-,hyes,hc11⟩
   have hof:=Plain.ofErr_zero HPZ.out HKE.out
   have hy:=hyes hof
   rw[hof]
   rw[HKA.out,HKEE.out,HA1.out,HBB.out] at hy
   have HMC:=lh hy.1
   have HMP:=lh hy.2
   obtain⟨g5,x5,g6,x6,rfl⟩:=hy.1.shape
   obtain⟨u1,u2,rfl,⟨g7,x7,rfl,-⟩,⟨g8,x8,rfl,-⟩⟩:=hy.2
   have HCU1:=lh hc11
   have HC711:=lh (HC7U.out.trans hc11 (by simp))
   have HC11:=lh (HCU.out.trans hc11 (by simp))
   clear c0 c1 c2 c3 c4 c5 q0 q1 hsz m0 m1 n0 n1 hsz2 e0 e1 f0 f1 hsz3 hc11 hyes hof hy
   have HVC:=lh (show Chg [] w11 ((w11.alloc (.cells #[.slice g5 K.v.length x5,.slice g6 K.e.length x6] 29)).alloc (.cells #[.slice g7 A1.length x7,.slice g8 S.length x8] 32)) from (show Chg [] w11 ((w11.alloc (.cells #[.slice g5 K.v.length x5,.slice g6 K.e.length x6] 29)).alloc (.cells #[.slice g7 A1.length x7,.slice g8 S.length x8] 32)) from (((Chg.refl [] w11).alloc _).alloc _)))
   have qbx0:=heap_alloc_new w11 (.cells #[.slice g5 K.v.length x5,.slice g6 K.e.length x6] 29)
   replace qbx0:=(show Chg [] (w11.alloc (.cells #[.slice g5 K.v.length x5,.slice g6 K.e.length x6] 29)) ((w11.alloc (.cells #[.slice g5 K.v.length x5,.slice g6 K.e.length x6] 29)).alloc (.cells #[.slice g7 A1.length x7,.slice g8 S.length x8] 32)) from ((Chg.refl [] (w11.alloc (.cells #[.slice g5 K.v.length x5,.slice g6 K.e.length x6] 29))).alloc _)).heap qbx0 (by simp)
   have qbx1:=heap_alloc_new (w11.alloc (.cells #[.slice g5 K.v.length x5,.slice g6 K.e.length x6] 29)) (.cells #[.slice g7 A1.length x7,.slice g8 S.length x8] 32)
   rw[show (w11.alloc (.cells #[.slice g5 K.v.length x5,.slice g6 K.e.length x6] 29)).heap.size=w11.heap.size+1 by simp] at qbx1
   have HV:=lh (fun (w2:World) (hbx:Chg [] ((w11.alloc (.cells #[.slice g5 K.v.length x5,.slice g6 K.e.length x6] 29)).alloc (.cells #[.slice g7 A1.length x7,.slice g8 S.length x8] 32)) w2)=>(⟨hbx.cell ((cell_of_row _ _ 0 _ _ _ qbx0).trans rfl) (by simp),hbx.cell ((cell_of_row _ _ 1 _ _ _ qbx0).trans rfl) (by simp),hbx.cell ((cell_of_row _ _ 0 _ _ _ qbx1).trans rfl) (by simp),hbx.cell ((cell_of_row _ _ 1 _ _ _ qbx1).trans rfl) (by simp),by have hz:=hbx.size;simpa using hz⟩:w2.cell? ⟨w11.heap.size,0,none⟩=some (.slice g5 K.v.length x5)∧w2.cell? ⟨w11.heap.size,1,none⟩=some (.slice g6 K.e.length x6)∧w2.cell? ⟨w11.heap.size+1,0,none⟩=some (.slice g7 A1.length x7)∧w2.cell? ⟨w11.heap.size+1,1,none⟩=some (.slice g8 S.length x8)∧w11.heap.size+2≤w2.heap.size))
   clear qbx0 qbx1
   have HVZ:=lh (show ((w11.alloc (.cells #[.slice g5 K.v.length x5,.slice g6 K.e.length x6] 29)).alloc (.cells #[.slice g7 A1.length x7,.slice g8 S.length x8] 32)).heap.size=w11.heap.size+2 by simp)
   have HC7V:=lh (HC711.out.trans HVC.out (by simp))
   have HCUV:=lh (HCU1.out.trans HVC.out (by simp))
   have HCV:=lh (HC11.out.trans HVC.out (by simp))
   have HWV:=lh (HXC.out.trans HCV.out (by simp))
   have HYV:=lh (HYC.out.trans HC7V.out (by simp))
   have HUV:=lh (HUC.out.trans HCUV.out (by simp))
   obtain⟨c0,c1,c2,c3,c4,c5,q0,q1,hsz⟩:=HX.out _ HCV.out
   obtain⟨m0,m1,n0,n1,hsz2⟩:=HY.out _ HC7V.out
   obtain⟨e0,e1,f0,f1,hsz3⟩:=HU.out _ HCUV.out
   obtain⟨i0,i1,j0,j1,hsz4⟩:=HV.out _ (Chg.refl _ _)
   go_wp2_with fail
   generalize ((w11.alloc (.cells #[.slice g5 K.v.length x5,.slice g6 K.e.length x6] 29)).alloc (.cells #[.slice g7 A1.length x7,.slice g8 S.length x8] 32))=w12 at *
   refine (gsame_any _ _ K K _ (HKC.out.at.fresh HUV.out) (HMC.out.at.fresh HVC.out)).mono ?_
   rintro e w13 ⟨rfl,hc13⟩
   rw[show (decide (K.v=K.v)&&decide (K.e=K.e))=true by simp]
   have HCV1:=lh hc13
   have HC7W:=lh (HC7V.out.trans hc13 (by simp))
   have HCUW:=lh (HCUV.out.trans hc13 (by simp))
   have HCW:=lh (HCV.out.trans hc13 (by simp))
   clear c0 c1 c2 c3 c4 c5 q0 q1 hsz m0 m1 n0 n1 hsz2 e0 e1 f0 f1 hsz3 i0 i1 j0 j1 hsz4 hc13
   obtain⟨c0,c1,c2,c3,c4,c5,q0,q1,hsz⟩:=HX.out _ HCW.out
   obtain⟨m0,m1,n0,n1,hsz2⟩:=HY.out _ HC7W.out
   obtain⟨e0,e1,f0,f1,hsz3⟩:=HU.out _ HCUW.out
   obtain⟨i0,i1,j0,j1,hsz4⟩:=HV.out _ HCV1.out
   have HT1:=lh (fun i=>Nat.lt_of_le_of_lt (HS2.out i) (by decide:200<1000000000))
   have HT2:=lh (fun i=>Nat.lt_of_le_of_lt (HA10.out i) (by decide:1000<1000000000))
   have HT3:=lh (fun i=>Nat.lt_of_le_of_lt (HS5.out i) (by decide:1000<1000000000))
   go_wp2_with fail
   refine (psame_any _ _ A1 S A1 S _ (by omega) (by omega) HT1.out HT2.out (by omega) (by omega) HT1.out HT2.out (HKP.out.fresh (HUC.out.trans HCUW.out (by simp))) (HMP.out.fresh (HVC.out.trans HCV1.out (by simp)))).mono ?_
   rintro e w14 ⟨rfl,hc14⟩
   rw[show decide (A1.map Plain.first=A1.map Plain.first∧S=S)=true by simp]
   have HC7X:=lh (HC7W.out.trans hc14 (by simp))
   have HCUX:=lh (HCUW.out.trans hc14 (by simp))
   have HCX:=lh (HCW.out.trans hc14 (by simp))
   have HWX:=lh (HXC.out.trans HCX.out (by simp))
   have HYX:=lh (HYC.out.trans HC7X.out (by simp))
   have HUX:=lh (HUC.out.trans HCUX.out (by simp))
   clear c0 c1 c2 c3 c4 c5 q0 q1 hsz m0 m1 n0 n1 hsz2 e0 e1 f0 f1 hsz3 i0 i1 j0 j1 hsz4 hc14
   obtain⟨c0,c1,c2,c3,c4,c5,q0,q1,hsz⟩:=HX.out _ HCX.out
   obtain⟨m0,m1,n0,n1,hsz2⟩:=HY.out _ HC7X.out
   obtain⟨e0,e1,f0,f1,hsz3⟩:=HU.out _ HCUX.out
   go_wp2_with fail
   refine (restTo_any _ _ _ _ g K h A1 S _ (by omega) (by omega) (by omega) (by omega) (by omega) (by omega) (by omega) (fun i=>Nat.le_trans (HA10.out i) (by decide)) (HG.out.fresh HWX.out) (HKC.out.at.fresh HUX.out) (HKP.out.fresh HUX.out) (HPT.out.at.fresh HYX.out)).mono ?_
   rintro e w15 ⟨o5,rfl,-,hyes,hc15⟩
   have hy:=hyes HKR.out
   rw[HKR.out]
   rw[HBT.out,HBS.out] at hy
   have HBK:=lh hy
   obtain⟨u1,u2,rfl,⟨g9,x9,rfl,-⟩,⟨g10,x10,rfl,-⟩⟩:=hy
   have HC715:=lh (HC7X.out.trans hc15 (by simp))
   have HC15:=lh (HCX.out.trans hc15 (by simp))
   clear c0 c1 c2 c3 c4 c5 q0 q1 hsz m0 m1 n0 n1 hsz2 e0 e1 f0 f1 hsz3 hc15 hyes
   have HBC:=lh (show Chg [] w15 (w15.alloc (.cells #[.slice g9 A1.length x9,.slice g10 A2.length x10] 32)) from (show Chg [] w15 (w15.alloc (.cells #[.slice g9 A1.length x9,.slice g10 A2.length x10] 32)) from ((Chg.refl [] w15).alloc _)))
   have qbx0:=heap_alloc_new w15 (.cells #[.slice g9 A1.length x9,.slice g10 A2.length x10] 32)
   have HB:=lh (fun (w2:World) (hbx:Chg [] (w15.alloc (.cells #[.slice g9 A1.length x9,.slice g10 A2.length x10] 32)) w2)=>(⟨hbx.cell ((cell_of_row _ _ 0 _ _ _ qbx0).trans rfl) (by simp),hbx.cell ((cell_of_row _ _ 1 _ _ _ qbx0).trans rfl) (by simp),by have hz:=hbx.size;simpa using hz⟩:w2.cell? ⟨w15.heap.size,0,none⟩=some (.slice g9 A1.length x9)∧w2.cell? ⟨w15.heap.size,1,none⟩=some (.slice g10 A2.length x10)∧w15.heap.size+1≤w2.heap.size))
   clear qbx0
   have HBZ:=lh (show (w15.alloc (.cells #[.slice g9 A1.length x9,.slice g10 A2.length x10] 32)).heap.size=w15.heap.size+1 by simp)
   have HC7B:=lh (HC715.out.trans HBC.out (by simp))
   have HCB:=lh (HC15.out.trans HBC.out (by simp))
   have HYB:=lh (HYC.out.trans HC7B.out (by simp))
   obtain⟨m0,m1,n0,n1,hsz2⟩:=HY.out _ HC7B.out
   obtain⟨l0,l1,hsz5⟩:=HB.out _ (Chg.refl _ _)
   go_wp2_with fail
   generalize (w15.alloc (.cells #[.slice g9 A1.length x9,.slice g10 A2.length x10] 32))=w16 at *
   refine (psame_any _ _ A1 A2 A1 A2 _ (by omega) (by omega) HT1.out HT3.out (by omega) (by omega) HT1.out HT3.out (HBK.out.fresh HBC.out) (HPL.out.fresh HYB.out)).mono ?_
   rintro e w17 ⟨rfl,hc17⟩
   rw[show decide (A1.map Plain.first=A1.map Plain.first∧A2=A2)=true by simp]
   have HCF:=lh ((HXC.out.trans HCB.out (by simp)).trans hc17 (by simp))
   clear m0 m1 n0 n1 hsz2 l0 l1 hsz5 hc17
   go_wp2
   go_ret
   exact⟨rfl,HCF.out⟩
 obtain⟨rfl,rfl⟩:=hno hz
 obtain⟨er,her⟩:∃ er,Plain.ofErr g p q turn same=er:=⟨_,rfl⟩
 rw[her] at hz ⊢
 have bz:(er != 0)=true:=by simp only[bne_iff_ne];exact hz
 clear hno hyes her hc6 hz
 have HYC:=lh (show Chg [] w6 ((w6.alloc (.cells #[.slice none 0 0,.slice none 0 0] 29)).alloc (.cells #[.slice none 0 0,.slice none 0 0] 32)) from (show Chg [] w6 ((w6.alloc (.cells #[.slice none 0 0,.slice none 0 0] 29)).alloc (.cells #[.slice none 0 0,.slice none 0 0] 32)) from (((Chg.refl [] w6).alloc _).alloc _)))
 have qbx0:=heap_alloc_new w6 (.cells #[.slice none 0 0,.slice none 0 0] 29)
 replace qbx0:=(show Chg [] (w6.alloc (.cells #[.slice none 0 0,.slice none 0 0] 29)) ((w6.alloc (.cells #[.slice none 0 0,.slice none 0 0] 29)).alloc (.cells #[.slice none 0 0,.slice none 0 0] 32)) from ((Chg.refl [] (w6.alloc (.cells #[.slice none 0 0,.slice none 0 0] 29))).alloc _)).heap qbx0 (by simp)
 have qbx1:=heap_alloc_new (w6.alloc (.cells #[.slice none 0 0,.slice none 0 0] 29)) (.cells #[.slice none 0 0,.slice none 0 0] 32)
 rw[show (w6.alloc (.cells #[.slice none 0 0,.slice none 0 0] 29)).heap.size=w6.heap.size+1 by simp] at qbx1
 have HY:=lh (fun (w2:World) (hbx:Chg [] ((w6.alloc (.cells #[.slice none 0 0,.slice none 0 0] 29)).alloc (.cells #[.slice none 0 0,.slice none 0 0] 32)) w2)=>(⟨hbx.cell ((cell_of_row _ _ 0 _ _ _ qbx0).trans rfl) (by simp),hbx.cell ((cell_of_row _ _ 1 _ _ _ qbx0).trans rfl) (by simp),hbx.cell ((cell_of_row _ _ 0 _ _ _ qbx1).trans rfl) (by simp),hbx.cell ((cell_of_row _ _ 1 _ _ _ qbx1).trans rfl) (by simp),by have hz:=hbx.size;simpa using hz⟩:w2.cell? ⟨w6.heap.size,0,none⟩=some (.slice none 0 0)∧w2.cell? ⟨w6.heap.size,1,none⟩=some (.slice none 0 0)∧w2.cell? ⟨w6.heap.size+1,0,none⟩=some (.slice none 0 0)∧w2.cell? ⟨w6.heap.size+1,1,none⟩=some (.slice none 0 0)∧w6.heap.size+2≤w2.heap.size))
 clear qbx0 qbx1
 have HYZ:=lh (show ((w6.alloc (.cells #[.slice none 0 0,.slice none 0 0] 29)).alloc (.cells #[.slice none 0 0,.slice none 0 0] 32)).heap.size=w6.heap.size+2 by simp)
 have HCY:=lh (HC6.out.trans HYC.out (by simp))
 have HWY:=lh (HXC.out.trans HCY.out (by simp))
 obtain⟨c0,c1,c2,c3,c4,c5,q0,q1,hsz⟩:=HX.out _ HCY.out
 obtain⟨m0,m1,n0,n1,hsz2⟩:=HY.out _ (Chg.refl _ _)
 have HHN:=lh (Plain.home_nil g p turn same v)
 go_wp2_with fail
 generalize ((w6.alloc (.cells #[.slice none 0 0,.slice none 0 0] 29)).alloc (.cells #[.slice none 0 0,.slice none 0 0] 32))=w7 at *
 refine (home_any _ _ g p ⟨[],[]⟩ turn same v _ (by omega) (by omega) (by simp) (by simp) (by omega) HROWS.out (by have:=HB4.out;omega) (by omega) HB6.out IV (HCA.out.fresh HWY.out) ⟨_,_,rfl,⟨IntsAt.nil _,none,0,0,rfl,by decide,by decide⟩,⟨IntsAt.nil _,none,0,0,rfl,by decide,by decide⟩⟩).mono ?_
 rintro e w8 ⟨rfl,hc8⟩
 rw[HHN.out]
 obtain⟨sm,hsm⟩:∃ b,(Plain.homeAt g p ⟨[],[]⟩ turn same v).isSome=b:=⟨_,rfl⟩
 rw[hsm]
 have HC8:=lh (HCY.out.trans hc8 (by simp))
 have HW8:=lh (HXC.out.trans HC8.out (by simp))
 clear c0 c1 c2 c3 c4 c5 q0 q1 hsz m0 m1 n0 n1 hsz2 hc8 hsm
 go_wp2
 go_ret
 exact⟨ret_bool (by simp),HW8.out⟩
end Go.Proofs.YtkacjmoamgjfpaaGreat
