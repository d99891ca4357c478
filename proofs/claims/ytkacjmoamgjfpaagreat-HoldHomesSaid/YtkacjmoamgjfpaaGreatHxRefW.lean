/- ref07: the contract of Walks. Conditions: a right part, right turns that lie in memory and read so, of a bounded size. -/
import Derived.Test.YtkacjmoamgjfpaaGreatHxRefF
namespace Go.Proofs.YtkacjmoamgjfpaaGreat
open Go.RowKit Go.Maps
end Go.Proofs.YtkacjmoamgjfpaaGreat
namespace Go.Proofs.YtkacjmoamgjfpaaGreat
namespace Plain
theorem perm_sorted {f:List Int→Int}:∀ {a b:List (List Int)},a.Perm b→a.Pairwise (fun x y=>f x≤f y)→b.Pairwise (fun x y=>f x≤f y)→(∀ x∈a,∀ y∈a,f x=f y→x=y)→a=b
 | [],b,h,_,_,_=>(List.Perm.nil_eq h)
 | x :: a,[],h,_,_,_=>absurd h.length_eq (by simp)
 | x :: a,y :: b,h,ha,hb,hi=>by
  have hy:y∈x :: a:=h.mem_iff.2 (by simp)
  have hx:x∈y :: b:=h.mem_iff.1 (by simp)
  have h1:f x≤f y:=by
   rcases List.mem_cons.1 hy with q | q
   ·rw[q];exact Int.le_refl _
   exact (List.pairwise_cons.1 ha).1 y q
  have h2:f y≤f x:=by
   rcases List.mem_cons.1 hx with q | q
   ·rw[q];exact Int.le_refl _
   exact (List.pairwise_cons.1 hb).1 x q
  have e:x=y:=hi x (by simp) y hy (by omega)
  subst e
  rw[perm_sorted ((List.perm_cons x).1 h) (List.pairwise_cons.1 ha).2 (List.pairwise_cons.1 hb).2 fun u hu v hv=>hi u (by simp[hu]) v (by simp[hv])]
structure Parted (g:Gr) (p:Pt) (turn same:List (List Int)):Prop where
 part:p.err g=0
 turns:TurnsOk g p turn
 flat:Flat g p turn
 walks:WalksOk g p turn (walksOf g p turn)
 two:∀ l∈same,2≤l.length
 nodup:same.flatten.Nodup
 keys:∀ x∈same.flatten,x∈(walksOf g p turn).map (·.1)
 rise:∀ l∈same,l.Pairwise (·<·)
 many:same.flatten.length+1≤(roots g p).length+same.length∨(roots g p).length=0
theorem parted {g:Gr} {p:Pt} {turn same:List (List Int)} (h:planErr g p turn same=0) (hW:WalksOk g p turn (walksOf g p turn)):Parted g p turn same:=by
 obtain⟨hf,c,hc,hcnt⟩:=planErr_zero h
 obtain⟨hte,hflat⟩:=flatErr_zero hf
 obtain⟨hpe,hto⟩:=turnErr_zero hte
 have hpo:=Pt.ok_of_err hpe
 obtain⟨hok,hmet,hl⟩:=sameRun_ok (fun y a h=>ownerOf_lt hpo hW h) _ c (Nat.le_refl _) hc
 rw[List.take_length] at hmet
 refine⟨hpe,hto,hflat,hW,fun l hl=>?_,by rw[←hmet];exact hok.nodup,fun x hx=>ownerOf_some (hok.has x (by rw[hmet];exact hx)),fun l hl2=>?_,?_⟩
 ·obtain⟨i,hi,rfl⟩:=List.getElem_of_mem hl
  have:=planErr_two h i hi
  simpa[List.getD,hi] using this
 ·obtain⟨i,hi,rfl⟩:=List.getElem_of_mem hl2
  have:=(hl i hi).2
  simpa[List.getD,hi] using this
 have hnum:=hok.num
 rw[hmet] at hnum
 by_cases h0:(roots g p).length=0
 ·exact Or.inr h0
 have hgl:c.1.grp.length=(roots g p).length:=by rw[←hok.ok.len,hok.all];simp[upTo]
 have:=count_pos hok.ok (by omega)
 exact Or.inl (by omega)
noncomputable def allRegs (g:Gr) (p:Pt) (turn same:List (List Int)):List (List Int):=same++singles (walksOf g p turn) same.flatten
theorem singles_flat (W:List Face) (M:List Int):(singles W M).flatten=(W.map (·.1)).filter fun x=>decide (x ∉ M):=by
 unfold singles
 induction W with
 | nil=>rfl
 | cons f W ih =>
  by_cases h:f.1∈M
  ·rw[List.filter_cons_of_neg (by simpa using h),List.map_cons,List.filter_cons_of_neg (by simpa using h)];exact ih
  rw[List.filter_cons_of_pos (by simpa using h),List.map_cons,List.map_cons,List.filter_cons_of_pos (by simpa using h),List.flatten_cons,ih];rfl
theorem Parted.keysNodup {g:Gr} {p:Pt} {turn same:List (List Int)} (h:Parted g p turn same):((walksOf g p turn).map (·.1)).Nodup :=
 (walks_keys h.part h.walks).imp fun hab=>by omega
theorem Parted.all {g:Gr} {p:Pt} {turn same:List (List Int)} (h:Parted g p turn same):(allRegs g p turn same).flatten.Perm ((walksOf g p turn).map (·.1)):=by
 unfold allRegs
 rw[List.flatten_append,singles_flat]
 refine (List.perm_ext_iff_of_nodup ?_ h.keysNodup).2 fun x=>?_
 ·rw[List.nodup_append]
  refine⟨h.nodup,h.keysNodup.filter _,fun a ha b hb e=>?_⟩
  subst e
  have:=(List.mem_filter.1 hb).2
  simp only[decide_eq_true_eq] at this
  exact this ha
 rw[List.mem_append,List.mem_filter]
 simp only[decide_eq_true_eq]
 constructor
 ·rintro (q | q)
  ·exact h.keys x q
  exact q.1
 intro q
 by_cases hx:x∈same.flatten
 ·exact Or.inl hx
 exact Or.inr ⟨q,hx⟩
theorem Parted.ne {g:Gr} {p:Pt} {turn same:List (List Int)} (h:Parted g p turn same):∀ l∈allRegs g p turn same,l≠[]:=by
 intro l hl e
 subst e
 unfold allRegs at hl
 rcases List.mem_append.1 hl with q | q
 ·have:=h.two _ q;simp at this
 unfold singles at q
 obtain⟨f,-,e⟩:=List.mem_map.1 q
 cases e
structure IsRegs (g:Gr) (p:Pt) (turn same ll:List (List Int)):Prop where
 perm:ll.Perm (allRegs g p turn same)
 order:ll.Pairwise fun a b=>a.getD 0 0≤b.getD 0 0
theorem head_mem {l:List Int} (h:l≠[]):l.getD 0 0∈l:=by cases l <;> simp_all
theorem one_list {ll:List (List Int)} (hn:ll.flatten.Nodup) {l m:List Int} {x:Int} (hl:l∈ll) (hm:m∈ll) (h1:x∈l) (h2:x∈m):l=m:=by
 induction ll with
 | nil=>simp at hl
 | cons a ll ih =>
  rw[List.flatten_cons,List.nodup_append] at hn
  rcases List.mem_cons.1 hl with q | q
  ·rcases List.mem_cons.1 hm with r | r
   ·rw[q,r]
   subst q
   exact absurd rfl (hn.2.2 x h1 x (List.mem_flatten.2 ⟨m,r,h2⟩))
  rcases List.mem_cons.1 hm with r | r
  ·subst r
   exact absurd rfl (hn.2.2 x h2 x (List.mem_flatten.2 ⟨l,q,h1⟩))
  exact ih hn.2.1 q r
theorem Parted.nodupAll {g:Gr} {p:Pt} {turn same:List (List Int)} (h:Parted g p turn same):(allRegs g p turn same).flatten.Nodup:=h.all.nodup_iff.2 h.keysNodup
theorem Parted.one {g:Gr} {p:Pt} {turn same ll mm:List (List Int)} (h:Parted g p turn same) (h1:IsRegs g p turn same ll) (h2:IsRegs g p turn same mm):ll=mm:=by
 refine perm_sorted (f:=fun l=>l.getD 0 0) (h1.perm.trans h2.perm.symm) h1.order h2.order fun x hx y hy e=>?_
 have mx:=h1.perm.mem_iff.1 hx
 have my:=h1.perm.mem_iff.1 hy
 have e:x.getD 0 0=y.getD 0 0:=e
 exact one_list h.nodupAll mx my (head_mem (h.ne x mx)) (by rw[e];exact head_mem (h.ne y my))
open Classical in
noncomputable def regionsOf (g:Gr) (p:Pt) (turn same:List (List Int)):List (List Int):=if h:∃ ll,IsRegs g p turn same ll then Classical.choose h else []
theorem IsRegs.eq {g:Gr} {p:Pt} {turn same ll:List (List Int)} (h:Parted g p turn same) (hl:IsRegs g p turn same ll):ll=regionsOf g p turn same:=by
 have hex:∃ ll,IsRegs g p turn same ll:=⟨ll,hl⟩
 unfold regionsOf
 rw[dif_pos hex]
 exact h.one hl (Classical.choose_spec hex)
def regionAt (ll:List (List Int)) (key:Int):Option Nat:=ll.findIdx? fun l=>decide (key∈l)
theorem regionAt_hit {ll:List (List Int)} (hn:ll.flatten.Nodup) {i:Nat} (hi:i<ll.length) {key:Int} (hk:key∈ll.getD i []):regionAt ll key=some i:=by
 have e:ll.getD i []=ll[i]:=by simp[List.getD,hi]
 rw[e] at hk
 unfold regionAt
 rw[List.findIdx?_eq_some_iff_getElem]
 refine⟨hi,decide_eq_true hk,fun j hj=>?_⟩
 intro hm
 have hm:=of_decide_eq_true hm
 have hp:=(nodup_flat.1 hn).2
 have:=List.pairwise_iff_getElem.1 hp j i (by omega) hi hj key hm key hk
 exact this rfl
theorem regionAt_lt {ll:List (List Int)} {key:Int} {i:Nat} (h:regionAt ll key=some i):i<ll.length∧key∈ll.getD i []:=by
 unfold regionAt at h
 rw[List.findIdx?_eq_some_iff_getElem] at h
 obtain⟨h1,h2,-⟩:=h
 exact⟨h1,by simpa[List.getD,h1] using h2⟩
theorem regionAt_none {ll:List (List Int)} {key:Int}:regionAt ll key=none↔key ∉ ll.flatten:=by
 unfold regionAt
 rw[List.findIdx?_eq_none_iff]
 simp only[List.mem_flatten,not_exists,not_and,decide_eq_false_iff_not]
end Plain
end Go.Proofs.YtkacjmoamgjfpaaGreat
namespace Go.Proofs.YtkacjmoamgjfpaaGreat
open Go.RowKit Go.Maps
theorem contains_any (v:Value) (l:List Int) (x:Int) (w:World) (h:IntsAt w v l) :
  Calls Tryz.prog 202 #[v,.int .i64 x] w fun e w'=>e=.returned (.bool (decide (x∈l)))∧w'=w:=by
 obtain⟨ao,cap,rfl,-,hm,hc⟩:=h
 cases l with
 | nil =>
  refine (Tryz.slices_Contains_int_empty ao cap x w).mono ?_
  rintro e w' ⟨rfl,rfl⟩
  exact⟨ret_bool (by simp),rfl⟩
 | cons y r =>
  obtain⟨b,off,rfl,hc2⟩:=hc (by simp)
  refine (Tryz.slices_Contains_int b off (y :: r).length cap (y :: r) x w (Nat.le_refl _) hm hc2).mono ?_
  rintro e w' ⟨rfl,rfl⟩
  exact⟨ret_bool (by rw[List.take_length];simp),rfl⟩
def ixOf:Option Nat→Int
 | some i=>i
 | none=>-1
theorem regionAt_take {ll:List (List Int)} {key:Int} {k:Nat} (hk:k<ll.length) (h:∀ i,i<k→key ∉ ll.getD i []) (hin:key∈ll.getD k []):Plain.regionAt ll key=some k:=by
 unfold Plain.regionAt
 rw[List.findIdx?_eq_some_iff_getElem]
 refine⟨hk,decide_eq_true (by simpa[List.getD,hk] using hin),fun j hj=>?_⟩
 have:=h j hj
 have hjl:j<ll.length:=by omega
 simpa[List.getD,hjl] using this
theorem regionAt_no {ll:List (List Int)} {key:Int} (h:∀ i,i<ll.length→key ∉ ll.getD i []):Plain.regionAt ll key=none:=by
 rw[Plain.regionAt_none]
 intro hm
 obtain⟨l,hl,hx⟩:=List.mem_flatten.1 hm
 obtain⟨i,hi,rfl⟩:=List.getElem_of_mem hl
 exact h i hi (by simpa[List.getD,hi] using hx)
theorem RowsOwn.read {w:World} {B:Nat} {ov:Value} {vs:List Value} {ll:List (List Int)} (h:RowsOwn w B ov vs ll) (hi:∀ l∈ll,(∀ x∈l,I64 x)∧l.length<4294967296):RowsAt w ov ll:=by
 have hlen:=h.len
 have hcap:∀ {v:Value} {n:Nat} {xs:List Value} {e:TypeId},w.ownsRow B e 1 v n xs→CapOk v:=by
  intro v n xs e ho
  rcases ho.2 with ⟨rfl,_⟩ | ⟨g,cap,cur,rfl,-,-,hn,hc,-,-⟩
  ·exact⟨none,0,0,rfl,by decide,by decide⟩
  exact⟨_,_,_,rfl,hn,by unfold maxLen at hc;omega⟩
 rcases h.out.2 with ⟨rfl,h0⟩ | ⟨g,cap,cur,rfl,-,-,hn,hc,-,-⟩
 ·have:ll=[]:=List.length_eq_zero_iff.1 (by omega)
  subst this
  exact⟨none,0,rfl,by decide,fun i hi=>absurd hi (by simp)⟩
 refine⟨_,cap,by rw[hlen],by unfold maxLen at hc;omega,fun i hi2=>?_⟩
 have hiv:i<vs.length:=by omega
 have hrow:=h.rows i hiv
 have hcell:=h.out.cellAt i (by omega)
 have hm:ll.getD i []∈ll:=by simp[List.getD,hi2]
 refine⟨g,0,vs.getD i undef,rfl,?_,hcap hrow,RowAt.ints (B:=B) ⟨hrow,hi _ hm⟩⟩
 rw[Nat.zero_add,hcell]
 simp[List.getD,hiv]
namespace Plain
theorem regs_small {g:Gr} {p:Pt} {turn same ll:List (List Int)} (h:Parted g p turn same) (hl:IsRegs g p turn same ll):∀ l∈ll,(∀ x∈l,I64 x∧x∈(walksOf g p turn).map (·.1))∧l.length≤(walksOf g p turn).length:=by
 intro l hlm
 have hm:=hl.perm.mem_iff.1 hlm
 have hk:∀ x∈l,x∈(walksOf g p turn).map (·.1):=fun x hx=>h.all.mem_iff.1 (List.mem_flatten.2 ⟨l,hm,hx⟩)
 refine⟨fun x hx=>⟨?_,hk x hx⟩,?_⟩
 ·obtain⟨f,hf,rfl⟩:=List.mem_map.1 (hk x hx)
  have:=key_small h.part h.walks hf
  exact I64.mk (by omega) (by omega)
 have hn:=(nodup_flat.1 h.nodupAll).1 l hm
 have:=len_le_of_sub hn hk
 rwa[List.length_map] at this
end Plain
namespace Plain
end Plain
theorem clone_any (v:Value) (l:List Int) (w:World) (hl:l.length≤1000000000) (h:IntsAt w v l) :
  Calls Tryz.prog 129 #[v] w fun e w'=>∃ v',e=.returned v'∧RowAt w' w.heap.size v' l∧Chg [] w w':=by
 obtain⟨ao,cap,rfl,hsm,hm,hc⟩:=h
 cases l with
 | nil =>
  cases ao with
  | none =>
   refine (Tryz.slices_Clone_int_nil 0 cap w).mono ?_
   rintro e w' ⟨rfl,rfl⟩
   exact⟨_,rfl,rowNil' _ _,Chg.refl _ _⟩
  | some ad =>
   refine (Tryz.slices_Clone_int_zero ad cap w).mono ?_
   rintro e w' ⟨v',rfl,h1,-,h3⟩
   exact⟨_,rfl,⟨h1,by simp,by simp⟩,Chg.of_below h3 (Nat.le_refl _)⟩
 | cons y r =>
  obtain⟨b,off,rfl,hc2⟩:=hc (by simp)
  refine (Tryz.slices_Clone_int b off (y :: r).length cap (y :: r) w (Nat.le_refl _) (by omega) hc2).mono ?_
  rintro e w' ⟨v',rfl,h1,-,h3⟩
  rw[List.take_length] at h1
  exact⟨_,rfl,⟨h1,hsm,by omega⟩,Chg.of_below h3 (Nat.le_refl _)⟩
structure PlanVar (w:World) (pb B T:Nat) (t s:List (List Int)):Prop where
 ex:∃ o1 v1 o2 v2,w.heap[pb]?=some (.cells #[o1,o2] 32 (0,0))∧RowsOwn w B o1 v1 t∧RowsOwn w B o2 v2 s∧(o1.ownBlock=none∨o1.ownBlock≠o2.ownBlock) ∧
  (∀ k b,k<v1.length→(v1.getD k undef).ownBlock=some b→b<T)∧(∀ k b,k<v2.length→(v2.getD k undef).ownBlock=some b→b<T)
 small:∀ l∈t++s,(∀ x∈l,I64 x)∧l.length<4294967296
theorem PlanVar.made (w:World) (B T:Nat):PlanVar (w.alloc (.cells #[.slice none 0 0,.slice none 0 0] 32)) w.heap.size B T [] [] :=
 ⟨⟨_,[],_,[],heap_alloc_new w _,RowsOwn.nil _ _,RowsOwn.nil _ _,Or.inl rfl,by simp,by simp⟩,by simp⟩
theorem row_below {w:World} {B:Nat} {ov:Value} {vs:List Value} {ll:List (List Int)} (h:RowsOwn w B ov vs ll):∀ k b,k<vs.length→(vs.getD k undef).ownBlock=some b→b<w.heap.size:=fun k _b hk hb=>owns_lt (h.rows k hk) hb
theorem PlanVar.up {w:World} {pb B T T':Nat} {t s:List (List Int)} (h:PlanVar w pb B T t s) (hT:w.heap.size≤T'):PlanVar w pb B T' t s:=by
 obtain⟨⟨o1,v1,o2,v2,h1,h2,h3,h4,-,-⟩,h7⟩:=h
 exact⟨⟨o1,v1,o2,v2,h1,h2,h3,h4,fun k b hk hb=>Nat.lt_of_lt_of_le (row_below h2 k b hk hb) hT,fun k b hk hb=>Nat.lt_of_lt_of_le (row_below h3 k b hk hb) hT⟩,h7⟩
theorem owns_kind {w:World} {B:Nat} {e:TypeId} {sz:Nat} {v:Value} {n:Nat} {xs:List Value} (h:w.ownsRow B e sz v n xs) {b:Nat} (hb:v.ownBlock=some b):∃ cs,w.heap[b]?=some (.cells cs e (0,0)):=by
 rcases h.2 with ⟨rfl,_⟩ | ⟨g,c,cur,rfl,_,hg,_⟩
 ·cases hb
 simp only[Value.ownBlock,Option.some.injEq] at hb
 subst hb
 exact⟨_,hg⟩
theorem PlanVar.keep {w w':World} {pb B T:Nat} {t s:List (List Int)} {own:List Nat} (h:PlanVar w pb B T t s) (hc:Chg own w w') (ho:∀ j∈own,j≠pb∧∀ cs u r,w.heap[j]?=some (.cells cs u r)→u≠27∧u≠3):PlanVar w' pb B T t s:=by
 obtain⟨⟨o1,v1,o2,v2,h1,h2,h3,h4,h5,h6⟩,h7⟩:=h
 have hr:∀ {ov:Value} {vs:List Value} {ll:List (List Int)},RowsOwn w B ov vs ll→RowsOwn w' B ov vs ll:=by
  intro ov vs ll hr
  refine hr.chg hc (fun b hb hm=>?_) (fun k b hk hb hm=>?_)
  ·obtain⟨cs,hh⟩:=owns_kind hr.out hb
   exact ((ho _ hm).2 _ _ _ hh).1 rfl
  obtain⟨cs,hh⟩:=owns_kind (hr.rows k hk) hb
  exact ((ho _ hm).2 _ _ _ hh).2 rfl
 exact⟨⟨o1,v1,o2,v2,hc.heap h1 (fun hm=>(ho _ hm).1 rfl),hr h2,hr h3,h4,h5,h6⟩,h7⟩
theorem PlanVar.fresh {w w':World} {pb B T:Nat} {t s:List (List Int)} (h:PlanVar w pb B T t s) (hc:Chg [] w w'):PlanVar w' pb B T t s:=h.keep hc (by simp)
theorem PlanVar.low {w w':World} {pb B T:Nat} {t s:List (List Int)} {own:List Nat} (h:PlanVar w pb B T t s) (hc:Chg own w w') (ho:∀ j∈own,j<B∧j≠pb):PlanVar w' pb B T t s:=by
 obtain⟨⟨o1,v1,o2,v2,h1,h2,h3,h4,h5,h6⟩,h7⟩:=h
 exact⟨⟨o1,v1,o2,v2,hc.heap h1 (fun hm=>(ho _ hm).2 rfl),h2.below hc fun j hj=>(ho j hj).1,h3.below hc fun j hj=>(ho j hj).1,h4,h5,h6⟩,h7⟩
theorem PlanVar.cells {w:World} {pb B T:Nat} {t s:List (List Int)} (h:PlanVar w pb B T t s):∃ a1 c1 a2 c2,w.cell? ⟨pb,0,none⟩=some (.slice a1 t.length c1)∧w.cell? ⟨pb,1,none⟩=some (.slice a2 s.length c2):=by
 obtain⟨⟨o1,v1,o2,v2,h1,h2,h3,-⟩,-⟩:=h
 obtain⟨a1,c1,rfl⟩:=owns_shape h2.out
 obtain⟨a2,c2,rfl⟩:=owns_shape h3.out
 exact⟨a1,c1,a2,c2,by rw[←h2.len];exact (cell_of_row _ _ 0 _ _ _ h1).trans rfl,by rw[←h3.len];exact (cell_of_row _ _ 1 _ _ _ h1).trans rfl⟩
theorem PlanVar.lt {w:World} {pb B T:Nat} {t s:List (List Int)} (h:PlanVar w pb B T t s):pb<w.heap.size:=by
 obtain⟨⟨o1,v1,o2,v2,h1,-⟩,-⟩:=h
 exact lt_of_block h1
theorem PlanVar.read {w:World} {pb B T:Nat} {t s:List (List Int)} (h:PlanVar w pb B T t s):∃ a1 c1 a2 c2,w.cell? ⟨pb,0,none⟩=some (.slice a1 t.length c1)∧w.cell? ⟨pb,1,none⟩=some (.slice a2 s.length c2)∧PlAt w (.agg #[.slice a1 t.length c1,.slice a2 s.length c2]) t s:=by
 obtain⟨⟨o1,v1,o2,v2,h1,h2,h3,-⟩,h7⟩:=h
 obtain⟨a1,c1,rfl⟩:=owns_shape h2.out
 obtain⟨a2,c2,rfl⟩:=owns_shape h3.out
 have r1:=h2.read fun l hl=>h7 l (List.mem_append.2 (Or.inl hl))
 have r2:=h3.read fun l hl=>h7 l (List.mem_append.2 (Or.inr hl))
 have e1:=h2.len
 have e2:=h3.len
 rw[e1] at r1 h1
 rw[e2] at r2 h1
 exact⟨a1,c1,a2,c2,(cell_of_row _ _ 0 _ _ _ h1).trans rfl,(cell_of_row _ _ 1 _ _ _ h1).trans rfl,_,_,rfl,r1,r2⟩
theorem PlanVar.readAt {w:World} {pb B T:Nat} {t s:List (List Int)} (h:PlanVar w pb B T t s) {u1 u2:Value} (e1:w.cell? ⟨pb,0,none⟩=some u1) (e2:w.cell? ⟨pb,1,none⟩=some u2):PlAt w (.agg #[u1,u2]) t s:=by
 obtain⟨a1,c1,a2,c2,h1,h2,h3⟩:=h.read
 rw[e1] at h1
 rw[e2] at h2
 cases h1
 cases h2
 exact h3
theorem run_row {w0 w:World} {B T:Nat} {ov v:Value} {vs:List Value} {ll:List (List Int)} {l:List Int} (h:RowsOwn w0 B ov vs ll) (hB:B≤w0.heap.size) (hv:RowAt w0 T v l) (hBT:B≤T) (hX:∀ k b,k<vs.length→(vs.getD k undef).ownBlock=some b→b<T) (hn:vs.length<68719476736)
  (hw:w=w0.alloc (.cells #[v] 27)∨w=(w0.alloc (.cells #[v] 27)).drew) (ty:TypeId) :
  ∃ g cap w',(Builtin.append_ #[30,30] ty #[ov,.slice (some ⟨w0.heap.size,0,none⟩) 1 1]).run Tryz.prog w=.ok (.slice (some ⟨g,0,none⟩) (vs.length+1) cap) w' ∧
   RowsOwn w' B (.slice (some ⟨g,0,none⟩) (vs.length+1) cap) (vs++[v]) (ll++[l])∧Chg ov.ownBlock.toList w0 w'∧(ov.ownBlock=some g∨w0.heap.size≤g):=by
 obtain⟨va,vc,rfl⟩:=hv.shape
 obtain⟨g,cap,w',hr,r2,r3,r4⟩:=run_app elemRow h.out hB (cs:=#[.slice va l.length vc]) rfl (oneSlice _ _ _) hn hw ty
 exact⟨g,cap,w',hr,h.add (owns_base hv.1 hBT) (fun k b hk hb e=>by
  have h1:=hX k b hk hb
  have h2:=(hv.low b (by rw[e];simp)).1
  omega) r2 r3,r3,r4⟩
theorem PlanVar.push0 {w0 w:World} {pb B T:Nat} {t s:List (List Int)} {v:Value} {l:List Int} (h:PlanVar w0 pb B T t s) (hB:B≤w0.heap.size) (hv:RowAt w0 T v l) (hBT:B≤T) (hn:t.length<1000000000)
  (hw:w=w0.alloc (.cells #[v] 27)∨w=(w0.alloc (.cells #[v] 27)).drew) {ao:Option Addr} {n c:Nat} (hc0:w0.cell? ⟨pb,0,none⟩=some (.slice ao n c)) (ty:TypeId) :
  ∃ g cap w',(Builtin.append_ #[30,30] ty #[.slice ao n c,.slice (some ⟨w0.heap.size,0,none⟩) 1 1]).run Tryz.prog w=.ok (.slice (some ⟨g,0,none⟩) (n+1) cap) w' ∧
   w'.frozen? ⟨pb,0,none⟩=false∧(∃ u,w'.cell? ⟨pb,0,none⟩=some u)∧PlanVar (w'.setCell ⟨pb,0,none⟩ (.slice (some ⟨g,0,none⟩) (n+1) cap)) pb B w'.heap.size (t++[l]) s ∧
   ∃ own,Chg own w0 (w'.setCell ⟨pb,0,none⟩ (.slice (some ⟨g,0,none⟩) (n+1) cap))∧∀ j∈own,j=pb∨(B≤j∧∃ cs r,w0.heap[j]?=some (.cells cs 27 r)):=by
 obtain⟨⟨o1,v1,o2,v2,h1,h2,h3,h4,h5,h6⟩,h7⟩:=h
 have e0:=(cell_of_row _ _ 0 _ _ _ h1).trans (show _=some o1 from rfl)
 rw[hc0] at e0
 obtain rfl:Value.slice ao n c=o1:=by simpa using e0
 have hnl:n=v1.length:=by
  obtain⟨a1,c1,e⟩:=owns_shape h2.out
  simp only[Value.slice.injEq] at e
  exact e.2.1
 subst hnl
 obtain⟨g,cap,w',hr,r1,r2,r3⟩:=run_row h2 hB hv hBT h5 (by have:=h2.len;omega) hw ty
 have hno:pb ∉ (Value.slice ao v1.length c).ownBlock.toList:=fun e=>owns_other h2.out h1 (by decide) (by simpa using e)
 have hp:=r2.heap h1 hno
 have h3':RowsOwn w' B o2 v2 s:=h3.chg r2 (fun b hb e=>by
   rcases h4 with q | q
   ·rw[q] at e;simp at e
   ·simp at e;exact q (e.trans hb.symm)) (fun k b hk hb e=>by
   rcases owns_two h2.out (h3.rows k hk) (by decide) with q | q
   ·rw[q] at e;simp at e
   simp at e;exact q (e.trans hb.symm))
 have hset:Chg [pb] w' (w'.setCell ⟨pb,0,none⟩ (.slice (some ⟨g,0,none⟩) (v1.length+1) cap)):=(Chg.refl _ _).setCell (Or.inl (by simp)) _
 have keep:∀ {ov:Value} {vs:List Value} {ll:List (List Int)},RowsOwn w' B ov vs ll→RowsOwn (w'.setCell ⟨pb,0,none⟩ (.slice (some ⟨g,0,none⟩) (v1.length+1) cap)) B ov vs ll:=fun hr=>hr.chg hset
  (fun b hb e=>owns_other hr.out hp (by decide) (by rw[hb,List.mem_singleton.1 e])) (fun k b hk hb e=>owns_other (hr.rows k hk) hp (by decide) (by rw[hb,List.mem_singleton.1 e]))
 have hx:=row_below r1
 have hx3:=row_below h3'
 refine⟨g,cap,w',hr,free_at hp 0,⟨_,(cell_of_row _ _ 0 _ _ _ hp).trans rfl⟩,⟨⟨_,_,o2,v2,heap_setCell_same hp 0 _,keep r1,keep h3',?_,hx,hx3⟩,?_⟩,pb :: (Value.slice ao v1.length c).ownBlock.toList,(r2.mono (fun j hj=>Or.inl (by simp[hj]))).trans hset (fun j hj=>Or.inl (by simp at hj;simp[hj])),fun j hj=>?_⟩
 ·right
  intro e
  rcases r3 with q | q
  ·rcases h4 with r | r
   ·rw[r] at q;cases q
   rw[q] at r;exact r e
  have:g<w0.heap.size:=owns_lt h3.out e.symm
  omega
 ·intro m hm
  rw[List.append_assoc] at hm
  rcases List.mem_append.1 hm with q | q
  ·exact h7 m (List.mem_append.2 (Or.inl q))
  rcases List.mem_append.1 q with q | q
  ·rw[List.mem_singleton.1 q];exact hv.2
  exact h7 m (List.mem_append.2 (Or.inr q))
 rcases List.mem_cons.1 hj with q | q
 ·exact Or.inl q
 obtain⟨cs,hh⟩:=owns_kind h2.out (by simpa using q)
 exact Or.inr ⟨(h2.out.lt j (by simpa using q)).1,cs,_,hh⟩
theorem PlanVar.push1 {w0 w:World} {pb B T:Nat} {t s:List (List Int)} {v:Value} {l:List Int} (h:PlanVar w0 pb B T t s) (hB:B≤w0.heap.size) (hv:RowAt w0 T v l) (hBT:B≤T) (hn:s.length<1000000000)
  (hw:w=w0.alloc (.cells #[v] 27)∨w=(w0.alloc (.cells #[v] 27)).drew) {ao:Option Addr} {n c:Nat} (hc0:w0.cell? ⟨pb,1,none⟩=some (.slice ao n c)) (ty:TypeId) :
  ∃ g cap w',(Builtin.append_ #[30,30] ty #[.slice ao n c,.slice (some ⟨w0.heap.size,0,none⟩) 1 1]).run Tryz.prog w=.ok (.slice (some ⟨g,0,none⟩) (n+1) cap) w' ∧
   w'.frozen? ⟨pb,1,none⟩=false∧(∃ u,w'.cell? ⟨pb,1,none⟩=some u)∧PlanVar (w'.setCell ⟨pb,1,none⟩ (.slice (some ⟨g,0,none⟩) (n+1) cap)) pb B w'.heap.size t (s++[l]) ∧
   ∃ own,Chg own w0 (w'.setCell ⟨pb,1,none⟩ (.slice (some ⟨g,0,none⟩) (n+1) cap))∧∀ j∈own,j=pb∨(B≤j∧∃ cs r,w0.heap[j]?=some (.cells cs 27 r)):=by
 obtain⟨⟨o1,v1,o2,v2,h1,h2,h3,h4,h5,h6⟩,h7⟩:=h
 have e0:=(cell_of_row _ _ 1 _ _ _ h1).trans (show _=some o2 from rfl)
 rw[hc0] at e0
 obtain rfl:Value.slice ao n c=o2:=by simpa using e0
 have hnl:n=v2.length:=by
  obtain⟨a1,c1,e⟩:=owns_shape h3.out
  simp only[Value.slice.injEq] at e
  exact e.2.1
 subst hnl
 obtain⟨g,cap,w',hr,r1,r2,r3⟩:=run_row h3 hB hv hBT h6 (by have:=h3.len;omega) hw ty
 have hno:pb ∉ (Value.slice ao v2.length c).ownBlock.toList:=fun e=>owns_other h3.out h1 (by decide) (by simpa using e)
 have hp:=r2.heap h1 hno
 have h2':RowsOwn w' B o1 v1 t:=h2.chg r2 (fun b hb e=>by
   rcases h4 with q | q
   ·rw[q] at hb;cases hb
   ·simp at e;exact q (hb.trans e.symm)) (fun k b hk hb e=>by
   rcases owns_two h3.out (h2.rows k hk) (by decide) with q | q
   ·rw[q] at e;simp at e
   simp at e;exact q (e.trans hb.symm))
 have hset:Chg [pb] w' (w'.setCell ⟨pb,1,none⟩ (.slice (some ⟨g,0,none⟩) (v2.length+1) cap)):=(Chg.refl _ _).setCell (Or.inl (by simp)) _
 have keep:∀ {ov:Value} {vs:List Value} {ll:List (List Int)},RowsOwn w' B ov vs ll→RowsOwn (w'.setCell ⟨pb,1,none⟩ (.slice (some ⟨g,0,none⟩) (v2.length+1) cap)) B ov vs ll:=fun hr=>hr.chg hset
  (fun b hb e=>owns_other hr.out hp (by decide) (by rw[hb,List.mem_singleton.1 e])) (fun k b hk hb e=>owns_other (hr.rows k hk) hp (by decide) (by rw[hb,List.mem_singleton.1 e]))
 have hx:=row_below r1
 have hx2:=row_below h2'
 refine⟨g,cap,w',hr,free_at hp 1,⟨_,(cell_of_row _ _ 1 _ _ _ hp).trans rfl⟩,⟨⟨o1,v1,_,_,heap_setCell_same hp 1 _,keep h2',keep r1,?_,hx2,hx⟩,?_⟩,pb :: (Value.slice ao v2.length c).ownBlock.toList,(r2.mono (fun j hj=>Or.inl (by simp[hj]))).trans hset (fun j hj=>Or.inl (by simp at hj;simp[hj])),fun j hj=>?_⟩
 ·cases hq:o1.ownBlock with
  | none=>exact Or.inl rfl
  | some b =>
   right
   intro e
   have e:some b=some g:=e
   rcases r3 with q | q
   ·rcases h4 with r | r
    ·rw[r] at hq;cases hq
    exact r (hq.trans (e.trans q.symm))
   have:=owns_lt h2.out hq
   cases e
   omega
 ·intro m hm
  rw[←List.append_assoc] at hm
  rcases List.mem_append.1 hm with q | q
  ·exact h7 m q
  rw[List.mem_singleton.1 q];exact hv.2
 rcases List.mem_cons.1 hj with q | q
 ·exact Or.inl q
 obtain⟨cs,hh⟩:=owns_kind h3.out (by simpa using q)
 exact Or.inr ⟨(h3.out.lt j (by simpa using q)).1,cs,_,hh⟩
theorem wp_apprun {o:Oper} {a:Act} {K:Act→World→Prop} {Q:Exit→Act→World→Prop} {w w':World} (s x:Operand) (t:TypeId) (ho:o.op=.call { callee:=.builtin .append,args:=#[s,x],argTypes:=#[t,t] }) {v u r:Value} (hs:a.eval s=v) (hx:a.eval x=u)
  (hr:(Builtin.append_ #[t,t] o.type #[v,u]).run Tryz.prog w=.ok r w') (hK:K (a.put o.dst r) w'):o.wp Tryz.prog a w K Q:=by
 unfold Oper.wp execOp
 simp only[ho,resolve,invoke,builtin,Sem.run_bind,Sem.run_pure,Result.andThen_ok,List.map_toArray,List.map_cons,List.map_nil,hs,hx,hr]
 exact hK
end Go.Proofs.YtkacjmoamgjfpaaGreat
