/- The regions of a drawing: determined; each walk is in just one. No program here. -/
import Derived.Test.YtkacjmoamgjfpaaGreatA9RefU
namespace Go.Proofs.YtkacjmoamgjfpaaGreat
namespace aA
theorem oX {f:List Int→Int}:∀ {a b:List (List Int)},a.Perm b→a.Pairwise (fun x y=>f x≤f y)→b.Pairwise (fun x y=>f x≤f y)→(∀ x∈a,∀ y∈a,f x=f y→x=y)→a=b
 | [],b,h,_,_,_=>(List.Perm.nil_eq h)
 | x :: a,[],h,_,_,_=>absurd h.length_eq (by simp)
 | x :: a,y :: b,h,ha,hb,hi=>by
  have hy:y∈x :: a:=h.mem_iff.2 (by simp);have hx:x∈y :: b:=h.mem_iff.1 (by simp);have h1:f x≤f y:=by
   rcases List.mem_cons.1 hy with q | q
   ·rw[q];exact Int.le_refl _
   exact (List.pairwise_cons.1 ha).1 y q
  have h2:f y≤f x:=by
   rcases List.mem_cons.1 hx with q | q
   ·rw[q];exact Int.le_refl _
   exact (List.pairwise_cons.1 hb).1 x q
  have e:x=y:=hi x (by simp) y hy (by omega);subst e;rw[oX ((List.perm_cons x).1 h) (List.pairwise_cons.1 ha).2 (List.pairwise_cons.1 hb).2 fun u hu v hv=>hi u (by simp[hu]) v (by simp[hv])]
structure fS (g:Gr) (p:Pt) (aB same:List (List Int)):Prop where
 part:p.err g=0
 turns:aW g p aB
 flat:Flat g p aB
 walks:bV g p aB (aH g p aB)
 two:∀ l∈same,2≤l.length
 nodup:same.flatten.Nodup
 keys:∀ x∈same.flatten,x∈(aH g p aB).map (·.1)
 aCY:∀ l∈same,l.Pairwise (·<·)
 many:same.flatten.length+1≤(roots g p).length+same.length∨(roots g p).length=0
theorem iN {g:Gr} {p:Pt} {aB same:List (List Int)} (h:aN g p aB same=0) (hW:bV g p aB (aH g p aB)):fS g p aB same:=by
 obtain⟨hf,c,hc,hcnt⟩:=cX h;obtain⟨hte,hflat⟩:=bY hf;obtain⟨hpe,hto⟩:=bC hte;have hpo:=Pt.aQ hpe;obtain⟨hok,hmet,hl⟩:=iR (fun y a h=>fO hpo hW h) _ c (Nat.le_refl _) hc;rw[List.take_length] at hmet;refine⟨hpe,hto,hflat,hW,fun l hl=>?_,by rw[←hmet];exact hok.nodup,fun x hx=>aAv (hok.has x (by rw[hmet];exact hx)),fun l hl2=>?_,?_⟩
 ·obtain⟨i,hi,rfl⟩:=List.getElem_of_mem hl
  have:=uH h i hi;simpa[List.getD,hi] using this
 ·obtain⟨i,hi,rfl⟩:=List.getElem_of_mem hl2
  have:=(hl i hi).2;simpa[List.getD,hi] using this
 have hnum:=hok.num;rw[hmet] at hnum;by_cases h0:(roots g p).length=0
 ·exact Or.inr h0
 have hgl:c.1.grp.length=(roots g p).length:=by rw[←hok.ok.len,hok.all];simp[bJ]
 have:=yR hok.ok (by omega);exact Or.inl (by omega)
noncomputable def eQ (g:Gr) (p:Pt) (aB same:List (List Int)):List (List Int):=same++dM (aH g p aB) same.flatten
theorem aAT (W:List aO) (M:List Int):(dM W M).flatten=(W.map (·.1)).filter fun x=>decide (x ∉ M):=by
 unfold dM
 induction W with
 | nil=>rfl
 | cons f W ih =>
  by_cases h:f.1∈M
  ·rw[List.filter_cons_of_neg (by simpa using h),List.map_cons,List.filter_cons_of_neg (by simpa using h)];exact ih
  rw[List.filter_cons_of_pos (by simpa using h),List.map_cons,List.map_cons,List.filter_cons_of_pos (by simpa using h),List.flatten_cons,ih];rfl
theorem fS.mJ {g:Gr} {p:Pt} {aB same:List (List Int)} (h:fS g p aB same):((aH g p aB).map (·.1)).Nodup :=
 (dF h.part h.walks).imp fun hab=>by omega
theorem fS.all {g:Gr} {p:Pt} {aB same:List (List Int)} (h:fS g p aB same):(eQ g p aB same).flatten.Perm ((aH g p aB).map (·.1)):=by
 unfold eQ;rw[List.flatten_append,aAT];refine (List.perm_ext_iff_of_nodup ?_ h.mJ).2 fun x=>?_
 ·rw[List.nodup_append]
  refine⟨h.nodup,h.mJ.filter _,fun a ha b hb e=>?_⟩;subst e;have:=(List.mem_filter.1 hb).2;simp only[decide_eq_true_eq] at this;exact this ha
 rw[List.mem_append,List.mem_filter];simp only[decide_eq_true_eq];constructor
 ·rintro (q | q)
  ·exact h.keys x q
  exact q.1
 intro q;by_cases hx:x∈same.flatten
 ·exact Or.inl hx
 exact Or.inr ⟨q,hx⟩
theorem fS.ne {g:Gr} {p:Pt} {aB same:List (List Int)} (h:fS g p aB same):∀ l∈eQ g p aB same,l≠[]:=by
 intro l hl e;subst e;unfold eQ at hl;rcases List.mem_append.1 hl with q | q
 ·have:=h.two _ q;simp at this
 unfold dM at q;obtain⟨f,-,e⟩:=List.mem_map.1 q;cases e
structure iO (g:Gr) (p:Pt) (aB same ll:List (List Int)):Prop where
 perm:ll.Perm (eQ g p aB same)
 order:ll.Pairwise fun a b=>a.getD 0 0≤b.getD 0 0
theorem head_mem {l:List Int} (h:l≠[]):l.getD 0 0∈l:=by cases l <;> simp_all
theorem xI {ll:List (List Int)} (hn:ll.flatten.Nodup) {l m:List Int} {x:Int} (hl:l∈ll) (hm:m∈ll) (h1:x∈l) (h2:x∈m):l=m:=by
 induction ll with
 | nil=>simp at hl
 | cons a ll ih =>
  rw[List.flatten_cons,List.nodup_append] at hn;rcases List.mem_cons.1 hl with q | q
  ·rcases List.mem_cons.1 hm with r | r
   ·rw[q,r]
   subst q;exact absurd rfl (hn.2.2 x h1 x (List.mem_flatten.2 ⟨m,r,h2⟩))
  rcases List.mem_cons.1 hm with r | r
  ·subst r
   exact absurd rfl (hn.2.2 x h2 x (List.mem_flatten.2 ⟨l,q,h1⟩))
  exact ih hn.2.1 q r
theorem fS.oJ {g:Gr} {p:Pt} {aB same:List (List Int)} (h:fS g p aB same):(eQ g p aB same).flatten.Nodup:=h.all.nodup_iff.2 h.mJ
theorem fS.one {g:Gr} {p:Pt} {aB same ll mm:List (List Int)} (h:fS g p aB same) (h1:iO g p aB same ll) (h2:iO g p aB same mm):ll=mm:=by
 refine oX (f:=fun l=>l.getD 0 0) (h1.perm.trans h2.perm.symm) h1.order h2.order fun x hx y hy e=>?_;have mx:=h1.perm.mem_iff.1 hx;have my:=h1.perm.mem_iff.1 hy;have e:x.getD 0 0=y.getD 0 0:=e;exact xI h.oJ mx my (head_mem (h.ne x mx)) (by rw[e];exact head_mem (h.ne y my))
open Classical in
noncomputable def aJ (g:Gr) (p:Pt) (aB same:List (List Int)):List (List Int):=if h:∃ ll,iO g p aB same ll then Classical.choose h else []
theorem iO.eq {g:Gr} {p:Pt} {aB same ll:List (List Int)} (h:fS g p aB same) (hl:iO g p aB same ll):ll=aJ g p aB same:=by
 have hex:∃ ll,iO g p aB same ll:=⟨ll,hl⟩;unfold aJ;rw[dif_pos hex];exact h.one hl (Classical.choose_spec hex)
def cY (ll:List (List Int)) (key:Int):Option Nat:=ll.findIdx? fun l=>decide (key∈l)
theorem hZ {ll:List (List Int)} (hn:ll.flatten.Nodup) {i:Nat} (hi:i<ll.length) {key:Int} (hk:key∈ll.getD i []):cY ll key=some i:=by
 have e:ll.getD i []=ll[i]:=by simp[List.getD,hi]
 rw[e] at hk;unfold cY;rw[List.findIdx?_eq_some_iff_getElem];refine⟨hi,decide_eq_true hk,fun j hj=>?_⟩;intro hm;have hm:=of_decide_eq_true hm;have hp:=(cV.1 hn).2;have:=List.pairwise_iff_getElem.1 hp j i (by omega) hi hj key hm key hk;exact this rfl
theorem tW {ll:List (List Int)} {key:Int} {i:Nat} (h:cY ll key=some i):i<ll.length∧key∈ll.getD i []:=by
 unfold cY at h;rw[List.findIdx?_eq_some_iff_getElem] at h;obtain⟨h1,h2,-⟩:=h;exact⟨h1,by simpa[List.getD,h1] using h2⟩
theorem lS {ll:List (List Int)} {key:Int}:cY ll key=none↔key ∉ ll.flatten:=by
 unfold cY;rw[List.findIdx?_eq_none_iff];simp only[List.mem_flatten,not_exists,not_and,decide_eq_false_iff_not]
end aA
end Go.Proofs.YtkacjmoamgjfpaaGreat
namespace Go.Proofs.YtkacjmoamgjfpaaGreat
open Go.RowKit Go.Maps
theorem rE (v:Value) (l:List Int) (x:Int) (w:World) (h:aL w v l) :
  Calls Tryz.prog 202 #[v,.int .i64 x] w fun e w'=>e=.returned (.bool (decide (x∈l)))∧w'=w:=by
 obtain⟨ao,cap,rfl,-,hm,hc⟩:=h;cases l with
 | nil =>
  refine (Tryz.slices_Contains_int_empty ao cap x w).mono ?_;rintro e w' ⟨rfl,rfl⟩;exact⟨bK (by simp),rfl⟩
 | cons y r =>
  obtain⟨b,off,rfl,hc2⟩:=hc (by simp);refine (Tryz.slices_Contains_int b off (y :: r).length cap (y :: r) x w (Nat.le_refl _) hm hc2).mono ?_;rintro e w' ⟨rfl,rfl⟩;exact⟨bK (by rw[List.take_length];simp),rfl⟩
def aBu:Option Nat→Int
 | some i=>i
 | none=>-1
theorem yB {ll:List (List Int)} {key:Int} {k:Nat} (hk:k<ll.length) (h:∀ i,i<k→key ∉ ll.getD i []) (hin:key∈ll.getD k []):aA.cY ll key=some k:=by
 unfold aA.cY;rw[List.findIdx?_eq_some_iff_getElem];refine⟨hk,decide_eq_true (by simpa[List.getD,hk] using hin),fun j hj=>?_⟩;have:=h j hj;have hjl:j<ll.length:=by omega
 simpa[List.getD,hjl] using this
theorem aBF {ll:List (List Int)} {key:Int} (h:∀ i,i<ll.length→key ∉ ll.getD i []):aA.cY ll key=none:=by
 rw[aA.lS];intro hm;obtain⟨l,hl,hx⟩:=List.mem_flatten.1 hm;obtain⟨i,hi,rfl⟩:=List.getElem_of_mem hl;exact h i hi (by simpa[List.getD,hi] using hx)
theorem aR.read {w:World} {B:Nat} {ov:Value} {vs:List Value} {ll:List (List Int)} (h:aR w B ov vs ll) (hi:∀ l∈ll,(∀ x∈l,I64 x)∧l.length<4294967296):cG w ov ll:=by
 have hlen:=h.len;have hcap:∀ {v:Value} {n:Nat} {xs:List Value} {e:TypeId},w.ownsRow B e 1 v n xs→gI v:=by
  intro v n xs e ho;rcases ho.2 with ⟨rfl,_⟩ | ⟨g,cap,cur,rfl,-,-,hn,hc,-,-⟩
  ·exact⟨none,0,0,rfl,by decide,by decide⟩
  exact⟨_,_,_,rfl,hn,by unfold maxLen at hc;omega⟩
 rcases h.out.2 with ⟨rfl,h0⟩ | ⟨g,cap,cur,rfl,-,-,hn,hc,-,-⟩
 ·have:ll=[]:=List.length_eq_zero_iff.1 (by omega)
  subst this;exact⟨none,0,rfl,by decide,fun i hi=>absurd hi (by simp)⟩
 refine⟨_,cap,by rw[hlen],by unfold maxLen at hc;omega,fun i hi2=>?_⟩;have hiv:i<vs.length:=by omega
 have hrow:=h.rows i hiv;have hcell:=h.out.cellAt i (by omega);have hm:ll.getD i []∈ll:=by simp[List.getD,hi2]
 refine⟨g,0,vs.getD i undef,rfl,?_,hcap hrow,aM.ints (B:=B) ⟨hrow,hi _ hm⟩⟩;rw[Nat.zero_add,hcell];simp[List.getD,hiv]
namespace aA
theorem qK {g:Gr} {p:Pt} {aB same ll:List (List Int)} (h:fS g p aB same) (hl:iO g p aB same ll):∀ l∈ll,(∀ x∈l,I64 x∧x∈(aH g p aB).map (·.1))∧l.length≤(aH g p aB).length:=by
 intro l hlm;have hm:=hl.perm.mem_iff.1 hlm;have hk:∀ x∈l,x∈(aH g p aB).map (·.1):=fun x hx=>h.all.mem_iff.1 (List.mem_flatten.2 ⟨l,hm,hx⟩);refine⟨fun x hx=>⟨?_,hk x hx⟩,?_⟩
 ·obtain⟨f,hf,rfl⟩:=List.mem_map.1 (hk x hx)
  have:=sZ h.part h.walks hf;exact I64.mk (by omega) (by omega)
 have hn:=(cV.1 h.oJ).1 l hm;have:=cQ hn hk;rwa[List.length_map] at this
end aA
namespace aA
theorem aBg {g:Gr} {p:Pt} {aB same:List (List Int)} (h:iQ g p aB same=true):∀ v,(aX aB v).length≤200:=by
 unfold iQ jO iC at h;simp only[Bool.and_eq_true] at h;obtain⟨⟨⟨⟨h4,h5⟩,h6⟩,h7⟩,h8⟩:=h;exact fun v=>uZ (aAS h6) v.toNat
end aA
theorem zS (v:Value) (l:List Int) (w:World) (hl:l.length≤1000000000) (h:aL w v l) :
  Calls Tryz.prog 129 #[v] w fun e w'=>∃ v',e=.returned v'∧aM w' w.heap.size v' l∧Chg [] w w':=by
 obtain⟨ao,cap,rfl,hsm,hm,hc⟩:=h;cases l with
 | nil =>
  cases ao with
  | none =>
   refine (Tryz.slices_Clone_int_nil 0 cap w).mono ?_;rintro e w' ⟨rfl,rfl⟩;exact⟨_,rfl,gH _ _,Chg.refl _ _⟩
  | some ad =>
   refine (Tryz.slices_Clone_int_zero ad cap w).mono ?_;rintro e w' ⟨v',rfl,h1,-,h3⟩;exact⟨_,rfl,⟨h1,by simp,by simp⟩,Chg.sG h3 (Nat.le_refl _)⟩
 | cons y r =>
  obtain⟨b,off,rfl,hc2⟩:=hc (by simp);refine (Tryz.slices_Clone_int b off (y :: r).length cap (y :: r) w (Nat.le_refl _) (by omega) hc2).mono ?_;rintro e w' ⟨v',rfl,h1,-,h3⟩;rw[List.take_length] at h1;exact⟨_,rfl,⟨h1,hsm,by omega⟩,Chg.sG h3 (Nat.le_refl _)⟩
structure bQ (w:World) (pb B T:Nat) (t s:List (List Int)):Prop where
 ex:∃ o1 v1 o2 v2,w.heap[pb]?=some (.cells #[o1,o2] 32 (0,0))∧aR w B o1 v1 t∧aR w B o2 v2 s∧(o1.ownBlock=none∨o1.ownBlock≠o2.ownBlock) ∧
  (∀ k b,k<v1.length→(v1.getD k undef).ownBlock=some b→b<T)∧(∀ k b,k<v2.length→(v2.getD k undef).ownBlock=some b→b<T)
 small:∀ l∈t++s,(∀ x∈l,I64 x)∧l.length<4294967296
theorem bQ.made (w:World) (B T:Nat):bQ (w.alloc (.cells #[.slice none 0 0,.slice none 0 0] 32)) w.heap.size B T [] [] :=
 ⟨⟨_,[],_,[],heap_alloc_new w _,aR.nil _ _,aR.nil _ _,Or.inl rfl,by simp,by simp⟩,by simp⟩
theorem fF {w:World} {B:Nat} {ov:Value} {vs:List Value} {ll:List (List Int)} (h:aR w B ov vs ll):∀ k b,k<vs.length→(vs.getD k undef).ownBlock=some b→b<w.heap.size:=fun k _b hk hb=>gZ (h.rows k hk) hb
theorem bQ.up {w:World} {pb B T T':Nat} {t s:List (List Int)} (h:bQ w pb B T t s) (hT:w.heap.size≤T'):bQ w pb B T' t s:=by
 obtain⟨⟨o1,v1,o2,v2,h1,h2,h3,h4,-,-⟩,h7⟩:=h;exact⟨⟨o1,v1,o2,v2,h1,h2,h3,h4,fun k b hk hb=>Nat.lt_of_lt_of_le (fF h2 k b hk hb) hT,fun k b hk hb=>Nat.lt_of_lt_of_le (fF h3 k b hk hb) hT⟩,h7⟩
theorem fB {w:World} {B:Nat} {e:TypeId} {sz:Nat} {v:Value} {n:Nat} {xs:List Value} (h:w.ownsRow B e sz v n xs) {b:Nat} (hb:v.ownBlock=some b):∃ cs,w.heap[b]?=some (.cells cs e (0,0)):=by
 rcases h.2 with ⟨rfl,_⟩ | ⟨g,c,cur,rfl,_,hg,_⟩
 ·cases hb
 simp only[Value.ownBlock,Option.some.injEq] at hb;subst hb;exact⟨_,hg⟩
theorem bQ.keep {w w':World} {pb B T:Nat} {t s:List (List Int)} {own:List Nat} (h:bQ w pb B T t s) (hc:Chg own w w') (ho:∀ j∈own,j≠pb∧∀ cs u r,w.heap[j]?=some (.cells cs u r)→u≠27∧u≠3):bQ w' pb B T t s:=by
 obtain⟨⟨o1,v1,o2,v2,h1,h2,h3,h4,h5,h6⟩,h7⟩:=h;have hr:∀ {ov:Value} {vs:List Value} {ll:List (List Int)},aR w B ov vs ll→aR w' B ov vs ll:=by
  intro ov vs ll hr;refine hr.chg hc (fun b hb hm=>?_) (fun k b hk hb hm=>?_)
  ·obtain⟨cs,hh⟩:=fB hr.out hb
   exact ((ho _ hm).2 _ _ _ hh).1 rfl
  obtain⟨cs,hh⟩:=fB (hr.rows k hk) hb;exact ((ho _ hm).2 _ _ _ hh).2 rfl
 exact⟨⟨o1,v1,o2,v2,hc.heap h1 (fun hm=>(ho _ hm).1 rfl),hr h2,hr h3,h4,h5,h6⟩,h7⟩
theorem bQ.fresh {w w':World} {pb B T:Nat} {t s:List (List Int)} (h:bQ w pb B T t s) (hc:Chg [] w w'):bQ w' pb B T t s:=h.keep hc (by simp)
theorem bQ.low {w w':World} {pb B T:Nat} {t s:List (List Int)} {own:List Nat} (h:bQ w pb B T t s) (hc:Chg own w w') (ho:∀ j∈own,j<B∧j≠pb):bQ w' pb B T t s:=by
 obtain⟨⟨o1,v1,o2,v2,h1,h2,h3,h4,h5,h6⟩,h7⟩:=h;exact⟨⟨o1,v1,o2,v2,hc.heap h1 (fun hm=>(ho _ hm).2 rfl),h2.below hc fun j hj=>(ho j hj).1,h3.below hc fun j hj=>(ho j hj).1,h4,h5,h6⟩,h7⟩
theorem bQ.cells {w:World} {pb B T:Nat} {t s:List (List Int)} (h:bQ w pb B T t s):∃ a1 c1 a2 c2,w.cell? ⟨pb,0,none⟩=some (.slice a1 t.length c1)∧w.cell? ⟨pb,1,none⟩=some (.slice a2 s.length c2):=by
 obtain⟨⟨o1,v1,o2,v2,h1,h2,h3,-⟩,-⟩:=h;obtain⟨a1,c1,rfl⟩:=bR h2.out;obtain⟨a2,c2,rfl⟩:=bR h3.out;exact⟨a1,c1,a2,c2,by rw[←h2.len];exact (cell_of_row _ _ 0 _ _ _ h1).trans rfl,by rw[←h3.len];exact (cell_of_row _ _ 1 _ _ _ h1).trans rfl⟩
theorem bQ.lt {w:World} {pb B T:Nat} {t s:List (List Int)} (h:bQ w pb B T t s):pb<w.heap.size:=by
 obtain⟨⟨o1,v1,o2,v2,h1,-⟩,-⟩:=h;exact lt_of_block h1
theorem bQ.read {w:World} {pb B T:Nat} {t s:List (List Int)} (h:bQ w pb B T t s):∃ a1 c1 a2 c2,w.cell? ⟨pb,0,none⟩=some (.slice a1 t.length c1)∧w.cell? ⟨pb,1,none⟩=some (.slice a2 s.length c2)∧jX w (.agg #[.slice a1 t.length c1,.slice a2 s.length c2]) t s:=by
 obtain⟨⟨o1,v1,o2,v2,h1,h2,h3,-⟩,h7⟩:=h;obtain⟨a1,c1,rfl⟩:=bR h2.out;obtain⟨a2,c2,rfl⟩:=bR h3.out;have r1:=h2.read fun l hl=>h7 l (List.mem_append.2 (Or.inl hl));have r2:=h3.read fun l hl=>h7 l (List.mem_append.2 (Or.inr hl));have e1:=h2.len;have e2:=h3.len;rw[e1] at r1 h1;rw[e2] at r2 h1;exact⟨a1,c1,a2,c2,(cell_of_row _ _ 0 _ _ _ h1).trans rfl,(cell_of_row _ _ 1 _ _ _ h1).trans rfl,_,_,rfl,r1,r2⟩
theorem bQ.aF8 {w:World} {pb B T:Nat} {t s:List (List Int)} (h:bQ w pb B T t s) {u1 u2:Value} (e1:w.cell? ⟨pb,0,none⟩=some u1) (e2:w.cell? ⟨pb,1,none⟩=some u2):jX w (.agg #[u1,u2]) t s:=by
 obtain⟨a1,c1,a2,c2,h1,h2,h3⟩:=h.read;rw[e1] at h1;rw[e2] at h2;cases h1;cases h2;exact h3
theorem aAs {w0 w:World} {B T:Nat} {ov v:Value} {vs:List Value} {ll:List (List Int)} {l:List Int} (h:aR w0 B ov vs ll) (hB:B≤w0.heap.size) (hv:aM w0 T v l) (hBT:B≤T) (hX:∀ k b,k<vs.length→(vs.getD k undef).ownBlock=some b→b<T) (hn:vs.length<68719476736)
  (hw:w=w0.alloc (.cells #[v] 27)∨w=(w0.alloc (.cells #[v] 27)).drew) (ty:TypeId) :
  ∃ g cap w',(Builtin.append_ #[30,30] ty #[ov,.slice (some ⟨w0.heap.size,0,none⟩) 1 1]).run Tryz.prog w=.ok (.slice (some ⟨g,0,none⟩) (vs.length+1) cap) w' ∧
   aR w' B (.slice (some ⟨g,0,none⟩) (vs.length+1) cap) (vs++[v]) (ll++[l])∧Chg ov.ownBlock.toList w0 w'∧(ov.ownBlock=some g∨w0.heap.size≤g):=by
 obtain⟨va,vc,rfl⟩:=hv.shape;obtain⟨g,cap,w',hr,r2,r3,r4⟩:=mY nC h.out hB (cs:=#[.slice va l.length vc]) rfl (lH _ _ _) hn hw ty;exact⟨g,cap,w',hr,h.add (jL hv.1 hBT) (fun k b hk hb e=>by
  have h1:=hX k b hk hb;have h2:=(hv.low b (by rw[e];simp)).1;omega) r2 r3,r3,r4⟩
theorem bQ.aHZ {w0 w:World} {pb B T:Nat} {t s:List (List Int)} {v:Value} {l:List Int} (h:bQ w0 pb B T t s) (hB:B≤w0.heap.size) (hv:aM w0 T v l) (hBT:B≤T) (hn:t.length<1000000000)
  (hw:w=w0.alloc (.cells #[v] 27)∨w=(w0.alloc (.cells #[v] 27)).drew) {ao:Option Addr} {n c:Nat} (hc0:w0.cell? ⟨pb,0,none⟩=some (.slice ao n c)) (ty:TypeId) :
  ∃ g cap w',(Builtin.append_ #[30,30] ty #[.slice ao n c,.slice (some ⟨w0.heap.size,0,none⟩) 1 1]).run Tryz.prog w=.ok (.slice (some ⟨g,0,none⟩) (n+1) cap) w' ∧
   w'.frozen? ⟨pb,0,none⟩=false∧(∃ u,w'.cell? ⟨pb,0,none⟩=some u)∧bQ (w'.setCell ⟨pb,0,none⟩ (.slice (some ⟨g,0,none⟩) (n+1) cap)) pb B w'.heap.size (t++[l]) s ∧
   ∃ own,Chg own w0 (w'.setCell ⟨pb,0,none⟩ (.slice (some ⟨g,0,none⟩) (n+1) cap))∧∀ j∈own,j=pb∨(B≤j∧∃ cs r,w0.heap[j]?=some (.cells cs 27 r)):=by
 obtain⟨⟨o1,v1,o2,v2,h1,h2,h3,h4,h5,h6⟩,h7⟩:=h;have e0:=(cell_of_row _ _ 0 _ _ _ h1).trans (show _=some o1 from rfl);rw[hc0] at e0;obtain rfl:Value.slice ao n c=o1:=by simpa using e0
 have hnl:n=v1.length:=by
  obtain⟨a1,c1,e⟩:=bR h2.out;simp only[Value.slice.injEq] at e;exact e.2.1
 subst hnl;obtain⟨g,cap,w',hr,r1,r2,r3⟩:=aAs h2 hB hv hBT h5 (by have:=h2.len;omega) hw ty;have hno:pb ∉ (Value.slice ao v1.length c).ownBlock.toList:=fun e=>cU h2.out h1 (by decide) (by simpa using e);have hp:=r2.heap h1 hno;have h3':aR w' B o2 v2 s:=h3.chg r2 (fun b hb e=>by
   rcases h4 with q | q
   ·rw[q] at e;simp at e
   ·simp at e;exact q (e.trans hb.symm)) (fun k b hk hb e=>by
   rcases eE h2.out (h3.rows k hk) (by decide) with q | q
   ·rw[q] at e;simp at e
   simp at e;exact q (e.trans hb.symm))
 have hset:Chg [pb] w' (w'.setCell ⟨pb,0,none⟩ (.slice (some ⟨g,0,none⟩) (v1.length+1) cap)):=(Chg.refl _ _).setCell (Or.inl (by simp)) _;have keep:∀ {ov:Value} {vs:List Value} {ll:List (List Int)},aR w' B ov vs ll→aR (w'.setCell ⟨pb,0,none⟩ (.slice (some ⟨g,0,none⟩) (v1.length+1) cap)) B ov vs ll:=fun hr=>hr.chg hset
  (fun b hb e=>cU hr.out hp (by decide) (by rw[hb,List.mem_singleton.1 e])) (fun k b hk hb e=>cU (hr.rows k hk) hp (by decide) (by rw[hb,List.mem_singleton.1 e]))
 have hx:=fF r1;have hx3:=fF h3';refine⟨g,cap,w',hr,bM hp 0,⟨_,(cell_of_row _ _ 0 _ _ _ hp).trans rfl⟩,⟨⟨_,_,o2,v2,heap_setCell_same hp 0 _,keep r1,keep h3',?_,hx,hx3⟩,?_⟩,pb :: (Value.slice ao v1.length c).ownBlock.toList,(r2.mono (fun j hj=>Or.inl (by simp[hj]))).trans hset (fun j hj=>Or.inl (by simp at hj;simp[hj])),fun j hj=>?_⟩
 ·right
  intro e;rcases r3 with q | q
  ·rcases h4 with r | r
   ·rw[r] at q;cases q
   rw[q] at r;exact r e
  have:g<w0.heap.size:=gZ h3.out e.symm;omega
 ·intro m hm
  rw[List.append_assoc] at hm;rcases List.mem_append.1 hm with q | q
  ·exact h7 m (List.mem_append.2 (Or.inl q))
  rcases List.mem_append.1 q with q | q
  ·rw[List.mem_singleton.1 q];exact hv.2
  exact h7 m (List.mem_append.2 (Or.inr q))
 rcases List.mem_cons.1 hj with q | q
 ·exact Or.inl q
 obtain⟨cs,hh⟩:=fB h2.out (by simpa using q);exact Or.inr ⟨(h2.out.lt j (by simpa using q)).1,cs,_,hh⟩
theorem bQ.aIs {w0 w:World} {pb B T:Nat} {t s:List (List Int)} {v:Value} {l:List Int} (h:bQ w0 pb B T t s) (hB:B≤w0.heap.size) (hv:aM w0 T v l) (hBT:B≤T) (hn:s.length<1000000000)
  (hw:w=w0.alloc (.cells #[v] 27)∨w=(w0.alloc (.cells #[v] 27)).drew) {ao:Option Addr} {n c:Nat} (hc0:w0.cell? ⟨pb,1,none⟩=some (.slice ao n c)) (ty:TypeId) :
  ∃ g cap w',(Builtin.append_ #[30,30] ty #[.slice ao n c,.slice (some ⟨w0.heap.size,0,none⟩) 1 1]).run Tryz.prog w=.ok (.slice (some ⟨g,0,none⟩) (n+1) cap) w' ∧
   w'.frozen? ⟨pb,1,none⟩=false∧(∃ u,w'.cell? ⟨pb,1,none⟩=some u)∧bQ (w'.setCell ⟨pb,1,none⟩ (.slice (some ⟨g,0,none⟩) (n+1) cap)) pb B w'.heap.size t (s++[l]) ∧
   ∃ own,Chg own w0 (w'.setCell ⟨pb,1,none⟩ (.slice (some ⟨g,0,none⟩) (n+1) cap))∧∀ j∈own,j=pb∨(B≤j∧∃ cs r,w0.heap[j]?=some (.cells cs 27 r)):=by
 obtain⟨⟨o1,v1,o2,v2,h1,h2,h3,h4,h5,h6⟩,h7⟩:=h;have e0:=(cell_of_row _ _ 1 _ _ _ h1).trans (show _=some o2 from rfl);rw[hc0] at e0;obtain rfl:Value.slice ao n c=o2:=by simpa using e0
 have hnl:n=v2.length:=by
  obtain⟨a1,c1,e⟩:=bR h3.out;simp only[Value.slice.injEq] at e;exact e.2.1
 subst hnl;obtain⟨g,cap,w',hr,r1,r2,r3⟩:=aAs h3 hB hv hBT h6 (by have:=h3.len;omega) hw ty;have hno:pb ∉ (Value.slice ao v2.length c).ownBlock.toList:=fun e=>cU h3.out h1 (by decide) (by simpa using e);have hp:=r2.heap h1 hno;have h2':aR w' B o1 v1 t:=h2.chg r2 (fun b hb e=>by
   rcases h4 with q | q
   ·rw[q] at hb;cases hb
   ·simp at e;exact q (hb.trans e.symm)) (fun k b hk hb e=>by
   rcases eE h3.out (h2.rows k hk) (by decide) with q | q
   ·rw[q] at e;simp at e
   simp at e;exact q (e.trans hb.symm))
 have hset:Chg [pb] w' (w'.setCell ⟨pb,1,none⟩ (.slice (some ⟨g,0,none⟩) (v2.length+1) cap)):=(Chg.refl _ _).setCell (Or.inl (by simp)) _;have keep:∀ {ov:Value} {vs:List Value} {ll:List (List Int)},aR w' B ov vs ll→aR (w'.setCell ⟨pb,1,none⟩ (.slice (some ⟨g,0,none⟩) (v2.length+1) cap)) B ov vs ll:=fun hr=>hr.chg hset
  (fun b hb e=>cU hr.out hp (by decide) (by rw[hb,List.mem_singleton.1 e])) (fun k b hk hb e=>cU (hr.rows k hk) hp (by decide) (by rw[hb,List.mem_singleton.1 e]))
 have hx:=fF r1;have hx2:=fF h2';refine⟨g,cap,w',hr,bM hp 1,⟨_,(cell_of_row _ _ 1 _ _ _ hp).trans rfl⟩,⟨⟨o1,v1,_,_,heap_setCell_same hp 1 _,keep h2',keep r1,?_,hx2,hx⟩,?_⟩,pb :: (Value.slice ao v2.length c).ownBlock.toList,(r2.mono (fun j hj=>Or.inl (by simp[hj]))).trans hset (fun j hj=>Or.inl (by simp at hj;simp[hj])),fun j hj=>?_⟩
 ·cases hq:o1.ownBlock with
  | none=>exact Or.inl rfl
  | some b =>
   right;intro e;have e:some b=some g:=e;rcases r3 with q | q
   ·rcases h4 with r | r
    ·rw[r] at hq;cases hq
    exact r (hq.trans (e.trans q.symm))
   have:=gZ h2.out hq;cases e;omega
 ·intro m hm
  rw[←List.append_assoc] at hm;rcases List.mem_append.1 hm with q | q
  ·exact h7 m q
  rw[List.mem_singleton.1 q];exact hv.2
 rcases List.mem_cons.1 hj with q | q
 ·exact Or.inl q
 obtain⟨cs,hh⟩:=fB h3.out (by simpa using q);exact Or.inr ⟨(h3.out.lt j (by simpa using q)).1,cs,_,hh⟩
theorem sN {o:Oper} {a:Act} {K:Act→World→Prop} {Q:Exit→Act→World→Prop} {w w':World} (s x:Operand) (t:TypeId) (ho:o.op=.call { callee:=.builtin .append,args:=#[s,x],argTypes:=#[t,t] }) {v u r:Value} (hs:a.eval s=v) (hx:a.eval x=u)
  (hr:(Builtin.append_ #[t,t] o.type #[v,u]).run Tryz.prog w=.ok r w') (hK:K (a.put o.dst r) w'):o.wp Tryz.prog a w K Q:=by
 unfold Oper.wp execOp;simp only[ho,resolve,invoke,builtin,Sem.run_bind,Sem.run_pure,Result.andThen_ok,List.map_toArray,List.map_cons,List.map_nil,hs,hx,hr];exact hK
theorem cG.aGG {w:World} {tno:Option Addr} {n tc:Nat} {ll:List (List Int)} (h:cG w (.slice tno n tc) ll) {k:Nat} (hk:k<ll.length):∃ b off u,tno=some ⟨b,off,none⟩∧w.cell? ⟨b,off+k,none⟩=some u∧gI u∧aL w u (ll.getD k []):=by
 obtain⟨ao,cap,e,-,h2⟩:=h;simp only[Value.slice.injEq] at e;obtain⟨rfl,rfl,rfl⟩:=e;obtain⟨b,off,u,rfl,h3,h4,h5⟩:=h2 k hk;exact⟨b,off,u,rfl,h3,h4,h5⟩
namespace aA
theorem lY {f:List Int→List Int} {L:List (List Int)} {k:Nat} (hk:k<L.length):(L.take (k+1)).map f=(L.take k).map f++[f (L.getD k [])]:=by
 rw[List.take_succ_eq_append_getElem hk,List.map_append];simp[List.getD,hk]
end aA
set_option maxRecDepth 100000 in
set_option maxHeartbeats 4000000 in
theorem aEg (vx:Value) (aB same:List (List Int)) (w:World) (hTL:aB.length<1000000000) (hSL:same.length<1000000000) (htr:∀ i,(aB.getD i []).length<1000000000) (hsr:∀ i,(same.getD i []).length<1000000000) (hx:jX w vx aB same) :
  Calls Tryz.prog 74 #[vx] w fun e w'=>∃ vy,e=.returned vy∧(∀ own wx,Chg own w' wx→(∀ j∈own,j<w.heap.size)→jX wx vy (aB.map aA.first) same)∧Chg [] w w':=by
 obtain⟨t1,t2,rfl,ht,hs⟩:=hx;have HT:=lh ht;have HS:=lh hs;have HTR:=lh htr;have HSR:=lh hsr;obtain⟨tno,tc,rfl,htm,-⟩:=ht;obtain⟨so,sc,rfl,hsm2,-⟩:=hs;obtain⟨hb1,hb2,hc1⟩:=cK w #[.slice tno aB.length tc,.slice so same.length sc] #[.slice none 0 0,.slice none 0 0] 32 32;have hpv:=bQ.made ((w.alloc (.cells #[.slice tno aB.length tc,.slice so same.length sc] 32)).alloc (.cells #[.slice none 0 0,.slice none 0 0] 32)) (w.heap.size+3) (w.heap.size+3);have hc2:=(Chg.refl [] ((w.alloc (.cells #[.slice tno aB.length tc,.slice so same.length sc] 32)).alloc (.cells #[.slice none 0 0,.slice none 0 0] 32))).alloc (.cells #[.slice none 0 0,.slice none 0 0] 32);rw[show ((w.alloc (.cells #[.slice tno aB.length tc,.slice so same.length sc] 32)).alloc (.cells #[.slice none 0 0,.slice none 0 0] 32)).heap.size=w.heap.size+2 by simp] at hpv;have B1:=lh (hc2.heap hb1 (by simp));have B2:=lh (hc2.heap hb2 (by simp));have HPV:=lh hpv;have HC1:=lh (hc1.t hc2);have z0:=(cell_of_row _ _ 0 _ _ _ B1.out).trans (show _=some (Value.slice tno aB.length tc) from rfl);have hsz:(((w.alloc (.cells #[.slice tno aB.length tc,.slice so same.length sc] 32)).alloc (.cells #[.slice none 0 0,.slice none 0 0] 32)).alloc (.cells #[.slice none 0 0,.slice none 0 0] 32)).heap.size=w.heap.size+3:=by simp
 have HSZ:=lh hsz;clear htr hsr hb1 hb2 hc1 hpv hc2 hsz
 go_enter Tryz.func74,Tryz.ntmps74
 go_wp2;generalize (((w.alloc (.cells #[.slice tno aB.length tc,.slice so same.length sc] 32)).alloc (.cells #[.slice none 0 0,.slice none 0 0] 32)).alloc (.cells #[.slice none 0 0,.slice none 0 0] 32))=w1 at *;clear z0
 go_loopw [11] (fun c wr=>∃ k:Nat,k≤aB.length∧c=.int .i64 k∧bQ wr (w.heap.size+2) (w.heap.size+3) wr.heap.size ((aB.take k).map aA.first) []∧Chg [w.heap.size+2] w1 wr) (fun c _=>aB.length - (intOf c).toNat)
 case atStart=>exact⟨0,Nat.zero_le _,rfl,by simpa[HSZ.out] using HPV.out,Chg.refl _ _⟩
 case round =>
  obtain⟨k,hk,rfl,hpv,hc⟩:=hrel;have HV:=lh hpv;have HC:=lh hc;have HCW:=lh (HC1.out.trans hc (fun j hj=>Or.inr (by simp at hj;omega)));have z0:=hc.c ((cell_of_row _ _ 0 _ _ _ B1.out).trans (show _=some (Value.slice tno aB.length tc) from rfl));by_cases hlt:k<aB.length
  ·obtain⟨tb,toff,u,rfl,tcell,hcap,hrow⟩:=(HT.out.fresh HCW.out).aGG hlt
   obtain⟨a1,c1,a2,c2,p0,-⟩:=hpv.cells;have HCAP:=lh hcap;have hTl:=HTR.out k;have HMS:=lh (aA.lY (f:=aA.first) hlt);have hml:((aB.take k).map aA.first).length<1000000000:=by simp;omega
   have HB:=lh (show w.heap.size+3≤wr.heap.size by have:=hc.size;have:=HSZ.out;omega);have HP0:=lh p0;obtain⟨T,hT⟩:∃ T,aB.getD k []=T:=⟨_,rfl⟩;rw[hT] at hrow hTl HMS;have HROW:=lh hrow;obtain⟨uo,uc,rfl,-⟩:=hrow;obtain⟨L,hL⟩:∃ L,(aB.take k).map aA.first=L:=⟨_,rfl⟩;rw[hL] at HV HMS hml p0 HP0;clear hpv hc hcap hT hL;go_wp2;have hS0:Chg [] wr wr.drew:=(Chg.refl [] wr).drew;refine aF (Chg [] wr) [0,1,2] (Way.line [0,1,2,3,4,5,6,7] .done) (by kernel_rfl) (by kernel_rfl) ?_;simp only[Way.line]
   repeat
    first
     | (refine aE rfl (by rfl) (by rfl) (fun _ _ _ h=>h) hS0 ?_;simp only[Act.put,Z1,Z2,Z3,Z4,Z5,Z6])
     | (refine aC (v:=?_) rfl (by rfl) (by rfl) (fun _ _ _ h=>h) hS0 (fun w' hS'=>?_) ?_;rotate_left;(focus (have rd0:=hS'.c p0;have rd1:=hS'.c tcell;clear hS';go_simp;try with_reducible rfl));simp only[Act.put,Z1,Z2,Z3,Z4,Z5,Z6])
     | (refine aD rfl (by rfl) (by rfl) hS0 ?_;simp only[Act.put,Z1,Z2,Z3,Z4,Z5,Z6])
   refine aI rfl (by rfl) (by rfl) (fun K hK=>?_);go_simp;refine (sQ _ T _ (by omega) HCAP.out (HROW.out.fresh hS0)).mono ?_;rintro e w3 ⟨v',rfl,hrv,hcx⟩;have hS1:=hS0.t hcx;clear hS0 hcx;have hS0:=hS1;clear hS1;refine hK.out _ _ (fun _=>hS0) ?_;clear hK K
   try simp only[Act.put,Z1,Z2,Z3,Z4,Z5,Z6]
   obtain⟨vo,vc,rfl⟩:=hrv.shape;have HRV:=lh hrv;have HS3:=lh hS0;refine aI rfl (by rfl) (by rfl) (fun K hK=>?_);go_simp;refine hK.out _ _ (fun _=>hS0.alloc _) ?_;clear hK K hrv
   try simp only[Act.put,Z1,Z2,Z3,Z4,Z5,Z6]
   obtain⟨g5,q5,w5,hr5,hf5,⟨u5,hu5⟩,hv5,own5,hc5,ho5⟩:=(HV.out.fresh HS3.out).aHZ (by have:=HS3.out.size;have:=HB.out;omega) HRV.out HB.out hml (Or.inl rfl) (HS3.out.c HP0.out) 30;have HV5:=lh hv5;have HC5:=lh hc5;have HO5:=lh ho5;clear hv5 hc5 ho5;refine aI rfl (by rfl) (by rfl) (fun K hK=>?_);simp only[List.getElem_toArray,List.getElem_cons_zero,List.getElem_cons_succ];refine sN (.tmp 16) (.tmp 19) 30 rfl rfl rfl hr5 ?_;refine hK.out _ _ (fun h=>absurd h (Bool.eq_false_iff.1 (by kernel_rfl))) ?_;clear hK K hr5
   try simp only[Act.put,List.setIfInBounds_toArray,List.set_cons_zero,List.set_cons_succ]
   refine aI rfl (by rfl) (by rfl) (fun K hK=>?_);go_simp;refine hK.out _ _ (fun h=>absurd h (Bool.eq_false_iff.1 (by kernel_rfl))) ?_;clear hK K
   try simp only[Act.put,Z1,Z2,Z3,Z4,Z5,Z6]
   refine aI rfl (by rfl) (by rfl) (fun K hK=>?_);go_simp;refine hK.out _ _ (fun h=>absurd h (Bool.eq_false_iff.1 (by kernel_rfl))) ?_;clear hK K hu5 hf5 p0 tcell hS0
   try simp only[Act.put,Z1,Z2,Z3,Z4,Z5,Z6]
   refine aG ?_;generalize (w5.setCell ⟨w.heap.size+2,0,none⟩ (.slice (some ⟨g5,0,none⟩) (L.length+1) q5))=w6 at *;have HC6:=lh (show Chg [w.heap.size+2] w1 w6 from HC.out.trans ((HS3.out.mono (by simp)).trans HC5.out (fun j hj=>Or.inl hj):Chg own5 wr w6) (fun j hj=>(HO5.out j hj).imp (fun e=>by simp[e]) (fun h=>by have:=HSZ.out;omega)));go_wp2
   go_roundw
   case rel=>exact⟨k+1,by omega,by go_num,by rw[HMS.out];exact HV5.out.up (Nat.le_refl _),HC6.out⟩
   case measure=>simp[intOf];omega
  have e:k=aB.length:=by omega
  subst e;rw[List.take_length] at HV;have z1:=hc.c ((cell_of_row _ _ 1 _ _ _ B1.out).trans (show _=some (Value.slice so same.length sc) from rfl));clear hpv z0;go_wp2;clear z1;obtain⟨TT,hTT⟩:∃ TT,aB.map aA.first=TT:=⟨_,rfl⟩;have HTT:=lh hTT;rw[hTT] at HV;clear hTT;rename World=>wo
  go_loopw [26] (fun c wr=>∃ k:Nat,k≤same.length∧c=.int .i64 k∧bQ wr (w.heap.size+2) (w.heap.size+3) wr.heap.size TT (same.take k)∧Chg [w.heap.size+2] w1 wr) (fun c _=>same.length - (intOf c).toNat)
  case atStart=>exact⟨0,Nat.zero_le _,rfl,by simpa using HV.out,HC.out⟩
  case round =>
   clear HV HC HCW hc;obtain⟨k,hk,rfl,hpv,hc⟩:=hrel;have HV:=lh hpv;have HC:=lh hc;have HCW:=lh (HC1.out.trans hc (fun j hj=>Or.inr (by simp at hj;omega)));by_cases hlt:k<same.length
   ·obtain⟨tb,toff,u,rfl,tcell,-,hrow⟩:=(HS.out.fresh HCW.out).aGG hlt
    obtain⟨a1,c1,a2,c2,-,p1⟩:=hpv.cells;have hTl:=HSR.out k;have HMS:=lh (show same.take (k+1)=same.take k++[same.getD k []] by rw[List.take_succ_eq_append_getElem hlt];simp[List.getD,hlt]);have hml:(same.take k).length<1000000000:=by simp;omega
    have HB:=lh (show w.heap.size+3≤wr.heap.size by have:=hc.size;have:=HSZ.out;omega);have HP0:=lh p1;obtain⟨T,hT⟩:∃ T,same.getD k []=T:=⟨_,rfl⟩;rw[hT] at hrow hTl HMS;have HROW:=lh hrow;obtain⟨uo,uc,rfl,-⟩:=hrow;obtain⟨L,hL⟩:∃ L,same.take k=L:=⟨_,rfl⟩;rw[hL] at HV HMS hml p1 HP0;clear hpv hc hT hL;go_wp2;have hS0:Chg [] wr wr.drew:=(Chg.refl [] wr).drew;refine aF (Chg [] wr) [0,1,2] (Way.line [0,1,2,3,4,5,6,7] .done) (by kernel_rfl) (by kernel_rfl) ?_;simp only[Way.line]
    repeat
     first
      | (refine aE rfl (by rfl) (by rfl) (fun _ _ _ h=>h) hS0 ?_;simp only[Act.put,Z1,Z2,Z3,Z4,Z5,Z6])
      | (refine aC (v:=?_) rfl (by rfl) (by rfl) (fun _ _ _ h=>h) hS0 (fun w' hS'=>?_) ?_;rotate_left;(focus (have rd0:=hS'.c p1;have rd1:=hS'.c tcell;clear hS';go_simp;try with_reducible rfl));simp only[Act.put,Z1,Z2,Z3,Z4,Z5,Z6])
      | (refine aD rfl (by rfl) (by rfl) hS0 ?_;simp only[Act.put,Z1,Z2,Z3,Z4,Z5,Z6])
    refine aI rfl (by rfl) (by rfl) (fun K hK=>?_);go_simp;refine (zS _ T _ (by omega) (HROW.out.fresh hS0)).mono ?_;rintro e w3 ⟨v',rfl,hrv,hcx⟩;have hS1:=hS0.t hcx;clear hS0 hcx;have hS0:=hS1;clear hS1;refine hK.out _ _ (fun _=>hS0) ?_;clear hK K
    try simp only[Act.put,Z1,Z2,Z3,Z4,Z5,Z6]
    obtain⟨vo,vc,rfl⟩:=hrv.shape;have HRV:=lh hrv;have HS3:=lh hS0;refine aI rfl (by rfl) (by rfl) (fun K hK=>?_);go_simp;refine hK.out _ _ (fun _=>hS0.alloc _) ?_;clear hK K hrv
    try simp only[Act.put,Z1,Z2,Z3,Z4,Z5,Z6]
    obtain⟨g5,q5,w5,hr5,hf5,⟨u5,hu5⟩,hv5,own5,hc5,ho5⟩:=(HV.out.fresh HS3.out).aIs (by have:=HS3.out.size;have:=HB.out;omega) HRV.out HB.out hml (Or.inl rfl) (HS3.out.c HP0.out) 30;have HV5:=lh hv5;have HC5:=lh hc5;have HO5:=lh ho5;clear hv5 hc5 ho5;refine aI rfl (by rfl) (by rfl) (fun K hK=>?_);simp only[List.getElem_toArray,List.getElem_cons_zero,List.getElem_cons_succ];refine sN (.tmp 31) (.tmp 34) 30 rfl rfl rfl hr5 ?_;refine hK.out _ _ (fun h=>absurd h (Bool.eq_false_iff.1 (by kernel_rfl))) ?_;clear hK K hr5
    try simp only[Act.put,List.setIfInBounds_toArray,List.set_cons_zero,List.set_cons_succ]
    refine aI rfl (by rfl) (by rfl) (fun K hK=>?_);go_simp;refine hK.out _ _ (fun h=>absurd h (Bool.eq_false_iff.1 (by kernel_rfl))) ?_;clear hK K
    try simp only[Act.put,Z1,Z2,Z3,Z4,Z5,Z6]
    refine aI rfl (by rfl) (by rfl) (fun K hK=>?_);go_simp;refine hK.out _ _ (fun h=>absurd h (Bool.eq_false_iff.1 (by kernel_rfl))) ?_;clear hK K hu5 hf5 p1 tcell hS0
    try simp only[Act.put,Z1,Z2,Z3,Z4,Z5,Z6]
    refine aG ?_;generalize (w5.setCell ⟨w.heap.size+2,1,none⟩ (.slice (some ⟨g5,0,none⟩) (L.length+1) q5))=w6 at *;have HC6:=lh (show Chg [w.heap.size+2] w1 w6 from HC.out.trans ((HS3.out.mono (by simp)).trans HC5.out (fun j hj=>Or.inl hj):Chg own5 wr w6) (fun j hj=>(HO5.out j hj).imp (fun e=>by simp[e]) (fun h=>by have:=HSZ.out;omega)));go_wp2
    go_roundw
    case rel=>exact⟨k+1,by omega,by go_num,by rw[HMS.out];exact HV5.out.up (Nat.le_refl _),HC6.out⟩
    case measure=>simp[intOf];omega
   have e:k=same.length:=by omega
   subst e;rw[List.take_length] at HV;obtain⟨a1,c1,a2,c2,p0,p1⟩:=HV.out.cells;have P0:=lh p0;have P1:=lh p1;have b2:=HC.out.heap B2.out (by simp);have HB2:=lh b2;have r0:=(cell_of_row _ _ 0 _ _ _ b2).trans (show _=some (Value.slice none 0 0) from rfl);have r1:=(cell_of_row _ _ 1 _ _ _ b2).trans (show _=some (Value.slice none 0 0) from rfl);have f0:=bM b2 0;have f1:=bM b2 1;have hset:Chg [w.heap.size+1] wr ((wr.setCell ⟨w.heap.size+1,0,none⟩ (.slice a1 TT.length c1)).setCell ⟨w.heap.size+1,1,none⟩ (.slice a2 same.length c2)):=((Chg.refl _ wr).setCell (Or.inl (by simp)) _).setCell (Or.inl (by simp)) _;have hheap:=heap_setCell_same (heap_setCell_same b2 0 (.slice a1 TT.length c1)) 1 (.slice a2 same.length c2);have HF0:=lh ((cell_of_row _ _ 0 _ _ _ hheap).trans (show _=some (Value.slice a1 TT.length c1) from rfl));have HF1:=lh ((cell_of_row _ _ 1 _ _ _ hheap).trans (show _=some (Value.slice a2 same.length c2) from rfl));have hkeep:=HV.out.keep hset (fun j hj=>by
    have e:j=w.heap.size+1:=by simpa using hj
    subst e;refine⟨by omega,fun cs u r hh=>?_⟩;rw[b2] at hh;simp at hh;obtain⟨-,rfl,-⟩:=hh;exact⟨by decide,by decide⟩)
   have e0:=hset.c p0;have e1:=hset.c p1;have HPL:=lh (fun own wx (hcx:Chg own _ wx) (hlow:∀ j∈own,j<w.heap.size)=>(hkeep.low hcx (fun j hj=>by have:=hlow j hj;omega)).aF8 (hcx.cell e0 (fun hm=>by have:w.heap.size+2<w.heap.size:=hlow _ hm;omega)) (hcx.cell e1 (fun hm=>by have:w.heap.size+2<w.heap.size:=hlow _ hm;omega)));have HCF:=lh (HCW.out.trans hset (fun j hj=>Or.inr (by simp at hj;omega)));clear hpv hc b2 hset hheap hkeep e0 e1;go_wp2;refine bodyPost_ret (v:=.agg #[.slice a1 TT.length c1,.slice a2 same.length c2]) (by have h0:=HF0.out;have h1:=HF1.out;simp[results,Tryz.results74,go_sem,h0,h1]) rfl ?_;exact⟨_,rfl,fun own wx h1 h2=>by rw[HTT.out];exact HPL.out own wx h1 h2,HCF.out⟩
noncomputable def aHE (g:aA.Gr) (p:aA.Pt) (R:List Int):List Cell:=pcs (aA.comp g p) (fun r=>(p.sub g (aA.comp g p r)).e) R
theorem aEG (g:aA.Gr) (p:aA.Pt) (R:List Int) (r:Int):aHE g p (R++[r])=aHE g p R++[.row (aA.comp g p r),.row (p.sub g (aA.comp g p r)).e]:=by simp[aHE,pcs]
theorem aGB {g:aA.Gr} {p:aA.Pt} {v:Int} {M:List Int} (hp:aA.bB g p) (hM:∀ u,u∈M↔aA.dT g p (-1) v u):(p.sub g M).v=aA.comp g p v∧(p.sub g M).e=(p.sub g (aA.comp g p v)).e:=by
 have e:∀ u∈p.v,decide (u∈M)=decide (u∈aA.comp g p v):=fun u hu=>by
  have:u∈M↔u∈aA.comp g p v:=by rw[hM u,aA.bZ];exact⟨fun h=>⟨hu,h⟩,fun h=>h.2⟩
  simp only[this]
 refine⟨?_,List.filter_congr fun x hx=>?_⟩
 ·show p.v.filter (fun u=>decide (u∈M))=aA.comp g p v
  unfold aA.comp;refine List.filter_congr fun u hu=>?_;exact decide_eq_decide.2 (hM u)
 have:=hp.ends x hx;rw[e _ this.1,e _ this.2]
set_option maxRecDepth 100000 in
set_option maxHeartbeats 4000000 in
theorem pH (vg vp:Value) (g:aA.Gr) (p:aA.Pt) (w:World) (hV:p.v.length≤1000) (hE:p.e.length≤1000000) (hr:p.err g=0) (hg:dW w vg g) (hp:gC w vp p) :
  Calls Tryz.prog 53 #[vg,vp] w fun e w'=>∃ ov xs,e=.returned ov∧dL w' w.heap.size 29 2 ov (aA.roots g p).length xs (pcs (aA.comp g p) (fun r=>(p.sub g (aA.comp g p r)).e) (aA.roots g p))∧Chg [] w w':=by
 have HR:=lh hr;have HPK:=lh (aA.Pt.aQ hr);have HVR:=lh (aA.cI (aA.Pt.aV hr).2.1);have HGN:=lh (aA.Gr.aV (aA.Pt.aV hr).1);have HG:=lh hg;have HP:=lh hp;obtain⟨eo,cap,rfl,hn,hm,hsm,hcell⟩:=hg;obtain⟨v1,v2,rfl,hv,he⟩:=hp;obtain⟨ao,ac,rfl,has,ham,hacell⟩:=hv;obtain⟨bo,bc,rfl,hbs,hbm,hbcell⟩:=he;have HAC:=lh hacell;obtain⟨-,-,hc1⟩:=cK w #[.int .i64 g.n,.slice eo g.e.length cap] #[.slice ao p.v.length ac,.slice bo p.e.length bc] 24 29;have HC1:=lh hc1;have HBXS:=lh (fun w2 h=>iW w (g:=g) (p:=p) (eo:=eo) (ao:=ao) (bo:=bo) (cap:=cap) (ac:=ac) (bc:=bc) (w2:=w2) h);clear hcell hacell hbcell hsm hbs hn hc1;obtain⟨x0,x1,y0,y1,hsz⟩:=HBXS.out _ (Chg.refl _ _)
 go_enter Tryz.func53,Tryz.ntmps53
 go_wp2;obtain⟨w1,hw1⟩:∃ w1,((w.alloc (.cells #[.int .i64 g.n,.slice eo g.e.length cap] 24)).alloc (.cells #[.slice ao p.v.length ac,.slice bo p.e.length bc] 29))=w1:=⟨_,rfl⟩;rw[hw1] at HC1 HBXS ⊢;clear hw1 x0 x1 y0 y1 hsz
 go_loopw [5,6,7] (fun ov av c wr=>∃ (k:Nat) (A:List Int) (xs:List Value),k≤p.v.length∧c=.int .i64 k∧dL wr w1.heap.size 29 2 ov (aA.bF g p k).length xs (aHE g p (aA.bF g p k))∧aM wr w1.heap.size av A∧(∀ k b,k<xs.length→(xs.getD k undef).ownBlock=some b→b ∉ aP av)∧A.length≤k*1000∧Hid (aA.mX g p k A)∧Chg [] w1 wr) (fun _ _ c _=>p.v.length - (intOf c).toNat)
 case atStart=>exact⟨0,[],[],Nat.zero_le _,rfl,by rw[aA.kV];exact dL.nil _ _ _ _,aAA _ _,by simp,by simp,lh (aA.mX.start g p),Chg.refl _ _⟩
 case round =>
  obtain⟨k,A,xs,hk,rfl,hown,hrow,hapx,hal,hmet,hc⟩:=hrel;have HAPX:=lh hapx;have HOWN:=lh hown;have HROW:=lh hrow;have HC:=lh hc;obtain⟨oo,oc,rfl⟩:=hown.shape;obtain⟨mo,mc,rfl⟩:=hrow.shape;obtain⟨x0,x1,y0,y1,hsz⟩:=HBXS.out wr hc;by_cases hlt:k<p.v.length
  ·obtain⟨vb,voff,rfl,hvc⟩:=HAC.out (by intro e;rw[e] at hlt;simp at hlt)
   have ck:=hc.c (HC1.out.c (hvc k hlt));have IV:=has (p.v.getD k 0) (aA.aZ hlt);have HVM:=lh (aA.aZ hlt);have HSK:=lh (fun h=>aA.mX.skip HPK.out hmet.out hlt h);have HAD:=lh (fun h M hM=>aA.mX.add (M:=M) HPK.out HVR.out hmet.out hlt h hM);have HR0:=lh (fun h=>aA.mQ hlt (aA.mX.known HPK.out hmet.out hlt h));have HR1:=lh (show p.v.getD k 0 ∉ A→aA.bF g p (k+1)=aA.bF g p k++[p.v.getD k 0] from fun h=>aA.mV hlt (aA.mX.root HPK.out HVR.out hmet.out hlt h));have hrl:=aA.dY g p k;obtain⟨v,hve⟩:∃ v,p.v.getD k 0=v:=⟨_,rfl⟩;rw[hve] at ck IV HVM HSK HAD HR0 HR1;obtain⟨rn,hrn⟩:∃ rn,(aA.bF g p k).length=rn:=⟨_,rfl⟩;have HRN:=lh hrn;obtain⟨RT,hRT⟩:∃ RT,aA.bF g p k=RT:=⟨_,rfl⟩;have HRT:=lh hRT;rw[hrn] at hrl;rw[hrn] at hown HOWN ⊢;rw[hRT] at hown HOWN HR1 hrn;have HRNT:=lh hrn;clear hRT;have HVC:=lh (show ∀ wx,Chg [] w1 wx→wx.cell? ⟨vb,voff+k,none⟩=some (.int .i64 v) from fun wx hx=>by rw[←hve];exact hx.c (HC1.out.c (hvc k hlt)));clear hve hrn hown hrow hmet hc hvc hapx
   go_wp2_with fail
   refine (gD _ A v _ HROW.out.ints).mono ?_;rintro e w2 ⟨rfl,hc2⟩;have HC2:=lh (HC.out.t hc2);have HOWN2:=lh (HOWN.out.fresh hc2);have HROW2:=lh (HROW.out.chg hc2 (by simp));clear x0 x1 y0 y1 hsz hc2 ck;obtain⟨x0,x1,y0,y1,hsz⟩:=HBXS.out w2 HC2.out;have ck:=HVC.out w2 HC2.out;by_cases hin:v∈A
   ·have HM:=lh (HSK.out hin)
    have HE:=lh (HR0.out hin);rw[decide_eq_true hin];clear hin;go_wp2
    go_roundw
    case rel=>exact⟨k+1,A,xs,by omega,by go_num,by rw[HE.out,HRN.out,HRT.out];exact HOWN2.out,HROW2.out,HAPX.out,by omega,HM,HC2.out⟩
    case measure=>simp[intOf];omega
   have HE:=lh (HR1.out hin);have HM:=lh (HAD.out hin);rw[decide_eq_false hin];clear hin;go_wp2;have hS0:(fun w':World=>w'.cell? ⟨w.heap.size,0,none⟩=some (.int .i64 g.n)∧w'.cell? ⟨w.heap.size,1,none⟩=some (.slice eo g.e.length cap)∧w'.cell? ⟨w.heap.size+1,0,none⟩=some (.slice (some ⟨vb,voff,none⟩) p.v.length ac)∧w'.cell? ⟨w.heap.size+1,1,none⟩=some (.slice bo p.e.length bc)∧w'.cell? ⟨vb,voff+k,none⟩=some (.int .i64 v)) w2.drew:=⟨x0,x1,y0,y1,ck⟩;refine aF (fun w':World=>w'.cell? ⟨w.heap.size,0,none⟩=some (.int .i64 g.n)∧w'.cell? ⟨w.heap.size,1,none⟩=some (.slice eo g.e.length cap)∧w'.cell? ⟨w.heap.size+1,0,none⟩=some (.slice (some ⟨vb,voff,none⟩) p.v.length ac)∧w'.cell? ⟨w.heap.size+1,1,none⟩=some (.slice bo p.e.length bc)∧w'.cell? ⟨vb,voff+k,none⟩=some (.int .i64 v)) [0,1,2,3,4,5,6] (Way.line [0,1,2,3,4,5,6,7,8,9] .done) (by kernel_rfl) (by kernel_rfl) ?_;simp only[Way.line]
   repeat
    first
     | (refine aE rfl (by rfl) (by rfl) (fun _ _ _ h=>h) hS0 ?_;simp only[Act.put,Z1,Z2,Z3,Z4,Z5,Z6])
     | (refine aC (v:=?_) rfl (by rfl) (by rfl) (fun _ _ _ h=>h) hS0 (fun w' hS'=>?_) ?_;rotate_left;(focus ((try dsimp only at hS');go_simp;try with_reducible rfl));simp only[Act.put,Z1,Z2,Z3,Z4,Z5,Z6])
     | (refine aD rfl (by rfl) (by rfl) hS0 ?_;simp only[Act.put,Z1,Z2,Z3,Z4,Z5,Z6])
   refine aI rfl (by rfl) (by rfl) (fun K hK=>?_);go_simp;have hSC:=((Chg.refl [] w2).alloc (.cells #[.int .i64 v] 3)).drew;have HLI:=lh ((dH w2 IV).fresh (Chg.refl [] _).drew);have HCD:=lh (HC2.out.t hSC);have HOWN3:=lh (HOWN2.out.fresh hSC);have HROW3:=lh (HROW2.out.chg hSC (by simp));have hS1:(fun w':World=>w'.cell? ⟨w.heap.size,0,none⟩=some (.int .i64 g.n)∧w'.cell? ⟨w.heap.size,1,none⟩=some (.slice eo g.e.length cap)∧w'.cell? ⟨w.heap.size+1,0,none⟩=some (.slice (some ⟨vb,voff,none⟩) p.v.length ac)∧w'.cell? ⟨w.heap.size+1,1,none⟩=some (.slice bo p.e.length bc)∧w'.cell? ⟨vb,voff+k,none⟩=some (.int .i64 v)) (w2.alloc (.cells #[.int .i64 v] 3)).drew:=⟨hSC.c x0,hSC.c x1,hSC.c y0,hSC.c y1,hSC.c ck⟩;refine hK.out _ _ (fun _=>hS1) ?_;clear hK K hS0 hSC x0 x1 y0 y1 ck hsz;generalize (w2.alloc (.cells #[.int .i64 v] 3)).drew=wa at *;generalize w2.heap.size=nl at *
   try simp only[Act.put,Z1,Z2,Z3,Z4,Z5,Z6]
   refine aI rfl (by rfl) (by rfl) (fun K hK=>?_);go_simp;refine (aDj _ _ _ g p v (-1) _ (by omega) hE HR.out HVM.out (HG.out.fresh (HC1.out.t HCD.out)) (HP.out.fresh (HC1.out.t HCD.out)) HLI.out).mono ?_;rintro e w3 ⟨v3,M,rfl,rM,hM,hMn,hc3⟩;obtain⟨uo,uc,rfl⟩:=rM.shape;have hml:M.length≤1000:=Nat.le_trans (aA.vX hMn fun x hx=>aBH HPK.out HVM.out ((hM x).1 hx)) hV;have HMI:=lh rM.ints;have HRM:=lh (rM.base (Nat.zero_le _));have HRA:=lh (show ∀ b∈(Value.slice uo M.length uc).ownBlock.toList,b ∉ aP (Value.slice mo A.length mc) from fun b hb e=>by
    have h1:=(rM.low b hb).1;have h2:=(HROW3.out.low b (by simpa[gL] using e)).2;omega)
   have HMM:=lh (HM.out M hM);have HMC:=lh hM;have HC3:=lh (HCD.out.t hc3);have HOWN4:=lh (HOWN3.out.fresh hc3);have HROW4:=lh (HROW3.out.chg hc3 (by simp));have hS2:(fun w':World=>w'.cell? ⟨w.heap.size,0,none⟩=some (.int .i64 g.n)∧w'.cell? ⟨w.heap.size,1,none⟩=some (.slice eo g.e.length cap)∧w'.cell? ⟨w.heap.size+1,0,none⟩=some (.slice (some ⟨vb,voff,none⟩) p.v.length ac)∧w'.cell? ⟨w.heap.size+1,1,none⟩=some (.slice bo p.e.length bc)∧w'.cell? ⟨vb,voff+k,none⟩=some (.int .i64 v)) w3:=by
    obtain⟨q0,q1,q2,q3,q4⟩:=hS1;exact⟨hc3.c q0,hc3.c q1,hc3.c q2,hc3.c q3,hc3.c q4⟩
   refine hK.out _ _ (fun _=>hS2) ?_;clear hK K hS1 rM hM hMn hc3
   try simp only[Act.put,Z1,Z2,Z3,Z4,Z5,Z6]
   refine aI rfl (by rfl) (by rfl) (fun K hK=>?_);go_simp;refine hK.out _ _ (fun _=>hS2) ?_;clear hK K hS2
   try simp only[Act.put,Z1,Z2,Z3,Z4,Z5,Z6]
   refine aG ?_;have HB3:=lh (show w1.heap.size≤w3.heap.size from HC3.out.size);have hsum:A.length+M.length<4294967296:=by omega
   have HNR:=lh (fun b (hb:(Value.slice oo rn oc).ownBlock=some b) (e:b∈aP (Value.slice mo A.length mc))=>show False by
    rcases eE HOWN4.out.out HROW4.out.1 (by decide) with q | q
    ·rw[q] at hb;cases hb
    exact q (hb.trans (by simpa[gL] using e:(Value.slice mo A.length mc).ownBlock=some b).symm))
   have HFL:=lh (show ∀ j∈aP (Value.slice mo A.length mc),w1.heap.size≤j from fun j hj=>(HROW4.out.low j (by simpa[gL] using hj)).1)
   go_wp2_with (first
    | (at_builtin;refine bP rfl _ _ rfl (B:=w1.heap.size) rfl rfl HROW4.out HMI.out HB3.out hsum ?_;intro v6 w6 r6 c6 f6;have R6:=lh r6;have HC6:=lh (HC3.out.trans c6 (fun j hj=>Or.inr (HFL.out j hj)));have HOWN6:=lh (HOWN4.out.chg c6 (fun b hb e=>HNR.out b hb e) (fun k b hk hb=>HAPX.out k b hk hb));have F6:=lh f6;have HLT4:=lh (fun k b (hk:k<xs.length) (hb:(xs.getD k undef).ownBlock=some b)=>(HOWN4.out.kind hk hb).2.1);have HMI6:=lh (HRM.out.chg c6 HRA.out).ints;obtain⟨x0,x1,y0,y1,hsz⟩:=HBXS.out w6 HC6.out;clear r6 c6 f6)
    | fail)
   refine (aHN _ _ _ g p M _ (by omega) hE HR.out (HG.out.fresh (HC1.out.t HC6.out)) (HP.out.fresh (HC1.out.t HC6.out)) HMI6.out).mono ?_;rintro e w8 ⟨s1,s2,rfl,q1,q2,q3,hc8⟩;obtain⟨s1o,s1c,rfl⟩:=q1.shape;obtain⟨s2o,s2c,rfl⟩:=q2.shape;have HC8:=lh (HC6.out.t hc8);have HOWN8:=lh (HOWN6.out.fresh hc8);have Q1:=lh q1;have Q2:=lh q2;have Q3:=lh q3;have HS6:=lh (show w1.heap.size≤w6.heap.size from HC6.out.size);have HROW8:=lh (R6.out.chg hc8 (by simp));have HB8:=lh (show w1.heap.size≤w8.heap.size from HC8.out.size);obtain⟨v6o,v6c,rfl⟩:=R6.out.shape;have HN8:=lh (show ∀ b∈(Value.slice v6o (A++M).length v6c).ownBlock.toList,b ∉ (Value.slice oo rn oc).ownBlock.toList from fun b hb e=>by
    rcases eE HOWN8.out.out HROW8.out.1 (by decide) with q | q
    ·rw[q] at e;simp at e
    exact q ((by simpa using e:(Value.slice oo rn oc).ownBlock=some b).trans (by simpa using hb:(Value.slice v6o (A++M).length v6c).ownBlock=some b).symm))
   have hrn:rn<68719476736:=by omega
   clear q1 q2 q3 hc8 x0 x1 y0 y1 hsz
   go_wp2_with (at_builtin;refine qZ aBt rfl (.tmp 35) (.tmp 40) rfl (v:=.slice oo rn oc) rfl rfl rfl HOWN8.out.out HB8.out rfl (by intro u hu;simp at hu;rcases hu with rfl | rfl <;> rfl) hrn ?_;intro g9 cap9 w9 r9 c9 l9;have R9:=lh r9;have C9:=lh c9;clear r9 c9 l9;go_frame)
   have HPV:=lh (show (p.sub g M).v=aA.comp g p v∧(p.sub g M).e=(p.sub g (aA.comp g p v)).e from aGB HPK.out HMC.out);have HNW:=lh (HOWN8.out.add (w':=w9) (g:=g9) (cap:=cap9) (us:=[.slice s1o (p.sub g M).v.length s1c,.slice s2o (p.sub g M).e.length s2c]) (ds:=[.row (p.sub g M).v,.row (p.sub g M).e]) (by decide) rfl rfl (fun i d hi=>by
     rcases i with _ | _ | i
     ·simp at hi;subst hi;exact Q1.out.base HS6.out
     ·simp at hi;subst hi;exact Q2.out.base HS6.out
     ·simp at hi) (fun i j hi hj hne=>by
     simp at hi hj;have hap:=Q3.out;rw[Q1.out.aP,Q2.out.aP] at hap;rcases i with _ | _ | i
     ·rcases j with _ | _ | j
      ·omega
      ·cases hq:([Value.slice s1o (p.sub g M).v.length s1c,.slice s2o (p.sub g M).e.length s2c].getD 0 undef).ownBlock with
       | none=>exact Or.inl rfl
       | some b=>exact Or.inr (fun e=>hap b (by simpa using hq) (by simpa using e.symm))
      omega
     ·rcases j with _ | _ | j
      ·cases hq:([Value.slice s1o (p.sub g M).v.length s1c,.slice s2o (p.sub g M).e.length s2c].getD 1 undef).ownBlock with
       | none=>exact Or.inl rfl
       | some b=>exact Or.inr (fun e=>hap b (by simpa using e.symm) (by simpa using hq))
      ·omega
      omega
     ·omega) (fun i j b hi hj hb e=>by
     simp at hj;have h1:=(HOWN6.out.kind hi hb).2.1;rcases j with _ | _ | j
     ·have:=(Q1.out.low b (by simpa using e)).1;omega
     ·have:=(Q2.out.low b (by simpa using e)).1;omega
     omega) R9.out C9.out)
   go_roundw
   case rel =>
    refine⟨k+1,A++M,xs++[.slice s1o (p.sub g M).v.length s1c,.slice s2o (p.sub g M).e.length s2c],by omega,by go_num,?_,by simpa only[List.length_append] using HROW8.out.chg C9.out HN8.out,?_,by rw[List.length_append];omega,HMM,HC8.out.trans C9.out (fun j hj=>Or.inr (HOWN8.out.out.lt j (by simpa using hj)).1)⟩
    ·rw[HE.out,List.length_append,HRNT.out,aEG,←HPV.out.2,←HPV.out.1]
     exact HNW.out
    intro i b hi hb e;rw[←List.length_append] at e;have h6:=F6.out b e;have hl6:b<w6.heap.size:=(R6.out.low b (by rw[←R6.out.aP];exact e)).2;by_cases q:i<xs.length
    ·rw[jN q] at hb
     rcases h6 with r | r
     ·exact HAPX.out i b q hb r
     have:=HLT4.out i b q hb;omega
    rw[iP (by omega)] at hb;have hi2:i - xs.length<2:=by simp at hi;omega
    rcases (show i - xs.length=0∨i - xs.length=1 by omega) with r | r
    ·rw[r] at hb
     have:=(Q1.out.low b (by simpa using hb)).1;omega
    rw[r] at hb;have:=(Q2.out.low b (by simpa using hb)).1;omega
   case measure=>simp[intOf];omega
  have e:k=p.v.length:=by omega
  subst e;rw[aA.eL] at HOWN hown ⊢;have HCF:=lh (HC1.out.t HC.out);clear hown hrow hmet hc x0 x1 hapx;obtain⟨rn,hrn⟩:∃ rn,(aA.roots g p).length=rn:=⟨_,rfl⟩;have HRN:=lh hrn;have HNF:=lh (HOWN.out.base HC1.out.size);rw[hrn] at HNF ⊢;clear hrn;go_wp2;go_ret;exact⟨_,xs,rfl,by rw[HRN.out];exact HNF.out,HCF.out⟩
end Go.Proofs.YtkacjmoamgjfpaaGreat
