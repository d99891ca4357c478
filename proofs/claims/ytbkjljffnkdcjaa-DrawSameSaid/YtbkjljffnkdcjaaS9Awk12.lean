/- law 12's awake: contracts: full, awake. No condition. -/
import Derived.Test.YtbkjljffnkdcjaaS9TurnsW
namespace Go.Proofs.Ytbkjljffnkdcjaa
open Go.RowKit Go.Maps
theorem elemEdge:Elem 22 37 (.agg #[.int .i64 0,.int .i64 0]) 2 16:=⟨Try.underlying22,by kernel_rfl,rfl,by decide,by decide⟩
def edgeCells:List (Int × Int)→List Value
 | []=>[]
 | x :: l=>.int .i64 x.1 :: .int .i64 x.2 :: edgeCells l
theorem edgeCells_get:∀ {l:List (Int × Int)} {i:Nat},i<l.length→(edgeCells l)[i*2]?=some (.int .i64 (l.getD i (0,0)).1)∧(edgeCells l)[i*2+1]?=some (.int .i64 (l.getD i (0,0)).2)
 | [],i,h=>by simp at h
 | x :: l,0,_=>⟨rfl,rfl⟩
 | x :: l,i+1,h=>by
  have ih:=edgeCells_get (l:=l) (i:=i) (by simpa using h)
  rw[show (i+1)*2=i*2+1+1 by omega]
  refine⟨?_,?_⟩
  ·show (edgeCells l)[i*2]?=_
   rw[ih.1];rfl
  show (edgeCells l)[i*2+1]?=_
  rw[ih.2];rfl
theorem edgeCells_snoc (l:List (Int × Int)) (x:Int × Int):edgeCells (l++[x])=edgeCells l++[.int .i64 x.1,.int .i64 x.2]:=by
 induction l with
 | nil=>rfl
 | cons y l ih=>show _ :: _ :: edgeCells (l++[x])=_;rw[ih];rfl
theorem grAt_row {w:World} {B:Nat} {v:Value} {g:Plain.Gr} (hn:I64 g.n) (hs:∀ i,i<g.e.length→I64 (g.ends i).1∧I64 (g.ends i).2) (hl:g.e.length≤100000) (h:w.ownsRow B 37 2 v g.e.length (edgeCells g.e)):GrAt w (.agg #[.int .i64 g.n,v]) g:=by
 rcases h.2 with ⟨rfl,h0⟩ | ⟨b,cap,cur,rfl,hb,hh,hnc,hcm,hcs,hys⟩
 ·exact⟨none,0,by rw[h0],hn,by omega,hs,fun i hi=>by omega⟩
 refine⟨_,cap,rfl,hn,by omega,hs,fun i hi=>⟨b,0,rfl,?_,?_⟩⟩
 ·rw[Nat.zero_add,cell_of_row w _ (i*2) cur 37 (0,0) hh]
  have q:=(edgeCells_get hi).1
  rw[←hys,List.getElem?_take,if_pos (by omega)] at q
  simpa[Plain.Gr.ends] using q
 rw[Nat.zero_add,cell_of_row w _ (i*2+1) cur 37 (0,0) hh]
 have q:=(edgeCells_get hi).2
 rw[←hys,List.getElem?_take,if_pos (by omega)] at q
 simpa[Plain.Gr.ends] using q
def pairsK (a b:Nat):List (Int × Int):=((List.range a).flatMap fun i=>(List.range (4 - i)).map fun k=>((i:Int),((i+1+k:Nat):Int)))++(List.range (b - (a+1))).map fun k=>((a:Int),((a+1+k:Nat):Int))
theorem pairsK_next:∀ a:Nat,a<5→∀ b:Nat,b<5→a<b→pairsK a (b+1)=pairsK a b++[((a:Int),(b:Int))]:=by decide
theorem pairsK_row:∀ a:Nat,a<5→pairsK a 5=pairsK (a+1) (a+2):=by decide
theorem pairsK_len:∀ a:Nat,a<6→∀ b:Nat,b<8→(pairsK a b).length≤30:=by decide
theorem gr_two {w:World} {b:Nat} (h:w.heap[b]?=some (.cells #[.int .i64 0,.int .i64 1,.int .i64 0,.int .i64 1] 37 (0,0))):GrAt w (.agg #[.int .i64 2,.slice (some ⟨b,0,none⟩) 2 2]) Plain.gW :=
 grAt_row (g:=Plain.gW) (B:=0) (I64.mk (by decide) (by decide)) (fun i hi=>by
  rcases (show i=0∨i=1 by have:i<2:=hi;omega) with rfl | rfl <;> exact⟨I64.mk (by decide) (by decide),I64.mk (by decide) (by decide)⟩) (by decide) ⟨rfl,Or.inr ⟨b,2,_,rfl,Nat.zero_le _,h,Nat.le_refl _,by decide,rfl,rfl⟩⟩
theorem tW_at (w:World):RowsAt (((w.alloc (.cells #[.int .i64 0,.int .i64 2] 3)).alloc (.cells #[.int .i64 1,.int .i64 3] 3)).alloc (.cells #[.slice (some ⟨w.heap.size,0,none⟩) 2 2,.slice (some ⟨w.heap.size+1,0,none⟩) 2 2] 25)) (.slice (some ⟨w.heap.size+1+1,0,none⟩) 2 2) Plain.tW:=by
 have hs1:(w.alloc (.cells #[.int .i64 0,.int .i64 2] 3)).heap.size=w.heap.size+1:=by simp
 have hs2:((w.alloc (.cells #[.int .i64 0,.int .i64 2] 3)).alloc (.cells #[.int .i64 1,.int .i64 3] 3)).heap.size=w.heap.size+1+1:=by simp
 have l0:=lit_two w (x:=0) (y:=2) (I64.mk (by decide) (by decide)) (I64.mk (by decide) (by decide))
 have l1:=lit_two (w.alloc (.cells #[.int .i64 0,.int .i64 2] 3)) (x:=1) (y:=3) (I64.mk (by decide) (by decide)) (I64.mk (by decide) (by decide))
 rw[hs1] at l1
 have hb:=heap_alloc_new ((w.alloc (.cells #[.int .i64 0,.int .i64 2] 3)).alloc (.cells #[.int .i64 1,.int .i64 3] 3)) (.cells #[.slice (some ⟨w.heap.size,0,none⟩) 2 2,.slice (some ⟨w.heap.size+1,0,none⟩) 2 2] 25)
 rw[hs2] at hb
 have hc:=(Chg.refl [] ((w.alloc (.cells #[.int .i64 0,.int .i64 2] 3)).alloc (.cells #[.int .i64 1,.int .i64 3] 3))).alloc (.cells #[.slice (some ⟨w.heap.size,0,none⟩) 2 2,.slice (some ⟨w.heap.size+1,0,none⟩) 2 2] 25)
 have hc0:=((Chg.refl [] (w.alloc (.cells #[.int .i64 0,.int .i64 2] 3))).alloc (.cells #[.int .i64 1,.int .i64 3] 3)).trans hc (by simp)
 refine⟨_,2,rfl,by decide,fun i hi=>?_⟩
 rcases (show i=0∨i=1 by have:i<2:=hi;omega) with rfl | rfl
 ·exact⟨_,0,_,rfl,(cell_of_row _ _ 0 _ _ _ hb).trans rfl,⟨_,2,2,rfl,Nat.le_refl _,by decide⟩,l0.fresh hc0⟩
 exact⟨_,0,_,rfl,(cell_of_row _ _ 1 _ _ _ hb).trans rfl,⟨_,2,2,rfl,Nat.le_refl _,by decide⟩,l1.fresh hc⟩
namespace Plain
theorem blockW {err:Int} {t:List (List Int)} (h:BlockR gW pW err t):err=0∧t=tW:=by
 rcases h with ⟨h,-⟩ | ⟨-,h,-⟩ | ⟨-,-,⟨h,-⟩,-⟩ | ⟨-,-,h,turn,F,-,hF,ht⟩
 ·exact absurd errW h
 ·exact absurd solidW h
 ·exact absurd h (by decide)
 exact⟨h,by rw[ht];exact two_turns hF.to_⟩
theorem blockK {err:Int} {t:List (List Int)} (h:BlockR gK pK err t):err=8:=by
 rcases h with ⟨h,-⟩ | ⟨-,h,-⟩ | ⟨-,-,-,h,-⟩ | ⟨-,-,-,turn,F,-,hF,-⟩
 ·exact absurd errK h
 ·exact absurd solidK h
 ·exact h
 exact absurd hF five_not
end Plain
set_option maxRecDepth 100000 in
set_option maxHeartbeats 4000000 in
theorem full_any (w:World):Calls Try.prog 9 #[] w fun e w'=>∃ v,e=.returned v∧GrAt w' v Plain.gK∧Chg [] w w':=by
 have HXC:=lh (show Chg [] w ((w.alloc (.cells #[.int .i64 0,.slice none 0 0] 24)).alloc (.cells #[.int .i64 5,.slice none 0 0] 24)) from (show Chg [] w ((w.alloc (.cells #[.int .i64 0,.slice none 0 0] 24)).alloc (.cells #[.int .i64 5,.slice none 0 0] 24)) from (((Chg.refl [] w).alloc _).alloc _)))
 have qbx0:=heap_alloc_new w (.cells #[.int .i64 0,.slice none 0 0] 24)
 replace qbx0:=(show Chg [] (w.alloc (.cells #[.int .i64 0,.slice none 0 0] 24)) ((w.alloc (.cells #[.int .i64 0,.slice none 0 0] 24)).alloc (.cells #[.int .i64 5,.slice none 0 0] 24)) from ((Chg.refl [] (w.alloc (.cells #[.int .i64 0,.slice none 0 0] 24))).alloc _)).heap qbx0 (by simp)
 have qbx1:=heap_alloc_new (w.alloc (.cells #[.int .i64 0,.slice none 0 0] 24)) (.cells #[.int .i64 5,.slice none 0 0] 24)
 rw[show (w.alloc (.cells #[.int .i64 0,.slice none 0 0] 24)).heap.size=w.heap.size+1 by simp] at qbx1
 have HX:=lh (fun (w2:World) (hbx:Chg [] ((w.alloc (.cells #[.int .i64 0,.slice none 0 0] 24)).alloc (.cells #[.int .i64 5,.slice none 0 0] 24)) w2)=>(⟨hbx.heap qbx0 (by simp),hbx.heap qbx1 (by simp),by have hz:=hbx.size;simpa using hz⟩:w2.heap[w.heap.size]?=some (.cells #[.int .i64 0,.slice none 0 0] 24 (0,0))∧w2.heap[w.heap.size+1]?=some (.cells #[.int .i64 5,.slice none 0 0] 24 (0,0))∧w.heap.size+2≤w2.heap.size))
 clear qbx0 qbx1
 have HXZ:=lh (show ((w.alloc (.cells #[.int .i64 0,.slice none 0 0] 24)).alloc (.cells #[.int .i64 5,.slice none 0 0] 24)).heap.size=w.heap.size+2 by simp)
 obtain⟨ra,rb,hsz⟩:=HX.out _ (Chg.refl _ _)
 go_enter Try.func9,Try.ntmps9
 go_wp2_with fail
 generalize ((w.alloc (.cells #[.int .i64 0,.slice none 0 0] 24)).alloc (.cells #[.int .i64 5,.slice none 0 0] 24))=w1 at *
 obtain⟨ab,hab⟩:∃ n,w.heap.size=n:=⟨_,rfl⟩
 rw[hab] at ra rb hsz ⊢
 have RA:=lh ra
 have RB:=lh rb
 have HAB:=lh hab
 clear hab ra rb
 go_loopw [2,3] (fun c _ wr=>∃ a:Nat,a≤5∧c=.int .i64 a∧∃ v,wr.heap[ab+1]?=some (.cells #[.int .i64 5,v] 24 (0,0))∧wr.ownsRow w1.heap.size 37 2 v (pairsK a (a+1)).length (edgeCells (pairsK a (a+1)))∧Chg [ab+1] w1 wr) (fun c _ _=>5 - (intOf c).toNat)
 case atStart=>exact⟨0,by omega,rfl,_,RB.out,World.ownsRow_nil _ _ _ _,Chg.refl _ _⟩
 case round =>
  obtain⟨a,ha,rfl,v,hh,ho,hc⟩:=hrel
  have HH:=lh hh
  have HO:=lh ho
  have HC:=lh hc
  clear hh ho hc
  by_cases hlt:a<5
  ·have hai:(a:Int)<5:=by omega
   go_wp2_with fail
   go_loopw [3] (fun c wr=>∃ b:Nat,a<b∧b≤5∧c=.int .i64 b∧∃ v,wr.heap[ab+1]?=some (.cells #[.int .i64 5,v] 24 (0,0))∧wr.ownsRow w1.heap.size 37 2 v (pairsK a b).length (edgeCells (pairsK a b))∧Chg [ab+1] w1 wr) (fun c _=>5 - (intOf c).toNat)
   case atStart=>exact⟨a+1,by omega,by omega,by go_num,v,HH.out,HO.out,HC.out⟩
   case round =>
    obtain⟨b,hb1,hb2,rfl,v2,hh,ho,hc⟩:=hrel
    have HH2:=lh hh
    have HO2:=lh ho
    have HC2:=lh hc
    clear HH HO HC
    by_cases hbl:b<5
    ·have hbi:(b:Int)<5:=by omega
     have c1:=(cell_of_row _ _ 1 _ _ _ hh).trans (show _=some v2 from rfl)
     have HLN:=lh (pairsK_len a (by omega) b (by omega))
     have HNX:=lh (pairsK_next a hlt b hbl hb1)
     have HB1:=lh hc.size
     obtain⟨ao,cp,rfl⟩:=owns_shape ho
     have HNB:=lh (show ab+1 ∉ (Value.slice ao (pairsK a b).length cp).ownBlock.toList from fun q=>by
      have h1:=(ho.lt (ab+1) (by simpa using q)).1
      omega)
     obtain⟨L,hL⟩:∃ L,pairsK a b=L:=⟨_,rfl⟩
     rw[hL] at HLN HNX HNB HO2 c1 HH2
     have hll:L.length≤30:=HLN.out
     have hf1:=free_at HH2.out 1
     clear hh ho hc hL
     go_wp2_with (at_builtin;refine wp_app elemEdge rfl _ _ rfl (v:=.slice ao L.length cp) (B:=w1.heap.size) (cs:=#[.int .i64 a,.int .i64 b]) rfl rfl rfl HO2.out HB1.out rfl (by intro u hu;simp at hu;rcases hu with rfl | rfl <;> rfl) (by omega) ?_;intro g' cap' w' r1 r2 r3;have R1:=lh r1;have R2:=lh r2;have c1':=r2.cell c1 HNB.out;have f1':=free_at (r2.heap HH2.out HNB.out) 1;clear r1 r2 r3)
     have hh3:=R2.out.heap HH2.out HNB.out
     have hrow:=R1.out
     have hk:KindAt w' (ab+1) 24:=⟨_,_,hh3⟩
     have hgk:=own_kind hrow (b:=g') rfl
     have hset:Chg [ab+1] w' (w'.setCell ⟨ab+1,1,none⟩ (.slice (some ⟨g',0,none⟩) (L.length+1) cap')):=(Chg.refl _ _).setCell (Or.inl (by simp)) _
     refine⟨⟨b+1,by omega,by omega,by go_num,_,heap_setCell_same hh3 1 _,?_,?_⟩,by simp[intOf];omega⟩
     ·rw[HNX.out,edgeCells_snoc,List.length_append]
      exact owns_chg hrow hset (fun j hj=>by
       have e:g'=j:=by simpa[Value.ownBlock] using hj
       rw[List.mem_singleton,←e]
       exact hgk.ne hk (by decide))
     exact (HC2.out.trans R2.out (fun j hj=>Or.inr (HO2.out.lt j (by simpa using hj)).1)).trans hset (fun j hj=>Or.inl hj)
    have e:b=5:=by omega
    subst e
    have HROW:=lh (pairsK_row a hlt)
    rw[HROW.out] at HO2
    clear hbl
    go_wp2_with fail
    exact⟨⟨a+1,by omega,by go_num,v2,HH2.out,HO2.out,HC2.out⟩,by simp[intOf];omega⟩
  have e:a=5:=by omega
  subst e
  have h0:=HC.out.heap RA.out (by simp)
  have c0:=(cell_of_row _ _ 0 _ _ _ HH.out).trans (show _=some (Value.int .i64 5) from rfl)
  have c1:=(cell_of_row _ _ 1 _ _ _ HH.out).trans (show _=some v from rfl)
  have a0:=(cell_of_row _ _ 0 _ _ _ h0).trans (show _=some (Value.int .i64 0) from rfl)
  have a1:=(cell_of_row _ _ 1 _ _ _ h0).trans (show _=some (Value.slice none 0 0) from rfl)
  have f0:=free_at h0 0
  have f1:=free_at h0 1
  obtain⟨ao,cp,rfl⟩:=owns_shape HO.out
  clear hlt ha
  go_wp2
  have hfin:=heap_setCell_same (heap_setCell_same h0 0 (.int .i64 5)) 1 (.slice ao (pairsK 5 6).length cp)
  have z0:=(cell_of_row _ _ 0 _ _ _ hfin).trans (show _=some (Value.int .i64 5) from rfl)
  have z1:=(cell_of_row _ _ 1 _ _ _ hfin).trans (show _=some (Value.slice ao (pairsK 5 6).length cp) from rfl)
  have hset:Chg [ab] wr ((wr.setCell ⟨ab,0,none⟩ (.int .i64 5)).setCell ⟨ab,1,none⟩ (.slice ao (pairsK 5 6).length cp)):=((Chg.refl _ _).setCell (Or.inl (by simp)) _).setCell (Or.inl (by simp)) _
  generalize (wr.setCell ⟨ab,0,none⟩ (.int .i64 5)).setCell ⟨ab,1,none⟩ (.slice ao (pairsK 5 6).length cp)=w9 at *
  refine bodyPost_ret (v:=.agg #[.int .i64 5,.slice ao (pairsK 5 6).length cp]) (by simp[results,Try.results9,go_sem,z0,z1]) rfl ?_
  have hrow:=owns_chg HO.out hset (fun j hj hm=>by
   have h1:=(HO.out.lt j hj).1
   rw[List.mem_singleton] at hm
   omega)
  refine⟨_,rfl,grAt_row (g:=Plain.gK) (B:=w1.heap.size) (I64.mk (by decide) (by decide)) (fun i hi=>?_) (by decide) hrow,?_⟩
  ·have h1:=(show ∀ i,i<10→(0≤(Plain.gK.ends i).1∧(Plain.gK.ends i).1<5)∧0≤(Plain.gK.ends i).2∧(Plain.gK.ends i).2<5 by decide) i hi
   exact⟨I64.mk (by omega) (by omega),I64.mk (by omega) (by omega)⟩
  refine (HXC.out.trans HC.out (fun j hj=>Or.inr ?_)).trans hset (fun j hj=>Or.inr ?_)
  ·rw[List.mem_singleton.1 hj,HAB.out];omega
  rw[List.mem_singleton.1 hj,HAB.out];exact Nat.le_refl _
set_option maxRecDepth 100000 in
set_option maxHeartbeats 4000000 in
theorem awake12_any (w:World):Calls Try.prog 4 #[] w fun e w'=>e=.returned (.bool true)∧Chg [] w w':=by
 have HXC:=lh (show Chg [] w ((w.alloc (.cells #[.int .i64 0,.int .i64 1,.int .i64 0,.int .i64 1] 37)).alloc (.cells #[.int .i64 2,.slice (some ⟨w.heap.size,0,none⟩) 2 2] 24)) from (show Chg [] w ((w.alloc (.cells #[.int .i64 0,.int .i64 1,.int .i64 0,.int .i64 1] 37)).alloc (.cells #[.int .i64 2,.slice (some ⟨w.heap.size,0,none⟩) 2 2] 24)) from (((Chg.refl [] w).alloc _).alloc _)))
 have qbx0:=heap_alloc_new w (.cells #[.int .i64 0,.int .i64 1,.int .i64 0,.int .i64 1] 37)
 replace qbx0:=(show Chg [] (w.alloc (.cells #[.int .i64 0,.int .i64 1,.int .i64 0,.int .i64 1] 37)) ((w.alloc (.cells #[.int .i64 0,.int .i64 1,.int .i64 0,.int .i64 1] 37)).alloc (.cells #[.int .i64 2,.slice (some ⟨w.heap.size,0,none⟩) 2 2] 24)) from ((Chg.refl [] (w.alloc (.cells #[.int .i64 0,.int .i64 1,.int .i64 0,.int .i64 1] 37))).alloc _)).heap qbx0 (by simp)
 have qbx1:=heap_alloc_new (w.alloc (.cells #[.int .i64 0,.int .i64 1,.int .i64 0,.int .i64 1] 37)) (.cells #[.int .i64 2,.slice (some ⟨w.heap.size,0,none⟩) 2 2] 24)
 rw[show (w.alloc (.cells #[.int .i64 0,.int .i64 1,.int .i64 0,.int .i64 1] 37)).heap.size=w.heap.size+1 by simp] at qbx1
 have HX:=lh (fun (w2:World) (hbx:Chg [] ((w.alloc (.cells #[.int .i64 0,.int .i64 1,.int .i64 0,.int .i64 1] 37)).alloc (.cells #[.int .i64 2,.slice (some ⟨w.heap.size,0,none⟩) 2 2] 24)) w2)=>(⟨hbx.heap qbx0 (by simp),hbx.cell ((cell_of_row _ _ 0 _ _ _ qbx1).trans rfl) (by simp),hbx.cell ((cell_of_row _ _ 1 _ _ _ qbx1).trans rfl) (by simp),by have hz:=hbx.size;simpa using hz⟩:w2.heap[w.heap.size]?=some (.cells #[.int .i64 0,.int .i64 1,.int .i64 0,.int .i64 1] 37 (0,0))∧w2.cell? ⟨w.heap.size+1,0,none⟩=some (.int .i64 2)∧w2.cell? ⟨w.heap.size+1,1,none⟩=some (.slice (some ⟨w.heap.size,0,none⟩) 2 2)∧w.heap.size+2≤w2.heap.size))
 clear qbx0 qbx1
 have HXZ:=lh (show ((w.alloc (.cells #[.int .i64 0,.int .i64 1,.int .i64 0,.int .i64 1] 37)).alloc (.cells #[.int .i64 2,.slice (some ⟨w.heap.size,0,none⟩) 2 2] 24)).heap.size=w.heap.size+2 by simp)
 obtain⟨re,g0,g1,-⟩:=HX.out _ (Chg.refl _ _)
 go_enter Try.func4,Try.ntmps4
 go_wp2_with fail
 generalize ((w.alloc (.cells #[.int .i64 0,.int .i64 1,.int .i64 0,.int .i64 1] 37)).alloc (.cells #[.int .i64 2,.slice (some ⟨w.heap.size,0,none⟩) 2 2] 24))=w1 at *
 have HGW:=lh (gr_two re)
 clear re
 have hS0:Chg [] w1 w1.drew:=(Chg.refl [] w1).drew
 refine wp_region_way (Chg [] w1) [0,1,4,5,6,7,8] (Way.line [0,1,2,3,4,5,6,7,8] .done) (by kernel_rfl) (by kernel_rfl) ?_
 simp only[Way.line]
 repeat
  first
   | (refine along_off rfl (by rfl) (by rfl) (fun _ _ _ h=>h) hS0 ?_;simp only[Act.put,Z1,Z2,Z3,Z4,Z5,Z6])
   | (refine along_read (v:=?_) rfl (by rfl) (by rfl) (fun _ _ _ h=>h) hS0 (fun w' hS'=>?_) ?_;rotate_left;(focus (have rd0:=hS'.cell g0 (by simp);have rd1:=hS'.cell g1 (by simp);clear hS';go_simp;try with_reducible rfl));simp only[Act.put,Z1,Z2,Z3,Z4,Z5,Z6])
   | (refine along_skip rfl (by rfl) (by rfl) hS0 ?_;simp only[Act.put,Z1,Z2,Z3,Z4,Z5,Z6])
 refine along_op rfl (by rfl) (by rfl) (fun K hK=>?_)
 go_simp
 refine (whole_any _ Plain.gW 2 _ rfl (by decide) (by decide) (HGW.out.fresh hS0)).mono ?_
 rintro e w2 ⟨v1,v2,rfl,r1,r2,hc2⟩
 have hS1:Chg [] w1 w2:=hS0.trans hc2 (by simp)
 refine hK.out _ _ (fun _=>hS1) ?_
 clear hK K hS0 hc2
 try simp only[Act.put,Z1,Z2,Z3,Z4,Z5,Z6]
 repeat
  first
   | (refine along_off rfl (by rfl) (by rfl) (fun _ _ _ h=>h) hS1 ?_;simp only[Act.put,Z1,Z2,Z3,Z4,Z5,Z6])
   | (refine along_read (v:=?_) rfl (by rfl) (by rfl) (fun _ _ _ h=>h) hS1 (fun w' hS'=>?_) ?_;rotate_left;(focus (have rd0:=hS'.cell g0 (by simp);have rd1:=hS'.cell g1 (by simp);clear hS';go_simp;try with_reducible rfl));simp only[Act.put,Z1,Z2,Z3,Z4,Z5,Z6])
   | (refine along_skip rfl (by rfl) (by rfl) hS1 ?_;simp only[Act.put,Z1,Z2,Z3,Z4,Z5,Z6])
 refine along_op rfl (by rfl) (by rfl) (fun K hK=>?_)
 go_simp
 refine (block_any _ _ Plain.gW Plain.pW _ (by decide) (HGW.out.fresh hS1) ⟨v1,v2,rfl,r1.ints,r2.ints⟩).mono ?_
 rintro e w3 ⟨v3,err,t,rfl,hbr,hrows,hc3⟩
 obtain⟨rfl,rfl⟩:=Plain.blockW hbr
 have hS2:Chg [] w1 w3:=hS1.trans hc3 (by simp)
 have HRW:=lh hrows
 obtain⟨ro,rc,rfl,-,-⟩:=hrows
 refine hK.out _ _ (fun _=>hS2) ?_
 clear hK K hc3
 try simp only[Act.put,Z1,Z2,Z3,Z4,Z5,Z6]
 repeat
  first
   | (refine along_off rfl (by rfl) (by rfl) (fun _ _ _ h=>h) hS2 ?_;simp only[Act.put,Z1,Z2,Z3,Z4,Z5,Z6])
   | (refine along_read (v:=?_) rfl (by rfl) (by rfl) (fun _ _ _ h=>h) hS2 (fun w' hS'=>?_) ?_;rotate_left;(focus (have rd0:=hS'.cell g0 (by simp);have rd1:=hS'.cell g1 (by simp);clear hS';go_simp;try with_reducible rfl));simp only[Act.put,Z1,Z2,Z3,Z4,Z5,Z6])
   | (refine along_skip rfl (by rfl) (by rfl) hS2 ?_;simp only[Act.put,Z1,Z2,Z3,Z4,Z5,Z6])
 refine along_done ?_
 have HS2:=lh hS2
 clear hS1 hS2 r1 r2 hbr g0 g1
 go_wp2_with fail
 refine (full_any _).mono ?_
 rintro e w4 ⟨v4,rfl,hg4,hc4⟩
 have HG4:=lh hg4
 have HC4:=lh (HS2.out.trans hc4 (by simp))
 have HR4:=lh (HRW.out.fresh hc4)
 clear hc4 hg4
 go_wp2_with fail
 refine (full_any _).mono ?_
 rintro e w5 ⟨v5,rfl,hg5,hc5⟩
 have HG5:=lh hg5
 have HG45:=lh (HG4.out.fresh hc5)
 have HC5:=lh (HC4.out.trans hc5 (by simp))
 have HR5:=lh (HR4.out.fresh hc5)
 clear hc5 hg5
 go_wp2_with fail
 refine (whole_any _ Plain.gK 5 _ rfl (by decide) (by decide) HG5.out).mono ?_
 rintro e w6 ⟨v6,v7,rfl,r6,r7,hc6⟩
 have HP6:=lh (show PtAt w6 (.agg #[v6,v7]) Plain.pK from⟨v6,v7,rfl,r6.ints,r7.ints⟩)
 have HG6:=lh (HG45.out.fresh hc6)
 have HC6:=lh (HC5.out.trans hc6 (by simp))
 have HR6:=lh (HR5.out.fresh hc6)
 clear hc6 r6 r7
 go_wp2_with fail
 refine (block_any _ _ Plain.gK Plain.pK _ (by decide) HG6.out HP6.out).mono ?_
 rintro e w7 ⟨v8,err,t,rfl,hbr,-,hc7⟩
 obtain rfl:=Plain.blockK hbr
 have HC7:=lh (HC6.out.trans hc7 (by simp))
 have HR7:=lh (HR6.out.fresh hc7)
 clear hc7 hbr
 go_wp2_with fail
 have hlit:=tW_at w7
 have hcl:=(((Chg.refl [] w7).alloc (.cells #[.int .i64 0,.int .i64 2] 3)).alloc (.cells #[.int .i64 1,.int .i64 3] 3)).alloc (.cells #[.slice (some ⟨w7.heap.size,0,none⟩) 2 2,.slice (some ⟨w7.heap.size+1,0,none⟩) 2 2] 25)
 have HC8:=lh (HC7.out.trans hcl (by simp))
 refine (refEquals_any _ _ Plain.tW Plain.tW _ (HR7.out.fresh hcl) hlit).mono ?_
 rintro e w9 ⟨rfl,hc9⟩
 have HC9:=lh (HC8.out.trans hc9 (by simp))
 have hdt:decide (Plain.tW=Plain.tW)=true:=by simp
 rw[hdt]
 clear hc9 hlit hcl
 go_wp2
 go_ret
 exact⟨rfl,HXC.out.trans HC9.out (by simp)⟩
namespace Plain
def small12 (g:Gr) (p:Pt):Bool:=small6 g p []&&decide (p.e.length≤24)&&decide (p.v.length≤20)
theorem small12_is {g:Gr} {p:Pt} (h:small12 g p=true):p.e.length≤24∧p.v.length≤20∧g.e.length≤60:=by
 unfold small12 small6 small4 at h
 simp only[Bool.and_eq_true,decide_eq_true_iff] at h
 omega
end Plain
set_option maxRecDepth 100000 in
set_option maxHeartbeats 4000000 in
theorem small12_any (vg vp:Value) (g:Plain.Gr) (p:Plain.Pt) (w:World) (hg:GrAt w vg g) (hp:PtAt w vp p) :
  Calls Try.prog 5 #[vg,vp] w fun e w'=>e=.returned (.bool (Plain.small12 g p))∧Chg [] w w':=by
 have HG:=lh hg
 have HP:=lh hp
 obtain⟨eo,cap,rfl,hn,hm,hsm,hcell⟩:=hg
 obtain⟨v1,v2,rfl,hv,he⟩:=hp
 obtain⟨ao,ac,rfl,has,ham,hacell⟩:=hv
 obtain⟨bo,bc,rfl,hbs,hbm,hbcell⟩:=he
 have HAC:=lh hacell
 have HBC:=lh hbcell
 have HAS:=lh has
 have HBS:=lh hbs
 obtain⟨-,-,hc1⟩:=box_two w #[.int .i64 g.n,.slice eo g.e.length cap] #[.slice ao p.v.length ac,.slice bo p.e.length bc] 24 27
 have HC1:=lh hc1
 have HBXS:=lh (fun w2 h=>two_boxes w (g:=g) (p:=p) (eo:=eo) (ao:=ao) (bo:=bo) (cap:=cap) (ac:=ac) (bc:=bc) (w2:=w2) h)
 clear hcell hacell hbcell hsm has hbs hn hc1
 obtain⟨x0,x1,y0,y1,hsz⟩:=HBXS.out _ (Chg.refl _ _)
 go_enter Try.func5,Try.ntmps5
 go_wp2_with fail
 obtain⟨w1,hw1⟩:∃ w1,((w.alloc (.cells #[.int .i64 g.n,.slice eo g.e.length cap] 24)).alloc (.cells #[.slice ao p.v.length ac,.slice bo p.e.length bc] 27))=w1:=⟨_,rfl⟩
 rw[hw1] at HC1 HBXS ⊢
 clear hw1 x0 x1 y0 y1 hsz
 refine (small6_any _ _ _ g p [] _ (HG.out.fresh HC1.out) (HP.out.fresh HC1.out) (rows_nil _)).mono ?_
 rintro e w2 ⟨rfl,hc2⟩
 have HC2:=lh (HC1.out.trans hc2 (by simp))
 obtain⟨x0,x1,y0,y1,hsz⟩:=HBXS.out _ hc2
 have HSM:=lh (show Plain.small12 g p=(Plain.small6 g p []&&decide (p.e.length≤24)&&decide (p.v.length≤20)) from rfl)
 clear hc2
 cases hb:Plain.small6 g p [] with
 | false =>
  rw[hb] at HSM
  rw[show bit false=0 from rfl]
  clear hb
  go_wp2
  go_ret
  exact⟨ret_bool (by rw[HSM.out];first | rfl | simp <;> omega),HC2.out⟩
 | true =>
  rw[hb] at HSM
  rw[show bit true=1 from rfl]
  clear hb
  by_cases h1:p.e.length≤24
  ·have e1:decide (p.e.length≤24)=true:=decide_eq_true h1
   have i1:(p.e.length:Int)≤24:=by omega
   rw[e1] at HSM
   by_cases h2:p.v.length≤20
   ·have e2:decide (p.v.length≤20)=true:=decide_eq_true h2
    have i2:(p.v.length:Int)≤20:=by omega
    rw[e2] at HSM
    go_wp2
    go_ret
    exact⟨ret_bool (by rw[HSM.out];first | rfl | simp <;> omega),HC2.out⟩
   have e2:decide (p.v.length≤20)=false:=decide_eq_false h2
   have i2:¬ (p.v.length:Int)≤20:=by omega
   rw[e2] at HSM
   go_wp2
   go_ret
   exact⟨ret_bool (by rw[HSM.out];first | rfl | simp <;> omega),HC2.out⟩
  have e1:decide (p.e.length≤24)=false:=decide_eq_false h1
  have i1:¬ (p.e.length:Int)≤24:=by omega
  rw[e1] at HSM
  go_wp2
  go_ret
  exact⟨ret_bool (by rw[HSM.out];first | rfl | simp <;> omega),HC2.out⟩
end Go.Proofs.Ytbkjljffnkdcjaa
namespace Go.Proofs.Ytbkjljffnkdcjaa.Plain
def par (f:Int→Bool):List Int→Bool
 | []=>false
 | d :: l=>f d ^^ par f l
theorem par_append (f:Int→Bool):∀ l m:List Int,par f (l++m)=(par f l ^^ par f m)
 | [],m=>by simp[par]
 | d :: l,m=>by simp[par,par_append f l m]
theorem par_perm {f:Int→Bool} {l m:List Int} (h:l.Perm m):par f l=par f m:=by
 induction h with
 | nil=>rfl
 | cons x _ ih=>simp[par,ih]
 | swap x y l=>simp only[par];cases f x <;> cases f y <;> simp
 | trans _ _ ih1 ih2=>rw[ih1,ih2]
theorem par_none {f:Int→Bool}:∀ {l:List Int},(∀ d∈l,f d=false)→par f l=false
 | [],_=>rfl
 | d :: l,h=>by simp[par,h d (by simp),par_none (l:=l) fun e he=>h e (List.mem_cons_of_mem _ he)]
theorem par_congr {f k:Int→Bool}:∀ {l:List Int},(∀ d∈l,f d=k d)→par f l=par k l
 | [],_=>rfl
 | d :: l,h=>by simp[par,h d (by simp),par_congr (l:=l) fun e he=>h e (List.mem_cons_of_mem _ he)]
theorem par_xor (f k:Int→Bool):∀ l:List Int,par (fun d=>f d ^^ k d) l=(par f l ^^ par k l)
 | []=>rfl
 | d :: l=>by simp only[par,par_xor f k l];cases f d <;> cases k d <;> cases par f l <;> cases par k l <;> rfl
theorem par_one {f:Int→Bool} {x:Int}:∀ {l:List Int},l.Nodup→x∈l→f x=true→(∀ d∈l,d≠x→f d=false)→par f l=true
 | [],_,hx,_,_=>by simp at hx
 | d :: l,hn,hx,hf,ho=>by
  rw[List.nodup_cons] at hn
  by_cases e:d=x
  ·subst e
   simp[par,hf,par_none fun e he=>ho e (List.mem_cons_of_mem _ he) fun q=>hn.1 (q ▸ he)]
  have hx:x∈l:=by rcases List.mem_cons.1 hx with q | q;exact absurd q.symm e;exact q
  simp[par,ho d (by simp) e,par_one hn.2 hx hf fun e he=>ho e (List.mem_cons_of_mem _ he)]
section
variable (b : Int → Int) (c : Int → Bool)
def cvr (d:Int) (s:Bool):Int:=4*(d / 2)+(if (s ^^ (decide (d % 2=1)&&c (d / 2)))=true then 2 else 0)+d % 2
def cvD (x:Int):Int:=2*(x / 4)+x % 2
def cvS (x:Int):Bool:=decide (x / 2 % 2=1) ^^ (decide (x % 2=1)&&c (x / 4))
def cvB (x:Int):Int:=cvr c (b (cvD x)) (cvS c x ^^ c (cvD x / 2))
end
variable {b : Int → Int} {c : Int → Bool}
theorem cvr_div (d:Int) (s:Bool):cvr c d s / 4=d / 2∧cvr c d s % 2=d % 2∧(cvr c d s / 2 % 2=1↔(s ^^ (decide (d % 2=1)&&c (d / 2)))=true):=by
 unfold cvr
 cases h:(s ^^ (decide (d % 2=1)&&c (d / 2)))
 ·simp only[Bool.false_eq_true,if_false,iff_false]
  refine⟨by omega,by omega,by omega⟩
 simp only[if_true,iff_true]
 refine⟨by omega,by omega,by omega⟩
theorem cvD_cvr (d:Int) (s:Bool):cvD (cvr c d s)=d:=by
 obtain⟨h1,h2,-⟩:=cvr_div (c:=c) d s
 unfold cvD
 rw[h1,h2];omega
theorem cvS_cvr (d:Int) (s:Bool):cvS c (cvr c d s)=s:=by
 obtain⟨h1,h2,h3⟩:=cvr_div (c:=c) d s
 unfold cvS
 rw[h1,h2]
 have e:decide (cvr c d s / 2 % 2=1)=(s ^^ (decide (d % 2=1)&&c (d / 2))):=by
  cases h:(s ^^ (decide (d % 2=1)&&c (d / 2)))
  ·rw[h] at h3;simpa using h3
  rw[h] at h3;simpa using h3
 rw[e]
 cases s <;> cases (decide (d % 2=1)&&c (d / 2)) <;> rfl
theorem cvr_inj {d e:Int} {s t:Bool} (h:cvr c d s=cvr c e t):d=e∧s=t:=⟨by rw[←cvD_cvr (c:=c) d s,h,cvD_cvr],by rw[←cvS_cvr (c:=c) d s,h,cvS_cvr]⟩
theorem cvB_cvr (d:Int) (s:Bool):cvB b c (cvr c d s)=cvr c (b d) (s ^^ c (d / 2)):=by unfold cvB;rw[cvD_cvr,cvS_cvr]
theorem cvr_half (d:Int) (s:Bool):cvr c d s / 2=2*(d / 2)+(if (s ^^ (decide (d % 2=1)&&c (d / 2)))=true then 1 else 0):=by
 unfold cvr;split <;> omega
theorem cvr_twin (d:Int) (s:Bool):twin (cvr c d s)=cvr c (twin d) (s ^^ c (d / 2)):=by
 have h1:=twin_div d
 unfold cvr
 rw[h1]
 rcases twin_cases d with ⟨e1,e2⟩ | ⟨e1,e2⟩
 ·have m0:d % 2=0:=by omega
  have m1:twin d % 2=1:=by omega
  rw[m0,m1]
  have:(if (s ^^ (decide ((0:Int)=1)&&c (d / 2)))=true then (2:Int) else 0)=if (s ^^ c (d / 2) ^^ (decide ((1:Int)=1)&&c (d / 2)))=true then 2 else 0:=by
   cases s <;> cases c (d / 2) <;> simp
  rw[this]
  unfold twin;split <;> split <;> omega
 have m0:d % 2=1:=by omega
 have m1:twin d % 2=0:=by omega
 rw[m0,m1]
 have:(if (s ^^ (decide ((1:Int)=1)&&c (d / 2)))=true then (2:Int) else 0)=if (s ^^ c (d / 2) ^^ (decide ((0:Int)=1)&&c (d / 2)))=true then 2 else 0:=by
  cases s <;> cases c (d / 2) <;> simp
 rw[this]
 unfold twin;split <;> split <;> omega
def lift (c:Int→Bool):Bool→List Int→List Int
 | _,[]=>[]
 | s,d :: l=>cvr c d s :: lift c (s ^^ c (d / 2)) l
theorem lift_trail {z:Int}:∀ {l:List Int} {x:Int} {s:Bool},Trail b x l z→Trail (cvB b c) (cvr c x s) (lift c (s ^^ c (x / 2)) l) (cvr c z (s ^^ par (fun d=>c (d / 2)) (x :: l)))
 | [],x,s,h=>by
  have h:b x=z:=h
  show cvB b c (cvr c x s)=_
  rw[cvB_cvr,h];simp[par]
 | d :: l,x,s,h=>by
  have ih:=lift_trail (s:=s ^^ c (x / 2)) h.2
  refine⟨by rw[cvB_cvr,h.1],?_⟩
  have e:(s ^^ c (x / 2) ^^ par (fun d=>c (d / 2)) (d :: l))=(s ^^ par (fun d=>c (d / 2)) (x :: d :: l)):=by simp[par]
  rw[←e];exact ih
theorem lift_ring {l:List Int} (h:Ring b l) (he:par (fun d=>c (d / 2)) l=false) (s:Bool):Ring (cvB b c) (lift c s l):=by
 cases l with
 | nil=>exact h.elim
 | cons x l =>
  have:=lift_trail (c:=c) (s:=s) (show Trail b x l x from h)
  rw[he,Bool.xor_false] at this
  exact this
theorem lift_perm:∀ (l:List Int) (s:Bool),(lift c s l++lift c (!s) l).Perm (l.flatMap fun d=>[cvr c d false,cvr c d true])
 | [],_=>by simp[lift]
 | d :: l,s=>by
  have ih:=lift_perm l (s ^^ c (d / 2))
  have e:(!s ^^ c (d / 2))=!(s ^^ c (d / 2)):=by cases s <;> simp
  show (cvr c d s :: (lift c (s ^^ c (d / 2)) l++cvr c d (!s) :: lift c (!s ^^ c (d / 2)) l)).Perm (cvr c d false :: cvr c d true :: _)
  rw[e]
  have h1:(cvr c d s :: (lift c (s ^^ c (d / 2)) l++cvr c d (!s) :: lift c (!(s ^^ c (d / 2))) l)).Perm (cvr c d s :: cvr c d (!s) :: (lift c (s ^^ c (d / 2)) l++lift c (!(s ^^ c (d / 2))) l)):=List.Perm.cons _ List.perm_middle
  refine h1.trans ?_
  cases s
  ·exact (ih.cons _).cons _
  exact (List.Perm.swap _ _ _).trans ((ih.cons _).cons _)
theorem lifts_perm:∀ B:List (List Int),(B.flatMap fun l=>[lift c false l,lift c true l]).flatten.Perm (B.flatten.flatMap fun d=>[cvr c d false,cvr c d true])
 | []=>by simp
 | l :: B=>by
  have ih:=lifts_perm B
  simp only[List.flatMap_cons,List.flatten_append,List.flatten_cons,List.flatMap_append,List.flatten_nil,List.append_nil]
  exact (lift_perm l false).append ih
theorem sheets_perm:∀ C:List (List Int),(C.flatMap fun l=>[l.map (cvr c · false),l.map (cvr c · true)]).flatten.Perm (C.flatten.flatMap fun d=>[cvr c d false,cvr c d true])
 | []=>by simp
 | l :: C=>by
  have ih:=sheets_perm C
  simp only[List.flatMap_cons,List.flatten_append,List.flatten_cons,List.flatMap_append,List.flatten_nil,List.append_nil]
  refine List.Perm.append ?_ ih
  clear ih
  induction l with
  | nil=>simp
  | cons d l ih =>
   simp only[List.map_cons,List.flatMap_cons]
   show (cvr c d false :: (l.map (cvr c · false)++cvr c d true :: l.map (cvr c · true))).Perm (cvr c d false :: cvr c d true :: _)
   exact List.Perm.cons _ (List.perm_middle.trans (ih.cons _))
theorem flat2_nodup:∀ {K:List Int},K.Nodup→(K.flatMap fun d=>[cvr c d false,cvr c d true]).Nodup
 | [],_=>by simp
 | d :: K,h=>by
  rw[List.nodup_cons] at h
  rw[List.flatMap_cons,List.nodup_append]
  refine⟨?_,flat2_nodup h.2,fun x hx y hy e=>?_⟩
  ·simp only[List.nodup_cons,List.mem_singleton,List.not_mem_nil,not_false_iff,List.nodup_nil,and_true]
   exact fun e=>by cases (cvr_inj e).2
  obtain⟨f,hf,hy⟩:=List.mem_flatMap.1 hy
  have e1:cvD x=d:=by
   rcases List.mem_cons.1 hx with q | q
   ·rw[q,cvD_cvr]
   rw[List.mem_singleton.1 q,cvD_cvr]
  have e2:cvD y=f:=by
   rcases List.mem_cons.1 hy with q | q
   ·rw[q,cvD_cvr]
   rw[List.mem_singleton.1 q,cvD_cvr]
  rw[e,e2] at e1
  exact h.1 (e1 ▸ hf)
theorem mem_flat2 {K:List Int} {x:Int}:x∈(K.flatMap fun d=>[cvr c d false,cvr c d true])↔∃ d∈K,∃ s,x=cvr c d s:=by
 rw[List.mem_flatMap]
 constructor
 ·rintro ⟨d,hd,hx⟩
  rcases List.mem_cons.1 hx with q | q
  ·exact⟨d,hd,_,q⟩
  exact⟨d,hd,_,List.mem_singleton.1 q⟩
 rintro ⟨d,hd,s,rfl⟩
 exact⟨d,hd,by cases s <;> simp⟩
theorem two_len {α:Type} (f k:List Int→α):∀ B:List (List Int),(B.flatMap fun l=>[f l,k l]).length=2*B.length
 | []=>rfl
 | l :: B=>by rw[List.flatMap_cons,List.length_append,two_len f k B];simp;omega
theorem colours {B C:List (List Int)} {S K:List Int} (hb:Rings b B) (hB:B.flatten.Perm K) (hSn:S.Nodup) (hK:∀ d,d∈K↔d / 2∈S)
  (hC:Rings (fun x=>b (twin x)) C) (hCK:C.flatten.Perm K) (heu:B.length+C.length=2+S.length)
  (hone:∀ Q:Int→Int→Prop,Eqv Q→(∀ x∈K,Q x (b x))→(∀ x∈K,Q x (twin x))→∀ x∈K,∀ y∈K,Q x y)
  (hev:∀ l∈B,par (fun d=>c (d / 2)) l=false) :
  ∃ χ:Int→Bool,(∀ d∈K,χ (b (twin d))=χ d)∧∀ d∈K,χ (twin d)=(χ d ^^ c (d / 2)):=by
 have hKn:K.Nodup:=hB.nodup_iff.1 hb.nodup
 have htK:∀ {d},d∈K→twin d∈K:=fun {d} h=>(hK _).2 (by rw[twin_div];exact (hK _).1 h)
 have hbK:∀ {d},d∈K→b d∈K:=fun {d} h=>hB.mem_iff.1 (hb.next (hB.mem_iff.2 h))
 let K2:=K.flatMap fun d=>[cvr c d false,cvr c d true]
 let B2:=B.flatMap fun l=>[lift c false l,lift c true l]
 let C2:=C.flatMap fun l=>[l.map (cvr c · false),l.map (cvr c · true)]
 let S2:=S.flatMap fun e=>[2*e,2*e+1]
 have hK2:K2.Nodup:=flat2_nodup hKn
 have fm:∀ {M:List Int},M.Perm K→(M.flatMap fun d=>[cvr c d false,cvr c d true]).Perm K2:=fun {M} h=>h.flatMap_right _
 have hB2K:B2.flatten.Perm K2:=(lifts_perm B).trans (fm hB)
 have hC2K:C2.flatten.Perm K2:=(sheets_perm C).trans (fm hCK)
 have hb2:Rings (cvB b c) B2:=by
  refine⟨fun l hl=>?_,hB2K.nodup_iff.2 hK2⟩
  obtain⟨m,hm,hl⟩:=List.mem_flatMap.1 hl
  rcases List.mem_cons.1 hl with q | q
  ·rw[q];exact lift_ring (hb.ring m hm) (hev m hm) _
  rw[List.mem_singleton.1 q];exact lift_ring (hb.ring m hm) (hev m hm) _
 have hS2n:S2.Nodup:=darts_nodup (p:=⟨[],S⟩) hSn
 have hS2:∀ d s,cvr c d s / 2∈S2↔d∈K:=fun d s=>by
  have h1:cvr c d s / 2∈S2↔cvr c d s / 2 / 2∈S:=mem_darts (p:=⟨[],S⟩)
  rw[h1,hK,cvr_half]
  have:(2*(d / 2)+(if (s ^^ (decide (d % 2=1)&&c (d / 2)))=true then 1 else 0)) / 2=d / 2:=by split <;> omega
  rw[this]
 have htw:∀ d s,d∈K→tw S2 (cvr c d s)=cvr c (twin d) (s ^^ c (d / 2)):=fun d s hd=>by
  rw[tw_eq hS2n,if_pos ((hS2 d s).2 hd),cvr_twin]
 have hnx:∀ d s,d∈K→cvB b c (tw S2 (cvr c d s))=cvr c (b (twin d)) s:=fun d s hd=>by
  rw[htw d s hd,cvB_cvr,twin_div]
  cases s <;> cases c (d / 2) <;> rfl
 have hsh:∀ (s:Bool) {z:Int} {l:List Int} {x:Int},(∀ y∈x :: l,y∈K)→Trail (fun x=>b (twin x)) x l z→Trail (fun x=>cvB b c (tw S2 x)) (cvr c x s) (l.map (cvr c · s)) (cvr c z s):=by
  intro s z l
  induction l with
  | nil =>
   intro x hx h
   have h:b (twin x)=z:=h
   show cvB b c (tw S2 (cvr c x s))=_
   rw[hnx x s (hx x (by simp)),h]
  | cons d l ih =>
   intro x hx h
   exact⟨by show cvB b c (tw S2 (cvr c x s))=_;rw[hnx x s (hx x (by simp))];exact congrArg (cvr c · s) h.1,ih (fun y hy=>hx y (List.mem_cons_of_mem _ hy)) h.2⟩
 have hC2:Rings (fun x=>cvB b c (tw S2 x)) C2:=by
  refine⟨fun l hl=>?_,hC2K.nodup_iff.2 hK2⟩
  obtain⟨m,hm,hl⟩:=List.mem_flatMap.1 hl
  have hr:=hC.ring m hm
  have hmK:∀ y∈m,y∈K:=fun y hy=>hCK.mem_iff.1 (List.mem_flatten.2 ⟨m,hm,hy⟩)
  have:∀ s,Ring (fun x=>cvB b c (tw S2 x)) (m.map (cvr c · s)):=fun s=>by
   cases m with
   | nil=>exact hr.elim
   | cons x m=>exact hsh s hmK hr
  rcases List.mem_cons.1 hl with q | q
  ·rw[q];exact this _
  rw[List.mem_singleton.1 q];exact this _
 have hSK2:∀ e∈S2,2*e∈K2∧2*e+1∈K2:=fun e he=>by
  obtain⟨f,hf,he⟩:=List.mem_flatMap.1 he
  have m0:(2*f)∈K:=(hK _).2 (by rwa[show 2*f / 2=f by omega])
  have m1:(2*f+1)∈K:=(hK _).2 (by rwa[show (2*f+1) / 2=f by omega])
  have e0:∀ s,cvr c (2*f) s=4*f+(if s=true then 2 else 0):=fun s=>by
   unfold cvr
   rw[show 2*f / 2=f by omega,show 2*f % 2=0 by omega]
   cases s <;> simp
  have e1:∀ s,cvr c (2*f+1) s=4*f+(if (s ^^ c f)=true then 2 else 0)+1:=fun s=>by
   unfold cvr
   rw[show (2*f+1) / 2=f by omega,show (2*f+1) % 2=1 by omega]
   cases s <;> simp
  rcases List.mem_cons.1 he with q | q
  ·refine⟨mem_flat2.2 ⟨_,m0,false,?_⟩,mem_flat2.2 ⟨_,m1,c f,?_⟩⟩
   ·rw[e0,q];simp;omega
   rw[e1,q];simp;omega
  have q:=List.mem_singleton.1 q
  refine⟨mem_flat2.2 ⟨_,m0,true,?_⟩,mem_flat2.2 ⟨_,m1,!c f,?_⟩⟩
  ·rw[e0,q];simp;omega
  rw[e1,q];cases c f <;> simp <;> omega
 have hle:=euler_le hb2 hB2K hSK2 hC2 hC2K
 have l1:B2.length=2*B.length:=two_len _ _ B
 have l2:C2.length=2*C.length:=two_len _ _ C
 have l3:S2.length=2*S.length:=darts_length ⟨[],S⟩
 rw[l1,l2,l3] at hle
 let R:=Gen (Same B2) S2
 have hR:Eqv R:=Gen.eqv (Same.eqv hb2.nodup) S2
 have hR2:2≤cnt R K2:=by show 2≤cnt (Gen (Same B2) S2) K2;omega
 have rb:∀ d∈K,∀ s,R (cvr c d s) (cvr c (b d) (s ^^ c (d / 2))):=fun d hd s=>by
  rw[←cvB_cvr]
  exact Gen.base (Same.step hb2 (hB2K.mem_iff.2 (mem_flat2.2 ⟨d,hd,s,rfl⟩))) S2
 have rt:∀ d∈K,∀ s,R (cvr c d s) (cvr c (twin d) (s ^^ c (d / 2))):=fun d hd s=>by
  rw[←htw d s hd]
  exact gen_tw (Same.eqv hb2.nodup) S2 _
 let Q:Int→Int→Prop:=fun x y=>∃ t:Bool,∀ s:Bool,R (cvr c x s) (cvr c y (s ^^ t))
 have hQ:Eqv Q:=⟨fun x=>⟨false,fun s=>by rw[Bool.xor_false];exact hR.refl _⟩,
  fun {x y} ⟨t,h⟩=>⟨t,fun s=>by
   have:=h (s ^^ t)
   rw[Bool.xor_assoc,Bool.xor_self,Bool.xor_false] at this
   exact hR.symm this⟩,
  fun {x y z} ⟨t,h⟩ ⟨u,k⟩=>⟨t ^^ u,fun s=>by
   have:=k (s ^^ t)
   rw[Bool.xor_assoc] at this
   exact hR.trans (h s) this⟩⟩
 have hall:=hone Q hQ (fun x hx=>⟨_,rb x hx⟩) (fun x hx=>⟨_,rt x hx⟩)
 have hno:∀ d∈K,¬ R (cvr c d false) (cvr c d true):=fun d hd hq=>by
  have hto:∀ x∈K2,R x (cvr c d false):=fun x hx=>by
   obtain⟨e,he,s,rfl⟩:=mem_flat2.1 hx
   obtain⟨t,ht⟩:=hall e he d hd
   have:=ht s
   cases h:(s ^^ t)
   ·rwa[h] at this
   rw[h] at this;exact hR.trans this (hR.symm hq)
  have:=cnt_le_one hR (K:=K2) fun x hx y hy=>hR.trans (hto x hx) (hR.symm (hto y hy))
  omega
 by_cases hK0:K=[]
 ·exact⟨fun _=>false,fun d hd=>absurd (hK0 ▸ hd) List.not_mem_nil,fun d hd=>absurd (hK0 ▸ hd) List.not_mem_nil⟩
 obtain⟨o,ho⟩:=List.exists_mem_of_ne_nil K hK0
 have huniq:∀ d∈K,∀ t u:Bool,(∀ s:Bool,R (cvr c o s) (cvr c d (s ^^ t)))→R (cvr c o false) (cvr c d u)→t=u:=fun d hd t u h k=>by
  have h0:=h false
  rw[Bool.false_xor] at h0
  have h1:=hR.trans (hR.symm h0) k
  cases t <;> cases u
  ·rfl
  ·exact absurd h1 (hno d hd)
  ·exact absurd (hR.symm h1) (hno d hd)
  rfl
 have hex:∀ d,∃ t:Bool,d∈K→∀ s:Bool,R (cvr c o s) (cvr c d (s ^^ t)):=fun d=>by
  by_cases hd:d∈K
  ·obtain⟨t,ht⟩:=hall o ho d hd
   exact⟨t,fun _=>ht⟩
  exact⟨false,fun q=>absurd q hd⟩
 let χ:Int→Bool:=fun d=>Classical.choose (hex d)
 have hχ:∀ d∈K,∀ s:Bool,R (cvr c o s) (cvr c d (s ^^ χ d)):=fun d hd=>Classical.choose_spec (hex d) hd
 have e1:∀ d∈K,χ (twin d)=(χ d ^^ c (d / 2)):=fun d hd=>by
  have h1:=hχ d hd false
  rw[Bool.false_xor] at h1
  exact huniq _ (htK hd) _ _ (hχ _ (htK hd)) (hR.trans h1 (rt d hd _))
 have e2:∀ d∈K,χ (b d)=(χ d ^^ c (d / 2)):=fun d hd=>by
  have h1:=hχ d hd false
  rw[Bool.false_xor] at h1
  exact huniq _ (hbK hd) _ _ (hχ _ (hbK hd)) (hR.trans h1 (rb d hd _))
 refine⟨χ,fun d hd=>?_,e1⟩
 rw[e2 _ (htK hd),e1 d hd,twin_div]
 cases χ d <;> cases c (d / 2) <;> rfl
end Go.Proofs.Ytbkjljffnkdcjaa.Plain
