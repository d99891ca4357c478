/- law 12's awake: contracts: full, awake. No condition. -/
import Derived.Test.YtmhcmnaecpagiaaGreatZTurnsW
namespace Go.Proofs.YtmhcmnaecpagiaaGreat
open Go.RowKit Go.Maps
theorem elemEdge:Elem 22 65 (.agg #[.int .i64 0,.int .i64 0]) 2 16:=⟨Tryz.underlying22,by kernel_rfl,rfl,by decide,by decide⟩
def edgeCells:List (Int × Int)→List Value
 | []=>[]
 | x :: l=>.int .i64 x.1 :: .int .i64 x.2 :: edgeCells l
theorem edgeCells_get:∀ {l:List (Int × Int)} {i:Nat},i<l.length→(edgeCells l)[i*2]?=some (.int .i64 (l.getD i (0,0)).1)∧(edgeCells l)[i*2+1]?=some (.int .i64 (l.getD i (0,0)).2)
 | [],i,h=>by simp at h
 | x :: l,0,_=>⟨rfl,rfl⟩
 | x :: l,i+1,h=>by
  have ih:=edgeCells_get (l:=l) (i:=i) (by simpa using h);rw[show (i+1)*2=i*2+1+1 by omega];refine⟨?_,?_⟩
  ·show (edgeCells l)[i*2]?=_
   rw[ih.1];rfl
  show (edgeCells l)[i*2+1]?=_;rw[ih.2];rfl
theorem edgeCells_snoc (l:List (Int × Int)) (x:Int × Int):edgeCells (l++[x])=edgeCells l++[.int .i64 x.1,.int .i64 x.2]:=by
 induction l with
 | nil=>rfl
 | cons y l ih=>show _ :: _ :: edgeCells (l++[x])=_;rw[ih];rfl
theorem grAt_row {w:World} {B:Nat} {v:Value} {g:Plain.Gr} (hn:I64 g.n) (hs:∀ i,i<g.e.length→I64 (g.ends i).1∧I64 (g.ends i).2) (hl:g.e.length≤100000) (h:w.ownsRow B 65 2 v g.e.length (edgeCells g.e)):GrAt w (.agg #[.int .i64 g.n,v]) g:=by
 rcases h.2 with ⟨rfl,h0⟩ | ⟨b,cap,cur,rfl,hb,hh,hnc,hcm,hcs,hys⟩
 ·exact⟨none,0,by rw[h0],hn,by omega,hs,fun i hi=>by omega⟩
 refine⟨_,cap,rfl,hn,by omega,hs,fun i hi=>⟨b,0,rfl,?_,?_⟩⟩
 ·rw[Nat.zero_add,cell_of_row w _ (i*2) cur 65 (0,0) hh]
  have q:=(edgeCells_get hi).1;rw[←hys,List.getElem?_take,if_pos (by omega)] at q;simpa[Plain.Gr.ends] using q
 rw[Nat.zero_add,cell_of_row w _ (i*2+1) cur 65 (0,0) hh];have q:=(edgeCells_get hi).2;rw[←hys,List.getElem?_take,if_pos (by omega)] at q;simpa[Plain.Gr.ends] using q
def pairsK (a b:Nat):List (Int × Int):=((List.range a).flatMap fun i=>(List.range (4 - i)).map fun k=>((i:Int),((i+1+k:Nat):Int)))++(List.range (b - (a+1))).map fun k=>((a:Int),((a+1+k:Nat):Int))
theorem pairsK_next:∀ a:Nat,a<5→∀ b:Nat,b<5→a<b→pairsK a (b+1)=pairsK a b++[((a:Int),(b:Int))]:=by decide
theorem pairsK_row:∀ a:Nat,a<5→pairsK a 5=pairsK (a+1) (a+2):=by decide
theorem pairsK_len:∀ a:Nat,a<6→∀ b:Nat,b<8→(pairsK a b).length≤30:=by decide
theorem gr_two {w:World} {b:Nat} (h:w.heap[b]?=some (.cells #[.int .i64 0,.int .i64 1,.int .i64 0,.int .i64 1] 65 (0,0))):GrAt w (.agg #[.int .i64 2,.slice (some ⟨b,0,none⟩) 2 2]) Plain.gW :=
 grAt_row (g:=Plain.gW) (B:=0) (I64.mk (by decide) (by decide)) (fun i hi=>by
  rcases (show i=0∨i=1 by have:i<2:=hi;omega) with rfl | rfl <;> exact⟨I64.mk (by decide) (by decide),I64.mk (by decide) (by decide)⟩) (by decide) ⟨rfl,Or.inr ⟨b,2,_,rfl,Nat.zero_le _,h,Nat.le_refl _,by decide,rfl,rfl⟩⟩
theorem tW_at (w:World):RowsAt (((w.alloc (.cells #[.int .i64 0,.int .i64 2] 3)).alloc (.cells #[.int .i64 1,.int .i64 3] 3)).alloc (.cells #[.slice (some ⟨w.heap.size,0,none⟩) 2 2,.slice (some ⟨w.heap.size+1,0,none⟩) 2 2] 25)) (.slice (some ⟨w.heap.size+1+1,0,none⟩) 2 2) Plain.tW:=by
 have hs1:(w.alloc (.cells #[.int .i64 0,.int .i64 2] 3)).heap.size=w.heap.size+1:=by simp
 have hs2:((w.alloc (.cells #[.int .i64 0,.int .i64 2] 3)).alloc (.cells #[.int .i64 1,.int .i64 3] 3)).heap.size=w.heap.size+1+1:=by simp
 have l0:=lit_two w (x:=0) (y:=2) (I64.mk (by decide) (by decide)) (I64.mk (by decide) (by decide));have l1:=lit_two (w.alloc (.cells #[.int .i64 0,.int .i64 2] 3)) (x:=1) (y:=3) (I64.mk (by decide) (by decide)) (I64.mk (by decide) (by decide));rw[hs1] at l1;have hb:=heap_alloc_new ((w.alloc (.cells #[.int .i64 0,.int .i64 2] 3)).alloc (.cells #[.int .i64 1,.int .i64 3] 3)) (.cells #[.slice (some ⟨w.heap.size,0,none⟩) 2 2,.slice (some ⟨w.heap.size+1,0,none⟩) 2 2] 25);rw[hs2] at hb;have hc:=(Chg.refl [] ((w.alloc (.cells #[.int .i64 0,.int .i64 2] 3)).alloc (.cells #[.int .i64 1,.int .i64 3] 3))).alloc (.cells #[.slice (some ⟨w.heap.size,0,none⟩) 2 2,.slice (some ⟨w.heap.size+1,0,none⟩) 2 2] 25);have hc0:=((Chg.refl [] (w.alloc (.cells #[.int .i64 0,.int .i64 2] 3))).alloc (.cells #[.int .i64 1,.int .i64 3] 3)).t hc;refine⟨_,2,rfl,by decide,fun i hi=>?_⟩;rcases (show i=0∨i=1 by have:i<2:=hi;omega) with rfl | rfl
 ·exact⟨_,0,_,rfl,(cell_of_row _ _ 0 _ _ _ hb).trans rfl,⟨_,2,2,rfl,Nat.le_refl _,by decide⟩,l0.fresh hc0⟩
 exact⟨_,0,_,rfl,(cell_of_row _ _ 1 _ _ _ hb).trans rfl,⟨_,2,2,rfl,Nat.le_refl _,by decide⟩,l1.fresh hc⟩
namespace Plain
theorem blockW {err:Int} {t:List (List Int)} (h:BlockR gW pW err t):err=0∧t=tW:=by
 rcases h with ⟨h,-⟩ | ⟨-,h,-⟩ | ⟨-,-,⟨h,-⟩,-⟩ | ⟨-,-,h,-,turn,F,hF,ht⟩
 ·exact absurd errW h
 ·exact absurd solidW h
 ·exact absurd h (by decide)
 exact⟨h,by rw[ht];exact two_turns hF.to_⟩
theorem blockK {err:Int} {t:List (List Int)} (h:BlockR gK pK err t):err=8:=by
 rcases h with ⟨h,-⟩ | ⟨-,h,-⟩ | ⟨-,-,-,h,-⟩ | ⟨-,-,-,-,turn,F,hF,-⟩
 ·exact absurd errK h
 ·exact absurd solidK h
 ·exact h
 exact absurd hF five_not
end Plain
set_option maxRecDepth 100000 in
set_option maxHeartbeats 4000000 in
theorem full_any (w:World):Calls Tryz.prog 42 #[] w fun e w'=>∃ v,e=.returned v∧GrAt w' v Plain.gK∧Chg [] w w':=by
 have HXC:=lh (show Chg [] w ((w.alloc (.cells #[.int .i64 0,.slice none 0 0] 24)).alloc (.cells #[.int .i64 5,.slice none 0 0] 24)) from (show Chg [] w ((w.alloc (.cells #[.int .i64 0,.slice none 0 0] 24)).alloc (.cells #[.int .i64 5,.slice none 0 0] 24)) from (((Chg.refl [] w).alloc _).alloc _)));have qbx0:=heap_alloc_new w (.cells #[.int .i64 0,.slice none 0 0] 24);replace qbx0:=(show Chg [] (w.alloc (.cells #[.int .i64 0,.slice none 0 0] 24)) ((w.alloc (.cells #[.int .i64 0,.slice none 0 0] 24)).alloc (.cells #[.int .i64 5,.slice none 0 0] 24)) from ((Chg.refl [] (w.alloc (.cells #[.int .i64 0,.slice none 0 0] 24))).alloc _)).heap qbx0 (by simp);have qbx1:=heap_alloc_new (w.alloc (.cells #[.int .i64 0,.slice none 0 0] 24)) (.cells #[.int .i64 5,.slice none 0 0] 24);rw[show (w.alloc (.cells #[.int .i64 0,.slice none 0 0] 24)).heap.size=w.heap.size+1 by simp] at qbx1;have HX:=lh (fun (w2:World) (hbx:Chg [] ((w.alloc (.cells #[.int .i64 0,.slice none 0 0] 24)).alloc (.cells #[.int .i64 5,.slice none 0 0] 24)) w2)=>(⟨hbx.heap qbx0 (by simp),hbx.heap qbx1 (by simp),by have hz:=hbx.size;simpa using hz⟩:w2.heap[w.heap.size]?=some (.cells #[.int .i64 0,.slice none 0 0] 24 (0,0))∧w2.heap[w.heap.size+1]?=some (.cells #[.int .i64 5,.slice none 0 0] 24 (0,0))∧w.heap.size+2≤w2.heap.size));clear qbx0 qbx1;have HXZ:=lh (show ((w.alloc (.cells #[.int .i64 0,.slice none 0 0] 24)).alloc (.cells #[.int .i64 5,.slice none 0 0] 24)).heap.size=w.heap.size+2 by simp);obtain⟨ra,rb,hsz⟩:=HX.out _ (Chg.refl _ _)
 go_enter Tryz.func42,Tryz.ntmps42
 go_wp2_with fail
 generalize ((w.alloc (.cells #[.int .i64 0,.slice none 0 0] 24)).alloc (.cells #[.int .i64 5,.slice none 0 0] 24))=w1 at *;obtain⟨ab,hab⟩:∃ n,w.heap.size=n:=⟨_,rfl⟩;rw[hab] at ra rb hsz ⊢;have RA:=lh ra;have RB:=lh rb;have HAB:=lh hab;clear hab ra rb
 go_loopw [2,3] (fun c _ wr=>∃ a:Nat,a≤5∧c=.int .i64 a∧∃ v,wr.heap[ab+1]?=some (.cells #[.int .i64 5,v] 24 (0,0))∧wr.ownsRow w1.heap.size 65 2 v (pairsK a (a+1)).length (edgeCells (pairsK a (a+1)))∧Chg [ab+1] w1 wr) (fun c _ _=>5 - (intOf c).toNat)
 case atStart=>exact⟨0,by omega,rfl,_,RB.out,World.ownsRow_nil _ _ _ _,Chg.refl _ _⟩
 case round =>
  obtain⟨a,ha,rfl,v,hh,ho,hc⟩:=hrel;have HH:=lh hh;have HO:=lh ho;have HC:=lh hc;clear hh ho hc;by_cases hlt:a<5
  ·have hai:(a:Int)<5:=by omega
   go_wp2_with fail
   go_loopw [3] (fun c wr=>∃ b:Nat,a<b∧b≤5∧c=.int .i64 b∧∃ v,wr.heap[ab+1]?=some (.cells #[.int .i64 5,v] 24 (0,0))∧wr.ownsRow w1.heap.size 65 2 v (pairsK a b).length (edgeCells (pairsK a b))∧Chg [ab+1] w1 wr) (fun c _=>5 - (intOf c).toNat)
   case atStart=>exact⟨a+1,by omega,by omega,by go_num,v,HH.out,HO.out,HC.out⟩
   case round =>
    obtain⟨b,hb1,hb2,rfl,v2,hh,ho,hc⟩:=hrel;have HH2:=lh hh;have HO2:=lh ho;have HC2:=lh hc;clear HH HO HC;by_cases hbl:b<5
    ·have hbi:(b:Int)<5:=by omega
     have c1:=(cell_of_row _ _ 1 _ _ _ hh).trans (show _=some v2 from rfl);have HLN:=lh (pairsK_len a (by omega) b (by omega));have HNX:=lh (pairsK_next a hlt b hbl hb1);have HB1:=lh hc.size;obtain⟨ao,cp,rfl⟩:=owns_shape ho;have HNB:=lh (show ab+1 ∉ (Value.slice ao (pairsK a b).length cp).ownBlock.toList from fun q=>by
      have h1:=(ho.lt (ab+1) (by simpa using q)).1;omega)
     obtain⟨L,hL⟩:∃ L,pairsK a b=L:=⟨_,rfl⟩;rw[hL] at HLN HNX HNB HO2 c1 HH2;have hll:L.length≤30:=HLN.out;have hf1:=free_at HH2.out 1;clear hh ho hc hL
     go_wp2_with (at_builtin;refine wp_app elemEdge rfl _ _ rfl (v:=.slice ao L.length cp) (B:=w1.heap.size) (cs:=#[.int .i64 a,.int .i64 b]) rfl rfl rfl HO2.out HB1.out rfl (by intro u hu;simp at hu;rcases hu with rfl | rfl <;> rfl) (by omega) ?_;intro g' cap' w' r1 r2 r3;have R1:=lh r1;have R2:=lh r2;have c1':=r2.cell c1 HNB.out;have f1':=free_at (r2.heap HH2.out HNB.out) 1;clear r1 r2 r3)
     have hh3:=R2.out.heap HH2.out HNB.out;have hrow:=R1.out;have hk:KindAt w' (ab+1) 24:=⟨_,_,hh3⟩;have hgk:=own_kind hrow (b:=g') rfl;have hset:Chg [ab+1] w' (w'.setCell ⟨ab+1,1,none⟩ (.slice (some ⟨g',0,none⟩) (L.length+1) cap')):=(Chg.refl _ _).setCell (Or.inl (by simp)) _;refine⟨⟨b+1,by omega,by omega,by go_num,_,heap_setCell_same hh3 1 _,?_,?_⟩,by simp[intOf];omega⟩
     ·rw[HNX.out,edgeCells_snoc,List.length_append]
      exact owns_chg hrow hset (fun j hj=>by
       have e:g'=j:=by simpa[Value.ownBlock] using hj
       rw[List.mem_singleton,←e];exact hgk.ne hk (by decide))
     exact (HC2.out.trans R2.out (fun j hj=>Or.inr (HO2.out.lt j (by simpa using hj)).1)).trans hset (fun j hj=>Or.inl hj)
    have e:b=5:=by omega
    subst e;have HROW:=lh (pairsK_row a hlt);rw[HROW.out] at HO2;clear hbl
    go_wp2_with fail
    exact⟨⟨a+1,by omega,by go_num,v2,HH2.out,HO2.out,HC2.out⟩,by simp[intOf];omega⟩
  have e:a=5:=by omega
  subst e;have h0:=HC.out.heap RA.out (by simp);have c0:=(cell_of_row _ _ 0 _ _ _ HH.out).trans (show _=some (Value.int .i64 5) from rfl);have c1:=(cell_of_row _ _ 1 _ _ _ HH.out).trans (show _=some v from rfl);have a0:=(cell_of_row _ _ 0 _ _ _ h0).trans (show _=some (Value.int .i64 0) from rfl);have a1:=(cell_of_row _ _ 1 _ _ _ h0).trans (show _=some (Value.slice none 0 0) from rfl);have f0:=free_at h0 0;have f1:=free_at h0 1;obtain⟨ao,cp,rfl⟩:=owns_shape HO.out;clear hlt ha;go_wp2;have hfin:=heap_setCell_same (heap_setCell_same h0 0 (.int .i64 5)) 1 (.slice ao (pairsK 5 6).length cp);have z0:=(cell_of_row _ _ 0 _ _ _ hfin).trans (show _=some (Value.int .i64 5) from rfl);have z1:=(cell_of_row _ _ 1 _ _ _ hfin).trans (show _=some (Value.slice ao (pairsK 5 6).length cp) from rfl);have hset:Chg [ab] wr ((wr.setCell ⟨ab,0,none⟩ (.int .i64 5)).setCell ⟨ab,1,none⟩ (.slice ao (pairsK 5 6).length cp)):=((Chg.refl _ _).setCell (Or.inl (by simp)) _).setCell (Or.inl (by simp)) _;generalize (wr.setCell ⟨ab,0,none⟩ (.int .i64 5)).setCell ⟨ab,1,none⟩ (.slice ao (pairsK 5 6).length cp)=w9 at *;refine bodyPost_ret (v:=.agg #[.int .i64 5,.slice ao (pairsK 5 6).length cp]) (by simp[results,Tryz.results42,go_sem,z0,z1]) rfl ?_;have hrow:=owns_chg HO.out hset (fun j hj hm=>by
   have h1:=(HO.out.lt j hj).1;rw[List.mem_singleton] at hm;omega)
  refine⟨_,rfl,grAt_row (g:=Plain.gK) (B:=w1.heap.size) (I64.mk (by decide) (by decide)) (fun i hi=>?_) (by decide) hrow,?_⟩
  ·have h1:=(show ∀ i,i<10→(0≤(Plain.gK.ends i).1∧(Plain.gK.ends i).1<5)∧0≤(Plain.gK.ends i).2∧(Plain.gK.ends i).2<5 by decide) i hi
   exact⟨I64.mk (by omega) (by omega),I64.mk (by omega) (by omega)⟩
  refine (HXC.out.trans HC.out (fun j hj=>Or.inr ?_)).trans hset (fun j hj=>Or.inr ?_)
  ·rw[List.mem_singleton.1 hj,HAB.out];omega
  rw[List.mem_singleton.1 hj,HAB.out];exact Nat.le_refl _
set_option maxRecDepth 100000 in
set_option maxHeartbeats 4000000 in
theorem awake12_any (w:World):Calls Tryz.prog 10 #[] w fun e w'=>e=.returned (.bool true)∧Chg [] w w':=by
 have HXC:=lh (show Chg [] w ((w.alloc (.cells #[.int .i64 0,.int .i64 1,.int .i64 0,.int .i64 1] 65)).alloc (.cells #[.int .i64 2,.slice (some ⟨w.heap.size,0,none⟩) 2 2] 24)) from (show Chg [] w ((w.alloc (.cells #[.int .i64 0,.int .i64 1,.int .i64 0,.int .i64 1] 65)).alloc (.cells #[.int .i64 2,.slice (some ⟨w.heap.size,0,none⟩) 2 2] 24)) from (((Chg.refl [] w).alloc _).alloc _)));have qbx0:=heap_alloc_new w (.cells #[.int .i64 0,.int .i64 1,.int .i64 0,.int .i64 1] 65);replace qbx0:=(show Chg [] (w.alloc (.cells #[.int .i64 0,.int .i64 1,.int .i64 0,.int .i64 1] 65)) ((w.alloc (.cells #[.int .i64 0,.int .i64 1,.int .i64 0,.int .i64 1] 65)).alloc (.cells #[.int .i64 2,.slice (some ⟨w.heap.size,0,none⟩) 2 2] 24)) from ((Chg.refl [] (w.alloc (.cells #[.int .i64 0,.int .i64 1,.int .i64 0,.int .i64 1] 65))).alloc _)).heap qbx0 (by simp);have qbx1:=heap_alloc_new (w.alloc (.cells #[.int .i64 0,.int .i64 1,.int .i64 0,.int .i64 1] 65)) (.cells #[.int .i64 2,.slice (some ⟨w.heap.size,0,none⟩) 2 2] 24);rw[show (w.alloc (.cells #[.int .i64 0,.int .i64 1,.int .i64 0,.int .i64 1] 65)).heap.size=w.heap.size+1 by simp] at qbx1;have HX:=lh (fun (w2:World) (hbx:Chg [] ((w.alloc (.cells #[.int .i64 0,.int .i64 1,.int .i64 0,.int .i64 1] 65)).alloc (.cells #[.int .i64 2,.slice (some ⟨w.heap.size,0,none⟩) 2 2] 24)) w2)=>(⟨hbx.heap qbx0 (by simp),hbx.c ((cell_of_row _ _ 0 _ _ _ qbx1).trans rfl),hbx.c ((cell_of_row _ _ 1 _ _ _ qbx1).trans rfl),by have hz:=hbx.size;simpa using hz⟩:w2.heap[w.heap.size]?=some (.cells #[.int .i64 0,.int .i64 1,.int .i64 0,.int .i64 1] 65 (0,0))∧w2.cell? ⟨w.heap.size+1,0,none⟩=some (.int .i64 2)∧w2.cell? ⟨w.heap.size+1,1,none⟩=some (.slice (some ⟨w.heap.size,0,none⟩) 2 2)∧w.heap.size+2≤w2.heap.size));clear qbx0 qbx1;have HXZ:=lh (show ((w.alloc (.cells #[.int .i64 0,.int .i64 1,.int .i64 0,.int .i64 1] 65)).alloc (.cells #[.int .i64 2,.slice (some ⟨w.heap.size,0,none⟩) 2 2] 24)).heap.size=w.heap.size+2 by simp);obtain⟨re,g0,g1,-⟩:=HX.out _ (Chg.refl _ _)
 go_enter Tryz.func10,Tryz.ntmps10
 go_wp2_with fail
 generalize ((w.alloc (.cells #[.int .i64 0,.int .i64 1,.int .i64 0,.int .i64 1] 65)).alloc (.cells #[.int .i64 2,.slice (some ⟨w.heap.size,0,none⟩) 2 2] 24))=w1 at *;have HGW:=lh (gr_two re);clear re;have hS0:Chg [] w1 w1.drew:=(Chg.refl [] w1).drew;refine wp_region_way (Chg [] w1) [0,1,4,5,6,7,8] (Way.line [0,1,2,3,4,5,6,7,8] .done) (by kernel_rfl) (by kernel_rfl) ?_;simp only[Way.line]
 repeat
  first
   | (refine along_off rfl (by rfl) (by rfl) (fun _ _ _ h=>h) hS0 ?_;simp only[Act.put,Z1,Z2,Z3,Z4,Z5,Z6])
   | (refine along_read (v:=?_) rfl (by rfl) (by rfl) (fun _ _ _ h=>h) hS0 (fun w' hS'=>?_) ?_;rotate_left;(focus (have rd0:=hS'.c g0;have rd1:=hS'.c g1;clear hS';go_simp;try with_reducible rfl));simp only[Act.put,Z1,Z2,Z3,Z4,Z5,Z6])
   | (refine along_skip rfl (by rfl) (by rfl) hS0 ?_;simp only[Act.put,Z1,Z2,Z3,Z4,Z5,Z6])
 refine along_op rfl (by rfl) (by rfl) (fun K hK=>?_);go_simp;refine (whole_any _ Plain.gW 2 _ rfl (by decide) (by decide) (HGW.out.fresh hS0)).mono ?_;rintro e w2 ⟨v1,v2,rfl,r1,r2,hc2⟩;have hS1:Chg [] w1 w2:=hS0.t hc2;refine hK.out _ _ (fun _=>hS1) ?_;clear hK K hS0 hc2
 try simp only[Act.put,Z1,Z2,Z3,Z4,Z5,Z6]
 repeat
  first
   | (refine along_off rfl (by rfl) (by rfl) (fun _ _ _ h=>h) hS1 ?_;simp only[Act.put,Z1,Z2,Z3,Z4,Z5,Z6])
   | (refine along_read (v:=?_) rfl (by rfl) (by rfl) (fun _ _ _ h=>h) hS1 (fun w' hS'=>?_) ?_;rotate_left;(focus (have rd0:=hS'.c g0;have rd1:=hS'.c g1;clear hS';go_simp;try with_reducible rfl));simp only[Act.put,Z1,Z2,Z3,Z4,Z5,Z6])
   | (refine along_skip rfl (by rfl) (by rfl) hS1 ?_;simp only[Act.put,Z1,Z2,Z3,Z4,Z5,Z6])
 refine along_op rfl (by rfl) (by rfl) (fun K hK=>?_);go_simp;refine (block_any _ _ Plain.gW Plain.pW _ (by decide) (HGW.out.fresh hS1) ⟨v1,v2,rfl,r1.ints,r2.ints⟩).mono ?_;rintro e w3 ⟨v3,err,t,rfl,hbr,hrows,hc3⟩;obtain⟨rfl,rfl⟩:=Plain.blockW hbr;have hS2:Chg [] w1 w3:=hS1.t hc3;have HRW:=lh hrows;obtain⟨ro,rc,rfl,-,-⟩:=hrows;refine hK.out _ _ (fun _=>hS2) ?_;clear hK K hc3
 try simp only[Act.put,Z1,Z2,Z3,Z4,Z5,Z6]
 repeat
  first
   | (refine along_off rfl (by rfl) (by rfl) (fun _ _ _ h=>h) hS2 ?_;simp only[Act.put,Z1,Z2,Z3,Z4,Z5,Z6])
   | (refine along_read (v:=?_) rfl (by rfl) (by rfl) (fun _ _ _ h=>h) hS2 (fun w' hS'=>?_) ?_;rotate_left;(focus (have rd0:=hS'.c g0;have rd1:=hS'.c g1;clear hS';go_simp;try with_reducible rfl));simp only[Act.put,Z1,Z2,Z3,Z4,Z5,Z6])
   | (refine along_skip rfl (by rfl) (by rfl) hS2 ?_;simp only[Act.put,Z1,Z2,Z3,Z4,Z5,Z6])
 refine along_done ?_;have HS2:=lh hS2;clear hS1 hS2 r1 r2 hbr g0 g1
 go_wp2_with fail
 refine (full_any _).mono ?_;rintro e w4 ⟨v4,rfl,hg4,hc4⟩;have HG4:=lh hg4;have HC4:=lh (HS2.out.t hc4);have HR4:=lh (HRW.out.fresh hc4);clear hc4 hg4
 go_wp2_with fail
 refine (full_any _).mono ?_;rintro e w5 ⟨v5,rfl,hg5,hc5⟩;have HG5:=lh hg5;have HG45:=lh (HG4.out.fresh hc5);have HC5:=lh (HC4.out.t hc5);have HR5:=lh (HR4.out.fresh hc5);clear hc5 hg5
 go_wp2_with fail
 refine (whole_any _ Plain.gK 5 _ rfl (by decide) (by decide) HG5.out).mono ?_;rintro e w6 ⟨v6,v7,rfl,r6,r7,hc6⟩;have HP6:=lh (show PtAt w6 (.agg #[v6,v7]) Plain.pK from⟨v6,v7,rfl,r6.ints,r7.ints⟩);have HG6:=lh (HG45.out.fresh hc6);have HC6:=lh (HC5.out.t hc6);have HR6:=lh (HR5.out.fresh hc6);clear hc6 r6 r7
 go_wp2_with fail
 refine (block_any _ _ Plain.gK Plain.pK _ (by decide) HG6.out HP6.out).mono ?_;rintro e w7 ⟨v8,err,t,rfl,hbr,-,hc7⟩;obtain rfl:=Plain.blockK hbr;have HC7:=lh (HC6.out.t hc7);have HR7:=lh (HR6.out.fresh hc7);clear hc7 hbr
 go_wp2_with fail
 have hlit:=tW_at w7;have hcl:=(((Chg.refl [] w7).alloc (.cells #[.int .i64 0,.int .i64 2] 3)).alloc (.cells #[.int .i64 1,.int .i64 3] 3)).alloc (.cells #[.slice (some ⟨w7.heap.size,0,none⟩) 2 2,.slice (some ⟨w7.heap.size+1,0,none⟩) 2 2] 25);have HC8:=lh (HC7.out.t hcl);refine (refEquals_any _ _ Plain.tW Plain.tW _ (HR7.out.fresh hcl) hlit).mono ?_;rintro e w9 ⟨rfl,hc9⟩;have HC9:=lh (HC8.out.t hc9);have hdt:decide (Plain.tW=Plain.tW)=true:=by simp
 rw[hdt];clear hc9 hlit hcl;go_wp2;go_ret;exact⟨rfl,HXC.out.t HC9.out⟩
namespace Plain
def small12 (g:Gr) (p:Pt):Bool:=small6 g p []&&decide (p.e.length≤24)&&decide (p.v.length≤20)
theorem small12_is {g:Gr} {p:Pt} (h:small12 g p=true):p.e.length≤24∧p.v.length≤20∧g.e.length≤60:=by
 unfold small12 small6 small4 at h;simp only[Bool.and_eq_true,decide_eq_true_iff] at h;omega
theorem turn_len {g:Gr} {p:Pt} {turn:List (List Int)} (h:TurnsOk g p turn) (v:Int):(turnAt turn v).length≤p.darts.length:=by
 by_cases q:(v.toNat:Int)<g.n
 ·have e:turnAt turn v=turnAt turn (v.toNat:Int):=by unfold turnAt;rw[Int.toNat_natCast]
  rw[e];exact len_le_of_sub (h.nodup _) fun x hx=>((h.mem _ (by omega) q x).1 hx).1
 have e:turnAt turn v=[]:=by
  unfold turnAt;have:=h.len;rw[List.getD,List.getElem?_eq_none (by omega)];rfl
 rw[e];simp
theorem BlockR.bad {g:Gr} {p:Pt} {err:Int} {t:List (List Int)} (h:BlockR g p err t) (h0:p.err g≠0):err=p.err g∧t=[]:=by
 rcases h with ⟨-,h1,h2⟩ | ⟨h,-⟩ | ⟨h,-⟩ | ⟨h,-⟩
 ·exact⟨h1,h2⟩
 ·exact absurd h h0
 ·exact absurd h h0
 exact absurd h h0
theorem BlockR.split {g:Gr} {p:Pt} {err:Int} {t:List (List Int)} (h:BlockR g p err t) (h0:p.err g=0) (hs:¬ SolidP g p):err=10∧t=[]:=by
 rcases h with ⟨h,-⟩ | ⟨-,-,h1,h2⟩ | ⟨-,h,-⟩ | ⟨-,h,-⟩
 ·exact absurd h0 h
 ·exact⟨h1,h2⟩
 ·exact absurd h hs
 exact absurd h hs
theorem BlockR.solid {g:Gr} {p:Pt} {err:Int} {t:List (List Int)} (h:BlockR g p err t) (h0:p.err g=0) (hs:SolidP g p):((2<p.e.length∧drawF g p=none)∧err=8∧t=[])∨((p.e.length=1∨drawF g p≠none)∧err=0∧flatErr g p t=0∧TurnsOk g p t∧t.map first=t):=by
 rcases h with ⟨h,-⟩ | ⟨-,h,-⟩ | ⟨-,-,hd,h1,h2⟩ | ⟨-,-,h1,hd,turn,F,hF,h2⟩
 ·exact absurd h0 h
 ·exact absurd hs h
 ·exact Or.inl ⟨hd,h1,h2⟩
 refine Or.inr ⟨hd,h1,?_,?_,?_⟩
 ·rw[h2,flatErr_first]
  refine hF.flat fun q=>?_;obtain⟨e,l,he,-⟩:=hs.1;have:=((Pt.ok_of_err h0).ends e (by rw[he];simp)).1;rw[q] at this;simp at this
 ·rw[h2];exact hF.to_.first
 rw[h2,List.map_map];refine List.map_congr_left fun l _=>first_first l
theorem BlockR.twice {g:Gr} {p:Pt} {err err2:Int} {t t2:List (List Int)} (h:BlockR g p err t) (h2:BlockR g p err2 t2) (h0:p.err g=0) (hs:SolidP g p):err2=err:=by
 rcases h.solid h0 hs with ⟨⟨a1,a2⟩,a3,-⟩ | ⟨a1,a3,-⟩ <;> rcases h2.solid h0 hs with ⟨⟨b1,b2⟩,b3,-⟩ | ⟨b1,b3,-⟩
 ·rw[a3,b3]
 ·rcases b1 with q | q
  ·omega
  exact absurd a2 q
 ·rcases a1 with q | q
  ·omega
  exact absurd b2 q
 rw[a3,b3]
end Plain
set_option maxRecDepth 100000 in
set_option maxHeartbeats 4000000 in
theorem small12_any (vg vp:Value) (g:Plain.Gr) (p:Plain.Pt) (w:World) (hg:GrAt w vg g) (hp:PtAt w vp p) :
  Calls Tryz.prog 11 #[vg,vp] w fun e w'=>e=.returned (.bool (Plain.small12 g p))∧Chg [] w w':=by
 have HG:=lh hg;have HP:=lh hp;obtain⟨eo,cap,rfl,hn,hm,hsm,hcell⟩:=hg;obtain⟨v1,v2,rfl,hv,he⟩:=hp;obtain⟨ao,ac,rfl,has,ham,hacell⟩:=hv;obtain⟨bo,bc,rfl,hbs,hbm,hbcell⟩:=he;have HAC:=lh hacell;have HBC:=lh hbcell;have HAS:=lh has;have HBS:=lh hbs;obtain⟨-,-,hc1⟩:=box_two w #[.int .i64 g.n,.slice eo g.e.length cap] #[.slice ao p.v.length ac,.slice bo p.e.length bc] 24 27;have HC1:=lh hc1;have HBXS:=lh (fun w2 h=>two_boxes w (g:=g) (p:=p) (eo:=eo) (ao:=ao) (bo:=bo) (cap:=cap) (ac:=ac) (bc:=bc) (w2:=w2) h);clear hcell hacell hbcell hsm has hbs hn hc1;obtain⟨x0,x1,y0,y1,hsz⟩:=HBXS.out _ (Chg.refl _ _)
 go_enter Tryz.func11,Tryz.ntmps11
 go_wp2_with fail
 obtain⟨w1,hw1⟩:∃ w1,((w.alloc (.cells #[.int .i64 g.n,.slice eo g.e.length cap] 24)).alloc (.cells #[.slice ao p.v.length ac,.slice bo p.e.length bc] 27))=w1:=⟨_,rfl⟩;rw[hw1] at HC1 HBXS ⊢;clear hw1 x0 x1 y0 y1 hsz;refine (small6_any _ _ _ g p [] _ (HG.out.fresh HC1.out) (HP.out.fresh HC1.out) (rows_nil _)).mono ?_;rintro e w2 ⟨rfl,hc2⟩;have HC2:=lh (HC1.out.t hc2);obtain⟨x0,x1,y0,y1,hsz⟩:=HBXS.out _ hc2;have HSM:=lh (show Plain.small12 g p=(Plain.small6 g p []&&decide (p.e.length≤24)&&decide (p.v.length≤20)) from rfl);clear hc2;cases hb:Plain.small6 g p [] with
 | false =>
  rw[hb] at HSM;rw[show bit false=0 from rfl];clear hb;go_wp2;go_ret;exact⟨ret_bool (by rw[HSM.out];first | rfl | simp <;> omega),HC2.out⟩
 | true =>
  rw[hb] at HSM;rw[show bit true=1 from rfl];clear hb;by_cases h1:p.e.length≤24
  ·have e1:decide (p.e.length≤24)=true:=decide_eq_true h1
   have i1:(p.e.length:Int)≤24:=by omega
   rw[e1] at HSM;by_cases h2:p.v.length≤20
   ·have e2:decide (p.v.length≤20)=true:=decide_eq_true h2
    have i2:(p.v.length:Int)≤20:=by omega
    rw[e2] at HSM;go_wp2;go_ret;exact⟨ret_bool (by rw[HSM.out];first | rfl | simp <;> omega),HC2.out⟩
   have e2:decide (p.v.length≤20)=false:=decide_eq_false h2;have i2:¬ (p.v.length:Int)≤20:=by omega
   rw[e2] at HSM;go_wp2;go_ret;exact⟨ret_bool (by rw[HSM.out];first | rfl | simp <;> omega),HC2.out⟩
  have e1:decide (p.e.length≤24)=false:=decide_eq_false h1;have i1:¬ (p.e.length:Int)≤24:=by omega
  rw[e1] at HSM;go_wp2;go_ret;exact⟨ret_bool (by rw[HSM.out];first | rfl | simp <;> omega),HC2.out⟩
set_option maxRecDepth 100000 in
set_option maxHeartbeats 4000000 in
theorem planar_any (vg vp:Value) (g:Plain.Gr) (p:Plain.Pt) (w:World) (hpl:p.v.length≤100000) (hg:GrAt w vg g) (hp:PtAt w vp p) :
  Calls Tryz.prog 14 #[vg,vp] w fun e w'=>∃ err t,e=.returned (.bool (decide (err=0)))∧Plain.BlockR g p err t∧Chg [] w w':=by
 have HG:=lh hg;have HP:=lh hp;obtain⟨eo,cap,rfl,hn,hm,hsm,hcell⟩:=hg;obtain⟨v1,v2,rfl,hv,he⟩:=hp;obtain⟨ao,ac,rfl,has,ham,hacell⟩:=hv;obtain⟨bo,bc,rfl,hbs,hbm,hbcell⟩:=he;have HAC:=lh hacell;have HBC:=lh hbcell;have HAS:=lh has;have HBS:=lh hbs;obtain⟨-,-,hc1⟩:=box_two w #[.int .i64 g.n,.slice eo g.e.length cap] #[.slice ao p.v.length ac,.slice bo p.e.length bc] 24 27;have HC1:=lh hc1;have HBXS:=lh (fun w2 h=>two_boxes w (g:=g) (p:=p) (eo:=eo) (ao:=ao) (bo:=bo) (cap:=cap) (ac:=ac) (bc:=bc) (w2:=w2) h);clear hcell hacell hbcell hsm has hbs hn hc1;obtain⟨x0,x1,y0,y1,hsz⟩:=HBXS.out _ (Chg.refl _ _)
 go_enter Tryz.func14,Tryz.ntmps14
 go_wp2_with fail
 obtain⟨w1,hw1⟩:∃ w1,((w.alloc (.cells #[.int .i64 g.n,.slice eo g.e.length cap] 24)).alloc (.cells #[.slice ao p.v.length ac,.slice bo p.e.length bc] 27))=w1:=⟨_,rfl⟩;rw[hw1] at HC1 HBXS ⊢;clear hw1 x0 x1 y0 y1 hsz;refine (block_any _ _ g p _ hpl (HG.out.fresh HC1.out) (HP.out.fresh HC1.out)).mono ?_;rintro e w2 ⟨v,err,t,rfl,hbr,-,hc2⟩;have HC2:=lh (HC1.out.t hc2);have HBR:=lh hbr;clear hc2 hbr;by_cases h:err=0
 ·subst h
  go_wp2;go_ret;exact⟨0,t,rfl,HBR.out,HC2.out⟩
 have hb:(err==0)=false:=by simpa using h
 go_wp2;go_ret;exact⟨err,t,ret_bool (by first | exact (decide_eq_false h).symm | simp[h,hb]),HBR.out,HC2.out⟩
set_option maxRecDepth 100000 in
set_option maxHeartbeats 8000000 in
theorem drawSphere_any (vg vp:Value) (g:Plain.Gr) (p:Plain.Pt) (w:World) (hg:GrAt w vg g) (hp:PtAt w vp p) :
  Calls Tryz.prog 3 #[vg,vp] w fun e w'=>e=.returned (.bool true)∧Chg [] w w':=by
 have HG:=lh hg;have HP:=lh hp;obtain⟨eo,cap,rfl,hn,hm,hsm,hcell⟩:=hg;obtain⟨v1,v2,rfl,hv,he⟩:=hp;obtain⟨ao,ac,rfl,has,ham,hacell⟩:=hv;obtain⟨bo,bc,rfl,hbs,hbm,hbcell⟩:=he;have HAC:=lh hacell;have HBC:=lh hbcell;have HAS:=lh has;have HBS:=lh hbs;obtain⟨-,-,hc1⟩:=box_two w #[.int .i64 g.n,.slice eo g.e.length cap] #[.slice ao p.v.length ac,.slice bo p.e.length bc] 24 27;have HC1:=lh hc1;have HBXS:=lh (fun w2 h=>two_boxes w (g:=g) (p:=p) (eo:=eo) (ao:=ao) (bo:=bo) (cap:=cap) (ac:=ac) (bc:=bc) (w2:=w2) h);clear hcell hacell hbcell hsm has hbs hn hc1
 go_enter Tryz.func3,Tryz.ntmps3
 go_wp2_with fail
 refine (awake12_any _).mono ?_;rintro e w2 ⟨rfl,hc2⟩;obtain⟨x0,x1,y0,y1,hsz⟩:=HBXS.out w2 hc2;have HC2:=lh (HC1.out.t hc2);have HC2B:=lh hc2;clear hc2
 go_wp2_with fail
 refine (small12_any _ _ g p _ (HG.out.fresh HC2.out) (HP.out.fresh HC2.out)).mono ?_;rintro e w3 ⟨rfl,hc3⟩;have HC3:=lh (HC2.out.t hc3);have HC3B:=lh (HC2B.out.t hc3);clear x0 x1 y0 y1 hsz hc3;cases hb:Plain.small12 g p with
 | false =>
  clear hb
  go_wp2_with fail
  refine (awake12_any _).mono ?_;rintro e w4 ⟨rfl,hc4⟩;have HC4:=lh (HC3.out.t hc4);clear hc4;go_wp2;go_ret;exact⟨rfl,HC4.out⟩
 | true =>
  obtain⟨b1,b2,b3⟩:=Plain.small12_is hb;have hpv:p.v.length≤100000:=by omega
  have hpv2:p.v.length<4294967296:=by omega
  have hpe2:p.e.length<4294967296:=by omega
  have hgl2:g.e.length<4294967296:=by omega
  have hpe3:p.e.length≤1000:=by omega
  have hpv3:p.v.length≤1000:=by omega
  obtain⟨x0,x1,y0,y1,hsz⟩:=HBXS.out w3 HC3B.out;clear hb
  go_wp2_with fail
  refine (block_any _ _ g p _ hpv (HG.out.fresh HC3.out) (HP.out.fresh HC3.out)).mono ?_;rintro e w4 ⟨v,err,t,rfl,hbr,hrows,hc4⟩;have HBR:=lh hbr;have HRW:=lh hrows;have HC4:=lh (HC3.out.t hc4);have HC4B:=lh (HC3B.out.t hc4);obtain⟨ro,rc,rfl,-,-⟩:=hrows;clear x0 x1 y0 y1 hsz hc4 hbr;obtain⟨x0,x1,y0,y1,hsz⟩:=HBXS.out w4 HC4B.out
  go_wp2_with fail
  refine (refPart_any _ _ g p _ hpv2 hpe2 hgl2 (HG.out.fresh HC4.out) (HP.out.fresh HC4.out)).mono ?_;rintro e w5 ⟨rfl,hc5⟩;have HC5:=lh (HC4.out.t hc5);have HC5B:=lh (HC4B.out.t hc5);have HR5:=lh (HRW.out.fresh hc5);clear x0 x1 y0 y1 hsz hc5 HRW;obtain⟨x0,x1,y0,y1,hsz⟩:=HBXS.out w5 HC5B.out;by_cases h0:p.err g=0
  ·rw[h0]
   have H0:=lh h0;clear h0
   go_wp2_with fail
   refine (refSol_any _ _ g p _ H0.out (HG.out.fresh HC5.out) (HP.out.fresh HC5.out)).mono ?_;rintro e w6 ⟨rfl,hc6⟩;have HC6:=lh (HC5.out.t hc6);have HC6B:=lh (HC5B.out.t hc6);have HR6:=lh (HR5.out.fresh hc6);clear x0 x1 y0 y1 hsz hc6 HR5;obtain⟨x0,x1,y0,y1,hsz⟩:=HBXS.out w6 HC6B.out;cases hs:Plain.solidB g p with
   | false =>
    have hns:¬ Plain.SolidP g p:=fun q=>by rw[Plain.solidB_iff.2 ⟨H0.out,q⟩] at hs;cases hs
    obtain⟨rfl,rfl⟩:=HBR.out.split H0.out hns;have HNS:=lh hns;clear hs hns
    go_wp2_with fail
    refine (planar_any _ _ g p _ hpv (HG.out.fresh HC6.out) (HP.out.fresh HC6.out)).mono ?_;rintro e w7 ⟨err2,t2,rfl,hbr2,hc7⟩;obtain⟨rfl,rfl⟩:=hbr2.split H0.out HNS.out;have HC7:=lh (HC6.out.t hc7);rw[show decide ((10:Int)=0)=false from rfl];clear hc7 hbr2;go_wp2;go_ret;exact⟨rfl,HC7.out⟩
   | true =>
    have hsol:Plain.SolidP g p:=(Plain.solidB_iff.1 hs).2;have HSO:=lh hsol;clear hs;rcases HBR.out.solid H0.out hsol with ⟨-,rfl,rfl⟩ | ⟨-,rfl,hfl,hto,hfi⟩
    ·clear hsol
     go_wp2_with fail
     refine (planar_any _ _ g p _ hpv (HG.out.fresh HC6.out) (HP.out.fresh HC6.out)).mono ?_;rintro e w7 ⟨err2,t2,rfl,hbr2,hc7⟩;have HC7:=lh (HC6.out.t hc7);obtain rfl:=HBR.out.twice hbr2 H0.out HSO.out;rw[show decide ((8:Int)=0)=false from rfl];clear hc7 hbr2;go_wp2;go_ret;exact⟨rfl,HC7.out⟩
    have HFL:=lh hfl;have HTO:=lh hto;have HFI:=lh hfi;have HDL:=lh (Plain.darts_length p);have htl:∀ v,(Plain.turnAt t v).length≤48:=fun v=>by
     have h1:=Plain.turn_len HTO.out v;have h2:=HDL.out;omega
    have HTL:=lh (show ∀ v,(Plain.turnAt t v).length<4294967296 from fun v=>by have:=htl v;omega);have HTI:=lh (show ∀ i,(t.getD i []).length<1000000000 from fun i=>by
     have h1:=htl (i:Int);unfold Plain.turnAt at h1;rw[Int.toNat_natCast] at h1;omega)
    have htn:t.length<1000000000:=by
     have h1:=HTO.out.len;have h2:=(Plain.Gr.err_ok (Plain.Pt.err_ok H0.out).1).2.1;omega
    clear hsol hfl hto hfi htl
    go_wp2_with fail
    refine (refSphere_any _ _ _ g p t _ hpe3 hpv3 hgl2 HTL.out (HG.out.fresh HC6.out) (HP.out.fresh HC6.out) HR6.out).mono ?_;rw[HFL.out,show decide ((0:Int)=0)=true from rfl];rintro e w7 ⟨rfl,hc7⟩;have HC7:=lh (HC6.out.t hc7);have HC7B:=lh (HC6B.out.t hc7);have HR7:=lh (HR6.out.fresh hc7);clear x0 x1 y0 y1 hsz hc7
    go_wp2_with fail
    refine (refFirsts_any _ t _ htn HTI.out HR7.out).mono ?_;rw[HFI.out];rintro e w8 ⟨ov,vs,rfl,-,hr8,hc8⟩;have HC8:=lh (HC7.out.t hc8);have HC8B:=lh (HC7B.out.t hc8);have HR8:=lh (HR7.out.fresh hc8);have HQ8:=lh hr8;clear hc8 hr8
    go_wp2_with fail
    refine (refEquals_any _ _ t t _ HR8.out HQ8.out).mono ?_;rw[show decide (t=t)=true by simp];rintro e w9 ⟨rfl,hc9⟩;have HC9:=lh (HC8.out.t hc9);have HC9B:=lh (HC8B.out.t hc9);clear hc9;obtain⟨x0,x1,y0,y1,hsz⟩:=HBXS.out w9 HC9B.out
    go_wp2_with fail
    refine (planar_any _ _ g p _ hpv (HG.out.fresh HC9.out) (HP.out.fresh HC9.out)).mono ?_;rintro e w10 ⟨err2,t2,rfl,hbr2,hc10⟩;have HC10:=lh (HC9.out.t hc10);obtain rfl:=HBR.out.twice hbr2 H0.out HSO.out;rw[show decide ((0:Int)=0)=true from rfl];clear hc10 hbr2;go_wp2;go_ret;exact⟨rfl,HC10.out⟩
  obtain⟨he,ht⟩:=HBR.out.bad h0;have HE:=lh he;have H0:=lh h0;subst ht;obtain⟨er,her⟩:∃ er,p.err g=er:=⟨_,rfl⟩;have HER:=lh her;rw[her] at h0 he ⊢;subst he;have hb:(err==0)=false:=by simpa using h0
  have hb2:(err != 0)=true:=by simpa using h0
  clear her
  go_wp2_with fail
  refine (refPart_any _ _ g p _ hpv2 hpe2 hgl2 (HG.out.fresh HC5.out) (HP.out.fresh HC5.out)).mono ?_;rw[HER.out];rintro e w6 ⟨rfl,hc6⟩;have HC6:=lh (HC5.out.t hc6);have HC6B:=lh (HC5B.out.t hc6);clear x0 x1 y0 y1 hsz hc6;obtain⟨x0,x1,y0,y1,hsz⟩:=HBXS.out w6 HC6B.out
  go_wp2_with fail
  refine (planar_any _ _ g p _ hpv (HG.out.fresh HC6.out) (HP.out.fresh HC6.out)).mono ?_;rintro e w7 ⟨err2,t2,rfl,hbr2,hc7⟩;have HC7:=lh (HC6.out.t hc7);obtain⟨he2,-⟩:=hbr2.bad H0.out;have hd:decide (err2=0)=false:=decide_eq_false (by rw[he2];exact H0.out);rw[hd];clear hc7 hbr2 he2 hd;go_wp2;go_ret;exact⟨rfl,HC7.out⟩
end Go.Proofs.YtmhcmnaecpagiaaGreat
