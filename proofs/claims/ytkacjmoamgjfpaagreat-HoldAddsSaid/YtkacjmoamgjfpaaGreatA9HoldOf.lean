/- graph.And, graph.Or, hold.Of: contracts. Conditions: parts, a case that lie in memory and read so, of a bounded size. -/
import Derived.Test.YtkacjmoamgjfpaaGreatA9Around2
namespace Go.Proofs.YtkacjmoamgjfpaaGreat
open Go.RowKit Go.Maps
theorem iB.nJ {w w':World} {B:Nat} {v:Value} {l:List Int} {own:List Nat} (h:aM w B v l) (hc:Chg own w w') (ho:∀ j∈own,j<B):iB w' v l:=by
 have h2:=h.chg hc (fun b hb e=>by have:=(h.low b hb).1;have:=ho b e;omega);exact⟨h2.ints,gI.row h2⟩
set_option maxRecDepth 100000 in
set_option maxHeartbeats 2000000 in
theorem aIA (va vb:Value) (a b:aA.Pt) (w:World) (h1:a.v.length≤1000000) (h2:a.e.length≤1000000) (h3:b.v.length≤1000000) (h4:b.e.length≤1000000) (ha:PtC w va a) (hb:PtC w vb b) :
  Calls Tryz.prog 26 #[va,vb] w fun e w'=>∃ ov,e=.returned ov∧(∀ own wx,Chg own w' wx→(∀ j∈own,j<w.heap.size)→PtC wx ov ⟨aA.bL false a.v b.v,aA.bL false a.e b.e⟩)∧Chg [] w w':=by
 have HA:=lh ha;have HB:=lh hb;obtain⟨ao,ac,bo,bc,rfl⟩:=ha.shape;obtain⟨co,cc,fo,fc,rfl⟩:=hb.shape;clear ha hb;have HXC:=lh (show Chg [] w (((w.alloc (.cells #[.slice ao a.v.length ac,.slice bo a.e.length bc] 29)).alloc (.cells #[.slice co b.v.length cc,.slice fo b.e.length fc] 29)).alloc (.cells #[.slice none 0 0,.slice none 0 0] 29)) from (show Chg [] w (((w.alloc (.cells #[.slice ao a.v.length ac,.slice bo a.e.length bc] 29)).alloc (.cells #[.slice co b.v.length cc,.slice fo b.e.length fc] 29)).alloc (.cells #[.slice none 0 0,.slice none 0 0] 29)) from ((((Chg.refl [] w).alloc _).alloc _).alloc _)));have qbx0:=heap_alloc_new w (.cells #[.slice ao a.v.length ac,.slice bo a.e.length bc] 29);replace qbx0:=(show Chg [] (w.alloc (.cells #[.slice ao a.v.length ac,.slice bo a.e.length bc] 29)) (((w.alloc (.cells #[.slice ao a.v.length ac,.slice bo a.e.length bc] 29)).alloc (.cells #[.slice co b.v.length cc,.slice fo b.e.length fc] 29)).alloc (.cells #[.slice none 0 0,.slice none 0 0] 29)) from (((Chg.refl [] (w.alloc (.cells #[.slice ao a.v.length ac,.slice bo a.e.length bc] 29))).alloc _).alloc _)).heap qbx0 (by simp);have qbx1:=heap_alloc_new (w.alloc (.cells #[.slice ao a.v.length ac,.slice bo a.e.length bc] 29)) (.cells #[.slice co b.v.length cc,.slice fo b.e.length fc] 29);rw[show (w.alloc (.cells #[.slice ao a.v.length ac,.slice bo a.e.length bc] 29)).heap.size=w.heap.size+1 by simp] at qbx1;replace qbx1:=(show Chg [] ((w.alloc (.cells #[.slice ao a.v.length ac,.slice bo a.e.length bc] 29)).alloc (.cells #[.slice co b.v.length cc,.slice fo b.e.length fc] 29)) (((w.alloc (.cells #[.slice ao a.v.length ac,.slice bo a.e.length bc] 29)).alloc (.cells #[.slice co b.v.length cc,.slice fo b.e.length fc] 29)).alloc (.cells #[.slice none 0 0,.slice none 0 0] 29)) from ((Chg.refl [] ((w.alloc (.cells #[.slice ao a.v.length ac,.slice bo a.e.length bc] 29)).alloc (.cells #[.slice co b.v.length cc,.slice fo b.e.length fc] 29))).alloc _)).heap qbx1 (by simp);have qbx2:=heap_alloc_new ((w.alloc (.cells #[.slice ao a.v.length ac,.slice bo a.e.length bc] 29)).alloc (.cells #[.slice co b.v.length cc,.slice fo b.e.length fc] 29)) (.cells #[.slice none 0 0,.slice none 0 0] 29);rw[show ((w.alloc (.cells #[.slice ao a.v.length ac,.slice bo a.e.length bc] 29)).alloc (.cells #[.slice co b.v.length cc,.slice fo b.e.length fc] 29)).heap.size=w.heap.size+2 by simp] at qbx2;have HX:=lh (fun (w2:World) (hbx:Chg [] (((w.alloc (.cells #[.slice ao a.v.length ac,.slice bo a.e.length bc] 29)).alloc (.cells #[.slice co b.v.length cc,.slice fo b.e.length fc] 29)).alloc (.cells #[.slice none 0 0,.slice none 0 0] 29)) w2)=>(⟨hbx.c ((cell_of_row _ _ 0 _ _ _ qbx0).trans rfl),hbx.c ((cell_of_row _ _ 1 _ _ _ qbx0).trans rfl),hbx.c ((cell_of_row _ _ 0 _ _ _ qbx1).trans rfl),hbx.c ((cell_of_row _ _ 1 _ _ _ qbx1).trans rfl),hbx.heap qbx2 (by simp),by have hz:=hbx.size;simpa using hz⟩:w2.cell? ⟨w.heap.size,0,none⟩=some (.slice ao a.v.length ac)∧w2.cell? ⟨w.heap.size,1,none⟩=some (.slice bo a.e.length bc)∧w2.cell? ⟨w.heap.size+1,0,none⟩=some (.slice co b.v.length cc)∧w2.cell? ⟨w.heap.size+1,1,none⟩=some (.slice fo b.e.length fc)∧w2.heap[w.heap.size+2]?=some (.cells #[.slice none 0 0,.slice none 0 0] 29 (0,0))∧w.heap.size+3≤w2.heap.size));clear qbx0 qbx1 qbx2;have HXZ:=lh (show (((w.alloc (.cells #[.slice ao a.v.length ac,.slice bo a.e.length bc] 29)).alloc (.cells #[.slice co b.v.length cc,.slice fo b.e.length fc] 29)).alloc (.cells #[.slice none 0 0,.slice none 0 0] 29)).heap.size=w.heap.size+3 by simp);have HM1:=lh (show ∀ w2,Chg [] w w2→iB w2 (.slice ao a.v.length ac) a.v∧iB w2 (.slice bo a.e.length bc) a.e from fun w2 h=>by
  obtain⟨v1,v2,e,k1,k2⟩:=HA.out.fresh h;cases e;exact⟨k1,k2⟩)
 have HM2:=lh (show ∀ w2,Chg [] w w2→iB w2 (.slice co b.v.length cc) b.v∧iB w2 (.slice fo b.e.length fc) b.e from fun w2 h=>by
  obtain⟨v1,v2,e,k1,k2⟩:=HB.out.fresh h;cases e;exact⟨k1,k2⟩)
 obtain⟨x0,x1,y0,y1,r8,hsz⟩:=HX.out _ (Chg.refl _ _);clear r8
 go_enter Tryz.func26,Tryz.ntmps26
 go_wp2;generalize (((w.alloc (.cells #[.slice ao a.v.length ac,.slice bo a.e.length bc] 29)).alloc (.cells #[.slice co b.v.length cc,.slice fo b.e.length fc] 29)).alloc (.cells #[.slice none 0 0,.slice none 0 0] 29))=w1 at *;have hS0:Chg [] w1 w1.drew:=(Chg.refl [] w1).drew;refine aF (Chg [] w1) [0,1,2,3,5,6,7,8,10] (Way.line [0,1,2,3,5,6,7,8,4,9,10,11] .done) (by kernel_rfl) (by kernel_rfl) ?_;simp only[Way.line]
 repeat
  first
   | (refine aE rfl (by rfl) (by rfl) (fun _ _ _ h=>h) hS0 ?_;simp only[Act.put,Z1,Z2,Z3,Z4,Z5,Z6])
   | (refine aC (v:=?_) rfl (by rfl) (by rfl) (fun _ _ _ h=>h) hS0 (fun w' hS'=>?_) ?_;rotate_left;(focus (have rd0:=hS'.c x0;have rd1:=hS'.c x1;have rd2:=hS'.c y0;have rd3:=hS'.c y1;clear hS';go_simp;try with_reducible rfl));simp only[Act.put,Z1,Z2,Z3,Z4,Z5,Z6])
   | (refine aD rfl (by rfl) (by rfl) hS0 ?_;simp only[Act.put,Z1,Z2,Z3,Z4,Z5,Z6])
 refine aI rfl (by rfl) (by rfl) (fun K hK=>?_);go_simp;refine (pM _ _ a.v b.v false _ h1 h3 (HM1.out _ (HXC.out.t hS0)).1 (HM2.out _ (HXC.out.t hS0)).1).mono ?_;rintro e w2 ⟨o1,rfl,hr1,hcx⟩;have HR1:=lh hr1;have HBW:=lh (Nat.le_trans (HX.out _ hS0).2.2.2.2.2 (Nat.le_refl _));have hS1:=hS0.t hcx;have HO1:=lh (show w.heap.size+3≤w2.heap.size from (HX.out _ hS1).2.2.2.2.2);clear hS0 hcx hr1;have hS0:=hS1;clear hS1;refine hK.out _ _ (fun _=>hS0) ?_;clear hK K
 try simp only[Act.put,Z1,Z2,Z3,Z4,Z5,Z6]
 refine aI rfl (by rfl) (by rfl) (fun K hK=>?_);go_simp;refine (pM _ _ a.e b.e false _ h2 h4 (HM1.out _ (HXC.out.t hS0)).2 (HM2.out _ (HXC.out.t hS0)).2).mono ?_;rintro e w3 ⟨o2,rfl,hr2,hcx⟩;have HR2:=lh hr2;have HR13:=lh (HR1.out.chg hcx (by simp));have hS1:=hS0.t hcx;clear hS0 hcx hr2;have hS0:=hS1;clear hS1;refine hK.out _ _ (fun _=>hS0) ?_;clear hK K
 try simp only[Act.put,Z1,Z2,Z3,Z4,Z5,Z6]
 obtain⟨p1,q1,rfl⟩:=HR13.out.shape;obtain⟨p2,q2,rfl⟩:=HR2.out.shape
 repeat
  first
   | (refine aE rfl (by rfl) (by rfl) (fun _ _ _ h=>h) hS0 ?_;simp only[Act.put,Z1,Z2,Z3,Z4,Z5,Z6])
   | (refine aC (v:=?_) rfl (by rfl) (by rfl) (fun _ _ _ h=>h) hS0 (fun w' hS'=>?_) ?_;rotate_left;(focus (skip;clear hS';go_simp;try with_reducible rfl));simp only[Act.put,Z1,Z2,Z3,Z4,Z5,Z6])
   | (refine aD rfl (by rfl) (by rfl) hS0 ?_;simp only[Act.put,Z1,Z2,Z3,Z4,Z5,Z6])
 have hr8:=(HX.out _ hS0).2.2.2.2.1;have HR8:=lh hr8;have r0:=(cell_of_row _ _ 0 _ _ _ hr8).trans (show _=some (Value.slice none 0 0) from rfl);have r1:=(cell_of_row _ _ 1 _ _ _ hr8).trans (show _=some (Value.slice none 0 0) from rfl);have f0:=bM hr8 0;have f1:=bM hr8 1;have HCW:=lh (HXC.out.t hS0);refine aI rfl (by rfl) (by rfl) (fun K hK=>?_);go_simp;refine hK.out _ _ (fun h=>absurd h (Bool.eq_false_iff.1 (by kernel_rfl))) ?_;clear hK K hr8
 try simp only[Act.put,Z1,Z2,Z3,Z4,Z5,Z6]
 refine aG ?_;clear x0 x1 y0 y1 hsz hS0 r0 r1 f0 f1;obtain⟨-,o0,o1,o2⟩:=eY HR8.out (.slice p1 (aA.bL false a.v b.v).length q1) (.slice p2 (aA.bL false a.e b.e).length q2);have O2:=lh o2;go_wp2;refine bodyPost_ret (v:=.agg #[.slice p1 (aA.bL false a.v b.v).length q1,.slice p2 (aA.bL false a.e b.e).length q2]) (by simp[results,Tryz.results26,go_sem,o0,o1]) rfl ?_;refine⟨_,rfl,fun own wx hcx ho=>?_,HCW.out.trans O2.out (fun j hj=>Or.inr (by simp at hj;omega))⟩;have hcc:Chg ((w.heap.size+2) :: own) w3 wx:=(O2.out.mono (by simp)).trans hcx (fun j hj=>Or.inl (List.mem_cons_of_mem _ hj));have hS3:=HX.out;refine⟨_,_,rfl,iB.nJ HR13.out hcc (fun j hj=>?_),iB.nJ HR2.out hcc (fun j hj=>?_)⟩
 ·rcases List.mem_cons.1 hj with e | e
  ·have:=HBW.out;omega
  have:=ho j e;have:=HBW.out;omega
 rcases List.mem_cons.1 hj with e | e
 ·have:=HO1.out;omega
 have:=ho j e;have:=HO1.out;omega
set_option maxRecDepth 100000 in
set_option maxHeartbeats 2000000 in
theorem aAI (va vb:Value) (a b:aA.Pt) (w:World) (h1:a.v.length≤1000000) (h2:a.e.length≤1000000) (h3:b.v.length≤1000000) (h4:b.e.length≤1000000) (ha:PtC w va a) (hb:PtC w vb b) :
  Calls Tryz.prog 81 #[va,vb] w fun e w'=>∃ ov,e=.returned ov∧(∀ own wx,Chg own w' wx→(∀ j∈own,j<w.heap.size)→PtC wx ov ⟨aA.bL true a.v b.v,aA.bL true a.e b.e⟩)∧Chg [] w w':=by
 have HA:=lh ha;have HB:=lh hb;obtain⟨ao,ac,bo,bc,rfl⟩:=ha.shape;obtain⟨co,cc,fo,fc,rfl⟩:=hb.shape;clear ha hb;have HXC:=lh (show Chg [] w (((w.alloc (.cells #[.slice ao a.v.length ac,.slice bo a.e.length bc] 29)).alloc (.cells #[.slice co b.v.length cc,.slice fo b.e.length fc] 29)).alloc (.cells #[.slice none 0 0,.slice none 0 0] 29)) from (show Chg [] w (((w.alloc (.cells #[.slice ao a.v.length ac,.slice bo a.e.length bc] 29)).alloc (.cells #[.slice co b.v.length cc,.slice fo b.e.length fc] 29)).alloc (.cells #[.slice none 0 0,.slice none 0 0] 29)) from ((((Chg.refl [] w).alloc _).alloc _).alloc _)));have qbx0:=heap_alloc_new w (.cells #[.slice ao a.v.length ac,.slice bo a.e.length bc] 29);replace qbx0:=(show Chg [] (w.alloc (.cells #[.slice ao a.v.length ac,.slice bo a.e.length bc] 29)) (((w.alloc (.cells #[.slice ao a.v.length ac,.slice bo a.e.length bc] 29)).alloc (.cells #[.slice co b.v.length cc,.slice fo b.e.length fc] 29)).alloc (.cells #[.slice none 0 0,.slice none 0 0] 29)) from (((Chg.refl [] (w.alloc (.cells #[.slice ao a.v.length ac,.slice bo a.e.length bc] 29))).alloc _).alloc _)).heap qbx0 (by simp);have qbx1:=heap_alloc_new (w.alloc (.cells #[.slice ao a.v.length ac,.slice bo a.e.length bc] 29)) (.cells #[.slice co b.v.length cc,.slice fo b.e.length fc] 29);rw[show (w.alloc (.cells #[.slice ao a.v.length ac,.slice bo a.e.length bc] 29)).heap.size=w.heap.size+1 by simp] at qbx1;replace qbx1:=(show Chg [] ((w.alloc (.cells #[.slice ao a.v.length ac,.slice bo a.e.length bc] 29)).alloc (.cells #[.slice co b.v.length cc,.slice fo b.e.length fc] 29)) (((w.alloc (.cells #[.slice ao a.v.length ac,.slice bo a.e.length bc] 29)).alloc (.cells #[.slice co b.v.length cc,.slice fo b.e.length fc] 29)).alloc (.cells #[.slice none 0 0,.slice none 0 0] 29)) from ((Chg.refl [] ((w.alloc (.cells #[.slice ao a.v.length ac,.slice bo a.e.length bc] 29)).alloc (.cells #[.slice co b.v.length cc,.slice fo b.e.length fc] 29))).alloc _)).heap qbx1 (by simp);have qbx2:=heap_alloc_new ((w.alloc (.cells #[.slice ao a.v.length ac,.slice bo a.e.length bc] 29)).alloc (.cells #[.slice co b.v.length cc,.slice fo b.e.length fc] 29)) (.cells #[.slice none 0 0,.slice none 0 0] 29);rw[show ((w.alloc (.cells #[.slice ao a.v.length ac,.slice bo a.e.length bc] 29)).alloc (.cells #[.slice co b.v.length cc,.slice fo b.e.length fc] 29)).heap.size=w.heap.size+2 by simp] at qbx2;have HX:=lh (fun (w2:World) (hbx:Chg [] (((w.alloc (.cells #[.slice ao a.v.length ac,.slice bo a.e.length bc] 29)).alloc (.cells #[.slice co b.v.length cc,.slice fo b.e.length fc] 29)).alloc (.cells #[.slice none 0 0,.slice none 0 0] 29)) w2)=>(⟨hbx.c ((cell_of_row _ _ 0 _ _ _ qbx0).trans rfl),hbx.c ((cell_of_row _ _ 1 _ _ _ qbx0).trans rfl),hbx.c ((cell_of_row _ _ 0 _ _ _ qbx1).trans rfl),hbx.c ((cell_of_row _ _ 1 _ _ _ qbx1).trans rfl),hbx.heap qbx2 (by simp),by have hz:=hbx.size;simpa using hz⟩:w2.cell? ⟨w.heap.size,0,none⟩=some (.slice ao a.v.length ac)∧w2.cell? ⟨w.heap.size,1,none⟩=some (.slice bo a.e.length bc)∧w2.cell? ⟨w.heap.size+1,0,none⟩=some (.slice co b.v.length cc)∧w2.cell? ⟨w.heap.size+1,1,none⟩=some (.slice fo b.e.length fc)∧w2.heap[w.heap.size+2]?=some (.cells #[.slice none 0 0,.slice none 0 0] 29 (0,0))∧w.heap.size+3≤w2.heap.size));clear qbx0 qbx1 qbx2;have HXZ:=lh (show (((w.alloc (.cells #[.slice ao a.v.length ac,.slice bo a.e.length bc] 29)).alloc (.cells #[.slice co b.v.length cc,.slice fo b.e.length fc] 29)).alloc (.cells #[.slice none 0 0,.slice none 0 0] 29)).heap.size=w.heap.size+3 by simp);have HM1:=lh (show ∀ w2,Chg [] w w2→iB w2 (.slice ao a.v.length ac) a.v∧iB w2 (.slice bo a.e.length bc) a.e from fun w2 h=>by
  obtain⟨v1,v2,e,k1,k2⟩:=HA.out.fresh h;cases e;exact⟨k1,k2⟩)
 have HM2:=lh (show ∀ w2,Chg [] w w2→iB w2 (.slice co b.v.length cc) b.v∧iB w2 (.slice fo b.e.length fc) b.e from fun w2 h=>by
  obtain⟨v1,v2,e,k1,k2⟩:=HB.out.fresh h;cases e;exact⟨k1,k2⟩)
 obtain⟨x0,x1,y0,y1,r8,hsz⟩:=HX.out _ (Chg.refl _ _);clear r8
 go_enter Tryz.func81,Tryz.ntmps81
 go_wp2;generalize (((w.alloc (.cells #[.slice ao a.v.length ac,.slice bo a.e.length bc] 29)).alloc (.cells #[.slice co b.v.length cc,.slice fo b.e.length fc] 29)).alloc (.cells #[.slice none 0 0,.slice none 0 0] 29))=w1 at *;have hS0:Chg [] w1 w1.drew:=(Chg.refl [] w1).drew;refine aF (Chg [] w1) [0,1,2,3,5,6,7,8,10] (Way.line [0,1,2,3,5,6,7,8,4,9,10,11] .done) (by kernel_rfl) (by kernel_rfl) ?_;simp only[Way.line]
 repeat
  first
   | (refine aE rfl (by rfl) (by rfl) (fun _ _ _ h=>h) hS0 ?_;simp only[Act.put,Z1,Z2,Z3,Z4,Z5,Z6])
   | (refine aC (v:=?_) rfl (by rfl) (by rfl) (fun _ _ _ h=>h) hS0 (fun w' hS'=>?_) ?_;rotate_left;(focus (have rd0:=hS'.c x0;have rd1:=hS'.c x1;have rd2:=hS'.c y0;have rd3:=hS'.c y1;clear hS';go_simp;try with_reducible rfl));simp only[Act.put,Z1,Z2,Z3,Z4,Z5,Z6])
   | (refine aD rfl (by rfl) (by rfl) hS0 ?_;simp only[Act.put,Z1,Z2,Z3,Z4,Z5,Z6])
 refine aI rfl (by rfl) (by rfl) (fun K hK=>?_);go_simp;refine (pM _ _ a.v b.v true _ h1 h3 (HM1.out _ (HXC.out.t hS0)).1 (HM2.out _ (HXC.out.t hS0)).1).mono ?_;rintro e w2 ⟨o1,rfl,hr1,hcx⟩;have HR1:=lh hr1;have HBW:=lh (Nat.le_trans (HX.out _ hS0).2.2.2.2.2 (Nat.le_refl _));have hS1:=hS0.t hcx;have HO1:=lh (show w.heap.size+3≤w2.heap.size from (HX.out _ hS1).2.2.2.2.2);clear hS0 hcx hr1;have hS0:=hS1;clear hS1;refine hK.out _ _ (fun _=>hS0) ?_;clear hK K
 try simp only[Act.put,Z1,Z2,Z3,Z4,Z5,Z6]
 refine aI rfl (by rfl) (by rfl) (fun K hK=>?_);go_simp;refine (pM _ _ a.e b.e true _ h2 h4 (HM1.out _ (HXC.out.t hS0)).2 (HM2.out _ (HXC.out.t hS0)).2).mono ?_;rintro e w3 ⟨o2,rfl,hr2,hcx⟩;have HR2:=lh hr2;have HR13:=lh (HR1.out.chg hcx (by simp));have hS1:=hS0.t hcx;clear hS0 hcx hr2;have hS0:=hS1;clear hS1;refine hK.out _ _ (fun _=>hS0) ?_;clear hK K
 try simp only[Act.put,Z1,Z2,Z3,Z4,Z5,Z6]
 obtain⟨p1,q1,rfl⟩:=HR13.out.shape;obtain⟨p2,q2,rfl⟩:=HR2.out.shape
 repeat
  first
   | (refine aE rfl (by rfl) (by rfl) (fun _ _ _ h=>h) hS0 ?_;simp only[Act.put,Z1,Z2,Z3,Z4,Z5,Z6])
   | (refine aC (v:=?_) rfl (by rfl) (by rfl) (fun _ _ _ h=>h) hS0 (fun w' hS'=>?_) ?_;rotate_left;(focus (skip;clear hS';go_simp;try with_reducible rfl));simp only[Act.put,Z1,Z2,Z3,Z4,Z5,Z6])
   | (refine aD rfl (by rfl) (by rfl) hS0 ?_;simp only[Act.put,Z1,Z2,Z3,Z4,Z5,Z6])
 have hr8:=(HX.out _ hS0).2.2.2.2.1;have HR8:=lh hr8;have r0:=(cell_of_row _ _ 0 _ _ _ hr8).trans (show _=some (Value.slice none 0 0) from rfl);have r1:=(cell_of_row _ _ 1 _ _ _ hr8).trans (show _=some (Value.slice none 0 0) from rfl);have f0:=bM hr8 0;have f1:=bM hr8 1;have HCW:=lh (HXC.out.t hS0);refine aI rfl (by rfl) (by rfl) (fun K hK=>?_);go_simp;refine hK.out _ _ (fun h=>absurd h (Bool.eq_false_iff.1 (by kernel_rfl))) ?_;clear hK K hr8
 try simp only[Act.put,Z1,Z2,Z3,Z4,Z5,Z6]
 refine aG ?_;clear x0 x1 y0 y1 hsz hS0 r0 r1 f0 f1;obtain⟨-,o0,o1,o2⟩:=eY HR8.out (.slice p1 (aA.bL true a.v b.v).length q1) (.slice p2 (aA.bL true a.e b.e).length q2);have O2:=lh o2;go_wp2;refine bodyPost_ret (v:=.agg #[.slice p1 (aA.bL true a.v b.v).length q1,.slice p2 (aA.bL true a.e b.e).length q2]) (by simp[results,Tryz.results81,go_sem,o0,o1]) rfl ?_;refine⟨_,rfl,fun own wx hcx ho=>?_,HCW.out.trans O2.out (fun j hj=>Or.inr (by simp at hj;omega))⟩;have hcc:Chg ((w.heap.size+2) :: own) w3 wx:=(O2.out.mono (by simp)).trans hcx (fun j hj=>Or.inl (List.mem_cons_of_mem _ hj));have hS3:=HX.out;refine⟨_,_,rfl,iB.nJ HR13.out hcc (fun j hj=>?_),iB.nJ HR2.out hcc (fun j hj=>?_)⟩
 ·rcases List.mem_cons.1 hj with e | e
  ·have:=HBW.out;omega
  have:=ho j e;have:=HBW.out;omega
 rcases List.mem_cons.1 hj with e | e
 ·have:=HO1.out;omega
 have:=ho j e;have:=HO1.out;omega
end Go.Proofs.YtkacjmoamgjfpaaGreat
namespace Go.Proofs.YtkacjmoamgjfpaaGreat
open Go
section
variable {P : Program} {ops : Array Oper} {Q : Exit → Act → World → Prop} {md : Region.Mode} {w0 : World} {fr : (Nat → Value) → Act} {z : Nat} {fin : List Nat}
def Calm (p:Value→World→Prop):Prop:=∀ u w w',Chg [] w w'→p u w→p u w'
def tR (P:Program) (ops:Array Oper) (Q:Exit→Act→World→Prop) (w0:World) (fr:(Nat→Value)→Act) (z:Nat) (fin:List Nat) (L:List (Value→World→Prop)):Nat→List (Oper × List Nat)→Prop
 | _,[]=>∀ vals w,Chg [] w0 w→jV L vals w fin→wpOp P ops Q z (fun a' w'=>Q .normal a' w') (fr vals) w
 | i,(o,d) :: r=>∃ p,(Calm p∧∀ vals w,Chg [] w0 w→jV L vals w d→wpOp P ops Q i (fun a' w'=>∃ v,a'=(fr vals).put o.dst v∧p v w'∧Chg [] w w') (fr vals) w)∧tR P ops Q w0 fr z fin (L++[p]) (i+1) r
theorem yO:∀ (todo:List (Oper × List Nat)) (i:Nat) (L:List (Value→World→Prop)),L.length=i→tR P ops Q w0 fr z fin L i todo→(∀ k o d,todo[k]?=some (o,d)→∀ x∈d,x<i+k) →
  ∃ L',(∀ j,j<i→L'.getD j (fun _ _=>True)=L.getD j (fun _ _=>True))∧L'.length=i+todo.length ∧
   (∀ k o d,todo[k]?=some (o,d)→Calm (L'.getD (i+k) (fun _ _=>True))∧∀ vals w,Chg [] w0 w→jV L' vals w d→wpOp P ops Q (i+k) (fun a' w'=>∃ v,a'=(fr vals).put o.dst v∧(L'.getD (i+k) (fun _ _=>True)) v w'∧Chg [] w w') (fr vals) w) ∧
   (∀ vals w,Chg [] w0 w→jV L' vals w fin→wpOp P ops Q z (fun a' w'=>Q .normal a' w') (fr vals) w)
 | [],i,L,hl,h,_=>⟨L,fun _ _=>rfl,by simp[hl],fun k o d hk=>by simp at hk,h⟩
 | (o,d) :: r,i,L,hl,⟨p,⟨h1,h2⟩,h3⟩,hd=>by
  obtain⟨L',k1,k2,k3,k4⟩:=yO r (i+1) (L++[p]) (by simp[hl]) h3 (fun k o' d' hk x hx=>by have:=hd (k+1) o' d' (by simpa using hk) x hx;omega);have hp:L'.getD i (fun _ _=>True)=p:=by
   rw[k1 i (by omega)];simp[List.getD,hl]
  have hold:∀ j,j<i→L'.getD j (fun _ _=>True)=L.getD j (fun _ _=>True):=fun j hj=>by
   rw[k1 j (by omega)];simp[List.getD,List.getElem?_append_left (by omega:j<L.length)]
  refine⟨L',hold,by rw[k2];simp;omega,fun k o' d' hk=>?_,k4⟩;cases k with
  | zero =>
   obtain⟨rfl,rfl⟩:o=o'∧d=d':=by simpa using hk
   rw[Nat.add_zero,hp];refine⟨h1,fun vals w hG hF=>h2 vals w hG ?_⟩;rw[←tL (L:=L') (L':=L) (fun x hx=>hold x (by have:=hd 0 o d rfl x hx;omega))];exact hF
  | succ k =>
   have:=k3 k o' d' (by simpa using hk);rw[show i+1+k=i+(k+1) by omega] at this;exact this
theorem aCN {a0:Act} {oQ:Nat→List Nat} {I:Nat→Value→World→Prop} (hfr:∀ vals,fr vals=kD vals 0 ops.toList a0) (hap:apart ops.toList=true)
  (hacy:∀ j oj,ops[j]?=some oj→∀ e∈oj.after,Region.binds md e=true→e.on<j) (hdeps:∀ j oj,ops[j]?=some oj→∀ x∈oQ j,∃ e∈oj.after,Region.binds md e=true∧e.on=x)
  (hready:∀ listed:Array Bool,listed.size=ops.size→(∀ j oj,ops[j]?=some oj→listed.getD j false=true→∀ e∈oj.after,Region.binds md e=true→listed.getD e.on false=true)→z∈Region.ready md ops listed→∀ j,j<ops.size→j≠z→listed.getD j false=true) (hz:z<ops.size)
  (hop:∀ i o,ops[i]?=some o→i≠z→Calm (I i)∧∀ vals w,Chg [] w0 w→(∀ x∈oQ i,I x (vals x) w) →
   wpOp P ops Q i (fun a' w'=>∃ v,a'=(fr vals).put o.dst v∧I i v w'∧Chg [] w w') (fr vals) w)
  (hend:∀ vals w,Chg [] w0 w→(∀ j,j<ops.size→j≠z→I j (vals j) w)→wpOp P ops Q z (fun a' w'=>Q .normal a' w') (fr vals) w) :
  ∀ (fuel:Nat) (listed:Array Bool) (vals:Nat→Value) (w:World),listed.size=ops.size→(List.range ops.size).countP (fun j=>!listed.getD j false)≤fuel →
   (∀ j oj,ops[j]?=some oj→listed.getD j false=true→∀ e∈oj.after,Region.binds md e=true→listed.getD e.on false=true) →
   listed.getD z false=false→(∀ j,listed.getD j false=true→I j (vals j) w)→Chg [] w0 w→wpAny P md ops Q fuel listed (fr vals) w:=by
 have hall:∀ listed:Array Bool,listed.size=ops.size→Region.ready md ops listed=[]→∀ j,j<ops.size→listed.getD j false=true:=by
  intro listed hs hnil j
  induction j using Nat.strongRecOn with
  | _ j ih =>
   intro hj;apply Classical.byContradiction;intro hc;have:j∈Region.ready md ops listed:=by
    refine mem_ready.2 ⟨?_,ops[j],Array.getElem?_eq_getElem hj,fun e he hb=>ih e.on (hacy j _ (Array.getElem?_eq_getElem hj) e he hb) (by have:=hacy j _ (Array.getElem?_eq_getElem hj) e he hb;omega)⟩;have hl:j<listed.size:=by omega
    simp[hl] at hc ⊢;exact hc
   rw[hnil] at this;cases this
 have hdone:∀ listed:Array Bool,listed.size=ops.size→(∀ j,j<ops.size→listed.getD j false=true)→Region.ready md ops listed=[]:=by
  intro listed hs ha;refine List.eq_nil_iff_forall_not_mem.2 fun j hj=>?_;obtain⟨h0,o,ho,-⟩:=mem_ready.1 hj;have hlt:j<ops.size:=(Array.getElem?_eq_some_iff.1 ho).1;have h1:=ha j hlt;have hl:j<listed.size:=by omega
  simp[hl] at h0 h1;rw[h0] at h1;cases h1
 intro fuel
 induction fuel with
 | zero =>
  intro listed vals w hs hc hdn hnz h1 hG;exact absurd (by show (!listed.getD z false)=true;rw[hnz];rfl) (List.countP_eq_zero.1 (Nat.le_zero.1 hc) z (by simpa using hz))
 | succ fuel ih =>
  intro listed vals w hs hc hdn hnz h1 hG;refine⟨fun hnil=>absurd (hall listed hs hnil z hz) (by rw[hnz];simp),fun i hi=>?_⟩;obtain⟨h0,o,ho,haft⟩:=mem_ready.1 hi;have hlt:i<ops.size:=(Array.getElem?_eq_some_iff.1 ho).1;have hl:i<listed.size:=by omega
  have h0':listed.getD i false=false:=by simp[hl] at h0 ⊢;exact h0
  have hset:∀ j,(listed.setIfInBounds i true).getD j false=if j=i then true else listed.getD j false:=fun j=>by
   by_cases hji:j=i
   ·subst hji;simp[hl]
   rw[getD_set_ne false (Ne.symm hji),if_neg hji]
  by_cases hiz:i=z
  ·subst hiz
   have ha:∀ j,j<ops.size→(listed.setIfInBounds i true).getD j false=true:=fun j hj=>by
    rw[hset];by_cases q:j=i
    ·rw[if_pos q]
    rw[if_neg q];exact hready listed hs hdn hi j hj q
   have hnil:=hdone (listed.setIfInBounds i true) (by simpa using hs) ha;refine wpOp_mono ?_ (hend vals w hG (fun j hj hji=>h1 j (hready listed hs hdn hi j hj hji)));intro a' w' hq;cases fuel with
   | zero=>exact⟨hnil,hq⟩
   | succ fuel=>exact⟨fun _=>hq,fun k hk=>by rw[hnil] at hk;cases hk⟩
  refine wpOp_mono ?_ ((hop i o ho hiz).2 vals w hG (fun x hx=>?_))
  ·rintro a' w' ⟨v,rfl,hv,hR⟩
   have e:(fr vals).put o.dst v=fr (upd vals i v):=by
    rw[hfr,hfr];have:=zN vals v ops.toList 0 i o a0 hap (by simpa using ho);rw[←this,Nat.zero_add]
   rw[e];refine ih _ _ _ (by simpa using hs) ?_ (fun j oj hj hlj e he hb=>?_) ?_ (fun j hj=>?_) (hG.t hR)
   ·have:=oP (fun j=>!listed.getD j false) (fun j=>!(listed.setIfInBounds i true).getD j false) i (by simp only[h0'];rfl) (by simp only[hset];simp) (fun k hk=>by simp only[hset,if_neg hk]) ops.size hlt
    omega
   ·rw[hset] at hlj ⊢
    by_cases he1:e.on=i
    ·rw[if_pos he1]
    rw[if_neg he1];by_cases hji:j=i
    ·subst hji
     rw[ho] at hj;cases hj;exact haft _ he hb
    rw[if_neg hji] at hlj;exact hdn j oj hj hlj e he hb
   ·rw[hset,if_neg (Ne.symm hiz)];exact hnz
   by_cases hji:j=i
   ·subst hji
    rw[show upd vals j v j=v from if_pos rfl];exact hv
   rw[hset,if_neg hji] at hj;rw[show upd vals i v j=vals j from if_neg hji];have hjz:j≠z:=fun q=>by rw[q,hnz] at hj;cases hj
   have hjl:j<listed.size:=by
    rcases Nat.lt_or_ge j listed.size with q | q
    ·exact q
    simp[Array.getElem?_eq_none q] at hj
   obtain⟨oj,hoj⟩:∃ oj,ops[j]?=some oj:=⟨_,Array.getElem?_eq_getElem (by omega)⟩;exact (hop j oj hoj hjz).1 _ _ _ hR (h1 j hj)
  obtain⟨e,he,hb,rfl⟩:=hdeps i o ho x hx;exact h1 _ (haft e he hb)
def aDX (md:Region.Mode) (ops:Array Oper) (oQ:List (List Nat)) (fin:List Nat):Bool :=
 let n:=ops.size
 apart ops.toList&&oQ.length+1==n&&((List.range n).all fun i=>(lF md ops i).all fun x=>decide (x<i)) &&
 ((List.range (n - 1)).all fun i=>(oQ.getD i []).all fun x=>(lF md ops i).contains x) &&
 ((List.range n).all fun j=>j==n - 1 || (reach md ops n (lF md ops (n - 1))).contains j)&&(fin.all fun x=>decide (x<n - 1))
theorem wS {id:Nat} {a:Act} {w:World} (oQ:List (List Nat)) (fin:List Nat) (hm:P.follows .mixedOrders=true)
  (hc:aDX .any ops oQ fin=true) (hG:Chg [] w0 w.drew)
  (h':∀ fr:(Nat→Value)→Act,(∀ vals,kD vals 0 ops.toList a=fr vals)→tR P ops Q w0 fr (ops.size - 1) fin [] 0 (ops.toList.dropLast.zip oQ)):(Code.region id ops true).wp P Q a w:=by
 obtain⟨fr,hfr⟩:∃ fr:(Nat→Value)→Act,∀ vals,kD vals 0 ops.toList a=fr vals:=⟨_,fun _=>rfl⟩;have h:=h' fr hfr;unfold aDX at hc;simp only[Bool.and_eq_true,Bool.or_eq_true,decide_eq_true_eq,beq_iff_eq,List.all_eq_true,List.mem_range,List.contains_eq_mem] at hc;obtain⟨⟨⟨⟨⟨hap,hlen⟩,hacy⟩,hdep⟩,hz⟩,hfin⟩:=hc;have hpos:0<ops.size:=by omega
 have hzip:∀ k o,ops[k]?=some o→k≠ops.size - 1→(ops.toList.dropLast.zip oQ)[k]?=some (o,oQ.getD k []):=fun k o ho hk=>by
  have hk2:k<ops.size:=(Array.getElem?_eq_some_iff.1 ho).1;rw[List.getElem?_zip_eq_some];refine⟨?_,by simp[List.getD,show k<oQ.length by omega]⟩;rw[List.getElem?_dropLast,if_pos (by simp;omega)];simpa using ho
 have hzip':∀ k o d,(ops.toList.dropLast.zip oQ)[k]?=some (o,d)→ops[k]?=some o∧oQ.getD k []=d∧k<ops.size - 1:=fun k o d hk=>by
  rw[List.getElem?_zip_eq_some] at hk;have h1:=hk.1;rw[List.getElem?_dropLast] at h1;split at h1
  ·rename_i hlt
   exact⟨by simpa using h1,by simp[List.getD,hk.2],by simpa using hlt⟩
  cases h1
 have hafter:∀ j oj,ops[j]?=some oj→∀ e∈oj.after,Region.binds .any e=true→e.on<j:=fun j oj hj e he hb =>
  hacy j (Array.getElem?_eq_some_iff.1 hj).1 e.on (lG.2 ⟨oj,hj,e,he,hb,rfl⟩)
 have hdeps:∀ j oj,ops[j]?=some oj→∀ x∈(if j<ops.size - 1 then oQ.getD j [] else []),∃ e∈oj.after,Region.binds .any e=true∧e.on=x:=fun j oj hj x hx=>by
  split at hx
  ·rename_i hlt
   obtain⟨o,ho,q⟩:=lG.1 (hdep j hlt x hx);rw[hj] at ho;cases ho;exact q
  cases hx
 obtain⟨L,-,-,hO,hE⟩:=yO _ 0 [] rfl h (fun k o d hk x hx=>by
  obtain⟨h1,rfl,hk2⟩:=hzip' k o d hk;obtain⟨e,he,hb,rfl⟩:=hdeps k o h1 x (by rw[if_pos hk2];exact hx);have:=hafter k o h1 e he hb;omega)
 refine wp_region_any hm ?_;have hstart:=aCN (P:=P) (Q:=Q) (md:=.any) (a0:=a) (w0:=w0) (oQ:=fun j=>if j<ops.size - 1 then oQ.getD j [] else []) (I:=fun j=>if j<ops.size - 1 then L.getD j (fun _ _=>True) else fun _ _=>True) (fr:=fr) (z:=ops.size - 1) (fun vals=>(hfr vals).symm) hap hafter hdeps
  (fun listed hs hdn hzr j hj hjz=>by
   obtain⟨-,o,ho,haft⟩:=mem_ready.1 hzr;refine nT hdn ops.size _ (fun x hx=>?_) j ((hz j hj).resolve_left hjz);obtain⟨o',ho',e,he,hb,rfl⟩:=lG.1 hx;rw[ho] at ho';cases ho';exact haft e he hb) (by omega)
  (fun i o ho hi=>by
   have hi2:i<ops.size:=(Array.getElem?_eq_some_iff.1 ho).1;have hi3:i<ops.size - 1:=by omega
   have:=hO i o _ (hzip i o ho hi);rw[Nat.zero_add] at this;simp only[if_pos hi3];refine⟨this.1,fun vals w hG hF=>this.2 vals w hG (xR fun x hx=>?_)⟩;obtain⟨e,he,hb,rfl⟩:=hdeps i o ho x (by rw[if_pos hi3];exact hx);have:=hafter i o ho e he hb;have h2:=hF _ hx;rwa[if_pos (by omega)] at h2)
  (fun vals w hG h1=>hE vals w hG (xR fun x hx=>by
   have hxn:=hfin x hx;have:=h1 x (by omega) (by omega);rwa[if_pos hxn] at this))
 have e0:a=fr (fun k=>match ops.toList[k]? with | some o=>held a o | none=>undef):=by
  rw[←hfr];refine (zF _ a ops.toList 0 fun k o hk=>?_).symm;simp only[Nat.zero_add,hk]
 have hno:∀ j,(Array.replicate ops.size false).getD j false=false:=fun j=>by
  rcases Nat.lt_or_ge j (Array.replicate ops.size false).size with q | q
  ·simp only[Array.size_replicate] at q
   simp[q]
  simp[Array.getElem?_eq_none q]
 have:=hstart ops.size (Array.replicate ops.size false) (fun k=>match ops.toList[k]? with | some o=>held a o | none=>undef) w.drew (by simp) (Nat.le_trans (List.countP_le_length) (by simp))
  (fun j _ _ hj=>by rw[hno] at hj;cases hj) (hno _) (fun j hj=>by rw[hno] at hj;cases hj) hG
 rw[←e0] at this;exact this
theorem jT {i:Nat} {rest:List (Oper × List Nat)} {L:List (Value→World→Prop)} {o:Oper} {d:List Nat} (p:Value→World→Prop) (ho:ops[i]?=some o) (hp:Calm p)
  (h:∀ vals w,Chg [] w0 w→jV L vals w d→Region.wanted o (yielded ops (fr vals).tmps)=true ∧
   ∀ K:Act→World→Prop,Shut (∀ v w',p v w'→Chg [] w w'→K ((fr vals).put o.dst v) w')→o.wp P (fr vals) w K Q)
  (hn:tR P ops Q w0 fr z fin (L++[p]) (i+1) rest):tR P ops Q w0 fr z fin L i ((o,d) :: rest):=by
 refine⟨p,⟨hp,fun vals w hG hF=>?_⟩,hn⟩;obtain⟨h1,h2⟩:=h vals w hG hF;unfold wpOp;simp only[ho,h1,if_true];exact .inl (h2 _ (fun v w' a b=>⟨v,rfl,a,b⟩))
theorem yT {i:Nat} {rest:List (Oper × List Nat)} {L:List (Value→World→Prop)} {o:Oper} {d:List Nat} {c:Value} (ho:ops[i]?=some o)
  (h:∀ vals w,Chg [] w0 w→jV L vals w d→Region.wanted o (yielded ops (fr vals).tmps)=true∧(execOp (fr vals).eval o).run P w=.ok (.value c) w)
  (hn:tR P ops Q w0 fr z fin (L++[fun v _=>v=c]) (i+1) rest):tR P ops Q w0 fr z fin L i ((o,d) :: rest):=by
 refine⟨fun v _=>v=c,⟨fun _ _ _ _ q=>q,fun vals w hG hF=>?_⟩,hn⟩;obtain⟨h1,h2⟩:=h vals w hG hF;unfold wpOp;simp only[ho,h1,if_true,Oper.wp,h2,Oper.upon];exact .inl ⟨c,rfl,rfl,Chg.refl _ _⟩
theorem aE4 {i:Nat} {L:List (Value→World→Prop)} {o:Oper} (ho:ops[z]?=some o)
  (h:∀ vals w,Chg [] w0 w→jV L vals w fin→Region.wanted o (yielded ops (fr vals).tmps)=true ∧
   ∀ K:Act→World→Prop,Shut (∀ a' w',Q .normal a' w'→K a' w')→o.wp P (fr vals) w K Q):tR P ops Q w0 fr z fin L i []:=by
 intro vals w hG hF;obtain⟨h1,h2⟩:=h vals w hG hF;unfold wpOp;simp only[ho,h1,if_true];exact .inl (h2 _ (fun a' w' q=>q))
end
end Go.Proofs.YtkacjmoamgjfpaaGreat
