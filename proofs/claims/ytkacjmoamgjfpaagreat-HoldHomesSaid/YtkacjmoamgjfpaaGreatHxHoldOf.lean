/- graph.And, graph.Or, hold.Of: contracts. Conditions: parts, a case that lie in memory and read so, of a bounded size. -/
import Derived.Test.YtkacjmoamgjfpaaGreatHxAround2
namespace Go.Proofs.YtkacjmoamgjfpaaGreat
open Go.RowKit Go.Maps
theorem MRow.of_row {w w':World} {B:Nat} {v:Value} {l:List Int} {own:List Nat} (h:RowAt w B v l) (hc:Chg own w w') (ho:∀ j∈own,j<B):MRow w' v l:=by
 have h2:=h.chg hc (fun b hb e=>by have:=(h.low b hb).1;have:=ho b e;omega)
 exact⟨h2.ints,CapOk.row h2⟩
set_option maxRecDepth 100000 in
set_option maxHeartbeats 2000000 in
theorem and_low (va vb:Value) (a b:Plain.Pt) (w:World) (h1:a.v.length≤1000000) (h2:a.e.length≤1000000) (h3:b.v.length≤1000000) (h4:b.e.length≤1000000) (ha:PtC w va a) (hb:PtC w vb b) :
  Calls Tryz.prog 26 #[va,vb] w fun e w'=>∃ ov,e=.returned ov∧(∀ own wx,Chg own w' wx→(∀ j∈own,j<w.heap.size)→PtC wx ov ⟨Plain.mergeL false a.v b.v,Plain.mergeL false a.e b.e⟩)∧Chg [] w w':=by
 have HA:=lh ha
 have HB:=lh hb
 obtain⟨ao,ac,bo,bc,rfl⟩:=ha.shape
 obtain⟨co,cc,fo,fc,rfl⟩:=hb.shape
 clear ha hb
 have HXC:=lh (show Chg [] w (((w.alloc (.cells #[.slice ao a.v.length ac,.slice bo a.e.length bc] 29)).alloc (.cells #[.slice co b.v.length cc,.slice fo b.e.length fc] 29)).alloc (.cells #[.slice none 0 0,.slice none 0 0] 29)) from (show Chg [] w (((w.alloc (.cells #[.slice ao a.v.length ac,.slice bo a.e.length bc] 29)).alloc (.cells #[.slice co b.v.length cc,.slice fo b.e.length fc] 29)).alloc (.cells #[.slice none 0 0,.slice none 0 0] 29)) from ((((Chg.refl [] w).alloc _).alloc _).alloc _)))
 have qbx0:=heap_alloc_new w (.cells #[.slice ao a.v.length ac,.slice bo a.e.length bc] 29)
 replace qbx0:=(show Chg [] (w.alloc (.cells #[.slice ao a.v.length ac,.slice bo a.e.length bc] 29)) (((w.alloc (.cells #[.slice ao a.v.length ac,.slice bo a.e.length bc] 29)).alloc (.cells #[.slice co b.v.length cc,.slice fo b.e.length fc] 29)).alloc (.cells #[.slice none 0 0,.slice none 0 0] 29)) from (((Chg.refl [] (w.alloc (.cells #[.slice ao a.v.length ac,.slice bo a.e.length bc] 29))).alloc _).alloc _)).heap qbx0 (by simp)
 have qbx1:=heap_alloc_new (w.alloc (.cells #[.slice ao a.v.length ac,.slice bo a.e.length bc] 29)) (.cells #[.slice co b.v.length cc,.slice fo b.e.length fc] 29)
 rw[show (w.alloc (.cells #[.slice ao a.v.length ac,.slice bo a.e.length bc] 29)).heap.size=w.heap.size+1 by simp] at qbx1
 replace qbx1:=(show Chg [] ((w.alloc (.cells #[.slice ao a.v.length ac,.slice bo a.e.length bc] 29)).alloc (.cells #[.slice co b.v.length cc,.slice fo b.e.length fc] 29)) (((w.alloc (.cells #[.slice ao a.v.length ac,.slice bo a.e.length bc] 29)).alloc (.cells #[.slice co b.v.length cc,.slice fo b.e.length fc] 29)).alloc (.cells #[.slice none 0 0,.slice none 0 0] 29)) from ((Chg.refl [] ((w.alloc (.cells #[.slice ao a.v.length ac,.slice bo a.e.length bc] 29)).alloc (.cells #[.slice co b.v.length cc,.slice fo b.e.length fc] 29))).alloc _)).heap qbx1 (by simp)
 have qbx2:=heap_alloc_new ((w.alloc (.cells #[.slice ao a.v.length ac,.slice bo a.e.length bc] 29)).alloc (.cells #[.slice co b.v.length cc,.slice fo b.e.length fc] 29)) (.cells #[.slice none 0 0,.slice none 0 0] 29)
 rw[show ((w.alloc (.cells #[.slice ao a.v.length ac,.slice bo a.e.length bc] 29)).alloc (.cells #[.slice co b.v.length cc,.slice fo b.e.length fc] 29)).heap.size=w.heap.size+2 by simp] at qbx2
 have HX:=lh (fun (w2:World) (hbx:Chg [] (((w.alloc (.cells #[.slice ao a.v.length ac,.slice bo a.e.length bc] 29)).alloc (.cells #[.slice co b.v.length cc,.slice fo b.e.length fc] 29)).alloc (.cells #[.slice none 0 0,.slice none 0 0] 29)) w2)=>(⟨hbx.cell ((cell_of_row _ _ 0 _ _ _ qbx0).trans rfl) (by simp),hbx.cell ((cell_of_row _ _ 1 _ _ _ qbx0).trans rfl) (by simp),hbx.cell ((cell_of_row _ _ 0 _ _ _ qbx1).trans rfl) (by simp),hbx.cell ((cell_of_row _ _ 1 _ _ _ qbx1).trans rfl) (by simp),hbx.heap qbx2 (by simp),by have hz:=hbx.size;simpa using hz⟩:w2.cell? ⟨w.heap.size,0,none⟩=some (.slice ao a.v.length ac)∧w2.cell? ⟨w.heap.size,1,none⟩=some (.slice bo a.e.length bc)∧w2.cell? ⟨w.heap.size+1,0,none⟩=some (.slice co b.v.length cc)∧w2.cell? ⟨w.heap.size+1,1,none⟩=some (.slice fo b.e.length fc)∧w2.heap[w.heap.size+2]?=some (.cells #[.slice none 0 0,.slice none 0 0] 29 (0,0))∧w.heap.size+3≤w2.heap.size))
 clear qbx0 qbx1 qbx2
 have HXZ:=lh (show (((w.alloc (.cells #[.slice ao a.v.length ac,.slice bo a.e.length bc] 29)).alloc (.cells #[.slice co b.v.length cc,.slice fo b.e.length fc] 29)).alloc (.cells #[.slice none 0 0,.slice none 0 0] 29)).heap.size=w.heap.size+3 by simp)
 have HM1:=lh (show ∀ w2,Chg [] w w2→MRow w2 (.slice ao a.v.length ac) a.v∧MRow w2 (.slice bo a.e.length bc) a.e from fun w2 h=>by
  obtain⟨v1,v2,e,k1,k2⟩:=HA.out.fresh h
  cases e
  exact⟨k1,k2⟩)
 have HM2:=lh (show ∀ w2,Chg [] w w2→MRow w2 (.slice co b.v.length cc) b.v∧MRow w2 (.slice fo b.e.length fc) b.e from fun w2 h=>by
  obtain⟨v1,v2,e,k1,k2⟩:=HB.out.fresh h
  cases e
  exact⟨k1,k2⟩)
 obtain⟨x0,x1,y0,y1,r8,hsz⟩:=HX.out _ (Chg.refl _ _)
 clear r8
 go_enter Tryz.func26,Tryz.ntmps26
 go_wp2
 generalize (((w.alloc (.cells #[.slice ao a.v.length ac,.slice bo a.e.length bc] 29)).alloc (.cells #[.slice co b.v.length cc,.slice fo b.e.length fc] 29)).alloc (.cells #[.slice none 0 0,.slice none 0 0] 29))=w1 at *
 have hS0:Chg [] w1 w1.drew:=(Chg.refl [] w1).drew
 refine wp_region_way (Chg [] w1) [0,1,2,3,5,6,7,8,10] (Way.line [0,1,2,3,5,6,7,8,4,9,10,11] .done) (by kernel_rfl) (by kernel_rfl) ?_
 simp only[Way.line]
 repeat
  first
   | (refine along_off rfl (by rfl) (by rfl) (fun _ _ _ h=>h) hS0 ?_;simp only[Act.put,Z1,Z2,Z3,Z4,Z5,Z6])
   | (refine along_read (v:=?_) rfl (by rfl) (by rfl) (fun _ _ _ h=>h) hS0 (fun w' hS'=>?_) ?_;rotate_left;(focus (have rd0:=hS'.cell x0 (by simp);have rd1:=hS'.cell x1 (by simp);have rd2:=hS'.cell y0 (by simp);have rd3:=hS'.cell y1 (by simp);clear hS';go_simp;try with_reducible rfl));simp only[Act.put,Z1,Z2,Z3,Z4,Z5,Z6])
   | (refine along_skip rfl (by rfl) (by rfl) hS0 ?_;simp only[Act.put,Z1,Z2,Z3,Z4,Z5,Z6])
 refine along_op rfl (by rfl) (by rfl) (fun K hK=>?_)
 go_simp
 refine (merge_any _ _ a.v b.v false _ h1 h3 (HM1.out _ (HXC.out.trans hS0 (by simp))).1 (HM2.out _ (HXC.out.trans hS0 (by simp))).1).mono ?_
 rintro e w2 ⟨o1,rfl,hr1,hcx⟩
 have HR1:=lh hr1
 have HBW:=lh (Nat.le_trans (HX.out _ hS0).2.2.2.2.2 (Nat.le_refl _))
 have hS1:=hS0.trans hcx (by simp)
 have HO1:=lh (show w.heap.size+3≤w2.heap.size from (HX.out _ hS1).2.2.2.2.2)
 clear hS0 hcx hr1
 have hS0:=hS1
 clear hS1
 refine hK.out _ _ (fun _=>hS0) ?_
 clear hK K
 try simp only[Act.put,Z1,Z2,Z3,Z4,Z5,Z6]
 refine along_op rfl (by rfl) (by rfl) (fun K hK=>?_)
 go_simp
 refine (merge_any _ _ a.e b.e false _ h2 h4 (HM1.out _ (HXC.out.trans hS0 (by simp))).2 (HM2.out _ (HXC.out.trans hS0 (by simp))).2).mono ?_
 rintro e w3 ⟨o2,rfl,hr2,hcx⟩
 have HR2:=lh hr2
 have HR13:=lh (HR1.out.chg hcx (by simp))
 have hS1:=hS0.trans hcx (by simp)
 clear hS0 hcx hr2
 have hS0:=hS1
 clear hS1
 refine hK.out _ _ (fun _=>hS0) ?_
 clear hK K
 try simp only[Act.put,Z1,Z2,Z3,Z4,Z5,Z6]
 obtain⟨p1,q1,rfl⟩:=HR13.out.shape
 obtain⟨p2,q2,rfl⟩:=HR2.out.shape
 repeat
  first
   | (refine along_off rfl (by rfl) (by rfl) (fun _ _ _ h=>h) hS0 ?_;simp only[Act.put,Z1,Z2,Z3,Z4,Z5,Z6])
   | (refine along_read (v:=?_) rfl (by rfl) (by rfl) (fun _ _ _ h=>h) hS0 (fun w' hS'=>?_) ?_;rotate_left;(focus (skip;clear hS';go_simp;try with_reducible rfl));simp only[Act.put,Z1,Z2,Z3,Z4,Z5,Z6])
   | (refine along_skip rfl (by rfl) (by rfl) hS0 ?_;simp only[Act.put,Z1,Z2,Z3,Z4,Z5,Z6])
 have hr8:=(HX.out _ hS0).2.2.2.2.1
 have HR8:=lh hr8
 have r0:=(cell_of_row _ _ 0 _ _ _ hr8).trans (show _=some (Value.slice none 0 0) from rfl)
 have r1:=(cell_of_row _ _ 1 _ _ _ hr8).trans (show _=some (Value.slice none 0 0) from rfl)
 have f0:=free_at hr8 0
 have f1:=free_at hr8 1
 have HCW:=lh (HXC.out.trans hS0 (by simp))
 refine along_op rfl (by rfl) (by rfl) (fun K hK=>?_)
 go_simp
 refine hK.out _ _ (fun h=>absurd h (Bool.eq_false_iff.1 (by kernel_rfl))) ?_
 clear hK K hr8
 try simp only[Act.put,Z1,Z2,Z3,Z4,Z5,Z6]
 refine along_done ?_
 clear x0 x1 y0 y1 hsz hS0 r0 r1 f0 f1
 obtain⟨-,o0,o1,o2⟩:=out_store2 HR8.out (.slice p1 (Plain.mergeL false a.v b.v).length q1) (.slice p2 (Plain.mergeL false a.e b.e).length q2)
 have O2:=lh o2
 go_wp2
 refine bodyPost_ret (v:=.agg #[.slice p1 (Plain.mergeL false a.v b.v).length q1,.slice p2 (Plain.mergeL false a.e b.e).length q2]) (by simp[results,Tryz.results26,go_sem,o0,o1]) rfl ?_
 refine⟨_,rfl,fun own wx hcx ho=>?_,HCW.out.trans O2.out (fun j hj=>Or.inr (by simp at hj;omega))⟩
 have hcc:Chg ((w.heap.size+2) :: own) w3 wx:=(O2.out.mono (by simp)).trans hcx (fun j hj=>Or.inl (List.mem_cons_of_mem _ hj))
 have hS3:=HX.out
 refine⟨_,_,rfl,MRow.of_row HR13.out hcc (fun j hj=>?_),MRow.of_row HR2.out hcc (fun j hj=>?_)⟩
 ·rcases List.mem_cons.1 hj with e | e
  ·have:=HBW.out;omega
  have:=ho j e;have:=HBW.out;omega
 rcases List.mem_cons.1 hj with e | e
 ·have:=HO1.out;omega
 have:=ho j e;have:=HO1.out;omega
set_option maxRecDepth 100000 in
set_option maxHeartbeats 2000000 in
theorem or_low (va vb:Value) (a b:Plain.Pt) (w:World) (h1:a.v.length≤1000000) (h2:a.e.length≤1000000) (h3:b.v.length≤1000000) (h4:b.e.length≤1000000) (ha:PtC w va a) (hb:PtC w vb b) :
  Calls Tryz.prog 81 #[va,vb] w fun e w'=>∃ ov,e=.returned ov∧(∀ own wx,Chg own w' wx→(∀ j∈own,j<w.heap.size)→PtC wx ov ⟨Plain.mergeL true a.v b.v,Plain.mergeL true a.e b.e⟩)∧Chg [] w w':=by
 have HA:=lh ha
 have HB:=lh hb
 obtain⟨ao,ac,bo,bc,rfl⟩:=ha.shape
 obtain⟨co,cc,fo,fc,rfl⟩:=hb.shape
 clear ha hb
 have HXC:=lh (show Chg [] w (((w.alloc (.cells #[.slice ao a.v.length ac,.slice bo a.e.length bc] 29)).alloc (.cells #[.slice co b.v.length cc,.slice fo b.e.length fc] 29)).alloc (.cells #[.slice none 0 0,.slice none 0 0] 29)) from (show Chg [] w (((w.alloc (.cells #[.slice ao a.v.length ac,.slice bo a.e.length bc] 29)).alloc (.cells #[.slice co b.v.length cc,.slice fo b.e.length fc] 29)).alloc (.cells #[.slice none 0 0,.slice none 0 0] 29)) from ((((Chg.refl [] w).alloc _).alloc _).alloc _)))
 have qbx0:=heap_alloc_new w (.cells #[.slice ao a.v.length ac,.slice bo a.e.length bc] 29)
 replace qbx0:=(show Chg [] (w.alloc (.cells #[.slice ao a.v.length ac,.slice bo a.e.length bc] 29)) (((w.alloc (.cells #[.slice ao a.v.length ac,.slice bo a.e.length bc] 29)).alloc (.cells #[.slice co b.v.length cc,.slice fo b.e.length fc] 29)).alloc (.cells #[.slice none 0 0,.slice none 0 0] 29)) from (((Chg.refl [] (w.alloc (.cells #[.slice ao a.v.length ac,.slice bo a.e.length bc] 29))).alloc _).alloc _)).heap qbx0 (by simp)
 have qbx1:=heap_alloc_new (w.alloc (.cells #[.slice ao a.v.length ac,.slice bo a.e.length bc] 29)) (.cells #[.slice co b.v.length cc,.slice fo b.e.length fc] 29)
 rw[show (w.alloc (.cells #[.slice ao a.v.length ac,.slice bo a.e.length bc] 29)).heap.size=w.heap.size+1 by simp] at qbx1
 replace qbx1:=(show Chg [] ((w.alloc (.cells #[.slice ao a.v.length ac,.slice bo a.e.length bc] 29)).alloc (.cells #[.slice co b.v.length cc,.slice fo b.e.length fc] 29)) (((w.alloc (.cells #[.slice ao a.v.length ac,.slice bo a.e.length bc] 29)).alloc (.cells #[.slice co b.v.length cc,.slice fo b.e.length fc] 29)).alloc (.cells #[.slice none 0 0,.slice none 0 0] 29)) from ((Chg.refl [] ((w.alloc (.cells #[.slice ao a.v.length ac,.slice bo a.e.length bc] 29)).alloc (.cells #[.slice co b.v.length cc,.slice fo b.e.length fc] 29))).alloc _)).heap qbx1 (by simp)
 have qbx2:=heap_alloc_new ((w.alloc (.cells #[.slice ao a.v.length ac,.slice bo a.e.length bc] 29)).alloc (.cells #[.slice co b.v.length cc,.slice fo b.e.length fc] 29)) (.cells #[.slice none 0 0,.slice none 0 0] 29)
 rw[show ((w.alloc (.cells #[.slice ao a.v.length ac,.slice bo a.e.length bc] 29)).alloc (.cells #[.slice co b.v.length cc,.slice fo b.e.length fc] 29)).heap.size=w.heap.size+2 by simp] at qbx2
 have HX:=lh (fun (w2:World) (hbx:Chg [] (((w.alloc (.cells #[.slice ao a.v.length ac,.slice bo a.e.length bc] 29)).alloc (.cells #[.slice co b.v.length cc,.slice fo b.e.length fc] 29)).alloc (.cells #[.slice none 0 0,.slice none 0 0] 29)) w2)=>(⟨hbx.cell ((cell_of_row _ _ 0 _ _ _ qbx0).trans rfl) (by simp),hbx.cell ((cell_of_row _ _ 1 _ _ _ qbx0).trans rfl) (by simp),hbx.cell ((cell_of_row _ _ 0 _ _ _ qbx1).trans rfl) (by simp),hbx.cell ((cell_of_row _ _ 1 _ _ _ qbx1).trans rfl) (by simp),hbx.heap qbx2 (by simp),by have hz:=hbx.size;simpa using hz⟩:w2.cell? ⟨w.heap.size,0,none⟩=some (.slice ao a.v.length ac)∧w2.cell? ⟨w.heap.size,1,none⟩=some (.slice bo a.e.length bc)∧w2.cell? ⟨w.heap.size+1,0,none⟩=some (.slice co b.v.length cc)∧w2.cell? ⟨w.heap.size+1,1,none⟩=some (.slice fo b.e.length fc)∧w2.heap[w.heap.size+2]?=some (.cells #[.slice none 0 0,.slice none 0 0] 29 (0,0))∧w.heap.size+3≤w2.heap.size))
 clear qbx0 qbx1 qbx2
 have HXZ:=lh (show (((w.alloc (.cells #[.slice ao a.v.length ac,.slice bo a.e.length bc] 29)).alloc (.cells #[.slice co b.v.length cc,.slice fo b.e.length fc] 29)).alloc (.cells #[.slice none 0 0,.slice none 0 0] 29)).heap.size=w.heap.size+3 by simp)
 have HM1:=lh (show ∀ w2,Chg [] w w2→MRow w2 (.slice ao a.v.length ac) a.v∧MRow w2 (.slice bo a.e.length bc) a.e from fun w2 h=>by
  obtain⟨v1,v2,e,k1,k2⟩:=HA.out.fresh h
  cases e
  exact⟨k1,k2⟩)
 have HM2:=lh (show ∀ w2,Chg [] w w2→MRow w2 (.slice co b.v.length cc) b.v∧MRow w2 (.slice fo b.e.length fc) b.e from fun w2 h=>by
  obtain⟨v1,v2,e,k1,k2⟩:=HB.out.fresh h
  cases e
  exact⟨k1,k2⟩)
 obtain⟨x0,x1,y0,y1,r8,hsz⟩:=HX.out _ (Chg.refl _ _)
 clear r8
 go_enter Tryz.func81,Tryz.ntmps81
 go_wp2
 generalize (((w.alloc (.cells #[.slice ao a.v.length ac,.slice bo a.e.length bc] 29)).alloc (.cells #[.slice co b.v.length cc,.slice fo b.e.length fc] 29)).alloc (.cells #[.slice none 0 0,.slice none 0 0] 29))=w1 at *
 have hS0:Chg [] w1 w1.drew:=(Chg.refl [] w1).drew
 refine wp_region_way (Chg [] w1) [0,1,2,3,5,6,7,8,10] (Way.line [0,1,2,3,5,6,7,8,4,9,10,11] .done) (by kernel_rfl) (by kernel_rfl) ?_
 simp only[Way.line]
 repeat
  first
   | (refine along_off rfl (by rfl) (by rfl) (fun _ _ _ h=>h) hS0 ?_;simp only[Act.put,Z1,Z2,Z3,Z4,Z5,Z6])
   | (refine along_read (v:=?_) rfl (by rfl) (by rfl) (fun _ _ _ h=>h) hS0 (fun w' hS'=>?_) ?_;rotate_left;(focus (have rd0:=hS'.cell x0 (by simp);have rd1:=hS'.cell x1 (by simp);have rd2:=hS'.cell y0 (by simp);have rd3:=hS'.cell y1 (by simp);clear hS';go_simp;try with_reducible rfl));simp only[Act.put,Z1,Z2,Z3,Z4,Z5,Z6])
   | (refine along_skip rfl (by rfl) (by rfl) hS0 ?_;simp only[Act.put,Z1,Z2,Z3,Z4,Z5,Z6])
 refine along_op rfl (by rfl) (by rfl) (fun K hK=>?_)
 go_simp
 refine (merge_any _ _ a.v b.v true _ h1 h3 (HM1.out _ (HXC.out.trans hS0 (by simp))).1 (HM2.out _ (HXC.out.trans hS0 (by simp))).1).mono ?_
 rintro e w2 ⟨o1,rfl,hr1,hcx⟩
 have HR1:=lh hr1
 have HBW:=lh (Nat.le_trans (HX.out _ hS0).2.2.2.2.2 (Nat.le_refl _))
 have hS1:=hS0.trans hcx (by simp)
 have HO1:=lh (show w.heap.size+3≤w2.heap.size from (HX.out _ hS1).2.2.2.2.2)
 clear hS0 hcx hr1
 have hS0:=hS1
 clear hS1
 refine hK.out _ _ (fun _=>hS0) ?_
 clear hK K
 try simp only[Act.put,Z1,Z2,Z3,Z4,Z5,Z6]
 refine along_op rfl (by rfl) (by rfl) (fun K hK=>?_)
 go_simp
 refine (merge_any _ _ a.e b.e true _ h2 h4 (HM1.out _ (HXC.out.trans hS0 (by simp))).2 (HM2.out _ (HXC.out.trans hS0 (by simp))).2).mono ?_
 rintro e w3 ⟨o2,rfl,hr2,hcx⟩
 have HR2:=lh hr2
 have HR13:=lh (HR1.out.chg hcx (by simp))
 have hS1:=hS0.trans hcx (by simp)
 clear hS0 hcx hr2
 have hS0:=hS1
 clear hS1
 refine hK.out _ _ (fun _=>hS0) ?_
 clear hK K
 try simp only[Act.put,Z1,Z2,Z3,Z4,Z5,Z6]
 obtain⟨p1,q1,rfl⟩:=HR13.out.shape
 obtain⟨p2,q2,rfl⟩:=HR2.out.shape
 repeat
  first
   | (refine along_off rfl (by rfl) (by rfl) (fun _ _ _ h=>h) hS0 ?_;simp only[Act.put,Z1,Z2,Z3,Z4,Z5,Z6])
   | (refine along_read (v:=?_) rfl (by rfl) (by rfl) (fun _ _ _ h=>h) hS0 (fun w' hS'=>?_) ?_;rotate_left;(focus (skip;clear hS';go_simp;try with_reducible rfl));simp only[Act.put,Z1,Z2,Z3,Z4,Z5,Z6])
   | (refine along_skip rfl (by rfl) (by rfl) hS0 ?_;simp only[Act.put,Z1,Z2,Z3,Z4,Z5,Z6])
 have hr8:=(HX.out _ hS0).2.2.2.2.1
 have HR8:=lh hr8
 have r0:=(cell_of_row _ _ 0 _ _ _ hr8).trans (show _=some (Value.slice none 0 0) from rfl)
 have r1:=(cell_of_row _ _ 1 _ _ _ hr8).trans (show _=some (Value.slice none 0 0) from rfl)
 have f0:=free_at hr8 0
 have f1:=free_at hr8 1
 have HCW:=lh (HXC.out.trans hS0 (by simp))
 refine along_op rfl (by rfl) (by rfl) (fun K hK=>?_)
 go_simp
 refine hK.out _ _ (fun h=>absurd h (Bool.eq_false_iff.1 (by kernel_rfl))) ?_
 clear hK K hr8
 try simp only[Act.put,Z1,Z2,Z3,Z4,Z5,Z6]
 refine along_done ?_
 clear x0 x1 y0 y1 hsz hS0 r0 r1 f0 f1
 obtain⟨-,o0,o1,o2⟩:=out_store2 HR8.out (.slice p1 (Plain.mergeL true a.v b.v).length q1) (.slice p2 (Plain.mergeL true a.e b.e).length q2)
 have O2:=lh o2
 go_wp2
 refine bodyPost_ret (v:=.agg #[.slice p1 (Plain.mergeL true a.v b.v).length q1,.slice p2 (Plain.mergeL true a.e b.e).length q2]) (by simp[results,Tryz.results81,go_sem,o0,o1]) rfl ?_
 refine⟨_,rfl,fun own wx hcx ho=>?_,HCW.out.trans O2.out (fun j hj=>Or.inr (by simp at hj;omega))⟩
 have hcc:Chg ((w.heap.size+2) :: own) w3 wx:=(O2.out.mono (by simp)).trans hcx (fun j hj=>Or.inl (List.mem_cons_of_mem _ hj))
 have hS3:=HX.out
 refine⟨_,_,rfl,MRow.of_row HR13.out hcc (fun j hj=>?_),MRow.of_row HR2.out hcc (fun j hj=>?_)⟩
 ·rcases List.mem_cons.1 hj with e | e
  ·have:=HBW.out;omega
  have:=ho j e;have:=HBW.out;omega
 rcases List.mem_cons.1 hj with e | e
 ·have:=HO1.out;omega
 have:=ho j e;have:=HO1.out;omega
noncomputable def Plain.ofErr (g:Plain.Gr) (p q:Plain.Pt) (turn same:List (List Int)):Int:=if Plain.planErr g p turn same≠0 then Plain.planErr g p turn same else if q.err g=0 then 0 else 4
theorem Plain.ofErr_zero {g:Plain.Gr} {p q:Plain.Pt} {turn same:List (List Int)} (h:Plain.planErr g p turn same=0) (h1:q.err g=0):Plain.ofErr g p q turn same=0:=by
 unfold Plain.ofErr
 rw[if_neg (by simp[h]),if_pos h1]
theorem Plain.ofErr_four {g:Plain.Gr} {p q:Plain.Pt} {turn same:List (List Int)} (h:Plain.planErr g p turn same=0) (h1:q.err g≠0):Plain.ofErr g p q turn same=4:=by
 unfold Plain.ofErr
 rw[if_neg (by simp[h]),if_neg h1]
theorem Plain.ofErr_plan {g:Plain.Gr} {p q:Plain.Pt} {turn same:List (List Int)} (h:Plain.planErr g p turn same≠0):Plain.ofErr g p q turn same=Plain.planErr g p turn same:=if_pos h
theorem Plain.ofErr_ok {g:Plain.Gr} {p q:Plain.Pt} {turn same:List (List Int)} (h:Plain.ofErr g p q turn same=0):Plain.planErr g p turn same=0∧q.err g=0:=by
 by_cases h1:Plain.planErr g p turn same=0
 ·by_cases h2:q.err g=0
  ·exact⟨h1,h2⟩
  rw[Plain.ofErr_four h1 h2] at h;cases h
 rw[Plain.ofErr_plan h1] at h;exact absurd h h1
set_option maxRecDepth 100000 in
set_option maxHeartbeats 4000000 in
theorem holdOf_low (vc vq:Value) (g:Plain.Gr) (p q:Plain.Pt) (turn same:List (List Int)) (w:World) (hpl:p.e.length≤10000) (hpv:p.v.length≤10000) (hql:q.e.length≤10000) (hqv:q.v.length≤10000) (hTL:turn.length<2147483648) (hS:Plain.sumLen turn turn.length<2147483648) (hsl:same.length≤10000) (hsr:∀ i,(same.getD i []).length≤10000) (hc:CaseAt w vc g p turn same) (hq:PtC w vq q) :
  Calls Tryz.prog 17 #[vc,vq] w fun e w'=>∃ o1 o2,e=.returned (.tuple #[o1,o2,.int .i64 (Plain.ofErr g p q turn same)])∧(Plain.ofErr g p q turn same≠0→o1=.agg #[.slice none 0 0,.slice none 0 0]∧o2=.agg #[.slice none 0 0,.slice none 0 0]) ∧
   (Plain.ofErr g p q turn same=0→∀ own wx,Chg own w' wx→(∀ j∈own,j<w.heap.size)→PtC wx o1 (Plain.andPt p q)∧PlAt wx o2 (Plain.restTurn (Plain.andPt p q).e turn) (Plain.restSame g p (Plain.andPt p q) turn same))∧Chg [] w w':=by
 have HS1:=lh hS
 have HSR:=lh hsr
 have HQ:=lh hq
 have HCA:=lh hc
 obtain⟨eo,cap,ao,ac,bo,bc,tno,tc,so,sc,rfl,hg,hp,hx⟩:=hc.shape
 obtain⟨co,cc,fo,fc,rfl⟩:=hq.shape
 have HG:=lh hg
 have HPC:=lh hp
 have HP:=lh hp.at
 have HXP:=lh hx
 clear hg hp hx hc hq hS hsr
 have HXC:=lh (show Chg [] w ((((w.alloc (.cells #[.int .i64 g.n,.slice eo g.e.length cap,.slice ao p.v.length ac,.slice bo p.e.length bc,.slice tno turn.length tc,.slice so same.length sc] 34)).alloc (.cells #[.slice co q.v.length cc,.slice fo q.e.length fc] 29)).alloc (.cells #[.slice none 0 0,.slice none 0 0] 29)).alloc (.cells #[.slice none 0 0,.slice none 0 0] 32)) from (show Chg [] w ((((w.alloc (.cells #[.int .i64 g.n,.slice eo g.e.length cap,.slice ao p.v.length ac,.slice bo p.e.length bc,.slice tno turn.length tc,.slice so same.length sc] 34)).alloc (.cells #[.slice co q.v.length cc,.slice fo q.e.length fc] 29)).alloc (.cells #[.slice none 0 0,.slice none 0 0] 29)).alloc (.cells #[.slice none 0 0,.slice none 0 0] 32)) from (((((Chg.refl [] w).alloc _).alloc _).alloc _).alloc _)))
 have qbx0:=heap_alloc_new w (.cells #[.int .i64 g.n,.slice eo g.e.length cap,.slice ao p.v.length ac,.slice bo p.e.length bc,.slice tno turn.length tc,.slice so same.length sc] 34)
 replace qbx0:=(show Chg [] (w.alloc (.cells #[.int .i64 g.n,.slice eo g.e.length cap,.slice ao p.v.length ac,.slice bo p.e.length bc,.slice tno turn.length tc,.slice so same.length sc] 34)) ((((w.alloc (.cells #[.int .i64 g.n,.slice eo g.e.length cap,.slice ao p.v.length ac,.slice bo p.e.length bc,.slice tno turn.length tc,.slice so same.length sc] 34)).alloc (.cells #[.slice co q.v.length cc,.slice fo q.e.length fc] 29)).alloc (.cells #[.slice none 0 0,.slice none 0 0] 29)).alloc (.cells #[.slice none 0 0,.slice none 0 0] 32)) from ((((Chg.refl [] (w.alloc (.cells #[.int .i64 g.n,.slice eo g.e.length cap,.slice ao p.v.length ac,.slice bo p.e.length bc,.slice tno turn.length tc,.slice so same.length sc] 34))).alloc _).alloc _).alloc _)).heap qbx0 (by simp)
 have qbx1:=heap_alloc_new (w.alloc (.cells #[.int .i64 g.n,.slice eo g.e.length cap,.slice ao p.v.length ac,.slice bo p.e.length bc,.slice tno turn.length tc,.slice so same.length sc] 34)) (.cells #[.slice co q.v.length cc,.slice fo q.e.length fc] 29)
 rw[show (w.alloc (.cells #[.int .i64 g.n,.slice eo g.e.length cap,.slice ao p.v.length ac,.slice bo p.e.length bc,.slice tno turn.length tc,.slice so same.length sc] 34)).heap.size=w.heap.size+1 by simp] at qbx1
 replace qbx1:=(show Chg [] ((w.alloc (.cells #[.int .i64 g.n,.slice eo g.e.length cap,.slice ao p.v.length ac,.slice bo p.e.length bc,.slice tno turn.length tc,.slice so same.length sc] 34)).alloc (.cells #[.slice co q.v.length cc,.slice fo q.e.length fc] 29)) ((((w.alloc (.cells #[.int .i64 g.n,.slice eo g.e.length cap,.slice ao p.v.length ac,.slice bo p.e.length bc,.slice tno turn.length tc,.slice so same.length sc] 34)).alloc (.cells #[.slice co q.v.length cc,.slice fo q.e.length fc] 29)).alloc (.cells #[.slice none 0 0,.slice none 0 0] 29)).alloc (.cells #[.slice none 0 0,.slice none 0 0] 32)) from (((Chg.refl [] ((w.alloc (.cells #[.int .i64 g.n,.slice eo g.e.length cap,.slice ao p.v.length ac,.slice bo p.e.length bc,.slice tno turn.length tc,.slice so same.length sc] 34)).alloc (.cells #[.slice co q.v.length cc,.slice fo q.e.length fc] 29))).alloc _).alloc _)).heap qbx1 (by simp)
 have qbx2:=heap_alloc_new ((w.alloc (.cells #[.int .i64 g.n,.slice eo g.e.length cap,.slice ao p.v.length ac,.slice bo p.e.length bc,.slice tno turn.length tc,.slice so same.length sc] 34)).alloc (.cells #[.slice co q.v.length cc,.slice fo q.e.length fc] 29)) (.cells #[.slice none 0 0,.slice none 0 0] 29)
 rw[show ((w.alloc (.cells #[.int .i64 g.n,.slice eo g.e.length cap,.slice ao p.v.length ac,.slice bo p.e.length bc,.slice tno turn.length tc,.slice so same.length sc] 34)).alloc (.cells #[.slice co q.v.length cc,.slice fo q.e.length fc] 29)).heap.size=w.heap.size+2 by simp] at qbx2
 replace qbx2:=(show Chg [] (((w.alloc (.cells #[.int .i64 g.n,.slice eo g.e.length cap,.slice ao p.v.length ac,.slice bo p.e.length bc,.slice tno turn.length tc,.slice so same.length sc] 34)).alloc (.cells #[.slice co q.v.length cc,.slice fo q.e.length fc] 29)).alloc (.cells #[.slice none 0 0,.slice none 0 0] 29)) ((((w.alloc (.cells #[.int .i64 g.n,.slice eo g.e.length cap,.slice ao p.v.length ac,.slice bo p.e.length bc,.slice tno turn.length tc,.slice so same.length sc] 34)).alloc (.cells #[.slice co q.v.length cc,.slice fo q.e.length fc] 29)).alloc (.cells #[.slice none 0 0,.slice none 0 0] 29)).alloc (.cells #[.slice none 0 0,.slice none 0 0] 32)) from ((Chg.refl [] (((w.alloc (.cells #[.int .i64 g.n,.slice eo g.e.length cap,.slice ao p.v.length ac,.slice bo p.e.length bc,.slice tno turn.length tc,.slice so same.length sc] 34)).alloc (.cells #[.slice co q.v.length cc,.slice fo q.e.length fc] 29)).alloc (.cells #[.slice none 0 0,.slice none 0 0] 29))).alloc _)).heap qbx2 (by simp)
 have qbx3:=heap_alloc_new (((w.alloc (.cells #[.int .i64 g.n,.slice eo g.e.length cap,.slice ao p.v.length ac,.slice bo p.e.length bc,.slice tno turn.length tc,.slice so same.length sc] 34)).alloc (.cells #[.slice co q.v.length cc,.slice fo q.e.length fc] 29)).alloc (.cells #[.slice none 0 0,.slice none 0 0] 29)) (.cells #[.slice none 0 0,.slice none 0 0] 32)
 rw[show (((w.alloc (.cells #[.int .i64 g.n,.slice eo g.e.length cap,.slice ao p.v.length ac,.slice bo p.e.length bc,.slice tno turn.length tc,.slice so same.length sc] 34)).alloc (.cells #[.slice co q.v.length cc,.slice fo q.e.length fc] 29)).alloc (.cells #[.slice none 0 0,.slice none 0 0] 29)).heap.size=w.heap.size+3 by simp] at qbx3
 have HX:=lh (fun (w2:World) (hbx:Chg [] ((((w.alloc (.cells #[.int .i64 g.n,.slice eo g.e.length cap,.slice ao p.v.length ac,.slice bo p.e.length bc,.slice tno turn.length tc,.slice so same.length sc] 34)).alloc (.cells #[.slice co q.v.length cc,.slice fo q.e.length fc] 29)).alloc (.cells #[.slice none 0 0,.slice none 0 0] 29)).alloc (.cells #[.slice none 0 0,.slice none 0 0] 32)) w2)=>(⟨hbx.cell ((cell_of_row _ _ 0 _ _ _ qbx0).trans rfl) (by simp),hbx.cell ((cell_of_row _ _ 1 _ _ _ qbx0).trans rfl) (by simp),hbx.cell ((cell_of_row _ _ 2 _ _ _ qbx0).trans rfl) (by simp),hbx.cell ((cell_of_row _ _ 3 _ _ _ qbx0).trans rfl) (by simp),hbx.cell ((cell_of_row _ _ 4 _ _ _ qbx0).trans rfl) (by simp),hbx.cell ((cell_of_row _ _ 5 _ _ _ qbx0).trans rfl) (by simp),hbx.cell ((cell_of_row _ _ 0 _ _ _ qbx1).trans rfl) (by simp),hbx.cell ((cell_of_row _ _ 1 _ _ _ qbx1).trans rfl) (by simp),hbx.heap qbx2 (by simp),hbx.heap qbx3 (by simp),by have hz:=hbx.size;simpa using hz⟩:w2.cell? ⟨w.heap.size,0,none⟩=some (.int .i64 g.n)∧w2.cell? ⟨w.heap.size,1,none⟩=some (.slice eo g.e.length cap)∧w2.cell? ⟨w.heap.size,2,none⟩=some (.slice ao p.v.length ac)∧w2.cell? ⟨w.heap.size,3,none⟩=some (.slice bo p.e.length bc)∧w2.cell? ⟨w.heap.size,4,none⟩=some (.slice tno turn.length tc)∧w2.cell? ⟨w.heap.size,5,none⟩=some (.slice so same.length sc)∧w2.cell? ⟨w.heap.size+1,0,none⟩=some (.slice co q.v.length cc)∧w2.cell? ⟨w.heap.size+1,1,none⟩=some (.slice fo q.e.length fc)∧w2.heap[w.heap.size+2]?=some (.cells #[.slice none 0 0,.slice none 0 0] 29 (0,0))∧w2.heap[w.heap.size+3]?=some (.cells #[.slice none 0 0,.slice none 0 0] 32 (0,0))∧w.heap.size+4≤w2.heap.size))
 clear qbx0 qbx1 qbx2 qbx3
 have HXZ:=lh (show ((((w.alloc (.cells #[.int .i64 g.n,.slice eo g.e.length cap,.slice ao p.v.length ac,.slice bo p.e.length bc,.slice tno turn.length tc,.slice so same.length sc] 34)).alloc (.cells #[.slice co q.v.length cc,.slice fo q.e.length fc] 29)).alloc (.cells #[.slice none 0 0,.slice none 0 0] 29)).alloc (.cells #[.slice none 0 0,.slice none 0 0] 32)).heap.size=w.heap.size+4 by simp)
 obtain⟨c0,c1,c2,c3,c4,c5,q0,q1,r8,r9,hsz⟩:=HX.out _ (Chg.refl _ _)
 clear r8 r9
 go_enter Tryz.func17,Tryz.ntmps17
 go_wp2_with fail
 generalize ((((w.alloc (.cells #[.int .i64 g.n,.slice eo g.e.length cap,.slice ao p.v.length ac,.slice bo p.e.length bc,.slice tno turn.length tc,.slice so same.length sc] 34)).alloc (.cells #[.slice co q.v.length cc,.slice fo q.e.length fc] 29)).alloc (.cells #[.slice none 0 0,.slice none 0 0] 29)).alloc (.cells #[.slice none 0 0,.slice none 0 0] 32))=w1 at *
 have HSZ1:=lh (show w.heap.size+4≤w1.heap.size from (HX.out w1 (Chg.refl _ _)).2.2.2.2.2.2.2.2.2.2)
 have HRW:=lh (fun w2 (h:Chg [] w1 w2)=>(⟨(HX.out w2 h).2.2.2.2.2.2.2.2.1,(HX.out w2 h).2.2.2.2.2.2.2.2.2.1⟩:w2.heap[w.heap.size+2]?=some (.cells #[.slice none 0 0,.slice none 0 0] 29 (0,0))∧w2.heap[w.heap.size+3]?=some (.cells #[.slice none 0 0,.slice none 0 0] 32 (0,0))))
 refine (holdRight_any _ g p turn same _ (by omega) (by omega) hTL HS1.out hsl HSR.out (HCA.out.fresh HXC.out)).mono ?_
 rintro e w2 ⟨rfl,hc2⟩
 have HC2:=lh hc2
 clear c0 c1 c2 c3 c4 c5 q0 q1 hsz hc2
 obtain⟨c0,c1,c2,c3,c4,c5,q0,q1,-,-,hsz⟩:=HX.out _ HC2.out
 by_cases hz:Plain.planErr g p turn same=0
 ·have HZ:=lh hz
  rw[hz]
  clear hz
  go_wp2_with fail
  refine (rightPart_any _ _ g q _ (by omega) (HG.out.fresh (HXC.out.trans HC2.out (by simp))) (HQ.out.at.fresh (HXC.out.trans HC2.out (by simp)))).mono ?_
  rintro e w3 ⟨rfl,hc3⟩
  have HC3:=lh (HC2.out.trans hc3 (by simp))
  clear c0 c1 c2 c3 c4 c5 q0 q1 hsz hc3
  obtain⟨c0,c1,c2,c3,c4,c5,q0,q1,-,-,hsz⟩:=HX.out _ HC3.out
  by_cases hq0:q.err g=0
  ·have HQ0:=lh hq0
   rw[hq0]
   clear hq0
   go_wp2_with fail
   refine (and_low _ _ p q _ (by omega) (by omega) (by omega) (by omega) (HPC.out.fresh (HXC.out.trans HC3.out (by simp))) (HQ.out.fresh (HXC.out.trans HC3.out (by simp)))).mono ?_
   rintro e w4 ⟨ov,rfl,hand,hc4⟩
   have hpe:=(Plain.zero_ok HZ.out).1
   rw[Plain.mergeL_two (Plain.part_rise hpe).1 (Plain.part_rise HQ0.out).1,Plain.mergeL_two (Plain.part_rise hpe).2 (Plain.part_rise HQ0.out).2] at hand
   have HRE:=lh (restErr_zero HZ.out (Plain.andPt_err hpe HQ0.out) Plain.andPt_left.1 Plain.andPt_left.2)
   have hl1:(Plain.andPt p q).v.length≤10000:=Nat.le_trans (List.length_filter_le _ _) hpv
   have hl2:(Plain.andPt p q).e.length≤10000:=Nat.le_trans (List.length_filter_le _ _) hpl
   have HAND:=lh (show ∀ own wx,Chg own w4 wx→(∀ j∈own,j<w3.heap.size)→PtC wx ov (Plain.andPt p q) from hand)
   have HBS:=lh (show w.heap.size+4≤w3.heap.size from hsz)
   obtain⟨h,hh⟩:∃ h,Plain.andPt p q=h:=⟨_,rfl⟩
   have HH:=lh hh
   rw[hh] at HAND HRE hl1 hl2
   obtain⟨p1,k1,p2,k2,rfl⟩:=(HAND.out [] w4 (Chg.refl _ _) (by simp)).shape
   have HC4:=lh (HC3.out.trans hc4 (by simp))
   have HC34:=lh hc4
   have hset:Chg [] w4 (w4.alloc (.cells #[.slice p1 h.v.length k1,.slice p2 h.e.length k2] 29)):=(Chg.refl [] w4).alloc _
   have hheap:=heap_alloc_new w4 (.cells #[.slice p1 h.v.length k1,.slice p2 h.e.length k2] 29)
   have M0:=lh ((cell_of_row _ _ 0 _ _ _ hheap).trans (show _=some (Value.slice p1 h.v.length k1) from rfl))
   have M1:=lh ((cell_of_row _ _ 1 _ _ _ hheap).trans (show _=some (Value.slice p2 h.e.length k2) from rfl))
   have HS5:=lh hset
   have HC5:=lh (HC4.out.trans hset (by simp))
   clear c0 c1 c2 c3 c4 c5 q0 q1 hsz hand hc4 hh hheap hset
   obtain⟨c0,c1,c2,c3,c4,c5,q0,q1,-,-,hsz⟩:=HX.out _ HC5.out
   have m0:=M0.out
   have m1:=M1.out
   go_wp2_with fail
   generalize (w4.alloc (.cells #[.slice p1 h.v.length k1,.slice p2 h.e.length k2] 29))=w5 at *
   obtain⟨xb,hxb⟩:∃ b,w4.heap.size=b:=⟨_,rfl⟩
   rw[hxb] at m0 m1 M0 M1 ⊢
   have HXB:=lh (show w.heap.size+4≤xb by rw[←hxb];have:=HC4.out.size;have:=HSZ1.out;omega)
   clear hxb
   have HW5:=lh (HXC.out.trans HC5.out (by simp))
   refine (restTo_low _ _ _ _ g p h turn same _ hpl hpv hl2 hl1 hTL HS1.out hsl HSR.out (HG.out.fresh HW5.out) (HP.out.fresh HW5.out) (HXP.out.fresh HW5.out) (HAND.out [] w5 HS5.out (by simp)).at).mono ?_
   rintro e w6 ⟨ov2,rfl,-,hyes,hc6⟩
   have hyes:=hyes HRE.out
   rw[HRE.out]
   obtain⟨u1,u2,rfl,⟨p3,k3,rfl,-⟩,⟨p4,k4,rfl,-⟩⟩:=hyes [] w6 (Chg.refl _ _) (by simp)
   obtain⟨A1,hA1⟩:∃ x,Plain.restTurn h.e turn=x:=⟨_,rfl⟩
   obtain⟨A2,hA2⟩:∃ x,Plain.restSame g p h turn same=x:=⟨_,rfl⟩
   have HA1:=lh hA1
   have HA2:=lh hA2
   rw[hA1,hA2] at hyes ⊢
   have HYES:=lh hyes
   have HC6:=lh (HC5.out.trans hc6 (by simp))
   have HC56:=lh hc6
   have hset:Chg [] w6 (w6.alloc (.cells #[.slice p3 A1.length k3,.slice p4 A2.length k4] 32)):=(Chg.refl [] w6).alloc _
   have hheap:=heap_alloc_new w6 (.cells #[.slice p3 A1.length k3,.slice p4 A2.length k4] 32)
   have n0:=(cell_of_row _ _ 0 _ _ _ hheap).trans (show _=some (Value.slice p3 A1.length k3) from rfl)
   have n1:=(cell_of_row _ _ 1 _ _ _ hheap).trans (show _=some (Value.slice p4 A2.length k4) from rfl)
   have HS7:=lh hset
   have HC7:=lh (HC6.out.trans hset (by simp))
   clear c0 c1 c2 c3 c4 c5 q0 q1 hsz m0 m1 hyes hc6 hheap hA1 hA2
   have m0:=hset.cell (HC56.out.cell M0.out (by simp)) (by simp)
   have m1:=hset.cell (HC56.out.cell M1.out (by simp)) (by simp)
   clear hset
   go_wp2
   generalize (w6.alloc (.cells #[.slice p3 A1.length k3,.slice p4 A2.length k4] 32))=w7 at *
   obtain⟨zb,hzb⟩:∃ b,w6.heap.size=b:=⟨_,rfl⟩
   rw[hzb] at n0 n1 ⊢
   have hxb2:w.heap.size+2<xb:=by have:=HXB.out;omega
   have hzb2:w.heap.size+2<zb:=by have:=HC6.out.size;have:=HSZ1.out;omega
   clear hzb
   have hS0:Chg [w.heap.size+2] w7 w7.drew:=(Chg.refl [w.heap.size+2] w7).drew
   refine wp_region_way (Chg [w.heap.size+2] w7) [0,1] (Way.line [0,1,2,3,4] .done) (by kernel_rfl) (by kernel_rfl) ?_
   simp only[Way.line]
   repeat
    first
     | (refine along_off rfl (by rfl) (by rfl) (fun _ _ _ h=>h) hS0 ?_;simp only[Act.put,Z1,Z2,Z3,Z4,Z5,Z6])
     | (refine along_read (v:=?_) rfl (by rfl) (by rfl) (fun _ _ _ h=>h) hS0 (fun w' hS'=>?_) ?_;rotate_left;(focus (have rd0:=hS'.cell m0 (fun e=>by simp at e;omega);have rd1:=hS'.cell m1 (fun e=>by simp at e;omega);have rd2:=hS'.cell n0 (fun e=>by simp at e;omega);have rd3:=hS'.cell n1 (fun e=>by simp at e;omega);clear hS';go_simp;try with_reducible rfl));simp only[Act.put,Z1,Z2,Z3,Z4,Z5,Z6])
     | (refine along_skip rfl (by rfl) (by rfl) hS0 ?_;simp only[Act.put,Z1,Z2,Z3,Z4,Z5,Z6])
   have HC8:=lh (show Chg [] w1 w7.drew from HC7.out.drew)
   obtain⟨hr8,hr9⟩:=HRW.out _ HC8.out
   have HR8:=lh hr8
   have HR9:=lh hr9
   have HS78:=lh (show Chg [] w7 w7.drew from (Chg.refl [] w7).drew)
   have r0:=(cell_of_row _ _ 0 _ _ _ hr8).trans (show _=some (Value.slice none 0 0) from rfl)
   have r1:=(cell_of_row _ _ 1 _ _ _ hr8).trans (show _=some (Value.slice none 0 0) from rfl)
   have f0:=free_at hr8 0
   have f1:=free_at hr8 1
   generalize w7.drew=w8 at *
   obtain⟨-,-,-,cs1⟩:=out_store2 HR8.out (.slice p1 h.v.length k1) (.slice p2 h.e.length k2)
   have HCS1:=lh (hS0.trans cs1 (fun j hj=>Or.inl hj))
   clear cs1
   refine along_op rfl (by rfl) (by rfl) (fun K hK=>?_)
   go_simp
   refine hK.out _ _ (fun _=>HCS1.out) ?_
   clear hK K
   try simp only[Act.put,Z1,Z2,Z3,Z4,Z5,Z6]
   obtain⟨-,o0,o1,c1⟩:=out_store2 HR8.out (.slice p1 h.v.length k1) (.slice p2 h.e.length k2)
   have O0:=lh o0
   have O1:=lh o1
   have HW9:=lh c1
   have hr9':=c1.heap HR9.out (by simp)
   have HR99:=lh hr9'
   have r2:=(cell_of_row _ _ 0 _ _ _ hr9').trans (show _=some (Value.slice none 0 0) from rfl)
   have r3:=(cell_of_row _ _ 1 _ _ _ hr9').trans (show _=some (Value.slice none 0 0) from rfl)
   have f2:=free_at hr9' 0
   have f3:=free_at hr9' 1
   clear r0 r1 f0 f1 hr8 hr9 hr9' o0 o1 c1 m0 m1 n0 n1 hS0
   generalize ((w8.setCell ⟨w.heap.size+2,0,none⟩ (.slice p1 h.v.length k1)).setCell ⟨w.heap.size+2,1,none⟩ (.slice p2 h.e.length k2))=w9 at *
   refine along_op rfl (by rfl) (by rfl) (fun K hK=>?_)
   go_simp
   refine hK.out _ _ (fun h=>absurd h (Bool.eq_false_iff.1 (by kernel_rfl))) ?_
   clear hK K
   try simp only[Act.put,Z1,Z2,Z3,Z4,Z5,Z6]
   obtain⟨-,o2,o3,c2⟩:=out_store2 HR99.out (.slice p3 A1.length k3) (.slice p4 A2.length k4)
   have o4:=c2.cell O0.out (by simp)
   have o5:=c2.cell O1.out (by simp)
   have HW10:=lh c2
   clear r2 r3 f2 f3 c2
   generalize ((w9.setCell ⟨w.heap.size+3,0,none⟩ (.slice p3 A1.length k3)).setCell ⟨w.heap.size+3,1,none⟩ (.slice p4 A2.length k4))=w10 at *
   refine along_op rfl (by rfl) (by rfl) (fun K hK=>?_)
   go_simp
   refine hK.out _ _ (fun h=>absurd h (Bool.eq_false_iff.1 (by kernel_rfl))) ?_
   clear hK K
   try simp only[Act.put,Z1,Z2,Z3,Z4,Z5,Z6]
   refine along_done ?_
   have HE:=lh (Plain.ofErr_zero HZ.out HQ0.out)
   have HF:=lh (show Chg [w.heap.size+2,w.heap.size+3] w7 w10 from ((HS78.out.mono (by simp)).trans HW9.out (fun j hj=>Or.inl (by simp at hj;simp[hj]))).trans HW10.out (fun j hj=>Or.inl (by simp at hj;simp[hj])))
   have O2:=lh o2
   have O3:=lh o3
   have O4:=lh o4
   have O5:=lh o5
   clear o2 o3 o4 o5
   go_wp2
   refine bodyPost_ret (v:=.tuple #[.agg #[.slice p1 h.v.length k1,.slice p2 h.e.length k2],.agg #[.slice p3 A1.length k3,.slice p4 A2.length k4],.int .i64 0]) (by have o2:=O2.out;have o3:=O3.out;have o4:=O4.out;have o5:=O5.out;simp[results,Tryz.results17,go_sem,o2,o3,o4,o5]) rfl ?_
   have hlow:∀ j∈[w.heap.size+2,w.heap.size+3],j<w3.heap.size:=fun j hj=>by have:=HBS.out;simp at hj;omega
   have hlow5:∀ j∈[w.heap.size+2,w.heap.size+3],j<w5.heap.size:=fun j hj=>by have:=hlow j hj;have h1:=HC34.out.size;have h2:=HS5.out.size;omega
   have hf4:Chg [w.heap.size+2,w.heap.size+3] w4 w10:=(((HS5.out.trans HC56.out (by simp)).trans HS7.out (by simp)).mono (by simp)).trans HF.out (fun j hj=>Or.inl hj)
   have hf6:Chg [w.heap.size+2,w.heap.size+3] w6 w10:=(HS7.out.mono (by simp)).trans HF.out (fun j hj=>Or.inl hj)
   refine⟨_,_,by rw[HE.out],fun h=>absurd HE.out h,fun _ own wx hcx ho=>⟨by rw[HH.out];exact HAND.out ([w.heap.size+2,w.heap.size+3]++own) _ ((hf4.mono (fun j hj=>Or.inl (List.mem_append_left _ hj))).trans hcx (fun j hj=>Or.inl (List.mem_append_right _ hj))) (fun j hj=>by rcases List.mem_append.1 hj with k | k;exact hlow j k;have:=ho j k;have:=HBS.out;omega),by rw[HH.out,HA1.out,HA2.out];exact HYES.out ([w.heap.size+2,w.heap.size+3]++own) _ ((hf6.mono (fun j hj=>Or.inl (List.mem_append_left _ hj))).trans hcx (fun j hj=>Or.inl (List.mem_append_right _ hj))) (fun j hj=>by rcases List.mem_append.1 hj with k | k;exact hlow5 j k;have:=ho j k;have:=HBS.out;have h1:=HC34.out.size;have h2:=HS5.out.size;omega)⟩,((HXC.out.trans HC7.out (by simp)).mono (by simp)).trans HF.out (fun j hj=>Or.inr (by simp at hj;omega))⟩
  have HE:=lh (Plain.ofErr_four HZ.out hq0)
  obtain⟨er,her⟩:∃ er,q.err g=er:=⟨_,rfl⟩
  rw[her] at hq0 ⊢
  have bz:(er != 0)=true:=by simp only[bne_iff_ne];exact hq0
  have HW3:=lh (HXC.out.trans HC3.out (by simp))
  clear c0 c1 c2 c3 c4 c5 q0 q1 hsz hq0 her
  have hr8:=(HRW.out _ HC3.out).1
  have hr9:=(HRW.out _ HC3.out).2
  have HR8:=lh hr8
  have HR9:=lh hr9
  have r0:=(cell_of_row _ _ 0 _ _ _ hr8).trans (show _=some (Value.slice none 0 0) from rfl)
  have r1:=(cell_of_row _ _ 1 _ _ _ hr8).trans (show _=some (Value.slice none 0 0) from rfl)
  have r2:=(cell_of_row _ _ 0 _ _ _ hr9).trans (show _=some (Value.slice none 0 0) from rfl)
  have r3:=(cell_of_row _ _ 1 _ _ _ hr9).trans (show _=some (Value.slice none 0 0) from rfl)
  have f0:=free_at hr8 0
  have f1:=free_at hr8 1
  have f2:=free_at hr9 0
  have f3:=free_at hr9 1
  clear hr8 hr9
  go_wp2
  obtain⟨-,o0,o1,p1⟩:=out_store2 HR8.out (.slice none 0 0) (.slice none 0 0)
  obtain⟨-,o2,o3,p2⟩:=out_store2 (p1.heap HR9.out (by simp)) (.slice none 0 0) (.slice none 0 0)
  have o4:=p2.cell o0 (by simp)
  have o5:=p2.cell o1 (by simp)
  refine bodyPost_ret (v:=.tuple #[.agg #[.slice none 0 0,.slice none 0 0],.agg #[.slice none 0 0,.slice none 0 0],.int .i64 4]) (by simp[results,Tryz.results17,go_sem,o2,o3,o4,o5]) rfl ?_
  exact⟨_,_,by rw[HE.out],fun _=>⟨rfl,rfl⟩,fun h=>absurd (HE.out.symm.trans h) (by decide),((HW3.out.mono (by simp)).trans p1 (fun j hj=>Or.inr (by simp at hj;omega))).trans p2 (fun j hj=>Or.inr (by simp at hj;omega))⟩
 have HE:=lh (Plain.ofErr_plan (q:=q) hz)
 have HZ:=lh hz
 obtain⟨er,her⟩:∃ er,Plain.planErr g p turn same=er:=⟨_,rfl⟩
 rw[her] at hz HE HZ ⊢
 have bz:(er != 0)=true:=by simp only[bne_iff_ne];exact hz
 have HW2:=lh (HXC.out.trans HC2.out (by simp))
 clear c0 c1 c2 c3 c4 c5 q0 q1 hsz hz her
 have hr8:=(HRW.out _ HC2.out).1
 have hr9:=(HRW.out _ HC2.out).2
 have HR8:=lh hr8
 have HR9:=lh hr9
 have r0:=(cell_of_row _ _ 0 _ _ _ hr8).trans (show _=some (Value.slice none 0 0) from rfl)
 have r1:=(cell_of_row _ _ 1 _ _ _ hr8).trans (show _=some (Value.slice none 0 0) from rfl)
 have r2:=(cell_of_row _ _ 0 _ _ _ hr9).trans (show _=some (Value.slice none 0 0) from rfl)
 have r3:=(cell_of_row _ _ 1 _ _ _ hr9).trans (show _=some (Value.slice none 0 0) from rfl)
 have f0:=free_at hr8 0
 have f1:=free_at hr8 1
 have f2:=free_at hr9 0
 have f3:=free_at hr9 1
 clear hr8 hr9
 go_wp2
 obtain⟨-,o0,o1,p1⟩:=out_store2 HR8.out (.slice none 0 0) (.slice none 0 0)
 obtain⟨-,o2,o3,p2⟩:=out_store2 (p1.heap HR9.out (by simp)) (.slice none 0 0) (.slice none 0 0)
 have o4:=p2.cell o0 (by simp)
 have o5:=p2.cell o1 (by simp)
 refine bodyPost_ret (v:=.tuple #[.agg #[.slice none 0 0,.slice none 0 0],.agg #[.slice none 0 0,.slice none 0 0],.int .i64 er]) (by simp[results,Tryz.results17,go_sem,o2,o3,o4,o5]) rfl ?_
 exact⟨_,_,by rw[HE.out],fun _=>⟨rfl,rfl⟩,fun h=>absurd (HE.out.symm.trans h) HZ.out,((HW2.out.mono (by simp)).trans p1 (fun j hj=>Or.inr (by simp at hj;omega))).trans p2 (fun j hj=>Or.inr (by simp at hj;omega))⟩
theorem holdOf_any (vc vq:Value) (g:Plain.Gr) (p q:Plain.Pt) (turn same:List (List Int)) (w:World) (hpl:p.e.length≤10000) (hpv:p.v.length≤10000) (hql:q.e.length≤10000) (hqv:q.v.length≤10000) (hTL:turn.length<2147483648) (hS:Plain.sumLen turn turn.length<2147483648) (hsl:same.length≤10000) (hsr:∀ i,(same.getD i []).length≤10000) (hc:CaseAt w vc g p turn same) (hq:PtC w vq q) :
  Calls Tryz.prog 17 #[vc,vq] w fun e w'=>∃ o1 o2,e=.returned (.tuple #[o1,o2,.int .i64 (Plain.ofErr g p q turn same)])∧(Plain.ofErr g p q turn same≠0→o1=.agg #[.slice none 0 0,.slice none 0 0]∧o2=.agg #[.slice none 0 0,.slice none 0 0]) ∧
   (Plain.ofErr g p q turn same=0→PtC w' o1 (Plain.andPt p q)∧PlAt w' o2 (Plain.restTurn (Plain.andPt p q).e turn) (Plain.restSame g p (Plain.andPt p q) turn same))∧Chg [] w w':=by
 refine (holdOf_low vc vq g p q turn same w hpl hpv hql hqv hTL hS hsl hsr hc hq).mono ?_
 rintro e w' ⟨o1,o2,he,hno,hyes,hcx⟩
 exact⟨o1,o2,he,hno,fun h=>hyes h [] w' (Chg.refl _ _) (by simp),hcx⟩
end Go.Proofs.YtkacjmoamgjfpaaGreat
namespace Go.Proofs.YtkacjmoamgjfpaaGreat
open Go
section
variable {P : Program} {ops : Array Oper} {Q : Exit → Act → World → Prop} {md : Region.Mode} {w0 : World} {fr : (Nat → Value) → Act} {z : Nat} {fin : List Nat}
def Calm (p:Value→World→Prop):Prop:=∀ u w w',Chg [] w w'→p u w→p u w'
def MonoC (P:Program) (ops:Array Oper) (Q:Exit→Act→World→Prop) (w0:World) (fr:(Nat→Value)→Act) (z:Nat) (fin:List Nat) (L:List (Value→World→Prop)):Nat→List (Oper × List Nat)→Prop
 | _,[]=>∀ vals w,Chg [] w0 w→Facts L vals w fin→wpOp P ops Q z (fun a' w'=>Q .normal a' w') (fr vals) w
 | i,(o,d) :: r=>∃ p,(Calm p∧∀ vals w,Chg [] w0 w→Facts L vals w d→wpOp P ops Q i (fun a' w'=>∃ v,a'=(fr vals).put o.dst v∧p v w'∧Chg [] w w') (fr vals) w)∧MonoC P ops Q w0 fr z fin (L++[p]) (i+1) r
theorem monoC_out:∀ (todo:List (Oper × List Nat)) (i:Nat) (L:List (Value→World→Prop)),L.length=i→MonoC P ops Q w0 fr z fin L i todo→(∀ k o d,todo[k]?=some (o,d)→∀ x∈d,x<i+k) →
  ∃ L',(∀ j,j<i→L'.getD j (fun _ _=>True)=L.getD j (fun _ _=>True))∧L'.length=i+todo.length ∧
   (∀ k o d,todo[k]?=some (o,d)→Calm (L'.getD (i+k) (fun _ _=>True))∧∀ vals w,Chg [] w0 w→Facts L' vals w d→wpOp P ops Q (i+k) (fun a' w'=>∃ v,a'=(fr vals).put o.dst v∧(L'.getD (i+k) (fun _ _=>True)) v w'∧Chg [] w w') (fr vals) w) ∧
   (∀ vals w,Chg [] w0 w→Facts L' vals w fin→wpOp P ops Q z (fun a' w'=>Q .normal a' w') (fr vals) w)
 | [],i,L,hl,h,_=>⟨L,fun _ _=>rfl,by simp[hl],fun k o d hk=>by simp at hk,h⟩
 | (o,d) :: r,i,L,hl,⟨p,⟨h1,h2⟩,h3⟩,hd=>by
  obtain⟨L',k1,k2,k3,k4⟩:=monoC_out r (i+1) (L++[p]) (by simp[hl]) h3 (fun k o' d' hk x hx=>by have:=hd (k+1) o' d' (by simpa using hk) x hx;omega)
  have hp:L'.getD i (fun _ _=>True)=p:=by
   rw[k1 i (by omega)]
   simp[List.getD,hl]
  have hold:∀ j,j<i→L'.getD j (fun _ _=>True)=L.getD j (fun _ _=>True):=fun j hj=>by
   rw[k1 j (by omega)]
   simp[List.getD,List.getElem?_append_left (by omega:j<L.length)]
  refine⟨L',hold,by rw[k2];simp;omega,fun k o' d' hk=>?_,k4⟩
  cases k with
  | zero =>
   obtain⟨rfl,rfl⟩:o=o'∧d=d':=by simpa using hk
   rw[Nat.add_zero,hp]
   refine⟨h1,fun vals w hG hF=>h2 vals w hG ?_⟩
   rw[←facts_congr (L:=L') (L':=L) (fun x hx=>hold x (by have:=hd 0 o d rfl x hx;omega))]
   exact hF
  | succ k =>
   have:=k3 k o' d' (by simpa using hk)
   rw[show i+1+k=i+(k+1) by omega] at this
   exact this
theorem wpAny_calm {a0:Act} {deps:Nat→List Nat} {I:Nat→Value→World→Prop} (hfr:∀ vals,fr vals=fillL vals 0 ops.toList a0) (hap:apart ops.toList=true)
  (hacy:∀ j oj,ops[j]?=some oj→∀ e∈oj.after,Region.binds md e=true→e.on<j) (hdeps:∀ j oj,ops[j]?=some oj→∀ x∈deps j,∃ e∈oj.after,Region.binds md e=true∧e.on=x)
  (hready:∀ listed:Array Bool,listed.size=ops.size→(∀ j oj,ops[j]?=some oj→listed.getD j false=true→∀ e∈oj.after,Region.binds md e=true→listed.getD e.on false=true)→z∈Region.ready md ops listed→∀ j,j<ops.size→j≠z→listed.getD j false=true) (hz:z<ops.size)
  (hop:∀ i o,ops[i]?=some o→i≠z→Calm (I i)∧∀ vals w,Chg [] w0 w→(∀ x∈deps i,I x (vals x) w) →
   wpOp P ops Q i (fun a' w'=>∃ v,a'=(fr vals).put o.dst v∧I i v w'∧Chg [] w w') (fr vals) w)
  (hend:∀ vals w,Chg [] w0 w→(∀ j,j<ops.size→j≠z→I j (vals j) w)→wpOp P ops Q z (fun a' w'=>Q .normal a' w') (fr vals) w) :
  ∀ (fuel:Nat) (listed:Array Bool) (vals:Nat→Value) (w:World),listed.size=ops.size→(List.range ops.size).countP (fun j=>!listed.getD j false)≤fuel →
   (∀ j oj,ops[j]?=some oj→listed.getD j false=true→∀ e∈oj.after,Region.binds md e=true→listed.getD e.on false=true) →
   listed.getD z false=false→(∀ j,listed.getD j false=true→I j (vals j) w)→Chg [] w0 w→wpAny P md ops Q fuel listed (fr vals) w:=by
 have hall:∀ listed:Array Bool,listed.size=ops.size→Region.ready md ops listed=[]→∀ j,j<ops.size→listed.getD j false=true:=by
  intro listed hs hnil j
  induction j using Nat.strongRecOn with
  | _ j ih =>
   intro hj
   apply Classical.byContradiction
   intro hc
   have:j∈Region.ready md ops listed:=by
    refine mem_ready.2 ⟨?_,ops[j],Array.getElem?_eq_getElem hj,fun e he hb=>ih e.on (hacy j _ (Array.getElem?_eq_getElem hj) e he hb) (by have:=hacy j _ (Array.getElem?_eq_getElem hj) e he hb;omega)⟩
    have hl:j<listed.size:=by omega
    simp[hl] at hc ⊢
    exact hc
   rw[hnil] at this
   cases this
 have hdone:∀ listed:Array Bool,listed.size=ops.size→(∀ j,j<ops.size→listed.getD j false=true)→Region.ready md ops listed=[]:=by
  intro listed hs ha
  refine List.eq_nil_iff_forall_not_mem.2 fun j hj=>?_
  obtain⟨h0,o,ho,-⟩:=mem_ready.1 hj
  have hlt:j<ops.size:=(Array.getElem?_eq_some_iff.1 ho).1
  have h1:=ha j hlt
  have hl:j<listed.size:=by omega
  simp[hl] at h0 h1
  rw[h0] at h1
  cases h1
 intro fuel
 induction fuel with
 | zero =>
  intro listed vals w hs hc hdn hnz h1 hG
  exact absurd (by show (!listed.getD z false)=true;rw[hnz];rfl) (List.countP_eq_zero.1 (Nat.le_zero.1 hc) z (by simpa using hz))
 | succ fuel ih =>
  intro listed vals w hs hc hdn hnz h1 hG
  refine⟨fun hnil=>absurd (hall listed hs hnil z hz) (by rw[hnz];simp),fun i hi=>?_⟩
  obtain⟨h0,o,ho,haft⟩:=mem_ready.1 hi
  have hlt:i<ops.size:=(Array.getElem?_eq_some_iff.1 ho).1
  have hl:i<listed.size:=by omega
  have h0':listed.getD i false=false:=by simp[hl] at h0 ⊢;exact h0
  have hset:∀ j,(listed.setIfInBounds i true).getD j false=if j=i then true else listed.getD j false:=fun j=>by
   by_cases hji:j=i
   ·subst hji;simp[hl]
   rw[getD_set_ne false (Ne.symm hji),if_neg hji]
  by_cases hiz:i=z
  ·subst hiz
   have ha:∀ j,j<ops.size→(listed.setIfInBounds i true).getD j false=true:=fun j hj=>by
    rw[hset]
    by_cases q:j=i
    ·rw[if_pos q]
    rw[if_neg q];exact hready listed hs hdn hi j hj q
   have hnil:=hdone (listed.setIfInBounds i true) (by simpa using hs) ha
   refine wpOp_mono ?_ (hend vals w hG (fun j hj hji=>h1 j (hready listed hs hdn hi j hj hji)))
   intro a' w' hq
   cases fuel with
   | zero=>exact⟨hnil,hq⟩
   | succ fuel=>exact⟨fun _=>hq,fun k hk=>by rw[hnil] at hk;cases hk⟩
  refine wpOp_mono ?_ ((hop i o ho hiz).2 vals w hG (fun x hx=>?_))
  ·rintro a' w' ⟨v,rfl,hv,hR⟩
   have e:(fr vals).put o.dst v=fr (upd vals i v):=by
    rw[hfr,hfr]
    have:=fillL_upd vals v ops.toList 0 i o a0 hap (by simpa using ho)
    rw[←this,Nat.zero_add]
   rw[e]
   refine ih _ _ _ (by simpa using hs) ?_ (fun j oj hj hlj e he hb=>?_) ?_ (fun j hj=>?_) (hG.trans hR (by simp))
   ·have:=countP_less (fun j=>!listed.getD j false) (fun j=>!(listed.setIfInBounds i true).getD j false) i (by simp only[h0'];rfl) (by simp only[hset];simp) (fun k hk=>by simp only[hset,if_neg hk]) ops.size hlt
    omega
   ·rw[hset] at hlj ⊢
    by_cases he1:e.on=i
    ·rw[if_pos he1]
    rw[if_neg he1]
    by_cases hji:j=i
    ·subst hji
     rw[ho] at hj
     cases hj
     exact haft _ he hb
    rw[if_neg hji] at hlj
    exact hdn j oj hj hlj e he hb
   ·rw[hset,if_neg (Ne.symm hiz)];exact hnz
   by_cases hji:j=i
   ·subst hji
    rw[show upd vals j v j=v from if_pos rfl]
    exact hv
   rw[hset,if_neg hji] at hj
   rw[show upd vals i v j=vals j from if_neg hji]
   have hjz:j≠z:=fun q=>by rw[q,hnz] at hj;cases hj
   have hjl:j<listed.size:=by
    rcases Nat.lt_or_ge j listed.size with q | q
    ·exact q
    simp[Array.getElem?_eq_none q] at hj
   obtain⟨oj,hoj⟩:∃ oj,ops[j]?=some oj:=⟨_,Array.getElem?_eq_getElem (by omega)⟩
   exact (hop j oj hoj hjz).1 _ _ _ hR (h1 j hj)
  obtain⟨e,he,hb,rfl⟩:=hdeps i o ho x hx
  exact h1 _ (haft e he hb)
def calmChk (md:Region.Mode) (ops:Array Oper) (deps:List (List Nat)) (fin:List Nat):Bool :=
 let n:=ops.size
 apart ops.toList&&deps.length+1==n&&((List.range n).all fun i=>(afters md ops i).all fun x=>decide (x<i)) &&
 ((List.range (n - 1)).all fun i=>(deps.getD i []).all fun x=>(afters md ops i).contains x) &&
 ((List.range n).all fun j=>j==n - 1 || (reach md ops n (afters md ops (n - 1))).contains j)&&(fin.all fun x=>decide (x<n - 1))
theorem wp_region_calm {id:Nat} {a:Act} {w:World} (deps:List (List Nat)) (fin:List Nat) (hm:P.follows .mixedOrders=true)
  (hc:calmChk .any ops deps fin=true) (hG:Chg [] w0 w.drew)
  (h':∀ fr:(Nat→Value)→Act,(∀ vals,fillL vals 0 ops.toList a=fr vals)→MonoC P ops Q w0 fr (ops.size - 1) fin [] 0 (ops.toList.dropLast.zip deps)):(Code.region id ops true).wp P Q a w:=by
 obtain⟨fr,hfr⟩:∃ fr:(Nat→Value)→Act,∀ vals,fillL vals 0 ops.toList a=fr vals:=⟨_,fun _=>rfl⟩
 have h:=h' fr hfr
 unfold calmChk at hc
 simp only[Bool.and_eq_true,Bool.or_eq_true,decide_eq_true_eq,beq_iff_eq,List.all_eq_true,List.mem_range,List.contains_eq_mem] at hc
 obtain⟨⟨⟨⟨⟨hap,hlen⟩,hacy⟩,hdep⟩,hz⟩,hfin⟩:=hc
 have hpos:0<ops.size:=by omega
 have hzip:∀ k o,ops[k]?=some o→k≠ops.size - 1→(ops.toList.dropLast.zip deps)[k]?=some (o,deps.getD k []):=fun k o ho hk=>by
  have hk2:k<ops.size:=(Array.getElem?_eq_some_iff.1 ho).1
  rw[List.getElem?_zip_eq_some]
  refine⟨?_,by simp[List.getD,show k<deps.length by omega]⟩
  rw[List.getElem?_dropLast,if_pos (by simp;omega)]
  simpa using ho
 have hzip':∀ k o d,(ops.toList.dropLast.zip deps)[k]?=some (o,d)→ops[k]?=some o∧deps.getD k []=d∧k<ops.size - 1:=fun k o d hk=>by
  rw[List.getElem?_zip_eq_some] at hk
  have h1:=hk.1
  rw[List.getElem?_dropLast] at h1
  split at h1
  ·rename_i hlt
   exact⟨by simpa using h1,by simp[List.getD,hk.2],by simpa using hlt⟩
  cases h1
 have hafter:∀ j oj,ops[j]?=some oj→∀ e∈oj.after,Region.binds .any e=true→e.on<j:=fun j oj hj e he hb =>
  hacy j (Array.getElem?_eq_some_iff.1 hj).1 e.on (mem_afters.2 ⟨oj,hj,e,he,hb,rfl⟩)
 have hdeps:∀ j oj,ops[j]?=some oj→∀ x∈(if j<ops.size - 1 then deps.getD j [] else []),∃ e∈oj.after,Region.binds .any e=true∧e.on=x:=fun j oj hj x hx=>by
  split at hx
  ·rename_i hlt
   obtain⟨o,ho,q⟩:=mem_afters.1 (hdep j hlt x hx)
   rw[hj] at ho
   cases ho
   exact q
  cases hx
 obtain⟨L,-,-,hO,hE⟩:=monoC_out _ 0 [] rfl h (fun k o d hk x hx=>by
  obtain⟨h1,rfl,hk2⟩:=hzip' k o d hk
  obtain⟨e,he,hb,rfl⟩:=hdeps k o h1 x (by rw[if_pos hk2];exact hx)
  have:=hafter k o h1 e he hb
  omega)
 refine wp_region_any hm ?_
 have hstart:=wpAny_calm (P:=P) (Q:=Q) (md:=.any) (a0:=a) (w0:=w0) (deps:=fun j=>if j<ops.size - 1 then deps.getD j [] else []) (I:=fun j=>if j<ops.size - 1 then L.getD j (fun _ _=>True) else fun _ _=>True) (fr:=fr) (z:=ops.size - 1) (fun vals=>(hfr vals).symm) hap hafter hdeps
  (fun listed hs hdn hzr j hj hjz=>by
   obtain⟨-,o,ho,haft⟩:=mem_ready.1 hzr
   refine reach_sound hdn ops.size _ (fun x hx=>?_) j ((hz j hj).resolve_left hjz)
   obtain⟨o',ho',e,he,hb,rfl⟩:=mem_afters.1 hx
   rw[ho] at ho'
   cases ho'
   exact haft e he hb) (by omega)
  (fun i o ho hi=>by
   have hi2:i<ops.size:=(Array.getElem?_eq_some_iff.1 ho).1
   have hi3:i<ops.size - 1:=by omega
   have:=hO i o _ (hzip i o ho hi)
   rw[Nat.zero_add] at this
   simp only[if_pos hi3]
   refine⟨this.1,fun vals w hG hF=>this.2 vals w hG (facts_of fun x hx=>?_)⟩
   obtain⟨e,he,hb,rfl⟩:=hdeps i o ho x (by rw[if_pos hi3];exact hx)
   have:=hafter i o ho e he hb
   have h2:=hF _ hx
   rwa[if_pos (by omega)] at h2)
  (fun vals w hG h1=>hE vals w hG (facts_of fun x hx=>by
   have hxn:=hfin x hx
   have:=h1 x (by omega) (by omega)
   rwa[if_pos hxn] at this))
 have e0:a=fr (fun k=>match ops.toList[k]? with | some o=>held a o | none=>undef):=by
  rw[←hfr]
  refine (fillL_own _ a ops.toList 0 fun k o hk=>?_).symm
  simp only[Nat.zero_add,hk]
 have hno:∀ j,(Array.replicate ops.size false).getD j false=false:=fun j=>by
  rcases Nat.lt_or_ge j (Array.replicate ops.size false).size with q | q
  ·simp only[Array.size_replicate] at q
   simp[q]
  simp[Array.getElem?_eq_none q]
 have:=hstart ops.size (Array.replicate ops.size false) (fun k=>match ops.toList[k]? with | some o=>held a o | none=>undef) w.drew (by simp) (Nat.le_trans (List.countP_le_length) (by simp))
  (fun j _ _ hj=>by rw[hno] at hj;cases hj) (hno _) (fun j hj=>by rw[hno] at hj;cases hj) hG
 rw[←e0] at this
 exact this
theorem calm_op {i:Nat} {rest:List (Oper × List Nat)} {L:List (Value→World→Prop)} {o:Oper} {d:List Nat} (p:Value→World→Prop) (ho:ops[i]?=some o) (hp:Calm p)
  (h:∀ vals w,Chg [] w0 w→Facts L vals w d→Region.wanted o (yielded ops (fr vals).tmps)=true ∧
   ∀ K:Act→World→Prop,Shut (∀ v w',p v w'→Chg [] w w'→K ((fr vals).put o.dst v) w')→o.wp P (fr vals) w K Q)
  (hn:MonoC P ops Q w0 fr z fin (L++[p]) (i+1) rest):MonoC P ops Q w0 fr z fin L i ((o,d) :: rest):=by
 refine⟨p,⟨hp,fun vals w hG hF=>?_⟩,hn⟩
 obtain⟨h1,h2⟩:=h vals w hG hF
 unfold wpOp
 simp only[ho,h1,if_true]
 exact .inl (h2 _ (fun v w' a b=>⟨v,rfl,a,b⟩))
theorem calm_read {i:Nat} {rest:List (Oper × List Nat)} {L:List (Value→World→Prop)} {o:Oper} {d:List Nat} {c:Value} (ho:ops[i]?=some o)
  (h:∀ vals w,Chg [] w0 w→Facts L vals w d→Region.wanted o (yielded ops (fr vals).tmps)=true∧(execOp (fr vals).eval o).run P w=.ok (.value c) w)
  (hn:MonoC P ops Q w0 fr z fin (L++[fun v _=>v=c]) (i+1) rest):MonoC P ops Q w0 fr z fin L i ((o,d) :: rest):=by
 refine⟨fun v _=>v=c,⟨fun _ _ _ _ q=>q,fun vals w hG hF=>?_⟩,hn⟩
 obtain⟨h1,h2⟩:=h vals w hG hF
 unfold wpOp
 simp only[ho,h1,if_true,Oper.wp,h2,Oper.upon]
 exact .inl ⟨c,rfl,rfl,Chg.refl _ _⟩
theorem calm_last {i:Nat} {L:List (Value→World→Prop)} {o:Oper} (ho:ops[z]?=some o)
  (h:∀ vals w,Chg [] w0 w→Facts L vals w fin→Region.wanted o (yielded ops (fr vals).tmps)=true ∧
   ∀ K:Act→World→Prop,Shut (∀ a' w',Q .normal a' w'→K a' w')→o.wp P (fr vals) w K Q):MonoC P ops Q w0 fr z fin L i []:=by
 intro vals w hG hF
 obtain⟨h1,h2⟩:=h vals w hG hF
 unfold wpOp
 simp only[ho,h1,if_true]
 exact .inl (h2 _ (fun a' w' q=>q))
end
end Go.Proofs.YtkacjmoamgjfpaaGreat
