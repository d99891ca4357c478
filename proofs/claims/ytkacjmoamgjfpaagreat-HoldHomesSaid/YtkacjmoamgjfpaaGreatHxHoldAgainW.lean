/- the law HoldAgain: the walk; graph.Same. Conditions: a case, parts that lie in memory and read so. -/
import Derived.Test.YtkacjmoamgjfpaaGreatHxAwk17
namespace Go.Proofs.YtkacjmoamgjfpaaGreat
open Go.RowKit Go.Maps
set_option maxRecDepth 100000 in
set_option maxHeartbeats 2000000 in
theorem gsame_any (va vb:Value) (a b:Plain.Pt) (w:World) (ha:PtAt w va a) (hb:PtAt w vb b) :
  Calls Tryz.prog 27 #[va,vb] w fun e w'=>e=.returned (.bool (decide (a.v=b.v)&&decide (a.e=b.e)))∧Chg [] w w':=by
 obtain⟨v1,v2,rfl,h1,h2⟩:=ha
 obtain⟨u1,u2,rfl,k1,k2⟩:=hb
 obtain⟨av,ae⟩:=a
 obtain⟨bv,be⟩:=b
 have H1:=lh h1
 have H2:=lh h2
 have K1:=lh k1
 have K2:=lh k2
 obtain⟨p1,c1,rfl,-⟩:=h1
 obtain⟨p2,c2,rfl,-⟩:=h2
 obtain⟨p3,c3,rfl,-⟩:=k1
 obtain⟨p4,c4,rfl,-⟩:=k2
 have HXC:=lh (show Chg [] w ((w.alloc (.cells #[.slice p1 av.length c1,.slice p2 ae.length c2] 29)).alloc (.cells #[.slice p3 bv.length c3,.slice p4 be.length c4] 29)) from (show Chg [] w ((w.alloc (.cells #[.slice p1 av.length c1,.slice p2 ae.length c2] 29)).alloc (.cells #[.slice p3 bv.length c3,.slice p4 be.length c4] 29)) from (((Chg.refl [] w).alloc _).alloc _)))
 have qbx0:=heap_alloc_new w (.cells #[.slice p1 av.length c1,.slice p2 ae.length c2] 29)
 replace qbx0:=(show Chg [] (w.alloc (.cells #[.slice p1 av.length c1,.slice p2 ae.length c2] 29)) ((w.alloc (.cells #[.slice p1 av.length c1,.slice p2 ae.length c2] 29)).alloc (.cells #[.slice p3 bv.length c3,.slice p4 be.length c4] 29)) from ((Chg.refl [] (w.alloc (.cells #[.slice p1 av.length c1,.slice p2 ae.length c2] 29))).alloc _)).heap qbx0 (by simp)
 have qbx1:=heap_alloc_new (w.alloc (.cells #[.slice p1 av.length c1,.slice p2 ae.length c2] 29)) (.cells #[.slice p3 bv.length c3,.slice p4 be.length c4] 29)
 rw[show (w.alloc (.cells #[.slice p1 av.length c1,.slice p2 ae.length c2] 29)).heap.size=w.heap.size+1 by simp] at qbx1
 have HX:=lh (fun (w2:World) (hbx:Chg [] ((w.alloc (.cells #[.slice p1 av.length c1,.slice p2 ae.length c2] 29)).alloc (.cells #[.slice p3 bv.length c3,.slice p4 be.length c4] 29)) w2)=>(⟨hbx.cell ((cell_of_row _ _ 0 _ _ _ qbx0).trans rfl) (by simp),hbx.cell ((cell_of_row _ _ 1 _ _ _ qbx0).trans rfl) (by simp),hbx.cell ((cell_of_row _ _ 0 _ _ _ qbx1).trans rfl) (by simp),hbx.cell ((cell_of_row _ _ 1 _ _ _ qbx1).trans rfl) (by simp),by have hz:=hbx.size;simpa using hz⟩:w2.cell? ⟨w.heap.size,0,none⟩=some (.slice p1 av.length c1)∧w2.cell? ⟨w.heap.size,1,none⟩=some (.slice p2 ae.length c2)∧w2.cell? ⟨w.heap.size+1,0,none⟩=some (.slice p3 bv.length c3)∧w2.cell? ⟨w.heap.size+1,1,none⟩=some (.slice p4 be.length c4)∧w.heap.size+2≤w2.heap.size))
 clear qbx0 qbx1
 have HXZ:=lh (show ((w.alloc (.cells #[.slice p1 av.length c1,.slice p2 ae.length c2] 29)).alloc (.cells #[.slice p3 bv.length c3,.slice p4 be.length c4] 29)).heap.size=w.heap.size+2 by simp)
 obtain⟨x0,x1,y0,y1,hsz⟩:=HX.out _ (Chg.refl _ _)
 go_enter Tryz.func27,Tryz.ntmps27
 go_wp2_with fail
 generalize ((w.alloc (.cells #[.slice p1 av.length c1,.slice p2 ae.length c2] 29)).alloc (.cells #[.slice p3 bv.length c3,.slice p4 be.length c4] 29))=w1 at *
 refine (seq_any _ _ av bv _ (H1.out.fresh HXC.out) (K1.out.fresh HXC.out)).mono ?_
 rintro e w2 ⟨rfl,hc2⟩
 have HC2:=lh (HXC.out.trans hc2 (by simp))
 clear x0 x1 y0 y1 hsz
 obtain⟨x0,x1,y0,y1,hsz⟩:=HX.out _ hc2
 clear hc2
 by_cases h0:av=bv
 ·have HE:=lh (show decide (av=bv)=true from decide_eq_true h0)
  rw[HE.out]
  clear h0
  go_wp2_with fail
  refine (seq_any _ _ ae be _ (H2.out.fresh HC2.out) (K2.out.fresh HC2.out)).mono ?_
  rintro e w3 ⟨rfl,hc3⟩
  have HC3:=lh (HC2.out.trans hc3 (by simp))
  clear x0 x1 y0 y1 hsz hc3
  go_wp2
  go_ret
  exact⟨ret_bool (by show _=(decide (av=bv)&&decide (ae=be));rw[HE.out];simp),HC3.out⟩
 have HE:=lh (show decide (av=bv)=false from decide_eq_false h0)
 rw[HE.out]
 clear h0 x0 x1 y0 y1 hsz
 go_wp2
 go_ret
 exact⟨ret_bool (by show _=(decide (av=bv)&&decide (ae=be));rw[HE.out];simp),HC2.out⟩
end Go.Proofs.YtkacjmoamgjfpaaGreat
