/- the law HoldAgain: the walk; graph.Same. Conditions: a case, parts that lie in memory and read so. -/
import Derived.Test.YtkacjmoamgjfpaaGreatJAwk17
namespace Go.Proofs.YtkacjmoamgjfpaaGreat
open Go.RowKit Go.Maps
set_option maxRecDepth 100000 in
set_option maxHeartbeats 2000000 in
theorem gsame_any (va vb:Value) (a b:Plain.Pt) (w:World) (ha:PtAt w va a) (hb:PtAt w vb b) :
  Calls Tryz.prog 27 #[va,vb] w fun e w'=>e=.returned (.bool (decide (a.v=b.v)&&decide (a.e=b.e)))∧Chg [] w w':=by
 obtain⟨v1,v2,rfl,h1,h2⟩:=ha
 obtain⟨u1,u2,rfl,k1,k2⟩:=hb
 obtain⟨av,ae⟩:=a
 obtain⟨bv,be⟩:=b
 have H1:=lh h1
 have H2:=lh h2
 have K1:=lh k1
 have K2:=lh k2
 obtain⟨p1,c1,rfl,-⟩:=h1
 obtain⟨p2,c2,rfl,-⟩:=h2
 obtain⟨p3,c3,rfl,-⟩:=k1
 obtain⟨p4,c4,rfl,-⟩:=k2
 have HXC:=lh (show Chg [] w ((w.alloc (.cells #[.slice p1 av.length c1,.slice p2 ae.length c2] 29)).alloc (.cells #[.slice p3 bv.length c3,.slice p4 be.length c4] 29)) from (show Chg [] w ((w.alloc (.cells #[.slice p1 av.length c1,.slice p2 ae.length c2] 29)).alloc (.cells #[.slice p3 bv.length c3,.slice p4 be.length c4] 29)) from (((Chg.refl [] w).alloc _).alloc _)))
 have qbx0:=heap_alloc_new w (.cells #[.slice p1 av.length c1,.slice p2 ae.length c2] 29)
 replace qbx0:=(show Chg [] (w.alloc (.cells #[.slice p1 av.length c1,.slice p2 ae.length c2] 29)) ((w.alloc (.cells #[.slice p1 av.length c1,.slice p2 ae.length c2] 29)).alloc (.cells #[.slice p3 bv.length c3,.slice p4 be.length c4] 29)) from ((Chg.refl [] (w.alloc (.cells #[.slice p1 av.length c1,.slice p2 ae.length c2] 29))).alloc _)).heap qbx0 (by simp)
 have qbx1:=heap_alloc_new (w.alloc (.cells #[.slice p1 av.length c1,.slice p2 ae.length c2] 29)) (.cells #[.slice p3 bv.length c3,.slice p4 be.length c4] 29)
 rw[show (w.alloc (.cells #[.slice p1 av.length c1,.slice p2 ae.length c2] 29)).heap.size=w.heap.size+1 by simp] at qbx1
 have HX:=lh (fun (w2:World) (hbx:Chg [] ((w.alloc (.cells #[.slice p1 av.length c1,.slice p2 ae.length c2] 29)).alloc (.cells #[.slice p3 bv.length c3,.slice p4 be.length c4] 29)) w2)=>(⟨hbx.cell ((cell_of_row _ _ 0 _ _ _ qbx0).trans rfl) (by simp),hbx.cell ((cell_of_row _ _ 1 _ _ _ qbx0).trans rfl) (by simp),hbx.cell ((cell_of_row _ _ 0 _ _ _ qbx1).trans rfl) (by simp),hbx.cell ((cell_of_row _ _ 1 _ _ _ qbx1).trans rfl) (by simp),by have hz:=hbx.size;simpa using hz⟩:w2.cell? ⟨w.heap.size,0,none⟩=some (.slice p1 av.length c1)∧w2.cell? ⟨w.heap.size,1,none⟩=some (.slice p2 ae.length c2)∧w2.cell? ⟨w.heap.size+1,0,none⟩=some (.slice p3 bv.length c3)∧w2.cell? ⟨w.heap.size+1,1,none⟩=some (.slice p4 be.length c4)∧w.heap.size+2≤w2.heap.size))
 clear qbx0 qbx1
 have HXZ:=lh (show ((w.alloc (.cells #[.slice p1 av.length c1,.slice p2 ae.length c2] 29)).alloc (.cells #[.slice p3 bv.length c3,.slice p4 be.length c4] 29)).heap.size=w.heap.size+2 by simp)
 obtain⟨x0,x1,y0,y1,hsz⟩:=HX.out _ (Chg.refl _ _)
 go_enter Tryz.func27,Tryz.ntmps27
 go_wp2_with fail
 generalize ((w.alloc (.cells #[.slice p1 av.length c1,.slice p2 ae.length c2] 29)).alloc (.cells #[.slice p3 bv.length c3,.slice p4 be.length c4] 29))=w1 at *
 refine (seq_any _ _ av bv _ (H1.out.fresh HXC.out) (K1.out.fresh HXC.out)).mono ?_
 rintro e w2 ⟨rfl,hc2⟩
 have HC2:=lh (HXC.out.trans hc2 (by simp))
 clear x0 x1 y0 y1 hsz
 obtain⟨x0,x1,y0,y1,hsz⟩:=HX.out _ hc2
 clear hc2
 by_cases h0:av=bv
 ·have HE:=lh (show decide (av=bv)=true from decide_eq_true h0)
  rw[HE.out]
  clear h0
  go_wp2_with fail
  refine (seq_any _ _ ae be _ (H2.out.fresh HC2.out) (K2.out.fresh HC2.out)).mono ?_
  rintro e w3 ⟨rfl,hc3⟩
  have HC3:=lh (HC2.out.trans hc3 (by simp))
  clear x0 x1 y0 y1 hsz hc3
  go_wp2
  go_ret
  exact⟨ret_bool (by show _=(decide (av=bv)&&decide (ae=be));rw[HE.out];simp),HC3.out⟩
 have HE:=lh (show decide (av=bv)=false from decide_eq_false h0)
 rw[HE.out]
 clear h0 x0 x1 y0 y1 hsz
 go_wp2
 go_ret
 exact⟨ret_bool (by show _=(decide (av=bv)&&decide (ae=be));rw[HE.out];simp),HC2.out⟩
set_option maxRecDepth 100000 in
set_option maxHeartbeats 8000000 in
theorem holdAgain_any (vc vq vr:Value) (g:Plain.Gr) (p:Plain.Pt) (turn same:List (List Int)) (q r:Plain.Pt) (w:World) (hc:CaseAt w vc g p turn same) (hq:PtC w vq q) (hr:PtC w vr r) :
  Calls Tryz.prog 5 #[vc,vq,vr] w fun e w'=>e=.returned (.bool true)∧Chg [] w w':=by
 have HQ:=lh hq
 have HR:=lh hr
 have HCA:=lh hc
 obtain⟨eo,cap,ao,ac,bo,bc,tno,tc,so,sc,rfl,hg,hp,hx⟩:=hc.shape
 obtain⟨co,cc,fo,fc,rfl⟩:=hq.shape
 obtain⟨yo,yc,zo,zc,rfl⟩:=hr.shape
 have HG:=lh hg
 have HPC:=lh hp
 have HP:=lh hp.at
 clear hg hp hx hc hq hr
 have HXC:=lh (show Chg [] w (((w.alloc (.cells #[.int .i64 g.n,.slice eo g.e.length cap,.slice ao p.v.length ac,.slice bo p.e.length bc,.slice tno turn.length tc,.slice so same.length sc] 34)).alloc (.cells #[.slice co q.v.length cc,.slice fo q.e.length fc] 29)).alloc (.cells #[.slice yo r.v.length yc,.slice zo r.e.length zc] 29)) from (show Chg [] w (((w.alloc (.cells #[.int .i64 g.n,.slice eo g.e.length cap,.slice ao p.v.length ac,.slice bo p.e.length bc,.slice tno turn.length tc,.slice so same.length sc] 34)).alloc (.cells #[.slice co q.v.length cc,.slice fo q.e.length fc] 29)).alloc (.cells #[.slice yo r.v.length yc,.slice zo r.e.length zc] 29)) from ((((Chg.refl [] w).alloc _).alloc _).alloc _)))
 have qbx0:=heap_alloc_new w (.cells #[.int .i64 g.n,.slice eo g.e.length cap,.slice ao p.v.length ac,.slice bo p.e.length bc,.slice tno turn.length tc,.slice so same.length sc] 34)
 replace qbx0:=(show Chg [] (w.alloc (.cells #[.int .i64 g.n,.slice eo g.e.length cap,.slice ao p.v.length ac,.slice bo p.e.length bc,.slice tno turn.length tc,.slice so same.length sc] 34)) (((w.alloc (.cells #[.int .i64 g.n,.slice eo g.e.length cap,.slice ao p.v.length ac,.slice bo p.e.length bc,.slice tno turn.length tc,.slice so same.length sc] 34)).alloc (.cells #[.slice co q.v.length cc,.slice fo q.e.length fc] 29)).alloc (.cells #[.slice yo r.v.length yc,.slice zo r.e.length zc] 29)) from (((Chg.refl [] (w.alloc (.cells #[.int .i64 g.n,.slice eo g.e.length cap,.slice ao p.v.length ac,.slice bo p.e.length bc,.slice tno turn.length tc,.slice so same.length sc] 34))).alloc _).alloc _)).heap qbx0 (by simp)
 have qbx1:=heap_alloc_new (w.alloc (.cells #[.int .i64 g.n,.slice eo g.e.length cap,.slice ao p.v.length ac,.slice bo p.e.length bc,.slice tno turn.length tc,.slice so same.length sc] 34)) (.cells #[.slice co q.v.length cc,.slice fo q.e.length fc] 29)
 rw[show (w.alloc (.cells #[.int .i64 g.n,.slice eo g.e.length cap,.slice ao p.v.length ac,.slice bo p.e.length bc,.slice tno turn.length tc,.slice so same.length sc] 34)).heap.size=w.heap.size+1 by simp] at qbx1
 replace qbx1:=(show Chg [] ((w.alloc (.cells #[.int .i64 g.n,.slice eo g.e.length cap,.slice ao p.v.length ac,.slice bo p.e.length bc,.slice tno turn.length tc,.slice so same.length sc] 34)).alloc (.cells #[.slice co q.v.length cc,.slice fo q.e.length fc] 29)) (((w.alloc (.cells #[.int .i64 g.n,.slice eo g.e.length cap,.slice ao p.v.length ac,.slice bo p.e.length bc,.slice tno turn.length tc,.slice so same.length sc] 34)).alloc (.cells #[.slice co q.v.length cc,.slice fo q.e.length fc] 29)).alloc (.cells #[.slice yo r.v.length yc,.slice zo r.e.length zc] 29)) from ((Chg.refl [] ((w.alloc (.cells #[.int .i64 g.n,.slice eo g.e.length cap,.slice ao p.v.length ac,.slice bo p.e.length bc,.slice tno turn.length tc,.slice so same.length sc] 34)).alloc (.cells #[.slice co q.v.length cc,.slice fo q.e.length fc] 29))).alloc _)).heap qbx1 (by simp)
 have qbx2:=heap_alloc_new ((w.alloc (.cells #[.int .i64 g.n,.slice eo g.e.length cap,.slice ao p.v.length ac,.slice bo p.e.length bc,.slice tno turn.length tc,.slice so same.length sc] 34)).alloc (.cells #[.slice co q.v.length cc,.slice fo q.e.length fc] 29)) (.cells #[.slice yo r.v.length yc,.slice zo r.e.length zc] 29)
 rw[show ((w.alloc (.cells #[.int .i64 g.n,.slice eo g.e.length cap,.slice ao p.v.length ac,.slice bo p.e.length bc,.slice tno turn.length tc,.slice so same.length sc] 34)).alloc (.cells #[.slice co q.v.length cc,.slice fo q.e.length fc] 29)).heap.size=w.heap.size+2 by simp] at qbx2
 have HX:=lh (fun (w2:World) (hbx:Chg [] (((w.alloc (.cells #[.int .i64 g.n,.slice eo g.e.length cap,.slice ao p.v.length ac,.slice bo p.e.length bc,.slice tno turn.length tc,.slice so same.length sc] 34)).alloc (.cells #[.slice co q.v.length cc,.slice fo q.e.length fc] 29)).alloc (.cells #[.slice yo r.v.length yc,.slice zo r.e.length zc] 29)) w2)=>(⟨hbx.cell ((cell_of_row _ _ 0 _ _ _ qbx0).trans rfl) (by simp),hbx.cell ((cell_of_row _ _ 1 _ _ _ qbx0).trans rfl) (by simp),hbx.cell ((cell_of_row _ _ 2 _ _ _ qbx0).trans rfl) (by simp),hbx.cell ((cell_of_row _ _ 3 _ _ _ qbx0).trans rfl) (by simp),hbx.cell ((cell_of_row _ _ 4 _ _ _ qbx0).trans rfl) (by simp),hbx.cell ((cell_of_row _ _ 5 _ _ _ qbx0).trans rfl) (by simp),hbx.cell ((cell_of_row _ _ 0 _ _ _ qbx1).trans rfl) (by simp),hbx.cell ((cell_of_row _ _ 1 _ _ _ qbx1).trans rfl) (by simp),hbx.cell ((cell_of_row _ _ 0 _ _ _ qbx2).trans rfl) (by simp),hbx.cell ((cell_of_row _ _ 1 _ _ _ qbx2).trans rfl) (by simp),by have hz:=hbx.size;simpa using hz⟩:w2.cell? ⟨w.heap.size,0,none⟩=some (.int .i64 g.n)∧w2.cell? ⟨w.heap.size,1,none⟩=some (.slice eo g.e.length cap)∧w2.cell? ⟨w.heap.size,2,none⟩=some (.slice ao p.v.length ac)∧w2.cell? ⟨w.heap.size,3,none⟩=some (.slice bo p.e.length bc)∧w2.cell? ⟨w.heap.size,4,none⟩=some (.slice tno turn.length tc)∧w2.cell? ⟨w.heap.size,5,none⟩=some (.slice so same.length sc)∧w2.cell? ⟨w.heap.size+1,0,none⟩=some (.slice co q.v.length cc)∧w2.cell? ⟨w.heap.size+1,1,none⟩=some (.slice fo q.e.length fc)∧w2.cell? ⟨w.heap.size+2,0,none⟩=some (.slice yo r.v.length yc)∧w2.cell? ⟨w.heap.size+2,1,none⟩=some (.slice zo r.e.length zc)∧w.heap.size+3≤w2.heap.size))
 clear qbx0 qbx1 qbx2
 have HXZ:=lh (show (((w.alloc (.cells #[.int .i64 g.n,.slice eo g.e.length cap,.slice ao p.v.length ac,.slice bo p.e.length bc,.slice tno turn.length tc,.slice so same.length sc] 34)).alloc (.cells #[.slice co q.v.length cc,.slice fo q.e.length fc] 29)).alloc (.cells #[.slice yo r.v.length yc,.slice zo r.e.length zc] 29)).heap.size=w.heap.size+3 by simp)
 obtain⟨c0,c1,c2,c3,c4,c5,q0,q1,r0,r1,hsz⟩:=HX.out _ (Chg.refl _ _)
 go_enter Tryz.func5,Tryz.ntmps5
 go_wp2_with fail
 generalize (((w.alloc (.cells #[.int .i64 g.n,.slice eo g.e.length cap,.slice ao p.v.length ac,.slice bo p.e.length bc,.slice tno turn.length tc,.slice so same.length sc] 34)).alloc (.cells #[.slice co q.v.length cc,.slice fo q.e.length fc] 29)).alloc (.cells #[.slice yo r.v.length yc,.slice zo r.e.length zc] 29))=w1 at *
 refine (awake17_any _).mono ?_
 rintro e w2 ⟨rfl,hc2⟩
 have HC2:=lh hc2
 clear c0 c1 c2 c3 c4 c5 q0 q1 r0 r1 hsz hc2
 obtain⟨c0,c1,c2,c3,c4,c5,q0,q1,r0,r1,hsz⟩:=HX.out _ HC2.out
 go_wp2_with fail
 refine (small17_any _ g p turn same _ (HCA.out.fresh (HXC.out.trans HC2.out (by simp)))).mono ?_
 rintro e w3 ⟨rfl,hc3⟩
 have HC3:=lh (HC2.out.trans hc3 (by simp))
 clear c0 c1 c2 c3 c4 c5 q0 q1 r0 r1 hsz hc3
 obtain⟨c0,c1,c2,c3,c4,c5,q0,q1,r0,r1,hsz⟩:=HX.out _ HC3.out
 cases hb1:Plain.small8 g p turn same with
 | false =>
  clear hb1
  go_wp2_with fail
  refine (awake17_any _).mono ?_
  rintro e w4 ⟨rfl,hc4⟩
  have HC4:=lh ((HXC.out.trans HC3.out (by simp)).trans hc4 (by simp))
  clear c0 c1 c2 c3 c4 c5 q0 q1 r0 r1 hsz hc4
  go_wp2
  go_ret
  exact⟨rfl,HC4.out⟩
 | true =>
 go_wp2_with fail
 refine (small4_any _ _ g q _ (HG.out.fresh (HXC.out.trans HC3.out (by simp))) (HQ.out.at.fresh (HXC.out.trans HC3.out (by simp)))).mono ?_
 rintro e w4 ⟨rfl,hc4⟩
 have HC4:=lh (HC3.out.trans hc4 (by simp))
 clear c0 c1 c2 c3 c4 c5 q0 q1 r0 r1 hsz hc4
 obtain⟨c0,c1,c2,c3,c4,c5,q0,q1,r0,r1,hsz⟩:=HX.out _ HC4.out
 cases hb2:Plain.small4 g q with
 | false =>
  clear hb2
  go_wp2_with fail
  refine (awake17_any _).mono ?_
  rintro e w5 ⟨rfl,hc5⟩
  have HC5:=lh ((HXC.out.trans HC4.out (by simp)).trans hc5 (by simp))
  clear c0 c1 c2 c3 c4 c5 q0 q1 r0 r1 hsz hc5
  go_wp2
  go_ret
  exact⟨rfl,HC5.out⟩
 | true =>
 go_wp2_with fail
 refine (small4_any _ _ g r _ (HG.out.fresh (HXC.out.trans HC4.out (by simp))) (HR.out.at.fresh (HXC.out.trans HC4.out (by simp)))).mono ?_
 rintro e w5 ⟨rfl,hc5⟩
 have HC5:=lh (HC4.out.trans hc5 (by simp))
 clear c0 c1 c2 c3 c4 c5 q0 q1 r0 r1 hsz hc5
 obtain⟨c0,c1,c2,c3,c4,c5,q0,q1,r0,r1,hsz⟩:=HX.out _ HC5.out
 cases hb3:Plain.small4 g r with
 | false =>
  clear hb3
  go_wp2_with fail
  refine (awake17_any _).mono ?_
  rintro e w6 ⟨rfl,hc6⟩
  have HC6:=lh ((HXC.out.trans HC5.out (by simp)).trans hc6 (by simp))
  clear c0 c1 c2 c3 c4 c5 q0 q1 r0 r1 hsz hc6
  go_wp2
  go_ret
  exact⟨rfl,HC6.out⟩
 | true =>
 obtain⟨b1,b2,b3,b4,b5,b6⟩:=Plain.small8_is hb1
 obtain⟨d1,d2,d3⟩:=Plain.small4_is hb2
 obtain⟨d4,d5,d6⟩:=Plain.small4_is hb3
 have HB4:=lh b4
 have HB6:=lh (fun i=>Nat.le_trans (b6 i) (by omega:60≤10000))
 have HROWS:=lh (Plain.small8_four hb1).2
 clear hb1 hb2 hb3 b4 b6
 go_wp2_with fail
 refine (holdOf_any _ _ g p q turn same _ (by omega) (by omega) (by omega) (by omega) (by omega) (by have:=HB4.out;omega) (by omega) HB6.out (HCA.out.fresh (HXC.out.trans HC5.out (by simp))) (HQ.out.fresh (HXC.out.trans HC5.out (by simp)))).mono ?_
 rintro e w6 ⟨o1,o2,rfl,hno,hyes,hc6⟩
 have HC6:=lh (HC5.out.trans hc6 (by simp))
 clear c0 c1 c2 c3 c4 c5 q0 q1 r0 r1 hsz
 by_cases hz:Plain.ofErr g p q turn same=0
 ·obtain⟨hpz,hqz⟩:=Plain.ofErr_ok hz
  have hpe:=(Plain.zero_ok hpz).1
  have hto:=(Plain.zero_ok hpz).2
  have hae:=Plain.andPt_err hpe hqz
  have hse:∀ e∈(Plain.andPt p q).e,e∈p.e:=fun e h=>(Plain.mem_andOf.1 h).1
  have hsv:∀ e∈(Plain.andPt p q).v,e∈p.v:=fun e h=>(Plain.mem_andOf.1 h).1
  have hl1:(Plain.andPt p q).v.length≤60:=Nat.le_trans (List.length_filter_le _ _) b1
  have hl2:(Plain.andPt p q).e.length≤60:=Nat.le_trans (List.length_filter_le _ _) b2
  have hrz:=Plain.rest_right hpz hae hse hsv
  have HSZ:=lh (Plain.rest_sizes (restErr_zero hpz hae Plain.andPt_left.1 Plain.andPt_left.2) hl1 hl2 b3 HROWS.out)
  have HWI:=lh (show (Plain.subB (Plain.andPt p q).v q.v&&Plain.subB (Plain.andPt p q).e q.e)=true from by rw[Plain.andPt_right.1,Plain.andPt_right.2];rfl)
  have HWJ:=lh (show (Plain.subB (Plain.andPt p q).v p.v&&Plain.subB (Plain.andPt p q).e p.e)=true from by rw[Plain.andPt_left.1,Plain.andPt_left.2];rfl)
  have HRQ:=lh (Plain.part_rise hqz)
  have HRP:=lh (Plain.part_rise hpe)
  have HTWO:=lh (show ∀ (K:Plain.Pt),K.err g=0→(∀ e∈K.e,e∈(Plain.andPt p q).e)→(∀ v∈K.v,v∈(Plain.andPt p q).v)→Plain.restTurn K.e (Plain.restTurn (Plain.andPt p q).e turn)=Plain.restTurn K.e turn∧Plain.restSame g (Plain.andPt p q) K (Plain.restTurn (Plain.andPt p q).e turn) (Plain.restSame g p (Plain.andPt p q) turn same)=Plain.restSame g p K turn same from fun K k1 k2 k3=>Plain.rest_again hpz ⟨hpe,hae,hto,hse,hsv⟩ k1 k2 k3)
  have HPZ:=lh hpz
  have HQZ:=lh hqz
  have HAE:=lh hae
  have HRZ:=lh hrz
  have HPL:=lh (hyes hz).2
  have HPT:=lh (hyes hz).1
  have HASS:=lh (Plain.andPt_assoc p q r)
  obtain⟨h,hh⟩:∃ h,Plain.andPt p q=h:=⟨_,rfl⟩
  obtain⟨A1,hA1⟩:∃ x,Plain.restTurn h.e turn=x:=⟨_,rfl⟩
  obtain⟨A2,hA2⟩:∃ x,Plain.restSame g p h turn same=x:=⟨_,rfl⟩
  rw[hh] at HSZ HTWO HPL HPT HRZ HAE HASS HWI HWJ hl1 hl2
  rw[hA1,hA2] at HSZ HTWO HPL HRZ
  obtain⟨p1,k1,p2,k2,rfl⟩:=HPT.out.shape
  obtain⟨u1,u2,rfl,⟨p3,k3,rfl,-⟩,⟨p4,k4,rfl,-⟩⟩:=HPL.out
  rw[hz]
  clear hno hyes hz hc6 hpz hqz hpe hto hae hse hsv hrz hh hA1 hA2
  have HYC:=lh (show Chg [] w6 ((w6.alloc (.cells #[.slice p1 h.v.length k1,.slice p2 h.e.length k2] 29)).alloc (.cells #[.slice p3 A1.length k3,.slice p4 A2.length k4] 32)) from (show Chg [] w6 ((w6.alloc (.cells #[.slice p1 h.v.length k1,.slice p2 h.e.length k2] 29)).alloc (.cells #[.slice p3 A1.length k3,.slice p4 A2.length k4] 32)) from (((Chg.refl [] w6).alloc _).alloc _)))
  have qbx0:=heap_alloc_new w6 (.cells #[.slice p1 h.v.length k1,.slice p2 h.e.length k2] 29)
  replace qbx0:=(show Chg [] (w6.alloc (.cells #[.slice p1 h.v.length k1,.slice p2 h.e.length k2] 29)) ((w6.alloc (.cells #[.slice p1 h.v.length k1,.slice p2 h.e.length k2] 29)).alloc (.cells #[.slice p3 A1.length k3,.slice p4 A2.length k4] 32)) from ((Chg.refl [] (w6.alloc (.cells #[.slice p1 h.v.length k1,.slice p2 h.e.length k2] 29))).alloc _)).heap qbx0 (by simp)
  have qbx1:=heap_alloc_new (w6.alloc (.cells #[.slice p1 h.v.length k1,.slice p2 h.e.length k2] 29)) (.cells #[.slice p3 A1.length k3,.slice p4 A2.length k4] 32)
  rw[show (w6.alloc (.cells #[.slice p1 h.v.length k1,.slice p2 h.e.length k2] 29)).heap.size=w6.heap.size+1 by simp] at qbx1
  have HY:=lh (fun (w2:World) (hbx:Chg [] ((w6.alloc (.cells #[.slice p1 h.v.length k1,.slice p2 h.e.length k2] 29)).alloc (.cells #[.slice p3 A1.length k3,.slice p4 A2.length k4] 32)) w2)=>(⟨hbx.cell ((cell_of_row _ _ 0 _ _ _ qbx0).trans rfl) (by simp),hbx.cell ((cell_of_row _ _ 1 _ _ _ qbx0).trans rfl) (by simp),hbx.cell ((cell_of_row _ _ 0 _ _ _ qbx1).trans rfl) (by simp),hbx.cell ((cell_of_row _ _ 1 _ _ _ qbx1).trans rfl) (by simp),by have hz:=hbx.size;simpa using hz⟩:w2.cell? ⟨w6.heap.size,0,none⟩=some (.slice p1 h.v.length k1)∧w2.cell? ⟨w6.heap.size,1,none⟩=some (.slice p2 h.e.length k2)∧w2.cell? ⟨w6.heap.size+1,0,none⟩=some (.slice p3 A1.length k3)∧w2.cell? ⟨w6.heap.size+1,1,none⟩=some (.slice p4 A2.length k4)∧w6.heap.size+2≤w2.heap.size))
  clear qbx0 qbx1
  have HYZ:=lh (show ((w6.alloc (.cells #[.slice p1 h.v.length k1,.slice p2 h.e.length k2] 29)).alloc (.cells #[.slice p3 A1.length k3,.slice p4 A2.length k4] 32)).heap.size=w6.heap.size+2 by simp)
  have HCY:=lh (HC6.out.trans HYC.out (by simp))
  obtain⟨c0,c1,c2,c3,c4,c5,q0,q1,r0,r1,hsz⟩:=HX.out _ HCY.out
  obtain⟨m0,m1,n0,n1,hsz2⟩:=HY.out _ (Chg.refl _ _)
  obtain⟨s1,s2,s3,s4,s5⟩:=HSZ.out
  have HS2:=lh s2
  have HS5:=lh s5
  clear s2 s5
  go_wp2_with fail
  generalize ((w6.alloc (.cells #[.slice p1 h.v.length k1,.slice p2 h.e.length k2] 29)).alloc (.cells #[.slice p3 A1.length k3,.slice p4 A2.length k4] 32))=w7 at *
  refine (right_any _ _ _ g h A1 A2 _ (by omega) (by omega) (by omega) (by omega) (by omega) (fun i=>Nat.le_trans (HS5.out i) (by decide)) (HG.out.fresh (HXC.out.trans HCY.out (by simp))) (HPT.out.at.fresh HYC.out) (HPL.out.fresh HYC.out)).mono ?_
  rintro e w8 ⟨rfl,hc8⟩
  have HC78:=lh hc8
  have HC8:=lh (HCY.out.trans hc8 (by simp))
  have HW8:=lh (HXC.out.trans HC8.out (by simp))
  clear c0 c1 c2 c3 c4 c5 q0 q1 r0 r1 hsz m0 m1 n0 n1 hsz2 hc8
  obtain⟨c0,c1,c2,c3,c4,c5,q0,q1,r0,r1,hsz⟩:=HX.out _ HC8.out
  obtain⟨m0,m1,n0,n1,hsz2⟩:=HY.out _ HC78.out
  rw[HRZ.out]
  go_wp2_with fail
  refine (within_any _ _ h q _ (by omega) (by omega) (by omega) (by omega) HRQ.out.1 HRQ.out.2 (HPT.out.at.fresh (HYC.out.trans HC78.out (by simp))) (HQ.out.at.fresh HW8.out)).mono ?_
  rintro e w9 ⟨rfl,hc9⟩
  have HC79:=lh (HC78.out.trans hc9 (by simp))
  have HC9:=lh (HC8.out.trans hc9 (by simp))
  have HW9:=lh (HXC.out.trans HC9.out (by simp))
  clear c0 c1 c2 c3 c4 c5 q0 q1 r0 r1 hsz m0 m1 n0 n1 hsz2 hc9
  obtain⟨c0,c1,c2,c3,c4,c5,q0,q1,r0,r1,hsz⟩:=HX.out _ HC9.out
  obtain⟨m0,m1,n0,n1,hsz2⟩:=HY.out _ HC79.out
  rw[HWI.out]
  go_wp2_with fail
  refine (within_any _ _ h p _ (by omega) (by omega) (by omega) (by omega) HRP.out.1 HRP.out.2 (HPT.out.at.fresh (HYC.out.trans HC79.out (by simp))) (HP.out.fresh HW9.out)).mono ?_
  rintro e w10 ⟨rfl,hc10⟩
  have HC710:=lh (HC79.out.trans hc10 (by simp))
  have HC10:=lh (HC9.out.trans hc10 (by simp))
  have HW10:=lh (HXC.out.trans HC10.out (by simp))
  have HY10:=lh (HYC.out.trans HC710.out (by simp))
  clear c0 c1 c2 c3 c4 c5 q0 q1 r0 r1 hsz m0 m1 n0 n1 hsz2 hc10
  obtain⟨c0,c1,c2,c3,c4,c5,q0,q1,r0,r1,hsz⟩:=HX.out _ HC10.out
  obtain⟨m0,m1,n0,n1,hsz2⟩:=HY.out _ HC710.out
  rw[HWJ.out]
  go_wp2_with fail
  refine (holdOf_any _ _ g h r A1 A2 _ (by omega) (by omega) (by omega) (by omega) (by omega) (by omega) (by omega) (fun i=>Nat.le_trans (HS5.out i) (by decide)) ⟨_,_,_,_,_,_,rfl,HG.out.fresh HW10.out,HPT.out.fresh HY10.out,HPL.out.fresh HY10.out⟩ (HR.out.fresh HW10.out)).mono ?_
  rintro e w11 ⟨o3,o4,rfl,hno,hyes,hc11⟩
  have HC711:=lh (HC710.out.trans hc11 (by simp))
  have HC11:=lh (HC10.out.trans hc11 (by simp))
  clear c0 c1 c2 c3 c4 c5 q0 q1 r0 r1 hsz m0 m1 n0 n1 hsz2 hc11
  by_cases hrz:r.err g=0
  ·skip
   have hof:=Plain.ofErr_zero HRZ.out hrz
   rw[hof]
   have HPT2:=lh (hyes hof).1
   have HPL2:=lh (hyes hof).2
   have hke:=Plain.andPt_err HAE.out hrz
   have hne:=Plain.andPt_err HQZ.out hrz
   obtain⟨t1,t2⟩:=HTWO.out _ hke (fun e h=>(Plain.mem_andOf.1 h).1) (fun e h=>(Plain.mem_andOf.1 h).1)
   have hl3:(Plain.andPt h r).v.length≤60:=Nat.le_trans (List.length_filter_le _ _) hl1
   have hl4:(Plain.andPt h r).e.length≤60:=Nat.le_trans (List.length_filter_le _ _) hl2
   have hl5:(Plain.andPt q r).v.length≤60:=Nat.le_trans (List.length_filter_le _ _) d2
   have hl6:(Plain.andPt q r).e.length≤60:=Nat.le_trans (List.length_filter_le _ _) d3
   have hmn:(⟨Plain.mergeL false q.v r.v,Plain.mergeL false q.e r.e⟩:Plain.Pt)=Plain.andPt q r:=by
    rw[Plain.mergeL_two (Plain.part_rise HQZ.out).1 (Plain.part_rise hrz).1,Plain.mergeL_two (Plain.part_rise HQZ.out).2 (Plain.part_rise hrz).2]
    rfl
   have HMN:=lh hmn
   have HOE:=lh (Plain.ofErr_zero HPZ.out hne)
   have hks:Plain.subB (Plain.andPt h r).v p.v=true∧Plain.subB (Plain.andPt h r).e p.e=true:=by
    rw[HASS.out]
    exact Plain.andPt_left
   have HSK:=lh (Plain.rest_sizes (restErr_zero HPZ.out hke hks.1 hks.2) hl3 hl4 b3 HROWS.out)
   rw[t1,t2] at HPL2
   obtain⟨K,hK⟩:∃ K,Plain.andPt h r=K:=⟨_,rfl⟩
   obtain⟨N,hN⟩:∃ N,Plain.andPt q r=N:=⟨_,rfl⟩
   rw[hK] at HPT2 HPL2 HSK HASS hl3 hl4
   rw[hN] at HASS HMN HOE hl5 hl6
   obtain⟨D1,hD1⟩:∃ x,Plain.restTurn K.e turn=x:=⟨_,rfl⟩
   obtain⟨D2,hD2⟩:∃ x,Plain.restSame g p K turn same=x:=⟨_,rfl⟩
   rw[hD1,hD2] at HPL2 HSK
   have HD1:=lh hD1
   have HD2:=lh hD2
   obtain⟨g1,x1,g2,x2,rfl⟩:=HPT2.out.shape
   obtain⟨u1,u2,rfl,⟨g3,x3,rfl,-⟩,⟨g4,x4,rfl,-⟩⟩:=HPL2.out
   clear hno hyes hof hke hne t1 t2 hmn hks hK hN hD1 hD2 hrz
   have HVC:=lh (show Chg [] w11 ((w11.alloc (.cells #[.slice g1 K.v.length x1,.slice g2 K.e.length x2] 29)).alloc (.cells #[.slice g3 D1.length x3,.slice g4 D2.length x4] 32)) from (show Chg [] w11 ((w11.alloc (.cells #[.slice g1 K.v.length x1,.slice g2 K.e.length x2] 29)).alloc (.cells #[.slice g3 D1.length x3,.slice g4 D2.length x4] 32)) from (((Chg.refl [] w11).alloc _).alloc _)))
   have qbx0:=heap_alloc_new w11 (.cells #[.slice g1 K.v.length x1,.slice g2 K.e.length x2] 29)
   replace qbx0:=(show Chg [] (w11.alloc (.cells #[.slice g1 K.v.length x1,.slice g2 K.e.length x2] 29)) ((w11.alloc (.cells #[.slice g1 K.v.length x1,.slice g2 K.e.length x2] 29)).alloc (.cells #[.slice g3 D1.length x3,.slice g4 D2.length x4] 32)) from ((Chg.refl [] (w11.alloc (.cells #[.slice g1 K.v.length x1,.slice g2 K.e.length x2] 29))).alloc _)).heap qbx0 (by simp)
   have qbx1:=heap_alloc_new (w11.alloc (.cells #[.slice g1 K.v.length x1,.slice g2 K.e.length x2] 29)) (.cells #[.slice g3 D1.length x3,.slice g4 D2.length x4] 32)
   rw[show (w11.alloc (.cells #[.slice g1 K.v.length x1,.slice g2 K.e.length x2] 29)).heap.size=w11.heap.size+1 by simp] at qbx1
   have HV:=lh (fun (w2:World) (hbx:Chg [] ((w11.alloc (.cells #[.slice g1 K.v.length x1,.slice g2 K.e.length x2] 29)).alloc (.cells #[.slice g3 D1.length x3,.slice g4 D2.length x4] 32)) w2)=>(⟨hbx.cell ((cell_of_row _ _ 0 _ _ _ qbx0).trans rfl) (by simp),hbx.cell ((cell_of_row _ _ 1 _ _ _ qbx0).trans rfl) (by simp),hbx.cell ((cell_of_row _ _ 0 _ _ _ qbx1).trans rfl) (by simp),hbx.cell ((cell_of_row _ _ 1 _ _ _ qbx1).trans rfl) (by simp),by have hz:=hbx.size;simpa using hz⟩:w2.cell? ⟨w11.heap.size,0,none⟩=some (.slice g1 K.v.length x1)∧w2.cell? ⟨w11.heap.size,1,none⟩=some (.slice g2 K.e.length x2)∧w2.cell? ⟨w11.heap.size+1,0,none⟩=some (.slice g3 D1.length x3)∧w2.cell? ⟨w11.heap.size+1,1,none⟩=some (.slice g4 D2.length x4)∧w11.heap.size+2≤w2.heap.size))
   clear qbx0 qbx1
   have HVZ:=lh (show ((w11.alloc (.cells #[.slice g1 K.v.length x1,.slice g2 K.e.length x2] 29)).alloc (.cells #[.slice g3 D1.length x3,.slice g4 D2.length x4] 32)).heap.size=w11.heap.size+2 by simp)
   have HCV:=lh (HC11.out.trans HVC.out (by simp))
   go_wp2
   generalize ((w11.alloc (.cells #[.slice g1 K.v.length x1,.slice g2 K.e.length x2] 29)).alloc (.cells #[.slice g3 D1.length x3,.slice g4 D2.length x4] 32))=w12 at *
   have HWV:=lh (HXC.out.trans HCV.out (by simp))
   obtain⟨c0,c1,c2,c3,c4,c5,q0,q1,r0,r1,hsz⟩:=HX.out _ HCV.out
   go_cut [13,14,15] (fun c13 c14 c15 wc=>∃ b1 b2 p7 k7 p8 k8 p9 k9 p10 k10,c13=.pointer (some ⟨b1,0,none⟩)∧c14=.pointer (some ⟨b2,0,none⟩)∧c15=.int .i64 0∧wc.cell? ⟨b1,0,none⟩=some (.slice p7 K.v.length k7)∧wc.cell? ⟨b1,1,none⟩=some (.slice p8 K.e.length k8)∧wc.cell? ⟨b2,0,none⟩=some (.slice p9 D1.length k9)∧wc.cell? ⟨b2,1,none⟩=some (.slice p10 D2.length k10)∧PtC wc (.agg #[.slice p7 K.v.length k7,.slice p8 K.e.length k8]) K∧PlAt wc (.agg #[.slice p9 D1.length k9,.slice p10 D2.length k10]) D1 D2∧Chg [] w12 wc)
   case first =>
    have hS0:Chg [] w12 w12.drew:=(Chg.refl [] w12).drew
    refine wp_region_alts (Chg [] w12) [0,1,2,5,6,7,8] (.then_ 0 (.then_ 1 (.then_ 2 (.alt 3 (.alt 4 (.then_ 5 (.then_ 6 (.then_ 7 (.then_ 8 (.alt 9 (.then_ 10 (Wy.line [11,12,13] .done)) (.alt 10 (.then_ 9 (Wy.line [11,12,13] .done)) .nil)))))) (.alt 9 (.alt 4 (.then_ 5 (.then_ 6 (.then_ 7 (.then_ 8 (.then_ 10 (Wy.line [11,12,13] .done)))))) (.alt 10 (.then_ 4 (.then_ 5 (.then_ 6 (.then_ 7 (.then_ 8 (Wy.line [11,12,13] .done)))))) .nil)) (.alt 10 (.alt 4 (.then_ 5 (.then_ 6 (.then_ 7 (.then_ 8 (.then_ 9 (Wy.line [11,12,13] .done)))))) (.alt 9 (.then_ 4 (.then_ 5 (.then_ 6 (.then_ 7 (.then_ 8 (Wy.line [11,12,13] .done)))))) .nil)) .nil))) (.alt 9 (.alt 3 (.alt 4 (.then_ 5 (.then_ 6 (.then_ 7 (.then_ 8 (.then_ 10 (Wy.line [11,12,13] .done)))))) (.alt 10 (.then_ 4 (.then_ 5 (.then_ 6 (.then_ 7 (.then_ 8 (Wy.line [11,12,13] .done)))))) .nil)) (.alt 10 (.then_ 3 (.then_ 4 (.then_ 5 (.then_ 6 (.then_ 7 (.then_ 8 (Wy.line [11,12,13] .done))))))) .nil)) (.alt 10 (.alt 3 (.alt 4 (.then_ 5 (.then_ 6 (.then_ 7 (.then_ 8 (.then_ 9 (Wy.line [11,12,13] .done)))))) (.alt 9 (.then_ 4 (.then_ 5 (.then_ 6 (.then_ 7 (.then_ 8 (Wy.line [11,12,13] .done)))))) .nil)) (.alt 9 (.then_ 3 (.then_ 4 (.then_ 5 (.then_ 6 (.then_ 7 (.then_ 8 (Wy.line [11,12,13] .done))))))) .nil)) .nil)))))) (by kernel_rfl) (by kernel_rfl) ?_
    simp only[Wy.line]
    generalize w12.drew=w0 at *
    repeat
     first
      | (refine alts_off rfl (by rfl) (by rfl) (fun _ _ _ h=>h) hS0 ?_;simp only[Act.put,Z1,Z2,Z3,Z4,Z5,Z6])
      | (refine alts_read (v:=?_) rfl (by rfl) (by rfl) (fun _ _ _ h=>h) hS0 (fun w' hS'=>?_) ?_;rotate_left;(focus (have rd0:=hS'.cell c0 (by simp);have rd1:=hS'.cell c1 (by simp);have rd2:=hS'.cell c2 (by simp);have rd3:=hS'.cell c3 (by simp);have rd4:=hS'.cell c4 (by simp);have rd5:=hS'.cell c5 (by simp);have rd6:=hS'.cell q0 (by simp);have rd7:=hS'.cell q1 (by simp);have rd8:=hS'.cell r0 (by simp);have rd9:=hS'.cell r1 (by simp);clear hS';go_simp;try with_reducible rfl));simp only[Act.put,Z1,Z2,Z3,Z4,Z5,Z6])
      | (refine alts_skip rfl (by rfl) (by rfl) hS0 ?_;simp only[Act.put,Z1,Z2,Z3,Z4,Z5,Z6])
    refine alts_alt (by rfl) ?_ ?_
    ·skip
     refine alts_op rfl (by rfl) (by rfl) (fun K0 hK=>?_)
     go_simp
     refine (and_low _ _ q r _ (by omega) (by omega) (by omega) (by omega) (HQ.out.fresh (HWV.out.trans hS0 (by simp))) (HR.out.fresh (HWV.out.trans hS0 (by simp)))).mono ?_
     rintro e w1 ⟨ov,rfl,hand,hcx⟩
     have hand:=hand [] w1 (Chg.refl _ _) (by simp)
     rw[HMN.out] at hand
     have FA1:=lh hand
     clear hand
     have hS1:=hS0.trans hcx (by simp)
     clear hS0 hcx
     have hS0:=hS1
     clear hS1
     refine hK.out _ _ (fun _=>hS0) ?_
     clear hK K0
     try simp only[Act.put,Z1,Z2,Z3,Z4,Z5,Z6]
     refine alts_alt (by rfl) ?_ ?_
     ·skip
      refine alts_op rfl (by rfl) (by rfl) (fun K0 hK=>?_)
      go_simp
      refine (holdOf_low _ _ g p N turn same _ (by omega) (by omega) (by omega) (by omega) (by omega) (by have:=HB4.out;omega) (by omega) HB6.out (HCA.out.fresh (HWV.out.trans hS0 (by simp))) FA1.out).mono ?_
      rintro e w2 ⟨x5,x6,rfl,-,hro,hcx⟩
      have hro:=hro HOE.out
      rw[←HASS.out,HD1.out,HD2.out] at hro
      rw[HOE.out]
      have HRO:=lh hro
      have hrn:=hro [] w2 (Chg.refl _ _) (by simp)
      obtain⟨p7,k7,p8,k8,rfl⟩:=hrn.1.shape
      obtain⟨y1,y2,rfl,⟨p9,k9,rfl,-⟩,⟨p10,k10,rfl,-⟩⟩:=hrn.2
      clear hro hrn
      clear FA1
      have FR2:=lh (Chg.refl [] w2)
      have hS1:=hS0.trans hcx (by simp)
      clear hS0 hcx
      have hS0:=hS1
      clear hS1
      refine hK.out _ _ (fun _=>hS0) ?_
      clear hK K0
      try simp only[Act.put,Z1,Z2,Z3,Z4,Z5,Z6]
      repeat
       first
        | (refine alts_off rfl (by rfl) (by rfl) (fun _ _ _ h=>h) hS0 ?_;simp only[Act.put,Z1,Z2,Z3,Z4,Z5,Z6])
        | (refine alts_read (v:=?_) rfl (by rfl) (by rfl) (fun _ _ _ h=>h) hS0 (fun w' hS'=>?_) ?_;rotate_left;(focus (have rd0:=hS'.cell c0 (by simp);have rd1:=hS'.cell c1 (by simp);have rd2:=hS'.cell c2 (by simp);have rd3:=hS'.cell c3 (by simp);have rd4:=hS'.cell c4 (by simp);have rd5:=hS'.cell c5 (by simp);have rd6:=hS'.cell q0 (by simp);have rd7:=hS'.cell q1 (by simp);have rd8:=hS'.cell r0 (by simp);have rd9:=hS'.cell r1 (by simp);clear hS';go_simp;try with_reducible rfl));simp only[Act.put,Z1,Z2,Z3,Z4,Z5,Z6])
        | (refine alts_skip rfl (by rfl) (by rfl) hS0 ?_;simp only[Act.put,Z1,Z2,Z3,Z4,Z5,Z6])
      refine alts_alt (by rfl) ?_ ?_
      ·skip
       refine alts_op rfl (by rfl) (by rfl) (fun K0 hK=>?_)
       go_simp
       have FB3:=lh (heap_alloc_new w2 (.cells #[.slice none 0 0,.slice none 0 0] 29))
       have hcx:=(Chg.refl [] w2).alloc (.cells #[.slice none 0 0,.slice none 0 0] 29)
       obtain⟨b3,hb3⟩:∃ b,(World.heap w2).size=b:=⟨_,rfl⟩
       have FN3:=lh (show w12.heap.size≤b3 by rw[←hb3];exact hS0.size)
       have FX3:=lh (show w2.heap.size≤b3 by rw[←hb3];exact FR2.out.size)
       have FR4:=lh ((FR2.out).trans hcx (by simp))
       clear FR2
       rw[hb3] at FB3 ⊢
       clear hb3
       have hS1:=hS0.alloc (.cells #[.slice none 0 0,.slice none 0 0] 29)
       clear hS0 hcx
       have hS0:=hS1
       clear hS1
       refine hK.out _ _ (fun _=>hS0) ?_
       clear hK K0
       try simp only[Act.put,Z1,Z2,Z3,Z4,Z5,Z6]
       generalize (World.alloc w2 (.cells #[.slice none 0 0,.slice none 0 0] 29))=w3 at *
       refine alts_op rfl (by rfl) (by rfl) (fun K0 hK=>?_)
       go_simp
       have FC5:=lh (heap_alloc_new w3 (.cells #[.slice none 0 0,.slice none 0 0] 32))
       have hcx:=(Chg.refl [] w3).alloc (.cells #[.slice none 0 0,.slice none 0 0] 32)
       obtain⟨b5,hb5⟩:∃ b,(World.heap w3).size=b:=⟨_,rfl⟩
       have FN5:=lh (show w12.heap.size≤b5 by rw[←hb5];exact hS0.size)
       have FX5:=lh (show w2.heap.size≤b5 by rw[←hb5];exact FR4.out.size)
       have FB6:=lh (hcx.heap FB3.out (by simp))
       clear FB3
       have FR7:=lh ((FR4.out).trans hcx (by simp))
       clear FR4
       rw[hb5] at FC5 ⊢
       clear hb5
       have hS1:=hS0.alloc (.cells #[.slice none 0 0,.slice none 0 0] 32)
       clear hS0 hcx
       have hS0:=hS1
       clear hS1
       refine hK.out _ _ (fun _=>hS0) ?_
       clear hK K0
       try simp only[Act.put,Z1,Z2,Z3,Z4,Z5,Z6]
       generalize (World.alloc w3 (.cells #[.slice none 0 0,.slice none 0 0] 32))=w5 at *
       have hbb:b3≠b5:=fun e=>by
        have h1:=FB6.out
        have h2:=FC5.out
        rw[e,h2] at h1
        simp at h1
       refine alts_op rfl (by rfl) (by rfl) (fun K0 hK=>?_)
       have z0:=(cell_of_row _ _ 0 _ _ _ FB6.out).trans (show _=some (Value.slice none 0 0) from rfl)
       have z1:=(cell_of_row _ _ 1 _ _ _ FB6.out).trans (show _=some (Value.slice none 0 0) from rfl)
       have z2:=free_at FB6.out 0
       have z3:=free_at FB6.out 1
       obtain⟨-,o0,o1,o2⟩:=out_store2 FB6.out (.slice p7 K.v.length k7) (.slice p8 K.e.length k8)
       go_simp
       have hS1:=hS0.trans o2 (fun j hj=>Or.inr (by have:=FN3.out;simp at hj;omega))
       have hfc:=o2.heap FC5.out (by simp;exact fun e=>hbb e.symm)
       refine hK.out _ _ (fun _=>hS1) ?_
       clear hK K0 z0 z1 z2 z3 hS0
       have hS0:=hS1
       clear hS1
       try simp only[Act.put,Z1,Z2,Z3,Z4,Z5,Z6]
       generalize ((World.setCell w5 ⟨b3,0,none⟩ (.slice p7 K.v.length k7)).setCell ⟨b3,1,none⟩ (.slice p8 K.e.length k8))=w8a at *
       refine alts_op rfl (by rfl) (by rfl) (fun K0 hK=>?_)
       have z0:=(cell_of_row _ _ 0 _ _ _ hfc).trans (show _=some (Value.slice none 0 0) from rfl)
       have z1:=(cell_of_row _ _ 1 _ _ _ hfc).trans (show _=some (Value.slice none 0 0) from rfl)
       have z2:=free_at hfc 0
       have z3:=free_at hfc 1
       obtain⟨-,o3,o4,o5⟩:=out_store2 hfc (.slice p9 D1.length k9) (.slice p10 D2.length k10)
       have o6:=o5.cell o0 (by simp;exact hbb)
       have o7:=o5.cell o1 (by simp;exact hbb)
       go_simp
       have hS1:=hS0.trans o5 (fun j hj=>Or.inr (by have:=FN5.out;simp at hj;omega))
       have hro:=HRO.out [] _ (((FR7.out.mono (by simp)).trans o2 (fun j hj=>Or.inr (by simp at hj;rw[hj];exact FX3.out))).trans o5 (fun j hj=>Or.inr (by simp at hj;rw[hj];exact FX5.out))) (by simp)
       refine hK.out _ _ (fun _=>hS1) ?_
       clear hK K0 z0 z1 z2 z3 hS0
       try simp only[Act.put,Z1,Z2,Z3,Z4,Z5,Z6]
       refine alts_op rfl (by rfl) (by rfl) (fun K0 hK=>?_)
       go_simp
       refine hK.out _ _ (fun _=>hS1) ?_
       clear hK K0
       try simp only[Act.put,Z1,Z2,Z3,Z4,Z5,Z6]
       refine alts_done ?_
       go_wp2
       go_meet
       case rel=>exact⟨_,_,_,_,_,_,_,_,_,_,rfl,rfl,rfl,o6,o7,o3,o4,hro.1,hro.2,hS1⟩
      refine alts_alt (by rfl) ?_ ?_
      ·skip
       refine alts_op rfl (by rfl) (by rfl) (fun K0 hK=>?_)
       go_simp
       have FC9:=lh (heap_alloc_new w2 (.cells #[.slice none 0 0,.slice none 0 0] 32))
       have hcx:=(Chg.refl [] w2).alloc (.cells #[.slice none 0 0,.slice none 0 0] 32)
       obtain⟨b9,hb9⟩:∃ b,(World.heap w2).size=b:=⟨_,rfl⟩
       have FN9:=lh (show w12.heap.size≤b9 by rw[←hb9];exact hS0.size)
       have FX9:=lh (show w2.heap.size≤b9 by rw[←hb9];exact FR2.out.size)
       have FR10:=lh ((FR2.out).trans hcx (by simp))
       clear FR2
       rw[hb9] at FC9 ⊢
       clear hb9
       have hS1:=hS0.alloc (.cells #[.slice none 0 0,.slice none 0 0] 32)
       clear hS0 hcx
       have hS0:=hS1
       clear hS1
       refine hK.out _ _ (fun _=>hS0) ?_
       clear hK K0
       try simp only[Act.put,Z1,Z2,Z3,Z4,Z5,Z6]
       generalize (World.alloc w2 (.cells #[.slice none 0 0,.slice none 0 0] 32))=w9 at *
       refine alts_op rfl (by rfl) (by rfl) (fun K0 hK=>?_)
       go_simp
       have FB11:=lh (heap_alloc_new w9 (.cells #[.slice none 0 0,.slice none 0 0] 29))
       have hcx:=(Chg.refl [] w9).alloc (.cells #[.slice none 0 0,.slice none 0 0] 29)
       obtain⟨b11,hb11⟩:∃ b,(World.heap w9).size=b:=⟨_,rfl⟩
       have FN11:=lh (show w12.heap.size≤b11 by rw[←hb11];exact hS0.size)
       have FX11:=lh (show w2.heap.size≤b11 by rw[←hb11];exact FR10.out.size)
       have FC12:=lh (hcx.heap FC9.out (by simp))
       clear FC9
       have FR13:=lh ((FR10.out).trans hcx (by simp))
       clear FR10
       rw[hb11] at FB11 ⊢
       clear hb11
       have hS1:=hS0.alloc (.cells #[.slice none 0 0,.slice none 0 0] 29)
       clear hS0 hcx
       have hS0:=hS1
       clear hS1
       refine hK.out _ _ (fun _=>hS0) ?_
       clear hK K0
       try simp only[Act.put,Z1,Z2,Z3,Z4,Z5,Z6]
       generalize (World.alloc w9 (.cells #[.slice none 0 0,.slice none 0 0] 29))=w11 at *
       have hbb:b11≠b9:=fun e=>by
        have h1:=FB11.out
        have h2:=FC12.out
        rw[e,h2] at h1
        simp at h1
       refine alts_op rfl (by rfl) (by rfl) (fun K0 hK=>?_)
       have z0:=(cell_of_row _ _ 0 _ _ _ FB11.out).trans (show _=some (Value.slice none 0 0) from rfl)
       have z1:=(cell_of_row _ _ 1 _ _ _ FB11.out).trans (show _=some (Value.slice none 0 0) from rfl)
       have z2:=free_at FB11.out 0
       have z3:=free_at FB11.out 1
       obtain⟨-,o0,o1,o2⟩:=out_store2 FB11.out (.slice p7 K.v.length k7) (.slice p8 K.e.length k8)
       go_simp
       have hS1:=hS0.trans o2 (fun j hj=>Or.inr (by have:=FN11.out;simp at hj;omega))
       have hfc:=o2.heap FC12.out (by simp;exact fun e=>hbb e.symm)
       refine hK.out _ _ (fun _=>hS1) ?_
       clear hK K0 z0 z1 z2 z3 hS0
       have hS0:=hS1
       clear hS1
       try simp only[Act.put,Z1,Z2,Z3,Z4,Z5,Z6]
       generalize ((World.setCell w11 ⟨b11,0,none⟩ (.slice p7 K.v.length k7)).setCell ⟨b11,1,none⟩ (.slice p8 K.e.length k8))=w14a at *
       refine alts_op rfl (by rfl) (by rfl) (fun K0 hK=>?_)
       have z0:=(cell_of_row _ _ 0 _ _ _ hfc).trans (show _=some (Value.slice none 0 0) from rfl)
       have z1:=(cell_of_row _ _ 1 _ _ _ hfc).trans (show _=some (Value.slice none 0 0) from rfl)
       have z2:=free_at hfc 0
       have z3:=free_at hfc 1
       obtain⟨-,o3,o4,o5⟩:=out_store2 hfc (.slice p9 D1.length k9) (.slice p10 D2.length k10)
       have o6:=o5.cell o0 (by simp;exact hbb)
       have o7:=o5.cell o1 (by simp;exact hbb)
       go_simp
       have hS1:=hS0.trans o5 (fun j hj=>Or.inr (by have:=FN9.out;simp at hj;omega))
       have hro:=HRO.out [] _ (((FR13.out.mono (by simp)).trans o2 (fun j hj=>Or.inr (by simp at hj;rw[hj];exact FX11.out))).trans o5 (fun j hj=>Or.inr (by simp at hj;rw[hj];exact FX9.out))) (by simp)
       refine hK.out _ _ (fun _=>hS1) ?_
       clear hK K0 z0 z1 z2 z3 hS0
       try simp only[Act.put,Z1,Z2,Z3,Z4,Z5,Z6]
       refine alts_op rfl (by rfl) (by rfl) (fun K0 hK=>?_)
       go_simp
       refine hK.out _ _ (fun _=>hS1) ?_
       clear hK K0
       try simp only[Act.put,Z1,Z2,Z3,Z4,Z5,Z6]
       refine alts_done ?_
       go_wp2
       go_meet
       case rel=>exact⟨_,_,_,_,_,_,_,_,_,_,rfl,rfl,rfl,o6,o7,o3,o4,hro.1,hro.2,hS1⟩
      exact alts_nil
     refine alts_alt (by rfl) ?_ ?_
     ·skip
      refine alts_op rfl (by rfl) (by rfl) (fun K0 hK=>?_)
      go_simp
      have FB15:=lh (heap_alloc_new w1 (.cells #[.slice none 0 0,.slice none 0 0] 29))
      have hcx:=(Chg.refl [] w1).alloc (.cells #[.slice none 0 0,.slice none 0 0] 29)
      obtain⟨b15,hb15⟩:∃ b,(World.heap w1).size=b:=⟨_,rfl⟩
      have FN15:=lh (show w12.heap.size≤b15 by rw[←hb15];exact hS0.size)
      have FA16:=lh (FA1.out.fresh hcx)
      clear FA1
      rw[hb15] at FB15 ⊢
      clear hb15
      have hS1:=hS0.alloc (.cells #[.slice none 0 0,.slice none 0 0] 29)
      clear hS0 hcx
      have hS0:=hS1
      clear hS1
      refine hK.out _ _ (fun _=>hS0) ?_
      clear hK K0
      try simp only[Act.put,Z1,Z2,Z3,Z4,Z5,Z6]
      generalize (World.alloc w1 (.cells #[.slice none 0 0,.slice none 0 0] 29))=w15 at *
      refine alts_alt (by rfl) ?_ ?_
      ·skip
       refine alts_op rfl (by rfl) (by rfl) (fun K0 hK=>?_)
       go_simp
       refine (holdOf_low _ _ g p N turn same _ (by omega) (by omega) (by omega) (by omega) (by omega) (by have:=HB4.out;omega) (by omega) HB6.out (HCA.out.fresh (HWV.out.trans hS0 (by simp))) FA16.out).mono ?_
       rintro e w17 ⟨x5,x6,rfl,-,hro,hcx⟩
       have hro:=hro HOE.out
       rw[←HASS.out,HD1.out,HD2.out] at hro
       rw[HOE.out]
       have HRO:=lh hro
       have hrn:=hro [] w17 (Chg.refl _ _) (by simp)
       obtain⟨p7,k7,p8,k8,rfl⟩:=hrn.1.shape
       obtain⟨y1,y2,rfl,⟨p9,k9,rfl,-⟩,⟨p10,k10,rfl,-⟩⟩:=hrn.2
       clear hro hrn
       clear FA16
       have FLB17:=lh (lt_of_block FB15.out)
       have FB18:=lh (hcx.heap FB15.out (by simp))
       clear FB15
       have FR17:=lh (Chg.refl [] w17)
       have hS1:=hS0.trans hcx (by simp)
       clear hS0 hcx
       have hS0:=hS1
       clear hS1
       refine hK.out _ _ (fun _=>hS0) ?_
       clear hK K0
       try simp only[Act.put,Z1,Z2,Z3,Z4,Z5,Z6]
       repeat
        first
         | (refine alts_off rfl (by rfl) (by rfl) (fun _ _ _ h=>h) hS0 ?_;simp only[Act.put,Z1,Z2,Z3,Z4,Z5,Z6])
         | (refine alts_read (v:=?_) rfl (by rfl) (by rfl) (fun _ _ _ h=>h) hS0 (fun w' hS'=>?_) ?_;rotate_left;(focus (have rd0:=hS'.cell c0 (by simp);have rd1:=hS'.cell c1 (by simp);have rd2:=hS'.cell c2 (by simp);have rd3:=hS'.cell c3 (by simp);have rd4:=hS'.cell c4 (by simp);have rd5:=hS'.cell c5 (by simp);have rd6:=hS'.cell q0 (by simp);have rd7:=hS'.cell q1 (by simp);have rd8:=hS'.cell r0 (by simp);have rd9:=hS'.cell r1 (by simp);clear hS';go_simp;try with_reducible rfl));simp only[Act.put,Z1,Z2,Z3,Z4,Z5,Z6])
         | (refine alts_skip rfl (by rfl) (by rfl) hS0 ?_;simp only[Act.put,Z1,Z2,Z3,Z4,Z5,Z6])
       refine alts_op rfl (by rfl) (by rfl) (fun K0 hK=>?_)
       go_simp
       have FC19:=lh (heap_alloc_new w17 (.cells #[.slice none 0 0,.slice none 0 0] 32))
       have hcx:=(Chg.refl [] w17).alloc (.cells #[.slice none 0 0,.slice none 0 0] 32)
       obtain⟨b19,hb19⟩:∃ b,(World.heap w17).size=b:=⟨_,rfl⟩
       have FN19:=lh (show w12.heap.size≤b19 by rw[←hb19];exact hS0.size)
       have FX19:=lh (show w17.heap.size≤b19 by rw[←hb19];exact FR17.out.size)
       have FB20:=lh (hcx.heap FB18.out (by simp))
       clear FB18
       have FR21:=lh ((FR17.out).trans hcx (by simp))
       clear FR17
       rw[hb19] at FC19 ⊢
       clear hb19
       have hS1:=hS0.alloc (.cells #[.slice none 0 0,.slice none 0 0] 32)
       clear hS0 hcx
       have hS0:=hS1
       clear hS1
       refine hK.out _ _ (fun _=>hS0) ?_
       clear hK K0
       try simp only[Act.put,Z1,Z2,Z3,Z4,Z5,Z6]
       generalize (World.alloc w17 (.cells #[.slice none 0 0,.slice none 0 0] 32))=w19 at *
       have hbb:b15≠b19:=fun e=>by
        have h1:=FB20.out
        have h2:=FC19.out
        rw[e,h2] at h1
        simp at h1
       refine alts_op rfl (by rfl) (by rfl) (fun K0 hK=>?_)
       have z0:=(cell_of_row _ _ 0 _ _ _ FB20.out).trans (show _=some (Value.slice none 0 0) from rfl)
       have z1:=(cell_of_row _ _ 1 _ _ _ FB20.out).trans (show _=some (Value.slice none 0 0) from rfl)
       have z2:=free_at FB20.out 0
       have z3:=free_at FB20.out 1
       obtain⟨-,o0,o1,o2⟩:=out_store2 FB20.out (.slice p7 K.v.length k7) (.slice p8 K.e.length k8)
       go_simp
       have hS1:=hS0.trans o2 (fun j hj=>Or.inr (by have:=FN15.out;simp at hj;omega))
       have hfc:=o2.heap FC19.out (by simp;exact fun e=>hbb e.symm)
       refine hK.out _ _ (fun _=>hS1) ?_
       clear hK K0 z0 z1 z2 z3 hS0
       have hS0:=hS1
       clear hS1
       try simp only[Act.put,Z1,Z2,Z3,Z4,Z5,Z6]
       generalize ((World.setCell w19 ⟨b15,0,none⟩ (.slice p7 K.v.length k7)).setCell ⟨b15,1,none⟩ (.slice p8 K.e.length k8))=w22a at *
       refine alts_op rfl (by rfl) (by rfl) (fun K0 hK=>?_)
       have z0:=(cell_of_row _ _ 0 _ _ _ hfc).trans (show _=some (Value.slice none 0 0) from rfl)
       have z1:=(cell_of_row _ _ 1 _ _ _ hfc).trans (show _=some (Value.slice none 0 0) from rfl)
       have z2:=free_at hfc 0
       have z3:=free_at hfc 1
       obtain⟨-,o3,o4,o5⟩:=out_store2 hfc (.slice p9 D1.length k9) (.slice p10 D2.length k10)
       have o6:=o5.cell o0 (by simp;exact hbb)
       have o7:=o5.cell o1 (by simp;exact hbb)
       go_simp
       have hS1:=hS0.trans o5 (fun j hj=>Or.inr (by have:=FN19.out;simp at hj;omega))
       have hro:=HRO.out [b15] _ (((FR21.out.mono (by simp)).trans o2 (fun j hj=>Or.inl (by simp at hj;simp[hj]))).trans o5 (fun j hj=>Or.inr (by simp at hj;rw[hj];exact FX19.out))) (fun j hj=>by have l0:=FLB17.out;simp at hj;omega)
       refine hK.out _ _ (fun _=>hS1) ?_
       clear hK K0 z0 z1 z2 z3 hS0
       try simp only[Act.put,Z1,Z2,Z3,Z4,Z5,Z6]
       refine alts_op rfl (by rfl) (by rfl) (fun K0 hK=>?_)
       go_simp
       refine hK.out _ _ (fun _=>hS1) ?_
       clear hK K0
       try simp only[Act.put,Z1,Z2,Z3,Z4,Z5,Z6]
       refine alts_done ?_
       go_wp2
       go_meet
       case rel=>exact⟨_,_,_,_,_,_,_,_,_,_,rfl,rfl,rfl,o6,o7,o3,o4,hro.1,hro.2,hS1⟩
      refine alts_alt (by rfl) ?_ ?_
      ·skip
       refine alts_op rfl (by rfl) (by rfl) (fun K0 hK=>?_)
       go_simp
       have FC23:=lh (heap_alloc_new w15 (.cells #[.slice none 0 0,.slice none 0 0] 32))
       have hcx:=(Chg.refl [] w15).alloc (.cells #[.slice none 0 0,.slice none 0 0] 32)
       obtain⟨b23,hb23⟩:∃ b,(World.heap w15).size=b:=⟨_,rfl⟩
       have FN23:=lh (show w12.heap.size≤b23 by rw[←hb23];exact hS0.size)
       have FA24:=lh (FA16.out.fresh hcx)
       clear FA16
       have FB25:=lh (hcx.heap FB15.out (by simp))
       clear FB15
       rw[hb23] at FC23 ⊢
       clear hb23
       have hS1:=hS0.alloc (.cells #[.slice none 0 0,.slice none 0 0] 32)
       clear hS0 hcx
       have hS0:=hS1
       clear hS1
       refine hK.out _ _ (fun _=>hS0) ?_
       clear hK K0
       try simp only[Act.put,Z1,Z2,Z3,Z4,Z5,Z6]
       generalize (World.alloc w15 (.cells #[.slice none 0 0,.slice none 0 0] 32))=w23 at *
       refine alts_op rfl (by rfl) (by rfl) (fun K0 hK=>?_)
       go_simp
       refine (holdOf_low _ _ g p N turn same _ (by omega) (by omega) (by omega) (by omega) (by omega) (by have:=HB4.out;omega) (by omega) HB6.out (HCA.out.fresh (HWV.out.trans hS0 (by simp))) FA24.out).mono ?_
       rintro e w26 ⟨x5,x6,rfl,-,hro,hcx⟩
       have hro:=hro HOE.out
       rw[←HASS.out,HD1.out,HD2.out] at hro
       rw[HOE.out]
       have HRO:=lh hro
       have hrn:=hro [] w26 (Chg.refl _ _) (by simp)
       obtain⟨p7,k7,p8,k8,rfl⟩:=hrn.1.shape
       obtain⟨y1,y2,rfl,⟨p9,k9,rfl,-⟩,⟨p10,k10,rfl,-⟩⟩:=hrn.2
       clear hro hrn
       clear FA24
       have FLB26:=lh (lt_of_block FB25.out)
       have FLC26:=lh (lt_of_block FC23.out)
       have FB27:=lh (hcx.heap FB25.out (by simp))
       clear FB25
       have FC28:=lh (hcx.heap FC23.out (by simp))
       clear FC23
       have FR26:=lh (Chg.refl [] w26)
       have hS1:=hS0.trans hcx (by simp)
       clear hS0 hcx
       have hS0:=hS1
       clear hS1
       refine hK.out _ _ (fun _=>hS0) ?_
       clear hK K0
       try simp only[Act.put,Z1,Z2,Z3,Z4,Z5,Z6]
       repeat
        first
         | (refine alts_off rfl (by rfl) (by rfl) (fun _ _ _ h=>h) hS0 ?_;simp only[Act.put,Z1,Z2,Z3,Z4,Z5,Z6])
         | (refine alts_read (v:=?_) rfl (by rfl) (by rfl) (fun _ _ _ h=>h) hS0 (fun w' hS'=>?_) ?_;rotate_left;(focus (have rd0:=hS'.cell c0 (by simp);have rd1:=hS'.cell c1 (by simp);have rd2:=hS'.cell c2 (by simp);have rd3:=hS'.cell c3 (by simp);have rd4:=hS'.cell c4 (by simp);have rd5:=hS'.cell c5 (by simp);have rd6:=hS'.cell q0 (by simp);have rd7:=hS'.cell q1 (by simp);have rd8:=hS'.cell r0 (by simp);have rd9:=hS'.cell r1 (by simp);clear hS';go_simp;try with_reducible rfl));simp only[Act.put,Z1,Z2,Z3,Z4,Z5,Z6])
         | (refine alts_skip rfl (by rfl) (by rfl) hS0 ?_;simp only[Act.put,Z1,Z2,Z3,Z4,Z5,Z6])
       have hbb:b15≠b23:=fun e=>by
        have h1:=FB27.out
        have h2:=FC28.out
        rw[e,h2] at h1
        simp at h1
       refine alts_op rfl (by rfl) (by rfl) (fun K0 hK=>?_)
       have z0:=(cell_of_row _ _ 0 _ _ _ FB27.out).trans (show _=some (Value.slice none 0 0) from rfl)
       have z1:=(cell_of_row _ _ 1 _ _ _ FB27.out).trans (show _=some (Value.slice none 0 0) from rfl)
       have z2:=free_at FB27.out 0
       have z3:=free_at FB27.out 1
       obtain⟨-,o0,o1,o2⟩:=out_store2 FB27.out (.slice p7 K.v.length k7) (.slice p8 K.e.length k8)
       go_simp
       have hS1:=hS0.trans o2 (fun j hj=>Or.inr (by have:=FN15.out;simp at hj;omega))
       have hfc:=o2.heap FC28.out (by simp;exact fun e=>hbb e.symm)
       refine hK.out _ _ (fun _=>hS1) ?_
       clear hK K0 z0 z1 z2 z3 hS0
       have hS0:=hS1
       clear hS1
       try simp only[Act.put,Z1,Z2,Z3,Z4,Z5,Z6]
       generalize ((World.setCell w26 ⟨b15,0,none⟩ (.slice p7 K.v.length k7)).setCell ⟨b15,1,none⟩ (.slice p8 K.e.length k8))=w29a at *
       refine alts_op rfl (by rfl) (by rfl) (fun K0 hK=>?_)
       have z0:=(cell_of_row _ _ 0 _ _ _ hfc).trans (show _=some (Value.slice none 0 0) from rfl)
       have z1:=(cell_of_row _ _ 1 _ _ _ hfc).trans (show _=some (Value.slice none 0 0) from rfl)
       have z2:=free_at hfc 0
       have z3:=free_at hfc 1
       obtain⟨-,o3,o4,o5⟩:=out_store2 hfc (.slice p9 D1.length k9) (.slice p10 D2.length k10)
       have o6:=o5.cell o0 (by simp;exact hbb)
       have o7:=o5.cell o1 (by simp;exact hbb)
       go_simp
       have hS1:=hS0.trans o5 (fun j hj=>Or.inr (by have:=FN23.out;simp at hj;omega))
       have hro:=HRO.out [b15,b23] _ (((FR26.out.mono (by simp)).trans o2 (fun j hj=>Or.inl (by simp at hj;simp[hj]))).trans o5 (fun j hj=>Or.inl (by simp at hj;simp[hj]))) (fun j hj=>by have l0:=FLB26.out;have l1:=FLC26.out;simp at hj;omega)
       refine hK.out _ _ (fun _=>hS1) ?_
       clear hK K0 z0 z1 z2 z3 hS0
       try simp only[Act.put,Z1,Z2,Z3,Z4,Z5,Z6]
       refine alts_op rfl (by rfl) (by rfl) (fun K0 hK=>?_)
       go_simp
       refine hK.out _ _ (fun _=>hS1) ?_
       clear hK K0
       try simp only[Act.put,Z1,Z2,Z3,Z4,Z5,Z6]
       refine alts_done ?_
       go_wp2
       go_meet
       case rel=>exact⟨_,_,_,_,_,_,_,_,_,_,rfl,rfl,rfl,o6,o7,o3,o4,hro.1,hro.2,hS1⟩
      exact alts_nil
     refine alts_alt (by rfl) ?_ ?_
     ·skip
      refine alts_op rfl (by rfl) (by rfl) (fun K0 hK=>?_)
      go_simp
      have FC30:=lh (heap_alloc_new w1 (.cells #[.slice none 0 0,.slice none 0 0] 32))
      have hcx:=(Chg.refl [] w1).alloc (.cells #[.slice none 0 0,.slice none 0 0] 32)
      obtain⟨b30,hb30⟩:∃ b,(World.heap w1).size=b:=⟨_,rfl⟩
      have FN30:=lh (show w12.heap.size≤b30 by rw[←hb30];exact hS0.size)
      have FA31:=lh (FA1.out.fresh hcx)
      clear FA1
      rw[hb30] at FC30 ⊢
      clear hb30
      have hS1:=hS0.alloc (.cells #[.slice none 0 0,.slice none 0 0] 32)
      clear hS0 hcx
      have hS0:=hS1
      clear hS1
      refine hK.out _ _ (fun _=>hS0) ?_
      clear hK K0
      try simp only[Act.put,Z1,Z2,Z3,Z4,Z5,Z6]
      generalize (World.alloc w1 (.cells #[.slice none 0 0,.slice none 0 0] 32))=w30 at *
      refine alts_alt (by rfl) ?_ ?_
      ·skip
       refine alts_op rfl (by rfl) (by rfl) (fun K0 hK=>?_)
       go_simp
       refine (holdOf_low _ _ g p N turn same _ (by omega) (by omega) (by omega) (by omega) (by omega) (by have:=HB4.out;omega) (by omega) HB6.out (HCA.out.fresh (HWV.out.trans hS0 (by simp))) FA31.out).mono ?_
       rintro e w32 ⟨x5,x6,rfl,-,hro,hcx⟩
       have hro:=hro HOE.out
       rw[←HASS.out,HD1.out,HD2.out] at hro
       rw[HOE.out]
       have HRO:=lh hro
       have hrn:=hro [] w32 (Chg.refl _ _) (by simp)
       obtain⟨p7,k7,p8,k8,rfl⟩:=hrn.1.shape
       obtain⟨y1,y2,rfl,⟨p9,k9,rfl,-⟩,⟨p10,k10,rfl,-⟩⟩:=hrn.2
       clear hro hrn
       clear FA31
       have FLC32:=lh (lt_of_block FC30.out)
       have FC33:=lh (hcx.heap FC30.out (by simp))
       clear FC30
       have FR32:=lh (Chg.refl [] w32)
       have hS1:=hS0.trans hcx (by simp)
       clear hS0 hcx
       have hS0:=hS1
       clear hS1
       refine hK.out _ _ (fun _=>hS0) ?_
       clear hK K0
       try simp only[Act.put,Z1,Z2,Z3,Z4,Z5,Z6]
       repeat
        first
         | (refine alts_off rfl (by rfl) (by rfl) (fun _ _ _ h=>h) hS0 ?_;simp only[Act.put,Z1,Z2,Z3,Z4,Z5,Z6])
         | (refine alts_read (v:=?_) rfl (by rfl) (by rfl) (fun _ _ _ h=>h) hS0 (fun w' hS'=>?_) ?_;rotate_left;(focus (have rd0:=hS'.cell c0 (by simp);have rd1:=hS'.cell c1 (by simp);have rd2:=hS'.cell c2 (by simp);have rd3:=hS'.cell c3 (by simp);have rd4:=hS'.cell c4 (by simp);have rd5:=hS'.cell c5 (by simp);have rd6:=hS'.cell q0 (by simp);have rd7:=hS'.cell q1 (by simp);have rd8:=hS'.cell r0 (by simp);have rd9:=hS'.cell r1 (by simp);clear hS';go_simp;try with_reducible rfl));simp only[Act.put,Z1,Z2,Z3,Z4,Z5,Z6])
         | (refine alts_skip rfl (by rfl) (by rfl) hS0 ?_;simp only[Act.put,Z1,Z2,Z3,Z4,Z5,Z6])
       refine alts_op rfl (by rfl) (by rfl) (fun K0 hK=>?_)
       go_simp
       have FB34:=lh (heap_alloc_new w32 (.cells #[.slice none 0 0,.slice none 0 0] 29))
       have hcx:=(Chg.refl [] w32).alloc (.cells #[.slice none 0 0,.slice none 0 0] 29)
       obtain⟨b34,hb34⟩:∃ b,(World.heap w32).size=b:=⟨_,rfl⟩
       have FN34:=lh (show w12.heap.size≤b34 by rw[←hb34];exact hS0.size)
       have FX34:=lh (show w32.heap.size≤b34 by rw[←hb34];exact FR32.out.size)
       have FC35:=lh (hcx.heap FC33.out (by simp))
       clear FC33
       have FR36:=lh ((FR32.out).trans hcx (by simp))
       clear FR32
       rw[hb34] at FB34 ⊢
       clear hb34
       have hS1:=hS0.alloc (.cells #[.slice none 0 0,.slice none 0 0] 29)
       clear hS0 hcx
       have hS0:=hS1
       clear hS1
       refine hK.out _ _ (fun _=>hS0) ?_
       clear hK K0
       try simp only[Act.put,Z1,Z2,Z3,Z4,Z5,Z6]
       generalize (World.alloc w32 (.cells #[.slice none 0 0,.slice none 0 0] 29))=w34 at *
       have hbb:b34≠b30:=fun e=>by
        have h1:=FB34.out
        have h2:=FC35.out
        rw[e,h2] at h1
        simp at h1
       refine alts_op rfl (by rfl) (by rfl) (fun K0 hK=>?_)
       have z0:=(cell_of_row _ _ 0 _ _ _ FB34.out).trans (show _=some (Value.slice none 0 0) from rfl)
       have z1:=(cell_of_row _ _ 1 _ _ _ FB34.out).trans (show _=some (Value.slice none 0 0) from rfl)
       have z2:=free_at FB34.out 0
       have z3:=free_at FB34.out 1
       obtain⟨-,o0,o1,o2⟩:=out_store2 FB34.out (.slice p7 K.v.length k7) (.slice p8 K.e.length k8)
       go_simp
       have hS1:=hS0.trans o2 (fun j hj=>Or.inr (by have:=FN34.out;simp at hj;omega))
       have hfc:=o2.heap FC35.out (by simp;exact fun e=>hbb e.symm)
       refine hK.out _ _ (fun _=>hS1) ?_
       clear hK K0 z0 z1 z2 z3 hS0
       have hS0:=hS1
       clear hS1
       try simp only[Act.put,Z1,Z2,Z3,Z4,Z5,Z6]
       generalize ((World.setCell w34 ⟨b34,0,none⟩ (.slice p7 K.v.length k7)).setCell ⟨b34,1,none⟩ (.slice p8 K.e.length k8))=w37a at *
       refine alts_op rfl (by rfl) (by rfl) (fun K0 hK=>?_)
       have z0:=(cell_of_row _ _ 0 _ _ _ hfc).trans (show _=some (Value.slice none 0 0) from rfl)
       have z1:=(cell_of_row _ _ 1 _ _ _ hfc).trans (show _=some (Value.slice none 0 0) from rfl)
       have z2:=free_at hfc 0
       have z3:=free_at hfc 1
       obtain⟨-,o3,o4,o5⟩:=out_store2 hfc (.slice p9 D1.length k9) (.slice p10 D2.length k10)
       have o6:=o5.cell o0 (by simp;exact hbb)
       have o7:=o5.cell o1 (by simp;exact hbb)
       go_simp
       have hS1:=hS0.trans o5 (fun j hj=>Or.inr (by have:=FN30.out;simp at hj;omega))
       have hro:=HRO.out [b30] _ (((FR36.out.mono (by simp)).trans o2 (fun j hj=>Or.inr (by simp at hj;rw[hj];exact FX34.out))).trans o5 (fun j hj=>Or.inl (by simp at hj;simp[hj]))) (fun j hj=>by have l0:=FLC32.out;simp at hj;omega)
       refine hK.out _ _ (fun _=>hS1) ?_
       clear hK K0 z0 z1 z2 z3 hS0
       try simp only[Act.put,Z1,Z2,Z3,Z4,Z5,Z6]
       refine alts_op rfl (by rfl) (by rfl) (fun K0 hK=>?_)
       go_simp
       refine hK.out _ _ (fun _=>hS1) ?_
       clear hK K0
       try simp only[Act.put,Z1,Z2,Z3,Z4,Z5,Z6]
       refine alts_done ?_
       go_wp2
       go_meet
       case rel=>exact⟨_,_,_,_,_,_,_,_,_,_,rfl,rfl,rfl,o6,o7,o3,o4,hro.1,hro.2,hS1⟩
      refine alts_alt (by rfl) ?_ ?_
      ·skip
       refine alts_op rfl (by rfl) (by rfl) (fun K0 hK=>?_)
       go_simp
       have FB38:=lh (heap_alloc_new w30 (.cells #[.slice none 0 0,.slice none 0 0] 29))
       have hcx:=(Chg.refl [] w30).alloc (.cells #[.slice none 0 0,.slice none 0 0] 29)
       obtain⟨b38,hb38⟩:∃ b,(World.heap w30).size=b:=⟨_,rfl⟩
       have FN38:=lh (show w12.heap.size≤b38 by rw[←hb38];exact hS0.size)
       have FA39:=lh (FA31.out.fresh hcx)
       clear FA31
       have FC40:=lh (hcx.heap FC30.out (by simp))
       clear FC30
       rw[hb38] at FB38 ⊢
       clear hb38
       have hS1:=hS0.alloc (.cells #[.slice none 0 0,.slice none 0 0] 29)
       clear hS0 hcx
       have hS0:=hS1
       clear hS1
       refine hK.out _ _ (fun _=>hS0) ?_
       clear hK K0
       try simp only[Act.put,Z1,Z2,Z3,Z4,Z5,Z6]
       generalize (World.alloc w30 (.cells #[.slice none 0 0,.slice none 0 0] 29))=w38 at *
       refine alts_op rfl (by rfl) (by rfl) (fun K0 hK=>?_)
       go_simp
       refine (holdOf_low _ _ g p N turn same _ (by omega) (by omega) (by omega) (by omega) (by omega) (by have:=HB4.out;omega) (by omega) HB6.out (HCA.out.fresh (HWV.out.trans hS0 (by simp))) FA39.out).mono ?_
       rintro e w41 ⟨x5,x6,rfl,-,hro,hcx⟩
       have hro:=hro HOE.out
       rw[←HASS.out,HD1.out,HD2.out] at hro
       rw[HOE.out]
       have HRO:=lh hro
       have hrn:=hro [] w41 (Chg.refl _ _) (by simp)
       obtain⟨p7,k7,p8,k8,rfl⟩:=hrn.1.shape
       obtain⟨y1,y2,rfl,⟨p9,k9,rfl,-⟩,⟨p10,k10,rfl,-⟩⟩:=hrn.2
       clear hro hrn
       clear FA39
       have FLB41:=lh (lt_of_block FB38.out)
       have FLC41:=lh (lt_of_block FC40.out)
       have FB42:=lh (hcx.heap FB38.out (by simp))
       clear FB38
       have FC43:=lh (hcx.heap FC40.out (by simp))
       clear FC40
       have FR41:=lh (Chg.refl [] w41)
       have hS1:=hS0.trans hcx (by simp)
       clear hS0 hcx
       have hS0:=hS1
       clear hS1
       refine hK.out _ _ (fun _=>hS0) ?_
       clear hK K0
       try simp only[Act.put,Z1,Z2,Z3,Z4,Z5,Z6]
       repeat
        first
         | (refine alts_off rfl (by rfl) (by rfl) (fun _ _ _ h=>h) hS0 ?_;simp only[Act.put,Z1,Z2,Z3,Z4,Z5,Z6])
         | (refine alts_read (v:=?_) rfl (by rfl) (by rfl) (fun _ _ _ h=>h) hS0 (fun w' hS'=>?_) ?_;rotate_left;(focus (have rd0:=hS'.cell c0 (by simp);have rd1:=hS'.cell c1 (by simp);have rd2:=hS'.cell c2 (by simp);have rd3:=hS'.cell c3 (by simp);have rd4:=hS'.cell c4 (by simp);have rd5:=hS'.cell c5 (by simp);have rd6:=hS'.cell q0 (by simp);have rd7:=hS'.cell q1 (by simp);have rd8:=hS'.cell r0 (by simp);have rd9:=hS'.cell r1 (by simp);clear hS';go_simp;try with_reducible rfl));simp only[Act.put,Z1,Z2,Z3,Z4,Z5,Z6])
         | (refine alts_skip rfl (by rfl) (by rfl) hS0 ?_;simp only[Act.put,Z1,Z2,Z3,Z4,Z5,Z6])
       have hbb:b38≠b30:=fun e=>by
        have h1:=FB42.out
        have h2:=FC43.out
        rw[e,h2] at h1
        simp at h1
       refine alts_op rfl (by rfl) (by rfl) (fun K0 hK=>?_)
       have z0:=(cell_of_row _ _ 0 _ _ _ FB42.out).trans (show _=some (Value.slice none 0 0) from rfl)
       have z1:=(cell_of_row _ _ 1 _ _ _ FB42.out).trans (show _=some (Value.slice none 0 0) from rfl)
       have z2:=free_at FB42.out 0
       have z3:=free_at FB42.out 1
       obtain⟨-,o0,o1,o2⟩:=out_store2 FB42.out (.slice p7 K.v.length k7) (.slice p8 K.e.length k8)
       go_simp
       have hS1:=hS0.trans o2 (fun j hj=>Or.inr (by have:=FN38.out;simp at hj;omega))
       have hfc:=o2.heap FC43.out (by simp;exact fun e=>hbb e.symm)
       refine hK.out _ _ (fun _=>hS1) ?_
       clear hK K0 z0 z1 z2 z3 hS0
       have hS0:=hS1
       clear hS1
       try simp only[Act.put,Z1,Z2,Z3,Z4,Z5,Z6]
       generalize ((World.setCell w41 ⟨b38,0,none⟩ (.slice p7 K.v.length k7)).setCell ⟨b38,1,none⟩ (.slice p8 K.e.length k8))=w44a at *
       refine alts_op rfl (by rfl) (by rfl) (fun K0 hK=>?_)
       have z0:=(cell_of_row _ _ 0 _ _ _ hfc).trans (show _=some (Value.slice none 0 0) from rfl)
       have z1:=(cell_of_row _ _ 1 _ _ _ hfc).trans (show _=some (Value.slice none 0 0) from rfl)
       have z2:=free_at hfc 0
       have z3:=free_at hfc 1
       obtain⟨-,o3,o4,o5⟩:=out_store2 hfc (.slice p9 D1.length k9) (.slice p10 D2.length k10)
       have o6:=o5.cell o0 (by simp;exact hbb)
       have o7:=o5.cell o1 (by simp;exact hbb)
       go_simp
       have hS1:=hS0.trans o5 (fun j hj=>Or.inr (by have:=FN30.out;simp at hj;omega))
       have hro:=HRO.out [b38,b30] _ (((FR41.out.mono (by simp)).trans o2 (fun j hj=>Or.inl (by simp at hj;simp[hj]))).trans o5 (fun j hj=>Or.inl (by simp at hj;simp[hj]))) (fun j hj=>by have l0:=FLB41.out;have l1:=FLC41.out;simp at hj;omega)
       refine hK.out _ _ (fun _=>hS1) ?_
       clear hK K0 z0 z1 z2 z3 hS0
       try simp only[Act.put,Z1,Z2,Z3,Z4,Z5,Z6]
       refine alts_op rfl (by rfl) (by rfl) (fun K0 hK=>?_)
       go_simp
       refine hK.out _ _ (fun _=>hS1) ?_
       clear hK K0
       try simp only[Act.put,Z1,Z2,Z3,Z4,Z5,Z6]
       refine alts_done ?_
       go_wp2
       go_meet
       case rel=>exact⟨_,_,_,_,_,_,_,_,_,_,rfl,rfl,rfl,o6,o7,o3,o4,hro.1,hro.2,hS1⟩
      exact alts_nil
     exact alts_nil
    refine alts_alt (by rfl) ?_ ?_
    ·skip
     refine alts_op rfl (by rfl) (by rfl) (fun K0 hK=>?_)
     go_simp
     have FB45:=lh (heap_alloc_new w0 (.cells #[.slice none 0 0,.slice none 0 0] 29))
     have hcx:=(Chg.refl [] w0).alloc (.cells #[.slice none 0 0,.slice none 0 0] 29)
     obtain⟨b45,hb45⟩:∃ b,(World.heap w0).size=b:=⟨_,rfl⟩
     have FN45:=lh (show w12.heap.size≤b45 by rw[←hb45];exact hS0.size)
     rw[hb45] at FB45 ⊢
     clear hb45
     have hS1:=hS0.alloc (.cells #[.slice none 0 0,.slice none 0 0] 29)
     clear hS0 hcx
     have hS0:=hS1
     clear hS1
     refine hK.out _ _ (fun _=>hS0) ?_
     clear hK K0
     try simp only[Act.put,Z1,Z2,Z3,Z4,Z5,Z6]
     generalize (World.alloc w0 (.cells #[.slice none 0 0,.slice none 0 0] 29))=w45 at *
     refine alts_alt (by rfl) ?_ ?_
     ·skip
      refine alts_op rfl (by rfl) (by rfl) (fun K0 hK=>?_)
      go_simp
      refine (and_low _ _ q r _ (by omega) (by omega) (by omega) (by omega) (HQ.out.fresh (HWV.out.trans hS0 (by simp))) (HR.out.fresh (HWV.out.trans hS0 (by simp)))).mono ?_
      rintro e w46 ⟨ov,rfl,hand,hcx⟩
      have hand:=hand [] w46 (Chg.refl _ _) (by simp)
      rw[HMN.out] at hand
      have FA46:=lh hand
      clear hand
      have FB47:=lh (hcx.heap FB45.out (by simp))
      clear FB45
      have hS1:=hS0.trans hcx (by simp)
      clear hS0 hcx
      have hS0:=hS1
      clear hS1
      refine hK.out _ _ (fun _=>hS0) ?_
      clear hK K0
      try simp only[Act.put,Z1,Z2,Z3,Z4,Z5,Z6]
      refine alts_alt (by rfl) ?_ ?_
      ·skip
       refine alts_op rfl (by rfl) (by rfl) (fun K0 hK=>?_)
       go_simp
       refine (holdOf_low _ _ g p N turn same _ (by omega) (by omega) (by omega) (by omega) (by omega) (by have:=HB4.out;omega) (by omega) HB6.out (HCA.out.fresh (HWV.out.trans hS0 (by simp))) FA46.out).mono ?_
       rintro e w48 ⟨x5,x6,rfl,-,hro,hcx⟩
       have hro:=hro HOE.out
       rw[←HASS.out,HD1.out,HD2.out] at hro
       rw[HOE.out]
       have HRO:=lh hro
       have hrn:=hro [] w48 (Chg.refl _ _) (by simp)
       obtain⟨p7,k7,p8,k8,rfl⟩:=hrn.1.shape
       obtain⟨y1,y2,rfl,⟨p9,k9,rfl,-⟩,⟨p10,k10,rfl,-⟩⟩:=hrn.2
       clear hro hrn
       clear FA46
       have FLB48:=lh (lt_of_block FB47.out)
       have FB49:=lh (hcx.heap FB47.out (by simp))
       clear FB47
       have FR48:=lh (Chg.refl [] w48)
       have hS1:=hS0.trans hcx (by simp)
       clear hS0 hcx
       have hS0:=hS1
       clear hS1
       refine hK.out _ _ (fun _=>hS0) ?_
       clear hK K0
       try simp only[Act.put,Z1,Z2,Z3,Z4,Z5,Z6]
       repeat
        first
         | (refine alts_off rfl (by rfl) (by rfl) (fun _ _ _ h=>h) hS0 ?_;simp only[Act.put,Z1,Z2,Z3,Z4,Z5,Z6])
         | (refine alts_read (v:=?_) rfl (by rfl) (by rfl) (fun _ _ _ h=>h) hS0 (fun w' hS'=>?_) ?_;rotate_left;(focus (have rd0:=hS'.cell c0 (by simp);have rd1:=hS'.cell c1 (by simp);have rd2:=hS'.cell c2 (by simp);have rd3:=hS'.cell c3 (by simp);have rd4:=hS'.cell c4 (by simp);have rd5:=hS'.cell c5 (by simp);have rd6:=hS'.cell q0 (by simp);have rd7:=hS'.cell q1 (by simp);have rd8:=hS'.cell r0 (by simp);have rd9:=hS'.cell r1 (by simp);clear hS';go_simp;try with_reducible rfl));simp only[Act.put,Z1,Z2,Z3,Z4,Z5,Z6])
         | (refine alts_skip rfl (by rfl) (by rfl) hS0 ?_;simp only[Act.put,Z1,Z2,Z3,Z4,Z5,Z6])
       refine alts_op rfl (by rfl) (by rfl) (fun K0 hK=>?_)
       go_simp
       have FC50:=lh (heap_alloc_new w48 (.cells #[.slice none 0 0,.slice none 0 0] 32))
       have hcx:=(Chg.refl [] w48).alloc (.cells #[.slice none 0 0,.slice none 0 0] 32)
       obtain⟨b50,hb50⟩:∃ b,(World.heap w48).size=b:=⟨_,rfl⟩
       have FN50:=lh (show w12.heap.size≤b50 by rw[←hb50];exact hS0.size)
       have FX50:=lh (show w48.heap.size≤b50 by rw[←hb50];exact FR48.out.size)
       have FB51:=lh (hcx.heap FB49.out (by simp))
       clear FB49
       have FR52:=lh ((FR48.out).trans hcx (by simp))
       clear FR48
       rw[hb50] at FC50 ⊢
       clear hb50
       have hS1:=hS0.alloc (.cells #[.slice none 0 0,.slice none 0 0] 32)
       clear hS0 hcx
       have hS0:=hS1
       clear hS1
       refine hK.out _ _ (fun _=>hS0) ?_
       clear hK K0
       try simp only[Act.put,Z1,Z2,Z3,Z4,Z5,Z6]
       generalize (World.alloc w48 (.cells #[.slice none 0 0,.slice none 0 0] 32))=w50 at *
       have hbb:b45≠b50:=fun e=>by
        have h1:=FB51.out
        have h2:=FC50.out
        rw[e,h2] at h1
        simp at h1
       refine alts_op rfl (by rfl) (by rfl) (fun K0 hK=>?_)
       have z0:=(cell_of_row _ _ 0 _ _ _ FB51.out).trans (show _=some (Value.slice none 0 0) from rfl)
       have z1:=(cell_of_row _ _ 1 _ _ _ FB51.out).trans (show _=some (Value.slice none 0 0) from rfl)
       have z2:=free_at FB51.out 0
       have z3:=free_at FB51.out 1
       obtain⟨-,o0,o1,o2⟩:=out_store2 FB51.out (.slice p7 K.v.length k7) (.slice p8 K.e.length k8)
       go_simp
       have hS1:=hS0.trans o2 (fun j hj=>Or.inr (by have:=FN45.out;simp at hj;omega))
       have hfc:=o2.heap FC50.out (by simp;exact fun e=>hbb e.symm)
       refine hK.out _ _ (fun _=>hS1) ?_
       clear hK K0 z0 z1 z2 z3 hS0
       have hS0:=hS1
       clear hS1
       try simp only[Act.put,Z1,Z2,Z3,Z4,Z5,Z6]
       generalize ((World.setCell w50 ⟨b45,0,none⟩ (.slice p7 K.v.length k7)).setCell ⟨b45,1,none⟩ (.slice p8 K.e.length k8))=w53a at *
       refine alts_op rfl (by rfl) (by rfl) (fun K0 hK=>?_)
       have z0:=(cell_of_row _ _ 0 _ _ _ hfc).trans (show _=some (Value.slice none 0 0) from rfl)
       have z1:=(cell_of_row _ _ 1 _ _ _ hfc).trans (show _=some (Value.slice none 0 0) from rfl)
       have z2:=free_at hfc 0
       have z3:=free_at hfc 1
       obtain⟨-,o3,o4,o5⟩:=out_store2 hfc (.slice p9 D1.length k9) (.slice p10 D2.length k10)
       have o6:=o5.cell o0 (by simp;exact hbb)
       have o7:=o5.cell o1 (by simp;exact hbb)
       go_simp
       have hS1:=hS0.trans o5 (fun j hj=>Or.inr (by have:=FN50.out;simp at hj;omega))
       have hro:=HRO.out [b45] _ (((FR52.out.mono (by simp)).trans o2 (fun j hj=>Or.inl (by simp at hj;simp[hj]))).trans o5 (fun j hj=>Or.inr (by simp at hj;rw[hj];exact FX50.out))) (fun j hj=>by have l0:=FLB48.out;simp at hj;omega)
       refine hK.out _ _ (fun _=>hS1) ?_
       clear hK K0 z0 z1 z2 z3 hS0
       try simp only[Act.put,Z1,Z2,Z3,Z4,Z5,Z6]
       refine alts_op rfl (by rfl) (by rfl) (fun K0 hK=>?_)
       go_simp
       refine hK.out _ _ (fun _=>hS1) ?_
       clear hK K0
       try simp only[Act.put,Z1,Z2,Z3,Z4,Z5,Z6]
       refine alts_done ?_
       go_wp2
       go_meet
       case rel=>exact⟨_,_,_,_,_,_,_,_,_,_,rfl,rfl,rfl,o6,o7,o3,o4,hro.1,hro.2,hS1⟩
      refine alts_alt (by rfl) ?_ ?_
      ·skip
       refine alts_op rfl (by rfl) (by rfl) (fun K0 hK=>?_)
       go_simp
       have FC54:=lh (heap_alloc_new w46 (.cells #[.slice none 0 0,.slice none 0 0] 32))
       have hcx:=(Chg.refl [] w46).alloc (.cells #[.slice none 0 0,.slice none 0 0] 32)
       obtain⟨b54,hb54⟩:∃ b,(World.heap w46).size=b:=⟨_,rfl⟩
       have FN54:=lh (show w12.heap.size≤b54 by rw[←hb54];exact hS0.size)
       have FA55:=lh (FA46.out.fresh hcx)
       clear FA46
       have FB56:=lh (hcx.heap FB47.out (by simp))
       clear FB47
       rw[hb54] at FC54 ⊢
       clear hb54
       have hS1:=hS0.alloc (.cells #[.slice none 0 0,.slice none 0 0] 32)
       clear hS0 hcx
       have hS0:=hS1
       clear hS1
       refine hK.out _ _ (fun _=>hS0) ?_
       clear hK K0
       try simp only[Act.put,Z1,Z2,Z3,Z4,Z5,Z6]
       generalize (World.alloc w46 (.cells #[.slice none 0 0,.slice none 0 0] 32))=w54 at *
       refine alts_op rfl (by rfl) (by rfl) (fun K0 hK=>?_)
       go_simp
       refine (holdOf_low _ _ g p N turn same _ (by omega) (by omega) (by omega) (by omega) (by omega) (by have:=HB4.out;omega) (by omega) HB6.out (HCA.out.fresh (HWV.out.trans hS0 (by simp))) FA55.out).mono ?_
       rintro e w57 ⟨x5,x6,rfl,-,hro,hcx⟩
       have hro:=hro HOE.out
       rw[←HASS.out,HD1.out,HD2.out] at hro
       rw[HOE.out]
       have HRO:=lh hro
       have hrn:=hro [] w57 (Chg.refl _ _) (by simp)
       obtain⟨p7,k7,p8,k8,rfl⟩:=hrn.1.shape
       obtain⟨y1,y2,rfl,⟨p9,k9,rfl,-⟩,⟨p10,k10,rfl,-⟩⟩:=hrn.2
       clear hro hrn
       clear FA55
       have FLB57:=lh (lt_of_block FB56.out)
       have FLC57:=lh (lt_of_block FC54.out)
       have FB58:=lh (hcx.heap FB56.out (by simp))
       clear FB56
       have FC59:=lh (hcx.heap FC54.out (by simp))
       clear FC54
       have FR57:=lh (Chg.refl [] w57)
       have hS1:=hS0.trans hcx (by simp)
       clear hS0 hcx
       have hS0:=hS1
       clear hS1
       refine hK.out _ _ (fun _=>hS0) ?_
       clear hK K0
       try simp only[Act.put,Z1,Z2,Z3,Z4,Z5,Z6]
       repeat
        first
         | (refine alts_off rfl (by rfl) (by rfl) (fun _ _ _ h=>h) hS0 ?_;simp only[Act.put,Z1,Z2,Z3,Z4,Z5,Z6])
         | (refine alts_read (v:=?_) rfl (by rfl) (by rfl) (fun _ _ _ h=>h) hS0 (fun w' hS'=>?_) ?_;rotate_left;(focus (have rd0:=hS'.cell c0 (by simp);have rd1:=hS'.cell c1 (by simp);have rd2:=hS'.cell c2 (by simp);have rd3:=hS'.cell c3 (by simp);have rd4:=hS'.cell c4 (by simp);have rd5:=hS'.cell c5 (by simp);have rd6:=hS'.cell q0 (by simp);have rd7:=hS'.cell q1 (by simp);have rd8:=hS'.cell r0 (by simp);have rd9:=hS'.cell r1 (by simp);clear hS';go_simp;try with_reducible rfl));simp only[Act.put,Z1,Z2,Z3,Z4,Z5,Z6])
         | (refine alts_skip rfl (by rfl) (by rfl) hS0 ?_;simp only[Act.put,Z1,Z2,Z3,Z4,Z5,Z6])
       have hbb:b45≠b54:=fun e=>by
        have h1:=FB58.out
        have h2:=FC59.out
        rw[e,h2] at h1
        simp at h1
       refine alts_op rfl (by rfl) (by rfl) (fun K0 hK=>?_)
       have z0:=(cell_of_row _ _ 0 _ _ _ FB58.out).trans (show _=some (Value.slice none 0 0) from rfl)
       have z1:=(cell_of_row _ _ 1 _ _ _ FB58.out).trans (show _=some (Value.slice none 0 0) from rfl)
       have z2:=free_at FB58.out 0
       have z3:=free_at FB58.out 1
       obtain⟨-,o0,o1,o2⟩:=out_store2 FB58.out (.slice p7 K.v.length k7) (.slice p8 K.e.length k8)
       go_simp
       have hS1:=hS0.trans o2 (fun j hj=>Or.inr (by have:=FN45.out;simp at hj;omega))
       have hfc:=o2.heap FC59.out (by simp;exact fun e=>hbb e.symm)
       refine hK.out _ _ (fun _=>hS1) ?_
       clear hK K0 z0 z1 z2 z3 hS0
       have hS0:=hS1
       clear hS1
       try simp only[Act.put,Z1,Z2,Z3,Z4,Z5,Z6]
       generalize ((World.setCell w57 ⟨b45,0,none⟩ (.slice p7 K.v.length k7)).setCell ⟨b45,1,none⟩ (.slice p8 K.e.length k8))=w60a at *
       refine alts_op rfl (by rfl) (by rfl) (fun K0 hK=>?_)
       have z0:=(cell_of_row _ _ 0 _ _ _ hfc).trans (show _=some (Value.slice none 0 0) from rfl)
       have z1:=(cell_of_row _ _ 1 _ _ _ hfc).trans (show _=some (Value.slice none 0 0) from rfl)
       have z2:=free_at hfc 0
       have z3:=free_at hfc 1
       obtain⟨-,o3,o4,o5⟩:=out_store2 hfc (.slice p9 D1.length k9) (.slice p10 D2.length k10)
       have o6:=o5.cell o0 (by simp;exact hbb)
       have o7:=o5.cell o1 (by simp;exact hbb)
       go_simp
       have hS1:=hS0.trans o5 (fun j hj=>Or.inr (by have:=FN54.out;simp at hj;omega))
       have hro:=HRO.out [b45,b54] _ (((FR57.out.mono (by simp)).trans o2 (fun j hj=>Or.inl (by simp at hj;simp[hj]))).trans o5 (fun j hj=>Or.inl (by simp at hj;simp[hj]))) (fun j hj=>by have l0:=FLB57.out;have l1:=FLC57.out;simp at hj;omega)
       refine hK.out _ _ (fun _=>hS1) ?_
       clear hK K0 z0 z1 z2 z3 hS0
       try simp only[Act.put,Z1,Z2,Z3,Z4,Z5,Z6]
       refine alts_op rfl (by rfl) (by rfl) (fun K0 hK=>?_)
       go_simp
       refine hK.out _ _ (fun _=>hS1) ?_
       clear hK K0
       try simp only[Act.put,Z1,Z2,Z3,Z4,Z5,Z6]
       refine alts_done ?_
       go_wp2
       go_meet
       case rel=>exact⟨_,_,_,_,_,_,_,_,_,_,rfl,rfl,rfl,o6,o7,o3,o4,hro.1,hro.2,hS1⟩
      exact alts_nil
     refine alts_alt (by rfl) ?_ ?_
     ·skip
      refine alts_op rfl (by rfl) (by rfl) (fun K0 hK=>?_)
      go_simp
      have FC61:=lh (heap_alloc_new w45 (.cells #[.slice none 0 0,.slice none 0 0] 32))
      have hcx:=(Chg.refl [] w45).alloc (.cells #[.slice none 0 0,.slice none 0 0] 32)
      obtain⟨b61,hb61⟩:∃ b,(World.heap w45).size=b:=⟨_,rfl⟩
      have FN61:=lh (show w12.heap.size≤b61 by rw[←hb61];exact hS0.size)
      have FB62:=lh (hcx.heap FB45.out (by simp))
      clear FB45
      rw[hb61] at FC61 ⊢
      clear hb61
      have hS1:=hS0.alloc (.cells #[.slice none 0 0,.slice none 0 0] 32)
      clear hS0 hcx
      have hS0:=hS1
      clear hS1
      refine hK.out _ _ (fun _=>hS0) ?_
      clear hK K0
      try simp only[Act.put,Z1,Z2,Z3,Z4,Z5,Z6]
      generalize (World.alloc w45 (.cells #[.slice none 0 0,.slice none 0 0] 32))=w61 at *
      refine alts_op rfl (by rfl) (by rfl) (fun K0 hK=>?_)
      go_simp
      refine (and_low _ _ q r _ (by omega) (by omega) (by omega) (by omega) (HQ.out.fresh (HWV.out.trans hS0 (by simp))) (HR.out.fresh (HWV.out.trans hS0 (by simp)))).mono ?_
      rintro e w63 ⟨ov,rfl,hand,hcx⟩
      have hand:=hand [] w63 (Chg.refl _ _) (by simp)
      rw[HMN.out] at hand
      have FA63:=lh hand
      clear hand
      have FB64:=lh (hcx.heap FB62.out (by simp))
      clear FB62
      have FC65:=lh (hcx.heap FC61.out (by simp))
      clear FC61
      have hS1:=hS0.trans hcx (by simp)
      clear hS0 hcx
      have hS0:=hS1
      clear hS1
      refine hK.out _ _ (fun _=>hS0) ?_
      clear hK K0
      try simp only[Act.put,Z1,Z2,Z3,Z4,Z5,Z6]
      refine alts_op rfl (by rfl) (by rfl) (fun K0 hK=>?_)
      go_simp
      refine (holdOf_low _ _ g p N turn same _ (by omega) (by omega) (by omega) (by omega) (by omega) (by have:=HB4.out;omega) (by omega) HB6.out (HCA.out.fresh (HWV.out.trans hS0 (by simp))) FA63.out).mono ?_
      rintro e w66 ⟨x5,x6,rfl,-,hro,hcx⟩
      have hro:=hro HOE.out
      rw[←HASS.out,HD1.out,HD2.out] at hro
      rw[HOE.out]
      have HRO:=lh hro
      have hrn:=hro [] w66 (Chg.refl _ _) (by simp)
      obtain⟨p7,k7,p8,k8,rfl⟩:=hrn.1.shape
      obtain⟨y1,y2,rfl,⟨p9,k9,rfl,-⟩,⟨p10,k10,rfl,-⟩⟩:=hrn.2
      clear hro hrn
      clear FA63
      have FLB66:=lh (lt_of_block FB64.out)
      have FLC66:=lh (lt_of_block FC65.out)
      have FB67:=lh (hcx.heap FB64.out (by simp))
      clear FB64
      have FC68:=lh (hcx.heap FC65.out (by simp))
      clear FC65
      have FR66:=lh (Chg.refl [] w66)
      have hS1:=hS0.trans hcx (by simp)
      clear hS0 hcx
      have hS0:=hS1
      clear hS1
      refine hK.out _ _ (fun _=>hS0) ?_
      clear hK K0
      try simp only[Act.put,Z1,Z2,Z3,Z4,Z5,Z6]
      repeat
       first
        | (refine alts_off rfl (by rfl) (by rfl) (fun _ _ _ h=>h) hS0 ?_;simp only[Act.put,Z1,Z2,Z3,Z4,Z5,Z6])
        | (refine alts_read (v:=?_) rfl (by rfl) (by rfl) (fun _ _ _ h=>h) hS0 (fun w' hS'=>?_) ?_;rotate_left;(focus (have rd0:=hS'.cell c0 (by simp);have rd1:=hS'.cell c1 (by simp);have rd2:=hS'.cell c2 (by simp);have rd3:=hS'.cell c3 (by simp);have rd4:=hS'.cell c4 (by simp);have rd5:=hS'.cell c5 (by simp);have rd6:=hS'.cell q0 (by simp);have rd7:=hS'.cell q1 (by simp);have rd8:=hS'.cell r0 (by simp);have rd9:=hS'.cell r1 (by simp);clear hS';go_simp;try with_reducible rfl));simp only[Act.put,Z1,Z2,Z3,Z4,Z5,Z6])
        | (refine alts_skip rfl (by rfl) (by rfl) hS0 ?_;simp only[Act.put,Z1,Z2,Z3,Z4,Z5,Z6])
      have hbb:b45≠b61:=fun e=>by
       have h1:=FB67.out
       have h2:=FC68.out
       rw[e,h2] at h1
       simp at h1
      refine alts_op rfl (by rfl) (by rfl) (fun K0 hK=>?_)
      have z0:=(cell_of_row _ _ 0 _ _ _ FB67.out).trans (show _=some (Value.slice none 0 0) from rfl)
      have z1:=(cell_of_row _ _ 1 _ _ _ FB67.out).trans (show _=some (Value.slice none 0 0) from rfl)
      have z2:=free_at FB67.out 0
      have z3:=free_at FB67.out 1
      obtain⟨-,o0,o1,o2⟩:=out_store2 FB67.out (.slice p7 K.v.length k7) (.slice p8 K.e.length k8)
      go_simp
      have hS1:=hS0.trans o2 (fun j hj=>Or.inr (by have:=FN45.out;simp at hj;omega))
      have hfc:=o2.heap FC68.out (by simp;exact fun e=>hbb e.symm)
      refine hK.out _ _ (fun _=>hS1) ?_
      clear hK K0 z0 z1 z2 z3 hS0
      have hS0:=hS1
      clear hS1
      try simp only[Act.put,Z1,Z2,Z3,Z4,Z5,Z6]
      generalize ((World.setCell w66 ⟨b45,0,none⟩ (.slice p7 K.v.length k7)).setCell ⟨b45,1,none⟩ (.slice p8 K.e.length k8))=w69a at *
      refine alts_op rfl (by rfl) (by rfl) (fun K0 hK=>?_)
      have z0:=(cell_of_row _ _ 0 _ _ _ hfc).trans (show _=some (Value.slice none 0 0) from rfl)
      have z1:=(cell_of_row _ _ 1 _ _ _ hfc).trans (show _=some (Value.slice none 0 0) from rfl)
      have z2:=free_at hfc 0
      have z3:=free_at hfc 1
      obtain⟨-,o3,o4,o5⟩:=out_store2 hfc (.slice p9 D1.length k9) (.slice p10 D2.length k10)
      have o6:=o5.cell o0 (by simp;exact hbb)
      have o7:=o5.cell o1 (by simp;exact hbb)
      go_simp
      have hS1:=hS0.trans o5 (fun j hj=>Or.inr (by have:=FN61.out;simp at hj;omega))
      have hro:=HRO.out [b45,b61] _ (((FR66.out.mono (by simp)).trans o2 (fun j hj=>Or.inl (by simp at hj;simp[hj]))).trans o5 (fun j hj=>Or.inl (by simp at hj;simp[hj]))) (fun j hj=>by have l0:=FLB66.out;have l1:=FLC66.out;simp at hj;omega)
      refine hK.out _ _ (fun _=>hS1) ?_
      clear hK K0 z0 z1 z2 z3 hS0
      try simp only[Act.put,Z1,Z2,Z3,Z4,Z5,Z6]
      refine alts_op rfl (by rfl) (by rfl) (fun K0 hK=>?_)
      go_simp
      refine hK.out _ _ (fun _=>hS1) ?_
      clear hK K0
      try simp only[Act.put,Z1,Z2,Z3,Z4,Z5,Z6]
      refine alts_done ?_
      go_wp2
      go_meet
      case rel=>exact⟨_,_,_,_,_,_,_,_,_,_,rfl,rfl,rfl,o6,o7,o3,o4,hro.1,hro.2,hS1⟩
     exact alts_nil
    refine alts_alt (by rfl) ?_ ?_
    ·skip
     refine alts_op rfl (by rfl) (by rfl) (fun K0 hK=>?_)
     go_simp
     have FC70:=lh (heap_alloc_new w0 (.cells #[.slice none 0 0,.slice none 0 0] 32))
     have hcx:=(Chg.refl [] w0).alloc (.cells #[.slice none 0 0,.slice none 0 0] 32)
     obtain⟨b70,hb70⟩:∃ b,(World.heap w0).size=b:=⟨_,rfl⟩
     have FN70:=lh (show w12.heap.size≤b70 by rw[←hb70];exact hS0.size)
     rw[hb70] at FC70 ⊢
     clear hb70
     have hS1:=hS0.alloc (.cells #[.slice none 0 0,.slice none 0 0] 32)
     clear hS0 hcx
     have hS0:=hS1
     clear hS1
     refine hK.out _ _ (fun _=>hS0) ?_
     clear hK K0
     try simp only[Act.put,Z1,Z2,Z3,Z4,Z5,Z6]
     generalize (World.alloc w0 (.cells #[.slice none 0 0,.slice none 0 0] 32))=w70 at *
     refine alts_alt (by rfl) ?_ ?_
     ·skip
      refine alts_op rfl (by rfl) (by rfl) (fun K0 hK=>?_)
      go_simp
      refine (and_low _ _ q r _ (by omega) (by omega) (by omega) (by omega) (HQ.out.fresh (HWV.out.trans hS0 (by simp))) (HR.out.fresh (HWV.out.trans hS0 (by simp)))).mono ?_
      rintro e w71 ⟨ov,rfl,hand,hcx⟩
      have hand:=hand [] w71 (Chg.refl _ _) (by simp)
      rw[HMN.out] at hand
      have FA71:=lh hand
      clear hand
      have FC72:=lh (hcx.heap FC70.out (by simp))
      clear FC70
      have hS1:=hS0.trans hcx (by simp)
      clear hS0 hcx
      have hS0:=hS1
      clear hS1
      refine hK.out _ _ (fun _=>hS0) ?_
      clear hK K0
      try simp only[Act.put,Z1,Z2,Z3,Z4,Z5,Z6]
      refine alts_alt (by rfl) ?_ ?_
      ·skip
       refine alts_op rfl (by rfl) (by rfl) (fun K0 hK=>?_)
       go_simp
       refine (holdOf_low _ _ g p N turn same _ (by omega) (by omega) (by omega) (by omega) (by omega) (by have:=HB4.out;omega) (by omega) HB6.out (HCA.out.fresh (HWV.out.trans hS0 (by simp))) FA71.out).mono ?_
       rintro e w73 ⟨x5,x6,rfl,-,hro,hcx⟩
       have hro:=hro HOE.out
       rw[←HASS.out,HD1.out,HD2.out] at hro
       rw[HOE.out]
       have HRO:=lh hro
       have hrn:=hro [] w73 (Chg.refl _ _) (by simp)
       obtain⟨p7,k7,p8,k8,rfl⟩:=hrn.1.shape
       obtain⟨y1,y2,rfl,⟨p9,k9,rfl,-⟩,⟨p10,k10,rfl,-⟩⟩:=hrn.2
       clear hro hrn
       clear FA71
       have FLC73:=lh (lt_of_block FC72.out)
       have FC74:=lh (hcx.heap FC72.out (by simp))
       clear FC72
       have FR73:=lh (Chg.refl [] w73)
       have hS1:=hS0.trans hcx (by simp)
       clear hS0 hcx
       have hS0:=hS1
       clear hS1
       refine hK.out _ _ (fun _=>hS0) ?_
       clear hK K0
       try simp only[Act.put,Z1,Z2,Z3,Z4,Z5,Z6]
       repeat
        first
         | (refine alts_off rfl (by rfl) (by rfl) (fun _ _ _ h=>h) hS0 ?_;simp only[Act.put,Z1,Z2,Z3,Z4,Z5,Z6])
         | (refine alts_read (v:=?_) rfl (by rfl) (by rfl) (fun _ _ _ h=>h) hS0 (fun w' hS'=>?_) ?_;rotate_left;(focus (have rd0:=hS'.cell c0 (by simp);have rd1:=hS'.cell c1 (by simp);have rd2:=hS'.cell c2 (by simp);have rd3:=hS'.cell c3 (by simp);have rd4:=hS'.cell c4 (by simp);have rd5:=hS'.cell c5 (by simp);have rd6:=hS'.cell q0 (by simp);have rd7:=hS'.cell q1 (by simp);have rd8:=hS'.cell r0 (by simp);have rd9:=hS'.cell r1 (by simp);clear hS';go_simp;try with_reducible rfl));simp only[Act.put,Z1,Z2,Z3,Z4,Z5,Z6])
         | (refine alts_skip rfl (by rfl) (by rfl) hS0 ?_;simp only[Act.put,Z1,Z2,Z3,Z4,Z5,Z6])
       refine alts_op rfl (by rfl) (by rfl) (fun K0 hK=>?_)
       go_simp
       have FB75:=lh (heap_alloc_new w73 (.cells #[.slice none 0 0,.slice none 0 0] 29))
       have hcx:=(Chg.refl [] w73).alloc (.cells #[.slice none 0 0,.slice none 0 0] 29)
       obtain⟨b75,hb75⟩:∃ b,(World.heap w73).size=b:=⟨_,rfl⟩
       have FN75:=lh (show w12.heap.size≤b75 by rw[←hb75];exact hS0.size)
       have FX75:=lh (show w73.heap.size≤b75 by rw[←hb75];exact FR73.out.size)
       have FC76:=lh (hcx.heap FC74.out (by simp))
       clear FC74
       have FR77:=lh ((FR73.out).trans hcx (by simp))
       clear FR73
       rw[hb75] at FB75 ⊢
       clear hb75
       have hS1:=hS0.alloc (.cells #[.slice none 0 0,.slice none 0 0] 29)
       clear hS0 hcx
       have hS0:=hS1
       clear hS1
       refine hK.out _ _ (fun _=>hS0) ?_
       clear hK K0
       try simp only[Act.put,Z1,Z2,Z3,Z4,Z5,Z6]
       generalize (World.alloc w73 (.cells #[.slice none 0 0,.slice none 0 0] 29))=w75 at *
       have hbb:b75≠b70:=fun e=>by
        have h1:=FB75.out
        have h2:=FC76.out
        rw[e,h2] at h1
        simp at h1
       refine alts_op rfl (by rfl) (by rfl) (fun K0 hK=>?_)
       have z0:=(cell_of_row _ _ 0 _ _ _ FB75.out).trans (show _=some (Value.slice none 0 0) from rfl)
       have z1:=(cell_of_row _ _ 1 _ _ _ FB75.out).trans (show _=some (Value.slice none 0 0) from rfl)
       have z2:=free_at FB75.out 0
       have z3:=free_at FB75.out 1
       obtain⟨-,o0,o1,o2⟩:=out_store2 FB75.out (.slice p7 K.v.length k7) (.slice p8 K.e.length k8)
       go_simp
       have hS1:=hS0.trans o2 (fun j hj=>Or.inr (by have:=FN75.out;simp at hj;omega))
       have hfc:=o2.heap FC76.out (by simp;exact fun e=>hbb e.symm)
       refine hK.out _ _ (fun _=>hS1) ?_
       clear hK K0 z0 z1 z2 z3 hS0
       have hS0:=hS1
       clear hS1
       try simp only[Act.put,Z1,Z2,Z3,Z4,Z5,Z6]
       generalize ((World.setCell w75 ⟨b75,0,none⟩ (.slice p7 K.v.length k7)).setCell ⟨b75,1,none⟩ (.slice p8 K.e.length k8))=w78a at *
       refine alts_op rfl (by rfl) (by rfl) (fun K0 hK=>?_)
       have z0:=(cell_of_row _ _ 0 _ _ _ hfc).trans (show _=some (Value.slice none 0 0) from rfl)
       have z1:=(cell_of_row _ _ 1 _ _ _ hfc).trans (show _=some (Value.slice none 0 0) from rfl)
       have z2:=free_at hfc 0
       have z3:=free_at hfc 1
       obtain⟨-,o3,o4,o5⟩:=out_store2 hfc (.slice p9 D1.length k9) (.slice p10 D2.length k10)
       have o6:=o5.cell o0 (by simp;exact hbb)
       have o7:=o5.cell o1 (by simp;exact hbb)
       go_simp
       have hS1:=hS0.trans o5 (fun j hj=>Or.inr (by have:=FN70.out;simp at hj;omega))
       have hro:=HRO.out [b70] _ (((FR77.out.mono (by simp)).trans o2 (fun j hj=>Or.inr (by simp at hj;rw[hj];exact FX75.out))).trans o5 (fun j hj=>Or.inl (by simp at hj;simp[hj]))) (fun j hj=>by have l0:=FLC73.out;simp at hj;omega)
       refine hK.out _ _ (fun _=>hS1) ?_
       clear hK K0 z0 z1 z2 z3 hS0
       try simp only[Act.put,Z1,Z2,Z3,Z4,Z5,Z6]
       refine alts_op rfl (by rfl) (by rfl) (fun K0 hK=>?_)
       go_simp
       refine hK.out _ _ (fun _=>hS1) ?_
       clear hK K0
       try simp only[Act.put,Z1,Z2,Z3,Z4,Z5,Z6]
       refine alts_done ?_
       go_wp2
       go_meet
       case rel=>exact⟨_,_,_,_,_,_,_,_,_,_,rfl,rfl,rfl,o6,o7,o3,o4,hro.1,hro.2,hS1⟩
      refine alts_alt (by rfl) ?_ ?_
      ·skip
       refine alts_op rfl (by rfl) (by rfl) (fun K0 hK=>?_)
       go_simp
       have FB79:=lh (heap_alloc_new w71 (.cells #[.slice none 0 0,.slice none 0 0] 29))
       have hcx:=(Chg.refl [] w71).alloc (.cells #[.slice none 0 0,.slice none 0 0] 29)
       obtain⟨b79,hb79⟩:∃ b,(World.heap w71).size=b:=⟨_,rfl⟩
       have FN79:=lh (show w12.heap.size≤b79 by rw[←hb79];exact hS0.size)
       have FA80:=lh (FA71.out.fresh hcx)
       clear FA71
       have FC81:=lh (hcx.heap FC72.out (by simp))
       clear FC72
       rw[hb79] at FB79 ⊢
       clear hb79
       have hS1:=hS0.alloc (.cells #[.slice none 0 0,.slice none 0 0] 29)
       clear hS0 hcx
       have hS0:=hS1
       clear hS1
       refine hK.out _ _ (fun _=>hS0) ?_
       clear hK K0
       try simp only[Act.put,Z1,Z2,Z3,Z4,Z5,Z6]
       generalize (World.alloc w71 (.cells #[.slice none 0 0,.slice none 0 0] 29))=w79 at *
       refine alts_op rfl (by rfl) (by rfl) (fun K0 hK=>?_)
       go_simp
       refine (holdOf_low _ _ g p N turn same _ (by omega) (by omega) (by omega) (by omega) (by omega) (by have:=HB4.out;omega) (by omega) HB6.out (HCA.out.fresh (HWV.out.trans hS0 (by simp))) FA80.out).mono ?_
       rintro e w82 ⟨x5,x6,rfl,-,hro,hcx⟩
       have hro:=hro HOE.out
       rw[←HASS.out,HD1.out,HD2.out] at hro
       rw[HOE.out]
       have HRO:=lh hro
       have hrn:=hro [] w82 (Chg.refl _ _) (by simp)
       obtain⟨p7,k7,p8,k8,rfl⟩:=hrn.1.shape
       obtain⟨y1,y2,rfl,⟨p9,k9,rfl,-⟩,⟨p10,k10,rfl,-⟩⟩:=hrn.2
       clear hro hrn
       clear FA80
       have FLB82:=lh (lt_of_block FB79.out)
       have FLC82:=lh (lt_of_block FC81.out)
       have FB83:=lh (hcx.heap FB79.out (by simp))
       clear FB79
       have FC84:=lh (hcx.heap FC81.out (by simp))
       clear FC81
       have FR82:=lh (Chg.refl [] w82)
       have hS1:=hS0.trans hcx (by simp)
       clear hS0 hcx
       have hS0:=hS1
       clear hS1
       refine hK.out _ _ (fun _=>hS0) ?_
       clear hK K0
       try simp only[Act.put,Z1,Z2,Z3,Z4,Z5,Z6]
       repeat
        first
         | (refine alts_off rfl (by rfl) (by rfl) (fun _ _ _ h=>h) hS0 ?_;simp only[Act.put,Z1,Z2,Z3,Z4,Z5,Z6])
         | (refine alts_read (v:=?_) rfl (by rfl) (by rfl) (fun _ _ _ h=>h) hS0 (fun w' hS'=>?_) ?_;rotate_left;(focus (have rd0:=hS'.cell c0 (by simp);have rd1:=hS'.cell c1 (by simp);have rd2:=hS'.cell c2 (by simp);have rd3:=hS'.cell c3 (by simp);have rd4:=hS'.cell c4 (by simp);have rd5:=hS'.cell c5 (by simp);have rd6:=hS'.cell q0 (by simp);have rd7:=hS'.cell q1 (by simp);have rd8:=hS'.cell r0 (by simp);have rd9:=hS'.cell r1 (by simp);clear hS';go_simp;try with_reducible rfl));simp only[Act.put,Z1,Z2,Z3,Z4,Z5,Z6])
         | (refine alts_skip rfl (by rfl) (by rfl) hS0 ?_;simp only[Act.put,Z1,Z2,Z3,Z4,Z5,Z6])
       have hbb:b79≠b70:=fun e=>by
        have h1:=FB83.out
        have h2:=FC84.out
        rw[e,h2] at h1
        simp at h1
       refine alts_op rfl (by rfl) (by rfl) (fun K0 hK=>?_)
       have z0:=(cell_of_row _ _ 0 _ _ _ FB83.out).trans (show _=some (Value.slice none 0 0) from rfl)
       have z1:=(cell_of_row _ _ 1 _ _ _ FB83.out).trans (show _=some (Value.slice none 0 0) from rfl)
       have z2:=free_at FB83.out 0
       have z3:=free_at FB83.out 1
       obtain⟨-,o0,o1,o2⟩:=out_store2 FB83.out (.slice p7 K.v.length k7) (.slice p8 K.e.length k8)
       go_simp
       have hS1:=hS0.trans o2 (fun j hj=>Or.inr (by have:=FN79.out;simp at hj;omega))
       have hfc:=o2.heap FC84.out (by simp;exact fun e=>hbb e.symm)
       refine hK.out _ _ (fun _=>hS1) ?_
       clear hK K0 z0 z1 z2 z3 hS0
       have hS0:=hS1
       clear hS1
       try simp only[Act.put,Z1,Z2,Z3,Z4,Z5,Z6]
       generalize ((World.setCell w82 ⟨b79,0,none⟩ (.slice p7 K.v.length k7)).setCell ⟨b79,1,none⟩ (.slice p8 K.e.length k8))=w85a at *
       refine alts_op rfl (by rfl) (by rfl) (fun K0 hK=>?_)
       have z0:=(cell_of_row _ _ 0 _ _ _ hfc).trans (show _=some (Value.slice none 0 0) from rfl)
       have z1:=(cell_of_row _ _ 1 _ _ _ hfc).trans (show _=some (Value.slice none 0 0) from rfl)
       have z2:=free_at hfc 0
       have z3:=free_at hfc 1
       obtain⟨-,o3,o4,o5⟩:=out_store2 hfc (.slice p9 D1.length k9) (.slice p10 D2.length k10)
       have o6:=o5.cell o0 (by simp;exact hbb)
       have o7:=o5.cell o1 (by simp;exact hbb)
       go_simp
       have hS1:=hS0.trans o5 (fun j hj=>Or.inr (by have:=FN70.out;simp at hj;omega))
       have hro:=HRO.out [b79,b70] _ (((FR82.out.mono (by simp)).trans o2 (fun j hj=>Or.inl (by simp at hj;simp[hj]))).trans o5 (fun j hj=>Or.inl (by simp at hj;simp[hj]))) (fun j hj=>by have l0:=FLB82.out;have l1:=FLC82.out;simp at hj;omega)
       refine hK.out _ _ (fun _=>hS1) ?_
       clear hK K0 z0 z1 z2 z3 hS0
       try simp only[Act.put,Z1,Z2,Z3,Z4,Z5,Z6]
       refine alts_op rfl (by rfl) (by rfl) (fun K0 hK=>?_)
       go_simp
       refine hK.out _ _ (fun _=>hS1) ?_
       clear hK K0
       try simp only[Act.put,Z1,Z2,Z3,Z4,Z5,Z6]
       refine alts_done ?_
       go_wp2
       go_meet
       case rel=>exact⟨_,_,_,_,_,_,_,_,_,_,rfl,rfl,rfl,o6,o7,o3,o4,hro.1,hro.2,hS1⟩
      exact alts_nil
     refine alts_alt (by rfl) ?_ ?_
     ·skip
      refine alts_op rfl (by rfl) (by rfl) (fun K0 hK=>?_)
      go_simp
      have FB86:=lh (heap_alloc_new w70 (.cells #[.slice none 0 0,.slice none 0 0] 29))
      have hcx:=(Chg.refl [] w70).alloc (.cells #[.slice none 0 0,.slice none 0 0] 29)
      obtain⟨b86,hb86⟩:∃ b,(World.heap w70).size=b:=⟨_,rfl⟩
      have FN86:=lh (show w12.heap.size≤b86 by rw[←hb86];exact hS0.size)
      have FC87:=lh (hcx.heap FC70.out (by simp))
      clear FC70
      rw[hb86] at FB86 ⊢
      clear hb86
      have hS1:=hS0.alloc (.cells #[.slice none 0 0,.slice none 0 0] 29)
      clear hS0 hcx
      have hS0:=hS1
      clear hS1
      refine hK.out _ _ (fun _=>hS0) ?_
      clear hK K0
      try simp only[Act.put,Z1,Z2,Z3,Z4,Z5,Z6]
      generalize (World.alloc w70 (.cells #[.slice none 0 0,.slice none 0 0] 29))=w86 at *
      refine alts_op rfl (by rfl) (by rfl) (fun K0 hK=>?_)
      go_simp
      refine (and_low _ _ q r _ (by omega) (by omega) (by omega) (by omega) (HQ.out.fresh (HWV.out.trans hS0 (by simp))) (HR.out.fresh (HWV.out.trans hS0 (by simp)))).mono ?_
      rintro e w88 ⟨ov,rfl,hand,hcx⟩
      have hand:=hand [] w88 (Chg.refl _ _) (by simp)
      rw[HMN.out] at hand
      have FA88:=lh hand
      clear hand
      have FB89:=lh (hcx.heap FB86.out (by simp))
      clear FB86
      have FC90:=lh (hcx.heap FC87.out (by simp))
      clear FC87
      have hS1:=hS0.trans hcx (by simp)
      clear hS0 hcx
      have hS0:=hS1
      clear hS1
      refine hK.out _ _ (fun _=>hS0) ?_
      clear hK K0
      try simp only[Act.put,Z1,Z2,Z3,Z4,Z5,Z6]
      refine alts_op rfl (by rfl) (by rfl) (fun K0 hK=>?_)
      go_simp
      refine (holdOf_low _ _ g p N turn same _ (by omega) (by omega) (by omega) (by omega) (by omega) (by have:=HB4.out;omega) (by omega) HB6.out (HCA.out.fresh (HWV.out.trans hS0 (by simp))) FA88.out).mono ?_
      rintro e w91 ⟨x5,x6,rfl,-,hro,hcx⟩
      have hro:=hro HOE.out
      rw[←HASS.out,HD1.out,HD2.out] at hro
      rw[HOE.out]
      have HRO:=lh hro
      have hrn:=hro [] w91 (Chg.refl _ _) (by simp)
      obtain⟨p7,k7,p8,k8,rfl⟩:=hrn.1.shape
      obtain⟨y1,y2,rfl,⟨p9,k9,rfl,-⟩,⟨p10,k10,rfl,-⟩⟩:=hrn.2
      clear hro hrn
      clear FA88
      have FLB91:=lh (lt_of_block FB89.out)
      have FLC91:=lh (lt_of_block FC90.out)
      have FB92:=lh (hcx.heap FB89.out (by simp))
      clear FB89
      have FC93:=lh (hcx.heap FC90.out (by simp))
      clear FC90
      have FR91:=lh (Chg.refl [] w91)
      have hS1:=hS0.trans hcx (by simp)
      clear hS0 hcx
      have hS0:=hS1
      clear hS1
      refine hK.out _ _ (fun _=>hS0) ?_
      clear hK K0
      try simp only[Act.put,Z1,Z2,Z3,Z4,Z5,Z6]
      repeat
       first
        | (refine alts_off rfl (by rfl) (by rfl) (fun _ _ _ h=>h) hS0 ?_;simp only[Act.put,Z1,Z2,Z3,Z4,Z5,Z6])
        | (refine alts_read (v:=?_) rfl (by rfl) (by rfl) (fun _ _ _ h=>h) hS0 (fun w' hS'=>?_) ?_;rotate_left;(focus (have rd0:=hS'.cell c0 (by simp);have rd1:=hS'.cell c1 (by simp);have rd2:=hS'.cell c2 (by simp);have rd3:=hS'.cell c3 (by simp);have rd4:=hS'.cell c4 (by simp);have rd5:=hS'.cell c5 (by simp);have rd6:=hS'.cell q0 (by simp);have rd7:=hS'.cell q1 (by simp);have rd8:=hS'.cell r0 (by simp);have rd9:=hS'.cell r1 (by simp);clear hS';go_simp;try with_reducible rfl));simp only[Act.put,Z1,Z2,Z3,Z4,Z5,Z6])
        | (refine alts_skip rfl (by rfl) (by rfl) hS0 ?_;simp only[Act.put,Z1,Z2,Z3,Z4,Z5,Z6])
      have hbb:b86≠b70:=fun e=>by
       have h1:=FB92.out
       have h2:=FC93.out
       rw[e,h2] at h1
       simp at h1
      refine alts_op rfl (by rfl) (by rfl) (fun K0 hK=>?_)
      have z0:=(cell_of_row _ _ 0 _ _ _ FB92.out).trans (show _=some (Value.slice none 0 0) from rfl)
      have z1:=(cell_of_row _ _ 1 _ _ _ FB92.out).trans (show _=some (Value.slice none 0 0) from rfl)
      have z2:=free_at FB92.out 0
      have z3:=free_at FB92.out 1
      obtain⟨-,o0,o1,o2⟩:=out_store2 FB92.out (.slice p7 K.v.length k7) (.slice p8 K.e.length k8)
      go_simp
      have hS1:=hS0.trans o2 (fun j hj=>Or.inr (by have:=FN86.out;simp at hj;omega))
      have hfc:=o2.heap FC93.out (by simp;exact fun e=>hbb e.symm)
      refine hK.out _ _ (fun _=>hS1) ?_
      clear hK K0 z0 z1 z2 z3 hS0
      have hS0:=hS1
      clear hS1
      try simp only[Act.put,Z1,Z2,Z3,Z4,Z5,Z6]
      generalize ((World.setCell w91 ⟨b86,0,none⟩ (.slice p7 K.v.length k7)).setCell ⟨b86,1,none⟩ (.slice p8 K.e.length k8))=w94a at *
      refine alts_op rfl (by rfl) (by rfl) (fun K0 hK=>?_)
      have z0:=(cell_of_row _ _ 0 _ _ _ hfc).trans (show _=some (Value.slice none 0 0) from rfl)
      have z1:=(cell_of_row _ _ 1 _ _ _ hfc).trans (show _=some (Value.slice none 0 0) from rfl)
      have z2:=free_at hfc 0
      have z3:=free_at hfc 1
      obtain⟨-,o3,o4,o5⟩:=out_store2 hfc (.slice p9 D1.length k9) (.slice p10 D2.length k10)
      have o6:=o5.cell o0 (by simp;exact hbb)
      have o7:=o5.cell o1 (by simp;exact hbb)
      go_simp
      have hS1:=hS0.trans o5 (fun j hj=>Or.inr (by have:=FN70.out;simp at hj;omega))
      have hro:=HRO.out [b86,b70] _ (((FR91.out.mono (by simp)).trans o2 (fun j hj=>Or.inl (by simp at hj;simp[hj]))).trans o5 (fun j hj=>Or.inl (by simp at hj;simp[hj]))) (fun j hj=>by have l0:=FLB91.out;have l1:=FLC91.out;simp at hj;omega)
      refine hK.out _ _ (fun _=>hS1) ?_
      clear hK K0 z0 z1 z2 z3 hS0
      try simp only[Act.put,Z1,Z2,Z3,Z4,Z5,Z6]
      refine alts_op rfl (by rfl) (by rfl) (fun K0 hK=>?_)
      go_simp
      refine hK.out _ _ (fun _=>hS1) ?_
      clear hK K0
      try simp only[Act.put,Z1,Z2,Z3,Z4,Z5,Z6]
      refine alts_done ?_
      go_wp2
      go_meet
      case rel=>exact⟨_,_,_,_,_,_,_,_,_,_,rfl,rfl,rfl,o6,o7,o3,o4,hro.1,hro.2,hS1⟩
     exact alts_nil
    exact alts_nil
   case rest =>
    obtain⟨b1,b2,p7,k7,p8,k8,p9,k9,p10,k10,rfl,rfl,rfl,j0,j1,j2,j3,hpk,hpd,hcw⟩:=hcut
    have HPK:=lh hpk
    have HPD:=lh hpd
    have HCW:=lh hcw
    have HCW1:=lh (HVC.out.trans hcw (by simp))
    have J2:=lh j2
    have J3:=lh j3
    clear c0 c1 c2 c3 c4 c5 q0 q1 r0 r1 hsz hpk hpd hcw
    obtain⟨e0,e1,f0,f1,hsz4⟩:=HV.out _ HCW.out
    obtain⟨s6,s7,s8,s9,s10⟩:=HSK.out
    have HS7:=lh s7
    have HS10:=lh s10
    clear s7 s10
    go_wp2_with fail
    refine (gsame_any _ _ K K _ (HPT2.out.at.fresh HCW1.out) HPK.out.at).mono ?_
    rintro e w14 ⟨rfl,hc14⟩
    clear e0 e1 f0 f1 hsz4 j0 j1 j2 j3
    obtain⟨e0,e1,f0,f1,hsz4⟩:=HV.out _ (HCW.out.trans hc14 (by simp))
    have j2:=hc14.cell J2.out (by simp)
    have j3:=hc14.cell J3.out (by simp)
    have HC14:=lh hc14
    clear hc14
    try simp only[decide_true,Bool.and_self]
    go_wp2_with fail
    refine (psame_any _ _ D1 D2 D1 D2 _ (by omega) (by omega) (fun i=>Nat.lt_of_le_of_lt (HS7.out i) (by decide)) (fun i=>Nat.lt_of_le_of_lt (HS10.out i) (by decide)) (by omega) (by omega) (fun i=>Nat.lt_of_le_of_lt (HS7.out i) (by decide)) (fun i=>Nat.lt_of_le_of_lt (HS10.out i) (by decide)) (HPL2.out.fresh (HCW1.out.trans HC14.out (by simp))) (HPD.out.fresh HC14.out)).mono ?_
    rintro e w15 ⟨rfl,hc15⟩
    have HCF:=lh ((HWV.out.trans HCW.out (by simp)).trans (HC14.out.trans hc15 (by simp)) (by simp))
    clear e0 e1 f0 f1 hsz4 j2 j3 hc15
    try simp only[decide_true,and_self]
    go_wp2
    go_ret
    exact⟨rfl,HCF.out⟩
  have HE:=lh (Plain.ofErr_four HRZ.out hrz)
  obtain⟨rfl,rfl⟩:=hno (by rw[HE.out];decide)
  rw[HE.out]
  clear hno hyes hrz
  have HVC:=lh (show Chg [] w11 ((w11.alloc (.cells #[.slice none 0 0,.slice none 0 0] 29)).alloc (.cells #[.slice none 0 0,.slice none 0 0] 32)) from (show Chg [] w11 ((w11.alloc (.cells #[.slice none 0 0,.slice none 0 0] 29)).alloc (.cells #[.slice none 0 0,.slice none 0 0] 32)) from (((Chg.refl [] w11).alloc _).alloc _)))
  have qbx0:=heap_alloc_new w11 (.cells #[.slice none 0 0,.slice none 0 0] 29)
  replace qbx0:=(show Chg [] (w11.alloc (.cells #[.slice none 0 0,.slice none 0 0] 29)) ((w11.alloc (.cells #[.slice none 0 0,.slice none 0 0] 29)).alloc (.cells #[.slice none 0 0,.slice none 0 0] 32)) from ((Chg.refl [] (w11.alloc (.cells #[.slice none 0 0,.slice none 0 0] 29))).alloc _)).heap qbx0 (by simp)
  have qbx1:=heap_alloc_new (w11.alloc (.cells #[.slice none 0 0,.slice none 0 0] 29)) (.cells #[.slice none 0 0,.slice none 0 0] 32)
  rw[show (w11.alloc (.cells #[.slice none 0 0,.slice none 0 0] 29)).heap.size=w11.heap.size+1 by simp] at qbx1
  have HV:=lh (fun (w2:World) (hbx:Chg [] ((w11.alloc (.cells #[.slice none 0 0,.slice none 0 0] 29)).alloc (.cells #[.slice none 0 0,.slice none 0 0] 32)) w2)=>(⟨hbx.cell ((cell_of_row _ _ 0 _ _ _ qbx0).trans rfl) (by simp),hbx.cell ((cell_of_row _ _ 1 _ _ _ qbx0).trans rfl) (by simp),hbx.cell ((cell_of_row _ _ 0 _ _ _ qbx1).trans rfl) (by simp),hbx.cell ((cell_of_row _ _ 1 _ _ _ qbx1).trans rfl) (by simp),by have hz:=hbx.size;simpa using hz⟩:w2.cell? ⟨w11.heap.size,0,none⟩=some (.slice none 0 0)∧w2.cell? ⟨w11.heap.size,1,none⟩=some (.slice none 0 0)∧w2.cell? ⟨w11.heap.size+1,0,none⟩=some (.slice none 0 0)∧w2.cell? ⟨w11.heap.size+1,1,none⟩=some (.slice none 0 0)∧w11.heap.size+2≤w2.heap.size))
  clear qbx0 qbx1
  have HVZ:=lh (show ((w11.alloc (.cells #[.slice none 0 0,.slice none 0 0] 29)).alloc (.cells #[.slice none 0 0,.slice none 0 0] 32)).heap.size=w11.heap.size+2 by simp)
  have HCV:=lh (HC11.out.trans HVC.out (by simp))
  go_wp2
  generalize ((w11.alloc (.cells #[.slice none 0 0,.slice none 0 0] 29)).alloc (.cells #[.slice none 0 0,.slice none 0 0] 32))=w12 at *
  go_ret
  exact⟨rfl,HXC.out.trans HCV.out (by simp)⟩
 obtain⟨rfl,rfl⟩:=hno hz
 obtain⟨er,her⟩:∃ er,Plain.ofErr g p q turn same=er:=⟨_,rfl⟩
 rw[her] at hz ⊢
 have bz:(er != 0)=true:=by simp only[bne_iff_ne];exact hz
 clear hno hyes her hc6 hz
 have HYC:=lh (show Chg [] w6 ((w6.alloc (.cells #[.slice none 0 0,.slice none 0 0] 29)).alloc (.cells #[.slice none 0 0,.slice none 0 0] 32)) from (show Chg [] w6 ((w6.alloc (.cells #[.slice none 0 0,.slice none 0 0] 29)).alloc (.cells #[.slice none 0 0,.slice none 0 0] 32)) from (((Chg.refl [] w6).alloc _).alloc _)))
 have qbx0:=heap_alloc_new w6 (.cells #[.slice none 0 0,.slice none 0 0] 29)
 replace qbx0:=(show Chg [] (w6.alloc (.cells #[.slice none 0 0,.slice none 0 0] 29)) ((w6.alloc (.cells #[.slice none 0 0,.slice none 0 0] 29)).alloc (.cells #[.slice none 0 0,.slice none 0 0] 32)) from ((Chg.refl [] (w6.alloc (.cells #[.slice none 0 0,.slice none 0 0] 29))).alloc _)).heap qbx0 (by simp)
 have qbx1:=heap_alloc_new (w6.alloc (.cells #[.slice none 0 0,.slice none 0 0] 29)) (.cells #[.slice none 0 0,.slice none 0 0] 32)
 rw[show (w6.alloc (.cells #[.slice none 0 0,.slice none 0 0] 29)).heap.size=w6.heap.size+1 by simp] at qbx1
 have HY:=lh (fun (w2:World) (hbx:Chg [] ((w6.alloc (.cells #[.slice none 0 0,.slice none 0 0] 29)).alloc (.cells #[.slice none 0 0,.slice none 0 0] 32)) w2)=>(⟨hbx.cell ((cell_of_row _ _ 0 _ _ _ qbx0).trans rfl) (by simp),hbx.cell ((cell_of_row _ _ 1 _ _ _ qbx0).trans rfl) (by simp),hbx.cell ((cell_of_row _ _ 0 _ _ _ qbx1).trans rfl) (by simp),hbx.cell ((cell_of_row _ _ 1 _ _ _ qbx1).trans rfl) (by simp),by have hz:=hbx.size;simpa using hz⟩:w2.cell? ⟨w6.heap.size,0,none⟩=some (.slice none 0 0)∧w2.cell? ⟨w6.heap.size,1,none⟩=some (.slice none 0 0)∧w2.cell? ⟨w6.heap.size+1,0,none⟩=some (.slice none 0 0)∧w2.cell? ⟨w6.heap.size+1,1,none⟩=some (.slice none 0 0)∧w6.heap.size+2≤w2.heap.size))
 clear qbx0 qbx1
 have HYZ:=lh (show ((w6.alloc (.cells #[.slice none 0 0,.slice none 0 0] 29)).alloc (.cells #[.slice none 0 0,.slice none 0 0] 32)).heap.size=w6.heap.size+2 by simp)
 have HCY:=lh (HC6.out.trans HYC.out (by simp))
 obtain⟨m0,m1,n0,n1,hsz2⟩:=HY.out _ (Chg.refl _ _)
 go_wp2
 generalize ((w6.alloc (.cells #[.slice none 0 0,.slice none 0 0] 29)).alloc (.cells #[.slice none 0 0,.slice none 0 0] 32))=w7 at *
 go_ret
 exact⟨rfl,HXC.out.trans HCY.out (by simp)⟩
end Go.Proofs.YtkacjmoamgjfpaaGreat
