/- The law PlanMirror is proved: the mirror of a drawing is one; mirrored twice it is as it was, clean. No condition: every input. -/
import Derived.Test.YtckjpaimbmlboaaVMirW
import Derived.ShutString
import Derived.Below
namespace Go.Proofs.Ytckjpaimbmlboaa.planMirror
open Go.ChangeShapes Go.WideShapes Go.ChangeAt Go.RowKit
set_option linter.unusedVariables false
theorem own : ownKnob Try.prog.godebug = none := by kernel_rfl
theorem laidOut : laidOutB Try.prog = true := by kernel_rfl
set_option maxRecDepth 100000 in
theorem lifted (os : Os) (started : os.Started) (H : Type) (enc : TypeId × Value → H) :
  ReturnsInHanded {} Try.checked os 3 .any (Rows.planMirrorSpec.pre6 enc Try.prog Try.f3 Rows.planMirrorRow.domain false) (Rows.planMirrorSpec.post enc Try.prog Try.f3 false true false false) := by
 refine returnsInHanded_of_change (C := Try.checked) own started (by kernel_rfl) Try.func3
  (ChangeSpec.witness6 (enc := enc) (C := Try.checked) false ⟨#[], #[.agg #[.int .i64 0, .slice none 0 0], .agg #[.slice none 0 0, .slice none 0 0], .agg #[.slice none 0 0, .slice none 0 0]], []⟩ 8 (by kernel_rfl) (by kernel_rfl) (by kernel_rfl) (by kernel_rfl)) ?_
 intro W base args ds gs before hval0 hW hcnd _
 have hval : ∀ (j : Nat) t v, Try.f3.params[j]? = some t → args[j]? = some v → Value.okWide Try.prog W .any base t v := hval0
 have hW' := hW
 obtain ⟨p, q, hA0, hV, rfl, hfz, hnd⟩ := hW
 have hA : DataW.TrodAll enc Try.prog W 0 (fun _ => true) true Try.f3.params.toList args.toList ds p := hA0
 rw [Try.params3] at hA hval
 obtain ⟨v0, vs0, d0, ds0, p0, q0, hargs, rfl, rfl, h0, r0⟩ := trodAll_cons hA
 obtain ⟨v1, vs1, d1, ds1, p1, q1, rfl, rfl, rfl, h1, r1⟩ := trodAll_cons r0
 obtain ⟨v2, vs2, d2, ds2, p2, q2, rfl, rfl, rfl, h2, r2⟩ := trodAll_cons r1
 obtain ⟨rfl, rfl, rfl⟩ := trodAll_nil r2
 obtain rfl : args = #[v0, v1, v2] := by cases args; simp_all
 obtain ⟨rfl, rfl⟩ := trodVars_none hV
 have k0 := h0
 have k1 := h1
 have k2 := h2
 have lt0 : ∀ x ∈ p0, x.block < W.heap.size := by obtain ⟨m, hm⟩ := k0; exact DataW.trod_lt m _ _ _ hm
 have lt1 : ∀ x ∈ p1, x.block < W.heap.size := by obtain ⟨m, hm⟩ := k1; exact DataW.trod_lt m _ _ _ hm
 have lt2 : ∀ x ∈ p2, x.block < W.heap.size := by obtain ⟨m, hm⟩ := k2; exact DataW.trod_lt m _ _ _ hm
 obtain ⟨g0, e0⟩ := gr_open (hval 0 24 v0 rfl rfl) h0
 obtain ⟨g1, e1⟩ := pt_open (hval 1 27 v1 rfl rfl) h1
 obtain ⟨g2, s2, e2⟩ := pl_open (hval 2 30 v2 rfl rfl) h2
 clear hA0 hval0
 refine (planMirror_any _ _ _ g0 g1 g2 s2 W e0 e1 e2).mono fun e W' ⟨he, hc⟩ => ?_
 subst he
 have bel := hc.below
 exact ⟨_, rfl, _, _, _, [], _, [], hW', trodAll_mk1 (shut_bool Try.underlying4 _), (trodAll_cons_mk (Below.trod laidOut (by kernel_rfl) (of_decide_eq_true (by kernel_rfl)) k0 bel lt0) (trodAll_cons_mk (Below.trod laidOut (by kernel_rfl) (of_decide_eq_true (by kernel_rfl)) k1 bel lt1) (trodAll_cons_mk (Below.trod laidOut (by kernel_rfl) (of_decide_eq_true (by kernel_rfl)) k2 bel lt2) trodAll_mk0))), rfl, bel.frame _, fun h => by cases h⟩
theorem over : Rows.planMirrorRow.holds Try.pinned (OpenSpec.ofChange Rows.planMirrorSpec) :=
 OpenClaim.holds_of_wide 3 Try.f3 rfl rfl rfl rfl rfl rfl rfl ⟨rfl, rfl, rfl, rfl, rfl⟩ rfl rfl rfl rfl rfl (by kernel_rfl) Try.func3 (by kernel_rfl)
  (of_decide_eq_true (by kernel_rfl)) (by unfold Func.isWrapper; first | (rw [if_pos (by decide +kernel)]; kernel_rfl) | (rw [if_neg (by decide +kernel)]; exact ⟨rfl, rfl⟩))
  (fun os started H enc _ => lifted os started H enc)
theorem proved : Rows.PlanMirrorSaid := over
#print axioms proved
end Go.Proofs.Ytckjpaimbmlboaa.planMirror
namespace Go.Proofs.Ytckjpaimbmlboaa
open Go.RowKit Go.Maps
namespace Plain
theorem mir_rest_err {g : Gr} {p q : Pt} {turn same : List (List Int)} (h : restErr g p q turn same = 0) : restErr g p q (mirTurn turn) (mirSame g p turn same) = 0 := by
 obtain ⟨hz, hqe, hsv, hse⟩ := restErr_is h
 unfold restErr
 rw [if_neg (by simp [mir_right hz]), if_pos ⟨hqe, subB_iff.2 hsv, subB_iff.2 hse⟩]
end Plain
set_option maxRecDepth 100000 in
set_option maxHeartbeats 8000000 in
theorem restMirror_any (vg vp vx vq : Value) (g : Plain.Gr) (p q : Plain.Pt) (turn same : List (List Int)) (w : World) (hg : GrAt w vg g) (hp : PtAt w vp p) (hx : PlAt w vx turn same) (hq : PtAt w vq q) :
  Calls Try.prog 8 #[vg, vp, vx, vq] w fun e w' => e = .returned (.bool true) ∧ Chg [] w w' := by
 have HG := Lib.hid hg
 have HQ := Lib.hid hq
 obtain ⟨v3, v4, rfl, hqv1, hqe1⟩ := hq
 have HQV := Lib.hid hqv1
 have HQEI := Lib.hid hqe1
 obtain ⟨co, cc, rfl, -, -, -⟩ := hqv1
 obtain ⟨fo, fc, rfl, -, -, -⟩ := hqe1
 have HP := Lib.hid hp
 have HX := Lib.hid hx
 obtain ⟨eo, cap, rfl, hn, hm, hsm, hcell⟩ := hg
 obtain ⟨v1, v2, rfl, hv, he⟩ := hp
 obtain ⟨ao, ac, rfl, has, ham, hacell⟩ := hv
 obtain ⟨bo, bc, rfl, hbs, hbm, hbcell⟩ := he
 have HAC := Lib.hid hacell
 have HBC := Lib.hid hbcell
 obtain ⟨t1, t2, rfl, ht, hs⟩ := hx
 have HT := Lib.hid ht
 have HS := Lib.hid hs
 obtain ⟨tno, tc, rfl, htm, -⟩ := ht
 obtain ⟨so, sc, rfl, hsm2, hsc⟩ := hs
 obtain ⟨-, -, hc1⟩ := box_two w #[.int .i64 g.n, .slice eo g.e.length cap] #[.slice ao p.v.length ac, .slice bo p.e.length bc] 24 27
 obtain ⟨-, hc3⟩ := box_three w #[.int .i64 g.n, .slice eo g.e.length cap] #[.slice ao p.v.length ac, .slice bo p.e.length bc] #[.slice tno turn.length tc, .slice so same.length sc] 24 27 30
 have HC1 := Lib.hid (hc1.trans hc3 (by simp))
 have HBXS := Lib.hid (fun w2 h => three_boxes w (g := g) (p := p) (turn := turn) (same := same) (eo := eo) (ao := ao) (bo := bo) (tno := tno) (so := so) (cap := cap) (ac := ac) (bc := bc) (tc := tc) (sc := sc) (w2 := w2) h)
 clear hcell hacell hbcell hsm hbs has hn hc1 hc3 hsc
 clear HC1 HBXS
 have HC1 := Lib.hid (four_chg w #[.int .i64 g.n, .slice eo g.e.length cap] #[.slice ao p.v.length ac, .slice bo p.e.length bc] #[.slice tno turn.length tc, .slice so same.length sc] #[.slice co q.v.length cc, .slice fo q.e.length fc] 24 27 30 27)
 have HBXS := Lib.hid (fun w2 h => four_boxes w (g := g) (p := p) (q := q) (turn := turn) (same := same) (eo := eo) (ao := ao) (bo := bo) (tno := tno) (so := so) (co := co) (fo := fo) (cap := cap) (ac := ac) (bc := bc) (tc := tc) (sc := sc) (cc := cc) (fc := fc) (w2 := w2) h)
 go_enter Try.func8, Try.ntmps8
 go_wp2_with fail
 refine (awake09_any _).mono ?_
 rintro e w2 ⟨rfl, hc2⟩
 obtain ⟨⟨x0, x1, y0, y1, z0, z1⟩, q0, q1, hsz⟩ := HBXS.out w2 hc2
 have HC2 := Lib.hid (HC1.out.trans hc2 (by simp))
 have HC2B := Lib.hid hc2
 clear hc2
 go_wp2_with fail
 refine (small09_any _ _ _ _ g p q turn same _ (HG.out.fresh HC2.out) (HP.out.fresh HC2.out) (HX.out.fresh HC2.out) (HQ.out.fresh HC2.out)).mono ?_
 rintro e w3 ⟨rfl, hc3⟩
 have HC3 := Lib.hid (HC2.out.trans hc3 (by simp))
 have HC3B := Lib.hid (HC2B.out.trans hc3 (by simp))
 clear x0 x1 y0 y1 z0 z1 q0 q1 hsz hc3
 cases hb : (Plain.small8 g p turn same && Plain.small4 g q) with
 | false =>
  clear hb
  go_wp2_with fail
  refine (awake09_any _).mono ?_
  rintro e w4 ⟨rfl, hc4⟩
  have HC4 := Lib.hid (HC3.out.trans hc4 (by simp))
  clear hc4
  go_wp2
  go_ret
  exact ⟨rfl, HC4.out⟩
 | true =>
  rw [Bool.and_eq_true] at hb
  obtain ⟨b1, b2, b3, b4, b5, b6⟩ := Plain.small8_is hb.1
  obtain ⟨c1, c2, c3⟩ := Plain.small4_is hb.2
  have HB4 := Lib.hid b4
  have HB6 := Lib.hid (fun i => Nat.le_trans (b6 i) (by omega : 60 ≤ 10000))
  have HROWS := Lib.hid (Plain.small8_four hb.1).2
  have HRL := Lib.hid (fun v => Nat.lt_of_le_of_lt (Plain.small8_rows hb.1 v) (by decide : 200 < 4294967296))
  have HRL9 := Lib.hid (fun v => Nat.lt_of_le_of_lt (Plain.small8_rows hb.1 v) (by decide : 200 < 1000000000))
  obtain ⟨⟨x0, x1, y0, y1, z0, z1⟩, q0, q1, hsz⟩ := HBXS.out w3 HC3B.out
  clear hb b4 b6
  go_wp2_with fail
  refine (restTo_any _ _ _ _ g p q turn same _ (by omega) (by omega) (by omega) (by omega) (by omega) (by have := HB4.out; omega) (by omega) HB6.out (HG.out.fresh HC3.out) (HP.out.fresh HC3.out) (HX.out.fresh HC3.out) (HQ.out.fresh HC3.out)).mono ?_
  rintro e w4 ⟨ov, rfl, hno, hyes, hc4⟩
  have HC4 := Lib.hid (HC3.out.trans hc4 (by simp))
  have HC4B := Lib.hid (HC3B.out.trans hc4 (by simp))
  clear x0 x1 y0 y1 z0 z1 q0 q1 hsz hc4
  by_cases hz : Plain.restErr g p q turn same = 0
  ·have HPL := Lib.hid (hyes hz)
   obtain ⟨u1, u2, rfl, r1, r2⟩ := hyes hz
   obtain ⟨o1, k1, rfl, -⟩ := r1
   obtain ⟨o2, k2, rfl, -⟩ := r2
   obtain ⟨hpz, hqe, hqv, hqs⟩ := Plain.restErr_is hz
   have HPZ := Lib.hid hpz
   have HQE := Lib.hid hqe
   have HQVS := Lib.hid hqv
   have HQS := Lib.hid hqs
   have HZ := Lib.hid hz
   obtain ⟨t1, t2, t3, t4, t5⟩ := Plain.rest_sizes hz (by omega) (by omega) b3 HROWS.out
   have HT2 := Lib.hid t2
   have HT5 := Lib.hid t5
   have hrr := Plain.rest_right hpz hqe hqs hqv
   obtain ⟨hpe, hto⟩ := Plain.zero_ok hpz
   obtain ⟨s1, s2, s3, s4, s5⟩ := Plain.mir_sizes hpz b1 b2 b3 HROWS.out
   have HS2 := Lib.hid s2
   have HS5 := Lib.hid s5
   have HME := Lib.hid (Plain.mir_rest_err hz)
   have HRM := Lib.hid (Plain.rest_mir hpz ⟨hpe, hqe, hto, hqs, hqv⟩)
   obtain ⟨l1, l2, l3, l4, l5⟩ := Plain.mir_sizes hrr (by omega) (by omega) t1 t2
   have HL2 := Lib.hid l2
   have HL5 := Lib.hid l5
   have HRR := Lib.hid hrr
   have HPZ := Lib.hid hpz
   obtain ⟨A1, hA1⟩ : ∃ x, Plain.restTurn q.e turn = x := ⟨_, rfl⟩
   obtain ⟨A2, hA2⟩ : ∃ x, Plain.restSame g p q turn same = x := ⟨_, rfl⟩
   rw [hA1] at t1 t3 HT2 HRR HRM HPL l1 l3 l4 HL2 HL5
   rw [hA2] at t4 HT5 HRR HRM HPL l4 HL5
   rw [hA1, hA2, hz]
   obtain ⟨B1, hB1⟩ : ∃ x, Plain.mirTurn A1 = x := ⟨_, rfl⟩
   obtain ⟨B2, hB2⟩ : ∃ x, Plain.mirSame g q A1 A2 = x := ⟨_, rfl⟩
   have HB1 := Lib.hid hB1
   have HB2 := Lib.hid hB2
   rw [hB1] at l1 l3 HL2 HRM
   rw [hB2] at l4 HL5 HRM
   obtain ⟨M1, hM1⟩ : ∃ x, Plain.mirTurn turn = x := ⟨_, rfl⟩
   obtain ⟨M2, hM2⟩ : ∃ x, Plain.mirSame g p turn same = x := ⟨_, rfl⟩
   have HM1 := Lib.hid hM1
   have HM2 := Lib.hid hM2
   rw [hM1] at s1 s3 HS2 HME HRM
   rw [hM2] at s4 HS5 HME HRM
   have hset : Chg [] w4 (w4.alloc (.cells #[.slice o1 A1.length k1, .slice o2 A2.length k2] 30)) := (Chg.refl [] w4).alloc _
   have hheap := heap_alloc_new w4 (.cells #[.slice o1 A1.length k1, .slice o2 A2.length k2] 30)
   have HF0 := Lib.hid ((cell_of_row _ _ 0 _ _ _ hheap).trans (show _ = some (Value.slice o1 A1.length k1) from rfl))
   have HF1 := Lib.hid ((cell_of_row _ _ 1 _ _ _ hheap).trans (show _ = some (Value.slice o2 A2.length k2) from rfl))
   have m0 := HF0.out
   have m1 := HF1.out
   have HC5 := Lib.hid (HC4.out.trans hset (by simp))
   have HC5B := Lib.hid (HC4B.out.trans hset (by simp))
   have HP5 := Lib.hid (HPL.out.fresh hset)
   obtain ⟨⟨x0, x1, y0, y1, z0, z1⟩, q0, q1, hsz⟩ := HBXS.out _ HC5B.out
   clear hno hyes hz hset hheap hpz hqe hqv hqs t2 t5 hpe hto hA1 hA2 hB1 hB2 hM1 hM2 hrr s2 s5 l2 l5
   go_wp2_with fail
   generalize (w4.alloc (.cells #[.slice o1 A1.length k1, .slice o2 A2.length k2] 30)) = w5 at *
   generalize w4.heap.size = yb at *
   refine (mirror_any _ _ _ g q A1 A2 _ (by omega) (by omega) (by omega) (by omega) (by omega) (fun i => Nat.le_trans (HT5.out i) (by decide)) (HG.out.fresh HC5.out) (HQ.out.fresh HC5.out) HP5.out).mono ?_
   rintro e w6 ⟨ov2, rfl, -, hyes2, hc6⟩
   have hpl2 := hyes2 HRR.out
   rw [HB1.out, HB2.out] at hpl2
   rw [HRR.out]
   have HPA := Lib.hid hpl2
   obtain ⟨u3, u4, rfl, ⟨o3, k3, rfl, -⟩, ⟨o4, k4, rfl, -⟩⟩ := hpl2
   have hset : Chg [] w6 (w6.alloc (.cells #[.slice o3 B1.length k3, .slice o4 B2.length k4] 30)) := (Chg.refl [] w6).alloc _
   have hheap := heap_alloc_new w6 (.cells #[.slice o3 B1.length k3, .slice o4 B2.length k4] 30)
   have HA0 := Lib.hid ((cell_of_row _ _ 0 _ _ _ hheap).trans (show _ = some (Value.slice o3 B1.length k3) from rfl))
   have HA1 := Lib.hid ((cell_of_row _ _ 1 _ _ _ hheap).trans (show _ = some (Value.slice o4 B2.length k4) from rfl))
   have HC7 := Lib.hid ((HC5.out.trans hc6 (by simp)).trans hset (by simp))
   have HC7B := Lib.hid ((HC5B.out.trans hc6 (by simp)).trans hset (by simp))
   have HC67 := Lib.hid hset
   clear x0 x1 y0 y1 z0 z1 q0 q1 hsz m0 m1 hyes2 hc6 hset hheap
   obtain ⟨⟨x0, x1, y0, y1, z0, z1⟩, q0, q1, hsz⟩ := HBXS.out _ HC7B.out
   go_wp2_with fail
   generalize (w6.alloc (.cells #[.slice o3 B1.length k3, .slice o4 B2.length k4] 30)) = w7 at *
   generalize w6.heap.size = ab at *
   refine (mirror_any _ _ _ g p turn same _ (by omega) (by omega) (by omega) (by have := HB4.out; omega) (by omega) HB6.out (HG.out.fresh HC7.out) (HP.out.fresh HC7.out) (HX.out.fresh HC7.out)).mono ?_
   rintro e w8 ⟨ov3, rfl, -, hyes3, hc8⟩
   have hpl3 := hyes3 HPZ.out
   rw [HM1.out, HM2.out] at hpl3
   rw [HPZ.out]
   have HPM := Lib.hid hpl3
   obtain ⟨u5, u6, rfl, ⟨o5, k5, rfl, -⟩, ⟨o6, k6, rfl, -⟩⟩ := hpl3
   have hset : Chg [] w8 (w8.alloc (.cells #[.slice o5 M1.length k5, .slice o6 M2.length k6] 30)) := (Chg.refl [] w8).alloc _
   have hheap := heap_alloc_new w8 (.cells #[.slice o5 M1.length k5, .slice o6 M2.length k6] 30)
   have m0 := (cell_of_row _ _ 0 _ _ _ hheap).trans (show _ = some (Value.slice o5 M1.length k5) from rfl)
   have m1 := (cell_of_row _ _ 1 _ _ _ hheap).trans (show _ = some (Value.slice o6 M2.length k6) from rfl)
   have HC9 := Lib.hid ((HC7.out.trans hc8 (by simp)).trans hset (by simp))
   have HC9B := Lib.hid ((HC7B.out.trans hc8 (by simp)).trans hset (by simp))
   have HC79 := Lib.hid (hc8.trans hset (by simp))
   have HC89 := Lib.hid hset
   clear x0 x1 y0 y1 z0 z1 q0 q1 hsz hyes3 hc8 hset hheap
   obtain ⟨⟨x0, x1, y0, y1, z0, z1⟩, q0, q1, hsz⟩ := HBXS.out _ HC9B.out
   go_wp2_with fail
   generalize (w8.alloc (.cells #[.slice o5 M1.length k5, .slice o6 M2.length k6] 30)) = w9 at *
   generalize w8.heap.size = mb at *
   refine (restTo_any _ _ _ _ g p q M1 M2 _ (by omega) (by omega) (by omega) (by omega) (by omega) (by omega) (by omega) (fun i => Nat.le_trans (HS5.out i) (by decide)) (HG.out.fresh HC9.out) (HP.out.fresh HC9.out) (HPM.out.fresh HC89.out) (HQ.out.fresh HC9.out)).mono ?_
   rintro e w10 ⟨ov4, rfl, -, hyes4, hc10⟩
   have hpl4 := hyes4 HME.out
   rw [HRM.out.1, HRM.out.2] at hpl4
   rw [HME.out]
   have HPB := Lib.hid hpl4
   obtain ⟨u7, u8, rfl, ⟨o7, k7, rfl, -⟩, ⟨o8, k8, rfl, -⟩⟩ := hpl4
   have hset : Chg [] w10 (w10.alloc (.cells #[.slice o7 B1.length k7, .slice o8 B2.length k8] 30)) := (Chg.refl [] w10).alloc _
   have hheap := heap_alloc_new w10 (.cells #[.slice o7 B1.length k7, .slice o8 B2.length k8] 30)
   have n0 := (cell_of_row _ _ 0 _ _ _ hheap).trans (show _ = some (Value.slice o7 B1.length k7) from rfl)
   have n1 := (cell_of_row _ _ 1 _ _ _ hheap).trans (show _ = some (Value.slice o8 B2.length k8) from rfl)
   have HC711 := Lib.hid ((HC79.out.trans hc10 (by simp)).trans hset (by simp))
   have a0 := HC711.out.cell HA0.out (by simp)
   have a1 := HC711.out.cell HA1.out (by simp)
   have HC11 := Lib.hid ((HC9.out.trans hc10 (by simp)).trans hset (by simp))
   have HC1011 := Lib.hid hset
   have HC611 := Lib.hid (HC67.out.trans HC711.out (by simp))
   clear x0 x1 y0 y1 z0 z1 q0 q1 hsz m0 m1 hyes4 hc10 hset hheap
   go_wp2_with fail
   generalize (w10.alloc (.cells #[.slice o7 B1.length k7, .slice o8 B2.length k8] 30)) = w11 at *
   refine (psame_any _ _ B1 B2 B1 B2 _ (by omega) (by omega) (fun i => Nat.lt_of_le_of_lt (HL2.out i) (by decide)) (fun i => Nat.lt_of_le_of_lt (HL5.out i) (by decide)) (by omega) (by omega) (fun i => Nat.lt_of_le_of_lt (HL2.out i) (by decide)) (fun i => Nat.lt_of_le_of_lt (HL5.out i) (by decide)) (HPA.out.fresh HC611.out) (HPB.out.fresh HC1011.out)).mono ?_
   rintro e w12 ⟨rfl, hc12⟩
   rw [decide_eq_true (show B1.map Plain.first = B1.map Plain.first ∧ B2 = B2 from ⟨rfl, rfl⟩)]
   have HCF := Lib.hid (HC11.out.trans hc12 (by simp))
   clear n0 n1 a0 a1 hc12
   go_wp2
   go_ret
   exact ⟨rfl, HCF.out⟩
  have hov := hno hz
  subst hov
  obtain ⟨er, her⟩ : ∃ er, Plain.restErr g p q turn same = er := ⟨_, rfl⟩
  have hb : (er != 0) = true := by rw [← her]; simpa using hz
  have HCS := Lib.hid ((Chg.refl [] w4).alloc (.cells #[.slice none 0 0, .slice none 0 0] 30))
  rw [her]
  clear hno hyes hz her
  go_wp2
  go_ret
  exact ⟨rfl, HC4.out.trans HCS.out (by simp)⟩
end Go.Proofs.Ytckjpaimbmlboaa
namespace Go.Proofs.Ytckjpaimbmlboaa.restMirror
open Go.ChangeShapes Go.WideShapes Go.ChangeAt Go.RowKit
set_option linter.unusedVariables false
theorem own : ownKnob Try.prog.godebug = none := by kernel_rfl
theorem laidOut : laidOutB Try.prog = true := by kernel_rfl
set_option maxRecDepth 100000 in
theorem lifted (os : Os) (started : os.Started) (H : Type) (enc : TypeId × Value → H) :
  ReturnsInHanded {} Try.checked os 8 .any (Rows.restMirrorSpec.pre6 enc Try.prog Try.f8 Rows.restMirrorRow.domain false) (Rows.restMirrorSpec.post enc Try.prog Try.f8 false true false false) := by
 refine returnsInHanded_of_change (C := Try.checked) own started (by kernel_rfl) Try.func8
  (ChangeSpec.witness6 (enc := enc) (C := Try.checked) false ⟨#[], #[.agg #[.int .i64 0, .slice none 0 0], .agg #[.slice none 0 0, .slice none 0 0], .agg #[.slice none 0 0, .slice none 0 0], .agg #[.slice none 0 0, .slice none 0 0]], []⟩ 8 (by kernel_rfl) (by kernel_rfl) (by kernel_rfl) (by kernel_rfl)) ?_
 intro W base args ds gs before hval0 hW hcnd _
 have hval : ∀ (j : Nat) t v, Try.f8.params[j]? = some t → args[j]? = some v → Value.okWide Try.prog W .any base t v := hval0
 have hW' := hW
 obtain ⟨p, q, hA0, hV, rfl, hfz, hnd⟩ := hW
 have hA : DataW.TrodAll enc Try.prog W 0 (fun _ => true) true Try.f8.params.toList args.toList ds p := hA0
 rw [Try.params8] at hA hval
 obtain ⟨v0, vs0, d0, ds0, p0, q0, hargs, rfl, rfl, h0, r0⟩ := trodAll_cons hA
 obtain ⟨v1, vs1, d1, ds1, p1, q1, rfl, rfl, rfl, h1, r1⟩ := trodAll_cons r0
 obtain ⟨v2, vs2, d2, ds2, p2, q2, rfl, rfl, rfl, h2, r2⟩ := trodAll_cons r1
 obtain ⟨v3, vs3, d3, ds3, p3, q3, rfl, rfl, rfl, h3, r3⟩ := trodAll_cons r2
 obtain ⟨rfl, rfl, rfl⟩ := trodAll_nil r3
 obtain rfl : args = #[v0, v1, v2, v3] := by cases args; simp_all
 obtain ⟨rfl, rfl⟩ := trodVars_none hV
 have k0 := h0
 have k1 := h1
 have k2 := h2
 have k3 := h3
 have lt0 : ∀ x ∈ p0, x.block < W.heap.size := by obtain ⟨m, hm⟩ := k0; exact DataW.trod_lt m _ _ _ hm
 have lt1 : ∀ x ∈ p1, x.block < W.heap.size := by obtain ⟨m, hm⟩ := k1; exact DataW.trod_lt m _ _ _ hm
 have lt2 : ∀ x ∈ p2, x.block < W.heap.size := by obtain ⟨m, hm⟩ := k2; exact DataW.trod_lt m _ _ _ hm
 have lt3 : ∀ x ∈ p3, x.block < W.heap.size := by obtain ⟨m, hm⟩ := k3; exact DataW.trod_lt m _ _ _ hm
 obtain ⟨g0, e0⟩ := gr_open (hval 0 24 v0 rfl rfl) h0
 obtain ⟨g1, e1⟩ := pt_open (hval 1 27 v1 rfl rfl) h1
 obtain ⟨g2, s2, e2⟩ := pl_open (hval 2 30 v2 rfl rfl) h2
 obtain ⟨g3, e3⟩ := pt_open (hval 3 27 v3 rfl rfl) h3
 clear hA0 hval0
 refine (restMirror_any _ _ _ _ g0 g1 g3 g2 s2 W e0 e1 e2 e3).mono fun e W' ⟨he, hc⟩ => ?_
 subst he
 have bel := hc.below
 exact ⟨_, rfl, _, _, _, [], _, [], hW', trodAll_mk1 (shut_bool Try.underlying4 _), (trodAll_cons_mk (Below.trod laidOut (by kernel_rfl) (of_decide_eq_true (by kernel_rfl)) k0 bel lt0) (trodAll_cons_mk (Below.trod laidOut (by kernel_rfl) (of_decide_eq_true (by kernel_rfl)) k1 bel lt1) (trodAll_cons_mk (Below.trod laidOut (by kernel_rfl) (of_decide_eq_true (by kernel_rfl)) k2 bel lt2) (trodAll_cons_mk (Below.trod laidOut (by kernel_rfl) (of_decide_eq_true (by kernel_rfl)) k3 bel lt3) trodAll_mk0)))), rfl, bel.frame _, fun h => by cases h⟩
theorem over : Rows.restMirrorRow.holds Try.pinned (OpenSpec.ofChange Rows.restMirrorSpec) :=
 OpenClaim.holds_of_wide 8 Try.f8 rfl rfl rfl rfl rfl rfl rfl ⟨rfl, rfl, rfl, rfl, rfl⟩ rfl rfl rfl rfl rfl (by kernel_rfl) Try.func8 (by kernel_rfl)
  (of_decide_eq_true (by kernel_rfl)) (by unfold Func.isWrapper; first | (rw [if_pos (by decide +kernel)]; kernel_rfl) | (rw [if_neg (by decide +kernel)]; exact ⟨rfl, rfl⟩))
  (fun os started H enc _ => lifted os started H enc)
theorem proved : Rows.RestMirrorSaid := over
#print axioms proved
end Go.Proofs.Ytckjpaimbmlboaa.restMirror
