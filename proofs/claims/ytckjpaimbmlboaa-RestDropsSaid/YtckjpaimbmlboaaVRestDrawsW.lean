/- the law RestDraws: the walk. Conditions: a graph, two parts, a plan that lie in memory and read so. -/
import Derived.Test.YtckjpaimbmlboaaVRef09
import Derived.Test.YtckjpaimbmlboaaVAwk09
import Derived.Test.YtckjpaimbmlboaaVPSame
import Derived.Test.YtckjpaimbmlboaaVPlanRightsW
import Derived.Test.YtckjpaimbmlboaaVAwake8
import Derived.ShutString
import Derived.Below
import Derived.Test.YtckjpaimbmlboaaVGrps
namespace Go.Proofs.Ytckjpaimbmlboaa
open Go.RowKit Go.Maps

namespace Plain
theorem rest_sizes {g : Gr} {p q : Pt} {turn same : List (List Int)} (h : restErr g p q turn same = 0) (hqv : q.v.length ≤ 60) (hqe : q.e.length ≤ 60) (hT : turn.length ≤ 100) (hr : ∀ i, (turn.getD i []).length ≤ 200) :
  (restTurn q.e turn).length ≤ 100 ∧ (∀ i, ((restTurn q.e turn).getD i []).length ≤ 200) ∧ sumLen (restTurn q.e turn) (restTurn q.e turn).length ≤ 20000 ∧ (restSame g p q turn same).length ≤ 1000 ∧ ∀ i, ((restSame g p q turn same).getD i []).length ≤ 1000 := by
 have hl : (restTurn q.e turn).length ≤ 100 := by unfold restTurn; rw [List.length_map]; exact hT
 have hrr : ∀ i, ((restTurn q.e turn).getD i []).length ≤ 200 := fun i => Nat.le_trans (restTurn_row q.e turn i) (hr i)
 obtain ⟨hpz, hqer, hqvs, hqes⟩ := restErr_is h
 have hwl := (walks_ok hqer (restTurn_ok (turnErr_zero (flatErr_zero (planErr_zero hpz).1).1).2 hqes)).len
 have hs := sumLen_le hrr (restTurn q.e turn).length
 have hm : (restTurn q.e turn).length * 200 ≤ 100 * 200 := Nat.mul_le_mul_right _ hl
 refine ⟨hl, hrr, by omega, Nat.le_trans grps_lens.1 (by omega), fun i => Nat.le_trans (grps_lens.2 i) (by omega)⟩
end Plain

set_option maxRecDepth 100000 in
set_option maxHeartbeats 8000000 in
theorem restDraws_any (vg vp vx vq : Value) (g : Plain.Gr) (p q : Plain.Pt) (turn same : List (List Int)) (w : World) (hg : GrAt w vg g) (hp : PtAt w vp p) (hx : PlAt w vx turn same) (hq : PtAt w vq q) :
  Calls Try.prog 7 #[vg, vp, vx, vq] w fun e w' => e = .returned (.bool true) ∧ Chg [] w w' := by
 have HG := Lib.hid hg
 have HQ := Lib.hid hq
 obtain ⟨v3, v4, rfl, hqv1, hqe1⟩ := hq
 have HQV := Lib.hid hqv1
 have HQEI := Lib.hid hqe1
 obtain ⟨co, cc, rfl, -, -, -⟩ := hqv1
 obtain ⟨fo, fc, rfl, -, -, -⟩ := hqe1
 have HP := Lib.hid hp
 have HX := Lib.hid hx
 obtain ⟨eo, cap, rfl, hn, hm, hsm, hcell⟩ := hg
 obtain ⟨v1, v2, rfl, hv, he⟩ := hp
 obtain ⟨ao, ac, rfl, has, ham, hacell⟩ := hv
 obtain ⟨bo, bc, rfl, hbs, hbm, hbcell⟩ := he
 have HAC := Lib.hid hacell
 have HBC := Lib.hid hbcell
 obtain ⟨t1, t2, rfl, ht, hs⟩ := hx
 have HT := Lib.hid ht
 have HS := Lib.hid hs
 obtain ⟨tno, tc, rfl, htm, -⟩ := ht
 obtain ⟨so, sc, rfl, hsm2, hsc⟩ := hs
 obtain ⟨-, -, hc1⟩ := box_two w #[.int .i64 g.n, .slice eo g.e.length cap] #[.slice ao p.v.length ac, .slice bo p.e.length bc] 24 27
 obtain ⟨-, hc3⟩ := box_three w #[.int .i64 g.n, .slice eo g.e.length cap] #[.slice ao p.v.length ac, .slice bo p.e.length bc] #[.slice tno turn.length tc, .slice so same.length sc] 24 27 30
 have HC1 := Lib.hid (hc1.trans hc3 (by simp))
 have HBXS := Lib.hid (fun w2 h => three_boxes w (g := g) (p := p) (turn := turn) (same := same) (eo := eo) (ao := ao) (bo := bo) (tno := tno) (so := so) (cap := cap) (ac := ac) (bc := bc) (tc := tc) (sc := sc) (w2 := w2) h)
 clear hcell hacell hbcell hsm hbs has hn hc1 hc3 hsc
 clear HC1 HBXS
 have HC1 := Lib.hid (four_chg w #[.int .i64 g.n, .slice eo g.e.length cap] #[.slice ao p.v.length ac, .slice bo p.e.length bc] #[.slice tno turn.length tc, .slice so same.length sc] #[.slice co q.v.length cc, .slice fo q.e.length fc] 24 27 30 27)
 have HBXS := Lib.hid (fun w2 h => four_boxes w (g := g) (p := p) (q := q) (turn := turn) (same := same) (eo := eo) (ao := ao) (bo := bo) (tno := tno) (so := so) (co := co) (fo := fo) (cap := cap) (ac := ac) (bc := bc) (tc := tc) (sc := sc) (cc := cc) (fc := fc) (w2 := w2) h)
 go_enter Try.func7, Try.ntmps7
 go_wp2_with fail
 refine (awake09_any _).mono ?_
 rintro e w2 ⟨rfl, hc2⟩
 obtain ⟨⟨x0, x1, y0, y1, z0, z1⟩, q0, q1, hsz⟩ := HBXS.out w2 hc2
 have HC2 := Lib.hid (HC1.out.trans hc2 (by simp))
 have HC2B := Lib.hid hc2
 clear hc2
 go_wp2_with fail
 refine (small09_any _ _ _ _ g p q turn same _ (HG.out.fresh HC2.out) (HP.out.fresh HC2.out) (HX.out.fresh HC2.out) (HQ.out.fresh HC2.out)).mono ?_
 rintro e w3 ⟨rfl, hc3⟩
 have HC3 := Lib.hid (HC2.out.trans hc3 (by simp))
 have HC3B := Lib.hid (HC2B.out.trans hc3 (by simp))
 clear x0 x1 y0 y1 z0 z1 q0 q1 hsz hc3
 cases hb : (Plain.small8 g p turn same && Plain.small4 g q) with
 | false =>
  clear hb
  go_wp2_with fail
  refine (awake09_any _).mono ?_
  rintro e w4 ⟨rfl, hc4⟩
  have HC4 := Lib.hid (HC3.out.trans hc4 (by simp))
  clear hc4
  go_wp2
  go_ret
  exact ⟨rfl, HC4.out⟩
 | true =>
  rw [Bool.and_eq_true] at hb
  obtain ⟨b1, b2, b3, b4, b5, b6⟩ := Plain.small8_is hb.1
  obtain ⟨c1, c2, c3⟩ := Plain.small4_is hb.2
  have HB4 := Lib.hid b4
  have HB6 := Lib.hid (fun i => Nat.le_trans (b6 i) (by omega : 60 ≤ 10000))
  have HROWS := Lib.hid (Plain.small8_four hb.1).2
  have HRL := Lib.hid (fun v => Nat.lt_of_le_of_lt (Plain.small8_rows hb.1 v) (by decide : 200 < 4294967296))
  have HRL9 := Lib.hid (fun v => Nat.lt_of_le_of_lt (Plain.small8_rows hb.1 v) (by decide : 200 < 1000000000))
  obtain ⟨⟨x0, x1, y0, y1, z0, z1⟩, q0, q1, hsz⟩ := HBXS.out w3 HC3B.out
  clear hb b4 b6
  go_wp2_with fail
  refine (restTo_any _ _ _ _ g p q turn same _ (by omega) (by omega) (by omega) (by omega) (by omega) (by have := HB4.out; omega) (by omega) HB6.out (HG.out.fresh HC3.out) (HP.out.fresh HC3.out) (HX.out.fresh HC3.out) (HQ.out.fresh HC3.out)).mono ?_
  rintro e w4 ⟨ov, rfl, hno, hyes, hc4⟩
  have HC4 := Lib.hid (HC3.out.trans hc4 (by simp))
  have HC4B := Lib.hid (HC3B.out.trans hc4 (by simp))
  clear x0 x1 y0 y1 z0 z1 q0 q1 hsz hc4
  by_cases hz : Plain.restErr g p q turn same = 0
  ·have HPL := Lib.hid (hyes hz)
   obtain ⟨u1, u2, rfl, r1, r2⟩ := hyes hz
   obtain ⟨o1, k1, rfl, -⟩ := r1
   obtain ⟨o2, k2, rfl, -⟩ := r2
   obtain ⟨hpz, hqe, hqv, hqs⟩ := Plain.restErr_is hz
   have HPZ := Lib.hid hpz
   have HQE := Lib.hid hqe
   have HQVS := Lib.hid hqv
   have HQS := Lib.hid hqs
   have HZ := Lib.hid hz
   obtain ⟨t1, t2, t3, t4, t5⟩ := Plain.rest_sizes hz (by omega) (by omega) b3 HROWS.out
   have HT2 := Lib.hid t2
   have HT5 := Lib.hid t5
   have HRR := Lib.hid (Plain.rest_right hpz hqe hqs hqv)
   have HEX := Lib.hid (Plain.ext_rest hz)
   have HZP := Lib.hid (Plain.rest_err_all hpz)
   obtain ⟨hpe, hto⟩ := Plain.zero_ok hpz
   have HTA := Lib.hid (Plain.rest_turn_all hpe hto)
   have HSA := Lib.hid (Plain.rest_same_all hpz)
   obtain ⟨A1, hA1⟩ : ∃ x, Plain.restTurn q.e turn = x := ⟨_, rfl⟩
   obtain ⟨A2, hA2⟩ : ∃ x, Plain.restSame g p q turn same = x := ⟨_, rfl⟩
   rw [hA1] at t1 t3 HT2 HRR HEX HPL
   rw [hA2] at t4 HT5 HRR HEX HPL
   rw [hA1, hA2, hz]
   have hset : Chg [] w4 (w4.alloc (.cells #[.slice o1 A1.length k1, .slice o2 A2.length k2] 30)) := (Chg.refl [] w4).alloc _
   have hheap := heap_alloc_new w4 (.cells #[.slice o1 A1.length k1, .slice o2 A2.length k2] 30)
   have HF0 := Lib.hid ((cell_of_row _ _ 0 _ _ _ hheap).trans (show _ = some (Value.slice o1 A1.length k1) from rfl))
   have HF1 := Lib.hid ((cell_of_row _ _ 1 _ _ _ hheap).trans (show _ = some (Value.slice o2 A2.length k2) from rfl))
   have HCS := Lib.hid hset
   obtain ⟨⟨x0, x1, y0, y1, z0, z1⟩, q0, q1, hsz⟩ := HBXS.out _ (HC4B.out.trans hset (by simp))
   clear hno hyes hz hset hheap hpz hqe hqv hqs t2 t5 hpe hto hA1 hA2
   go_wp2_with fail
   generalize (w4.alloc (.cells #[.slice o1 A1.length k1, .slice o2 A2.length k2] 30)) = w5 at *
   generalize w4.heap.size = xb at *
   have HC5 := Lib.hid (HC4.out.trans HCS.out (by simp))
   have HC5B := Lib.hid (HC4B.out.trans HCS.out (by simp))
   refine (restTo_any _ _ _ _ g p p turn same _ (by omega) (by omega) (by omega) (by omega) (by omega) (by have := HB4.out; omega) (by omega) HB6.out (HG.out.fresh HC5.out) (HP.out.fresh HC5.out) (HX.out.fresh HC5.out) (HP.out.fresh HC5.out)).mono ?_
   rintro e w6 ⟨ov2, rfl, -, hyes2, hc6⟩
   have hpl2 := hyes2 HZP.out
   rw [HTA.out, HSA.out] at hpl2
   rw [HZP.out]
   have HPZ2 := Lib.hid hpl2
   obtain ⟨u3, u4, rfl, ⟨o3, k3, rfl, -⟩, ⟨o4, k4, rfl, -⟩⟩ := hpl2
   have HC6 := Lib.hid (HC5.out.trans hc6 (by simp))
   have HC46 := Lib.hid (HCS.out.trans hc6 (by simp))
   have HC6B := Lib.hid (HC5B.out.trans hc6 (by simp))
   have M0 := Lib.hid (hc6.cell HF0.out (by simp))
   have M1 := Lib.hid (hc6.cell HF1.out (by simp))
   have hmt : (turn.map Plain.first).length = turn.length := List.length_map _
   rw [hmt] at HPZ2 ⊢
   have hset : Chg [] w6 (w6.alloc (.cells #[.slice o3 turn.length k3, .slice o4 same.length k4] 30)) := (Chg.refl [] w6).alloc _
   have hheap := heap_alloc_new w6 (.cells #[.slice o3 turn.length k3, .slice o4 same.length k4] 30)
   have HE0 := Lib.hid ((cell_of_row _ _ 0 _ _ _ hheap).trans (show _ = some (Value.slice o3 turn.length k3) from rfl))
   have HE1 := Lib.hid ((cell_of_row _ _ 1 _ _ _ hheap).trans (show _ = some (Value.slice o4 same.length k4) from rfl))
   have HCT := Lib.hid hset
   clear x0 x1 y0 y1 z0 z1 q0 q1 hsz hyes2 hc6 hmt hheap
   obtain ⟨⟨x0, x1, y0, y1, z0, z1⟩, q0, q1, hsz⟩ := HBXS.out _ (HC6B.out.trans hset (by simp))
   have m0 := hset.cell M0.out (by simp)
   have m1 := hset.cell M1.out (by simp)
   clear hset
   go_wp2_with fail
   generalize (w6.alloc (.cells #[.slice o3 turn.length k3, .slice o4 same.length k4] 30)) = w7 at *
   generalize w6.heap.size = zb at *
   have HC7 := Lib.hid (HC6.out.trans HCT.out (by simp))
   have HC7B := Lib.hid (HC6B.out.trans HCT.out (by simp))
   have HC47 := Lib.hid (HC46.out.trans HCT.out (by simp))
   refine (right_any _ _ _ g q A1 A2 _ (by omega) (by omega) (by omega) (by omega) (by omega) (fun i => Nat.le_trans (HT5.out i) (by decide)) (HG.out.fresh HC7.out) (HQ.out.fresh HC7.out) (HPL.out.fresh HC47.out)).mono ?_
   rintro e w8 ⟨rfl, hc8⟩
   rw [HRR.out]
   have HC8 := Lib.hid (HC7.out.trans hc8 (by simp))
   have HC8B := Lib.hid (HC7B.out.trans hc8 (by simp))
   have HC48 := Lib.hid (HC47.out.trans hc8 (by simp))
   have HC68 := Lib.hid (HCT.out.trans hc8 (by simp))
   have n0 := hc8.cell HE0.out (by simp)
   have n1 := hc8.cell HE1.out (by simp)
   have M02 := Lib.hid (hc8.cell m0 (by simp))
   have M12 := Lib.hid (hc8.cell m1 (by simp))
   clear x0 x1 y0 y1 z0 z1 q0 q1 hsz m0 m1 hc8
   obtain ⟨⟨x0, x1, y0, y1, z0, z1⟩, q0, q1, hsz⟩ := HBXS.out _ HC8B.out
   go_wp2_with fail
   refine (psame_any _ _ turn same (turn.map Plain.first) same _ (by omega) (by omega) (fun i => Nat.lt_of_le_of_lt (HROWS.out i) (by decide)) (fun i => Nat.lt_of_le_of_lt (HB6.out i) (by decide)) (by rw [List.length_map]; omega) (by omega) (fun i => by rw [Plain.first_rows]; exact Nat.lt_of_le_of_lt (HROWS.out i) (by decide)) (fun i => Nat.lt_of_le_of_lt (HB6.out i) (by decide)) (HX.out.fresh HC8.out) (HPZ2.out.fresh HC68.out)).mono ?_
   rintro e w9 ⟨rfl, hc9⟩
   rw [Plain.firsts_first, decide_eq_true (show turn.map Plain.first = turn.map Plain.first ∧ same = same from ⟨rfl, rfl⟩)]
   have HC9 := Lib.hid (HC8.out.trans hc9 (by simp))
   have HC9B := Lib.hid (HC8B.out.trans hc9 (by simp))
   have HC49 := Lib.hid (HC48.out.trans hc9 (by simp))
   have m0 := hc9.cell M02.out (by simp)
   have m1 := hc9.cell M12.out (by simp)
   clear x0 x1 y0 y1 z0 z1 q0 q1 hsz n0 n1 hc9
   obtain ⟨⟨x0, x1, y0, y1, z0, z1⟩, q0, q1, hsz⟩ := HBXS.out _ HC9B.out
   go_wp2_with fail
   refine (extends_any _ _ _ _ _ g p q turn same A1 A2 _ (by omega) (by omega) (by omega) (by omega) (by omega) (fun i => Nat.lt_of_le_of_lt (HROWS.out i) (by decide)) (by have := HB4.out; omega) (by omega) HB6.out (by omega) (fun i => Nat.lt_of_le_of_lt (HT2.out i) (by decide)) (by omega) (by omega) (fun i => Nat.le_trans (HT5.out i) (by decide)) (HG.out.fresh HC9.out) (HP.out.fresh HC9.out) (HX.out.fresh HC9.out) (HQ.out.fresh HC9.out) (HPL.out.fresh HC49.out)).mono ?_
   rintro e w10 ⟨rfl, hc10⟩
   rw [HEX.out]
   have HCF := Lib.hid (HC9.out.trans hc10 (by simp))
   clear x0 x1 y0 y1 z0 z1 q0 q1 hsz m0 m1 hc10
   go_wp2
   go_ret
   exact ⟨rfl, HCF.out⟩
  ·have hov := hno hz
   subst hov
   obtain ⟨er, her⟩ : ∃ er, Plain.restErr g p q turn same = er := ⟨_, rfl⟩
   have hb : (er != 0) = true := by rw [← her]; simpa using hz
   have HCS := Lib.hid ((Chg.refl [] w4).alloc (.cells #[.slice none 0 0, .slice none 0 0] 30))
   rw [her]
   clear hno hyes hz her
   go_wp2
   go_ret
   exact ⟨rfl, HC4.out.trans HCS.out (by simp)⟩
end Go.Proofs.Ytckjpaimbmlboaa
/- The law RestDraws is proved: what is left of a drawing is a drawing; all of it is left as it was. No condition: every input. -/
namespace Go.Proofs.Ytckjpaimbmlboaa.restDraws
open Go.ChangeShapes Go.WideShapes Go.ChangeAt Go.RowKit
set_option linter.unusedVariables false

theorem own : ownKnob Try.prog.godebug = none := by kernel_rfl
theorem laidOut : laidOutB Try.prog = true := by kernel_rfl

set_option maxRecDepth 100000 in
theorem lifted (os : Os) (started : os.Started) (H : Type) (enc : TypeId × Value → H) :
  ReturnsInHanded {} Try.checked os 7 .any (Rows.restDrawsSpec.pre6 enc Try.prog Try.f7 Rows.restDrawsRow.domain false) (Rows.restDrawsSpec.post enc Try.prog Try.f7 false true false false) := by
 refine returnsInHanded_of_change (C := Try.checked) own started (by kernel_rfl) Try.func7
  (ChangeSpec.witness6 (enc := enc) (C := Try.checked) false ⟨#[], #[.agg #[.int .i64 0, .slice none 0 0], .agg #[.slice none 0 0, .slice none 0 0], .agg #[.slice none 0 0, .slice none 0 0], .agg #[.slice none 0 0, .slice none 0 0]], []⟩ 8 (by kernel_rfl) (by kernel_rfl) (by kernel_rfl) (by kernel_rfl)) ?_
 intro W base args ds gs before hval0 hW hcnd _
 have hval : ∀ (j : Nat) t v, Try.f7.params[j]? = some t → args[j]? = some v → Value.okWide Try.prog W .any base t v := hval0
 have hW' := hW
 obtain ⟨p, q, hA0, hV, rfl, hfz, hnd⟩ := hW
 have hA : DataW.TrodAll enc Try.prog W 0 (fun _ => true) true Try.f7.params.toList args.toList ds p := hA0
 rw [Try.params7] at hA hval
 obtain ⟨v0, vs0, d0, ds0, p0, q0, hargs, rfl, rfl, h0, r0⟩ := trodAll_cons hA
 obtain ⟨v1, vs1, d1, ds1, p1, q1, rfl, rfl, rfl, h1, r1⟩ := trodAll_cons r0
 obtain ⟨v2, vs2, d2, ds2, p2, q2, rfl, rfl, rfl, h2, r2⟩ := trodAll_cons r1
 obtain ⟨v3, vs3, d3, ds3, p3, q3, rfl, rfl, rfl, h3, r3⟩ := trodAll_cons r2
 obtain ⟨rfl, rfl, rfl⟩ := trodAll_nil r3
 obtain rfl : args = #[v0, v1, v2, v3] := by cases args; simp_all
 obtain ⟨rfl, rfl⟩ := trodVars_none hV
 have k0 := h0
 have k1 := h1
 have k2 := h2
 have k3 := h3
 have lt0 : ∀ x ∈ p0, x.block < W.heap.size := by obtain ⟨m, hm⟩ := k0; exact DataW.trod_lt m _ _ _ hm
 have lt1 : ∀ x ∈ p1, x.block < W.heap.size := by obtain ⟨m, hm⟩ := k1; exact DataW.trod_lt m _ _ _ hm
 have lt2 : ∀ x ∈ p2, x.block < W.heap.size := by obtain ⟨m, hm⟩ := k2; exact DataW.trod_lt m _ _ _ hm
 have lt3 : ∀ x ∈ p3, x.block < W.heap.size := by obtain ⟨m, hm⟩ := k3; exact DataW.trod_lt m _ _ _ hm
 obtain ⟨g0, e0⟩ := gr_open (hval 0 24 v0 rfl rfl) h0
 obtain ⟨g1, e1⟩ := pt_open (hval 1 27 v1 rfl rfl) h1
 obtain ⟨g2, s2, e2⟩ := pl_open (hval 2 30 v2 rfl rfl) h2
 obtain ⟨g3, e3⟩ := pt_open (hval 3 27 v3 rfl rfl) h3
 clear hA0 hval0
 refine (restDraws_any _ _ _ _ g0 g1 g3 g2 s2 W e0 e1 e2 e3).mono fun e W' ⟨he, hc⟩ => ?_
 subst he
 have bel := hc.below
 exact ⟨_, rfl, _, _, _, [], _, [], hW', trodAll_mk1 (shut_bool Try.underlying4 _), (trodAll_cons_mk (Below.trod laidOut (by kernel_rfl) (of_decide_eq_true (by kernel_rfl)) k0 bel lt0) (trodAll_cons_mk (Below.trod laidOut (by kernel_rfl) (of_decide_eq_true (by kernel_rfl)) k1 bel lt1) (trodAll_cons_mk (Below.trod laidOut (by kernel_rfl) (of_decide_eq_true (by kernel_rfl)) k2 bel lt2) (trodAll_cons_mk (Below.trod laidOut (by kernel_rfl) (of_decide_eq_true (by kernel_rfl)) k3 bel lt3) trodAll_mk0)))), rfl, bel.frame _, fun h => by cases h⟩

theorem over : Rows.restDrawsRow.holds Try.pinned (OpenSpec.ofChange Rows.restDrawsSpec) :=
 OpenClaim.holds_of_wide 7 Try.f7 rfl rfl rfl rfl rfl rfl rfl ⟨rfl, rfl, rfl, rfl, rfl⟩ rfl rfl rfl rfl rfl (by kernel_rfl) Try.func7 (by kernel_rfl)
  (of_decide_eq_true (by kernel_rfl)) (by unfold Func.isWrapper; first | (rw [if_pos (by decide +kernel)]; kernel_rfl) | (rw [if_neg (by decide +kernel)]; exact ⟨rfl, rfl⟩))
  (fun os started H enc _ => lifted os started H enc)

theorem proved : Rows.RestDrawsSaid := over
#print axioms proved
end Go.Proofs.Ytckjpaimbmlboaa.restDraws
/- What is left of what is left is what is left. No program here. -/
namespace Go.Proofs.Ytckjpaimbmlboaa.Plain

theorem Gen.leastK {K : List Int} {R Q : Int → Int → Prop} (hQ : Eqv Q) (h1 : ∀ x ∈ K, ∀ y ∈ K, R x y → Q x y) : ∀ {E : List Int}, (∀ e ∈ E, 2 * e ∈ K ∧ 2 * e + 1 ∈ K) → (∀ e ∈ E, Q (2 * e) (2 * e + 1)) → ∀ {x y : Int}, x ∈ K → y ∈ K → Gen R E x y → Q x y
 | [], _, _, x, y, hx, hy, h => h1 x hx y hy h
 | a :: E, hE, h2, x, y, hx, hy, h => by
  have ih : ∀ {x y : Int}, x ∈ K → y ∈ K → Gen R E x y → Q x y := fun {x y} => Gen.leastK (R := R) hQ h1 (E := E) (fun e he => hE e (List.mem_cons_of_mem _ he)) (fun e he => h2 e (List.mem_cons_of_mem _ he)) (x := x) (y := y)
  obtain ⟨a1, a2⟩ := hE a (by simp)
  have ha := h2 a (by simp)
  rcases h with q | ⟨q, r⟩ | ⟨q, r⟩
  ·exact ih hx hy q
  ·exact hQ.trans (hQ.trans (ih hx a1 q) ha) (ih a2 hy r)
  ·exact hQ.trans (hQ.trans (ih hx a2 q) (hQ.symm ha)) (ih a1 hy r)

theorem list_ahead {x : Int} {l m : List Int} (hl : (x :: l).Nodup) (hm : (x :: m).Nodup) (h : ∀ y ∈ x :: l, ahead (x :: l) y = ahead (x :: m) y) : l = m := by
 have r1 := ahead_ring hl (by simp)
 have r2 := ahead_ring hm (by simp)
 have turn : ∀ {p : Int → Int} {l : List Int}, Ring p (x :: l).reverse → Trail p x l.reverse x := by
  intro p l hr
  rw [List.reverse_cons] at hr
  cases e : l.reverse with
  | nil => rw [e] at hr; exact hr
  | cons y k =>
   rw [e] at hr
   have hr : Ring p (y :: k ++ [x]) := hr
   have := Ring.turn (m := []) hr
   exact this
 have t1 := turn r1
 have t2 := turn r2
 have t1 : Trail (ahead (x :: m)) x l.reverse x := t1.congr fun y hy => h y (by
  rcases hy with e | hy
  ·rw [e]; simp
  ·exact List.mem_cons_of_mem _ (List.mem_reverse.1 hy))
 rw [List.nodup_cons] at hl hm
 have := Trail.det t1 t2 (fun k => hl.1 (List.mem_reverse.1 k)) (fun k => hm.1 (List.mem_reverse.1 k))
 exact List.reverse_inj.1 this

theorem first_cons {l : List Int} (h : l ≠ []) : ∃ x m, first l = x :: m ∧ ∀ y ∈ l, x ≤ y := by
 have h0 : 0 < l.length := List.length_pos_iff.2 h
 have hl := lst_lt h0 l.length (Nat.le_refl _)
 cases e : first l with
 | nil =>
  have := (first_perm l).length_eq
  rw [e] at this
  exact absurd (List.length_eq_zero_iff.1 this.symm) h
 | cons x m =>
  refine ⟨x, m, rfl, fun y hy => ?_⟩
  obtain ⟨i, hi, rfl⟩ := mem_getD hy
  have e0 : x = l.getD (lst l l.length) 0 := by
   have h1 : (first l).getD 0 0 = x := by rw [e]; rfl
   rw [← h1]
   unfold first
   have hd : 0 < l.length - lst l l.length := by omega
   simp [List.getD, List.getElem?_append, hl, hd]
  rw [e0]
  exact lst_min l l.length i hi

theorem first_turn {l m : List Int} (hl : l.Nodup) (hp : l.Perm m) (h : ∀ y ∈ l, ahead l y = ahead m y) : first l = first m := by
 by_cases e : l = []
 ·subst e; rw [List.Perm.eq_nil hp.symm]
 ·have hm : m.Nodup := hp.nodup_iff.1 hl
  have em : m ≠ [] := fun k => e (List.Perm.eq_nil (k ▸ hp))
  obtain ⟨x, a, ha, hxa⟩ := first_cons e
  obtain ⟨y, b, hb, hyb⟩ := first_cons em
  have hxl : x ∈ l := (first_perm l).mem_iff.1 (by rw [ha]; simp)
  have hym : y ∈ m := (first_perm m).mem_iff.1 (by rw [hb]; simp)
  have hxy : x = y := by
   have h1 := hxa y (hp.mem_iff.2 hym)
   have h2 := hyb x (hp.mem_iff.1 hxl)
   omega
  subst hxy
  have n1 : (first l).Nodup := (first_perm l).nodup_iff.2 hl
  have n2 : (first m).Nodup := (first_perm m).nodup_iff.2 hm
  have hah : ∀ z ∈ first l, ahead (first l) z = ahead (first m) z := fun z hz => by
   have hzl := (first_perm l).mem_iff.1 hz
   rw [ahead_begun hl z hzl, ahead_begun hm z (hp.mem_iff.1 hzl)]
   exact h z hzl
  rw [ha, hb] at hah
  rw [ha] at n1
  rw [hb] at n2
  rw [ha, hb, list_ahead n1 n2 hah]

theorem ahead_keep {E l : List Int} (hn : l.Nodup) {d : Int} (hd : d ∈ keepOf E l) : ahead (keepOf E (first l)) d = ahead (keepOf E l) d := by
 have hd2 := List.mem_filter.1 hd
 have hof : onE E d = true := hd2.2
 have hfl : d ∈ first l := (first_perm l).mem_iff.2 hd2.1
 have nf : (first l).Nodup := (first_perm l).nodup_iff.2 hn
 have e1 := land_ahead (P := onE E) hn hd2.1 hof
 have e2 := land_ahead (P := onE E) nf hfl hof
 have key : ∀ {z : Int}, z ∈ l → (back (first l) z).find? (onE E) = (back l z).find? (onE E) := by
  intro z hz
  have hb : ∀ n, ∀ z ∈ l, (∃ s r, back l z = s ++ r ∧ s.length = n ∧ (∀ y ∈ s, onE E y = false) ∧ ∃ y r', r = y :: r' ∧ onE E y = true) → (back (first l) z).find? (onE E) = (back l z).find? (onE E) := by
   intro n
   induction n with
   | zero =>
    rintro z hz ⟨s, r, e, hs, -, y, r', hr, hy⟩
    have : s = [] := List.length_eq_zero_iff.1 hs
    subst this
    obtain ⟨t, et⟩ := back_self hz
    rw [et, List.nil_append, hr] at e
    obtain ⟨rfl, -⟩ := List.cons.inj e
    rw [land_at hz hy, land_at ((first_perm l).mem_iff.2 hz) hy]
   | succ n ih =>
    rintro z hz ⟨s, r, e, hs, hno, hyes⟩
    cases s with
    | nil => simp at hs
    | cons a s =>
     obtain ⟨t, e1, e2⟩ := back_ahead hn hz
     rw [e1] at e
     obtain ⟨rfl, et⟩ := List.cons.inj e
     have hz0 : onE E z = false := hno z (by simp)
     obtain ⟨y, r', hr, hy⟩ := hyes
     have := ih _ (ahead_mem hn hz) ⟨s, r ++ [z], by rw [e2, et]; simp, by simpa using hs, fun y hy => hno y (List.mem_cons_of_mem _ hy), y, r' ++ [z], by rw [hr]; rfl, hy⟩
     rw [land_skip hn hz hz0] at this
     rw [← ahead_begun hn z hz, land_skip nf ((first_perm l).mem_iff.2 hz) hz0] at this
     exact this
  cases e : (back l z).find? (onE E) with
  | none =>
   have := List.find?_eq_none.1 e d ((mem_back hz).2 hd2.1)
   exact absurd hof this
  | some u =>
   obtain ⟨hu, s, r, e3, hs⟩ := List.find?_eq_some_iff_append.1 e
   rw [← e]
   exact hb s.length z hz ⟨s, u :: r, e3, rfl, fun y hy => by simpa using hs y hy, u, r, rfl, hu⟩
 rw [ahead_begun hn d hd2.1, key (ahead_mem hn hd2.1), e1] at e2
 exact (Option.some.inj e2).symm

theorem restTurn_twice {E F : List Int} {turn : List (List Int)} (hn : ∀ l ∈ turn, l.Nodup) (hs : ∀ e ∈ F, e ∈ E) : restTurn F (restTurn E turn) = restTurn F turn := by
 unfold restTurn
 rw [List.map_map]
 refine List.map_congr_left fun l hl => ?_
 show first (keepOf F (first (keepOf E l))) = first (keepOf F l)
 have hnl := hn l hl
 have hk : keepOf F (keepOf E l) = keepOf F l := by
  unfold keepOf
  rw [List.filter_filter]
  refine List.filter_congr fun d _ => ?_
  by_cases h1 : d / 2 ∈ F
  ·simp [h1, hs _ h1]
  ·simp [h1]
 have hnk : (keepOf E l).Nodup := hnl.filter _
 rw [← hk]
 refine (first_turn (hnk.filter _) (((first_perm (keepOf E l)).filter _).symm) fun y hy => ?_).symm
 exact (ahead_keep hnk hy).symm

section
variable {g : Gr} {p q r : Pt} {turn same : List (List Int)}

theorem gen_stand (hz : planErr g p turn same = 0) (h : Subs g p q turn) (hne : p.v ≠ []) {u : Int} (hu : u ∈ ground g p turn p.v) : GenR g p q turn same u (stand turn (lnd g turn q.e u)) := by
 have cut := rest_cut hz h hne
 refine stand_rel h GenR.eqv (fun y hy hn => ?_) hu
 have := cut.left y ((all_ground h.pk).2 (Or.inl hy))
 rw [go_off h.pk h.qk.en hy (fun k => hn (mem_darts.2 k))] at this
 exact this

theorem gen_same (hz : planErr g p turn same = 0) (h : Subs g p q turn) (hne : p.v ≠ []) {u v : Int} (hs : Same (walksIn g (walksOf g q (restTurn q.e turn)) q.v) u v) : GenR g p q turn same (stand turn u) (stand turn v) := by
 obtain ⟨C, hC⟩ := rest_rings h
 have cut := rest_cut hz h hne
 exact Same.least (GenR.eqv (g := g) (p := p) (q := q) (turn := turn) (same := same)) hC.rings (fun w hw => cut.left w (hC.all.mem_iff.1 hw)) (same_stand h hC hs)

theorem reg_rest (hz : planErr g p turn same = 0) (h : Subs g p q turn) (hne : p.v ≠ []) {u v : Int} (hu : u ∈ ground g q (restTurn q.e turn) q.v) (hv : v ∈ ground g q (restTurn q.e turn) q.v) :
  RegR g q (restTurn q.e turn) (restSame g p q turn same) u v ↔ GenR g p q turn same (stand turn u) (stand turn v) := by
 have hz2 := rest_right hz h.qe h.sube h.subv
 have hG := GenR.eqv (g := g) (p := p) (q := q) (turn := turn) (same := same)
 have hk := walks_keys h.qe (walks_ok h.qe h.turns)
 have place : ∀ {u : Int}, u ∈ ground g q (restTurn q.e turn) q.v → ∃ f ∈ walksOf g q (restTurn q.e turn), lof g q (restTurn q.e turn) (restSame g p q turn same) u = cls g q (restTurn q.e turn) (restSame g p q turn same) f ∧ GenR g p q turn same (stand turn u) (place turn f) := by
  intro u hu
  obtain ⟨f, hf, hm⟩ := mark_of h.qe h.turns hu
  refine ⟨f, hf, lof_cls hz2 hf hm, ?_⟩
  rw [place_stand h.qe h.turns hf]
  exact gen_same hz h hne (Or.inr ⟨marks f, (marks_ground h.qe h.turns hf).1, hm, (key_mark h.qe h.turns hf).1⟩)
 obtain ⟨f, hf, e1, g1⟩ := place hu
 obtain ⟨x, hx, e2, g2⟩ := place hv
 unfold RegR
 rw [e1, e2]
 have hcg : cls g q (restTurn q.e turn) (restSame g p q turn same) f = cls g q (restTurn q.e turn) (restSame g p q turn same) x ↔ restCls (leftOf (regionsOf g p turn same) (walksOf g p turn)) p q.e turn f = restCls (leftOf (regionsOf g p turn same) (walksOf g p turn)) p q.e turn x :=
  cls_grps hk (same_grps hz2).symm hf hx
 rw [hcg, rest_cls h]
 exact ⟨fun k => hG.trans g1 (hG.trans k (hG.symm g2)), fun k => hG.trans (hG.symm g1) (hG.trans k g2)⟩

theorem Subs.again (h : Subs g p q turn) (hre : r.err g = 0) (hs : ∀ e ∈ r.e, e ∈ q.e) (hv : ∀ v ∈ r.v, v ∈ q.v) : Subs g q r (restTurn q.e turn) ∧ Subs g p r turn :=
 ⟨⟨h.qe, hre, h.turns, hs, hv⟩, ⟨h.pe, hre, h.to_, fun e he => h.sube e (hs e he), fun v k => h.subv v (hv v k)⟩⟩

theorem mem_outE {e : Int} : e ∈ (outE p q).reverse ++ [] ↔ e ∈ p.e ∧ e ∉ q.e := by
 rw [List.append_nil, List.mem_reverse]; unfold outE; rw [List.mem_filter, decide_eq_true_iff]

theorem gen_twice (hz : planErr g p turn same = 0) (h : Subs g p q turn) (h2 : Subs g q r (restTurn q.e turn)) (_h3 : Subs g p r turn) (hqn : q.v ≠ []) {u v : Int} (hu : u ∈ ground g q (restTurn q.e turn) q.v) (hv : v ∈ ground g q (restTurn q.e turn) q.v) :
  GenR g q r (restTurn q.e turn) (restSame g p q turn same) u v ↔ GenR g p r turn same (stand turn u) (stand turn v) := by
 have hne : p.v ≠ [] := by
  obtain ⟨v, hv⟩ := List.exists_mem_of_ne_nil _ hqn
  exact List.ne_nil_of_mem (h.subv v hv)
 have hz2 := rest_right hz h.qe h.sube h.subv
 have hG := GenR.eqv (g := g) (p := p) (q := q) (turn := turn) (same := same)
 have hH := GenR.eqv (g := g) (p := p) (q := r) (turn := turn) (same := same)
 have hI := GenR.eqv (g := g) (p := q) (q := r) (turn := restTurn q.e turn) (same := restSame g p q turn same)
 have up : ∀ {x y : Int}, GenR g p q turn same x y → GenR g p r turn same x y := fun {x y} k => Gen.mono (RegR.eqv g p turn same) (fun e he => by
  obtain ⟨a, b⟩ := mem_outE.1 he
  exact mem_outE.2 ⟨a, fun k => b (h2.sube e k)⟩) k
 have dart : ∀ {d : Int}, d ∈ q.darts → stand turn d = d := fun {d} hd => by
  unfold stand; rw [if_neg (by have := dart_pos h.qk hd; omega)]
 have d1 : ∀ {e : Int}, e ∈ q.e → 2 * e ∈ q.darts ∧ 2 * e + 1 ∈ q.darts := fun {e} he => ⟨mem_darts.2 (by rwa [show 2 * e / 2 = e by omega]), mem_darts.2 (by rwa [show (2 * e + 1) / 2 = e by omega])⟩
 constructor
 ·intro k
  refine Gen.leastK (K := ground g q (restTurn q.e turn) q.v) (Q := fun x y => GenR g p r turn same (stand turn x) (stand turn y)) (hH.comap (stand turn)) (fun x hx y hy m => up ((reg_rest hz h hne hx hy).1 m)) (fun e he => ?_) (fun e he => ?_) hu hv k
  ·obtain ⟨a, b⟩ := mem_outE.1 he
   exact ⟨(all_ground h.qk).2 (Or.inl (d1 a).1), (all_ground h.qk).2 (Or.inl (d1 a).2)⟩
  ·obtain ⟨a, b⟩ := mem_outE.1 he
   show GenR g p r turn same (stand turn (2 * e)) (stand turn (2 * e + 1))
   rw [dart (d1 a).1, dart (d1 a).2]
   exact Gen.edge (RegR.eqv g p turn same) (mem_outE.2 ⟨h.sube e a, b⟩)
 ·intro k
  have keyg : ∀ {f : Face}, f ∈ walksOf g q (restTurn q.e turn) → f.1 ∈ ground g q (restTurn q.e turn) q.v := fun {f} hf => (marks_ground h.qe h.turns hf).2 _ (key_mark h.qe h.turns hf).1
  have join : ∀ {f x : Face}, f ∈ walksOf g q (restTurn q.e turn) → x ∈ walksOf g q (restTurn q.e turn) → GenR g p q turn same (place turn f) (place turn x) → GenR g q r (restTurn q.e turn) (restSame g p q turn same) f.1 x.1 := fun {f x} hf hx m => by
   rw [place_stand h.qe h.turns hf, place_stand h.qe h.turns hx] at m
   exact Gen.base ((reg_rest hz h hne (keyg hf) (keyg hx)).2 m) _
  let Q : Int → Int → Prop := fun x y => x = y ∨ ∃ f ∈ walksOf g q (restTurn q.e turn), ∃ f' ∈ walksOf g q (restTurn q.e turn), GenR g p q turn same x (place turn f) ∧ GenR g p q turn same y (place turn f') ∧ GenR g q r (restTurn q.e turn) (restSame g p q turn same) f.1 f'.1
  have hQ : Eqv Q := by
   refine ⟨fun _ => Or.inl rfl, fun {x y} m => ?_, fun {x y z} m n => ?_⟩
   ·rcases m with e | ⟨f, hf, f', hf', m1, m2, m3⟩
    ·exact Or.inl e.symm
    ·exact Or.inr ⟨f', hf', f, hf, m2, m1, hI.symm m3⟩
   ·rcases m with e | ⟨f, hf, f', hf', m1, m2, m3⟩
    ·rw [e]; exact n
    ·rcases n with e | ⟨x1, hx1, x2, hx2, n1, n2, n3⟩
     ·rw [← e]; exact Or.inr ⟨f, hf, f', hf', m1, m2, m3⟩
     ·exact Or.inr ⟨f, hf, x2, hx2, m1, n2, hI.trans m3 (hI.trans (join hf' hx1 (hG.trans (hG.symm m2) n1)) n3)⟩
  have hres : Q (stand turn u) (stand turn v) := by
   refine Gen.leastK (K := ground g p turn p.v) (Q := Q) hQ (fun x hx y hy m => ?_) (fun e he => ?_) (fun e he => ?_) (stand_mem h hu).1 (stand_mem h hv).1 k
   ·obtain ⟨f, hf, m1⟩ := walk_any hz h hqn hx
    exact Or.inr ⟨f, hf, f, hf, m1, hG.trans (hG.symm (Gen.base m _)) m1, hI.refl _⟩
   ·exact edges_in (turn := turn) h.pk (Stretch.all h.pk) (by rw [edges_all h.pk]; exact (mem_outE.1 he).1)
   ·obtain ⟨a, b⟩ := mem_outE.1 he
    have hg2 := edges_in (turn := turn) h.pk (Stretch.all h.pk) (by rw [edges_all h.pk]; exact a)
    by_cases hq : e ∈ q.e
    ·have e1 := d1 hq
     have near : ∀ {d : Int}, d ∈ q.darts → ∃ f ∈ walksOf g q (restTurn q.e turn), GenR g p q turn same d (place turn f) ∧ GenR g q r (restTurn q.e turn) (restSame g p q turn same) d f.1 := by
      intro d hd
      have hdg := (all_ground (turn := restTurn q.e turn) h.qk).2 (Or.inl hd)
      obtain ⟨f, hf, hm⟩ := mark_of h.qe h.turns hdg
      have hs : Same (walksIn g (walksOf g q (restTurn q.e turn)) q.v) d f.1 := Or.inr ⟨marks f, (marks_ground h.qe h.turns hf).1, hm, (key_mark h.qe h.turns hf).1⟩
      have := gen_same hz h hne hs
      rw [dart hd, ← place_stand h.qe h.turns hf] at this
      refine ⟨f, hf, this, Gen.base ?_ _⟩
      show lof g q (restTurn q.e turn) (restSame g p q turn same) d = lof g q (restTurn q.e turn) (restSame g p q turn same) f.1
      rw [lof_cls hz2 hf hm, lof_cls hz2 hf (key_mark h.qe h.turns hf).1]
     obtain ⟨f, hf, m1, m2⟩ := near e1.1
     obtain ⟨x, hx, n1, n2⟩ := near e1.2
     exact Or.inr ⟨f, hf, x, hx, m1, n1, hI.trans (hI.symm m2) (hI.trans (Gen.edge (RegR.eqv g q (restTurn q.e turn) (restSame g p q turn same)) (mem_outE.2 ⟨hq, b⟩)) n2)⟩
    ·obtain ⟨f, hf, m1⟩ := walk_any hz h hqn hg2.1
     exact Or.inr ⟨f, hf, f, hf, m1, hG.trans (hG.symm (Gen.edge (RegR.eqv g p turn same) (mem_outE.2 ⟨a, hq⟩))) m1, hI.refl _⟩
  have back : ∀ {u : Int}, u ∈ ground g q (restTurn q.e turn) q.v → ∀ {f : Face}, f ∈ walksOf g q (restTurn q.e turn) → GenR g p q turn same (stand turn u) (place turn f) → GenR g q r (restTurn q.e turn) (restSame g p q turn same) u f.1 := fun {u} hu {f} hf m => by
   rw [place_stand h.qe h.turns hf] at m
   exact Gen.base ((reg_rest hz h hne hu (keyg hf)).2 m) _
  rcases hres with e | ⟨f, hf, x, hx, m1, m2, m3⟩
  ·have e2 := congrArg (lnd g turn q.e) e
   rw [lnd_stand h hu, lnd_stand h hv] at e2
   rw [e2]; exact hI.refl _
  ·exact hI.trans (back hu hf m1) (hI.trans m3 (hI.symm (back hv hx m2)))

theorem rest_again (hz : planErr g p turn same = 0) (h : Subs g p q turn) (hre : r.err g = 0) (hs : ∀ e ∈ r.e, e ∈ q.e) (hv : ∀ v ∈ r.v, v ∈ q.v) :
  restTurn r.e (restTurn q.e turn) = restTurn r.e turn ∧ restSame g q r (restTurn q.e turn) (restSame g p q turn same) = restSame g p r turn same := by
 obtain ⟨h2, h3⟩ := h.again hre hs hv
 have ht : restTurn r.e (restTurn q.e turn) = restTurn r.e turn := restTurn_twice (fun l hl => by
  obtain ⟨i, hi, rfl⟩ := List.getElem_of_mem hl
  have := h.to_.nodup (i : Int)
  rwa [show turnAt turn (i : Int) = turn[i] by unfold turnAt; simp [List.getD, hi]] at this) hs
 refine ⟨ht, ?_⟩
 by_cases hrn : r.v = []
 ·have hw := no_walks h3 hrn
  have hw2 := no_walks h2 hrn
  unfold restSame
  rw [hw, hw2]
  rfl
 ·have hqn : q.v ≠ [] := by
   obtain ⟨v, hv2⟩ := List.exists_mem_of_ne_nil _ hrn
   exact List.ne_nil_of_mem (hv v hv2)
  have hne : p.v ≠ [] := by
   obtain ⟨v, hv⟩ := List.exists_mem_of_ne_nil _ hqn
   exact List.ne_nil_of_mem (h.subv v hv)
  have hH := GenR.eqv (g := g) (p := p) (q := r) (turn := turn) (same := same)
  unfold restSame
  rw [ht]
  refine grps_congr fun f hf x hx => ?_
  have hf2 : f ∈ walksOf g r (restTurn r.e (restTurn q.e turn)) := by rw [ht]; exact hf
  have hx2 : x ∈ walksOf g r (restTurn r.e (restTurn q.e turn)) := by rw [ht]; exact hx
  have a1 := rest_cls (same := restSame g p q turn same) h2 (f := f) (x := x)
  unfold restSame at a1
  rw [a1, rest_cls h3]
  have b1 := gen_twice hz h h2 h3 hqn (place_mem h2 hf2).1 (place_mem h2 hx2).1
  unfold restSame at b1
  rw [b1]
  have key : ∀ {f : Face}, f ∈ walksOf g r (restTurn r.e turn) → GenR g p r turn same (stand turn (place (restTurn q.e turn) f)) (place turn f) := by
   intro f hf
   have hf2 : f ∈ walksOf g r (restTurn r.e (restTurn q.e turn)) := by rw [ht]; exact hf
   have hg1 := (marks_ground h3.qe h3.turns hf).2 _ (key_mark h3.qe h3.turns hf).1
   have hg2 := (marks_ground h2.qe h2.turns hf2).2 _ (key_mark h2.qe h2.turns hf2).1
   rw [place_stand h3.qe h3.turns hf (restTurn q.e turn), place_stand h3.qe h3.turns hf turn]
   obtain ⟨s1, s2⟩ := stand_mem h2 hg2
   obtain ⟨t1, t2⟩ := stand_mem h s1
   have hgs := gen_stand hz h3 hne t1
   have e : lnd g turn r.e (stand turn (stand (restTurn q.e turn) f.1)) = f.1 := by
    rcases (all_ground h3.qk).1 hg1 with hd | ⟨v, hv3, e3, e4⟩
    ·have h0 := dart_pos h3.qk hd
     rw [show stand (restTurn q.e turn) f.1 = f.1 by unfold stand; rw [if_neg (by omega)], show stand turn f.1 = f.1 by unfold stand; rw [if_neg (by omega)]]
     exact lnd_on h3 hd
    ·have h0 := (h3.qk.vr v hv3).1
     have hvt : vert g (stand turn (stand (restTurn q.e turn) f.1)) = v := by rw [t2, s2, e4, vert_lone h0]
     have hno := restTurn_nil.1 e3
     rcases (all_ground h.pk).1 t1 with hd | ⟨v2, hv2, e5, e6⟩
     ·have h1 := dart_pos h.pk hd
      rw [vert_dart h.pk hd] at hvt
      have hut := dart_turn h.pk h.to_ hd
      rw [hvt] at hut
      unfold lnd
      rw [if_neg (by omega), hvt]
      have : (back (turnAt turn v) (stand turn (stand (restTurn q.e turn) f.1))).find? (onE r.e) = none := by
       rw [List.find?_eq_none]
       intro y hy
       have := hno y ((mem_back hut).1 hy)
       simp [this]
      rw [this, e4]; rfl
     ·have h1 := (h.pk.vr v2 hv2).1
      rw [e6, vert_lone h1] at hvt
      rw [e6, lnd_key (by omega), hvt, e4]
   rw [e] at hgs
   exact hgs
  exact ⟨fun k => hH.trans (hH.symm (key hf)) (hH.trans k (key hx)), fun k => hH.trans (key hf) (hH.trans k (hH.symm (key hx)))⟩
end
end Go.Proofs.Ytckjpaimbmlboaa.Plain
/- the law RestAgain: the walk. Conditions: a graph, three parts, a plan that lie in memory and read so. -/
namespace Go.Proofs.Ytckjpaimbmlboaa
open Go.RowKit Go.Maps

namespace Plain
theorem rest_err_two {g : Gr} {p q r : Pt} {turn same : List (List Int)} (h : restErr g p q turn same = 0) : (restErr g q r (restTurn q.e turn) (restSame g p q turn same) = 0 ∧ restErr g p r turn same = 0 ∧ restTurn r.e (restTurn q.e turn) = restTurn r.e turn ∧ restSame g q r (restTurn q.e turn) (restSame g p q turn same) = restSame g p r turn same) ∨ restErr g q r (restTurn q.e turn) (restSame g p q turn same) = 4 := by
 obtain ⟨hz, hqe, hsv, hse⟩ := restErr_is h
 have hz2 := rest_right hz hqe hse hsv
 by_cases hc : r.err g = 0 ∧ subB r.v q.v = true ∧ subB r.e q.e = true
 ·left
  have hv := subB_iff.1 hc.2.1
  have he := subB_iff.1 hc.2.2
  obtain ⟨hpe, hto⟩ := zero_ok hz
  refine ⟨?_, ?_, rest_again hz ⟨hpe, hqe, hto, hse, hsv⟩ hc.1 he hv⟩
  ·unfold restErr
   rw [if_neg (by simp [hz2]), if_pos hc]
  ·unfold restErr
   rw [if_neg (by simp [hz]), if_pos ⟨hc.1, subB_iff.2 fun v k => hsv v (hv v k), subB_iff.2 fun e k => hse e (he e k)⟩]
 ·right
  unfold restErr
  rw [if_neg (by simp [hz2]), if_neg hc]
end Plain

set_option maxRecDepth 100000 in
set_option maxHeartbeats 8000000 in
theorem restAgain_any (vg vp vx vq vr : Value) (g : Plain.Gr) (p q r : Plain.Pt) (turn same : List (List Int)) (w : World) (hg : GrAt w vg g) (hp : PtAt w vp p) (hx : PlAt w vx turn same) (hq : PtAt w vq q) (hr : PtAt w vr r) :
  Calls Try.prog 6 #[vg, vp, vx, vq, vr] w fun e w' => e = .returned (.bool true) ∧ Chg [] w w' := by
 have HR := Lib.hid hr
 obtain ⟨v5, v6, rfl, ⟨yo, yc, rfl, -, -, -⟩, ⟨zo, zc, rfl, -, -, -⟩⟩ := hr
 have HG := Lib.hid hg
 have HQ := Lib.hid hq
 obtain ⟨v3, v4, rfl, hqv1, hqe1⟩ := hq
 have HQV := Lib.hid hqv1
 have HQEI := Lib.hid hqe1
 obtain ⟨co, cc, rfl, -, -, -⟩ := hqv1
 obtain ⟨fo, fc, rfl, -, -, -⟩ := hqe1
 have HP := Lib.hid hp
 have HX := Lib.hid hx
 obtain ⟨eo, cap, rfl, hn, hm, hsm, hcell⟩ := hg
 obtain ⟨v1, v2, rfl, hv, he⟩ := hp
 obtain ⟨ao, ac, rfl, has, ham, hacell⟩ := hv
 obtain ⟨bo, bc, rfl, hbs, hbm, hbcell⟩ := he
 have HAC := Lib.hid hacell
 have HBC := Lib.hid hbcell
 obtain ⟨t1, t2, rfl, ht, hs⟩ := hx
 have HT := Lib.hid ht
 have HS := Lib.hid hs
 obtain ⟨tno, tc, rfl, htm, -⟩ := ht
 obtain ⟨so, sc, rfl, hsm2, hsc⟩ := hs
 obtain ⟨-, -, hc1⟩ := box_two w #[.int .i64 g.n, .slice eo g.e.length cap] #[.slice ao p.v.length ac, .slice bo p.e.length bc] 24 27
 obtain ⟨-, hc3⟩ := box_three w #[.int .i64 g.n, .slice eo g.e.length cap] #[.slice ao p.v.length ac, .slice bo p.e.length bc] #[.slice tno turn.length tc, .slice so same.length sc] 24 27 30
 have HC1 := Lib.hid (hc1.trans hc3 (by simp))
 have HBXS := Lib.hid (fun w2 h => three_boxes w (g := g) (p := p) (turn := turn) (same := same) (eo := eo) (ao := ao) (bo := bo) (tno := tno) (so := so) (cap := cap) (ac := ac) (bc := bc) (tc := tc) (sc := sc) (w2 := w2) h)
 clear hcell hacell hbcell hsm hbs has hn hc1 hc3 hsc
 clear HC1 HBXS
 have HC1 := Lib.hid (four_chg w #[.int .i64 g.n, .slice eo g.e.length cap] #[.slice ao p.v.length ac, .slice bo p.e.length bc] #[.slice tno turn.length tc, .slice so same.length sc] #[.slice co q.v.length cc, .slice fo q.e.length fc] 24 27 30 27)
 have HBXS := Lib.hid (fun w2 h => four_boxes w (g := g) (p := p) (q := q) (turn := turn) (same := same) (eo := eo) (ao := ao) (bo := bo) (tno := tno) (so := so) (co := co) (fo := fo) (cap := cap) (ac := ac) (bc := bc) (tc := tc) (sc := sc) (cc := cc) (fc := fc) (w2 := w2) h)
 have hset : Chg [] ((((w.alloc (.cells #[.int .i64 g.n, .slice eo g.e.length cap] 24)).alloc (.cells #[.slice ao p.v.length ac, .slice bo p.e.length bc] 27)).alloc (.cells #[.slice tno turn.length tc, .slice so same.length sc] 30)).alloc (.cells #[.slice co q.v.length cc, .slice fo q.e.length fc] 27)) (((((w.alloc (.cells #[.int .i64 g.n, .slice eo g.e.length cap] 24)).alloc (.cells #[.slice ao p.v.length ac, .slice bo p.e.length bc] 27)).alloc (.cells #[.slice tno turn.length tc, .slice so same.length sc] 30)).alloc (.cells #[.slice co q.v.length cc, .slice fo q.e.length fc] 27)).alloc (.cells #[.slice yo r.v.length yc, .slice zo r.e.length zc] 27)) := (Chg.refl [] _).alloc _
 have hheap := heap_alloc_new ((((w.alloc (.cells #[.int .i64 g.n, .slice eo g.e.length cap] 24)).alloc (.cells #[.slice ao p.v.length ac, .slice bo p.e.length bc] 27)).alloc (.cells #[.slice tno turn.length tc, .slice so same.length sc] 30)).alloc (.cells #[.slice co q.v.length cc, .slice fo q.e.length fc] 27)) (.cells #[.slice yo r.v.length yc, .slice zo r.e.length zc] 27)
 rw [show ((((w.alloc (.cells #[.int .i64 g.n, .slice eo g.e.length cap] 24)).alloc (.cells #[.slice ao p.v.length ac, .slice bo p.e.length bc] 27)).alloc (.cells #[.slice tno turn.length tc, .slice so same.length sc] 30)).alloc (.cells #[.slice co q.v.length cc, .slice fo q.e.length fc] 27)).heap.size = w.heap.size + 4 by simp] at hheap
 have HF0 := Lib.hid ((cell_of_row _ _ 0 _ _ _ hheap).trans (show _ = some (Value.slice yo r.v.length yc) from rfl))
 have HF1 := Lib.hid ((cell_of_row _ _ 1 _ _ _ hheap).trans (show _ = some (Value.slice zo r.e.length zc) from rfl))
 have HCS := Lib.hid hset
 have HC5 := Lib.hid (HC1.out.trans hset (by simp))
 clear hset hheap
 go_enter Try.func6, Try.ntmps6
 go_wp2_with fail
 generalize (((((w.alloc (.cells #[.int .i64 g.n, .slice eo g.e.length cap] 24)).alloc (.cells #[.slice ao p.v.length ac, .slice bo p.e.length bc] 27)).alloc (.cells #[.slice tno turn.length tc, .slice so same.length sc] 30)).alloc (.cells #[.slice co q.v.length cc, .slice fo q.e.length fc] 27)).alloc (.cells #[.slice yo r.v.length yc, .slice zo r.e.length zc] 27)) = w1 at *
 have HBX := Lib.hid (fun w2 (h : Chg [] w1 w2) => HBXS.out w2 (HCS.out.trans h (by simp)))
 have HM := Lib.hid (fun w2 (h : Chg [] w1 w2) => (⟨h.cell HF0.out (by simp), h.cell HF1.out (by simp)⟩ : w2.cell? ⟨w.heap.size + 4, 0, none⟩ = some (Value.slice yo r.v.length yc) ∧ w2.cell? ⟨w.heap.size + 4, 1, none⟩ = some (Value.slice zo r.e.length zc)))
 have HW := Lib.hid (fun w2 (h : Chg [] w1 w2) => HC5.out.trans h (by simp))
 clear HBXS HC1 HF0 HF1 HCS HC5
 refine (awake09_any _).mono ?_
 rintro e w2 ⟨rfl, hc2⟩
 obtain ⟨⟨x0, x1, y0, y1, z0, z1⟩, q0, q1, hsz⟩ := HBX.out w2 hc2
 obtain ⟨m0, m1⟩ := HM.out w2 hc2
 have HC2 := Lib.hid hc2
 clear hc2
 go_wp2_with fail
 refine (small09_any _ _ _ _ g p q turn same _ (HG.out.fresh (HW.out _ HC2.out)) (HP.out.fresh (HW.out _ HC2.out)) (HX.out.fresh (HW.out _ HC2.out)) (HQ.out.fresh (HW.out _ HC2.out))).mono ?_
 rintro e w3 ⟨rfl, hc3⟩
 have HC3 := Lib.hid (HC2.out.trans hc3 (by simp))
 clear x0 x1 y0 y1 z0 z1 q0 q1 hsz m0 m1 hc3
 obtain ⟨⟨x0, x1, y0, y1, z0, z1⟩, q0, q1, hsz⟩ := HBX.out w3 HC3.out
 obtain ⟨m0, m1⟩ := HM.out w3 HC3.out
 cases hb : (Plain.small8 g p turn same && Plain.small4 g q) with
 | false =>
  clear hb
  go_wp2_with fail
  refine (awake09_any _).mono ?_
  rintro e w4 ⟨rfl, hc4⟩
  have HC4 := Lib.hid (HC3.out.trans hc4 (by simp))
  clear hc4
  go_wp2
  go_ret
  exact ⟨rfl, HW.out _ HC4.out⟩
 | true =>
  rw [Bool.and_eq_true] at hb
  obtain ⟨b1, b2, b3, b4, b5, b6⟩ := Plain.small8_is hb.1
  obtain ⟨c1, c2, c3⟩ := Plain.small4_is hb.2
  have HB4 := Lib.hid b4
  have HB6 := Lib.hid (fun i => Nat.le_trans (b6 i) (by omega : 60 ≤ 10000))
  have HROWS := Lib.hid (Plain.small8_four hb.1).2
  clear hb b4 b6
  go_wp2_with fail
  refine (small4_any _ _ g r _ (HG.out.fresh (HW.out _ HC3.out)) (HR.out.fresh (HW.out _ HC3.out))).mono ?_
  rintro e w4 ⟨rfl, hc4⟩
  have HC4 := Lib.hid (HC3.out.trans hc4 (by simp))
  clear x0 x1 y0 y1 z0 z1 q0 q1 hsz m0 m1 hc4
  obtain ⟨⟨x0, x1, y0, y1, z0, z1⟩, q0, q1, hsz⟩ := HBX.out w4 HC4.out
  obtain ⟨m0, m1⟩ := HM.out w4 HC4.out
  cases hb : Plain.small4 g r with
  | false =>
   clear hb
   rw [show bit false = 0 from rfl]
   go_wp2_with fail
   refine (awake09_any _).mono ?_
   rintro e w5 ⟨rfl, hc5⟩
   have HC5 := Lib.hid (HC4.out.trans hc5 (by simp))
   clear hc5
   go_wp2
   go_ret
   exact ⟨rfl, HW.out _ HC5.out⟩
  | true =>
   obtain ⟨d1, d2, d3⟩ := Plain.small4_is hb
   clear hb
   rw [show bit true = 1 from rfl]
   go_wp2_with fail
   refine (restTo_any _ _ _ _ g p q turn same _ (by omega) (by omega) (by omega) (by omega) (by omega) (by have := HB4.out; omega) (by omega) HB6.out (HG.out.fresh (HW.out _ HC4.out)) (HP.out.fresh (HW.out _ HC4.out)) (HX.out.fresh (HW.out _ HC4.out)) (HQ.out.fresh (HW.out _ HC4.out))).mono ?_
   rintro e w5 ⟨ov, rfl, hno, hyes, hc5⟩
   have HC5 := Lib.hid (HC4.out.trans hc5 (by simp))
   clear x0 x1 y0 y1 z0 z1 q0 q1 hsz m0 m1 hc5
   by_cases hz : Plain.restErr g p q turn same = 0
   ·have HPL := Lib.hid (hyes hz)
    obtain ⟨u1, u2, rfl, ⟨o1, k1, rfl, -⟩, ⟨o2, k2, rfl, -⟩⟩ := hyes hz
    obtain ⟨t1, t2, t3, t4, t5⟩ := Plain.rest_sizes hz (by omega) (by omega) b3 HROWS.out
    have HT2 := Lib.hid t2
    have HT5 := Lib.hid t5
    have HTWO := Lib.hid (Plain.rest_err_two (r := r) hz)
    obtain ⟨A1, hA1⟩ : ∃ x, Plain.restTurn q.e turn = x := ⟨_, rfl⟩
    obtain ⟨A2, hA2⟩ : ∃ x, Plain.restSame g p q turn same = x := ⟨_, rfl⟩
    rw [hA1] at t1 t3 HT2 HTWO HPL
    rw [hA2] at t4 HT5 HTWO HPL
    rw [hA1, hA2, hz]
    have hset : Chg [] w5 (w5.alloc (.cells #[.slice o1 A1.length k1, .slice o2 A2.length k2] 30)) := (Chg.refl [] w5).alloc _
    have hheap := heap_alloc_new w5 (.cells #[.slice o1 A1.length k1, .slice o2 A2.length k2] 30)
    have n0 := (cell_of_row _ _ 0 _ _ _ hheap).trans (show _ = some (Value.slice o1 A1.length k1) from rfl)
    have n1 := (cell_of_row _ _ 1 _ _ _ hheap).trans (show _ = some (Value.slice o2 A2.length k2) from rfl)
    have HC6 := Lib.hid (HC5.out.trans hset (by simp))
    have HC56 := Lib.hid hset
    clear hno hyes hz hset hheap t2 t5 hA1 hA2
    obtain ⟨⟨x0, x1, y0, y1, z0, z1⟩, q0, q1, hsz⟩ := HBX.out _ HC6.out
    obtain ⟨m0, m1⟩ := HM.out _ HC6.out
    go_wp2_with fail
    generalize (w5.alloc (.cells #[.slice o1 A1.length k1, .slice o2 A2.length k2] 30)) = w6 at *
    generalize w5.heap.size = xb at *
    refine (restTo_any _ _ _ _ g q r A1 A2 _ (by omega) (by omega) (by omega) (by omega) (by omega) (by omega) (by omega) (fun i => Nat.le_trans (HT5.out i) (by decide)) (HG.out.fresh (HW.out _ HC6.out)) (HQ.out.fresh (HW.out _ HC6.out)) (HPL.out.fresh HC56.out) (HR.out.fresh (HW.out _ HC6.out))).mono ?_
    rintro e w7 ⟨ov2, rfl, hno, hyes, hc7⟩
    have HC7 := Lib.hid (HC6.out.trans hc7 (by simp))
    clear x0 x1 y0 y1 z0 z1 q0 q1 hsz m0 m1 n0 n1 hc7
    rcases HTWO.out with ⟨e1, e2, e3, e4⟩ | e1
    ·have HPR := Lib.hid (hyes e1)
     obtain ⟨u3, u4, rfl, ⟨o3, k3, rfl, -⟩, ⟨o4, k4, rfl, -⟩⟩ := hyes e1
     obtain ⟨s1, s2, s3, s4, s5⟩ := Plain.rest_sizes e2 (by omega) (by omega) b3 HROWS.out
     have HS2 := Lib.hid s2
     have HS5 := Lib.hid s5
     have HE2 := Lib.hid e2
     rw [e3, e4] at HPR ⊢
     rw [e1]
     obtain ⟨B1, hB1⟩ : ∃ x, Plain.restTurn r.e turn = x := ⟨_, rfl⟩
     obtain ⟨B2, hB2⟩ : ∃ x, Plain.restSame g p r turn same = x := ⟨_, rfl⟩
     have HB1 := Lib.hid hB1
     have HB2 := Lib.hid hB2
     rw [hB1] at s1 s3 HS2 HPR ⊢
     rw [hB2] at s4 HS5 HPR ⊢
     have hset : Chg [] w7 (w7.alloc (.cells #[.slice o3 B1.length k3, .slice o4 B2.length k4] 30)) := (Chg.refl [] w7).alloc _
     have hheap := heap_alloc_new w7 (.cells #[.slice o3 B1.length k3, .slice o4 B2.length k4] 30)
     have HN0 := Lib.hid ((cell_of_row _ _ 0 _ _ _ hheap).trans (show _ = some (Value.slice o3 B1.length k3) from rfl))
     have HN1 := Lib.hid ((cell_of_row _ _ 1 _ _ _ hheap).trans (show _ = some (Value.slice o4 B2.length k4) from rfl))
     have HC8 := Lib.hid (HC7.out.trans hset (by simp))
     have HC78 := Lib.hid hset
     clear hno hyes hset hheap s2 s5 hB1 hB2 e1 e2 e3 e4
     obtain ⟨⟨x0, x1, y0, y1, z0, z1⟩, q0, q1, hsz⟩ := HBX.out _ HC8.out
     obtain ⟨m0, m1⟩ := HM.out _ HC8.out
     go_wp2_with fail
     generalize (w7.alloc (.cells #[.slice o3 B1.length k3, .slice o4 B2.length k4] 30)) = w8 at *
     generalize w7.heap.size = yb at *
     refine (restTo_any _ _ _ _ g p r turn same _ (by omega) (by omega) (by omega) (by omega) (by omega) (by have := HB4.out; omega) (by omega) HB6.out (HG.out.fresh (HW.out _ HC8.out)) (HP.out.fresh (HW.out _ HC8.out)) (HX.out.fresh (HW.out _ HC8.out)) (HR.out.fresh (HW.out _ HC8.out))).mono ?_
     rintro e w9 ⟨ov3, rfl, -, hyes, hc9⟩
     have hpl3 := hyes HE2.out
     rw [HE2.out]
     rw [HB1.out, HB2.out] at hpl3
     have HPS := Lib.hid hpl3
     obtain ⟨u5, u6, rfl, ⟨o5, k5, rfl, -⟩, ⟨o6, k6, rfl, -⟩⟩ := hpl3
     have HC9 := Lib.hid (HC8.out.trans hc9 (by simp))
     have HC79 := Lib.hid (HC78.out.trans hc9 (by simp))
     have N0 := Lib.hid (hc9.cell HN0.out (by simp))
     have N1 := Lib.hid (hc9.cell HN1.out (by simp))
     have hset : Chg [] w9 (w9.alloc (.cells #[.slice o5 B1.length k5, .slice o6 B2.length k6] 30)) := (Chg.refl [] w9).alloc _
     have hheap := heap_alloc_new w9 (.cells #[.slice o5 B1.length k5, .slice o6 B2.length k6] 30)
     have l0 := (cell_of_row _ _ 0 _ _ _ hheap).trans (show _ = some (Value.slice o5 B1.length k5) from rfl)
     have l1 := (cell_of_row _ _ 1 _ _ _ hheap).trans (show _ = some (Value.slice o6 B2.length k6) from rfl)
     have n0 := hset.cell N0.out (by simp)
     have n1 := hset.cell N1.out (by simp)
     have HC10 := Lib.hid (HC9.out.trans hset (by simp))
     have HC710 := Lib.hid (HC79.out.trans hset (by simp))
     have HC910 := Lib.hid hset
     clear x0 x1 y0 y1 z0 z1 q0 q1 hsz m0 m1 hc9 hyes hset hheap
     go_wp2_with fail
     generalize (w9.alloc (.cells #[.slice o5 B1.length k5, .slice o6 B2.length k6] 30)) = w10 at *
     refine (psame_any _ _ B1 B2 B1 B2 _ (by omega) (by omega) (fun i => Nat.lt_of_le_of_lt (HS2.out i) (by decide)) (fun i => Nat.lt_of_le_of_lt (HS5.out i) (by decide)) (by omega) (by omega) (fun i => Nat.lt_of_le_of_lt (HS2.out i) (by decide)) (fun i => Nat.lt_of_le_of_lt (HS5.out i) (by decide)) (HPR.out.fresh HC710.out) (HPS.out.fresh HC910.out)).mono ?_
     rintro e w11 ⟨rfl, hc11⟩
     rw [decide_eq_true (show B1.map Plain.first = B1.map Plain.first ∧ B2 = B2 from ⟨rfl, rfl⟩)]
     have HC11 := Lib.hid (HC10.out.trans hc11 (by simp))
     clear n0 n1 l0 l1 hc11
     go_wp2
     go_ret
     exact ⟨rfl, HW.out _ HC11.out⟩
    ·have hov := hno (by rw [e1]; decide)
     subst hov
     rw [e1]
     have HCF := Lib.hid ((HC7.out.trans ((Chg.refl [] w7).alloc (.cells #[.slice none 0 0, .slice none 0 0] 30)) (by simp)))
     clear hno hyes e1
     go_wp2
     go_ret
     exact ⟨rfl, HW.out _ HCF.out⟩
   ·have hov := hno hz
    subst hov
    obtain ⟨er, her⟩ : ∃ er, Plain.restErr g p q turn same = er := ⟨_, rfl⟩
    have hb : (er != 0) = true := by rw [← her]; simpa using hz
    have HCF := Lib.hid ((HC5.out.trans ((Chg.refl [] w5).alloc (.cells #[.slice none 0 0, .slice none 0 0] 30)) (by simp)))
    rw [her]
    clear hno hyes hz her
    go_wp2
    go_ret
    exact ⟨rfl, HW.out _ HCF.out⟩
end Go.Proofs.Ytckjpaimbmlboaa
