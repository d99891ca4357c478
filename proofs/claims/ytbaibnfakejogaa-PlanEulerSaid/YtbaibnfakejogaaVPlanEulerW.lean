/- the law PlanEuler: the walk. Conditions: a graph, a part, a plan that lie in memory and read so. -/
import Derived.Test.YtbaibnfakejogaaVAwake8
import Derived.Test.YtbaibnfakejogaaVWake
import Derived.Test.YtbaibnfakejogaaVRefP
namespace Go.Proofs.Ytbaibnfakejogaa
open Go.RowKit Go.Maps

set_option maxRecDepth 100000 in
set_option maxHeartbeats 4000000 in
theorem planEuler_any (vg vp vx : Value) (g : Plain.Gr) (p : Plain.Pt) (turn same : List (List Int)) (w : World) (hg : GrAt w vg g) (hp : PtAt w vp p) (hx : PlAt w vx turn same) :
    Calls Try.prog 3 #[vg, vp, vx] w fun e w' => e = .returned (.bool true) ∧ Chg [] w w' := by
  have HG := Lib.hid hg
  have HP := Lib.hid hp
  have HX := Lib.hid hx
  obtain ⟨eo, cap, rfl, hn, hm, hsm, hcell⟩ := hg
  obtain ⟨v1, v2, rfl, hv, he⟩ := hp
  obtain ⟨ao, ac, rfl, has, ham, hacell⟩ := hv
  obtain ⟨bo, bc, rfl, hbs, hbm, hbcell⟩ := he
  obtain ⟨t1, t2, rfl, ht, hs⟩ := hx
  obtain ⟨tno, tc, rfl, htm, -⟩ := ht
  obtain ⟨so, sc, rfl, hsm2, hsc⟩ := hs
  obtain ⟨-, -, hc1⟩ := box_two w #[.int .i64 g.n, .slice eo g.e.length cap] #[.slice ao p.v.length ac, .slice bo p.e.length bc] 24 27
  obtain ⟨-, hc3⟩ := box_three w #[.int .i64 g.n, .slice eo g.e.length cap] #[.slice ao p.v.length ac, .slice bo p.e.length bc] #[.slice tno turn.length tc, .slice so same.length sc] 24 27 30
  have HC1 := Lib.hid (hc1.trans hc3 (by simp))
  have HBXS := Lib.hid (fun w2 h => three_boxes w (g := g) (p := p) (turn := turn) (same := same) (eo := eo) (ao := ao) (bo := bo) (tno := tno) (so := so) (cap := cap) (ac := ac) (bc := bc) (tc := tc) (sc := sc) (w2 := w2) h)
  clear hcell hacell hbcell hsm hbs has hn hc1 hc3 hsc
  go_enter Try.func3, Try.ntmps3
  go_wp2_with fail
  refine (awake8_any _).mono ?_
  rintro e w2 ⟨rfl, hc2⟩
  obtain ⟨x0, x1, y0, y1, z0, z1, hsz⟩ := HBXS.out w2 hc2
  have HC2 := Lib.hid (HC1.out.trans hc2 (by simp))
  have HC2B := Lib.hid hc2
  clear hc2
  go_wp2_with fail
  refine (small8_any _ _ _ g p turn same _ (HG.out.fresh HC2.out) (HP.out.fresh HC2.out) (HX.out.fresh HC2.out)).mono ?_
  rintro e w3 ⟨rfl, hc3⟩
  have HC3 := Lib.hid (HC2.out.trans hc3 (by simp))
  have HC3B := Lib.hid (HC2B.out.trans hc3 (by simp))
  clear x0 x1 y0 y1 z0 z1 hsz hc3
  cases hb : Plain.small8 g p turn same with
  | false =>
    rw [show bit false = 0 from rfl]
    clear hb
    go_wp2_with fail
    refine (awake8_any _).mono ?_
    rintro e w4 ⟨rfl, hc4⟩
    have HC4 := Lib.hid (HC3.out.trans hc4 (by simp))
    clear hc4
    go_wp2
    go_ret
    exact ⟨rfl, HC4.out⟩
  | true =>
    obtain ⟨b1, b2, b3, b4, b5, b6⟩ := Plain.small8_is hb
    have HB4 := Lib.hid b4
    have HB6 := Lib.hid (fun i => Nat.le_trans (b6 i) (by omega : 60 ≤ 10000))
    rw [show bit true = 1 from rfl]
    obtain ⟨x0, x1, y0, y1, z0, z1, hsz⟩ := HBXS.out w3 HC3B.out
    clear hb b4 b6
    go_wp2_with fail
    refine (regions_any _ _ _ g p turn same _ (by omega) (by omega) (by omega) (by have := HB4.out; omega) (by omega) HB6.out (HG.out.fresh HC3.out) (HP.out.fresh HC3.out) (HX.out.fresh HC3.out)).mono ?_
    rintro e w4 ⟨ov, rfl, herr, hres, hc4⟩
    have HC4 := Lib.hid (HC3.out.trans hc4 (by simp))
    have HC4B := Lib.hid (HC3B.out.trans hc4 (by simp))
    clear x0 x1 y0 y1 z0 z1 hsz hc4
    obtain ⟨x0, x1, y0, y1, z0, z1, hsz⟩ := HBXS.out w4 HC4B.out
    by_cases hz : Plain.planErr g p turn same = 0
    · obtain ⟨vs, ll, h1, h2, -, h4⟩ := hres hz
      obtain ⟨he1, he2⟩ := Plain.plan_euler hz h4 h2
      have hpe := (Plain.turnErr_zero (Plain.flatErr_zero (Plain.planErr_zero hz).1).1).1
      have HPE := Lib.hid hpe
      have hll : vs.length = ll.length := h1.len
      obtain ⟨oo, oc, rfl⟩ := owns_shape h1.out
      rw [← hll] at he1 he2
      have hrl : (Plain.roots g p).length ≤ 60 := by rw [← Plain.rootsTo_all]; exact Nat.le_trans (Plain.rootsTo_len g p _) b1
      have HE1 := Lib.hid he1
      have HE2 := Lib.hid he2
      rw [hz]
      clear hres herr h1 h2 h4 hpe he1 he2 hll hz
      go_wp2_with fail
      refine (refPieces_any _ _ g p _ (by omega) (by omega) HPE.out (HG.out.fresh HC4.out) (HP.out.fresh HC4.out)).mono ?_
      rintro e w5 ⟨po, pc, rfl, hc5⟩
      have HC5 := Lib.hid (HC4.out.trans hc5 (by simp))
      have HC5B := Lib.hid (HC4B.out.trans hc5 (by simp))
      clear x0 x1 y0 y1 z0 z1 hsz hc5
      obtain ⟨x0, x1, y0, y1, z0, z1, hsz⟩ := HBXS.out w5 HC5B.out
      obtain ⟨rn, hrn⟩ : ∃ rn, (Plain.roots g p).length = rn := ⟨_, rfl⟩
      rw [hrn] at HE1 HE2 hrl ⊢
      clear hrn
      by_cases h0 : rn = 0
      · have hv0 : vs.length = 0 := HE1.out h0
        subst h0
        rw [hv0]
        clear hv0
        go_wp2
        go_ret
        exact ⟨rfl, HC5.out⟩
      · have hq := HE2.out h0
        have q0 : ((rn : Int) == 0) = false := by rw [beq_eq_false_iff_ne]; omega
        have w1 : IntKind.i64.wrap ((p.v.length : Int) - (p.e.length : Int)) = (p.v.length : Int) - (p.e.length : Int) := IntWalk.i64_in _ (by omega)
        have w2' : IntKind.i64.wrap ((p.v.length : Int) - (p.e.length : Int) + (vs.length : Int)) = (p.v.length : Int) - (p.e.length : Int) + (vs.length : Int) := IntWalk.i64_in _ (by omega)
        have w3' : IntKind.i64.wrap (1 + (rn : Int)) = 1 + (rn : Int) := IntWalk.i64_in _ (by omega)
        have q1 : ((p.v.length : Int) - (p.e.length : Int) + (vs.length : Int) == 1 + (rn : Int)) = true := by rw [beq_iff_eq]; omega
        clear hq h0
        go_wp2
        go_ret
        exact ⟨rfl, HC5.out⟩
    · have hov := herr hz
      subst hov
      have hzb : ((Plain.planErr g p turn same) != 0) = true := by simp [hz]
      clear hres herr hz
      go_wp2
      go_ret
      exact ⟨rfl, HC4.out⟩
end Go.Proofs.Ytbaibnfakejogaa
