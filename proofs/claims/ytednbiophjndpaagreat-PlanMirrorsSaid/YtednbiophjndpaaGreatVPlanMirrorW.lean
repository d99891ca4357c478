/- the law PlanMirror: the walk. Conditions: a graph, a part, a plan that lie in memory and read so. -/
import Derived.Test.YtednbiophjndpaaGreatVRefMir
import Derived.Test.YtednbiophjndpaaGreatVRef8W
namespace Go.Proofs.YtednbiophjndpaaGreat
open Go.RowKit Go.Maps
theorem mirror_any (vg vp vx : Value) (g : Plain.Gr) (p : Plain.Pt) (turn same : List (List Int)) (w : World) (hpl : p.e.length ≤ 10000) (hpv : p.v.length ≤ 10000) (hTL : turn.length < 1000000000) (hS : Plain.sumLen turn turn.length < 2147483648) (hsl : same.length ≤ 10000) (hsr : ∀ i, (same.getD i []).length ≤ 10000) (hg : GrAt w vg g) (hp : PtAt w vp p) (hx : PlAt w vx turn same) :
  Calls Tryz.prog 13 #[vg, vp, vx] w fun e w' => ∃ ov, e = .returned (.tuple #[ov, .int .i64 (Plain.planErr g p turn same)]) ∧ (Plain.planErr g p turn same ≠ 0 → ov = .agg #[.slice none 0 0, .slice none 0 0]) ∧
   (Plain.planErr g p turn same = 0 → PlAt w' ov (Plain.mirTurn turn) (Plain.mirSame g p turn same)) ∧ Chg [] w w' := by
 refine (mirror_low vg vp vx g p turn same w hpl hpv hTL hS hsl hsr hg hp hx).mono ?_
 rintro e w' ⟨ov, h1, h2, h3, h4⟩
 exact ⟨ov, h1, h2, fun h => h3 h [] w' (Chg.refl _ _) (by simp), h4⟩
namespace Plain
end Plain
set_option maxRecDepth 100000 in
set_option maxHeartbeats 8000000 in
theorem planMirrors_any (vg vp vx : Value) (g : Plain.Gr) (p : Plain.Pt) (turn same : List (List Int)) (w : World) (hg : GrAt w vg g) (hp : PtAt w vp p) (hx : PlAt w vx turn same) :
  Calls Tryz.prog 3 #[vg, vp, vx] w fun e w' => e = .returned (.bool true) ∧ Chg [] w w' := by
 have HG := Lib.hid hg
 have HP := Lib.hid hp
 have HX := Lib.hid hx
 obtain ⟨eo, cap, rfl, hn, hm, hsm, hcell⟩ := hg
 obtain ⟨v1, v2, rfl, hv, he⟩ := hp
 obtain ⟨ao, ac, rfl, has, ham, hacell⟩ := hv
 obtain ⟨bo, bc, rfl, hbs, hbm, hbcell⟩ := he
 have HAC := Lib.hid hacell
 have HBC := Lib.hid hbcell
 obtain ⟨t1, t2, rfl, ht, hs⟩ := hx
 have HT := Lib.hid ht
 have HS := Lib.hid hs
 obtain ⟨tno, tc, rfl, htm, -⟩ := ht
 obtain ⟨so, sc, rfl, hsm2, hsc⟩ := hs
 obtain ⟨-, -, hc1⟩ := box_two w #[.int .i64 g.n, .slice eo g.e.length cap] #[.slice ao p.v.length ac, .slice bo p.e.length bc] 24 27
 obtain ⟨-, hc3⟩ := box_three w #[.int .i64 g.n, .slice eo g.e.length cap] #[.slice ao p.v.length ac, .slice bo p.e.length bc] #[.slice tno turn.length tc, .slice so same.length sc] 24 27 30
 have HC1 := Lib.hid (hc1.trans hc3 (by simp))
 have HBXS := Lib.hid (fun w2 h => three_boxes w (g := g) (p := p) (turn := turn) (same := same) (eo := eo) (ao := ao) (bo := bo) (tno := tno) (so := so) (cap := cap) (ac := ac) (bc := bc) (tc := tc) (sc := sc) (w2 := w2) h)
 clear hcell hacell hbcell hsm hbs has hn hc1 hc3 hsc
 clear ham hm
 go_enter Tryz.func3, Tryz.ntmps3
 go_wp2_with fail
 refine (awake8_any _).mono ?_
 rintro e w2 ⟨rfl, hc2⟩
 obtain ⟨x0, x1, y0, y1, z0, z1, hsz⟩ := HBXS.out w2 hc2
 have HC2 := Lib.hid (HC1.out.trans hc2 (by simp))
 have HC2B := Lib.hid hc2
 clear hc2
 go_wp2_with fail
 refine (small8_any _ _ _ g p turn same _ (HG.out.fresh HC2.out) (HP.out.fresh HC2.out) (HX.out.fresh HC2.out)).mono ?_
 rintro e w3 ⟨rfl, hc3⟩
 have HC3 := Lib.hid (HC2.out.trans hc3 (by simp))
 have HC3B := Lib.hid (HC2B.out.trans hc3 (by simp))
 clear x0 x1 y0 y1 z0 z1 hsz hc3
 obtain ⟨x0, x1, y0, y1, z0, z1, hsz⟩ := HBXS.out w3 HC3B.out
 cases hb : Plain.small8 g p turn same with
 | false =>
  clear hb
  rw [show bit false = 0 from rfl]
  go_wp2_with fail
  refine (awake8_any _).mono ?_
  rintro e w4 ⟨rfl, hc4⟩
  have HC4 := Lib.hid (HC3.out.trans hc4 (by simp))
  clear hc4
  go_wp2
  go_ret
  exact ⟨rfl, HC4.out⟩
 | true =>
  obtain ⟨b1, b2, b3, b4, b5, b6⟩ := Plain.small8_is hb
  have hgl : g.e.length ≤ 60 := by
   unfold Plain.small8 Plain.small6 Plain.small4 at hb
   simp only [Bool.and_eq_true, decide_eq_true_eq] at hb
   exact hb.1.1.1.1.1.1.1
  have HB4 := Lib.hid b4
  have HB6 := Lib.hid (fun i => Nat.le_trans (b6 i) (by omega : 60 ≤ 10000))
  have HB7 := Lib.hid (fun i => Nat.le_trans (b6 i) (by omega : 60 ≤ 1000))
  have HROWS := Lib.hid (Plain.small8_four hb).2
  have HRL := Lib.hid (fun (v : Int) => Nat.lt_of_le_of_lt (HROWS.out v.toNat) (by decide : 200 < 4294967296))
  clear hb b4 b6
  rw [show bit true = 1 from rfl]
  go_wp2_with fail
  refine (mirror_any _ _ _ g p turn same _ (by omega) (by omega) (by omega) (by have := HB4.out; omega) (by omega) HB6.out (HG.out.fresh HC3.out) (HP.out.fresh HC3.out) (HX.out.fresh HC3.out)).mono ?_
  rintro e w4 ⟨ov, rfl, hno, hyes, hc4⟩
  have HC4 := Lib.hid (HC3.out.trans hc4 (by simp))
  have HC4B := Lib.hid (HC3B.out.trans hc4 (by simp))
  clear x0 x1 y0 y1 z0 z1 hsz hc4
  by_cases hz : Plain.planErr g p turn same = 0
  ·have HZ := Lib.hid hz
   have HPL := Lib.hid (hyes hz)
   obtain ⟨u1, u2, rfl, ⟨o1, k1, rfl, -⟩, ⟨o2, k2, rfl, -⟩⟩ := hyes hz
   obtain ⟨A1, hA1⟩ : ∃ x, Plain.mirTurn turn = x := ⟨_, rfl⟩
   obtain ⟨A2, hA2⟩ : ∃ x, Plain.mirSame g p turn same = x := ⟨_, rfl⟩
   have HA1 := Lib.hid hA1
   have HA2 := Lib.hid hA2
   rw [hA1, hA2] at HPL
   rw [hA1, hA2, hz]
   have hset : Chg [] w4 (w4.alloc (.cells #[.slice o1 A1.length k1, .slice o2 A2.length k2] 30)) := (Chg.refl [] w4).alloc _
   have hheap := heap_alloc_new w4 (.cells #[.slice o1 A1.length k1, .slice o2 A2.length k2] 30)
   have HF0 := Lib.hid ((cell_of_row _ _ 0 _ _ _ hheap).trans (show _ = some (Value.slice o1 A1.length k1) from rfl))
   have HF1 := Lib.hid ((cell_of_row _ _ 1 _ _ _ hheap).trans (show _ = some (Value.slice o2 A2.length k2) from rfl))
   have HCS := Lib.hid hset
   obtain ⟨x0, x1, y0, y1, z0, z1, hsz⟩ := HBXS.out _ (HC4B.out.trans hset (by simp))
   clear hno hyes hz hset hheap hA1 hA2
   go_wp2_with fail
   generalize (w4.alloc (.cells #[.slice o1 A1.length k1, .slice o2 A2.length k2] 30)) = w5 at *
   generalize w4.heap.size = xb at *
   have HC5 := Lib.hid (HC4.out.trans HCS.out (by simp))
   have HC5B := Lib.hid (HC4B.out.trans HCS.out (by simp))
   refine (refRight8_any _ _ _ g p turn same _ (by omega) (by omega) (by omega) HRL.out (by omega) HB6.out (HG.out.fresh HC5.out) (HP.out.fresh HC5.out) (HX.out.fresh HC5.out)).mono ?_
   rintro e w6 ⟨rfl, hc6⟩
   rw [HZ.out]
   have HC6 := Lib.hid (HC5.out.trans hc6 (by simp))
   have HC6B := Lib.hid (HC5B.out.trans hc6 (by simp))
   have HC46 := Lib.hid (HCS.out.trans hc6 (by simp))
   have M0 := Lib.hid (hc6.cell HF0.out (by simp))
   have M1 := Lib.hid (hc6.cell HF1.out (by simp))
   clear x0 x1 y0 y1 z0 z1 hsz hc6
   obtain ⟨x0, x1, y0, y1, z0, z1, hsz⟩ := HBXS.out _ HC6B.out
   go_wp2_with fail
   refine (refMirror_any _ _ _ g p turn same _ (by omega) (by omega) (by omega) (fun i => Nat.lt_of_le_of_lt (HROWS.out i) (by decide)) (by omega) HB7.out HZ.out (HG.out.fresh HC6.out) (HP.out.fresh HC6.out) (HX.out.fresh HC6.out)).mono ?_
   rintro e w7 ⟨ov2, rfl, hpl2, hc7⟩
   rw [HA1.out, HA2.out] at hpl2
   have HPY := Lib.hid hpl2
   obtain ⟨u3, u4, rfl, ⟨o3, k3, rfl, -⟩, ⟨o4, k4, rfl, -⟩⟩ := hpl2
   have HC7 := Lib.hid (HC6.out.trans hc7 (by simp))
   have HC47 := Lib.hid (HC46.out.trans hc7 (by simp))
   have M07 := Lib.hid (hc7.cell M0.out (by simp))
   have M17 := Lib.hid (hc7.cell M1.out (by simp))
   have hset : Chg [] w7 (w7.alloc (.cells #[.slice o3 A1.length k3, .slice o4 A2.length k4] 30)) := (Chg.refl [] w7).alloc _
   have hheap := heap_alloc_new w7 (.cells #[.slice o3 A1.length k3, .slice o4 A2.length k4] 30)
   have N0 := Lib.hid ((cell_of_row _ _ 0 _ _ _ hheap).trans (show _ = some (Value.slice o3 A1.length k3) from rfl))
   have N1 := Lib.hid ((cell_of_row _ _ 1 _ _ _ hheap).trans (show _ = some (Value.slice o4 A2.length k4) from rfl))
   have HC8 := Lib.hid (HC7.out.trans hset (by simp))
   have HC48 := Lib.hid (HC47.out.trans hset (by simp))
   have HC78 := Lib.hid hset
   have m0 := hset.cell M07.out (by simp)
   have m1 := hset.cell M17.out (by simp)
   have n0 := N0.out
   have n1 := N1.out
   have H0 := Lib.hid m0
   have H1 := Lib.hid m1
   clear x0 x1 y0 y1 z0 z1 hsz hc7 hset hheap
   go_wp2_with fail
   generalize (w7.alloc (.cells #[.slice o3 A1.length k3, .slice o4 A2.length k4] 30)) = w8 at *
   generalize w7.heap.size = zb at *
   have HR1 := Lib.hid (show RowsAt w8 (.slice o1 A1.length k1) A1 by
    obtain ⟨v1, v2, e1, hr, -⟩ := HPL.out.fresh HC48.out
    cases e1
    exact hr)
   have HR2 := Lib.hid (show RowsAt w8 (.slice o2 A2.length k2) A2 by
    obtain ⟨v1, v2, e1, -, hr⟩ := HPL.out.fresh HC48.out
    cases e1
    exact hr)
   have HR3 := Lib.hid (show RowsAt w8 (.slice o3 A1.length k3) A1 by
    obtain ⟨v1, v2, e1, hr, -⟩ := HPY.out.fresh HC78.out
    cases e1
    exact hr)
   have HR4 := Lib.hid (show RowsAt w8 (.slice o4 A2.length k4) A2 by
    obtain ⟨v1, v2, e1, -, hr⟩ := HPY.out.fresh HC78.out
    cases e1
    exact hr)
   refine (refEquals_any _ _ A1 A1 _ HR1.out HR3.out).mono ?_
   rintro e w9 ⟨rfl, hc9⟩
   have HC9 := Lib.hid (HC8.out.trans hc9 (by simp))
   have HR29 := Lib.hid (HR2.out.fresh hc9)
   have HR49 := Lib.hid (HR4.out.fresh hc9)
   have k0 := hc9.cell H0.out (by simp)
   have k1 := hc9.cell H1.out (by simp)
   have k2 := hc9.cell N0.out (by simp)
   have k3 := hc9.cell N1.out (by simp)
   rw [decide_eq_true (rfl : A1 = A1)]
   clear m0 m1 n0 n1 hc9
   go_wp2_with fail
   refine (refEquals_any _ _ A2 A2 _ HR29.out HR49.out).mono ?_
   rintro e w10 ⟨rfl, hc10⟩
   have HC10 := Lib.hid (HC9.out.trans hc10 (by simp))
   rw [decide_eq_true (rfl : A2 = A2)]
   clear k0 k1 k2 k3 hc10
   go_wp2
   go_ret
   exact ⟨rfl, HC10.out⟩
  have hov := hno hz
  subst hov
  obtain ⟨er, her⟩ : ∃ er, Plain.planErr g p turn same = er := ⟨_, rfl⟩
  have HER := Lib.hid her
  have hb : (er != 0) = true := by rw [← her]; simpa using hz
  have hset : Chg [] w4 (w4.alloc (.cells #[.slice none 0 0, .slice none 0 0] 30)) := (Chg.refl [] w4).alloc _
  have HCS := Lib.hid hset
  obtain ⟨x0, x1, y0, y1, z0, z1, hsz⟩ := HBXS.out _ (HC4B.out.trans hset (by simp))
  rw [her]
  clear hno hyes hz her hset
  go_wp2_with fail
  generalize (w4.alloc (.cells #[.slice none 0 0, .slice none 0 0] 30)) = w5 at *
  generalize w4.heap.size = xb at *
  have HC5 := Lib.hid (HC4.out.trans HCS.out (by simp))
  have HC5B := Lib.hid (HC4B.out.trans HCS.out (by simp))
  refine (refRight8_any _ _ _ g p turn same _ (by omega) (by omega) (by omega) HRL.out (by omega) HB6.out (HG.out.fresh HC5.out) (HP.out.fresh HC5.out) (HX.out.fresh HC5.out)).mono ?_
  rintro e w6 ⟨rfl, hc6⟩
  rw [HER.out]
  have HC6 := Lib.hid (HC5.out.trans hc6 (by simp))
  have HC6B := Lib.hid (HC5B.out.trans hc6 (by simp))
  clear x0 x1 y0 y1 z0 z1 hsz hc6
  obtain ⟨x0, x1, y0, y1, z0, z1, hsz⟩ := HBXS.out _ HC6B.out
  go_wp2_with fail
  refine (refRight8_any _ _ _ g p turn same _ (by omega) (by omega) (by omega) HRL.out (by omega) HB6.out (HG.out.fresh HC6.out) (HP.out.fresh HC6.out) (HX.out.fresh HC6.out)).mono ?_
  rintro e w7 ⟨rfl, hc7⟩
  rw [HER.out]
  have HC7 := Lib.hid (HC6.out.trans hc7 (by simp))
  have be : (er == er) = true := by simp
  clear x0 x1 y0 y1 z0 z1 hsz hc7
  go_wp2
  go_ret
  exact ⟨rfl, HC7.out⟩
end Go.Proofs.YtednbiophjndpaaGreat
