/- law 08's awake: true. -/
import Derived.Test.YtpbljifejopecaaVWake
import Derived.Test.YtpbljifejopecaaVWhole
import Derived.Test.YtpbljifejopecaaVMisc
namespace Go.Proofs.Ytpbljifejopecaa
open Go.RowKit Go.Maps

theorem gr0_at (w : World) : GrAt w (.agg #[.int .i64 2, .slice none 0 0]) Plain.g0 := by
  exact ⟨none, 0, rfl, I64.mk (by decide) (by decide), by decide, fun i hi => absurd hi (by simp [Plain.g0]), fun i hi => absurd hi (by simp [Plain.g0])⟩

theorem t0_at (w : World) : RowsAt (w.alloc (.cells #[.slice none 0 0, .slice none 0 0] 25)) (.slice (some ⟨w.heap.size, 0, none⟩) 2 2) Plain.t0 := by
  have h := heap_alloc_new w (.cells #[.slice none 0 0, .slice none 0 0] 25)
  refine ⟨_, 2, rfl, by decide, fun i hi => ?_⟩
  have hi : i < 2 := hi
  rcases i with _ | _ | i
  · exact ⟨_, 0, .slice none 0 0, rfl, (cell_of_row _ _ 0 _ _ _ h).trans rfl, ⟨none, 0, 0, rfl, by decide, by decide⟩, IntsAt.nil _⟩
  · exact ⟨_, 0, .slice none 0 0, rfl, (cell_of_row _ _ 1 _ _ _ h).trans rfl, ⟨none, 0, 0, rfl, by decide, by decide⟩, IntsAt.nil _⟩
  · omega
theorem s0_at (w w' : World) (hc : Chg [] (w.alloc (.cells #[.int .i64 (-2), .int .i64 (-1)] 3)) w') : RowsAt (w'.alloc (.cells #[.slice (some ⟨w.heap.size, 0, none⟩) 2 2] 25)) (.slice (some ⟨w'.heap.size, 0, none⟩) 1 1) Plain.s0 := by
  have h := heap_alloc_new w' (.cells #[.slice (some ⟨w.heap.size, 0, none⟩) 2 2] 25)
  refine ⟨_, 1, rfl, by decide, fun i hi => ?_⟩
  have hi : i < 1 := hi
  obtain rfl : i = 0 := by omega
  exact ⟨_, 0, _, rfl, (cell_of_row _ _ 0 _ _ _ h).trans rfl, ⟨_, 2, 2, rfl, by decide, by decide⟩, ((lit_two w (x := -2) (y := -1) (I64.mk (by decide) (by decide)) (I64.mk (by decide) (by decide))).fresh hc).fresh ((Chg.refl [] w').alloc _)⟩

theorem rowsNil (w : World) : RowsAt w (.slice none 0 0) [] := ⟨none, 0, rfl, by decide, fun i hi => absurd hi (by simp)⟩

theorem s0_len (i : Nat) : (Plain.s0.getD i []).length ≤ 10000 := by
  rcases i with _ | i
  · decide
  · simp [Plain.s0, List.getD]

set_option maxRecDepth 100000 in
set_option maxHeartbeats 4000000 in
theorem awake8_any (w : World) : Calls Try.prog 12 #[] w fun e w' => e = .returned (.bool true) ∧ Chg [] w w' := by
  have HC1 := Lib.hid ((Chg.refl [] w).alloc (.cells #[.int .i64 2, .slice none 0 0] 24))
  have b0 := (cell_of_row _ _ 0 _ _ _ (heap_alloc_new w (.cells #[.int .i64 2, .slice none 0 0] 24))).trans (show _ = some (Value.int .i64 2) from rfl)
  have b1 := (cell_of_row _ _ 1 _ _ _ (heap_alloc_new w (.cells #[.int .i64 2, .slice none 0 0] 24))).trans (show _ = some (Value.slice none 0 0) from rfl)
  have B0 := Lib.hid b0
  have B1 := Lib.hid b1
  go_enter Try.func12, Try.ntmps12
  go_wp2_with fail
  refine (whole_any _ Plain.g0 2 _ rfl (by decide) (by decide) (gr0_at _)).mono ?_
  rintro e w2 ⟨v1, v2, rfl, r1, r2, hc2⟩
  obtain ⟨a1, q1, rfl⟩ := r1.shape
  obtain ⟨a2, q2, rfl⟩ := r2.shape
  rw [show (Plain.upTo 2).length = 2 from rfl] at r1 ⊢
  rw [show (Plain.upTo Plain.g0.e.length).length = 0 from rfl] at r2 ⊢
  have c0 := hc2.cell b0 (by simp)
  have c1 := hc2.cell b1 (by simp)
  have c0n := fun o => cellNew c0 o
  have c1n := fun o => cellNew c1 o
  have d0 := (cell_of_row _ _ 0 _ _ _ (heap_alloc_new w2 (.cells #[.slice a1 2 q1, .slice a2 0 q2] 27))).trans (show _ = some (Value.slice a1 2 q1) from rfl)
  have d1 := (cell_of_row _ _ 1 _ _ _ (heap_alloc_new w2 (.cells #[.slice a1 2 q1, .slice a2 0 q2] 27))).trans (show _ = some (Value.slice a2 0 q2) from rfl)
  have HR1 := Lib.hid r1
  have HR2 := Lib.hid r2
  have HC2 := Lib.hid hc2
  clear r1 r2 hc2 b0 b1
  go_wp2_with fail
  have sA : (w2.alloc (.cells #[.slice a1 2 q1, .slice a2 0 q2] 27)).heap.size = w2.heap.size + 1 := by simp
  have ht := t0_at (w2.alloc (.cells #[.slice a1 2 q1, .slice a2 0 q2] 27))
  rw [sA] at ht
  have sB : ((w2.alloc (.cells #[.slice a1 2 q1, .slice a2 0 q2] 27)).alloc (.cells #[.slice none 0 0, .slice none 0 0] 25)).heap.size = w2.heap.size + 1 + 1 := by simp
  have sC : (((w2.alloc (.cells #[.slice a1 2 q1, .slice a2 0 q2] 27)).alloc (.cells #[.slice none 0 0, .slice none 0 0] 25)).alloc (.cells #[.int .i64 (-2), .int .i64 (-1)] 3)).heap.size = w2.heap.size + 1 + 1 + 1 := by simp
  have hs := s0_at ((w2.alloc (.cells #[.slice a1 2 q1, .slice a2 0 q2] 27)).alloc (.cells #[.slice none 0 0, .slice none 0 0] 25)) (((w2.alloc (.cells #[.slice a1 2 q1, .slice a2 0 q2] 27)).alloc (.cells #[.slice none 0 0, .slice none 0 0] 25)).alloc (.cells #[.int .i64 (-2), .int .i64 (-1)] 3)) (Chg.refl _ _)
  rw [sB, sC] at hs
  have cB := ((Chg.refl [] ((w2.alloc (.cells #[.slice a1 2 q1, .slice a2 0 q2] 27)).alloc (.cells #[.slice none 0 0, .slice none 0 0] 25))).alloc (.cells #[.int .i64 (-2), .int .i64 (-1)] 3)).alloc (.cells #[.slice (some ⟨w2.heap.size + 1 + 1, 0, none⟩) 2 2] 25)
  have cA := ((Chg.refl [] (w2.alloc (.cells #[.slice a1 2 q1, .slice a2 0 q2] 27))).alloc (.cells #[.slice none 0 0, .slice none 0 0] 25)).trans cB (by simp)
  have c2 := ((Chg.refl [] w2).alloc (.cells #[.slice a1 2 q1, .slice a2 0 q2] 27)).trans cA (by simp)
  have HPL := Lib.hid (show PlAt _ _ Plain.t0 Plain.s0 from ⟨_, _, rfl, ht.fresh cB, hs⟩)
  have HPT := Lib.hid (show ∀ wx, Chg [] w2 wx → PtAt wx (.agg #[.slice a1 2 q1, .slice a2 0 q2]) Plain.p0 from fun wx hx => ⟨_, _, rfl, HR1.out.ints.fresh hx, HR2.out.ints.fresh hx⟩)
  have HC4 := Lib.hid c2
  have D0 := Lib.hid (cA.cell d0 (by simp))
  have D1 := Lib.hid (cA.cell d1 (by simp))
  have C0 := Lib.hid c0
  have C1 := Lib.hid c1
  clear sA sB sC ht hs cB cA c2 c0n c1n d0 d1 c0 c1
  generalize ((((w2.alloc (.cells #[.slice a1 2 q1, .slice a2 0 q2] 27)).alloc (.cells #[.slice none 0 0, .slice none 0 0] 25)).alloc (.cells #[.int .i64 (-2), .int .i64 (-1)] 3)).alloc (.cells #[.slice (some ⟨w2.heap.size + 1 + 1, 0, none⟩) 2 2] 25)) = w4 at *
  refine (regions_any _ _ _ Plain.g0 Plain.p0 Plain.t0 Plain.s0 _ (by decide) (by decide) (by decide) (by decide) (by decide) s0_len (gr0_at _) (HPT.out _ HC4.out) HPL.out).mono ?_
  rintro e w5 ⟨ov, rfl, -, hres, hc5⟩
  obtain ⟨vs, ll, h1, h2, -, -⟩ := hres Plain.plan0
  obtain rfl := Plain.regs0 h2
  have hvl : vs.length = 1 := h1.len
  obtain ⟨g, cap, rfl⟩ := owns_some h1.out (by omega)
  have hrow := h1.rows 0 (by omega)
  have hcell := h1.out.cellAt 0 (by omega)
  obtain ⟨rb, rc, hrv⟩ := owns_some hrow (by decide)
  have hv0 : vs[0]? = some (Value.slice (some ⟨rb, 0, none⟩) 2 rc) := by
    rw [List.getElem?_eq_getElem (by omega), ← getD_at vs (by omega : 0 < vs.length), hrv]; rfl
  rw [hrv] at hrow
  have HI5 := Lib.hid (show IntsAt w5 (.slice (some ⟨rb, 0, none⟩) 2 rc) [-2, -1] from RowAt.ints (B := w4.heap.size) ⟨hrow, by simp; exact ⟨I64.mk (by decide) (by decide), I64.mk (by decide) (by decide)⟩, by simp⟩)
  rw [hvl, Plain.plan0]
  have HC5 := Lib.hid (HC4.out.trans hc5 (by simp))
  have k0 : w5.cell? ⟨g, 0, none⟩ = some (Value.slice (some ⟨rb, 0, none⟩) 2 rc) := hcell.trans hv0
  have D05 := Lib.hid (hc5.cell D0.out (by simp))
  have D15 := Lib.hid (hc5.cell D1.out (by simp))
  have hI1 : I64 (-2) := I64.mk (by decide) (by decide)
  have hI2 : I64 (-1) := I64.mk (by decide) (by decide)
  have HL5 := Lib.hid (lit_two w5 hI1 hI2)
  have CL5 := Lib.hid ((Chg.refl [] w5).alloc (.cells #[.int .i64 (-2), .int .i64 (-1)] 3))
  clear hres h1 h2 hrow hcell hv0 hrv hvl hc5 hI1 hI2
  go_wp2_with fail
  refine (equal_any _ _ [-2, -1] [-2, -1] _ (HI5.out.fresh CL5.out) HL5.out).mono ?_
  rintro e w6 ⟨rfl, hc6⟩
  have HC6 := Lib.hid ((HC5.out.trans CL5.out (by simp)).trans hc6 (by simp))
  have c0 := HC6.out.cell C0.out (by simp)
  have c1 := HC6.out.cell C1.out (by simp)
  have d0 := (CL5.out.trans hc6 (by simp)).cell D05.out (by simp)
  have d1 := (CL5.out.trans hc6 (by simp)).cell D15.out (by simp)
  rw [decide_eq_true (rfl : ([-2, -1] : List Int) = [-2, -1])]
  have HT6 := Lib.hid (t0_at w6)
  have CT6 := Lib.hid ((Chg.refl [] w6).alloc (.cells #[.slice none 0 0, .slice none 0 0] 25))
  clear k0 hc6
  go_wp2_with fail
  refine (right_any _ _ _ Plain.g0 Plain.p0 Plain.t0 [] _ (by decide) (by decide) (by decide) (by decide) (by decide) (by simp) (gr0_at _) (HPT.out _ (HC6.out.trans CT6.out (by simp))) ⟨_, _, rfl, HT6.out, rowsNil _⟩).mono ?_
  rintro e w7 ⟨rfl, hc7⟩
  rw [Plain.plan1]
  have HCF := Lib.hid (((HC1.out.trans HC2.out (by simp)).trans (HC6.out.trans CT6.out (by simp)) (by simp)).trans hc7 (by simp))
  clear c0 c1 d0 d1 hc7
  go_wp2
  go_ret
  exact ⟨rfl, HCF.out⟩
end Go.Proofs.Ytpbljifejopecaa
