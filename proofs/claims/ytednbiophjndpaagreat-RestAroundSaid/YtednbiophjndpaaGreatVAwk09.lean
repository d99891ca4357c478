/- law 09's awake: true. -/
import Derived.Test.YtednbiophjndpaaGreatVRef09
namespace Go.Proofs.YtednbiophjndpaaGreat
open Go.RowKit Go.Maps
namespace Plain
def q9 : Pt := ⟨[0, 1, 2, 3], []⟩
theorem err9 : q9.err g1 = 0 := by decide
theorem walks9 : walksOf g1 q9 (restTurn q9.e t1) = [(-4, []), (-3, []), (-2, []), (-1, [])] := by
 have h : WalksOk g1 q9 (restTurn q9.e t1) (loneAt (restTurn q9.e t1) q9.v ++ []) := Trk.walks (Pt.ok_of_err err9) (Trk.start _ _ _)
 rw [← h.eq err9]
 decide
theorem same9 : restSame g1 p1 q9 t1 [[-4, 1]] = [[-4, -3, -2, -1]] := by
 have hr : regionsOf g1 p1 t1 [[-4, 1]] = [[-4, 1], [0]] := by
  have hpt := parted (plan1w (Or.inr rfl)) (by rw [walksOf1]; exact walks1)
  refine (IsRegs.eq hpt ⟨?_, ?_⟩).symm
  ·unfold allRegs
   rw [walksOf1]
   decide
  decide
 unfold restSame
 rw [hr, walksOf1, walks9]
 decide
theorem rest9 : restErr g1 p1 q9 t1 [[-4, 1]] = 0 := restErr_zero (plan1w (Or.inr rfl)) err9 (by decide) (by decide)
end Plain
theorem ints_four {w : World} {b : Nat} {x y z u : Int} (h : w.heap[b]? = some (.cells #[.int .i64 x, .int .i64 y, .int .i64 z, .int .i64 u] 3)) (hx : I64 x) (hy : I64 y) (hz : I64 z) (hu : I64 u) : IntsAt w (.slice (some ⟨b, 0, none⟩) 4 4) [x, y, z, u] := by
 refine ⟨_, 4, rfl, by simp [hx, hy, hz, hu], by simp, fun _ => ⟨b, 0, rfl, fun i hi => ?_⟩⟩
 simp at hi
 rw [cell_of_row _ _ _ _ _ _ h]
 rcases i with _ | _ | _ | _ | i
 ·rfl
 ·rfl
 ·rfl
 ·rfl
 omega
theorem lit_four (w : World) {x y z u : Int} (hx : I64 x) (hy : I64 y) (hz : I64 z) (hu : I64 u) : IntsAt (w.alloc (.cells #[.int .i64 x, .int .i64 y, .int .i64 z, .int .i64 u] 3)) (.slice (some ⟨w.heap.size, 0, none⟩) 4 4) [x, y, z, u] := ints_four (heap_alloc_new w _) hx hy hz hu
theorem rtri_any (vg vp vx vq : Value) (w : World) (hg : GrAt w vg Plain.g1) (hp : PtAt w vp Plain.p1) (hx : PlAt w vx Plain.t1 [[-4, 1]]) (hq : PtAt w vq Plain.q9) :
  Calls Tryz.prog 46 #[vg, vp, vx, vq] w fun e w' => ∃ u1 u2, e = .returned (.tuple #[.agg #[u1, u2], .int .i64 0]) ∧ (∀ own wx, Chg own w' wx → (∀ j ∈ own, j < w.heap.size) → ∃ o2 c2, u2 = .slice o2 1 c2 ∧ RowsAt wx (.slice o2 1 c2) [[-4, -3, -2, -1]]) ∧ (∃ a1 n1 c1 a2 n2 c2, u1 = .slice a1 n1 c1 ∧ u2 = .slice a2 n2 c2) ∧ Chg [] w w' := by
 refine (restTo_low vg vp vx vq Plain.g1 Plain.p1 Plain.q9 Plain.t1 [[-4, 1]] w (by decide) (by decide) (by decide) (by decide) (by decide) (by decide) (by decide) (fun i => ?_) hg hp hx hq).mono ?_
 ·rcases i with _ | i
  ·simp
  simp [List.getD]
 rintro e w' ⟨ov, rfl, -, h3, h4⟩
 have h5 := h3 Plain.rest9
 obtain ⟨t1, t2, rfl, r1, r2⟩ := h5 [] w' (Chg.refl _ _) (by simp)
 obtain ⟨a1, c1, rfl, -⟩ := r1
 obtain ⟨a2, c2, rfl, -⟩ := r2
 rw [Plain.rest9]
 refine ⟨_, _, rfl, fun own wx hc hl => ?_, ⟨_, _, _, _, _, _, rfl, rfl⟩, h4⟩
 obtain ⟨s1, s2, e, -, k2⟩ := h5 own wx hc hl
 simp only [Value.agg.injEq] at e
 cases e
 rw [Plain.same9] at k2
 exact ⟨a2, c2, by rw [Plain.same9]; rfl, k2⟩
set_option maxRecDepth 100000 in
set_option maxHeartbeats 4000000 in
theorem awake09_any (w : World) : Calls Tryz.prog 17 #[] w fun e w' => e = .returned (.bool true) ∧ Chg [] w w' := by
 go_enter Tryz.func17, Tryz.ntmps17
 go_wp2
 obtain ⟨a0, s0, -⟩ := alloc_at w (.cells #[.int .i64 0, .int .i64 1, .int .i64 1, .int .i64 2, .int .i64 2, .int .i64 0] 96) w.heap.size rfl
 obtain ⟨a1, s1, k1⟩ := alloc_at _ (.cells #[.int .i64 4, .slice (some ⟨w.heap.size, 0, none⟩) 3 3] 24) _ s0
 obtain ⟨a2, s2, k2⟩ := alloc_at _ (.cells #[.int .i64 0, .int .i64 5] 3) _ s1
 obtain ⟨a3, s3, k3⟩ := alloc_at _ (.cells #[.int .i64 1, .int .i64 2] 3) _ s2
 obtain ⟨a4, s4, k4⟩ := alloc_at _ (.cells #[.int .i64 3, .int .i64 4] 3) _ s3
 obtain ⟨a5, s5, k5⟩ := alloc_at _ (.cells #[.slice (some ⟨w.heap.size + 1 + 1, 0, none⟩) 2 2, .slice (some ⟨w.heap.size + 1 + 1 + 1, 0, none⟩) 2 2, .slice (some ⟨w.heap.size + 1 + 1 + 1 + 1, 0, none⟩) 2 2, .slice none 0 0] 25) _ s4
 obtain ⟨a6, s6, k6⟩ := alloc_at _ (.cells #[.int .i64 (-4), .int .i64 1] 3) _ s5
 obtain ⟨a7, s7, k7⟩ := alloc_at _ (.cells #[.slice (some ⟨w.heap.size + 1 + 1 + 1 + 1 + 1 + 1, 0, none⟩) 2 2] 25) _ s6
 obtain ⟨a8, s8, k8⟩ := alloc_at _ (.cells #[.slice (some ⟨w.heap.size + 1 + 1 + 1 + 1 + 1, 0, none⟩) 4 4, .slice (some ⟨w.heap.size + 1 + 1 + 1 + 1 + 1 + 1 + 1, 0, none⟩) 1 1] 30) _ s7
 have k28 : ∀ {b : Nat} {o' : Obj}, _ → _ := fun {b o'} h => k8 b o' (k7 b o' (k6 b o' (k5 b o' (k4 b o' (k3 b o' h)))))
 have hg9 := gr_tri (k28 (k2 _ _ (k1 _ _ a0)))
 have hb1 := k28 (k2 _ _ a1)
 have x0 := (cell_of_row _ _ 0 _ _ _ hb1).trans (show _ = some (Value.int .i64 4) from rfl)
 have x1 := (cell_of_row _ _ 1 _ _ _ hb1).trans (show _ = some (Value.slice (some ⟨w.heap.size, 0, none⟩) 3 3) from rfl)
 have d0 := (cell_of_row _ _ 0 _ _ _ a8).trans (show _ = some (Value.slice (some ⟨w.heap.size + 1 + 1 + 1 + 1 + 1, 0, none⟩) 4 4) from rfl)
 have d1 := (cell_of_row _ _ 1 _ _ _ a8).trans (show _ = some (Value.slice (some ⟨w.heap.size + 1 + 1 + 1 + 1 + 1 + 1 + 1, 0, none⟩) 1 1) from rfl)
 have hpl := pl_tri (I64.mk (by decide) (by decide) : I64 1) (k28 a2) (k8 _ _ (k7 _ _ (k6 _ _ (k5 _ _ (k4 _ _ a3))))) (k8 _ _ (k7 _ _ (k6 _ _ (k5 _ _ a4)))) (k8 _ _ (k7 _ _ (k6 _ _ a5))) (k8 _ _ (k7 _ _ a6)) (k8 _ _ a7)
 have hc9 := (((((((((Chg.refl [] w).alloc (.cells #[.int .i64 0, .int .i64 1, .int .i64 1, .int .i64 2, .int .i64 2, .int .i64 0] 96)).alloc (.cells #[.int .i64 4, .slice (some ⟨w.heap.size, 0, none⟩) 3 3] 24)).alloc (.cells #[.int .i64 0, .int .i64 5] 3)).alloc (.cells #[.int .i64 1, .int .i64 2] 3)).alloc (.cells #[.int .i64 3, .int .i64 4] 3)).alloc (.cells #[.slice (some ⟨w.heap.size + 1 + 1, 0, none⟩) 2 2, .slice (some ⟨w.heap.size + 1 + 1 + 1, 0, none⟩) 2 2, .slice (some ⟨w.heap.size + 1 + 1 + 1 + 1, 0, none⟩) 2 2, .slice none 0 0] 25)).alloc (.cells #[.int .i64 (-4), .int .i64 1] 3)).alloc (.cells #[.slice (some ⟨w.heap.size + 1 + 1 + 1 + 1 + 1 + 1, 0, none⟩) 2 2] 25)).alloc (.cells #[.slice (some ⟨w.heap.size + 1 + 1 + 1 + 1 + 1, 0, none⟩) 4 4, .slice (some ⟨w.heap.size + 1 + 1 + 1 + 1 + 1 + 1 + 1, 0, none⟩) 1 1] 30)
 clear k28 k1 k2 k3 k4 k5 k6 k7 k8 a0 a1 a2 a3 a4 a5 a6 a7 a8 s0 s1 s2 s3 s4 s5 s6 s7 s8 hb1
 generalize ((((((((w.alloc (.cells #[.int .i64 0, .int .i64 1, .int .i64 1, .int .i64 2, .int .i64 2, .int .i64 0] 96)).alloc (.cells #[.int .i64 4, .slice (some ⟨w.heap.size, 0, none⟩) 3 3] 24)).alloc (.cells #[.int .i64 0, .int .i64 5] 3)).alloc (.cells #[.int .i64 1, .int .i64 2] 3)).alloc (.cells #[.int .i64 3, .int .i64 4] 3)).alloc (.cells #[.slice (some ⟨w.heap.size + 1 + 1, 0, none⟩) 2 2, .slice (some ⟨w.heap.size + 1 + 1 + 1, 0, none⟩) 2 2, .slice (some ⟨w.heap.size + 1 + 1 + 1 + 1, 0, none⟩) 2 2, .slice none 0 0] 25)).alloc (.cells #[.int .i64 (-4), .int .i64 1] 3)).alloc (.cells #[.slice (some ⟨w.heap.size + 1 + 1 + 1 + 1 + 1 + 1, 0, none⟩) 2 2] 25)).alloc (.cells #[.slice (some ⟨w.heap.size + 1 + 1 + 1 + 1 + 1, 0, none⟩) 4 4, .slice (some ⟨w.heap.size + 1 + 1 + 1 + 1 + 1 + 1 + 1, 0, none⟩) 1 1] 30) = w9 at *
 generalize w.heap.size + 1 + 1 + 1 + 1 + 1 + 1 + 1 + 1 = bp at *
 generalize w.heap.size + 1 + 1 + 1 + 1 + 1 + 1 + 1 = b7 at *
 generalize w.heap.size + 1 + 1 + 1 + 1 + 1 + 1 = b6 at *
 generalize w.heap.size + 1 + 1 + 1 + 1 + 1 = b5 at *
 generalize w.heap.size + 1 + 1 + 1 + 1 = b4 at *
 generalize w.heap.size + 1 + 1 + 1 = b3 at *
 generalize w.heap.size + 1 + 1 = b2 at *
 generalize w.heap.size + 1 = bg at *
 generalize w.heap.size = be at *
 have HG := Lib.hid hg9
 have HPL := Lib.hid hpl
 have HC9 := Lib.hid hc9
 have E4 := Lib.hid (show Plain.upTo 4 = Plain.p1.v by decide)
 have E3 := Lib.hid (show Plain.upTo Plain.g1.e.length = Plain.p1.e by decide)
 have J0 : ∀ x : Int, -100 ≤ x → x ≤ 100 → I64 x := fun x a b => I64.mk (by omega) (by omega)
 have HJ := Lib.hid J0
 clear hg9 hpl hc9 J0
 go_cut [3, 4] (fun c3 c4 wc => ∃ b o2 c2, c3 = .pointer (some ⟨b, 0, none⟩) ∧ c4 = .int .i64 0 ∧ wc.cell? ⟨b, 1, none⟩ = some (.slice o2 1 c2) ∧ RowsAt wc (.slice o2 1 c2) [[-4, -3, -2, -1]] ∧ Chg [] w9 wc)
 case first =>
  have hS0 : Chg [] w9 w9.drew := (Chg.refl [] w9).drew
  refine wp_region_alts (Chg [] w9) [0, 1, 3, 5, 7, 8, 9] (.then_ 0 (.then_ 1 (.then_ 3 (.alt 2 (.alt 4 (.then_ 5 (.alt 6 (.then_ 7 (.then_ 8 (.then_ 9 (.then_ 10 (Wy.line [11, 12] .done))))) (.alt 10 (.then_ 6 (.then_ 7 (.then_ 8 (.then_ 9 (Wy.line [11, 12] .done))))) .nil))) (.alt 10 (.then_ 4 (.then_ 5 (.then_ 6 (.then_ 7 (.then_ 8 (.then_ 9 (Wy.line [11, 12] .done))))))) .nil)) (.alt 4 (.then_ 5 (.alt 2 (.alt 6 (.then_ 7 (.then_ 8 (.then_ 9 (.then_ 10 (Wy.line [11, 12] .done))))) (.alt 10 (.then_ 6 (.then_ 7 (.then_ 8 (.then_ 9 (Wy.line [11, 12] .done))))) .nil)) (.alt 10 (.then_ 2 (.then_ 6 (.then_ 7 (.then_ 8 (.then_ 9 (Wy.line [11, 12] .done)))))) .nil))) (.alt 10 (.alt 2 (.then_ 4 (.then_ 5 (.then_ 6 (.then_ 7 (.then_ 8 (.then_ 9 (Wy.line [11, 12] .done))))))) (.alt 4 (.then_ 5 (.then_ 2 (.then_ 6 (.then_ 7 (.then_ 8 (.then_ 9 (Wy.line [11, 12] .done))))))) .nil)) .nil)))))) (by kernel_rfl) (by kernel_rfl) ?_
  simp only [Wy.line]
  generalize w9.drew = w0 at *
  repeat
   first
    | (refine alts_off rfl (by rfl) (by rfl) (fun _ _ _ h => h) hS0 ?_; simp only [Act.put, Z1, Z2, Z3, Z4, Z5, Z6])
    | (refine alts_read (v := ?_) rfl (by rfl) (by rfl) (fun _ _ _ h => h) hS0 (fun w' hS' => ?_) ?_; rotate_left; (focus (have rd0 := hS'.cell x0 (by simp); have rd1 := hS'.cell x1 (by simp); have rd2 := hS'.cell d0 (by simp); have rd3 := hS'.cell d1 (by simp); clear hS'; go_simp; try with_reducible rfl)); simp only [Act.put, Z1, Z2, Z3, Z4, Z5, Z6])
    | (refine alts_skip rfl (by rfl) (by rfl) hS0 ?_; simp only [Act.put, Z1, Z2, Z3, Z4, Z5, Z6])
  refine alts_alt (by rfl) ?_ ?_
  ·skip
   refine alts_op rfl (by rfl) (by rfl) (fun K hK => ?_)
   go_simp
   refine (whole_any _ Plain.g1 4 _ rfl (by decide) (by decide) (HG.out.fresh hS0)).mono ?_
   rintro e w1 ⟨v1, v2, rfl, r1, r2, hcx⟩
   have HR1 := Lib.hid r1.ints
   have HR2 := Lib.hid r2.ints
   rw [E4.out] at HR1
   rw [E3.out] at HR2
   clear r1 r2
   have FP1 := Lib.hid (show PtAt w1 (.agg #[v1, v2]) Plain.p1 from ⟨_, _, rfl, HR1.out, HR2.out⟩)
   clear HR1 HR2
   have hS1 := hS0.trans hcx (by simp)
   clear hS0 hcx
   have hS0 := hS1
   clear hS1
   refine hK.out _ _ (fun _ => hS0) ?_
   clear hK K
   try simp only [Act.put, Z1, Z2, Z3, Z4, Z5, Z6]
   refine alts_alt (by rfl) ?_ ?_
   ·skip
    refine alts_op rfl (by rfl) (by rfl) (fun K hK => ?_)
    go_simp
    have FI2 := Lib.hid (lit_four _ (HJ.out 0 (by decide) (by decide)) (HJ.out 1 (by decide) (by decide)) (HJ.out 2 (by decide) (by decide)) (HJ.out 3 (by decide) (by decide)) : IntsAt (World.alloc w1 (.cells #[.int .i64 0, .int .i64 1, .int .i64 2, .int .i64 3] 3)) _ _)
    have hcx := (Chg.refl [] w1).alloc (.cells #[.int .i64 0, .int .i64 1, .int .i64 2, .int .i64 3] 3)
    have FP3 := Lib.hid (FP1.out.fresh hcx)
    clear FP1
    have hS1 := hS0.alloc (.cells #[.int .i64 0, .int .i64 1, .int .i64 2, .int .i64 3] 3)
    clear hS0 hcx
    have hS0 := hS1
    clear hS1
    refine hK.out _ _ (fun _ => hS0) ?_
    clear hK K
    try simp only [Act.put, Z1, Z2, Z3, Z4, Z5, Z6]
    generalize (World.alloc w1 (.cells #[.int .i64 0, .int .i64 1, .int .i64 2, .int .i64 3] 3)) = w2 at *
    repeat
     first
      | (refine alts_off rfl (by rfl) (by rfl) (fun _ _ _ h => h) hS0 ?_; simp only [Act.put, Z1, Z2, Z3, Z4, Z5, Z6])
      | (refine alts_read (v := ?_) rfl (by rfl) (by rfl) (fun _ _ _ h => h) hS0 (fun w' hS' => ?_) ?_; rotate_left; (focus (have rd0 := hS'.cell x0 (by simp); have rd1 := hS'.cell x1 (by simp); have rd2 := hS'.cell d0 (by simp); have rd3 := hS'.cell d1 (by simp); clear hS'; go_simp; try with_reducible rfl)); simp only [Act.put, Z1, Z2, Z3, Z4, Z5, Z6])
      | (refine alts_skip rfl (by rfl) (by rfl) hS0 ?_; simp only [Act.put, Z1, Z2, Z3, Z4, Z5, Z6])
    refine alts_alt (by rfl) ?_ ?_
    ·skip
     refine alts_op rfl (by rfl) (by rfl) (fun K hK => ?_)
     go_simp
     refine (rtri_any _ _ _ _ _ (HG.out.fresh hS0) FP3.out (HPL.out.fresh hS0) ⟨_, _, rfl, FI2.out, (rowNil' _ 0).ints⟩).mono ?_
     rintro e w4 ⟨u1, u2, rfl, hro, ⟨a1, n1, c1, a2, n2, c2, rfl, rfl⟩, hcx⟩
     have HRO := Lib.hid hro
     clear hro
     have FP5 := Lib.hid (FP3.out.fresh hcx)
     clear FP3
     have FI6 := Lib.hid (FI2.out.fresh hcx)
     clear FI2
     have FR4 := Lib.hid (Chg.refl [] w4)
     have hS1 := hS0.trans hcx (by simp)
     have FW4 := Lib.hid hcx.size
     clear hS0 hcx
     have hS0 := hS1
     clear hS1
     refine hK.out _ _ (fun _ => hS0) ?_
     clear hK K
     try simp only [Act.put, Z1, Z2, Z3, Z4, Z5, Z6]
     repeat
      first
       | (refine alts_off rfl (by rfl) (by rfl) (fun _ _ _ h => h) hS0 ?_; simp only [Act.put, Z1, Z2, Z3, Z4, Z5, Z6])
       | (refine alts_read (v := ?_) rfl (by rfl) (by rfl) (fun _ _ _ h => h) hS0 (fun w' hS' => ?_) ?_; rotate_left; (focus (have rd0 := hS'.cell x0 (by simp); have rd1 := hS'.cell x1 (by simp); have rd2 := hS'.cell d0 (by simp); have rd3 := hS'.cell d1 (by simp); clear hS'; go_simp; try with_reducible rfl)); simp only [Act.put, Z1, Z2, Z3, Z4, Z5, Z6])
       | (refine alts_skip rfl (by rfl) (by rfl) hS0 ?_; simp only [Act.put, Z1, Z2, Z3, Z4, Z5, Z6])
     refine alts_op rfl (by rfl) (by rfl) (fun K hK => ?_)
     go_simp
     have FB7 := Lib.hid (heap_alloc_new w4 (.cells #[.slice none 0 0, .slice none 0 0] 30))
     have hcx := (Chg.refl [] w4).alloc (.cells #[.slice none 0 0, .slice none 0 0] 30)
     obtain ⟨b7, hb7⟩ : ∃ b, (World.heap w4).size = b := ⟨_, rfl⟩
     have FN7 := Lib.hid (show w9.heap.size ≤ b7 by rw [← hb7]; exact hS0.size)
     have FX7 := Lib.hid (show w4.heap.size ≤ b7 by rw [← hb7]; exact FR4.out.size)
     have FP8 := Lib.hid (FP5.out.fresh hcx)
     clear FP5
     have FI9 := Lib.hid (FI6.out.fresh hcx)
     clear FI6
     have FR10 := Lib.hid ((FR4.out).trans hcx (by simp))
     clear FR4
     rw [hb7] at FB7 ⊢
     clear hb7
     have hS1 := hS0.alloc (.cells #[.slice none 0 0, .slice none 0 0] 30)
     clear hS0 hcx
     have hS0 := hS1
     clear hS1
     refine hK.out _ _ (fun _ => hS0) ?_
     clear hK K
     try simp only [Act.put, Z1, Z2, Z3, Z4, Z5, Z6]
     generalize (World.alloc w4 (.cells #[.slice none 0 0, .slice none 0 0] 30)) = w7 at *
     refine alts_op rfl (by rfl) (by rfl) (fun K hK => ?_)
     have r0 := (cell_of_row _ _ 0 _ _ _ FB7.out).trans (show _ = some (Value.slice none 0 0) from rfl)
     have r1 := (cell_of_row _ _ 1 _ _ _ FB7.out).trans (show _ = some (Value.slice none 0 0) from rfl)
     have f0 := free_at FB7.out 0
     have f1 := free_at FB7.out 1
     obtain ⟨o0, o1, o2⟩ := out_store FB7.out (.slice a1 n1 c1) (.slice a2 n2 c2)
     go_simp
     have hS1 := hS0.trans o2 (fun j hj => Or.inr (by have := FN7.out; simp at hj; omega))
     have hro := HRO.out [] _ ((FR10.out).trans o2 (fun j hj => Or.inr (by simp at hj; rw [hj]; exact FX7.out))) (by simp)
     obtain ⟨o9, c9, e9, hr9⟩ := hro
     simp only [Value.slice.injEq] at e9
     obtain ⟨rfl, rfl, rfl⟩ := e9
     refine hK.out _ _ (fun _ => hS1) ?_
     clear hK K
     try simp only [Act.put, Z1, Z2, Z3, Z4, Z5, Z6]
     refine alts_op rfl (by rfl) (by rfl) (fun K hK => ?_)
     go_simp
     refine hK.out _ _ (fun _ => hS1) ?_
     clear hK K
     try simp only [Act.put, Z1, Z2, Z3, Z4, Z5, Z6]
     refine alts_done ?_
     go_wp2
     go_meet
     case rel => exact ⟨_, _, _, rfl, rfl, o1, hr9, hS1⟩
    refine alts_alt (by rfl) ?_ ?_
    ·skip
     refine alts_op rfl (by rfl) (by rfl) (fun K hK => ?_)
     go_simp
     have FB11 := Lib.hid (heap_alloc_new w2 (.cells #[.slice none 0 0, .slice none 0 0] 30))
     have hcx := (Chg.refl [] w2).alloc (.cells #[.slice none 0 0, .slice none 0 0] 30)
     obtain ⟨b11, hb11⟩ : ∃ b, (World.heap w2).size = b := ⟨_, rfl⟩
     have FN11 := Lib.hid (show w9.heap.size ≤ b11 by rw [← hb11]; exact hS0.size)
     have FP12 := Lib.hid (FP3.out.fresh hcx)
     clear FP3
     have FI13 := Lib.hid (FI2.out.fresh hcx)
     clear FI2
     rw [hb11] at FB11 ⊢
     clear hb11
     have hS1 := hS0.alloc (.cells #[.slice none 0 0, .slice none 0 0] 30)
     clear hS0 hcx
     have hS0 := hS1
     clear hS1
     refine hK.out _ _ (fun _ => hS0) ?_
     clear hK K
     try simp only [Act.put, Z1, Z2, Z3, Z4, Z5, Z6]
     generalize (World.alloc w2 (.cells #[.slice none 0 0, .slice none 0 0] 30)) = w11 at *
     refine alts_op rfl (by rfl) (by rfl) (fun K hK => ?_)
     go_simp
     refine (rtri_any _ _ _ _ _ (HG.out.fresh hS0) FP12.out (HPL.out.fresh hS0) ⟨_, _, rfl, FI13.out, (rowNil' _ 0).ints⟩).mono ?_
     rintro e w14 ⟨u1, u2, rfl, hro, ⟨a1, n1, c1, a2, n2, c2, rfl, rfl⟩, hcx⟩
     have HRO := Lib.hid hro
     clear hro
     have FL14 := Lib.hid (lt_of_block FB11.out)
     have FP15 := Lib.hid (FP12.out.fresh hcx)
     clear FP12
     have FI16 := Lib.hid (FI13.out.fresh hcx)
     clear FI13
     have FB17 := Lib.hid (hcx.heap FB11.out (by simp))
     clear FB11
     have FR14 := Lib.hid (Chg.refl [] w14)
     have hS1 := hS0.trans hcx (by simp)
     have FW14 := Lib.hid hcx.size
     clear hS0 hcx
     have hS0 := hS1
     clear hS1
     refine hK.out _ _ (fun _ => hS0) ?_
     clear hK K
     try simp only [Act.put, Z1, Z2, Z3, Z4, Z5, Z6]
     repeat
      first
       | (refine alts_off rfl (by rfl) (by rfl) (fun _ _ _ h => h) hS0 ?_; simp only [Act.put, Z1, Z2, Z3, Z4, Z5, Z6])
       | (refine alts_read (v := ?_) rfl (by rfl) (by rfl) (fun _ _ _ h => h) hS0 (fun w' hS' => ?_) ?_; rotate_left; (focus (have rd0 := hS'.cell x0 (by simp); have rd1 := hS'.cell x1 (by simp); have rd2 := hS'.cell d0 (by simp); have rd3 := hS'.cell d1 (by simp); clear hS'; go_simp; try with_reducible rfl)); simp only [Act.put, Z1, Z2, Z3, Z4, Z5, Z6])
       | (refine alts_skip rfl (by rfl) (by rfl) hS0 ?_; simp only [Act.put, Z1, Z2, Z3, Z4, Z5, Z6])
     refine alts_op rfl (by rfl) (by rfl) (fun K hK => ?_)
     have r0 := (cell_of_row _ _ 0 _ _ _ FB17.out).trans (show _ = some (Value.slice none 0 0) from rfl)
     have r1 := (cell_of_row _ _ 1 _ _ _ FB17.out).trans (show _ = some (Value.slice none 0 0) from rfl)
     have f0 := free_at FB17.out 0
     have f1 := free_at FB17.out 1
     obtain ⟨o0, o1, o2⟩ := out_store FB17.out (.slice a1 n1 c1) (.slice a2 n2 c2)
     go_simp
     have hS1 := hS0.trans o2 (fun j hj => Or.inr (by have := FN11.out; simp at hj; omega))
     have hro := HRO.out [b11] _ (((FR14.out).mono (by simp)).trans o2 (fun j hj => Or.inl hj)) (fun j hj => by have := FL14.out; simp at hj; omega)
     obtain ⟨o9, c9, e9, hr9⟩ := hro
     simp only [Value.slice.injEq] at e9
     obtain ⟨rfl, rfl, rfl⟩ := e9
     refine hK.out _ _ (fun _ => hS1) ?_
     clear hK K
     try simp only [Act.put, Z1, Z2, Z3, Z4, Z5, Z6]
     refine alts_op rfl (by rfl) (by rfl) (fun K hK => ?_)
     go_simp
     refine hK.out _ _ (fun _ => hS1) ?_
     clear hK K
     try simp only [Act.put, Z1, Z2, Z3, Z4, Z5, Z6]
     refine alts_done ?_
     go_wp2
     go_meet
     case rel => exact ⟨_, _, _, rfl, rfl, o1, hr9, hS1⟩
    exact alts_nil
   refine alts_alt (by rfl) ?_ ?_
   ·skip
    refine alts_op rfl (by rfl) (by rfl) (fun K hK => ?_)
    go_simp
    have FB18 := Lib.hid (heap_alloc_new w1 (.cells #[.slice none 0 0, .slice none 0 0] 30))
    have hcx := (Chg.refl [] w1).alloc (.cells #[.slice none 0 0, .slice none 0 0] 30)
    obtain ⟨b18, hb18⟩ : ∃ b, (World.heap w1).size = b := ⟨_, rfl⟩
    have FN18 := Lib.hid (show w9.heap.size ≤ b18 by rw [← hb18]; exact hS0.size)
    have FP19 := Lib.hid (FP1.out.fresh hcx)
    clear FP1
    rw [hb18] at FB18 ⊢
    clear hb18
    have hS1 := hS0.alloc (.cells #[.slice none 0 0, .slice none 0 0] 30)
    clear hS0 hcx
    have hS0 := hS1
    clear hS1
    refine hK.out _ _ (fun _ => hS0) ?_
    clear hK K
    try simp only [Act.put, Z1, Z2, Z3, Z4, Z5, Z6]
    generalize (World.alloc w1 (.cells #[.slice none 0 0, .slice none 0 0] 30)) = w18 at *
    refine alts_op rfl (by rfl) (by rfl) (fun K hK => ?_)
    go_simp
    have FI20 := Lib.hid (lit_four _ (HJ.out 0 (by decide) (by decide)) (HJ.out 1 (by decide) (by decide)) (HJ.out 2 (by decide) (by decide)) (HJ.out 3 (by decide) (by decide)) : IntsAt (World.alloc w18 (.cells #[.int .i64 0, .int .i64 1, .int .i64 2, .int .i64 3] 3)) _ _)
    have hcx := (Chg.refl [] w18).alloc (.cells #[.int .i64 0, .int .i64 1, .int .i64 2, .int .i64 3] 3)
    have FP21 := Lib.hid (FP19.out.fresh hcx)
    clear FP19
    have FB22 := Lib.hid (hcx.heap FB18.out (by simp))
    clear FB18
    have hS1 := hS0.alloc (.cells #[.int .i64 0, .int .i64 1, .int .i64 2, .int .i64 3] 3)
    clear hS0 hcx
    have hS0 := hS1
    clear hS1
    refine hK.out _ _ (fun _ => hS0) ?_
    clear hK K
    try simp only [Act.put, Z1, Z2, Z3, Z4, Z5, Z6]
    generalize (World.alloc w18 (.cells #[.int .i64 0, .int .i64 1, .int .i64 2, .int .i64 3] 3)) = w20 at *
    repeat
     first
      | (refine alts_off rfl (by rfl) (by rfl) (fun _ _ _ h => h) hS0 ?_; simp only [Act.put, Z1, Z2, Z3, Z4, Z5, Z6])
      | (refine alts_read (v := ?_) rfl (by rfl) (by rfl) (fun _ _ _ h => h) hS0 (fun w' hS' => ?_) ?_; rotate_left; (focus (have rd0 := hS'.cell x0 (by simp); have rd1 := hS'.cell x1 (by simp); have rd2 := hS'.cell d0 (by simp); have rd3 := hS'.cell d1 (by simp); clear hS'; go_simp; try with_reducible rfl)); simp only [Act.put, Z1, Z2, Z3, Z4, Z5, Z6])
      | (refine alts_skip rfl (by rfl) (by rfl) hS0 ?_; simp only [Act.put, Z1, Z2, Z3, Z4, Z5, Z6])
    refine alts_op rfl (by rfl) (by rfl) (fun K hK => ?_)
    go_simp
    refine (rtri_any _ _ _ _ _ (HG.out.fresh hS0) FP21.out (HPL.out.fresh hS0) ⟨_, _, rfl, FI20.out, (rowNil' _ 0).ints⟩).mono ?_
    rintro e w23 ⟨u1, u2, rfl, hro, ⟨a1, n1, c1, a2, n2, c2, rfl, rfl⟩, hcx⟩
    have HRO := Lib.hid hro
    clear hro
    have FL23 := Lib.hid (lt_of_block FB22.out)
    have FP24 := Lib.hid (FP21.out.fresh hcx)
    clear FP21
    have FB25 := Lib.hid (hcx.heap FB22.out (by simp))
    clear FB22
    have FI26 := Lib.hid (FI20.out.fresh hcx)
    clear FI20
    have FR23 := Lib.hid (Chg.refl [] w23)
    have hS1 := hS0.trans hcx (by simp)
    have FW23 := Lib.hid hcx.size
    clear hS0 hcx
    have hS0 := hS1
    clear hS1
    refine hK.out _ _ (fun _ => hS0) ?_
    clear hK K
    try simp only [Act.put, Z1, Z2, Z3, Z4, Z5, Z6]
    repeat
     first
      | (refine alts_off rfl (by rfl) (by rfl) (fun _ _ _ h => h) hS0 ?_; simp only [Act.put, Z1, Z2, Z3, Z4, Z5, Z6])
      | (refine alts_read (v := ?_) rfl (by rfl) (by rfl) (fun _ _ _ h => h) hS0 (fun w' hS' => ?_) ?_; rotate_left; (focus (have rd0 := hS'.cell x0 (by simp); have rd1 := hS'.cell x1 (by simp); have rd2 := hS'.cell d0 (by simp); have rd3 := hS'.cell d1 (by simp); clear hS'; go_simp; try with_reducible rfl)); simp only [Act.put, Z1, Z2, Z3, Z4, Z5, Z6])
      | (refine alts_skip rfl (by rfl) (by rfl) hS0 ?_; simp only [Act.put, Z1, Z2, Z3, Z4, Z5, Z6])
    refine alts_op rfl (by rfl) (by rfl) (fun K hK => ?_)
    have r0 := (cell_of_row _ _ 0 _ _ _ FB25.out).trans (show _ = some (Value.slice none 0 0) from rfl)
    have r1 := (cell_of_row _ _ 1 _ _ _ FB25.out).trans (show _ = some (Value.slice none 0 0) from rfl)
    have f0 := free_at FB25.out 0
    have f1 := free_at FB25.out 1
    obtain ⟨o0, o1, o2⟩ := out_store FB25.out (.slice a1 n1 c1) (.slice a2 n2 c2)
    go_simp
    have hS1 := hS0.trans o2 (fun j hj => Or.inr (by have := FN18.out; simp at hj; omega))
    have hro := HRO.out [b18] _ (((FR23.out).mono (by simp)).trans o2 (fun j hj => Or.inl hj)) (fun j hj => by have := FL23.out; simp at hj; omega)
    obtain ⟨o9, c9, e9, hr9⟩ := hro
    simp only [Value.slice.injEq] at e9
    obtain ⟨rfl, rfl, rfl⟩ := e9
    refine hK.out _ _ (fun _ => hS1) ?_
    clear hK K
    try simp only [Act.put, Z1, Z2, Z3, Z4, Z5, Z6]
    refine alts_op rfl (by rfl) (by rfl) (fun K hK => ?_)
    go_simp
    refine hK.out _ _ (fun _ => hS1) ?_
    clear hK K
    try simp only [Act.put, Z1, Z2, Z3, Z4, Z5, Z6]
    refine alts_done ?_
    go_wp2
    go_meet
    case rel => exact ⟨_, _, _, rfl, rfl, o1, hr9, hS1⟩
   exact alts_nil
  refine alts_alt (by rfl) ?_ ?_
  ·skip
   refine alts_op rfl (by rfl) (by rfl) (fun K hK => ?_)
   go_simp
   have FI27 := Lib.hid (lit_four _ (HJ.out 0 (by decide) (by decide)) (HJ.out 1 (by decide) (by decide)) (HJ.out 2 (by decide) (by decide)) (HJ.out 3 (by decide) (by decide)) : IntsAt (World.alloc w0 (.cells #[.int .i64 0, .int .i64 1, .int .i64 2, .int .i64 3] 3)) _ _)
   have hcx := (Chg.refl [] w0).alloc (.cells #[.int .i64 0, .int .i64 1, .int .i64 2, .int .i64 3] 3)
   have hS1 := hS0.alloc (.cells #[.int .i64 0, .int .i64 1, .int .i64 2, .int .i64 3] 3)
   clear hS0 hcx
   have hS0 := hS1
   clear hS1
   refine hK.out _ _ (fun _ => hS0) ?_
   clear hK K
   try simp only [Act.put, Z1, Z2, Z3, Z4, Z5, Z6]
   generalize (World.alloc w0 (.cells #[.int .i64 0, .int .i64 1, .int .i64 2, .int .i64 3] 3)) = w27 at *
   repeat
    first
     | (refine alts_off rfl (by rfl) (by rfl) (fun _ _ _ h => h) hS0 ?_; simp only [Act.put, Z1, Z2, Z3, Z4, Z5, Z6])
     | (refine alts_read (v := ?_) rfl (by rfl) (by rfl) (fun _ _ _ h => h) hS0 (fun w' hS' => ?_) ?_; rotate_left; (focus (have rd0 := hS'.cell x0 (by simp); have rd1 := hS'.cell x1 (by simp); have rd2 := hS'.cell d0 (by simp); have rd3 := hS'.cell d1 (by simp); clear hS'; go_simp; try with_reducible rfl)); simp only [Act.put, Z1, Z2, Z3, Z4, Z5, Z6])
     | (refine alts_skip rfl (by rfl) (by rfl) hS0 ?_; simp only [Act.put, Z1, Z2, Z3, Z4, Z5, Z6])
   refine alts_alt (by rfl) ?_ ?_
   ·skip
    refine alts_op rfl (by rfl) (by rfl) (fun K hK => ?_)
    go_simp
    refine (whole_any _ Plain.g1 4 _ rfl (by decide) (by decide) (HG.out.fresh hS0)).mono ?_
    rintro e w28 ⟨v1, v2, rfl, r1, r2, hcx⟩
    have HR1 := Lib.hid r1.ints
    have HR2 := Lib.hid r2.ints
    rw [E4.out] at HR1
    rw [E3.out] at HR2
    clear r1 r2
    have FP28 := Lib.hid (show PtAt w28 (.agg #[v1, v2]) Plain.p1 from ⟨_, _, rfl, HR1.out, HR2.out⟩)
    clear HR1 HR2
    have FI29 := Lib.hid (FI27.out.fresh hcx)
    clear FI27
    have hS1 := hS0.trans hcx (by simp)
    clear hS0 hcx
    have hS0 := hS1
    clear hS1
    refine hK.out _ _ (fun _ => hS0) ?_
    clear hK K
    try simp only [Act.put, Z1, Z2, Z3, Z4, Z5, Z6]
    refine alts_alt (by rfl) ?_ ?_
    ·skip
     refine alts_op rfl (by rfl) (by rfl) (fun K hK => ?_)
     go_simp
     refine (rtri_any _ _ _ _ _ (HG.out.fresh hS0) FP28.out (HPL.out.fresh hS0) ⟨_, _, rfl, FI29.out, (rowNil' _ 0).ints⟩).mono ?_
     rintro e w30 ⟨u1, u2, rfl, hro, ⟨a1, n1, c1, a2, n2, c2, rfl, rfl⟩, hcx⟩
     have HRO := Lib.hid hro
     clear hro
     have FI31 := Lib.hid (FI29.out.fresh hcx)
     clear FI29
     have FP32 := Lib.hid (FP28.out.fresh hcx)
     clear FP28
     have FR30 := Lib.hid (Chg.refl [] w30)
     have hS1 := hS0.trans hcx (by simp)
     have FW30 := Lib.hid hcx.size
     clear hS0 hcx
     have hS0 := hS1
     clear hS1
     refine hK.out _ _ (fun _ => hS0) ?_
     clear hK K
     try simp only [Act.put, Z1, Z2, Z3, Z4, Z5, Z6]
     repeat
      first
       | (refine alts_off rfl (by rfl) (by rfl) (fun _ _ _ h => h) hS0 ?_; simp only [Act.put, Z1, Z2, Z3, Z4, Z5, Z6])
       | (refine alts_read (v := ?_) rfl (by rfl) (by rfl) (fun _ _ _ h => h) hS0 (fun w' hS' => ?_) ?_; rotate_left; (focus (have rd0 := hS'.cell x0 (by simp); have rd1 := hS'.cell x1 (by simp); have rd2 := hS'.cell d0 (by simp); have rd3 := hS'.cell d1 (by simp); clear hS'; go_simp; try with_reducible rfl)); simp only [Act.put, Z1, Z2, Z3, Z4, Z5, Z6])
       | (refine alts_skip rfl (by rfl) (by rfl) hS0 ?_; simp only [Act.put, Z1, Z2, Z3, Z4, Z5, Z6])
     refine alts_op rfl (by rfl) (by rfl) (fun K hK => ?_)
     go_simp
     have FB33 := Lib.hid (heap_alloc_new w30 (.cells #[.slice none 0 0, .slice none 0 0] 30))
     have hcx := (Chg.refl [] w30).alloc (.cells #[.slice none 0 0, .slice none 0 0] 30)
     obtain ⟨b33, hb33⟩ : ∃ b, (World.heap w30).size = b := ⟨_, rfl⟩
     have FN33 := Lib.hid (show w9.heap.size ≤ b33 by rw [← hb33]; exact hS0.size)
     have FX33 := Lib.hid (show w30.heap.size ≤ b33 by rw [← hb33]; exact FR30.out.size)
     have FI34 := Lib.hid (FI31.out.fresh hcx)
     clear FI31
     have FP35 := Lib.hid (FP32.out.fresh hcx)
     clear FP32
     have FR36 := Lib.hid ((FR30.out).trans hcx (by simp))
     clear FR30
     rw [hb33] at FB33 ⊢
     clear hb33
     have hS1 := hS0.alloc (.cells #[.slice none 0 0, .slice none 0 0] 30)
     clear hS0 hcx
     have hS0 := hS1
     clear hS1
     refine hK.out _ _ (fun _ => hS0) ?_
     clear hK K
     try simp only [Act.put, Z1, Z2, Z3, Z4, Z5, Z6]
     generalize (World.alloc w30 (.cells #[.slice none 0 0, .slice none 0 0] 30)) = w33 at *
     refine alts_op rfl (by rfl) (by rfl) (fun K hK => ?_)
     have r0 := (cell_of_row _ _ 0 _ _ _ FB33.out).trans (show _ = some (Value.slice none 0 0) from rfl)
     have r1 := (cell_of_row _ _ 1 _ _ _ FB33.out).trans (show _ = some (Value.slice none 0 0) from rfl)
     have f0 := free_at FB33.out 0
     have f1 := free_at FB33.out 1
     obtain ⟨o0, o1, o2⟩ := out_store FB33.out (.slice a1 n1 c1) (.slice a2 n2 c2)
     go_simp
     have hS1 := hS0.trans o2 (fun j hj => Or.inr (by have := FN33.out; simp at hj; omega))
     have hro := HRO.out [] _ ((FR36.out).trans o2 (fun j hj => Or.inr (by simp at hj; rw [hj]; exact FX33.out))) (by simp)
     obtain ⟨o9, c9, e9, hr9⟩ := hro
     simp only [Value.slice.injEq] at e9
     obtain ⟨rfl, rfl, rfl⟩ := e9
     refine hK.out _ _ (fun _ => hS1) ?_
     clear hK K
     try simp only [Act.put, Z1, Z2, Z3, Z4, Z5, Z6]
     refine alts_op rfl (by rfl) (by rfl) (fun K hK => ?_)
     go_simp
     refine hK.out _ _ (fun _ => hS1) ?_
     clear hK K
     try simp only [Act.put, Z1, Z2, Z3, Z4, Z5, Z6]
     refine alts_done ?_
     go_wp2
     go_meet
     case rel => exact ⟨_, _, _, rfl, rfl, o1, hr9, hS1⟩
    refine alts_alt (by rfl) ?_ ?_
    ·skip
     refine alts_op rfl (by rfl) (by rfl) (fun K hK => ?_)
     go_simp
     have FB37 := Lib.hid (heap_alloc_new w28 (.cells #[.slice none 0 0, .slice none 0 0] 30))
     have hcx := (Chg.refl [] w28).alloc (.cells #[.slice none 0 0, .slice none 0 0] 30)
     obtain ⟨b37, hb37⟩ : ∃ b, (World.heap w28).size = b := ⟨_, rfl⟩
     have FN37 := Lib.hid (show w9.heap.size ≤ b37 by rw [← hb37]; exact hS0.size)
     have FI38 := Lib.hid (FI29.out.fresh hcx)
     clear FI29
     have FP39 := Lib.hid (FP28.out.fresh hcx)
     clear FP28
     rw [hb37] at FB37 ⊢
     clear hb37
     have hS1 := hS0.alloc (.cells #[.slice none 0 0, .slice none 0 0] 30)
     clear hS0 hcx
     have hS0 := hS1
     clear hS1
     refine hK.out _ _ (fun _ => hS0) ?_
     clear hK K
     try simp only [Act.put, Z1, Z2, Z3, Z4, Z5, Z6]
     generalize (World.alloc w28 (.cells #[.slice none 0 0, .slice none 0 0] 30)) = w37 at *
     refine alts_op rfl (by rfl) (by rfl) (fun K hK => ?_)
     go_simp
     refine (rtri_any _ _ _ _ _ (HG.out.fresh hS0) FP39.out (HPL.out.fresh hS0) ⟨_, _, rfl, FI38.out, (rowNil' _ 0).ints⟩).mono ?_
     rintro e w40 ⟨u1, u2, rfl, hro, ⟨a1, n1, c1, a2, n2, c2, rfl, rfl⟩, hcx⟩
     have HRO := Lib.hid hro
     clear hro
     have FL40 := Lib.hid (lt_of_block FB37.out)
     have FI41 := Lib.hid (FI38.out.fresh hcx)
     clear FI38
     have FP42 := Lib.hid (FP39.out.fresh hcx)
     clear FP39
     have FB43 := Lib.hid (hcx.heap FB37.out (by simp))
     clear FB37
     have FR40 := Lib.hid (Chg.refl [] w40)
     have hS1 := hS0.trans hcx (by simp)
     have FW40 := Lib.hid hcx.size
     clear hS0 hcx
     have hS0 := hS1
     clear hS1
     refine hK.out _ _ (fun _ => hS0) ?_
     clear hK K
     try simp only [Act.put, Z1, Z2, Z3, Z4, Z5, Z6]
     repeat
      first
       | (refine alts_off rfl (by rfl) (by rfl) (fun _ _ _ h => h) hS0 ?_; simp only [Act.put, Z1, Z2, Z3, Z4, Z5, Z6])
       | (refine alts_read (v := ?_) rfl (by rfl) (by rfl) (fun _ _ _ h => h) hS0 (fun w' hS' => ?_) ?_; rotate_left; (focus (have rd0 := hS'.cell x0 (by simp); have rd1 := hS'.cell x1 (by simp); have rd2 := hS'.cell d0 (by simp); have rd3 := hS'.cell d1 (by simp); clear hS'; go_simp; try with_reducible rfl)); simp only [Act.put, Z1, Z2, Z3, Z4, Z5, Z6])
       | (refine alts_skip rfl (by rfl) (by rfl) hS0 ?_; simp only [Act.put, Z1, Z2, Z3, Z4, Z5, Z6])
     refine alts_op rfl (by rfl) (by rfl) (fun K hK => ?_)
     have r0 := (cell_of_row _ _ 0 _ _ _ FB43.out).trans (show _ = some (Value.slice none 0 0) from rfl)
     have r1 := (cell_of_row _ _ 1 _ _ _ FB43.out).trans (show _ = some (Value.slice none 0 0) from rfl)
     have f0 := free_at FB43.out 0
     have f1 := free_at FB43.out 1
     obtain ⟨o0, o1, o2⟩ := out_store FB43.out (.slice a1 n1 c1) (.slice a2 n2 c2)
     go_simp
     have hS1 := hS0.trans o2 (fun j hj => Or.inr (by have := FN37.out; simp at hj; omega))
     have hro := HRO.out [b37] _ (((FR40.out).mono (by simp)).trans o2 (fun j hj => Or.inl hj)) (fun j hj => by have := FL40.out; simp at hj; omega)
     obtain ⟨o9, c9, e9, hr9⟩ := hro
     simp only [Value.slice.injEq] at e9
     obtain ⟨rfl, rfl, rfl⟩ := e9
     refine hK.out _ _ (fun _ => hS1) ?_
     clear hK K
     try simp only [Act.put, Z1, Z2, Z3, Z4, Z5, Z6]
     refine alts_op rfl (by rfl) (by rfl) (fun K hK => ?_)
     go_simp
     refine hK.out _ _ (fun _ => hS1) ?_
     clear hK K
     try simp only [Act.put, Z1, Z2, Z3, Z4, Z5, Z6]
     refine alts_done ?_
     go_wp2
     go_meet
     case rel => exact ⟨_, _, _, rfl, rfl, o1, hr9, hS1⟩
    exact alts_nil
   refine alts_alt (by rfl) ?_ ?_
   ·skip
    refine alts_op rfl (by rfl) (by rfl) (fun K hK => ?_)
    go_simp
    have FB44 := Lib.hid (heap_alloc_new w27 (.cells #[.slice none 0 0, .slice none 0 0] 30))
    have hcx := (Chg.refl [] w27).alloc (.cells #[.slice none 0 0, .slice none 0 0] 30)
    obtain ⟨b44, hb44⟩ : ∃ b, (World.heap w27).size = b := ⟨_, rfl⟩
    have FN44 := Lib.hid (show w9.heap.size ≤ b44 by rw [← hb44]; exact hS0.size)
    have FI45 := Lib.hid (FI27.out.fresh hcx)
    clear FI27
    rw [hb44] at FB44 ⊢
    clear hb44
    have hS1 := hS0.alloc (.cells #[.slice none 0 0, .slice none 0 0] 30)
    clear hS0 hcx
    have hS0 := hS1
    clear hS1
    refine hK.out _ _ (fun _ => hS0) ?_
    clear hK K
    try simp only [Act.put, Z1, Z2, Z3, Z4, Z5, Z6]
    generalize (World.alloc w27 (.cells #[.slice none 0 0, .slice none 0 0] 30)) = w44 at *
    refine alts_op rfl (by rfl) (by rfl) (fun K hK => ?_)
    go_simp
    refine (whole_any _ Plain.g1 4 _ rfl (by decide) (by decide) (HG.out.fresh hS0)).mono ?_
    rintro e w46 ⟨v1, v2, rfl, r1, r2, hcx⟩
    have HR1 := Lib.hid r1.ints
    have HR2 := Lib.hid r2.ints
    rw [E4.out] at HR1
    rw [E3.out] at HR2
    clear r1 r2
    have FP46 := Lib.hid (show PtAt w46 (.agg #[v1, v2]) Plain.p1 from ⟨_, _, rfl, HR1.out, HR2.out⟩)
    clear HR1 HR2
    have FI47 := Lib.hid (FI45.out.fresh hcx)
    clear FI45
    have FB48 := Lib.hid (hcx.heap FB44.out (by simp))
    clear FB44
    have hS1 := hS0.trans hcx (by simp)
    clear hS0 hcx
    have hS0 := hS1
    clear hS1
    refine hK.out _ _ (fun _ => hS0) ?_
    clear hK K
    try simp only [Act.put, Z1, Z2, Z3, Z4, Z5, Z6]
    refine alts_op rfl (by rfl) (by rfl) (fun K hK => ?_)
    go_simp
    refine (rtri_any _ _ _ _ _ (HG.out.fresh hS0) FP46.out (HPL.out.fresh hS0) ⟨_, _, rfl, FI47.out, (rowNil' _ 0).ints⟩).mono ?_
    rintro e w49 ⟨u1, u2, rfl, hro, ⟨a1, n1, c1, a2, n2, c2, rfl, rfl⟩, hcx⟩
    have HRO := Lib.hid hro
    clear hro
    have FL49 := Lib.hid (lt_of_block FB48.out)
    have FI50 := Lib.hid (FI47.out.fresh hcx)
    clear FI47
    have FB51 := Lib.hid (hcx.heap FB48.out (by simp))
    clear FB48
    have FP52 := Lib.hid (FP46.out.fresh hcx)
    clear FP46
    have FR49 := Lib.hid (Chg.refl [] w49)
    have hS1 := hS0.trans hcx (by simp)
    have FW49 := Lib.hid hcx.size
    clear hS0 hcx
    have hS0 := hS1
    clear hS1
    refine hK.out _ _ (fun _ => hS0) ?_
    clear hK K
    try simp only [Act.put, Z1, Z2, Z3, Z4, Z5, Z6]
    repeat
     first
      | (refine alts_off rfl (by rfl) (by rfl) (fun _ _ _ h => h) hS0 ?_; simp only [Act.put, Z1, Z2, Z3, Z4, Z5, Z6])
      | (refine alts_read (v := ?_) rfl (by rfl) (by rfl) (fun _ _ _ h => h) hS0 (fun w' hS' => ?_) ?_; rotate_left; (focus (have rd0 := hS'.cell x0 (by simp); have rd1 := hS'.cell x1 (by simp); have rd2 := hS'.cell d0 (by simp); have rd3 := hS'.cell d1 (by simp); clear hS'; go_simp; try with_reducible rfl)); simp only [Act.put, Z1, Z2, Z3, Z4, Z5, Z6])
      | (refine alts_skip rfl (by rfl) (by rfl) hS0 ?_; simp only [Act.put, Z1, Z2, Z3, Z4, Z5, Z6])
    refine alts_op rfl (by rfl) (by rfl) (fun K hK => ?_)
    have r0 := (cell_of_row _ _ 0 _ _ _ FB51.out).trans (show _ = some (Value.slice none 0 0) from rfl)
    have r1 := (cell_of_row _ _ 1 _ _ _ FB51.out).trans (show _ = some (Value.slice none 0 0) from rfl)
    have f0 := free_at FB51.out 0
    have f1 := free_at FB51.out 1
    obtain ⟨o0, o1, o2⟩ := out_store FB51.out (.slice a1 n1 c1) (.slice a2 n2 c2)
    go_simp
    have hS1 := hS0.trans o2 (fun j hj => Or.inr (by have := FN44.out; simp at hj; omega))
    have hro := HRO.out [b44] _ (((FR49.out).mono (by simp)).trans o2 (fun j hj => Or.inl hj)) (fun j hj => by have := FL49.out; simp at hj; omega)
    obtain ⟨o9, c9, e9, hr9⟩ := hro
    simp only [Value.slice.injEq] at e9
    obtain ⟨rfl, rfl, rfl⟩ := e9
    refine hK.out _ _ (fun _ => hS1) ?_
    clear hK K
    try simp only [Act.put, Z1, Z2, Z3, Z4, Z5, Z6]
    refine alts_op rfl (by rfl) (by rfl) (fun K hK => ?_)
    go_simp
    refine hK.out _ _ (fun _ => hS1) ?_
    clear hK K
    try simp only [Act.put, Z1, Z2, Z3, Z4, Z5, Z6]
    refine alts_done ?_
    go_wp2
    go_meet
    case rel => exact ⟨_, _, _, rfl, rfl, o1, hr9, hS1⟩
   exact alts_nil
  refine alts_alt (by rfl) ?_ ?_
  ·skip
   refine alts_op rfl (by rfl) (by rfl) (fun K hK => ?_)
   go_simp
   have FB53 := Lib.hid (heap_alloc_new w0 (.cells #[.slice none 0 0, .slice none 0 0] 30))
   have hcx := (Chg.refl [] w0).alloc (.cells #[.slice none 0 0, .slice none 0 0] 30)
   obtain ⟨b53, hb53⟩ : ∃ b, (World.heap w0).size = b := ⟨_, rfl⟩
   have FN53 := Lib.hid (show w9.heap.size ≤ b53 by rw [← hb53]; exact hS0.size)
   rw [hb53] at FB53 ⊢
   clear hb53
   have hS1 := hS0.alloc (.cells #[.slice none 0 0, .slice none 0 0] 30)
   clear hS0 hcx
   have hS0 := hS1
   clear hS1
   refine hK.out _ _ (fun _ => hS0) ?_
   clear hK K
   try simp only [Act.put, Z1, Z2, Z3, Z4, Z5, Z6]
   generalize (World.alloc w0 (.cells #[.slice none 0 0, .slice none 0 0] 30)) = w53 at *
   refine alts_alt (by rfl) ?_ ?_
   ·skip
    refine alts_op rfl (by rfl) (by rfl) (fun K hK => ?_)
    go_simp
    refine (whole_any _ Plain.g1 4 _ rfl (by decide) (by decide) (HG.out.fresh hS0)).mono ?_
    rintro e w54 ⟨v1, v2, rfl, r1, r2, hcx⟩
    have HR1 := Lib.hid r1.ints
    have HR2 := Lib.hid r2.ints
    rw [E4.out] at HR1
    rw [E3.out] at HR2
    clear r1 r2
    have FP54 := Lib.hid (show PtAt w54 (.agg #[v1, v2]) Plain.p1 from ⟨_, _, rfl, HR1.out, HR2.out⟩)
    clear HR1 HR2
    have FB55 := Lib.hid (hcx.heap FB53.out (by simp))
    clear FB53
    have hS1 := hS0.trans hcx (by simp)
    clear hS0 hcx
    have hS0 := hS1
    clear hS1
    refine hK.out _ _ (fun _ => hS0) ?_
    clear hK K
    try simp only [Act.put, Z1, Z2, Z3, Z4, Z5, Z6]
    refine alts_op rfl (by rfl) (by rfl) (fun K hK => ?_)
    go_simp
    have FI56 := Lib.hid (lit_four _ (HJ.out 0 (by decide) (by decide)) (HJ.out 1 (by decide) (by decide)) (HJ.out 2 (by decide) (by decide)) (HJ.out 3 (by decide) (by decide)) : IntsAt (World.alloc w54 (.cells #[.int .i64 0, .int .i64 1, .int .i64 2, .int .i64 3] 3)) _ _)
    have hcx := (Chg.refl [] w54).alloc (.cells #[.int .i64 0, .int .i64 1, .int .i64 2, .int .i64 3] 3)
    have FB57 := Lib.hid (hcx.heap FB55.out (by simp))
    clear FB55
    have FP58 := Lib.hid (FP54.out.fresh hcx)
    clear FP54
    have hS1 := hS0.alloc (.cells #[.int .i64 0, .int .i64 1, .int .i64 2, .int .i64 3] 3)
    clear hS0 hcx
    have hS0 := hS1
    clear hS1
    refine hK.out _ _ (fun _ => hS0) ?_
    clear hK K
    try simp only [Act.put, Z1, Z2, Z3, Z4, Z5, Z6]
    generalize (World.alloc w54 (.cells #[.int .i64 0, .int .i64 1, .int .i64 2, .int .i64 3] 3)) = w56 at *
    repeat
     first
      | (refine alts_off rfl (by rfl) (by rfl) (fun _ _ _ h => h) hS0 ?_; simp only [Act.put, Z1, Z2, Z3, Z4, Z5, Z6])
      | (refine alts_read (v := ?_) rfl (by rfl) (by rfl) (fun _ _ _ h => h) hS0 (fun w' hS' => ?_) ?_; rotate_left; (focus (have rd0 := hS'.cell x0 (by simp); have rd1 := hS'.cell x1 (by simp); have rd2 := hS'.cell d0 (by simp); have rd3 := hS'.cell d1 (by simp); clear hS'; go_simp; try with_reducible rfl)); simp only [Act.put, Z1, Z2, Z3, Z4, Z5, Z6])
      | (refine alts_skip rfl (by rfl) (by rfl) hS0 ?_; simp only [Act.put, Z1, Z2, Z3, Z4, Z5, Z6])
    refine alts_op rfl (by rfl) (by rfl) (fun K hK => ?_)
    go_simp
    refine (rtri_any _ _ _ _ _ (HG.out.fresh hS0) FP58.out (HPL.out.fresh hS0) ⟨_, _, rfl, FI56.out, (rowNil' _ 0).ints⟩).mono ?_
    rintro e w59 ⟨u1, u2, rfl, hro, ⟨a1, n1, c1, a2, n2, c2, rfl, rfl⟩, hcx⟩
    have HRO := Lib.hid hro
    clear hro
    have FL59 := Lib.hid (lt_of_block FB57.out)
    have FB60 := Lib.hid (hcx.heap FB57.out (by simp))
    clear FB57
    have FP61 := Lib.hid (FP58.out.fresh hcx)
    clear FP58
    have FI62 := Lib.hid (FI56.out.fresh hcx)
    clear FI56
    have FR59 := Lib.hid (Chg.refl [] w59)
    have hS1 := hS0.trans hcx (by simp)
    have FW59 := Lib.hid hcx.size
    clear hS0 hcx
    have hS0 := hS1
    clear hS1
    refine hK.out _ _ (fun _ => hS0) ?_
    clear hK K
    try simp only [Act.put, Z1, Z2, Z3, Z4, Z5, Z6]
    repeat
     first
      | (refine alts_off rfl (by rfl) (by rfl) (fun _ _ _ h => h) hS0 ?_; simp only [Act.put, Z1, Z2, Z3, Z4, Z5, Z6])
      | (refine alts_read (v := ?_) rfl (by rfl) (by rfl) (fun _ _ _ h => h) hS0 (fun w' hS' => ?_) ?_; rotate_left; (focus (have rd0 := hS'.cell x0 (by simp); have rd1 := hS'.cell x1 (by simp); have rd2 := hS'.cell d0 (by simp); have rd3 := hS'.cell d1 (by simp); clear hS'; go_simp; try with_reducible rfl)); simp only [Act.put, Z1, Z2, Z3, Z4, Z5, Z6])
      | (refine alts_skip rfl (by rfl) (by rfl) hS0 ?_; simp only [Act.put, Z1, Z2, Z3, Z4, Z5, Z6])
    refine alts_op rfl (by rfl) (by rfl) (fun K hK => ?_)
    have r0 := (cell_of_row _ _ 0 _ _ _ FB60.out).trans (show _ = some (Value.slice none 0 0) from rfl)
    have r1 := (cell_of_row _ _ 1 _ _ _ FB60.out).trans (show _ = some (Value.slice none 0 0) from rfl)
    have f0 := free_at FB60.out 0
    have f1 := free_at FB60.out 1
    obtain ⟨o0, o1, o2⟩ := out_store FB60.out (.slice a1 n1 c1) (.slice a2 n2 c2)
    go_simp
    have hS1 := hS0.trans o2 (fun j hj => Or.inr (by have := FN53.out; simp at hj; omega))
    have hro := HRO.out [b53] _ (((FR59.out).mono (by simp)).trans o2 (fun j hj => Or.inl hj)) (fun j hj => by have := FL59.out; simp at hj; omega)
    obtain ⟨o9, c9, e9, hr9⟩ := hro
    simp only [Value.slice.injEq] at e9
    obtain ⟨rfl, rfl, rfl⟩ := e9
    refine hK.out _ _ (fun _ => hS1) ?_
    clear hK K
    try simp only [Act.put, Z1, Z2, Z3, Z4, Z5, Z6]
    refine alts_op rfl (by rfl) (by rfl) (fun K hK => ?_)
    go_simp
    refine hK.out _ _ (fun _ => hS1) ?_
    clear hK K
    try simp only [Act.put, Z1, Z2, Z3, Z4, Z5, Z6]
    refine alts_done ?_
    go_wp2
    go_meet
    case rel => exact ⟨_, _, _, rfl, rfl, o1, hr9, hS1⟩
   refine alts_alt (by rfl) ?_ ?_
   ·skip
    refine alts_op rfl (by rfl) (by rfl) (fun K hK => ?_)
    go_simp
    have FI63 := Lib.hid (lit_four _ (HJ.out 0 (by decide) (by decide)) (HJ.out 1 (by decide) (by decide)) (HJ.out 2 (by decide) (by decide)) (HJ.out 3 (by decide) (by decide)) : IntsAt (World.alloc w53 (.cells #[.int .i64 0, .int .i64 1, .int .i64 2, .int .i64 3] 3)) _ _)
    have hcx := (Chg.refl [] w53).alloc (.cells #[.int .i64 0, .int .i64 1, .int .i64 2, .int .i64 3] 3)
    have FB64 := Lib.hid (hcx.heap FB53.out (by simp))
    clear FB53
    have hS1 := hS0.alloc (.cells #[.int .i64 0, .int .i64 1, .int .i64 2, .int .i64 3] 3)
    clear hS0 hcx
    have hS0 := hS1
    clear hS1
    refine hK.out _ _ (fun _ => hS0) ?_
    clear hK K
    try simp only [Act.put, Z1, Z2, Z3, Z4, Z5, Z6]
    generalize (World.alloc w53 (.cells #[.int .i64 0, .int .i64 1, .int .i64 2, .int .i64 3] 3)) = w63 at *
    repeat
     first
      | (refine alts_off rfl (by rfl) (by rfl) (fun _ _ _ h => h) hS0 ?_; simp only [Act.put, Z1, Z2, Z3, Z4, Z5, Z6])
      | (refine alts_read (v := ?_) rfl (by rfl) (by rfl) (fun _ _ _ h => h) hS0 (fun w' hS' => ?_) ?_; rotate_left; (focus (have rd0 := hS'.cell x0 (by simp); have rd1 := hS'.cell x1 (by simp); have rd2 := hS'.cell d0 (by simp); have rd3 := hS'.cell d1 (by simp); clear hS'; go_simp; try with_reducible rfl)); simp only [Act.put, Z1, Z2, Z3, Z4, Z5, Z6])
      | (refine alts_skip rfl (by rfl) (by rfl) hS0 ?_; simp only [Act.put, Z1, Z2, Z3, Z4, Z5, Z6])
    refine alts_op rfl (by rfl) (by rfl) (fun K hK => ?_)
    go_simp
    refine (whole_any _ Plain.g1 4 _ rfl (by decide) (by decide) (HG.out.fresh hS0)).mono ?_
    rintro e w65 ⟨v1, v2, rfl, r1, r2, hcx⟩
    have HR1 := Lib.hid r1.ints
    have HR2 := Lib.hid r2.ints
    rw [E4.out] at HR1
    rw [E3.out] at HR2
    clear r1 r2
    have FP65 := Lib.hid (show PtAt w65 (.agg #[v1, v2]) Plain.p1 from ⟨_, _, rfl, HR1.out, HR2.out⟩)
    clear HR1 HR2
    have FB66 := Lib.hid (hcx.heap FB64.out (by simp))
    clear FB64
    have FI67 := Lib.hid (FI63.out.fresh hcx)
    clear FI63
    have hS1 := hS0.trans hcx (by simp)
    clear hS0 hcx
    have hS0 := hS1
    clear hS1
    refine hK.out _ _ (fun _ => hS0) ?_
    clear hK K
    try simp only [Act.put, Z1, Z2, Z3, Z4, Z5, Z6]
    refine alts_op rfl (by rfl) (by rfl) (fun K hK => ?_)
    go_simp
    refine (rtri_any _ _ _ _ _ (HG.out.fresh hS0) FP65.out (HPL.out.fresh hS0) ⟨_, _, rfl, FI67.out, (rowNil' _ 0).ints⟩).mono ?_
    rintro e w68 ⟨u1, u2, rfl, hro, ⟨a1, n1, c1, a2, n2, c2, rfl, rfl⟩, hcx⟩
    have HRO := Lib.hid hro
    clear hro
    have FL68 := Lib.hid (lt_of_block FB66.out)
    have FB69 := Lib.hid (hcx.heap FB66.out (by simp))
    clear FB66
    have FI70 := Lib.hid (FI67.out.fresh hcx)
    clear FI67
    have FP71 := Lib.hid (FP65.out.fresh hcx)
    clear FP65
    have FR68 := Lib.hid (Chg.refl [] w68)
    have hS1 := hS0.trans hcx (by simp)
    have FW68 := Lib.hid hcx.size
    clear hS0 hcx
    have hS0 := hS1
    clear hS1
    refine hK.out _ _ (fun _ => hS0) ?_
    clear hK K
    try simp only [Act.put, Z1, Z2, Z3, Z4, Z5, Z6]
    repeat
     first
      | (refine alts_off rfl (by rfl) (by rfl) (fun _ _ _ h => h) hS0 ?_; simp only [Act.put, Z1, Z2, Z3, Z4, Z5, Z6])
      | (refine alts_read (v := ?_) rfl (by rfl) (by rfl) (fun _ _ _ h => h) hS0 (fun w' hS' => ?_) ?_; rotate_left; (focus (have rd0 := hS'.cell x0 (by simp); have rd1 := hS'.cell x1 (by simp); have rd2 := hS'.cell d0 (by simp); have rd3 := hS'.cell d1 (by simp); clear hS'; go_simp; try with_reducible rfl)); simp only [Act.put, Z1, Z2, Z3, Z4, Z5, Z6])
      | (refine alts_skip rfl (by rfl) (by rfl) hS0 ?_; simp only [Act.put, Z1, Z2, Z3, Z4, Z5, Z6])
    refine alts_op rfl (by rfl) (by rfl) (fun K hK => ?_)
    have r0 := (cell_of_row _ _ 0 _ _ _ FB69.out).trans (show _ = some (Value.slice none 0 0) from rfl)
    have r1 := (cell_of_row _ _ 1 _ _ _ FB69.out).trans (show _ = some (Value.slice none 0 0) from rfl)
    have f0 := free_at FB69.out 0
    have f1 := free_at FB69.out 1
    obtain ⟨o0, o1, o2⟩ := out_store FB69.out (.slice a1 n1 c1) (.slice a2 n2 c2)
    go_simp
    have hS1 := hS0.trans o2 (fun j hj => Or.inr (by have := FN53.out; simp at hj; omega))
    have hro := HRO.out [b53] _ (((FR68.out).mono (by simp)).trans o2 (fun j hj => Or.inl hj)) (fun j hj => by have := FL68.out; simp at hj; omega)
    obtain ⟨o9, c9, e9, hr9⟩ := hro
    simp only [Value.slice.injEq] at e9
    obtain ⟨rfl, rfl, rfl⟩ := e9
    refine hK.out _ _ (fun _ => hS1) ?_
    clear hK K
    try simp only [Act.put, Z1, Z2, Z3, Z4, Z5, Z6]
    refine alts_op rfl (by rfl) (by rfl) (fun K hK => ?_)
    go_simp
    refine hK.out _ _ (fun _ => hS1) ?_
    clear hK K
    try simp only [Act.put, Z1, Z2, Z3, Z4, Z5, Z6]
    refine alts_done ?_
    go_wp2
    go_meet
    case rel => exact ⟨_, _, _, rfl, rfl, o1, hr9, hS1⟩
   exact alts_nil
  exact alts_nil
 case rest =>
  obtain ⟨b, o2, c2, rfl, rfl, hcb, hrb, hcw⟩ := hcut
  obtain ⟨rb, ro, ru, rfl, hrc, -, hrr⟩ := hrb.rowc (k := 0) (by decide)
  rw [Nat.add_zero] at hrc
  have HRR := Lib.hid (show IntsAt wc ru [-4, -3, -2, -1] from hrr)
  have HCW := Lib.hid (HC9.out.trans hcw (by simp))
  have hlit := (Chg.refl [] wc).alloc (.cells #[.int .i64 (-4), .int .i64 (-3), .int .i64 (-2), .int .i64 (-1)] 3)
  have HL := Lib.hid (lit_four wc (HJ.out (-4) (by decide) (by decide)) (HJ.out (-3) (by decide) (by decide)) (HJ.out (-2) (by decide) (by decide)) (HJ.out (-1) (by decide) (by decide)))
  have HLC := Lib.hid hlit
  clear hrb hcw hrr hlit
  go_wp2_with fail
  refine (equal_any _ _ [-4, -3, -2, -1] [-4, -3, -2, -1] _ (HRR.out.fresh HLC.out) HL.out).mono ?_
  rintro e wf ⟨rfl, hcf⟩
  have HCF := Lib.hid ((HCW.out.trans HLC.out (by simp)).trans hcf (by simp))
  clear hcf
  rw [decide_eq_true rfl]
  go_wp2
  go_ret
  exact ⟨rfl, HCF.out⟩
end Go.Proofs.YtednbiophjndpaaGreat
