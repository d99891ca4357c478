/- law 09's awake: true. -/
import Derived.Test.YtckjpaimbmlboaaGreatVSame8
namespace Go.Proofs.YtckjpaimbmlboaaGreat
open Go.RowKit Go.Maps
namespace Plain
def q9 : Pt := ⟨[0, 1, 2, 3], []⟩
theorem err9 : q9.err g1 = 0 := by decide
theorem walks9 : walksOf g1 q9 (restTurn q9.e t1) = [(-4, []), (-3, []), (-2, []), (-1, [])] := by
 have h : WalksOk g1 q9 (restTurn q9.e t1) (loneAt (restTurn q9.e t1) q9.v ++ []) := Trk.walks (Pt.ok_of_err err9) (Trk.start _ _ _)
 rw [← h.eq err9]
 decide
theorem same9 : restSame g1 p1 q9 t1 [[-4, 1]] = [[-4, -3, -2, -1]] := by
 have hr : regionsOf g1 p1 t1 [[-4, 1]] = [[-4, 1], [0]] := by
  have hpt := parted (plan1w (Or.inr rfl)) (by rw [walksOf1]; exact walks1)
  refine (IsRegs.eq hpt ⟨?_, ?_⟩).symm
  ·unfold allRegs
   rw [walksOf1]
   decide
  decide
 unfold restSame
 rw [hr, walksOf1, walks9]
 decide
theorem rest9 : restErr g1 p1 q9 t1 [[-4, 1]] = 0 := restErr_zero (plan1w (Or.inr rfl)) err9 (by decide) (by decide)
end Plain
theorem ints_four {w : World} {b : Nat} {x y z u : Int} (h : w.heap[b]? = some (.cells #[.int .i64 x, .int .i64 y, .int .i64 z, .int .i64 u] 3)) (hx : I64 x) (hy : I64 y) (hz : I64 z) (hu : I64 u) : IntsAt w (.slice (some ⟨b, 0, none⟩) 4 4) [x, y, z, u] := by
 refine ⟨_, 4, rfl, by simp [hx, hy, hz, hu], by simp, fun _ => ⟨b, 0, rfl, fun i hi => ?_⟩⟩
 simp at hi
 rw [cell_of_row _ _ _ _ _ _ h]
 rcases i with _ | _ | _ | _ | i
 ·rfl
 ·rfl
 ·rfl
 ·rfl
 omega
theorem lit_four (w : World) {x y z u : Int} (hx : I64 x) (hy : I64 y) (hz : I64 z) (hu : I64 u) : IntsAt (w.alloc (.cells #[.int .i64 x, .int .i64 y, .int .i64 z, .int .i64 u] 3)) (.slice (some ⟨w.heap.size, 0, none⟩) 4 4) [x, y, z, u] := ints_four (heap_alloc_new w _) hx hy hz hu
theorem rtri_any (vg vp vx vq : Value) (w : World) (hg : GrAt w vg Plain.g1) (hp : PtAt w vp Plain.p1) (hx : PlAt w vx Plain.t1 [[-4, 1]]) (hq : PtAt w vq Plain.q9) :
  Calls Tryz.prog 9 #[vg, vp, vx, vq] w fun e w' => ∃ u1 u2, e = .returned (.tuple #[.agg #[u1, u2], .int .i64 0]) ∧ (∀ own wx, Chg own w' wx → (∀ j ∈ own, j < w.heap.size) → ∃ o2 c2, u2 = .slice o2 1 c2 ∧ RowsAt wx (.slice o2 1 c2) [[-4, -3, -2, -1]]) ∧ (∃ a1 n1 c1 a2 n2 c2, u1 = .slice a1 n1 c1 ∧ u2 = .slice a2 n2 c2) ∧ Chg [] w w' := by
 refine (restTo_low vg vp vx vq Plain.g1 Plain.p1 Plain.q9 Plain.t1 [[-4, 1]] w (by decide) (by decide) (by decide) (by decide) (by decide) (by decide) (by decide) (fun i => ?_) hg hp hx hq).mono ?_
 ·rcases i with _ | i
  ·simp
  simp [List.getD]
 rintro e w' ⟨ov, rfl, -, h3, h4⟩
 have h5 := h3 Plain.rest9
 obtain ⟨t1, t2, rfl, r1, r2⟩ := h5 [] w' (Chg.refl _ _) (by simp)
 obtain ⟨a1, c1, rfl, -⟩ := r1
 obtain ⟨a2, c2, rfl, -⟩ := r2
 rw [Plain.rest9]
 refine ⟨_, _, rfl, fun own wx hc hl => ?_, ⟨_, _, _, _, _, _, rfl, rfl⟩, h4⟩
 obtain ⟨s1, s2, e, -, k2⟩ := h5 own wx hc hl
 simp only [Value.agg.injEq] at e
 cases e
 rw [Plain.same9] at k2
 exact ⟨a2, c2, by rw [Plain.same9]; rfl, k2⟩
set_option maxRecDepth 100000 in
set_option maxHeartbeats 4000000 in
theorem awake09_any (w : World) : Calls Tryz.prog 7 #[] w fun e w' => e = .returned (.bool true) ∧ Chg [] w w' := by
 go_enter Tryz.func7, Tryz.ntmps7
 go_wp2
 obtain ⟨a0, s0, -⟩ := alloc_at w (.cells #[.int .i64 0, .int .i64 1, .int .i64 1, .int .i64 2, .int .i64 2, .int .i64 0] 50) w.heap.size rfl
 obtain ⟨a1, s1, k1⟩ := alloc_at _ (.cells #[.int .i64 4, .slice (some ⟨w.heap.size, 0, none⟩) 3 3] 24) _ s0
 obtain ⟨a2, s2, k2⟩ := alloc_at _ (.cells #[.int .i64 0, .int .i64 5] 3) _ s1
 obtain ⟨a3, s3, k3⟩ := alloc_at _ (.cells #[.int .i64 1, .int .i64 2] 3) _ s2
 obtain ⟨a4, s4, k4⟩ := alloc_at _ (.cells #[.int .i64 3, .int .i64 4] 3) _ s3
 obtain ⟨a5, s5, k5⟩ := alloc_at _ (.cells #[.slice (some ⟨w.heap.size + 1 + 1, 0, none⟩) 2 2, .slice (some ⟨w.heap.size + 1 + 1 + 1, 0, none⟩) 2 2, .slice (some ⟨w.heap.size + 1 + 1 + 1 + 1, 0, none⟩) 2 2, .slice none 0 0] 25) _ s4
 obtain ⟨a6, s6, k6⟩ := alloc_at _ (.cells #[.int .i64 (-4), .int .i64 1] 3) _ s5
 obtain ⟨a7, s7, k7⟩ := alloc_at _ (.cells #[.slice (some ⟨w.heap.size + 1 + 1 + 1 + 1 + 1 + 1, 0, none⟩) 2 2] 25) _ s6
 obtain ⟨a8, s8, k8⟩ := alloc_at _ (.cells #[.slice (some ⟨w.heap.size + 1 + 1 + 1 + 1 + 1, 0, none⟩) 4 4, .slice (some ⟨w.heap.size + 1 + 1 + 1 + 1 + 1 + 1 + 1, 0, none⟩) 1 1] 30) _ s7
 have k28 : ∀ {b : Nat} {o' : Obj}, _ → _ := fun {b o'} h => k8 b o' (k7 b o' (k6 b o' (k5 b o' (k4 b o' (k3 b o' h)))))
 have hg9 := gr_tri (k28 (k2 _ _ (k1 _ _ a0)))
 have hb1 := k28 (k2 _ _ a1)
 have x0 := (cell_of_row _ _ 0 _ _ _ hb1).trans (show _ = some (Value.int .i64 4) from rfl)
 have x1 := (cell_of_row _ _ 1 _ _ _ hb1).trans (show _ = some (Value.slice (some ⟨w.heap.size, 0, none⟩) 3 3) from rfl)
 have d0 := (cell_of_row _ _ 0 _ _ _ a8).trans (show _ = some (Value.slice (some ⟨w.heap.size + 1 + 1 + 1 + 1 + 1, 0, none⟩) 4 4) from rfl)
 have d1 := (cell_of_row _ _ 1 _ _ _ a8).trans (show _ = some (Value.slice (some ⟨w.heap.size + 1 + 1 + 1 + 1 + 1 + 1 + 1, 0, none⟩) 1 1) from rfl)
 have hpl := pl_tri (I64.mk (by decide) (by decide) : I64 1) (k28 a2) (k8 _ _ (k7 _ _ (k6 _ _ (k5 _ _ (k4 _ _ a3))))) (k8 _ _ (k7 _ _ (k6 _ _ (k5 _ _ a4)))) (k8 _ _ (k7 _ _ (k6 _ _ a5))) (k8 _ _ (k7 _ _ a6)) (k8 _ _ a7)
 have hc9 := (((((((((Chg.refl [] w).alloc (.cells #[.int .i64 0, .int .i64 1, .int .i64 1, .int .i64 2, .int .i64 2, .int .i64 0] 50)).alloc (.cells #[.int .i64 4, .slice (some ⟨w.heap.size, 0, none⟩) 3 3] 24)).alloc (.cells #[.int .i64 0, .int .i64 5] 3)).alloc (.cells #[.int .i64 1, .int .i64 2] 3)).alloc (.cells #[.int .i64 3, .int .i64 4] 3)).alloc (.cells #[.slice (some ⟨w.heap.size + 1 + 1, 0, none⟩) 2 2, .slice (some ⟨w.heap.size + 1 + 1 + 1, 0, none⟩) 2 2, .slice (some ⟨w.heap.size + 1 + 1 + 1 + 1, 0, none⟩) 2 2, .slice none 0 0] 25)).alloc (.cells #[.int .i64 (-4), .int .i64 1] 3)).alloc (.cells #[.slice (some ⟨w.heap.size + 1 + 1 + 1 + 1 + 1 + 1, 0, none⟩) 2 2] 25)).alloc (.cells #[.slice (some ⟨w.heap.size + 1 + 1 + 1 + 1 + 1, 0, none⟩) 4 4, .slice (some ⟨w.heap.size + 1 + 1 + 1 + 1 + 1 + 1 + 1, 0, none⟩) 1 1] 30)
 clear k28 k1 k2 k3 k4 k5 k6 k7 k8 a0 a1 a2 a3 a4 a5 a6 a7 a8 s0 s1 s2 s3 s4 s5 s6 s7 s8 hb1
 generalize ((((((((w.alloc (.cells #[.int .i64 0, .int .i64 1, .int .i64 1, .int .i64 2, .int .i64 2, .int .i64 0] 50)).alloc (.cells #[.int .i64 4, .slice (some ⟨w.heap.size, 0, none⟩) 3 3] 24)).alloc (.cells #[.int .i64 0, .int .i64 5] 3)).alloc (.cells #[.int .i64 1, .int .i64 2] 3)).alloc (.cells #[.int .i64 3, .int .i64 4] 3)).alloc (.cells #[.slice (some ⟨w.heap.size + 1 + 1, 0, none⟩) 2 2, .slice (some ⟨w.heap.size + 1 + 1 + 1, 0, none⟩) 2 2, .slice (some ⟨w.heap.size + 1 + 1 + 1 + 1, 0, none⟩) 2 2, .slice none 0 0] 25)).alloc (.cells #[.int .i64 (-4), .int .i64 1] 3)).alloc (.cells #[.slice (some ⟨w.heap.size + 1 + 1 + 1 + 1 + 1 + 1, 0, none⟩) 2 2] 25)).alloc (.cells #[.slice (some ⟨w.heap.size + 1 + 1 + 1 + 1 + 1, 0, none⟩) 4 4, .slice (some ⟨w.heap.size + 1 + 1 + 1 + 1 + 1 + 1 + 1, 0, none⟩) 1 1] 30) = w9 at *
 generalize w.heap.size + 1 + 1 + 1 + 1 + 1 + 1 + 1 + 1 = bp at *
 generalize w.heap.size + 1 + 1 + 1 + 1 + 1 + 1 + 1 = b7 at *
 generalize w.heap.size + 1 + 1 + 1 + 1 + 1 + 1 = b6 at *
 generalize w.heap.size + 1 + 1 + 1 + 1 + 1 = b5 at *
 generalize w.heap.size + 1 + 1 + 1 + 1 = b4 at *
 generalize w.heap.size + 1 + 1 + 1 = b3 at *
 generalize w.heap.size + 1 + 1 = b2 at *
 generalize w.heap.size + 1 = bg at *
 generalize w.heap.size = be at *
 have HG := lh hg9
 have HPL := lh hpl
 have HC9 := lh hc9
 have E4 := lh (show Plain.upTo 4 = Plain.p1.v by decide)
 have E3 := lh (show Plain.upTo Plain.g1.e.length = Plain.p1.e by decide)
 have J0 : ∀ x : Int, -100 ≤ x → x ≤ 100 → I64 x := fun x a b => I64.mk (by omega) (by omega)
 have HJ := lh J0
 clear hg9 hpl hc9 J0
 go_cut [3, 4] (fun c3 c4 wc => ∃ b o2 c2, c3 = .pointer (some ⟨b, 0, none⟩) ∧ c4 = .int .i64 0 ∧ wc.cell? ⟨b, 1, none⟩ = some (.slice o2 1 c2) ∧ RowsAt wc (.slice o2 1 c2) [[-4, -3, -2, -1]] ∧ Chg [] w9 wc)
 case first =>
  have hS0 : Chg [] w9 w9.drew := (Chg.refl [] w9).drew
  refine wp_region_alts (Chg [] w9) [0, 1, 3, 5, 7, 8, 9] (.then_ 0 (.then_ 1 (.then_ 3 (.alt 2 (.alt 4 (.then_ 5 (.alt 6 (.then_ 7 (.then_ 8 (.then_ 9 (.then_ 10 (Wy.line [11, 12] .done))))) (.alt 10 (.then_ 6 (.then_ 7 (.then_ 8 (.then_ 9 (Wy.line [11, 12] .done))))) .nil))) (.alt 10 (.then_ 4 (.then_ 5 (.then_ 6 (.then_ 7 (.then_ 8 (.then_ 9 (Wy.line [11, 12] .done))))))) .nil)) (.alt 4 (.then_ 5 (.alt 2 (.alt 6 (.then_ 7 (.then_ 8 (.then_ 9 (.then_ 10 (Wy.line [11, 12] .done))))) (.alt 10 (.then_ 6 (.then_ 7 (.then_ 8 (.then_ 9 (Wy.line [11, 12] .done))))) .nil)) (.alt 10 (.then_ 2 (.then_ 6 (.then_ 7 (.then_ 8 (.then_ 9 (Wy.line [11, 12] .done)))))) .nil))) (.alt 10 (.alt 2 (.then_ 4 (.then_ 5 (.then_ 6 (.then_ 7 (.then_ 8 (.then_ 9 (Wy.line [11, 12] .done))))))) (.alt 4 (.then_ 5 (.then_ 2 (.then_ 6 (.then_ 7 (.then_ 8 (.then_ 9 (Wy.line [11, 12] .done))))))) .nil)) .nil)))))) (by kernel_rfl) (by kernel_rfl) ?_
  simp only [Wy.line]
  generalize w9.drew = w0 at *
  repeat
   first
    | (refine alts_off rfl (by rfl) (by rfl) (fun _ _ _ h => h) hS0 ?_; simp only [Act.put, Z1, Z2, Z3, Z4, Z5, Z6])
    | (refine alts_read (v := ?_) rfl (by rfl) (by rfl) (fun _ _ _ h => h) hS0 (fun w' hS' => ?_) ?_; rotate_left; (focus (have rd0 := hS'.cell x0 (by simp); have rd1 := hS'.cell x1 (by simp); have rd2 := hS'.cell d0 (by simp); have rd3 := hS'.cell d1 (by simp); clear hS'; go_simp; try with_reducible rfl)); simp only [Act.put, Z1, Z2, Z3, Z4, Z5, Z6])
    | (refine alts_skip rfl (by rfl) (by rfl) hS0 ?_; simp only [Act.put, Z1, Z2, Z3, Z4, Z5, Z6])
  refine alts_alt (by rfl) ?_ ?_
  ·skip
   refine alts_op rfl (by rfl) (by rfl) (fun K hK => ?_)
   go_simp
   refine (whole_any _ Plain.g1 4 _ rfl (by decide) (by decide) (HG.out.fresh hS0)).mono ?_
   rintro e w1 ⟨v1, v2, rfl, r1, r2, hcx⟩
   have HR1 := lh r1.ints
   have HR2 := lh r2.ints
   rw [E4.out] at HR1
   rw [E3.out] at HR2
   clear r1 r2
   have FP1 := lh (show PtAt w1 (.agg #[v1, v2]) Plain.p1 from ⟨_, _, rfl, HR1.out, HR2.out⟩)
   clear HR1 HR2
   have hS1 := hS0.trans hcx (by simp)
   clear hS0 hcx
   have hS0 := hS1
   clear hS1
   refine hK.out _ _ (fun _ => hS0) ?_
   clear hK K
   try simp only [Act.put, Z1, Z2, Z3, Z4, Z5, Z6]
   refine alts_alt (by rfl) ?_ ?_
   ·skip
    refine alts_op rfl (by rfl) (by rfl) (fun K hK => ?_)
    go_simp
    have FI2 := lh (lit_four _ (HJ.out 0 (by decide) (by decide)) (HJ.out 1 (by decide) (by decide)) (HJ.out 2 (by decide) (by decide)) (HJ.out 3 (by decide) (by decide)) : IntsAt (World.alloc w1 (.cells #[.int .i64 0, .int .i64 1, .int .i64 2, .int .i64 3] 3)) _ _)
    have hcx := (Chg.refl [] w1).alloc (.cells #[.int .i64 0, .int .i64 1, .int .i64 2, .int .i64 3] 3)
    have FP3 := lh (FP1.out.fresh hcx)
    clear FP1
    have hS1 := hS0.alloc (.cells #[.int .i64 0, .int .i64 1, .int .i64 2, .int .i64 3] 3)
    clear hS0 hcx
    have hS0 := hS1
    clear hS1
    refine hK.out _ _ (fun _ => hS0) ?_
    clear hK K
    try simp only [Act.put, Z1, Z2, Z3, Z4, Z5, Z6]
    generalize (World.alloc w1 (.cells #[.int .i64 0, .int .i64 1, .int .i64 2, .int .i64 3] 3)) = w2 at *
    repeat
     first
      | (refine alts_off rfl (by rfl) (by rfl) (fun _ _ _ h => h) hS0 ?_; simp only [Act.put, Z1, Z2, Z3, Z4, Z5, Z6])
      | (refine alts_read (v := ?_) rfl (by rfl) (by rfl) (fun _ _ _ h => h) hS0 (fun w' hS' => ?_) ?_; rotate_left; (focus (have rd0 := hS'.cell x0 (by simp); have rd1 := hS'.cell x1 (by simp); have rd2 := hS'.cell d0 (by simp); have rd3 := hS'.cell d1 (by simp); clear hS'; go_simp; try with_reducible rfl)); simp only [Act.put, Z1, Z2, Z3, Z4, Z5, Z6])
      | (refine alts_skip rfl (by rfl) (by rfl) hS0 ?_; simp only [Act.put, Z1, Z2, Z3, Z4, Z5, Z6])
    refine alts_alt (by rfl) ?_ ?_
    ·skip
     refine alts_op rfl (by rfl) (by rfl) (fun K hK => ?_)
     go_simp
     refine (rtri_any _ _ _ _ _ (HG.out.fresh hS0) FP3.out (HPL.out.fresh hS0) ⟨_, _, rfl, FI2.out, (rowNil' _ 0).ints⟩).mono ?_
     rintro e w4 ⟨u1, u2, rfl, hro, ⟨a1, n1, c1, a2, n2, c2, rfl, rfl⟩, hcx⟩
     have HRO := lh hro
     clear hro
     have FP5 := lh (FP3.out.fresh hcx)
     clear FP3
     have FI6 := lh (FI2.out.fresh hcx)
     clear FI2
     have FR4 := lh (Chg.refl [] w4)
     have hS1 := hS0.trans hcx (by simp)
     have FW4 := lh hcx.size
     clear hS0 hcx
     have hS0 := hS1
     clear hS1
     refine hK.out _ _ (fun _ => hS0) ?_
     clear hK K
     try simp only [Act.put, Z1, Z2, Z3, Z4, Z5, Z6]
     repeat
      first
       | (refine alts_off rfl (by rfl) (by rfl) (fun _ _ _ h => h) hS0 ?_; simp only [Act.put, Z1, Z2, Z3, Z4, Z5, Z6])
       | (refine alts_read (v := ?_) rfl (by rfl) (by rfl) (fun _ _ _ h => h) hS0 (fun w' hS' => ?_) ?_; rotate_left; (focus (have rd0 := hS'.cell x0 (by simp); have rd1 := hS'.cell x1 (by simp); have rd2 := hS'.cell d0 (by simp); have rd3 := hS'.cell d1 (by simp); clear hS'; go_simp; try with_reducible rfl)); simp only [Act.put, Z1, Z2, Z3, Z4, Z5, Z6])
       | (refine alts_skip rfl (by rfl) (by rfl) hS0 ?_; simp only [Act.put, Z1, Z2, Z3, Z4, Z5, Z6])
     refine alts_op rfl (by rfl) (by rfl) (fun K hK => ?_)
     go_simp
     have FB7 := lh (heap_alloc_new w4 (.cells #[.slice none 0 0, .slice none 0 0] 30))
     have hcx := (Chg.refl [] w4).alloc (.cells #[.slice none 0 0, .slice none 0 0] 30)
     obtain ⟨b7, hb7⟩ : ∃ b, (World.heap w4).size = b := ⟨_, rfl⟩
     have FN7 := lh (show w9.heap.size ≤ b7 by rw [← hb7]; exact hS0.size)
     have FX7 := lh (show w4.heap.size ≤ b7 by rw [← hb7]; exact FR4.out.size)
     have FP8 := lh (FP5.out.fresh hcx)
     clear FP5
     have FI9 := lh (FI6.out.fresh hcx)
     clear FI6
     have FR10 := lh ((FR4.out).trans hcx (by simp))
     clear FR4
     rw [hb7] at FB7 ⊢
     clear hb7
     have hS1 := hS0.alloc (.cells #[.slice none 0 0, .slice none 0 0] 30)
     clear hS0 hcx
     have hS0 := hS1
     clear hS1
     refine hK.out _ _ (fun _ => hS0) ?_
     clear hK K
     try simp only [Act.put, Z1, Z2, Z3, Z4, Z5, Z6]
     generalize (World.alloc w4 (.cells #[.slice none 0 0, .slice none 0 0] 30)) = w7 at *
     refine alts_op rfl (by rfl) (by rfl) (fun K hK => ?_)
     have r0 := (cell_of_row _ _ 0 _ _ _ FB7.out).trans (show _ = some (Value.slice none 0 0) from rfl)
     have r1 := (cell_of_row _ _ 1 _ _ _ FB7.out).trans (show _ = some (Value.slice none 0 0) from rfl)
     have f0 := free_at FB7.out 0
     have f1 := free_at FB7.out 1
     obtain ⟨o0, o1, o2⟩ := out_store FB7.out (.slice a1 n1 c1) (.slice a2 n2 c2)
     go_simp
     have hS1 := hS0.trans o2 (fun j hj => Or.inr (by have := FN7.out; simp at hj; omega))
     have hro := HRO.out [] _ ((FR10.out).trans o2 (fun j hj => Or.inr (by simp at hj; rw [hj]; exact FX7.out))) (by simp)
     obtain ⟨o9, c9, e9, hr9⟩ := hro
     simp only [Value.slice.injEq] at e9
     obtain ⟨rfl, rfl, rfl⟩ := e9
     refine hK.out _ _ (fun _ => hS1) ?_
     clear hK K
     try simp only [Act.put, Z1, Z2, Z3, Z4, Z5, Z6]
     refine alts_op rfl (by rfl) (by rfl) (fun K hK => ?_)
     go_simp
     refine hK.out _ _ (fun _ => hS1) ?_
     clear hK K
     try simp only [Act.put, Z1, Z2, Z3, Z4, Z5, Z6]
     refine alts_done ?_
     go_wp2
     go_meet
     case rel => exact ⟨_, _, _, rfl, rfl, o1, hr9, hS1⟩
    refine alts_alt (by rfl) ?_ ?_
    ·skip
     refine alts_op rfl (by rfl) (by rfl) (fun K hK => ?_)
     go_simp
     have FB11 := lh (heap_alloc_new w2 (.cells #[.slice none 0 0, .slice none 0 0] 30))
     have hcx := (Chg.refl [] w2).alloc (.cells #[.slice none 0 0, .slice none 0 0] 30)
     obtain ⟨b11, hb11⟩ : ∃ b, (World.heap w2).size = b := ⟨_, rfl⟩
     have FN11 := lh (show w9.heap.size ≤ b11 by rw [← hb11]; exact hS0.size)
     have FP12 := lh (FP3.out.fresh hcx)
     clear FP3
     have FI13 := lh (FI2.out.fresh hcx)
     clear FI2
     rw [hb11] at FB11 ⊢
     clear hb11
     have hS1 := hS0.alloc (.cells #[.slice none 0 0, .slice none 0 0] 30)
     clear hS0 hcx
     have hS0 := hS1
     clear hS1
     refine hK.out _ _ (fun _ => hS0) ?_
     clear hK K
     try simp only [Act.put, Z1, Z2, Z3, Z4, Z5, Z6]
     generalize (World.alloc w2 (.cells #[.slice none 0 0, .slice none 0 0] 30)) = w11 at *
     refine alts_op rfl (by rfl) (by rfl) (fun K hK => ?_)
     go_simp
     refine (rtri_any _ _ _ _ _ (HG.out.fresh hS0) FP12.out (HPL.out.fresh hS0) ⟨_, _, rfl, FI13.out, (rowNil' _ 0).ints⟩).mono ?_
     rintro e w14 ⟨u1, u2, rfl, hro, ⟨a1, n1, c1, a2, n2, c2, rfl, rfl⟩, hcx⟩
     have HRO := lh hro
     clear hro
     have FL14 := lh (lt_of_block FB11.out)
     have FP15 := lh (FP12.out.fresh hcx)
     clear FP12
     have FI16 := lh (FI13.out.fresh hcx)
     clear FI13
     have FB17 := lh (hcx.heap FB11.out (by simp))
     clear FB11
     have FR14 := lh (Chg.refl [] w14)
     have hS1 := hS0.trans hcx (by simp)
     have FW14 := lh hcx.size
     clear hS0 hcx
     have hS0 := hS1
     clear hS1
     refine hK.out _ _ (fun _ => hS0) ?_
     clear hK K
     try simp only [Act.put, Z1, Z2, Z3, Z4, Z5, Z6]
     repeat
      first
       | (refine alts_off rfl (by rfl) (by rfl) (fun _ _ _ h => h) hS0 ?_; simp only [Act.put, Z1, Z2, Z3, Z4, Z5, Z6])
       | (refine alts_read (v := ?_) rfl (by rfl) (by rfl) (fun _ _ _ h => h) hS0 (fun w' hS' => ?_) ?_; rotate_left; (focus (have rd0 := hS'.cell x0 (by simp); have rd1 := hS'.cell x1 (by simp); have rd2 := hS'.cell d0 (by simp); have rd3 := hS'.cell d1 (by simp); clear hS'; go_simp; try with_reducible rfl)); simp only [Act.put, Z1, Z2, Z3, Z4, Z5, Z6])
       | (refine alts_skip rfl (by rfl) (by rfl) hS0 ?_; simp only [Act.put, Z1, Z2, Z3, Z4, Z5, Z6])
     refine alts_op rfl (by rfl) (by rfl) (fun K hK => ?_)
     have r0 := (cell_of_row _ _ 0 _ _ _ FB17.out).trans (show _ = some (Value.slice none 0 0) from rfl)
     have r1 := (cell_of_row _ _ 1 _ _ _ FB17.out).trans (show _ = some (Value.slice none 0 0) from rfl)
     have f0 := free_at FB17.out 0
     have f1 := free_at FB17.out 1
     obtain ⟨o0, o1, o2⟩ := out_store FB17.out (.slice a1 n1 c1) (.slice a2 n2 c2)
     go_simp
     have hS1 := hS0.trans o2 (fun j hj => Or.inr (by have := FN11.out; simp at hj; omega))
     have hro := HRO.out [b11] _ (((FR14.out).mono (by simp)).trans o2 (fun j hj => Or.inl hj)) (fun j hj => by have := FL14.out; simp at hj; omega)
     obtain ⟨o9, c9, e9, hr9⟩ := hro
     simp only [Value.slice.injEq] at e9
     obtain ⟨rfl, rfl, rfl⟩ := e9
     refine hK.out _ _ (fun _ => hS1) ?_
     clear hK K
     try simp only [Act.put, Z1, Z2, Z3, Z4, Z5, Z6]
     refine alts_op rfl (by rfl) (by rfl) (fun K hK => ?_)
     go_simp
     refine hK.out _ _ (fun _ => hS1) ?_
     clear hK K
     try simp only [Act.put, Z1, Z2, Z3, Z4, Z5, Z6]
     refine alts_done ?_
     go_wp2
     go_meet
     case rel => exact ⟨_, _, _, rfl, rfl, o1, hr9, hS1⟩
    exact alts_nil
   refine alts_alt (by rfl) ?_ ?_
   ·skip
    refine alts_op rfl (by rfl) (by rfl) (fun K hK => ?_)
    go_simp
    have FB18 := lh (heap_alloc_new w1 (.cells #[.slice none 0 0, .slice none 0 0] 30))
    have hcx := (Chg.refl [] w1).alloc (.cells #[.slice none 0 0, .slice none 0 0] 30)
    obtain ⟨b18, hb18⟩ : ∃ b, (World.heap w1).size = b := ⟨_, rfl⟩
    have FN18 := lh (show w9.heap.size ≤ b18 by rw [← hb18]; exact hS0.size)
    have FP19 := lh (FP1.out.fresh hcx)
    clear FP1
    rw [hb18] at FB18 ⊢
    clear hb18
    have hS1 := hS0.alloc (.cells #[.slice none 0 0, .slice none 0 0] 30)
    clear hS0 hcx
    have hS0 := hS1
    clear hS1
    refine hK.out _ _ (fun _ => hS0) ?_
    clear hK K
    try simp only [Act.put, Z1, Z2, Z3, Z4, Z5, Z6]
    generalize (World.alloc w1 (.cells #[.slice none 0 0, .slice none 0 0] 30)) = w18 at *
    refine alts_op rfl (by rfl) (by rfl) (fun K hK => ?_)
    go_simp
    have FI20 := lh (lit_four _ (HJ.out 0 (by decide) (by decide)) (HJ.out 1 (by decide) (by decide)) (HJ.out 2 (by decide) (by decide)) (HJ.out 3 (by decide) (by decide)) : IntsAt (World.alloc w18 (.cells #[.int .i64 0, .int .i64 1, .int .i64 2, .int .i64 3] 3)) _ _)
    have hcx := (Chg.refl [] w18).alloc (.cells #[.int .i64 0, .int .i64 1, .int .i64 2, .int .i64 3] 3)
    have FP21 := lh (FP19.out.fresh hcx)
    clear FP19
    have FB22 := lh (hcx.heap FB18.out (by simp))
    clear FB18
    have hS1 := hS0.alloc (.cells #[.int .i64 0, .int .i64 1, .int .i64 2, .int .i64 3] 3)
    clear hS0 hcx
    have hS0 := hS1
    clear hS1
    refine hK.out _ _ (fun _ => hS0) ?_
    clear hK K
    try simp only [Act.put, Z1, Z2, Z3, Z4, Z5, Z6]
    generalize (World.alloc w18 (.cells #[.int .i64 0, .int .i64 1, .int .i64 2, .int .i64 3] 3)) = w20 at *
    repeat
     first
      | (refine alts_off rfl (by rfl) (by rfl) (fun _ _ _ h => h) hS0 ?_; simp only [Act.put, Z1, Z2, Z3, Z4, Z5, Z6])
      | (refine alts_read (v := ?_) rfl (by rfl) (by rfl) (fun _ _ _ h => h) hS0 (fun w' hS' => ?_) ?_; rotate_left; (focus (have rd0 := hS'.cell x0 (by simp); have rd1 := hS'.cell x1 (by simp); have rd2 := hS'.cell d0 (by simp); have rd3 := hS'.cell d1 (by simp); clear hS'; go_simp; try with_reducible rfl)); simp only [Act.put, Z1, Z2, Z3, Z4, Z5, Z6])
      | (refine alts_skip rfl (by rfl) (by rfl) hS0 ?_; simp only [Act.put, Z1, Z2, Z3, Z4, Z5, Z6])
    refine alts_op rfl (by rfl) (by rfl) (fun K hK => ?_)
    go_simp
    refine (rtri_any _ _ _ _ _ (HG.out.fresh hS0) FP21.out (HPL.out.fresh hS0) ⟨_, _, rfl, FI20.out, (rowNil' _ 0).ints⟩).mono ?_
    rintro e w23 ⟨u1, u2, rfl, hro, ⟨a1, n1, c1, a2, n2, c2, rfl, rfl⟩, hcx⟩
    have HRO := lh hro
    clear hro
    have FL23 := lh (lt_of_block FB22.out)
    have FP24 := lh (FP21.out.fresh hcx)
    clear FP21
    have FB25 := lh (hcx.heap FB22.out (by simp))
    clear FB22
    have FI26 := lh (FI20.out.fresh hcx)
    clear FI20
    have FR23 := lh (Chg.refl [] w23)
    have hS1 := hS0.trans hcx (by simp)
    have FW23 := lh hcx.size
    clear hS0 hcx
    have hS0 := hS1
    clear hS1
    refine hK.out _ _ (fun _ => hS0) ?_
    clear hK K
    try simp only [Act.put, Z1, Z2, Z3, Z4, Z5, Z6]
    repeat
     first
      | (refine alts_off rfl (by rfl) (by rfl) (fun _ _ _ h => h) hS0 ?_; simp only [Act.put, Z1, Z2, Z3, Z4, Z5, Z6])
      | (refine alts_read (v := ?_) rfl (by rfl) (by rfl) (fun _ _ _ h => h) hS0 (fun w' hS' => ?_) ?_; rotate_left; (focus (have rd0 := hS'.cell x0 (by simp); have rd1 := hS'.cell x1 (by simp); have rd2 := hS'.cell d0 (by simp); have rd3 := hS'.cell d1 (by simp); clear hS'; go_simp; try with_reducible rfl)); simp only [Act.put, Z1, Z2, Z3, Z4, Z5, Z6])
      | (refine alts_skip rfl (by rfl) (by rfl) hS0 ?_; simp only [Act.put, Z1, Z2, Z3, Z4, Z5, Z6])
    refine alts_op rfl (by rfl) (by rfl) (fun K hK => ?_)
    have r0 := (cell_of_row _ _ 0 _ _ _ FB25.out).trans (show _ = some (Value.slice none 0 0) from rfl)
    have r1 := (cell_of_row _ _ 1 _ _ _ FB25.out).trans (show _ = some (Value.slice none 0 0) from rfl)
    have f0 := free_at FB25.out 0
    have f1 := free_at FB25.out 1
    obtain ⟨o0, o1, o2⟩ := out_store FB25.out (.slice a1 n1 c1) (.slice a2 n2 c2)
    go_simp
    have hS1 := hS0.trans o2 (fun j hj => Or.inr (by have := FN18.out; simp at hj; omega))
    have hro := HRO.out [b18] _ (((FR23.out).mono (by simp)).trans o2 (fun j hj => Or.inl hj)) (fun j hj => by have := FL23.out; simp at hj; omega)
    obtain ⟨o9, c9, e9, hr9⟩ := hro
    simp only [Value.slice.injEq] at e9
    obtain ⟨rfl, rfl, rfl⟩ := e9
    refine hK.out _ _ (fun _ => hS1) ?_
    clear hK K
    try simp only [Act.put, Z1, Z2, Z3, Z4, Z5, Z6]
    refine alts_op rfl (by rfl) (by rfl) (fun K hK => ?_)
    go_simp
    refine hK.out _ _ (fun _ => hS1) ?_
    clear hK K
    try simp only [Act.put, Z1, Z2, Z3, Z4, Z5, Z6]
    refine alts_done ?_
    go_wp2
    go_meet
    case rel => exact ⟨_, _, _, rfl, rfl, o1, hr9, hS1⟩
   exact alts_nil
  refine alts_alt (by rfl) ?_ ?_
  ·skip
   refine alts_op rfl (by rfl) (by rfl) (fun K hK => ?_)
   go_simp
   have FI27 := lh (lit_four _ (HJ.out 0 (by decide) (by decide)) (HJ.out 1 (by decide) (by decide)) (HJ.out 2 (by decide) (by decide)) (HJ.out 3 (by decide) (by decide)) : IntsAt (World.alloc w0 (.cells #[.int .i64 0, .int .i64 1, .int .i64 2, .int .i64 3] 3)) _ _)
   have hcx := (Chg.refl [] w0).alloc (.cells #[.int .i64 0, .int .i64 1, .int .i64 2, .int .i64 3] 3)
   have hS1 := hS0.alloc (.cells #[.int .i64 0, .int .i64 1, .int .i64 2, .int .i64 3] 3)
   clear hS0 hcx
   have hS0 := hS1
   clear hS1
   refine hK.out _ _ (fun _ => hS0) ?_
   clear hK K
   try simp only [Act.put, Z1, Z2, Z3, Z4, Z5, Z6]
   generalize (World.alloc w0 (.cells #[.int .i64 0, .int .i64 1, .int .i64 2, .int .i64 3] 3)) = w27 at *
   repeat
    first
     | (refine alts_off rfl (by rfl) (by rfl) (fun _ _ _ h => h) hS0 ?_; simp only [Act.put, Z1, Z2, Z3, Z4, Z5, Z6])
     | (refine alts_read (v := ?_) rfl (by rfl) (by rfl) (fun _ _ _ h => h) hS0 (fun w' hS' => ?_) ?_; rotate_left; (focus (have rd0 := hS'.cell x0 (by simp); have rd1 := hS'.cell x1 (by simp); have rd2 := hS'.cell d0 (by simp); have rd3 := hS'.cell d1 (by simp); clear hS'; go_simp; try with_reducible rfl)); simp only [Act.put, Z1, Z2, Z3, Z4, Z5, Z6])
     | (refine alts_skip rfl (by rfl) (by rfl) hS0 ?_; simp only [Act.put, Z1, Z2, Z3, Z4, Z5, Z6])
   refine alts_alt (by rfl) ?_ ?_
   ·skip
    refine alts_op rfl (by rfl) (by rfl) (fun K hK => ?_)
    go_simp
    refine (whole_any _ Plain.g1 4 _ rfl (by decide) (by decide) (HG.out.fresh hS0)).mono ?_
    rintro e w28 ⟨v1, v2, rfl, r1, r2, hcx⟩
    have HR1 := lh r1.ints
    have HR2 := lh r2.ints
    rw [E4.out] at HR1
    rw [E3.out] at HR2
    clear r1 r2
    have FP28 := lh (show PtAt w28 (.agg #[v1, v2]) Plain.p1 from ⟨_, _, rfl, HR1.out, HR2.out⟩)
    clear HR1 HR2
    have FI29 := lh (FI27.out.fresh hcx)
    clear FI27
    have hS1 := hS0.trans hcx (by simp)
    clear hS0 hcx
    have hS0 := hS1
    clear hS1
    refine hK.out _ _ (fun _ => hS0) ?_
    clear hK K
    try simp only [Act.put, Z1, Z2, Z3, Z4, Z5, Z6]
    refine alts_alt (by rfl) ?_ ?_
    ·skip
     refine alts_op rfl (by rfl) (by rfl) (fun K hK => ?_)
     go_simp
     refine (rtri_any _ _ _ _ _ (HG.out.fresh hS0) FP28.out (HPL.out.fresh hS0) ⟨_, _, rfl, FI29.out, (rowNil' _ 0).ints⟩).mono ?_
     rintro e w30 ⟨u1, u2, rfl, hro, ⟨a1, n1, c1, a2, n2, c2, rfl, rfl⟩, hcx⟩
     have HRO := lh hro
     clear hro
     have FI31 := lh (FI29.out.fresh hcx)
     clear FI29
     have FP32 := lh (FP28.out.fresh hcx)
     clear FP28
     have FR30 := lh (Chg.refl [] w30)
     have hS1 := hS0.trans hcx (by simp)
     have FW30 := lh hcx.size
     clear hS0 hcx
     have hS0 := hS1
     clear hS1
     refine hK.out _ _ (fun _ => hS0) ?_
     clear hK K
     try simp only [Act.put, Z1, Z2, Z3, Z4, Z5, Z6]
     repeat
      first
       | (refine alts_off rfl (by rfl) (by rfl) (fun _ _ _ h => h) hS0 ?_; simp only [Act.put, Z1, Z2, Z3, Z4, Z5, Z6])
       | (refine alts_read (v := ?_) rfl (by rfl) (by rfl) (fun _ _ _ h => h) hS0 (fun w' hS' => ?_) ?_; rotate_left; (focus (have rd0 := hS'.cell x0 (by simp); have rd1 := hS'.cell x1 (by simp); have rd2 := hS'.cell d0 (by simp); have rd3 := hS'.cell d1 (by simp); clear hS'; go_simp; try with_reducible rfl)); simp only [Act.put, Z1, Z2, Z3, Z4, Z5, Z6])
       | (refine alts_skip rfl (by rfl) (by rfl) hS0 ?_; simp only [Act.put, Z1, Z2, Z3, Z4, Z5, Z6])
     refine alts_op rfl (by rfl) (by rfl) (fun K hK => ?_)
     go_simp
     have FB33 := lh (heap_alloc_new w30 (.cells #[.slice none 0 0, .slice none 0 0] 30))
     have hcx := (Chg.refl [] w30).alloc (.cells #[.slice none 0 0, .slice none 0 0] 30)
     obtain ⟨b33, hb33⟩ : ∃ b, (World.heap w30).size = b := ⟨_, rfl⟩
     have FN33 := lh (show w9.heap.size ≤ b33 by rw [← hb33]; exact hS0.size)
     have FX33 := lh (show w30.heap.size ≤ b33 by rw [← hb33]; exact FR30.out.size)
     have FI34 := lh (FI31.out.fresh hcx)
     clear FI31
     have FP35 := lh (FP32.out.fresh hcx)
     clear FP32
     have FR36 := lh ((FR30.out).trans hcx (by simp))
     clear FR30
     rw [hb33] at FB33 ⊢
     clear hb33
     have hS1 := hS0.alloc (.cells #[.slice none 0 0, .slice none 0 0] 30)
     clear hS0 hcx
     have hS0 := hS1
     clear hS1
     refine hK.out _ _ (fun _ => hS0) ?_
     clear hK K
     try simp only [Act.put, Z1, Z2, Z3, Z4, Z5, Z6]
     generalize (World.alloc w30 (.cells #[.slice none 0 0, .slice none 0 0] 30)) = w33 at *
     refine alts_op rfl (by rfl) (by rfl) (fun K hK => ?_)
     have r0 := (cell_of_row _ _ 0 _ _ _ FB33.out).trans (show _ = some (Value.slice none 0 0) from rfl)
     have r1 := (cell_of_row _ _ 1 _ _ _ FB33.out).trans (show _ = some (Value.slice none 0 0) from rfl)
     have f0 := free_at FB33.out 0
     have f1 := free_at FB33.out 1
     obtain ⟨o0, o1, o2⟩ := out_store FB33.out (.slice a1 n1 c1) (.slice a2 n2 c2)
     go_simp
     have hS1 := hS0.trans o2 (fun j hj => Or.inr (by have := FN33.out; simp at hj; omega))
     have hro := HRO.out [] _ ((FR36.out).trans o2 (fun j hj => Or.inr (by simp at hj; rw [hj]; exact FX33.out))) (by simp)
     obtain ⟨o9, c9, e9, hr9⟩ := hro
     simp only [Value.slice.injEq] at e9
     obtain ⟨rfl, rfl, rfl⟩ := e9
     refine hK.out _ _ (fun _ => hS1) ?_
     clear hK K
     try simp only [Act.put, Z1, Z2, Z3, Z4, Z5, Z6]
     refine alts_op rfl (by rfl) (by rfl) (fun K hK => ?_)
     go_simp
     refine hK.out _ _ (fun _ => hS1) ?_
     clear hK K
     try simp only [Act.put, Z1, Z2, Z3, Z4, Z5, Z6]
     refine alts_done ?_
     go_wp2
     go_meet
     case rel => exact ⟨_, _, _, rfl, rfl, o1, hr9, hS1⟩
    refine alts_alt (by rfl) ?_ ?_
    ·skip
     refine alts_op rfl (by rfl) (by rfl) (fun K hK => ?_)
     go_simp
     have FB37 := lh (heap_alloc_new w28 (.cells #[.slice none 0 0, .slice none 0 0] 30))
     have hcx := (Chg.refl [] w28).alloc (.cells #[.slice none 0 0, .slice none 0 0] 30)
     obtain ⟨b37, hb37⟩ : ∃ b, (World.heap w28).size = b := ⟨_, rfl⟩
     have FN37 := lh (show w9.heap.size ≤ b37 by rw [← hb37]; exact hS0.size)
     have FI38 := lh (FI29.out.fresh hcx)
     clear FI29
     have FP39 := lh (FP28.out.fresh hcx)
     clear FP28
     rw [hb37] at FB37 ⊢
     clear hb37
     have hS1 := hS0.alloc (.cells #[.slice none 0 0, .slice none 0 0] 30)
     clear hS0 hcx
     have hS0 := hS1
     clear hS1
     refine hK.out _ _ (fun _ => hS0) ?_
     clear hK K
     try simp only [Act.put, Z1, Z2, Z3, Z4, Z5, Z6]
     generalize (World.alloc w28 (.cells #[.slice none 0 0, .slice none 0 0] 30)) = w37 at *
     refine alts_op rfl (by rfl) (by rfl) (fun K hK => ?_)
     go_simp
     refine (rtri_any _ _ _ _ _ (HG.out.fresh hS0) FP39.out (HPL.out.fresh hS0) ⟨_, _, rfl, FI38.out, (rowNil' _ 0).ints⟩).mono ?_
     rintro e w40 ⟨u1, u2, rfl, hro, ⟨a1, n1, c1, a2, n2, c2, rfl, rfl⟩, hcx⟩
     have HRO := lh hro
     clear hro
     have FL40 := lh (lt_of_block FB37.out)
     have FI41 := lh (FI38.out.fresh hcx)
     clear FI38
     have FP42 := lh (FP39.out.fresh hcx)
     clear FP39
     have FB43 := lh (hcx.heap FB37.out (by simp))
     clear FB37
     have FR40 := lh (Chg.refl [] w40)
     have hS1 := hS0.trans hcx (by simp)
     have FW40 := lh hcx.size
     clear hS0 hcx
     have hS0 := hS1
     clear hS1
     refine hK.out _ _ (fun _ => hS0) ?_
     clear hK K
     try simp only [Act.put, Z1, Z2, Z3, Z4, Z5, Z6]
     repeat
      first
       | (refine alts_off rfl (by rfl) (by rfl) (fun _ _ _ h => h) hS0 ?_; simp only [Act.put, Z1, Z2, Z3, Z4, Z5, Z6])
       | (refine alts_read (v := ?_) rfl (by rfl) (by rfl) (fun _ _ _ h => h) hS0 (fun w' hS' => ?_) ?_; rotate_left; (focus (have rd0 := hS'.cell x0 (by simp); have rd1 := hS'.cell x1 (by simp); have rd2 := hS'.cell d0 (by simp); have rd3 := hS'.cell d1 (by simp); clear hS'; go_simp; try with_reducible rfl)); simp only [Act.put, Z1, Z2, Z3, Z4, Z5, Z6])
       | (refine alts_skip rfl (by rfl) (by rfl) hS0 ?_; simp only [Act.put, Z1, Z2, Z3, Z4, Z5, Z6])
     refine alts_op rfl (by rfl) (by rfl) (fun K hK => ?_)
     have r0 := (cell_of_row _ _ 0 _ _ _ FB43.out).trans (show _ = some (Value.slice none 0 0) from rfl)
     have r1 := (cell_of_row _ _ 1 _ _ _ FB43.out).trans (show _ = some (Value.slice none 0 0) from rfl)
     have f0 := free_at FB43.out 0
     have f1 := free_at FB43.out 1
     obtain ⟨o0, o1, o2⟩ := out_store FB43.out (.slice a1 n1 c1) (.slice a2 n2 c2)
     go_simp
     have hS1 := hS0.trans o2 (fun j hj => Or.inr (by have := FN37.out; simp at hj; omega))
     have hro := HRO.out [b37] _ (((FR40.out).mono (by simp)).trans o2 (fun j hj => Or.inl hj)) (fun j hj => by have := FL40.out; simp at hj; omega)
     obtain ⟨o9, c9, e9, hr9⟩ := hro
     simp only [Value.slice.injEq] at e9
     obtain ⟨rfl, rfl, rfl⟩ := e9
     refine hK.out _ _ (fun _ => hS1) ?_
     clear hK K
     try simp only [Act.put, Z1, Z2, Z3, Z4, Z5, Z6]
     refine alts_op rfl (by rfl) (by rfl) (fun K hK => ?_)
     go_simp
     refine hK.out _ _ (fun _ => hS1) ?_
     clear hK K
     try simp only [Act.put, Z1, Z2, Z3, Z4, Z5, Z6]
     refine alts_done ?_
     go_wp2
     go_meet
     case rel => exact ⟨_, _, _, rfl, rfl, o1, hr9, hS1⟩
    exact alts_nil
   refine alts_alt (by rfl) ?_ ?_
   ·skip
    refine alts_op rfl (by rfl) (by rfl) (fun K hK => ?_)
    go_simp
    have FB44 := lh (heap_alloc_new w27 (.cells #[.slice none 0 0, .slice none 0 0] 30))
    have hcx := (Chg.refl [] w27).alloc (.cells #[.slice none 0 0, .slice none 0 0] 30)
    obtain ⟨b44, hb44⟩ : ∃ b, (World.heap w27).size = b := ⟨_, rfl⟩
    have FN44 := lh (show w9.heap.size ≤ b44 by rw [← hb44]; exact hS0.size)
    have FI45 := lh (FI27.out.fresh hcx)
    clear FI27
    rw [hb44] at FB44 ⊢
    clear hb44
    have hS1 := hS0.alloc (.cells #[.slice none 0 0, .slice none 0 0] 30)
    clear hS0 hcx
    have hS0 := hS1
    clear hS1
    refine hK.out _ _ (fun _ => hS0) ?_
    clear hK K
    try simp only [Act.put, Z1, Z2, Z3, Z4, Z5, Z6]
    generalize (World.alloc w27 (.cells #[.slice none 0 0, .slice none 0 0] 30)) = w44 at *
    refine alts_op rfl (by rfl) (by rfl) (fun K hK => ?_)
    go_simp
    refine (whole_any _ Plain.g1 4 _ rfl (by decide) (by decide) (HG.out.fresh hS0)).mono ?_
    rintro e w46 ⟨v1, v2, rfl, r1, r2, hcx⟩
    have HR1 := lh r1.ints
    have HR2 := lh r2.ints
    rw [E4.out] at HR1
    rw [E3.out] at HR2
    clear r1 r2
    have FP46 := lh (show PtAt w46 (.agg #[v1, v2]) Plain.p1 from ⟨_, _, rfl, HR1.out, HR2.out⟩)
    clear HR1 HR2
    have FI47 := lh (FI45.out.fresh hcx)
    clear FI45
    have FB48 := lh (hcx.heap FB44.out (by simp))
    clear FB44
    have hS1 := hS0.trans hcx (by simp)
    clear hS0 hcx
    have hS0 := hS1
    clear hS1
    refine hK.out _ _ (fun _ => hS0) ?_
    clear hK K
    try simp only [Act.put, Z1, Z2, Z3, Z4, Z5, Z6]
    refine alts_op rfl (by rfl) (by rfl) (fun K hK => ?_)
    go_simp
    refine (rtri_any _ _ _ _ _ (HG.out.fresh hS0) FP46.out (HPL.out.fresh hS0) ⟨_, _, rfl, FI47.out, (rowNil' _ 0).ints⟩).mono ?_
    rintro e w49 ⟨u1, u2, rfl, hro, ⟨a1, n1, c1, a2, n2, c2, rfl, rfl⟩, hcx⟩
    have HRO := lh hro
    clear hro
    have FL49 := lh (lt_of_block FB48.out)
    have FI50 := lh (FI47.out.fresh hcx)
    clear FI47
    have FB51 := lh (hcx.heap FB48.out (by simp))
    clear FB48
    have FP52 := lh (FP46.out.fresh hcx)
    clear FP46
    have FR49 := lh (Chg.refl [] w49)
    have hS1 := hS0.trans hcx (by simp)
    have FW49 := lh hcx.size
    clear hS0 hcx
    have hS0 := hS1
    clear hS1
    refine hK.out _ _ (fun _ => hS0) ?_
    clear hK K
    try simp only [Act.put, Z1, Z2, Z3, Z4, Z5, Z6]
    repeat
     first
      | (refine alts_off rfl (by rfl) (by rfl) (fun _ _ _ h => h) hS0 ?_; simp only [Act.put, Z1, Z2, Z3, Z4, Z5, Z6])
      | (refine alts_read (v := ?_) rfl (by rfl) (by rfl) (fun _ _ _ h => h) hS0 (fun w' hS' => ?_) ?_; rotate_left; (focus (have rd0 := hS'.cell x0 (by simp); have rd1 := hS'.cell x1 (by simp); have rd2 := hS'.cell d0 (by simp); have rd3 := hS'.cell d1 (by simp); clear hS'; go_simp; try with_reducible rfl)); simp only [Act.put, Z1, Z2, Z3, Z4, Z5, Z6])
      | (refine alts_skip rfl (by rfl) (by rfl) hS0 ?_; simp only [Act.put, Z1, Z2, Z3, Z4, Z5, Z6])
    refine alts_op rfl (by rfl) (by rfl) (fun K hK => ?_)
    have r0 := (cell_of_row _ _ 0 _ _ _ FB51.out).trans (show _ = some (Value.slice none 0 0) from rfl)
    have r1 := (cell_of_row _ _ 1 _ _ _ FB51.out).trans (show _ = some (Value.slice none 0 0) from rfl)
    have f0 := free_at FB51.out 0
    have f1 := free_at FB51.out 1
    obtain ⟨o0, o1, o2⟩ := out_store FB51.out (.slice a1 n1 c1) (.slice a2 n2 c2)
    go_simp
    have hS1 := hS0.trans o2 (fun j hj => Or.inr (by have := FN44.out; simp at hj; omega))
    have hro := HRO.out [b44] _ (((FR49.out).mono (by simp)).trans o2 (fun j hj => Or.inl hj)) (fun j hj => by have := FL49.out; simp at hj; omega)
    obtain ⟨o9, c9, e9, hr9⟩ := hro
    simp only [Value.slice.injEq] at e9
    obtain ⟨rfl, rfl, rfl⟩ := e9
    refine hK.out _ _ (fun _ => hS1) ?_
    clear hK K
    try simp only [Act.put, Z1, Z2, Z3, Z4, Z5, Z6]
    refine alts_op rfl (by rfl) (by rfl) (fun K hK => ?_)
    go_simp
    refine hK.out _ _ (fun _ => hS1) ?_
    clear hK K
    try simp only [Act.put, Z1, Z2, Z3, Z4, Z5, Z6]
    refine alts_done ?_
    go_wp2
    go_meet
    case rel => exact ⟨_, _, _, rfl, rfl, o1, hr9, hS1⟩
   exact alts_nil
  refine alts_alt (by rfl) ?_ ?_
  ·skip
   refine alts_op rfl (by rfl) (by rfl) (fun K hK => ?_)
   go_simp
   have FB53 := lh (heap_alloc_new w0 (.cells #[.slice none 0 0, .slice none 0 0] 30))
   have hcx := (Chg.refl [] w0).alloc (.cells #[.slice none 0 0, .slice none 0 0] 30)
   obtain ⟨b53, hb53⟩ : ∃ b, (World.heap w0).size = b := ⟨_, rfl⟩
   have FN53 := lh (show w9.heap.size ≤ b53 by rw [← hb53]; exact hS0.size)
   rw [hb53] at FB53 ⊢
   clear hb53
   have hS1 := hS0.alloc (.cells #[.slice none 0 0, .slice none 0 0] 30)
   clear hS0 hcx
   have hS0 := hS1
   clear hS1
   refine hK.out _ _ (fun _ => hS0) ?_
   clear hK K
   try simp only [Act.put, Z1, Z2, Z3, Z4, Z5, Z6]
   generalize (World.alloc w0 (.cells #[.slice none 0 0, .slice none 0 0] 30)) = w53 at *
   refine alts_alt (by rfl) ?_ ?_
   ·skip
    refine alts_op rfl (by rfl) (by rfl) (fun K hK => ?_)
    go_simp
    refine (whole_any _ Plain.g1 4 _ rfl (by decide) (by decide) (HG.out.fresh hS0)).mono ?_
    rintro e w54 ⟨v1, v2, rfl, r1, r2, hcx⟩
    have HR1 := lh r1.ints
    have HR2 := lh r2.ints
    rw [E4.out] at HR1
    rw [E3.out] at HR2
    clear r1 r2
    have FP54 := lh (show PtAt w54 (.agg #[v1, v2]) Plain.p1 from ⟨_, _, rfl, HR1.out, HR2.out⟩)
    clear HR1 HR2
    have FB55 := lh (hcx.heap FB53.out (by simp))
    clear FB53
    have hS1 := hS0.trans hcx (by simp)
    clear hS0 hcx
    have hS0 := hS1
    clear hS1
    refine hK.out _ _ (fun _ => hS0) ?_
    clear hK K
    try simp only [Act.put, Z1, Z2, Z3, Z4, Z5, Z6]
    refine alts_op rfl (by rfl) (by rfl) (fun K hK => ?_)
    go_simp
    have FI56 := lh (lit_four _ (HJ.out 0 (by decide) (by decide)) (HJ.out 1 (by decide) (by decide)) (HJ.out 2 (by decide) (by decide)) (HJ.out 3 (by decide) (by decide)) : IntsAt (World.alloc w54 (.cells #[.int .i64 0, .int .i64 1, .int .i64 2, .int .i64 3] 3)) _ _)
    have hcx := (Chg.refl [] w54).alloc (.cells #[.int .i64 0, .int .i64 1, .int .i64 2, .int .i64 3] 3)
    have FB57 := lh (hcx.heap FB55.out (by simp))
    clear FB55
    have FP58 := lh (FP54.out.fresh hcx)
    clear FP54
    have hS1 := hS0.alloc (.cells #[.int .i64 0, .int .i64 1, .int .i64 2, .int .i64 3] 3)
    clear hS0 hcx
    have hS0 := hS1
    clear hS1
    refine hK.out _ _ (fun _ => hS0) ?_
    clear hK K
    try simp only [Act.put, Z1, Z2, Z3, Z4, Z5, Z6]
    generalize (World.alloc w54 (.cells #[.int .i64 0, .int .i64 1, .int .i64 2, .int .i64 3] 3)) = w56 at *
    repeat
     first
      | (refine alts_off rfl (by rfl) (by rfl) (fun _ _ _ h => h) hS0 ?_; simp only [Act.put, Z1, Z2, Z3, Z4, Z5, Z6])
      | (refine alts_read (v := ?_) rfl (by rfl) (by rfl) (fun _ _ _ h => h) hS0 (fun w' hS' => ?_) ?_; rotate_left; (focus (have rd0 := hS'.cell x0 (by simp); have rd1 := hS'.cell x1 (by simp); have rd2 := hS'.cell d0 (by simp); have rd3 := hS'.cell d1 (by simp); clear hS'; go_simp; try with_reducible rfl)); simp only [Act.put, Z1, Z2, Z3, Z4, Z5, Z6])
      | (refine alts_skip rfl (by rfl) (by rfl) hS0 ?_; simp only [Act.put, Z1, Z2, Z3, Z4, Z5, Z6])
    refine alts_op rfl (by rfl) (by rfl) (fun K hK => ?_)
    go_simp
    refine (rtri_any _ _ _ _ _ (HG.out.fresh hS0) FP58.out (HPL.out.fresh hS0) ⟨_, _, rfl, FI56.out, (rowNil' _ 0).ints⟩).mono ?_
    rintro e w59 ⟨u1, u2, rfl, hro, ⟨a1, n1, c1, a2, n2, c2, rfl, rfl⟩, hcx⟩
    have HRO := lh hro
    clear hro
    have FL59 := lh (lt_of_block FB57.out)
    have FB60 := lh (hcx.heap FB57.out (by simp))
    clear FB57
    have FP61 := lh (FP58.out.fresh hcx)
    clear FP58
    have FI62 := lh (FI56.out.fresh hcx)
    clear FI56
    have FR59 := lh (Chg.refl [] w59)
    have hS1 := hS0.trans hcx (by simp)
    have FW59 := lh hcx.size
    clear hS0 hcx
    have hS0 := hS1
    clear hS1
    refine hK.out _ _ (fun _ => hS0) ?_
    clear hK K
    try simp only [Act.put, Z1, Z2, Z3, Z4, Z5, Z6]
    repeat
     first
      | (refine alts_off rfl (by rfl) (by rfl) (fun _ _ _ h => h) hS0 ?_; simp only [Act.put, Z1, Z2, Z3, Z4, Z5, Z6])
      | (refine alts_read (v := ?_) rfl (by rfl) (by rfl) (fun _ _ _ h => h) hS0 (fun w' hS' => ?_) ?_; rotate_left; (focus (have rd0 := hS'.cell x0 (by simp); have rd1 := hS'.cell x1 (by simp); have rd2 := hS'.cell d0 (by simp); have rd3 := hS'.cell d1 (by simp); clear hS'; go_simp; try with_reducible rfl)); simp only [Act.put, Z1, Z2, Z3, Z4, Z5, Z6])
      | (refine alts_skip rfl (by rfl) (by rfl) hS0 ?_; simp only [Act.put, Z1, Z2, Z3, Z4, Z5, Z6])
    refine alts_op rfl (by rfl) (by rfl) (fun K hK => ?_)
    have r0 := (cell_of_row _ _ 0 _ _ _ FB60.out).trans (show _ = some (Value.slice none 0 0) from rfl)
    have r1 := (cell_of_row _ _ 1 _ _ _ FB60.out).trans (show _ = some (Value.slice none 0 0) from rfl)
    have f0 := free_at FB60.out 0
    have f1 := free_at FB60.out 1
    obtain ⟨o0, o1, o2⟩ := out_store FB60.out (.slice a1 n1 c1) (.slice a2 n2 c2)
    go_simp
    have hS1 := hS0.trans o2 (fun j hj => Or.inr (by have := FN53.out; simp at hj; omega))
    have hro := HRO.out [b53] _ (((FR59.out).mono (by simp)).trans o2 (fun j hj => Or.inl hj)) (fun j hj => by have := FL59.out; simp at hj; omega)
    obtain ⟨o9, c9, e9, hr9⟩ := hro
    simp only [Value.slice.injEq] at e9
    obtain ⟨rfl, rfl, rfl⟩ := e9
    refine hK.out _ _ (fun _ => hS1) ?_
    clear hK K
    try simp only [Act.put, Z1, Z2, Z3, Z4, Z5, Z6]
    refine alts_op rfl (by rfl) (by rfl) (fun K hK => ?_)
    go_simp
    refine hK.out _ _ (fun _ => hS1) ?_
    clear hK K
    try simp only [Act.put, Z1, Z2, Z3, Z4, Z5, Z6]
    refine alts_done ?_
    go_wp2
    go_meet
    case rel => exact ⟨_, _, _, rfl, rfl, o1, hr9, hS1⟩
   refine alts_alt (by rfl) ?_ ?_
   ·skip
    refine alts_op rfl (by rfl) (by rfl) (fun K hK => ?_)
    go_simp
    have FI63 := lh (lit_four _ (HJ.out 0 (by decide) (by decide)) (HJ.out 1 (by decide) (by decide)) (HJ.out 2 (by decide) (by decide)) (HJ.out 3 (by decide) (by decide)) : IntsAt (World.alloc w53 (.cells #[.int .i64 0, .int .i64 1, .int .i64 2, .int .i64 3] 3)) _ _)
    have hcx := (Chg.refl [] w53).alloc (.cells #[.int .i64 0, .int .i64 1, .int .i64 2, .int .i64 3] 3)
    have FB64 := lh (hcx.heap FB53.out (by simp))
    clear FB53
    have hS1 := hS0.alloc (.cells #[.int .i64 0, .int .i64 1, .int .i64 2, .int .i64 3] 3)
    clear hS0 hcx
    have hS0 := hS1
    clear hS1
    refine hK.out _ _ (fun _ => hS0) ?_
    clear hK K
    try simp only [Act.put, Z1, Z2, Z3, Z4, Z5, Z6]
    generalize (World.alloc w53 (.cells #[.int .i64 0, .int .i64 1, .int .i64 2, .int .i64 3] 3)) = w63 at *
    repeat
     first
      | (refine alts_off rfl (by rfl) (by rfl) (fun _ _ _ h => h) hS0 ?_; simp only [Act.put, Z1, Z2, Z3, Z4, Z5, Z6])
      | (refine alts_read (v := ?_) rfl (by rfl) (by rfl) (fun _ _ _ h => h) hS0 (fun w' hS' => ?_) ?_; rotate_left; (focus (have rd0 := hS'.cell x0 (by simp); have rd1 := hS'.cell x1 (by simp); have rd2 := hS'.cell d0 (by simp); have rd3 := hS'.cell d1 (by simp); clear hS'; go_simp; try with_reducible rfl)); simp only [Act.put, Z1, Z2, Z3, Z4, Z5, Z6])
      | (refine alts_skip rfl (by rfl) (by rfl) hS0 ?_; simp only [Act.put, Z1, Z2, Z3, Z4, Z5, Z6])
    refine alts_op rfl (by rfl) (by rfl) (fun K hK => ?_)
    go_simp
    refine (whole_any _ Plain.g1 4 _ rfl (by decide) (by decide) (HG.out.fresh hS0)).mono ?_
    rintro e w65 ⟨v1, v2, rfl, r1, r2, hcx⟩
    have HR1 := lh r1.ints
    have HR2 := lh r2.ints
    rw [E4.out] at HR1
    rw [E3.out] at HR2
    clear r1 r2
    have FP65 := lh (show PtAt w65 (.agg #[v1, v2]) Plain.p1 from ⟨_, _, rfl, HR1.out, HR2.out⟩)
    clear HR1 HR2
    have FB66 := lh (hcx.heap FB64.out (by simp))
    clear FB64
    have FI67 := lh (FI63.out.fresh hcx)
    clear FI63
    have hS1 := hS0.trans hcx (by simp)
    clear hS0 hcx
    have hS0 := hS1
    clear hS1
    refine hK.out _ _ (fun _ => hS0) ?_
    clear hK K
    try simp only [Act.put, Z1, Z2, Z3, Z4, Z5, Z6]
    refine alts_op rfl (by rfl) (by rfl) (fun K hK => ?_)
    go_simp
    refine (rtri_any _ _ _ _ _ (HG.out.fresh hS0) FP65.out (HPL.out.fresh hS0) ⟨_, _, rfl, FI67.out, (rowNil' _ 0).ints⟩).mono ?_
    rintro e w68 ⟨u1, u2, rfl, hro, ⟨a1, n1, c1, a2, n2, c2, rfl, rfl⟩, hcx⟩
    have HRO := lh hro
    clear hro
    have FL68 := lh (lt_of_block FB66.out)
    have FB69 := lh (hcx.heap FB66.out (by simp))
    clear FB66
    have FI70 := lh (FI67.out.fresh hcx)
    clear FI67
    have FP71 := lh (FP65.out.fresh hcx)
    clear FP65
    have FR68 := lh (Chg.refl [] w68)
    have hS1 := hS0.trans hcx (by simp)
    have FW68 := lh hcx.size
    clear hS0 hcx
    have hS0 := hS1
    clear hS1
    refine hK.out _ _ (fun _ => hS0) ?_
    clear hK K
    try simp only [Act.put, Z1, Z2, Z3, Z4, Z5, Z6]
    repeat
     first
      | (refine alts_off rfl (by rfl) (by rfl) (fun _ _ _ h => h) hS0 ?_; simp only [Act.put, Z1, Z2, Z3, Z4, Z5, Z6])
      | (refine alts_read (v := ?_) rfl (by rfl) (by rfl) (fun _ _ _ h => h) hS0 (fun w' hS' => ?_) ?_; rotate_left; (focus (have rd0 := hS'.cell x0 (by simp); have rd1 := hS'.cell x1 (by simp); have rd2 := hS'.cell d0 (by simp); have rd3 := hS'.cell d1 (by simp); clear hS'; go_simp; try with_reducible rfl)); simp only [Act.put, Z1, Z2, Z3, Z4, Z5, Z6])
      | (refine alts_skip rfl (by rfl) (by rfl) hS0 ?_; simp only [Act.put, Z1, Z2, Z3, Z4, Z5, Z6])
    refine alts_op rfl (by rfl) (by rfl) (fun K hK => ?_)
    have r0 := (cell_of_row _ _ 0 _ _ _ FB69.out).trans (show _ = some (Value.slice none 0 0) from rfl)
    have r1 := (cell_of_row _ _ 1 _ _ _ FB69.out).trans (show _ = some (Value.slice none 0 0) from rfl)
    have f0 := free_at FB69.out 0
    have f1 := free_at FB69.out 1
    obtain ⟨o0, o1, o2⟩ := out_store FB69.out (.slice a1 n1 c1) (.slice a2 n2 c2)
    go_simp
    have hS1 := hS0.trans o2 (fun j hj => Or.inr (by have := FN53.out; simp at hj; omega))
    have hro := HRO.out [b53] _ (((FR68.out).mono (by simp)).trans o2 (fun j hj => Or.inl hj)) (fun j hj => by have := FL68.out; simp at hj; omega)
    obtain ⟨o9, c9, e9, hr9⟩ := hro
    simp only [Value.slice.injEq] at e9
    obtain ⟨rfl, rfl, rfl⟩ := e9
    refine hK.out _ _ (fun _ => hS1) ?_
    clear hK K
    try simp only [Act.put, Z1, Z2, Z3, Z4, Z5, Z6]
    refine alts_op rfl (by rfl) (by rfl) (fun K hK => ?_)
    go_simp
    refine hK.out _ _ (fun _ => hS1) ?_
    clear hK K
    try simp only [Act.put, Z1, Z2, Z3, Z4, Z5, Z6]
    refine alts_done ?_
    go_wp2
    go_meet
    case rel => exact ⟨_, _, _, rfl, rfl, o1, hr9, hS1⟩
   exact alts_nil
  exact alts_nil
 case rest =>
  obtain ⟨b, o2, c2, rfl, rfl, hcb, hrb, hcw⟩ := hcut
  obtain ⟨rb, ro, ru, rfl, hrc, -, hrr⟩ := hrb.rowc (k := 0) (by decide)
  rw [Nat.add_zero] at hrc
  have HRR := lh (show IntsAt wc ru [-4, -3, -2, -1] from hrr)
  have HCW := lh (HC9.out.trans hcw (by simp))
  have hlit := (Chg.refl [] wc).alloc (.cells #[.int .i64 (-4), .int .i64 (-3), .int .i64 (-2), .int .i64 (-1)] 3)
  have HL := lh (lit_four wc (HJ.out (-4) (by decide) (by decide)) (HJ.out (-3) (by decide) (by decide)) (HJ.out (-2) (by decide) (by decide)) (HJ.out (-1) (by decide) (by decide)))
  have HLC := lh hlit
  clear hrb hcw hrr hlit
  go_wp2_with fail
  refine (equal_any _ _ [-4, -3, -2, -1] [-4, -3, -2, -1] _ (HRR.out.fresh HLC.out) HL.out).mono ?_
  rintro e wf ⟨rfl, hcf⟩
  have HCF := lh ((HCW.out.trans HLC.out (by simp)).trans hcf (by simp))
  clear hcf
  rw [decide_eq_true rfl]
  go_wp2
  go_ret
  exact ⟨rfl, HCF.out⟩
end Go.Proofs.YtckjpaimbmlboaaGreat
namespace Go.Proofs.YtckjpaimbmlboaaGreat.Plain
theorem sideRel_refl (L : Int → Option Int) (p : Pt) (cy : List Int) (x : Int) : sideRel L p cy x x := St.rel_refl _ _
theorem sideRel_symm {L : Int → Option Int} {p : Pt} {cy : List Int} {x y : Int} (h : sideRel L p cy x y) : sideRel L p cy y x := St.rel_symm h
theorem sideRel_trans {L : Int → Option Int} {p : Pt} {cy : List Int} {x y z : Int} (h : sideRel L p cy x y) (k : sideRel L p cy y z) : sideRel L p cy x z := St.rel_trans h k
def oneF (L : Int → Option Int) (p : Pt) (E : List Int) : Nat → Int → Int
 | 0, x => x
 | k + 1, x => if p.e.getD k 0 ∈ E then oneF L p E k x else if oneF L p E k x = oneF L p E k (lf L (2 * p.e.getD k 0 + 1)) then oneF L p E k (lf L (2 * p.e.getD k 0)) else oneF L p E k x
theorem oneF_on {L : Int → Option Int} {p : Pt} {E : List Int} {k : Nat} (h : p.e.getD k 0 ∈ E) : oneF L p E (k + 1) = oneF L p E k := by
 funext x; exact if_pos h
theorem oneF_off {L : Int → Option Int} {p : Pt} {E : List Int} {k : Nat} (h : p.e.getD k 0 ∉ E) (x : Int) : oneF L p E (k + 1) x = if oneF L p E k x = oneF L p E k (lf L (2 * p.e.getD k 0 + 1)) then oneF L p E k (lf L (2 * p.e.getD k 0)) else oneF L p E k x := if_neg h
theorem oneF_rel (L : Int → Option Int) (p : Pt) (E : List Int) (k : Nat) (x y : Int) : oneF L p E k x = oneF L p E k y ↔ (sideJoin L p (evens E) k).rel x y := by
 induction k generalizing x y with
 | zero => exact St.rel_nil.symm
 | succ k ih =>
  by_cases h : p.e.getD k 0 ∈ E
  ·rw [oneF_on h, sideJoin_on (by rw [evens_half]; exact h)]; exact ih x y
  rw [sideJoin_off (by rw [evens_half]; exact h), St.rel_join (sideJoin_ok L p _ k), oneF_off h, oneF_off h, ← ih, ← ih, ← ih, ← ih, ← ih]
  generalize oneF L p E k (lf L (2 * p.e.getD k 0 + 1)) = b
  generalize oneF L p E k (lf L (2 * p.e.getD k 0)) = a
  generalize oneF L p E k x = u
  generalize oneF L p E k y = v
  split <;> split <;> omega
theorem oneF_in {L : Int → Option Int} {p : Pt} {E : List Int} {n : Int} (hL : ∀ e ∈ p.e, 0 ≤ lf L (2 * e) ∧ lf L (2 * e) < n) (k : Nat) (hk : k ≤ p.e.length) {x : Int} (hx : 0 ≤ x ∧ x < n) : 0 ≤ oneF L p E k x ∧ oneF L p E k x < n := by
 induction k generalizing x with
 | zero => exact hx
 | succ k ih =>
  by_cases h : p.e.getD k 0 ∈ E
  ·rw [oneF_on h]; exact ih (by omega) hx
  rw [oneF_off h]
  split
  ·exact ih (by omega) (hL _ (getD_mem (by omega)))
  exact ih (by omega) hx
def oneL (L : Int → Option Int) (p : Pt) (E : List Int) (n k : Nat) : List Int := (List.range n).map fun (i : Nat) => oneF L p E k (i : Int)
def oneM (f : Int → Int) (a b : Int) (n m : Nat) : List Int := (List.range n).map fun (i : Nat) => if i < m ∧ f i = b then a else f i
theorem oneL_len (L : Int → Option Int) (p : Pt) (E : List Int) (n k : Nat) : (oneL L p E n k).length = n := by simp [oneL]
theorem oneM_len (f : Int → Int) (a b : Int) (n m : Nat) : (oneM f a b n m).length = n := by simp [oneM]
theorem oneL_at {L : Int → Option Int} {p : Pt} {E : List Int} {n k i : Nat} (h : i < n) : (oneL L p E n k).getD i 0 = oneF L p E k i := by simp [oneL, List.getD, h]
theorem oneM_at {f : Int → Int} {a b : Int} {n m i : Nat} (h : i < n) : (oneM f a b n m).getD i 0 = if i < m ∧ f i = b then a else f i := by simp [oneM, List.getD, h]
theorem oneM_zero (L : Int → Option Int) (p : Pt) (E : List Int) (a b : Int) (n k : Nat) : oneL L p E n k = oneM (oneF L p E k) a b n 0 := by
 unfold oneL oneM
 exact List.map_congr_left fun i _ => by rw [if_neg (by omega)]
theorem oneM_all {L : Int → Option Int} {p : Pt} {E : List Int} {n k : Nat} (h : p.e.getD k 0 ∉ E) : oneM (oneF L p E k) (oneF L p E k (lf L (2 * p.e.getD k 0))) (oneF L p E k (lf L (2 * p.e.getD k 0 + 1))) n n = oneL L p E n (k + 1) := by
 unfold oneL oneM
 refine List.map_congr_left fun i hi => ?_
 have hi := List.mem_range.1 hi
 rw [oneF_off h]
 by_cases q : oneF L p E k i = oneF L p E k (lf L (2 * p.e.getD k 0 + 1))
 ·rw [if_pos ⟨hi, q⟩, if_pos q]
 rw [if_neg (fun r => q r.2), if_neg q]
theorem oneM_on {f : Int → Int} {a b : Int} {n m : Nat} (_h : m < n) (q : f m = b) : (oneM f a b n m).set m a = oneM f a b n (m + 1) := by
 refine List.ext_getElem (by rw [List.length_set, oneM_len, oneM_len]) fun i h1 h2 => ?_
 rw [List.getElem_set]
 simp only [oneM, List.getElem_map, List.getElem_range]
 by_cases e : m = i
 ·subst e; rw [if_pos rfl, if_pos ⟨by omega, q⟩]
 rw [if_neg e]
 by_cases r : i < m
 ·simp only [r, show i < m + 1 by omega]
 simp only [r, show ¬ i < m + 1 by omega]
theorem oneM_off {f : Int → Int} {a b : Int} {n m : Nat} (q : f m ≠ b) : oneM f a b n m = oneM f a b n (m + 1) := by
 unfold oneM
 refine List.map_congr_left fun i _ => ?_
 by_cases e : i = m
 ·subst e; rw [if_neg (fun r => q r.2), if_neg (fun r => q r.2)]
 by_cases r : i < m
 ·simp only [r, show i < m + 1 by omega]
 simp only [r, show ¬ i < m + 1 by omega]
theorem oneL_start (L : Int → Option Int) (p : Pt) (E : List Int) (n : Nat) : oneL L p E (n + 1) 0 = oneL L p E n 0 ++ [(n : Int)] := by
 unfold oneL
 rw [List.range_succ, List.map_append]; rfl
theorem rel_around {g : Gr} {p : Pt} {turn : List (List Int)} {W : List Face} {ll : List (List Int)} {cy : List Int} (hpe : p.err g = 0) (ht : TurnsOk g p turn) (hW : WalksOk g p turn W) {v : Int} (h0 : 0 ≤ v) (hv : v < g.n) (hn : ∀ d ∈ p.darts, g.tail d = v → d / 2 ∉ cy.map (· / 2)) {d : Int} (hd : d ∈ p.darts) (hdv : g.tail d = v) :
  sideRel (leftOf ll W) p cy (lf (leftOf ll W) (seat turn v)) (lf (leftOf ll W) d) := by
 have hdt := (ht.mem v h0 hv d).2 ⟨hd, hdv⟩
 have hl : 0 < (turnAt turn v).length := List.length_pos_of_mem hdt
 have step : ∀ x ∈ turnAt turn v, sideRel (leftOf ll W) p cy (lf (leftOf ll W) (ahead (turnAt turn v) x)) (lf (leftOf ll W) x) := by
  intro x hx
  obtain ⟨h1, h2⟩ := (ht.mem v h0 hv x).1 hx
  have h3 := left_next ll hpe hW (twin_mem h1)
  have e : nextDart g turn (twin x) = ahead (turnAt turn v) x := by unfold nextDart before; rw [twin_twin, h2]
  rw [e] at h3
  rw [show lf (leftOf ll W) (ahead (turnAt turn v) x) = lf (leftOf ll W) (twin x) by unfold lf; rw [h3.1]]
  have hr := sideRel_edge (L := leftOf ll W) (cy := cy) (mem_darts.1 h1) (hn x h1 h2)
  rcases twin_cases x with ⟨e1, e2⟩ | ⟨e1, e2⟩
  ·rw [e2, show lf (leftOf ll W) x = lf (leftOf ll W) (2 * (x / 2)) from congrArg (lf (leftOf ll W)) e1]
   exact sideRel_symm hr
  rw [e2, show lf (leftOf ll W) x = lf (leftOf ll W) (2 * (x / 2) + 1) from congrArg (lf (leftOf ll W)) e1]
  exact hr
 have all : ∀ i, i < (turnAt turn v).length → sideRel (leftOf ll W) p cy (lf (leftOf ll W) ((turnAt turn v).getD i 0)) (lf (leftOf ll W) ((turnAt turn v).getD 0 0)) := by
  intro i
  induction i with
  | zero => intro _; exact sideRel_refl _ _ _ _
  | succ i ih =>
   intro hi
   have hs := step _ (getD_mem hi)
   have ha : ahead (turnAt turn v) ((turnAt turn v).getD (i + 1) 0) = (turnAt turn v).getD i 0 := by
    unfold ahead
    rw [idxOf_at (ht.nodup v) hi, show i + 1 + (turnAt turn v).length - 1 = i + (turnAt turn v).length by omega, Nat.add_mod_right, Nat.mod_eq_of_lt (by omega)]
   rw [ha] at hs
   exact sideRel_trans (sideRel_symm hs) (ih (by omega))
 obtain ⟨i, hi, rfl⟩ := mem_getD hdt
 unfold seat
 rw [if_pos hl]
 exact sideRel_symm (all i hi)
def oneAt (L : Int → Option Int) (p : Pt) (E : List Int) (turn : List (List Int)) (f : Face) : Int := oneF L p E p.e.length (lf L (place turn f))
theorem oneAt_iff {L : Int → Option Int} {p : Pt} {E : List Int} {turn : List (List Int)} {f x : Face} : oneAt L p E turn f = oneAt L p E turn x ↔ restCls L p E turn f = restCls L p E turn x := (oneF_rel L p E _ _ _).trans restCls_iff.symm
theorem grps_one (L : Int → Option Int) (p : Pt) (E : List Int) (turn : List (List Int)) (W : List Face) : grps (oneAt L p E turn) W = grps (restCls L p E turn) W := grps_congr fun _ _ _ _ => oneAt_iff
theorem lf_lt {g : Gr} {p : Pt} {turn same : List (List Int)} (hz : planErr g p turn same = 0) {d : Int} (hd : (leftOf (regionsOf g p turn same) (walksOf g p turn) d).isSome = true) : 0 ≤ lf (leftOf (regionsOf g p turn same) (walksOf g p turn)) d ∧ lf (leftOf (regionsOf g p turn same) (walksOf g p turn)) d < (regionsOf g p turn same).length := by
 obtain ⟨hpe, hto⟩ := turnErr_zero (flatErr_zero (planErr_zero hz).1).1
 obtain ⟨i, hi, -, e, -⟩ := left_num (parted hz (walks_ok hpe hto)) hd
 rw [e]; omega
theorem edge_darts {p : Pt} {e : Int} (he : e ∈ p.e) : 2 * e ∈ p.darts ∧ 2 * e + 1 ∈ p.darts := ⟨mem_darts.2 (by rw [show (2 * e) / 2 = e by omega]; exact he), mem_darts.2 (by rw [show (2 * e + 1) / 2 = e by omega]; exact he)⟩
theorem around_lt {g : Gr} {p : Pt} {turn same : List (List Int)} (hz : planErr g p turn same = 0) {v r : Int} (hv : v ∈ p.v) (hr : aroundAt g p (leftOf (regionsOf g p turn same) (walksOf g p turn)) v r) : 0 ≤ r ∧ r < (regionsOf g p turn same).length := by
 rcases hr with ⟨d, hd, rfl⟩ | ⟨hd, rfl⟩
 ·exact lf_lt hz (left_dart hz (mem_dartsAt.1 hd).1)
 exact lf_lt hz (left_lone hz hv hd)
theorem rest_case {g : Gr} {p q : Pt} {turn : List (List Int)} (_hpe : p.err g = 0) (ht : TurnsOk g p turn) (hqe : q.err g = 0) (hsub : ∀ e ∈ q.e, e ∈ p.e) (hsv : ∀ v ∈ q.v, v ∈ p.v) {f : Face} (hf : f ∈ walksOf g q (restTurn q.e turn)) :
  (f.1 < 0 ∧ f.2 = [] ∧ -2048 < f.1 ∧ -1 - f.1 ∈ p.v ∧ ∀ d ∈ p.darts, g.tail d = -1 - f.1 → d / 2 ∉ q.e) ∨ (0 ≤ f.1 ∧ f.1 < 2048 ∧ f.1 ∈ p.darts ∧ place turn f = f.1) := by
 have hq := restTurn_ok ht hsub
 have hW := walks_ok hqe hq
 rcases face_cases hqe hW hf with ⟨h1, h2, h3, -⟩ | ⟨d, l, h1, h2, h3, -, h5, -⟩
 ·left
  refine ⟨h3, h1, h2, ?_⟩
  obtain ⟨F, e, hT⟩ := hW.split
  rw [e] at hf
  rcases List.mem_append.1 hf with k | k
  ·obtain ⟨v, hv, rfl⟩ := List.mem_map.1 k
   have hv2 := List.mem_filter.1 hv
   have hvq := List.mem_reverse.1 hv2.1
   have hvr := (Pt.ok_of_err hqe).vr v hvq
   rw [show -1 - (-1 - v) = v by omega]
   refine ⟨hsv v hvq, fun d hd hdt hin => ?_⟩
   have hm := (hq.mem v hvr.1 hvr.2 d).2 ⟨mem_darts.2 hin, hdt⟩
   have he : turnAt (restTurn q.e turn) v = [] := by simpa using hv2.2
   rw [he] at hm
   cases hm
  obtain ⟨l, hl⟩ := hT.key f k
  rw [h1] at hl
  cases hl
 right
 have hd : (d : Int) ∈ p.darts := mem_darts.2 (hsub _ (mem_darts.1 h3))
 exact ⟨by omega, by omega, by rw [h1]; exact hd, by unfold place; rw [h2, if_neg (by simp)]⟩
theorem around_one {g : Gr} {p : Pt} {turn same : List (List Int)} {E : List Int} (hz : planErr g p turn same = 0) {f : Face} (h2 : f.2 = []) (hv : -1 - f.1 ∈ p.v) (hn : ∀ d ∈ p.darts, g.tail d = -1 - f.1 → d / 2 ∉ E) {r : Int} (hr : aroundAt g p (leftOf (regionsOf g p turn same) (walksOf g p turn)) (-1 - f.1) r) :
  oneF (leftOf (regionsOf g p turn same) (walksOf g p turn)) p E p.e.length r = oneAt (leftOf (regionsOf g p turn same) (walksOf g p turn)) p E turn f := by
 obtain ⟨hpe, hto⟩ := turnErr_zero (flatErr_zero (planErr_zero hz).1).1
 have hW := walks_ok hpe hto
 have hvr := (Pt.ok_of_err hpe).vr _ hv
 unfold oneAt
 rw [oneF_rel]
 have hp : place turn f = seat turn (-1 - f.1) := by unfold place; rw [if_pos h2]
 rw [hp]
 rcases hr with ⟨d, hd, rfl⟩ | ⟨hd, rfl⟩
 ·obtain ⟨hd1, hd2⟩ := mem_dartsAt.1 hd
  exact sideRel_symm (rel_around hpe hto hW hvr.1 hvr.2 (fun x hx e => by rw [evens_half]; exact hn x hx e) hd1 hd2)
 have he : seat turn (-1 - f.1) = -1 - (-1 - f.1) := by
  unfold seat
  rw [turn_none hto hvr.1 hvr.2 hd, if_neg (by simp)]
 rw [he]
 exact St.rel_refl _ _
def keepTurn (E : List Int) (turn : List (List Int)) : List (List Int) := turn.map (keepOf E)
theorem keep_first (E : List Int) (turn : List (List Int)) : (keepTurn E turn).map first = restTurn E turn := by unfold keepTurn restTurn; rw [List.map_map]; rfl
theorem keepTurn_ok {g : Gr} {p q : Pt} {turn : List (List Int)} (ht : TurnsOk g p turn) (hs : ∀ e ∈ q.e, e ∈ p.e) : TurnsOk g q (keepTurn q.e turn) := by
 rw [← turnsOk_first, keep_first]; exact restTurn_ok ht hs
theorem keep_walks {g : Gr} {p q : Pt} {turn : List (List Int)} (ht : TurnsOk g p turn) (hqe : q.err g = 0) (hs : ∀ e ∈ q.e, e ∈ p.e) : walksOf g q (keepTurn q.e turn) = walksOf g q (restTurn q.e turn) := by
 rw [← keep_first, walks_first hqe (keepTurn_ok ht hs)]
theorem keep_row (E : List Int) (turn : List (List Int)) (v : Int) : (turnAt (keepTurn E turn) v).length ≤ (turnAt turn v).length := by
 unfold turnAt keepTurn List.getD
 rw [List.getElem?_map]
 cases turn[v.toNat]? with
 | none => simp
 | some l => exact keepOf_len E l
def grpsTo (c : Face → Int) (W : List Face) (i : Nat) : List (List Int) := ((W.take i).filter fun f => decide (1 < (keysAt c W (c f)).length ∧ (keysAt c W (c f)).getD 0 0 = f.1)).map fun f => keysAt c W (c f)
theorem grpsTo_all (c : Face → Int) (W : List Face) : grpsTo c W W.length = grps c W := by unfold grpsTo grps; rw [List.take_length]
theorem grpsTo_next {c : Face → Int} {W : List Face} {i : Nat} (hi : i < W.length) : grpsTo c W (i + 1) = if 1 < (keysAt c W (c (W.getD i (0, [])))).length ∧ (keysAt c W (c (W.getD i (0, [])))).getD 0 0 = (W.getD i (0, [])).1 then grpsTo c W i ++ [keysAt c W (c (W.getD i (0, [])))] else grpsTo c W i := by
 have e : W.take (i + 1) = W.take i ++ [W.getD i (0, [])] := by rw [List.take_succ_eq_append_getElem hi]; simp [List.getD, hi]
 unfold grpsTo
 rw [e, List.filter_append]
 by_cases h : 1 < (keysAt c W (c (W.getD i (0, [])))).length ∧ (keysAt c W (c (W.getD i (0, [])))).getD 0 0 = (W.getD i (0, [])).1
 ·rw [if_pos h, List.filter_cons_of_pos (by simpa using h), List.map_append]; rfl
 rw [if_neg h, List.filter_cons_of_neg (by simpa using h)]; simp
theorem grpsTo_len (c : Face → Int) (W : List Face) (i : Nat) : (grpsTo c W i).length ≤ W.length := by
 unfold grpsTo
 rw [List.length_map]
 exact Nat.le_trans (List.length_filter_le _ _) (List.length_take_le' ..)
def keysTo (c : Face → Int) (W : List Face) (h : Int) (k : Nat) : List Int := keysAt c (W.take k) h
theorem keysTo_all (c : Face → Int) (W : List Face) (h : Int) : keysTo c W h W.length = keysAt c W h := by unfold keysTo; rw [List.take_length]
theorem keysTo_next {c : Face → Int} {W : List Face} {h : Int} {k : Nat} (hk : k < W.length) : keysTo c W h (k + 1) = if c (W.getD k (0, [])) = h then keysTo c W h k ++ [(W.getD k (0, [])).1] else keysTo c W h k := by
 have e : W.take (k + 1) = W.take k ++ [W.getD k (0, [])] := by rw [List.take_succ_eq_append_getElem hk]; simp [List.getD, hk]
 unfold keysTo
 rw [e, keysAt_snoc]
 by_cases q : c (W.getD k (0, [])) = h
 ·rw [if_pos q.symm, if_pos q, q]
 rw [if_neg (fun r => q r.symm), if_neg q]
theorem keysTo_len (c : Face → Int) (W : List Face) (h : Int) (k : Nat) : (keysTo c W h k).length ≤ k := by
 unfold keysTo keysAt
 rw [List.length_map]
 exact Nat.le_trans (List.length_filter_le _ _) (List.length_take_le k W)
end Go.Proofs.YtckjpaimbmlboaaGreat.Plain
namespace Go.Proofs.YtckjpaimbmlboaaGreat
open Go.RowKit Go.Maps
set_option maxRecDepth 100000 in
set_option maxHeartbeats 16000000 in
theorem refTo_any (vg vp vx vq : Value) (g : Plain.Gr) (p q : Plain.Pt) (turn same : List (List Int)) (w : World) (hpl : p.e.length ≤ 1000) (hpv : p.v.length ≤ 1000) (hql : q.e.length ≤ 1000) (hqv : q.v.length ≤ 1000) (hTL : turn.length < 1000000000) (hrl : ∀ v, (Plain.turnAt turn v).length < 1000000000) (hsl : same.length ≤ 10000) (hz : Plain.planErr g p turn same = 0) (hqe : q.err g = 0) (hsub : ∀ e ∈ q.e, e ∈ p.e) (hsv : ∀ v ∈ q.v, v ∈ p.v) (hg : GrAt w vg g) (hp : PtAt w vp p) (hx : PlAt w vx turn same) (hq : PtAt w vq q) :
  Calls Tryz.prog 12 #[vg, vp, vx, vq] w fun e w' => ∃ ov, e = .returned ov ∧ PlAt w' ov (Plain.keepTurn q.e turn) (Plain.restSame g p q turn same) ∧ Chg [] w w' := by
 have HPZ := lh hz
 have HRL := lh (fun v => Nat.lt_trans (hrl v) (by decide : 1000000000 < 4294967296))
 have HRL9 := lh hrl
 have HQE := lh hqe
 have HSUB := lh hsub
 have HSV := lh hsv
 have HQ := lh hq
 obtain ⟨hpe, hto⟩ := Plain.turnErr_zero (Plain.flatErr_zero (Plain.planErr_zero hz).1).1
 have HPE := lh hpe
 have HTO := lh hto
 have HLD := lh (fun d (hd : d ∈ p.darts) => Plain.left_dart (same := same) (turn := turn) hz hd)
 have HLW := lh (fun d hd => Plain.lf_lt (d := d) hz hd)
 have HAL := lh (fun v r hv hr => Plain.around_lt (v := v) (r := r) hz hv hr)
 have HA1 := lh (fun f h2 hv hn r hr => Plain.around_one (E := q.e) (f := f) (r := r) hz h2 hv hn hr)
 have hrn := Plain.regs_len hpl hpv hz
 have HRC := lh (fun f hf => Plain.rest_case (f := f) hpe hto hqe hsub hsv hf)
 have HKT := lh (Plain.keepTurn_ok hto hsub)
 have HKW := lh (Plain.keep_walks hto hqe hsub)
 have hWL := (Plain.walks_ok hqe (Plain.restTurn_ok hto hsub)).len
 clear hz hrl hqe hsub hsv hpe hto
 have HG := lh hg
 have HP := lh hp
 have HX := lh hx
 obtain ⟨eo, cap, rfl, hn, hm, hsm, hcell⟩ := hg
 obtain ⟨v1, v2, rfl, hv, he⟩ := hp
 obtain ⟨ao, ac, rfl, has, ham, hacell⟩ := hv
 obtain ⟨bo, bc, rfl, hbs, hbm, hbcell⟩ := he
 have HAC := lh hacell
 have HBC := lh hbcell
 obtain ⟨t1, t2, rfl, ht, hs⟩ := hx
 have HT := lh ht
 have HS := lh hs
 obtain ⟨tno, tc, rfl, htm, -⟩ := ht
 obtain ⟨so, sc, rfl, hsm2, hsc⟩ := hs
 obtain ⟨-, -, hc1⟩ := box_two w #[.int .i64 g.n, .slice eo g.e.length cap] #[.slice ao p.v.length ac, .slice bo p.e.length bc] 24 27
 obtain ⟨-, hc3⟩ := box_three w #[.int .i64 g.n, .slice eo g.e.length cap] #[.slice ao p.v.length ac, .slice bo p.e.length bc] #[.slice tno turn.length tc, .slice so same.length sc] 24 27 30
 have HC1 := lh (hc1.trans hc3 (by simp))
 have HBXS := lh (fun w2 h => three_boxes w (g := g) (p := p) (turn := turn) (same := same) (eo := eo) (ao := ao) (bo := bo) (tno := tno) (so := so) (cap := cap) (ac := ac) (bc := bc) (tc := tc) (sc := sc) (w2 := w2) h)
 clear hcell hacell hbcell hsm hbs has hn hc1 hc3 hsc
 clear HBXS HC1
 obtain ⟨v3, v4, rfl, hqv1, hqe1⟩ := hq
 have HQEI := lh hqe1
 obtain ⟨co, cc, rfl, -, -, -⟩ := hqv1
 obtain ⟨fo, fc, rfl, -, -, -⟩ := hqe1
 have HPEI := lh (show IntsAt w (.slice bo p.e.length bc) p.e by obtain ⟨v1, v2, e, -, he⟩ := HP.out; cases e; exact he)
 have HC1 := lh (five_chg w #[.int .i64 g.n, .slice eo g.e.length cap] #[.slice ao p.v.length ac, .slice bo p.e.length bc] #[.slice tno turn.length tc, .slice so same.length sc] #[.slice co q.v.length cc, .slice fo q.e.length fc] #[.slice none 0 0, .slice none 0 0] 24 27 30 27 30)
 have HBXS := lh (fun w2 h => five_boxes w (g := g) (p := p) (q := q) (turn := turn) (same := same) (eo := eo) (ao := ao) (bo := bo) (tno := tno) (so := so) (co := co) (fo := fo) (cap := cap) (ac := ac) (bc := bc) (tc := tc) (sc := sc) (cc := cc) (fc := fc) (w2 := w2) h)
 obtain ⟨⟨x0, x1, y0, y1, z0, z1⟩, q0, q1, r0, hsz⟩ := HBXS.out _ (Chg.refl _ _)
 go_enter Tryz.func12, Tryz.ntmps12
 go_wp2_with fail
 refine (refRegions8_any _ _ _ g p turn same _ hpl hpv HRL.out hsl HPZ.out (HG.out.fresh HC1.out) (HP.out.fresh HC1.out) (HX.out.fresh HC1.out)).mono ?_
 rintro e w2 ⟨rv, rfl, hrr, hc2⟩
 obtain ⟨w1, hw1⟩ : ∃ w1, (((((w.alloc (.cells #[.int .i64 g.n, .slice eo g.e.length cap] 24)).alloc (.cells #[.slice ao p.v.length ac, .slice bo p.e.length bc] 27)).alloc (.cells #[.slice tno turn.length tc, .slice so same.length sc] 30)).alloc (.cells #[.slice co q.v.length cc, .slice fo q.e.length fc] 27)).alloc (.cells #[.slice none 0 0, .slice none 0 0] 30)) = w1 := ⟨_, rfl⟩
 rw [hw1] at HC1 HBXS hc2
 have HC2 := lh hc2
 have HW2 := lh (HC1.out.trans HC2.out (by simp))
 have HBX := lh (fun wx (hx : Chg [] w2 wx) => HBXS.out wx (HC2.out.trans hx (by simp)))
 have HSZ2 := lh (HBXS.out w2 HC2.out).2.2.2.2
 obtain ⟨ro, rc, rfl, -, -⟩ := hrr
 obtain ⟨n, hn⟩ : ∃ n, (Plain.regionsOf g p turn same).length = n := ⟨_, rfl⟩
 rw [hn] at HLW HAL hrn ⊢
 have HRS := lh (show Plain.restSame g p q turn same = Plain.grps (Plain.oneAt (Plain.leftOf (Plain.regionsOf g p turn same) (Plain.walksOf g p turn)) p q.e turn) (Plain.walksOf g q (Plain.restTurn q.e turn)) from (Plain.grps_one _ _ _ _ _).symm)
 obtain ⟨L, hL⟩ : ∃ L, Plain.leftOf (Plain.regionsOf g p turn same) (Plain.walksOf g p turn) = L := ⟨_, rfl⟩
 have HLE := lh hL
 rw [hL] at HLW HAL HLD HA1 HRS
 obtain ⟨F, hF⟩ : ∃ F, Plain.walksOf g q (Plain.restTurn q.e turn) = F := ⟨_, rfl⟩
 rw [hF] at HRS HRC HKW hWL
 clear hw1 x0 x1 y0 y1 z0 z1 q0 q1 r0 hsz hc2 hn hL hF
 have HOI := lh (fun k (hk : k ≤ p.e.length) x (hx : 0 ≤ x ∧ x < (n : Int)) => Plain.oneF_in (L := L) (E := q.e) (fun e he => HLW.out _ (HLD.out _ (Plain.edge_darts he).1)) k hk hx)
 go_wp2
 go_loopw [10, 11] (fun ov c wr => ∃ k : Nat, k ≤ n ∧ c = .int .i64 k ∧ RowAt wr w2.heap.size ov (Plain.oneL L p q.e k 0) ∧ Chg [] w2 wr) (fun _ c _ => n - (intOf c).toNat)
 case atStart => exact ⟨0, Nat.zero_le _, rfl, rowNil' _ _, Chg.refl _ _⟩
 case round =>
  obtain ⟨k, hk, rfl, hrow, hc⟩ := hrel
  have HROW := lh hrow
  have HC := lh hc
  have HW := lh (show w2.heap.size ≤ wr.heap.size from hc.size)
  obtain ⟨oo, oc, rfl⟩ := hrow.shape
  have hol := Plain.oneL_len L p q.e k 0
  clear hrow hc
  by_cases hlt : k < n
  ·have HST := lh (Plain.oneL_start L p q.e k)
   have IK : I64 (k : Int) := I64.mk (by omega) (by omega)
   obtain ⟨M, hM⟩ : ∃ M, Plain.oneL L p q.e k 0 = M := ⟨_, rfl⟩
   rw [hM] at HST HROW hol ⊢
   have hml : M.length < 4294967290 := by omega
   clear hM hol
   go_wp2_with (at_builtin; refine wl_push rfl _ _ rfl (B := w2.heap.size) (v := .slice oo _ oc) rfl rfl HROW.out IK HW.out hml rfl ?_; intro v6 w6 r6 c6 f6; have R6 := lh r6; have C6 := lh c6; clear r6 c6 f6)
   go_roundw
   case rel => exact ⟨k + 1, by omega, by go_num, by rw [HST.out]; exact R6.out, HC.out.trans C6.out (fun j hj => Or.inr (by rw [HROW.out.foot] at hj; exact (HROW.out.low j hj).1))⟩
   case measure => simp [intOf]; omega
  have e : k = n := by omega
  subst e
  rw [hol]
  clear hol
  rename World => wa
  go_wp2
  go_loopw [12] (fun c wr => ∃ i : Nat, i ≤ p.e.length ∧ c = .int .i64 i ∧ RowAt wr w2.heap.size (.slice oo k oc) (Plain.oneL L p q.e k i) ∧ Chg [] w2 wr) (fun c _ => p.e.length - (intOf c).toNat)
  case atStart => exact ⟨0, Nat.zero_le _, rfl, by have := HROW.out; rw [Plain.oneL_len] at this; exact this, HC.out⟩
  case round =>
   clear HROW HC HW
   obtain ⟨i, hi, rfl, hrow, hc⟩ := hrel
   have HROW := lh hrow
   have HC := lh hc
   have HCW := lh (HW2.out.trans hc (by simp))
   obtain ⟨⟨x0, x1, y0, y1, z0, z1⟩, q0, q1, r0, hsz⟩ := HBX.out _ hc
   clear hrow hc r0
   by_cases hlt : i < p.e.length
   ·obtain ⟨eb, eoff, rfl, ec⟩ := IntsAt.cellAt HPEI.out hlt
    have ecell := HCW.out.cell ec (by simp)
    have hem := Plain.getD_mem hlt
    have her := Plain.Pt.edge_in HPE.out hem
    have hgl := (Plain.Gr.err_ok (Plain.Pt.err_ok HPE.out).1).2.2.1
    have hgn := (Plain.Gr.err_ok (Plain.Pt.err_ok HPE.out).1).1
    obtain ⟨ne, hne⟩ : ∃ ne : Nat, p.e.getD i 0 = (ne : Int) := ⟨(p.e.getD i 0).toNat, by omega⟩
    have HON := lh (fun h => congrArg (fun f => (List.range k).map fun (i : Nat) => f (i : Int)) (Plain.oneF_on (L := L) (p := p) (E := q.e) (k := i) h))
    have HALL := lh (fun h => Plain.oneM_all (L := L) (p := p) (E := q.e) (n := k) (k := i) h)
    rw [hne] at ecell hem her HON HALL
    have hn2 : ne < 2048 := by omega
    have hd0 := HLD.out _ (Plain.edge_darts hem).1
    have hd1 := HLD.out _ (Plain.edge_darts hem).2
    have HRD0 := lh hd0
    have HRD1 := lh hd1
    have hl0 := HLW.out _ hd0
    have hl1 := HLW.out _ hd1
    have hia := HOI.out i (by omega) _ hl0
    have hib := HOI.out i (by omega) _ hl1
    have w2n : IntKind.i64.wrap (2 * (ne : Int)) = 2 * (ne : Int) := IntWalk.i64_in _ (by omega)
    have w2n1 : IntKind.i64.wrap (2 * (ne : Int) + 1) = 2 * (ne : Int) + 1 := IntWalk.i64_in _ (by omega)
    clear ec hem her hne hgl hgn hd0 hd1
    go_wp2
    have hS0 : Chg [] wr wr.drew := (Chg.refl [] wr).drew
    refine wp_region_way (Chg [] wr) [0, 1, 2, 3, 4, 5, 6] (Way.line [0, 1, 2, 3, 4, 5, 6, 7] .done) (by kernel_rfl) (by kernel_rfl) ?_
    simp only [Way.line]
    repeat
     first
      | (refine along_off rfl (by rfl) (by rfl) (fun _ _ _ h => h) hS0 ?_; simp only [Act.put, Z1, Z2, Z3, Z4, Z5, Z6])
      | (refine along_read (v := ?_) rfl (by rfl) (by rfl) (fun _ _ _ h => h) hS0 (fun w' hS' => ?_) ?_; rotate_left; (focus (have rd0 := hS'.cell q1 (by simp); have rd1 := hS'.cell y1 (by simp); have rd2 := hS'.cell ecell (by simp); clear hS'; go_simp; try with_reducible rfl)); simp only [Act.put, Z1, Z2, Z3, Z4, Z5, Z6])
      | (refine along_skip rfl (by rfl) (by rfl) hS0 ?_; simp only [Act.put, Z1, Z2, Z3, Z4, Z5, Z6])
    refine along_op rfl (by rfl) (by rfl) (fun K hK => ?_)
    go_simp
    refine (in_any _ q.e (ne : Int) _ (HQEI.out.fresh (HCW.out.trans hS0 (by simp)))).mono ?_
    rintro e w4 ⟨rfl, hcx⟩
    have hS1 := hS0.trans hcx (by simp)
    clear hS0 hcx
    have hS0 := hS1
    clear hS1
    refine hK.out _ _ (fun _ => hS0) ?_
    clear hK K
    try simp only [Act.put, Z1, Z2, Z3, Z4, Z5, Z6]
    refine along_done ?_
    have HC4 := lh (HC.out.trans hS0 (by simp))
    have HW4 := lh (HCW.out.trans hS0 (by simp))
    have HROW4 := lh (HROW.out.chg hS0 (by simp))
    have ecell := hS0.cell ecell (by simp)
    clear x0 x1 y0 y1 z0 z1 q0 q1 hsz hS0
    by_cases hon : (ne : Int) ∈ q.e
    ·have HNX := lh (show Plain.oneL L p q.e k (i + 1) = Plain.oneL L p q.e k i from HON.out hon)
     rw [decide_eq_true hon]
     clear hon ecell
     go_wp2
     go_roundw
     case rel => exact ⟨i + 1, by omega, by go_num, by rw [HNX.out]; exact HROW4.out, HC4.out⟩
     case measure => simp [intOf]; omega
    have HNX := lh (HALL.out hon)
    rw [decide_eq_false hon]
    obtain ⟨⟨x0, x1, y0, y1, z0, z1⟩, q0, q1, r0, hsz⟩ := HBX.out _ HC4.out
    obtain ⟨la, hla⟩ : ∃ la, Plain.lf L (2 * (ne : Int)) = la := ⟨_, rfl⟩
    obtain ⟨lb, hlb⟩ : ∃ lb, Plain.lf L (2 * (ne : Int) + 1) = lb := ⟨_, rfl⟩
    rw [hla] at hl0 hia HNX
    rw [hlb] at hl1 hib HNX
    have HLA := lh hla
    have HLB := lh hlb
    obtain ⟨na, rfl⟩ : ∃ na : Nat, la = na := ⟨la.toNat, by omega⟩
    obtain ⟨nb, rfl⟩ : ∃ nb : Nat, lb = nb := ⟨lb.toNat, by omega⟩
    have hna : na < k := by omega
    have hnb : nb < k := by omega
    obtain ⟨mg, rfl, hmc⟩ := HROW4.out.some (by rw [Plain.oneL_len]; omega)
    have ca := hmc na (by rw [Plain.oneL_len]; exact hna)
    have cb := hmc nb (by rw [Plain.oneL_len]; exact hnb)
    rw [Plain.oneL_at hna] at ca
    rw [Plain.oneL_at hnb] at cb
    obtain ⟨fa, hfa⟩ : ∃ fa, Plain.oneF L p q.e i (na : Int) = fa := ⟨_, rfl⟩
    obtain ⟨fb, hfb⟩ : ∃ fb, Plain.oneF L p q.e i (nb : Int) = fb := ⟨_, rfl⟩
    rw [hfa] at ca hia HNX
    rw [hfb] at cb hib HNX
    have IA : I64 fa := I64.mk (by omega) (by omega)
    have HZ := lh (Plain.oneM_zero L p q.e fa fb k i)
    clear hmc hfa hfb hla hlb hon r0
    go_wp2
    have hS0 : Chg [] w4 w4.drew := (Chg.refl [] w4).drew
    refine wp_region_way (Chg [] w4) [0, 1, 2, 3, 4, 5, 6, 7, 8, 9, 11, 12, 13, 14, 15, 16, 17, 18, 19, 20, 21, 22, 23, 25, 26, 27, 28] (Way.line [0, 1, 2, 3, 4, 5, 6, 7, 8, 9, 13, 14, 15, 16, 17, 18, 19, 20, 21, 22, 23, 10, 11, 12, 24, 25, 26, 27, 28] .done) (by kernel_rfl) (by kernel_rfl) ?_
    simp only [Way.line]
    repeat
     first
      | (refine along_off rfl (by rfl) (by rfl) (fun _ _ _ h => h) hS0 ?_; simp only [Act.put, Z1, Z2, Z3, Z4, Z5, Z6])
      | (refine along_read (v := ?_) rfl (by rfl) (by rfl) (fun _ _ _ h => h) hS0 (fun w' hS' => ?_) ?_; rotate_left; (focus (have rd0 := hS'.cell x0 (by simp); have rd1 := hS'.cell x1 (by simp); have rd2 := hS'.cell y0 (by simp); have rd3 := hS'.cell y1 (by simp); have rd4 := hS'.cell z0 (by simp); have rd5 := hS'.cell z1 (by simp); have rd6 := hS'.cell ecell (by simp); clear hS'; go_simp; try with_reducible rfl)); simp only [Act.put, Z1, Z2, Z3, Z4, Z5, Z6])
      | (refine along_skip rfl (by rfl) (by rfl) hS0 ?_; simp only [Act.put, Z1, Z2, Z3, Z4, Z5, Z6])
    refine along_op rfl (by rfl) (by rfl) (fun K hK => ?_)
    go_simp
    refine (refLeft_any _ _ _ g p turn same (2 * (ne : Int)) _ hpl hpv HRL.out hsl HPZ.out (by rw [HLE.out]; exact HRD0.out) (HG.out.fresh (HW4.out.trans hS0 (by simp))) (HP.out.fresh (HW4.out.trans hS0 (by simp))) (HX.out.fresh (HW4.out.trans hS0 (by simp)))).mono ?_
    rintro e w5 ⟨rfl, hcx⟩
    have hS1 := hS0.trans hcx (by simp)
    clear hS0 hcx
    have hS0 := hS1
    clear hS1
    refine hK.out _ _ (fun _ => hS0) ?_
    clear hK K
    try simp only [Act.put, Z1, Z2, Z3, Z4, Z5, Z6]
    rw [HLE.out, HLA.out]
    repeat
     first
      | (refine along_off rfl (by rfl) (by rfl) (fun _ _ _ h => h) hS0 ?_; simp only [Act.put, Z1, Z2, Z3, Z4, Z5, Z6])
      | (refine along_read (v := ?_) rfl (by rfl) (by rfl) (fun _ _ _ h => h) hS0 (fun w' hS' => ?_) ?_; rotate_left; (focus (have rd0 := hS'.cell ca (by simp); clear hS'; go_simp; try with_reducible rfl)); simp only [Act.put, Z1, Z2, Z3, Z4, Z5, Z6])
      | (refine along_skip rfl (by rfl) (by rfl) hS0 ?_; simp only [Act.put, Z1, Z2, Z3, Z4, Z5, Z6])
    refine along_op rfl (by rfl) (by rfl) (fun K hK => ?_)
    go_simp
    refine (refLeft_any _ _ _ g p turn same (2 * (ne : Int) + 1) _ hpl hpv HRL.out hsl HPZ.out (by rw [HLE.out]; exact HRD1.out) (HG.out.fresh (HW4.out.trans hS0 (by simp))) (HP.out.fresh (HW4.out.trans hS0 (by simp))) (HX.out.fresh (HW4.out.trans hS0 (by simp)))).mono ?_
    rintro e w6 ⟨rfl, hcx⟩
    have hS1 := hS0.trans hcx (by simp)
    clear hS0 hcx
    have hS0 := hS1
    clear hS1
    refine hK.out _ _ (fun _ => hS0) ?_
    clear hK K
    try simp only [Act.put, Z1, Z2, Z3, Z4, Z5, Z6]
    rw [HLE.out, HLB.out]
    repeat
     first
      | (refine along_off rfl (by rfl) (by rfl) (fun _ _ _ h => h) hS0 ?_; simp only [Act.put, Z1, Z2, Z3, Z4, Z5, Z6])
      | (refine along_read (v := ?_) rfl (by rfl) (by rfl) (fun _ _ _ h => h) hS0 (fun w' hS' => ?_) ?_; rotate_left; (focus (have rd0 := hS'.cell cb (by simp); clear hS'; go_simp; try with_reducible rfl)); simp only [Act.put, Z1, Z2, Z3, Z4, Z5, Z6])
      | (refine along_skip rfl (by rfl) (by rfl) hS0 ?_; simp only [Act.put, Z1, Z2, Z3, Z4, Z5, Z6])
    refine along_done ?_
    have HC6 := lh (HC4.out.trans hS0 (by simp))
    have HROW6 := lh (HROW4.out.chg hS0 (by simp))
    clear x0 x1 y0 y1 z0 z1 q0 q1 hsz ecell hS0 ca cb
    go_wp2
    go_loopw [15] (fun c wi => ∃ m : Nat, m ≤ k ∧ c = .int .i64 m ∧ RowAt wi w2.heap.size (.slice (some ⟨mg, 0, none⟩) k oc) (Plain.oneM (Plain.oneF L p q.e i) fa fb k m) ∧ Chg [] w2 wi) (fun c _ => k - (intOf c).toNat)
    case atStart => exact ⟨0, Nat.zero_le _, rfl, by rw [← HZ.out]; exact HROW6.out, HC6.out⟩
    case round =>
     rename World => wi
     obtain ⟨m, hm', rfl, hgr, hc⟩ := hrel
     have HGK := lh hgr
     have HCK := lh hc
     clear hgr hc
     by_cases hmi : m < k
     ·obtain ⟨mg', e3, gm⟩ := HGK.out.some (by rw [Plain.oneM_len]; omega)
      obtain rfl : mg = mg' := by simpa using e3
      have gm := gm m (by rw [Plain.oneM_len]; exact hmi)
      rw [Plain.oneM_at hmi, if_neg (fun h => Nat.lt_irrefl _ h.1)] at gm
      have fr := HGK.out.free (by rw [Plain.oneM_len]; omega) m
      have HS1 := lh (fun h => Plain.oneM_on (f := Plain.oneF L p q.e i) (a := fa) (b := fb) hmi h)
      have HS2 := lh (fun h => Plain.oneM_off (f := Plain.oneF L p q.e i) (a := fa) (b := fb) (n := k) (m := m) h)
      obtain ⟨x, hx⟩ : ∃ x, Plain.oneF L p q.e i (m : Int) = x := ⟨_, rfl⟩
      rw [hx] at gm HS1 HS2
      clear e3 hx
      by_cases hxb : x = fb
      ·have bx : (x == fb) = true := by rw [beq_iff_eq]; exact hxb
       have hset : Chg [mg] wi (wi.setCell ⟨mg, m, none⟩ (.int .i64 fa)) := (Chg.refl _ _).setCell (Or.inl (by simp)) _
       have HN := lh (show RowAt (wi.setCell ⟨mg, m, none⟩ (.int .i64 fa)) w2.heap.size (.slice (some ⟨mg, 0, none⟩) k oc) (Plain.oneM (Plain.oneF L p q.e i) fa fb k (m + 1)) from by
        rw [← HS1.out hxb]
        exact HGK.out.set m fa IA)
       have HCN := lh (HCK.out.trans hset (fun y hy => Or.inr (by simp at hy; subst hy; exact (HGK.out.low y (by simp [Value.ownBlock])).1)))
       clear hxb hset
       go_wp2
       go_roundw
       case rel => exact ⟨m + 1, by omega, by go_num, HN.out, HCN.out⟩
       case measure => simp [intOf]; omega
      have bx : (x == fb) = false := by rw [beq_eq_false_iff_ne]; exact hxb
      have HN := lh (show RowAt wi w2.heap.size (.slice (some ⟨mg, 0, none⟩) k oc) (Plain.oneM (Plain.oneF L p q.e i) fa fb k (m + 1)) from by
       rw [← HS2.out hxb]; exact HGK.out)
      clear hxb fr
      go_wp2
      go_roundw
      case rel => exact ⟨m + 1, by omega, by go_num, HN.out, HCK.out⟩
      case measure => simp [intOf]; omega
     have e : m = k := by omega
     subst e
     have HN := lh (show RowAt wi w2.heap.size (.slice (some ⟨mg, 0, none⟩) m oc) (Plain.oneL L p q.e m (i + 1)) from by
      have := HGK.out
      rw [HNX.out] at this
      exact this)
     go_wp2
     go_roundw
     case rel => exact ⟨i + 1, by omega, by go_num, HN.out, HCK.out⟩
     case measure => simp [intOf]; omega
   have e : i = p.e.length := by omega
   subst e
   have HV0 := lh (PlanVar.made wr (wr.heap.size + 1) (wr.heap.size + 1))
   have HAC0 := lh ((Chg.refl [] wr).alloc (.cells #[.slice none 0 0, .slice none 0 0] 30))
   have HSB := lh (show (wr.alloc (.cells #[.slice none 0 0, .slice none 0 0] 30)).heap.size = wr.heap.size + 1 by simp)
   have HPB := lh (show w2.heap.size ≤ wr.heap.size from HC.out.size)
   have HRB := lh (HROW.out.chg HAC0.out (by simp))
   have HLO := lh (fun b hb => (HROW.out.low b hb).2)
   have HCB := lh (HC.out.trans HAC0.out (by simp))
   clear HROW HC HCW x0 x1 y0 z0 z1 q0 q1 hsz hlt
   go_wp2
   clear y1
   generalize (wr.alloc (.cells #[.slice none 0 0, .slice none 0 0] 30)) = wb at *
   generalize wr.heap.size = pb at *
   have HONE := lh (fun (wx : World) (hc : Chg [pb] wb wx) (x : Nat) (hx : x < k) => (show ∃ mg, oo = some ⟨mg, 0, none⟩ ∧ wx.cell? ⟨mg, x, none⟩ = some (.int .i64 (Plain.oneF L p q.e p.e.length (x : Int))) from by
    have hr := HRB.out.chg hc (fun b hb e => by have := HLO.out b hb; simp at e; omega)
    obtain ⟨mg, e, hm⟩ := hr.some (by rw [Plain.oneL_len]; omega)
    have hm := hm x (by rw [Plain.oneL_len]; exact hx)
    rw [Plain.oneL_at hx] at hm
    exact ⟨mg, e, hm⟩))
   clear HAC0 HRB HLO hi
   go_loopw [17] (fun c wr => ∃ v : Nat, v ≤ turn.length ∧ c = .int .i64 v ∧ PlanVar wr pb (pb + 1) wr.heap.size ((turn.take v).map (Plain.keepOf q.e)) [] ∧ Chg [pb] wb wr) (fun c _ => turn.length - (intOf c).toNat)
   case atStart => exact ⟨0, Nat.zero_le _, rfl, by simpa [HSB.out] using HV0.out, Chg.refl _ _⟩
   case round =>
    rename World => wv
    clear HV0
    obtain ⟨v, hv, rfl, hpv, hc⟩ := hrel
    have HV := lh hpv
    have HC3 := lh hc
    have HCV := lh (HCB.out.trans hc (fun j hj => Or.inr (by simp at hj; have := HPB.out; omega)))
    have HWV := lh (HW2.out.trans HCV.out (by simp))
    obtain ⟨⟨x0, x1, y0, y1, z0, z1⟩, q0, q1, r0, hsz⟩ := HBX.out _ HCV.out
    have HBV := lh (show pb + 1 ≤ wv.heap.size by have := hc.size; have := HSB.out; omega)
    clear hpv hc r0
    by_cases hlt : v < turn.length
    ·obtain ⟨tb, toff, uo, uc, rfl, tcell, hrow⟩ := (HT.out.fresh HWV.out).row hlt
     have HMS := lh (Plain.map_take_snoc (f := Plain.keepOf q.e) hlt)
     have HDN := lh (fun d (hd : d ∈ turn.getD v []) => Plain.Pt.dart_nat HPE.out ((HTO.out.mem (v : Int) (by omega) (by have := HTO.out.len; omega) d).1 hd).1)
     have hTl := HRL9.out (v : Int)
     have hTe : Plain.turnAt turn (v : Int) = turn.getD v [] := rfl
     rw [hTe] at hTl
     obtain ⟨T, hT⟩ : ∃ T, turn.getD v [] = T := ⟨_, rfl⟩
     rw [hT] at hrow hTl HMS HDN tcell
     have HROW := lh hrow
     have HTC := lh tcell
     have hml : ((turn.take v).map (Plain.keepOf q.e)).length < 1000000000 := by simp; omega
     obtain ⟨LL, hLL⟩ : ∃ LL, (turn.take v).map (Plain.keepOf q.e) = LL := ⟨_, rfl⟩
     rw [hLL] at HV HMS hml
     clear hrow hTe hT hLL
     go_wp2
     go_loopw [18, 19] (fun lv c wi => ∃ j : Nat, j ≤ T.length ∧ c = .int .i64 j ∧ RowAt wi wv.heap.size lv (Plain.keepOf q.e (T.take j)) ∧ Chg [] wv wi) (fun _ c _ => T.length - (intOf c).toNat)
     case atStart => exact ⟨0, Nat.zero_le _, rfl, rowNil' _ _, Chg.refl _ _⟩
     case round =>
      rename World => wi
      obtain ⟨j, hj, rfl, hkr, hc⟩ := hrel
      have HKR := lh hkr
      have HCI := lh hc
      have HCVI := lh (HCV.out.trans hc (by simp))
      have HWI := lh (HWV.out.trans hc (by simp))
      have HBI := lh (show wv.heap.size ≤ wi.heap.size from hc.size)
      obtain ⟨lo, lc, rfl⟩ := hkr.shape
      have hkl := Nat.le_trans (Plain.keepOf_len q.e (T.take j)) (List.length_take_le j T)
      have tcell := hc.cell HTC.out (by simp)
      clear x0 x1 y0 y1 z0 z1 q0 q1 hsz
      obtain ⟨⟨x0, x1, y0, y1, z0, z1⟩, q0, q1, r0, hsz⟩ := HBX.out _ HCVI.out
      clear hkr hc r0
      by_cases hlj : j < T.length
      ·obtain ⟨rb, roff, rfl, rc⟩ := IntsAt.cellAt HROW.out hlj
       have rcell := HCI.out.cell rc (by simp)
       obtain ⟨nd, hnd, -, hn2⟩ := HDN.out _ (Plain.getD_mem hlj)
       have HNX := lh (Plain.keepOf_snoc q.e hlj)
       rw [hnd] at rcell HNX
       have q1d : Int.tdiv (nd : Int) 2 = ((nd / 2 : Nat) : Int) := by rw [Int.tdiv_eq_ediv_of_nonneg (by omega)]; rfl
       have HDV := lh (show (nd : Int) / 2 = ((nd / 2 : Nat) : Int) from rfl)
       obtain ⟨ee, hee⟩ : ∃ ee, nd / 2 = ee := ⟨_, rfl⟩
       rw [hee] at q1d HDV
       have we : IntKind.i64.wrap (ee : Int) = ee := IntWalk.i64_in _ (by omega)
       have IX : I64 (nd : Int) := I64.mk (by omega) (by omega)
       rw [HDV.out] at HNX
       obtain ⟨M, hM⟩ : ∃ M, Plain.keepOf q.e (T.take j) = M := ⟨_, rfl⟩
       rw [hM] at HNX HKR hkl ⊢
       have RCE := lh rcell
       clear rc hnd hee hM
       go_wp2
       have hS0 : Chg [] wi wi.drew := (Chg.refl [] wi).drew
       refine wp_region_way (Chg [] wi) [0, 1, 2, 3, 4, 5, 6, 7, 8, 9, 10] (Way.line [0, 1, 2, 3, 4, 5, 6, 7, 8, 9, 10, 11] .done) (by kernel_rfl) (by kernel_rfl) ?_
       simp only [Way.line]
       repeat
        first
         | (refine along_off rfl (by rfl) (by rfl) (fun _ _ _ h => h) hS0 ?_; simp only [Act.put, Z1, Z2, Z3, Z4, Z5, Z6])
         | (refine along_read (v := ?_) rfl (by rfl) (by rfl) (fun _ _ _ h => h) hS0 (fun w' hS' => ?_) ?_; rotate_left; (focus (have rd0 := hS'.cell q1 (by simp); have rd1 := hS'.cell z0 (by simp); have rd2 := hS'.cell tcell (by simp); have rd3 := hS'.cell rcell (by simp); clear hS'; go_simp; try with_reducible rfl)); simp only [Act.put, Z1, Z2, Z3, Z4, Z5, Z6])
         | (refine along_skip rfl (by rfl) (by rfl) hS0 ?_; simp only [Act.put, Z1, Z2, Z3, Z4, Z5, Z6])
       refine along_op rfl (by rfl) (by rfl) (fun K hK => ?_)
       go_simp
       refine (in_any _ q.e (ee : Int) _ (HQEI.out.fresh (HWI.out.trans hS0 (by simp)))).mono ?_
       rintro e w8 ⟨rfl, hcx⟩
       have hS1 := hS0.trans hcx (by simp)
       clear hS0 hcx
       have hS0 := hS1
       clear hS1
       refine hK.out _ _ (fun _ => hS0) ?_
       clear hK K
       try simp only [Act.put, Z1, Z2, Z3, Z4, Z5, Z6]
       refine along_done ?_
       have HC8 := lh (HCI.out.trans hS0 (by simp))
       have HCV8 := lh (HCVI.out.trans hS0 (by simp))
       have HKR8 := lh (HKR.out.chg hS0 (by simp))
       have HB8 := lh (Nat.le_trans HBI.out hS0.size)
       have tcell := hS0.cell tcell (by simp)
       have rcell := hS0.cell rcell (by simp)
       clear x0 x1 y0 y1 z0 z1 q0 q1 hsz hS0
       obtain ⟨⟨x0, x1, y0, y1, z0, z1⟩, q0, q1, r0, hsz⟩ := HBX.out _ HCV8.out
       by_cases hin : (ee : Int) ∈ q.e
       ·have HS := lh (HNX.out.trans (if_pos hin))
        rw [decide_eq_true hin]
        have hml2 : M.length < 4294967290 := by omega
        clear hin r0
        go_wp2_with (at_builtin; refine wl_push rfl _ _ rfl (B := wv.heap.size) (v := .slice lo _ lc) rfl rfl HKR8.out IX HB8.out hml2 rfl ?_; intro v6 w6 r6 c6 f6; have R6 := lh r6; have C6 := lh c6; clear r6 c6 f6)
        go_roundw
        case rel => exact ⟨j + 1, by omega, by go_num, by rw [HS.out]; exact R6.out, HC8.out.trans C6.out (fun j hj => Or.inr (by rw [HKR8.out.foot] at hj; exact (HKR8.out.low j hj).1))⟩
        case measure => simp [intOf]; omega
       have HS := lh (HNX.out.trans (if_neg hin))
       rw [decide_eq_false hin]
       clear hin r0 tcell rcell x0 x1 y0 y1 z0 z1 q0 q1 hsz
       go_wp2
       go_roundw
       case rel => exact ⟨j + 1, by omega, by go_num, by rw [HS.out]; exact HKR8.out, HC8.out⟩
       case measure => simp [intOf]; omega
      have e : j = T.length := by omega
      subst e
      rw [List.take_length] at HKR hkl ⊢
      obtain ⟨a1, c1, a2, c2, p0, -⟩ := (HV.out.fresh HCI.out).cells
      have P0 := lh p0
      obtain ⟨M, hM⟩ : ∃ M, Plain.keepOf q.e T = M := ⟨_, rfl⟩
      rw [hM] at HMS HKR hkl ⊢
      clear x0 x1 y0 y1 z1 q0 q1 hsz hM
      obtain ⟨g5, q5, w5, hr5, hf5, ⟨u5, hu5⟩, hv5, own5, hc5, ho5⟩ := (HV.out.fresh HCI.out).push0 (by have := HBV.out; have := HBI.out; omega) HKR.out HBV.out hml (Or.inl rfl) P0.out 28
      have HV5 := lh hv5
      have HC5 := lh hc5
      have HO5 := lh ho5
      clear hv5 hc5 ho5
      go_wp2_with (at_builtin; refine wl_apprun rfl _ _ 28 rfl rfl rfl hr5 ?_)
      clear hf5 hu5 hr5 p0
      generalize (w5.setCell ⟨pb, 0, none⟩ (.slice (some ⟨g5, 0, none⟩) (LL.length + 1) q5)) = w6 at *
      have HC6 := lh (show Chg [pb] wb w6 from HC3.out.trans ((HCI.out.mono (by simp)).trans HC5.out (fun j hj => Or.inl hj) : Chg own5 wv w6) (fun j hj => (HO5.out j hj).imp (fun e => by simp [e]) (fun h => by have := h.1; have := HSB.out; omega)))
      go_roundw
      case rel => exact ⟨v + 1, by omega, by go_num, by rw [HMS.out]; exact HV5.out.up (Nat.le_refl _), HC6.out⟩
      case measure => simp [intOf]; omega
    have e : v = turn.length := by omega
    subst e
    rw [List.take_length] at HV
    obtain ⟨TT, hTT⟩ : ∃ TT, turn.map (Plain.keepOf q.e) = TT := ⟨_, rfl⟩
    have HTT := lh (show Plain.keepTurn q.e turn = TT from hTT)
    rw [hTT] at HV
    have hrl2 := fun v => Nat.lt_of_le_of_lt (Plain.keep_row q.e turn v) (HRL.out v)
    rw [HTT.out] at HKT HKW hrl2
    have HRL2 := lh hrl2
    obtain ⟨a1, c1, a2, c2, p0, p1⟩ := HV.out.cells
    have HRT := lh (show RowsAt wv (.slice a1 TT.length c1) TT by
     obtain ⟨_, _, e, hrt, -⟩ := HV.out.readAt p0 p1
     cases e
     exact hrt)
    clear hTT hrl2 hlt p1
    go_wp2_with fail
    refine (refWalks_any _ _ _ g q TT _ (by omega) (by omega) HQE.out HKT.out HRL2.out (HG.out.fresh HWV.out) (HQ.out.fresh HWV.out) HRT.out).mono ?_
    rintro e w3 ⟨fv, xs, rfl, hnw, hc3⟩
    rw [HKW.out] at hnw
    have HNW := lh hnw
    have HC33 := lh hc3
    have HV3 := lh ((HV.out.fresh hc3).up (Nat.le_refl _))
    have HCV3 := lh (HCV.out.trans hc3 (by simp))
    have HCB3 := lh (show Chg [pb] wb w3 from HC3.out.trans hc3 (by simp))
    have HB3 := lh (show pb + 1 ≤ w3.heap.size from Nat.le_trans HBV.out hc3.size)
    obtain ⟨fo2, fc2, rfl⟩ := hnw.shape
    have HCC := lh (fun i (hi : i < F.length) => (show (F.map (Plain.oneAt L p q.e turn)).getD i 0 = Plain.oneAt L p q.e turn (F.getD i (0, [])) by simp [List.getD, hi]))
    have HCL := lh (show (F.map (Plain.oneAt L p q.e turn)).length = F.length by simp)
    obtain ⟨CC, hCC⟩ : ∃ CC, F.map (Plain.oneAt L p q.e turn) = CC := ⟨_, rfl⟩
    rw [hCC] at HCC HCL
    clear hnw hc3 x0 x1 y0 y1 z0 z1 q0 q1 hsz p0 hCC
    go_wp2
    go_loopw [21, 22] (fun av c wr => ∃ i : Nat, i ≤ F.length ∧ c = .int .i64 i ∧ RowAt wr w3.heap.size av (CC.take i) ∧ Chg [] w3 wr) (fun _ c _ => F.length - (intOf c).toNat)
    case atStart => exact ⟨0, Nat.zero_le _, rfl, rowNil' _ _, Chg.refl _ _⟩
    case round =>
     rename World => wa
     obtain ⟨i, hi, rfl, hrow, hc⟩ := hrel
     have HROW := lh hrow
     have HC := lh hc
     have HCA := lh (HCV3.out.trans hc (by simp))
     have HWA := lh (HW2.out.trans HCA.out (by simp))
     have HBA := lh (show w3.heap.size ≤ wa.heap.size from hc.size)
     have HCBA := lh (show Chg [pb] wb wa from HCB3.out.trans hc (by simp))
     obtain ⟨ho, hoc, rfl⟩ := hrow.shape
     have hol := List.length_take_le i CC
     obtain ⟨⟨x0, x1, y0, y1, z0, z1⟩, q0, q1, r0, hsz⟩ := HBX.out _ HCA.out
     clear hrow hc r0
     by_cases hlt : i < F.length
     ·obtain ⟨wg, wcc, ga, gc, ewo, m0, m1, ur⟩ := nest_face HNW.out rfl hlt
      simp only [Value.slice.injEq] at ewo
      obtain ⟨rfl, -, rfl⟩ := ewo
      have f0 := HC.out.cell m0 (by simp)
      have hfm : F.getD i (0, []) ∈ F := by simp [List.getD, hlt]
      have HNX := lh (show CC.take (i + 1) = CC.take i ++ [Plain.oneAt L p q.e turn (F.getD i (0, []))] by rw [← HCC.out i hlt]; exact Plain.take_snoc (by rw [HCL.out]; exact hlt))
      have hcase := HRC.out _ hfm
      have HA1F := lh (fun h2 hv hn r hr => HA1.out (F.getD i (0, [])) h2 hv hn r hr)
      have HPF := lh (show Plain.oneAt L p q.e turn (F.getD i (0, [])) = Plain.oneF L p q.e p.e.length (Plain.lf L (Plain.place turn (F.getD i (0, [])))) from rfl)
      obtain ⟨M, hM⟩ : ∃ M, CC.take i = M := ⟨_, rfl⟩
      rw [hM] at HNX HROW hol ⊢
      have hml : M.length < 4294967290 := by have := HCL.out; omega
      obtain ⟨z, hz2⟩ : ∃ z, Plain.oneAt L p q.e turn (F.getD i (0, [])) = z := ⟨_, rfl⟩
      rw [hz2] at HNX HA1F HPF
      obtain ⟨f, hf⟩ : ∃ f, F.getD i (0, []) = f := ⟨_, rfl⟩
      rw [hf] at f0 hcase HA1F HPF
      obtain ⟨ky, hky⟩ : ∃ ky, f.1 = ky := ⟨_, rfl⟩
      rw [hky] at f0 hcase HA1F
      have HKY := lh hky
      clear m0 m1 ur hfm hM hz2 hf hky
      rcases hcase with ⟨k0, k2, k3, k4, k5⟩ | ⟨k0, k3, k4, k5⟩
      ·have b1 : decide (ky < 0) = true := decide_eq_true k0
       have wvv : IntKind.i64.wrap (-1 - ky) = -1 - ky := IntWalk.i64_in _ (by omega)
       have HK2 := lh k2
       have HK4 := lh k4
       have HK5 := lh k5
       clear k2 k4 k5
       go_wp2_with fail
       refine (refAround_any _ _ _ g p turn same (-1 - ky) _ hpl hpv HRL.out hsl HPZ.out HK4.out (HG.out.fresh HWA.out) (HP.out.fresh HWA.out) (HX.out.fresh HWA.out)).mono ?_
       rintro e w4 ⟨av, A, rfl, har, ha0, ham, hal, hc4⟩
       obtain ⟨ao2, ac2, rfl⟩ := har.shape
       obtain ⟨ab2, rfl, hac⟩ := har.some ha0
       have acell := hac 0 ha0
       have hra := ham _ (Plain.getD_mem ha0)
       rw [HLE.out] at hra
       have hrb := HAL.out _ _ HK4.out hra
       have hrz := HA1F.out HK2.out HK4.out HK5.out _ hra
       obtain ⟨r, hr⟩ : ∃ r, A.getD 0 0 = r := ⟨_, rfl⟩
       rw [hr] at acell hra hrb hrz
       obtain ⟨nr, rfl⟩ : ∃ nr : Nat, r = nr := ⟨r.toNat, by omega⟩
       have hiz := HOI.out p.e.length (Nat.le_refl _) _ hrb
       obtain ⟨mg, rfl, ocell⟩ := HONE.out w4 (HCBA.out.trans hc4 (by simp)) nr (by omega)
       rw [hrz] at ocell hiz
       have IZ : I64 z := I64.mk (by omega) (by omega)
       have HC4 := lh (HC.out.trans hc4 (by simp))
       have HROW4 := lh (HROW.out.chg hc4 (by simp))
       have HB4 := lh (Nat.le_trans HBA.out hc4.size)
       have hnk : nr < k := by omega
       clear har ham hac hal hra hrb hrz hr hc4 hiz x0 x1 y0 y1 z0 z1 q0 q1 hsz
       go_wp2_with (at_builtin; refine wl_push rfl _ _ rfl (B := w3.heap.size) (v := .slice ho _ hoc) rfl rfl HROW4.out IZ HB4.out hml rfl ?_; intro v6 w6 r6 c6 f6; have R6 := lh r6; have C6 := lh c6; clear r6 c6 f6)
       go_roundw
       case rel => exact ⟨i + 1, by omega, by go_num, by rw [HNX.out]; exact R6.out, HC4.out.trans C6.out (fun j hj => Or.inr (by rw [HROW4.out.foot] at hj; exact (HROW4.out.low j hj).1))⟩
       case measure => simp [intOf]; omega
      have b1 : decide (ky < 0) = false := decide_eq_false (by omega)
      have hld := HLD.out _ k4
      have HLDK := lh hld
      have hrb := HLW.out _ hld
      have hrz := HPF.out
      rw [k5] at hrz
      obtain ⟨r, hr⟩ : ∃ r, Plain.lf L ky = r := ⟨_, rfl⟩
      rw [hr] at hrb hrz
      have HRE := lh hr
      obtain ⟨nr, rfl⟩ : ∃ nr : Nat, r = nr := ⟨r.toNat, by omega⟩
      have hiz := HOI.out p.e.length (Nat.le_refl _) _ hrb
      have hnk : nr < k := by omega
      have HRZ := lh hrz
      rw [← hrz] at hiz
      have IZ : I64 z := I64.mk (by omega) (by omega)
      clear k4 k5 hld hrb hrz hr hiz
      go_wp2_with fail
      refine (refLeft_any _ _ _ g p turn same ky _ hpl hpv HRL.out hsl HPZ.out (by rw [HLE.out]; exact HLDK.out) (HG.out.fresh HWA.out) (HP.out.fresh HWA.out) (HX.out.fresh HWA.out)).mono ?_
      rintro e w4 ⟨rfl, hc4⟩
      rw [HLE.out, HRE.out]
      obtain ⟨mg, rfl, ocell⟩ := HONE.out w4 (HCBA.out.trans hc4 (by simp)) nr hnk
      rw [← HRZ.out] at ocell
      have HC4 := lh (HC.out.trans hc4 (by simp))
      have HROW4 := lh (HROW.out.chg hc4 (by simp))
      have HB4 := lh (Nat.le_trans HBA.out hc4.size)
      clear hc4 x0 x1 y0 y1 z0 z1 q0 q1 hsz
      go_wp2_with (at_builtin; refine wl_push rfl _ _ rfl (B := w3.heap.size) (v := .slice ho _ hoc) rfl rfl HROW4.out IZ HB4.out hml rfl ?_; intro v6 w6 r6 c6 f6; have R6 := lh r6; have C6 := lh c6; clear r6 c6 f6)
      go_roundw
      case rel => exact ⟨i + 1, by omega, by go_num, by rw [HNX.out]; exact R6.out, HC4.out.trans C6.out (fun j hj => Or.inr (by rw [HROW4.out.foot] at hj; exact (HROW4.out.low j hj).1))⟩
      case measure => simp [intOf]; omega
     have e : i = F.length := by omega
     subst e
     rw [show CC.take F.length = CC by rw [← HCL.out]; exact List.take_length] at HROW hol ⊢
     have HNA := lh (HNW.out.fresh HC.out)
     have HVA := lh ((HV3.out.fresh HC.out).up (Nat.le_refl _))
     rw [HCL.out]
     obtain ⟨CF, hCF⟩ : ∃ CF, Plain.oneAt L p q.e turn = CF := ⟨_, rfl⟩
     rw [hCF] at HRS HCC
     clear x0 x1 y0 y1 z0 z1 q0 q1 hsz hlt hol HV HV3 HNW hCF
     go_wp2
     go_loopw [24] (fun c wr => ∃ i : Nat, i ≤ F.length ∧ c = .int .i64 i ∧ PlanVar wr pb (pb + 1) wr.heap.size TT (Plain.grpsTo CF F i) ∧ Nest wr wv.heap.size 81 2 (.slice fo2 F.length fc2) F.length xs (faceCells F) ∧ RowAt wr w3.heap.size (.slice ho F.length hoc) CC ∧ Chg [pb] wb wr) (fun c _ => F.length - (intOf c).toNat)
     case atStart => exact ⟨0, Nat.zero_le _, rfl, HVA.out, HNA.out, by have := HROW.out; rw [HCL.out] at this; exact this, HCBA.out⟩
     case round =>
      rename World => wc
      clear HROW HNA HVA
      obtain ⟨i, hi, rfl, hpv, hnw, hrow, hc⟩ := hrel
      have HVC := lh hpv
      have HNC := lh hnw
      have HATC := lh hrow
      have HCC5 := lh hc
      have HCC2 := lh (HCB.out.trans hc (fun j hj => Or.inr (by simp at hj; have := HPB.out; omega)))
      have HB5 := lh (show pb + 1 ≤ wc.heap.size by have := hc.size; have := HSB.out; omega)
      clear hpv hnw hrow hc
      by_cases hlt : i < F.length
      ·obtain ⟨wg, wcc, ga, gc, ewo, m0, m1, ur⟩ := nest_face HNC.out rfl hlt
       simp only [Value.slice.injEq] at ewo
       obtain ⟨rfl, -, rfl⟩ := ewo
       have HGN := lh (Plain.grpsTo_next (c := CF) hlt)
       have hgl := Plain.grpsTo_len CF F i
       obtain ⟨ag, rfl, hac⟩ := HATC.out.some (by rw [HCL.out]; omega)
       have ci := hac i (by rw [HCL.out]; exact hlt)
       rw [HCC.out i hlt] at ci
       have HAC := lh (fun j (hj : j < F.length) => by have h := hac j (by rw [HCL.out]; exact hj); rw [HCC.out j hj] at h; exact h)
       obtain ⟨hh, hhe⟩ : ∃ hh, CF (F.getD i (0, [])) = hh := ⟨_, rfl⟩
       rw [hhe] at ci HGN
       obtain ⟨ki, hki⟩ : ∃ ki, (F.getD i (0, [])).1 = ki := ⟨_, rfl⟩
       rw [hki] at m0 HGN
       have HM0 := lh m0
       have HCI0 := lh ci
       clear m0 m1 ur hac ci hhe hki
       go_wp2
       go_loopw [25, 26] (fun lv c wi => ∃ j : Nat, j ≤ F.length ∧ c = .int .i64 j ∧ RowAt wi wc.heap.size lv (Plain.keysTo CF F hh j) ∧ Chg [] wc wi) (fun _ c _ => F.length - (intOf c).toNat)
       case atStart => exact ⟨0, Nat.zero_le _, rfl, rowNil' _ _, Chg.refl _ _⟩
       case round =>
        rename World => wi
        obtain ⟨j, hj, rfl, hkr, hcw⟩ := hrel
        have HKR := lh hkr
        have HCI := lh hcw
        have HBI := lh (show wc.heap.size ≤ wi.heap.size from hcw.size)
        obtain ⟨lo, lc, rfl⟩ := hkr.shape
        have hkl := Plain.keysTo_len CF F hh j
        clear hkr hcw
        by_cases hlj : j < F.length
        ·obtain ⟨wg', wcc', ga, gc, ewo, m0, m1, ur⟩ := nest_face HNC.out rfl hlj
         cases ewo
         have k0 := HCI.out.cell m0 (by simp)
         have cj := HCI.out.cell (HAC.out j hlj) (by simp)
         have ci := HCI.out.cell HCI0.out (by simp)
         have HKN := lh (Plain.keysTo_next (c := CF) (h := hh) hlj)
         have hcase := HRC.out (F.getD j (0, [])) (by simp [List.getD, hlj])
         have hkb : -2048 < (F.getD j (0, [])).1 ∧ (F.getD j (0, [])).1 < 2048 := by rcases hcase with ⟨h1, -, h2, -⟩ | ⟨h1, h2, -⟩ <;> omega
         obtain ⟨f, hf⟩ : ∃ f, F.getD j (0, []) = f := ⟨_, rfl⟩
         rw [hf] at k0 cj HKN hkb
         obtain ⟨cx, hcx⟩ : ∃ x, CF f = x := ⟨_, rfl⟩
         rw [hcx] at cj HKN
         obtain ⟨ky, hky⟩ : ∃ ky, f.1 = ky := ⟨_, rfl⟩
         rw [hky] at k0 HKN hkb
         have IK : I64 ky := I64.mk (by omega) (by omega)
         obtain ⟨M, hM⟩ : ∃ M, Plain.keysTo CF F hh j = M := ⟨_, rfl⟩
         rw [hM] at HKN HKR hkl ⊢
         have K0 := lh k0
         clear m0 m1 ur hcase hkb hf hcx hky hM k0
         go_wp2
         have hS0 : Chg [] wi wi.drew := (Chg.refl [] wi).drew
         refine wp_region_way (Chg [] wi) [0, 1, 2, 3, 4, 5, 6, 7, 8] (Way.line [0, 1, 2, 3, 4, 5, 6, 7, 8] .done) (by kernel_rfl) (by kernel_rfl) ?_
         simp only [Way.line]
         repeat
          first
           | (refine along_off rfl (by rfl) (by rfl) (fun _ _ _ h => h) hS0 ?_; simp only [Act.put, Z1, Z2, Z3, Z4, Z5, Z6])
           | (refine along_read (v := ?_) rfl (by rfl) (by rfl) (fun _ _ _ h => h) hS0 (fun w' hS' => ?_) ?_; rotate_left; (focus (have rd0 := hS'.cell cj (by simp); have rd1 := hS'.cell ci (by simp); clear hS'; go_simp; try with_reducible rfl)); simp only [Act.put, Z1, Z2, Z3, Z4, Z5, Z6])
           | (refine along_skip rfl (by rfl) (by rfl) hS0 ?_; simp only [Act.put, Z1, Z2, Z3, Z4, Z5, Z6])
         refine along_done ?_
         have HC8 := lh (HCI.out.trans hS0 (by simp))
         have HKR8 := lh (HKR.out.chg hS0 (by simp))
         have HB8 := lh (Nat.le_trans HBI.out hS0.size)
         have k0 := hS0.cell K0.out (by simp)
         clear hS0 ci cj
         generalize wi.drew = wd at *
         by_cases hxe : cx = hh
         ·have bx : (cx == hh) = true := by rw [beq_iff_eq]; exact hxe
          have HS := lh (HKN.out.trans (if_pos hxe))
          have hml : M.length < 4294967290 := by omega
          clear hxe
          go_wp2_with (at_builtin; refine wl_push rfl _ _ rfl (B := wc.heap.size) (v := .slice lo _ lc) rfl rfl HKR8.out IK HB8.out hml rfl ?_; intro v6 w6 r6 c6 f6; have R6 := lh r6; have C6 := lh c6; clear r6 c6 f6)
          go_roundw
          case rel => exact ⟨j + 1, by omega, by go_num, by rw [HS.out]; exact R6.out, HC8.out.trans C6.out (fun j hj => Or.inr (by rw [HKR8.out.foot] at hj; exact (HKR8.out.low j hj).1))⟩
          case measure => simp [intOf]; omega
         have bx : (cx == hh) = false := by rw [beq_eq_false_iff_ne]; exact hxe
         have HS := lh (HKN.out.trans (if_neg hxe))
         clear hxe k0
         go_wp2
         go_roundw
         case rel => exact ⟨j + 1, by omega, by go_num, by rw [HS.out]; exact HKR8.out, HC8.out⟩
         case measure => simp [intOf]; omega
        have e : j = F.length := by omega
        subst e
        rw [Plain.keysTo_all] at HKR hkl ⊢
        have ki0 := HCI.out.cell HM0.out (by simp)
        obtain ⟨M, hM⟩ : ∃ M, Plain.keysAt CF F hh = M := ⟨_, rfl⟩
        rw [hM] at HGN HKR hkl ⊢
        clear hM hlj hj
        by_cases h1 : 1 < M.length
        ·have bl : decide ((M.length : Int) > 1) = true := decide_eq_true (by omega)
         have hM0 : 0 < M.length := by omega
         obtain ⟨lg, rfl, hlc⟩ := HKR.out.some (by omega)
         have l0 := hlc 0 (by omega)
         obtain ⟨m0, hm0⟩ : ∃ m0, M.getD 0 0 = m0 := ⟨_, rfl⟩
         rw [hm0] at l0 HGN
         clear hlc hm0
         go_wp2
         have hS0 : Chg [] wi wi.drew := (Chg.refl [] wi).drew
         refine wp_region_way (Chg [] wi) [0, 1, 2, 3, 4, 5, 6, 7, 8, 9, 10, 11, 12, 13] (Way.line [0, 1, 2, 3, 4, 5, 6, 7, 8, 9, 10, 11, 12, 13] .done) (by kernel_rfl) (by kernel_rfl) ?_
         simp only [Way.line]
         repeat
          first
           | (refine along_off rfl (by rfl) (by rfl) (fun _ _ _ h => h) hS0 ?_; simp only [Act.put, Z1, Z2, Z3, Z4, Z5, Z6])
           | (refine along_read (v := ?_) rfl (by rfl) (by rfl) (fun _ _ _ h => h) hS0 (fun w' hS' => ?_) ?_; rotate_left; (focus (have rd0 := hS'.cell l0 (by simp); have rd1 := hS'.cell ki0 (by simp); clear hS'; go_simp; try with_reducible rfl)); simp only [Act.put, Z1, Z2, Z3, Z4, Z5, Z6])
           | (refine along_skip rfl (by rfl) (by rfl) hS0 ?_; simp only [Act.put, Z1, Z2, Z3, Z4, Z5, Z6])
         refine along_done ?_
         have HC8 := lh (HCI.out.trans hS0 (by simp))
         have HKR8 := lh (HKR.out.chg hS0 (by simp))
         have HB8 := lh (Nat.le_trans HBI.out hS0.size)
         clear hS0 l0 ki0
         generalize wi.drew = wd at *
         by_cases h2 : m0 = ki
         ·have b2 : (m0 == ki) = true := by rw [beq_iff_eq]; exact h2
          have HS := lh (HGN.out.trans (if_pos ⟨h1, h2⟩))
          have HVD := lh (HVC.out.fresh HC8.out)
          have HND := lh (HNC.out.fresh HC8.out)
          have HATD := lh (HATC.out.chg HC8.out (by simp))
          obtain ⟨C, hC⟩ : ∃ C, Plain.grpsTo CF F i = C := ⟨_, rfl⟩
          rw [hC] at HS HVD hgl
          obtain ⟨a1, c1, a2, c2, -, p1⟩ := HVD.out.cells
          have P1 := lh p1
          clear h1 h2 bl hC
          obtain ⟨g5, q5, w5, hr5, hf5, ⟨u5, hu5⟩, hv5, own5, hc5, ho5⟩ := HVD.out.push1 (by have := HB5.out; have := HB8.out; omega) HKR8.out HB5.out (by omega) (Or.inl rfl) P1.out 28
          have HV5 := lh hv5
          have HC5 := lh hc5
          have HO5 := lh ho5
          clear hv5 hc5 ho5
          go_wp2_with (at_builtin; refine wl_apprun rfl _ _ 28 rfl rfl rfl hr5 ?_)
          clear hf5 hu5 hr5 p1
          generalize (w5.setCell ⟨pb, 1, none⟩ (.slice (some ⟨g5, 0, none⟩) (C.length + 1) q5)) = w6 at *
          have hkd : ∀ j ∈ own5, ∀ cs t r, wd.heap[j]? = some (.cells cs t r) → t = 30 ∨ t = 25 := fun j hj cs t r h => (HO5.out j hj).elim (fun e => by
           obtain ⟨o1, v1, o2, v2, hh, -⟩ := HVD.out.ex
           rw [e, hh] at h
           simp at h
           exact Or.inl h.2.1.symm) (fun ⟨_, cs2, r2, h2⟩ => by rw [h2] at h; simp at h; exact Or.inr h.2.1.symm)
          have hst : IntsStay wd w6 := IntsStay.chg HC5.out (fun j hj cs r h => by rcases hkd j hj cs _ r h with e | e <;> cases e)
          have hnn := HND.out.other HC5.out (fun j hj cs t r h => by rcases hkd j hj cs t r h with e | e <;> (rw [e]; exact ⟨by decide, by decide⟩))
          have HC6 := lh (show Chg [pb] wb w6 from HCC5.out.trans ((HC8.out.mono (by simp)).trans HC5.out (fun j hj => Or.inl hj) : Chg own5 wc w6) (fun j hj => (HO5.out j hj).imp (fun e => by simp [e]) (fun h => by have := h.1; have := HSB.out; omega)))
          go_roundw
          case rel => exact ⟨i + 1, by omega, by go_num, by rw [HS.out]; exact HV5.out.up (Nat.le_refl _), hnn, hst.row HATD.out, HC6.out⟩
          case measure => simp [intOf]; omega
         have b2 : (m0 == ki) = false := by rw [beq_eq_false_iff_ne]; exact h2
         have HS := lh (HGN.out.trans (if_neg (fun h => h2 h.2)))
         clear h1 h2 bl
         go_wp2
         go_roundw
         case rel => exact ⟨i + 1, by omega, by go_num, by rw [HS.out]; exact (HVC.out.fresh HC8.out).up (Nat.le_refl _), HNC.out.fresh HC8.out, HATC.out.chg HC8.out (by simp), HCC5.out.trans HC8.out (by simp)⟩
         case measure => simp [intOf]; omega
        have bl : decide ((M.length : Int) > 1) = false := decide_eq_false (by omega)
        have HS := lh (HGN.out.trans (if_neg (fun h => h1 h.1)))
        clear h1 ki0
        go_wp2
        have hS0 : Chg [] wi wi.drew := (Chg.refl [] wi).drew
        refine wp_region_way (Chg [] wi) [0, 1, 2, 3, 4, 5, 6, 7, 8, 9, 10, 11, 12, 13] (Way.line [0, 1, 2, 3, 4, 5, 6, 7, 8, 9, 10, 11, 12, 13] .done) (by kernel_rfl) (by kernel_rfl) ?_
        simp only [Way.line]
        repeat
         first
          | (refine along_off rfl (by rfl) (by rfl) (fun _ _ _ h => h) hS0 ?_; simp only [Act.put, Z1, Z2, Z3, Z4, Z5, Z6])
          | (refine along_read (v := ?_) rfl (by rfl) (by rfl) (fun _ _ _ h => h) hS0 (fun w' hS' => ?_) ?_; rotate_left; (focus (skip; clear hS'; go_simp; try with_reducible rfl)); simp only [Act.put, Z1, Z2, Z3, Z4, Z5, Z6])
          | (refine along_skip rfl (by rfl) (by rfl) hS0 ?_; simp only [Act.put, Z1, Z2, Z3, Z4, Z5, Z6])
        refine along_done ?_
        have HC8 := lh (HCI.out.trans hS0 (by simp))
        clear hS0
        generalize wi.drew = wd at *
        go_wp2
        go_roundw
        case rel => exact ⟨i + 1, by omega, by go_num, by rw [HS.out]; exact (HVC.out.fresh HC8.out).up (Nat.le_refl _), HNC.out.fresh HC8.out, HATC.out.chg HC8.out (by simp), HCC5.out.trans HC8.out (by simp)⟩
        case measure => simp [intOf]; omega
      have e : i = F.length := by omega
      subst e
      rw [Plain.grpsTo_all, ← HRS.out] at HVC
      obtain ⟨SS, hSS⟩ : ∃ SS, Plain.restSame g p q turn same = SS := ⟨_, rfl⟩
      have HSS := lh hSS
      rw [hSS] at HVC
      obtain ⟨a1, c1, a2, c2, p0, p1⟩ := HVC.out.cells
      have P0 := lh p0
      have P1 := lh p1
      obtain ⟨-, -, -, hr8, hsz⟩ := HBX.out _ HCC2.out
      have HR8 := lh hr8
      have r0 := (cell_of_row _ _ 0 _ _ _ hr8).trans (show _ = some (Value.slice none 0 0) from rfl)
      have r1 := (cell_of_row _ _ 1 _ _ _ hr8).trans (show _ = some (Value.slice none 0 0) from rfl)
      have f0 := free_at hr8 0
      have f1 := free_at hr8 1
      have HSZS := lh (show w.heap.size + 4 < pb by have := HSZ2.out; have := HPB.out; omega)
      have HWC := lh (HW2.out.trans HCC2.out (by simp))
      clear hr8 hsz hlt hSS
      go_wp2
      obtain ⟨o0, o1, o2⟩ := out_store HR8.out (.slice a1 TT.length c1) (.slice a2 SS.length c2)
      have hfin := (HVC.out.low o2 (fun j hj => by have : j = w.heap.size + 4 := (by simpa using hj); have := HSZS.out; omega)).readAt (o2.cell P0.out (by have := HSZS.out; simp; omega)) (o2.cell P1.out (by have := HSZS.out; simp; omega))
      refine bodyPost_ret (v := .agg #[.slice a1 TT.length c1, .slice a2 SS.length c2]) (by simp [results, Tryz.results12, go_sem, o0, o1]) rfl ?_
      exact ⟨_, rfl, by rw [HTT.out, HSS.out]; exact hfin, HWC.out.trans o2 (fun j hj => Or.inr (by simp at hj; omega))⟩
end Go.Proofs.YtckjpaimbmlboaaGreat
