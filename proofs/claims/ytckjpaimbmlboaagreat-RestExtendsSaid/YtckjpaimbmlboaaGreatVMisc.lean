/- small functions of the document's answer and of plan: contracts of ref04.Equal, ref04.Twin, plan.corner. Conditions: lists, a graph and a walk that lie in memory and read so. -/
import Derived.Test.YtckjpaimbmlboaaGreatVGraphB
import Derived.Test.YtckjpaimbmlboaaGreatVRing
namespace Go.Proofs.YtckjpaimbmlboaaGreat
open Go.RowKit Go.Maps
theorem equal_step {a b : List Int} (hl : a.length = b.length) : (List.range a.length).all (fun i => decide (a.getD i 0 = b.getD i 0)) = decide (a = b) := by
 by_cases h : a = b
 ·subst h
  rw [decide_eq_true rfl, List.all_eq_true]
  simp
 rw [decide_eq_false h, List.all_eq_false]
 refine Classical.byContradiction fun q => h (List.ext_getElem hl fun i h1 h2 => ?_)
 refine Classical.byContradiction fun e => q ⟨i, List.mem_range.2 h1, ?_⟩
 simpa [List.getD, h1, h2] using e
theorem equal_any (va vb : Value) (a b : List Int) (w : World) (ha : IntsAt w va a) (hb : IntsAt w vb b) :
  Calls Tryz.prog 18 #[va, vb] w fun e w' => e = .returned (.bool (decide (a = b))) ∧ Chg [] w w' := by
 obtain ⟨ao, ac, rfl, -, ham, hac⟩ := ha
 obtain ⟨bo, bc, rfl, -, hbm, hbc⟩ := hb
 have HA := lh hac
 have HB := lh hbc
 clear hac hbc
 by_cases hl : a.length = b.length
 ·have HE := lh (equal_step hl)
  have HL := lh hl
  have hb0 : ((a.length : Int) == (b.length : Int)) = true := by rw [hl]; simp
  go_enter Tryz.func18, Tryz.ntmps18
  rw [← hl]
  clear hb0 hl
  go_wp2
  go_loopw [5] (fun c wr => ∃ k : Nat, k ≤ a.length ∧ c = .int .i64 k ∧ Chg [] w wr ∧ Hid ((List.range k).all (fun i => decide (a.getD i 0 = b.getD i 0)) = true)) (fun c _ => a.length - (intOf c).toNat)
  case atStart => exact ⟨0, Nat.zero_le _, rfl, Chg.refl _ _, rfl⟩
  case round =>
   obtain ⟨k, hk, rfl, hc, hall⟩ := hrel
   have HC := lh hc
   by_cases hlt : k < a.length
   ·obtain ⟨ab, aoff, rfl, hac⟩ := HA.out (by intro e; rw [e] at hlt; simp at hlt)
    have hkb : k < b.length := by have := HL.out; omega
    obtain ⟨bb, boff, rfl, hbc⟩ := HB.out (by intro e; rw [e] at hkb; simp at hkb)
    have c0 := hc.cell (hac k hlt) (by simp)
    have c1 := hc.cell (hbc k hkb) (by simp)
    have HF := lh (fun h => Plain.all_range_false (p := fun i => decide (a.getD i 0 = b.getD i 0)) hlt h)
    have HS := lh (Plain.all_range_succ (fun i => decide (a.getD i 0 = b.getD i 0)) k)
    have HK := lh (show (decide (a.getD k 0 = b.getD k 0)) = decide (a.getD k 0 = b.getD k 0) from rfl)
    obtain ⟨x, hx⟩ : ∃ x, a.getD k 0 = x := ⟨_, rfl⟩
    obtain ⟨y, hy⟩ : ∃ y, b.getD k 0 = y := ⟨_, rfl⟩
    have HX := lh hx
    have HY := lh hy
    rw [hx] at c0
    rw [hy] at c1
    clear hac hbc hc hx hy HK
    go_wp2
    have hS0 : (fun w' : World => w'.cell? ⟨ab, aoff + k, none⟩ = some (.int .i64 x) ∧ w'.cell? ⟨bb, boff + k, none⟩ = some (.int .i64 y)) wr.drew := ⟨c0, c1⟩
    refine wp_region_way (fun w' : World => w'.cell? ⟨ab, aoff + k, none⟩ = some (.int .i64 x) ∧ w'.cell? ⟨bb, boff + k, none⟩ = some (.int .i64 y)) [0, 1, 2, 3, 4, 5, 6, 7, 8] (Way.line [0, 1, 2, 3, 4, 5, 6, 7, 8] .done) (by kernel_rfl) (by kernel_rfl) ?_
    simp only [Way.line]
    repeat
     first
      | (refine along_off rfl (by rfl) (by rfl) (fun _ _ _ h => h) hS0 ?_; simp only [Act.put, Z1, Z2, Z3, Z4, Z5, Z6])
      | (refine along_read (v := ?_) rfl (by rfl) (by rfl) (fun _ _ _ h => h) hS0 (fun w' hS' => ?_) ?_; rotate_left; (focus ((try dsimp only at hS'); go_simp; try with_reducible rfl)); simp only [Act.put, Z1, Z2, Z3, Z4, Z5, Z6])
      | (refine along_skip rfl (by rfl) (by rfl) hS0 ?_; simp only [Act.put, Z1, Z2, Z3, Z4, Z5, Z6])
    refine along_done ?_
    have HCD := lh HC.out.drew
    clear hS0 c0 c1
    by_cases hxy : x = y
    ·have HK2 := lh (show (List.range (k + 1)).all (fun i => decide (a.getD i 0 = b.getD i 0)) = true by rw [HS.out, hall.out, HX.out, HY.out]; simp [hxy])
     have b1 : (x == y) = true := by rw [beq_iff_eq]; exact hxy
     have b2 : (x != y) = false := by simp [hxy]
     clear hxy
     go_wp2
     go_roundw
     case rel => exact ⟨k + 1, by omega, by go_num, HCD.out, HK2⟩
     case measure => simp [intOf]; omega
    have HE2 := lh (show decide (a = b) = false by rw [← HE.out]; exact HF.out (by rw [HX.out, HY.out]; exact decide_eq_false hxy))
    have b1 : (x == y) = false := by rw [beq_eq_false_iff_ne]; exact hxy
    have b2 : (x != y) = true := by simp [hxy]
    clear hxy
    go_wp2
    go_ret
    exact ⟨ret_bool HE2.out.symm, HCD.out⟩
   have e : k = a.length := by omega
   subst e
   have HE2 := lh (HE.out.symm.trans hall.out)
   clear hc
   go_wp2
   go_ret
   exact ⟨ret_bool HE2.out.symm, HC.out⟩
 have HE := lh (show decide (a = b) = false from decide_eq_false (fun e => hl (by rw [e])))
 have hb0 : ((a.length : Int) == (b.length : Int)) = false := by rw [beq_eq_false_iff_ne]; omega
 go_enter Tryz.func18, Tryz.ntmps18
 go_wp2
 go_ret
 exact ⟨ret_bool HE.out.symm, Chg.refl _ _⟩
end Go.Proofs.YtckjpaimbmlboaaGreat
