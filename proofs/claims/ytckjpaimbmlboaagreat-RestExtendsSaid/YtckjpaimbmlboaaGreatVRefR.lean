/- ref04: the contract of Rises. Condition: a list that lies in memory and reads so. -/
import Derived.Test.YtckjpaimbmlboaaGreatVGraphA
namespace Go.Proofs.YtckjpaimbmlboaaGreat
open Go.RowKit Go.Maps
set_option maxRecDepth 100000 in
set_option maxHeartbeats 2000000 in
theorem rises_any (v : Value) (l : List Int) (n : Int) (w : World) (h : IntsAt w v l) (hl : l.length < 4294967296) :
  Calls Tryz.prog 78 #[v, .int .i64 n] w fun e w' => e = .returned (.bool (Plain.rises l n)) ∧ Chg [] w w' := by
 obtain ⟨ao, cap, rfl, hsm, hm, hcell⟩ := h
 have HSM := lh hsm
 have HCE := lh hcell
 clear hsm hcell
 go_enter Tryz.func78, Tryz.ntmps78
 go_wp2
 go_loopw [5] (fun c wr => ∃ k : Nat, k ≤ l.length ∧ c = .int .i64 k ∧ Chg [] w wr ∧ Hid ((List.range k).all (Plain.risesAt l n) = true)) (fun c _ => l.length - (intOf c).toNat)
 case atStart => exact ⟨0, Nat.zero_le _, rfl, Chg.refl _ _, rfl⟩
 case round =>
  obtain ⟨k, hk, rfl, hc, hall⟩ := hrel
  have HC := lh hc
  by_cases hlt : k < l.length
  ·obtain ⟨b, off, rfl, hfc⟩ := HCE.out (by intro e; rw [e] at hlt; simp at hlt)
   have c0 := hc.cell (hfc k hlt) (by simp)
   have HF := lh (fun h => Plain.all_range_false (p := Plain.risesAt l n) hlt h)
   have HS := lh (Plain.all_range_succ (Plain.risesAt l n) k)
   obtain ⟨z, hz⟩ : ∃ z, l.getD k 0 = z := ⟨_, rfl⟩
   obtain ⟨y, hy⟩ : ∃ y, l.getD (k - 1) 0 = y := ⟨_, rfl⟩
   have HR := lh (show Plain.risesAt l n k = !(decide (z < 0) || decide (n ≤ z) || (decide (0 < k) && decide (z ≤ y))) by unfold Plain.risesAt; rw [hz, hy])
   rw [hz] at c0
   obtain ⟨j, hj⟩ : ∃ j, k - 1 = j := ⟨_, rfl⟩
   have c1 : wr.cell? ⟨b, off + j, none⟩ = some (.int .i64 y) := by rw [← hy, hj]; exact hc.cell (hfc j (by omega)) (by simp)
   have e1 : 0 < k → IntKind.i64.wrap ((k : Int) - 1) = (j : Int) := fun h => by rw [IntWalk.i64_in _ (by omega)]; omega
   have i1 : (0 : Int) ≤ (j : Int) := by omega
   have i2 : (j : Int) < (l.length : Int) := by omega
   have i7 : j < l.length := by omega
   clear hfc hc hz hy hj
   go_wp2
   have hS0 : (fun w' : World => w'.cell? ⟨b, off + k, none⟩ = some (.int .i64 z) ∧ w'.cell? ⟨b, off + j, none⟩ = some (.int .i64 y)) wr.drew := ⟨c0, c1⟩
   refine wp_region_way (fun w' : World => w'.cell? ⟨b, off + k, none⟩ = some (.int .i64 z) ∧ w'.cell? ⟨b, off + j, none⟩ = some (.int .i64 y)) [0, 1, 2, 3, 4, 5, 6, 7, 8, 9, 10, 11, 12, 13, 14, 15, 16, 17, 18, 19, 20, 21, 22, 23, 24, 25, 26, 27, 28] (Way.line [0, 1, 2, 3, 4, 5, 6, 7, 8, 9, 10, 11, 12, 13, 14, 15, 16, 17, 18, 19, 20, 21, 22, 23, 24, 25, 26, 27, 28] .done) (by kernel_rfl) (by kernel_rfl) ?_
   simp only [Way.line]
   have HCD := lh HC.out.drew
   by_cases h1 : z < 0
   ·have b1 : decide (z < 0) = true := decide_eq_true h1
    have HE := lh (show Plain.rises l n = false from HF.out (by rw [HR.out, b1]; simp))
    clear h1 e1
    repeat
     first
      | (refine along_off rfl (by rfl) (by rfl) (fun _ _ _ h => h) hS0 ?_; simp only [Act.put, Z1, Z2, Z3, Z4, Z5, Z6])
      | (refine along_read (v := ?_) rfl (by rfl) (by rfl) (fun _ _ _ h => h) hS0 (fun w' hS' => ?_) ?_; rotate_left; (focus ((try dsimp only at hS'); go_simp; try with_reducible rfl)); simp only [Act.put, Z1, Z2, Z3, Z4, Z5, Z6])
      | (refine along_skip rfl (by rfl) (by rfl) hS0 ?_; simp only [Act.put, Z1, Z2, Z3, Z4, Z5, Z6])
    refine along_done ?_
    clear hS0 c0 c1
    go_wp2
    go_ret
    exact ⟨ret_bool HE.out.symm, HCD.out⟩
   have b1 : decide (z < 0) = false := decide_eq_false h1
   by_cases h2 : n ≤ z
   ·have b2 : decide (z ≥ n) = true := decide_eq_true h2
    have HE := lh (show Plain.rises l n = false from HF.out (by rw [HR.out, decide_eq_true h2]; simp))
    clear h1 h2 e1
    repeat
     first
      | (refine along_off rfl (by rfl) (by rfl) (fun _ _ _ h => h) hS0 ?_; simp only [Act.put, Z1, Z2, Z3, Z4, Z5, Z6])
      | (refine along_read (v := ?_) rfl (by rfl) (by rfl) (fun _ _ _ h => h) hS0 (fun w' hS' => ?_) ?_; rotate_left; (focus ((try dsimp only at hS'); go_simp; try with_reducible rfl)); simp only [Act.put, Z1, Z2, Z3, Z4, Z5, Z6])
      | (refine along_skip rfl (by rfl) (by rfl) hS0 ?_; simp only [Act.put, Z1, Z2, Z3, Z4, Z5, Z6])
    refine along_done ?_
    clear hS0 c0 c1
    go_wp2
    go_ret
    exact ⟨ret_bool HE.out.symm, HCD.out⟩
   have b2 : decide (z ≥ n) = false := decide_eq_false h2
   have b2' : decide (n ≤ z) = false := decide_eq_false h2
   by_cases h0 : 0 < k
   ·have b3 : decide ((k : Int) > 0) = true := decide_eq_true (by omega)
    have e2 := e1 h0
    by_cases h3 : z ≤ y
    ·have b4 : decide (z ≤ y) = true := decide_eq_true h3
     have HE := lh (show Plain.rises l n = false from HF.out (by rw [HR.out, b4, decide_eq_true h0]; simp))
     clear h1 h2 h3 e1
     repeat
      first
       | (refine along_off rfl (by rfl) (by rfl) (fun _ _ _ h => h) hS0 ?_; simp only [Act.put, Z1, Z2, Z3, Z4, Z5, Z6])
       | (refine along_read (v := ?_) rfl (by rfl) (by rfl) (fun _ _ _ h => h) hS0 (fun w' hS' => ?_) ?_; rotate_left; (focus ((try dsimp only at hS'); go_simp; try with_reducible rfl)); simp only [Act.put, Z1, Z2, Z3, Z4, Z5, Z6])
       | (refine along_skip rfl (by rfl) (by rfl) hS0 ?_; simp only [Act.put, Z1, Z2, Z3, Z4, Z5, Z6])
     refine along_done ?_
     clear hS0 c0 c1
     go_wp2
     go_ret
     exact ⟨ret_bool HE.out.symm, HCD.out⟩
    have b4 : decide (z ≤ y) = false := decide_eq_false h3
    have HE := lh (show (List.range (k + 1)).all (Plain.risesAt l n) = true by rw [HS.out, HR.out, hall.out, b1, b2', b4]; simp)
    clear h1 h2 h3 e1
    repeat
     first
      | (refine along_off rfl (by rfl) (by rfl) (fun _ _ _ h => h) hS0 ?_; simp only [Act.put, Z1, Z2, Z3, Z4, Z5, Z6])
      | (refine along_read (v := ?_) rfl (by rfl) (by rfl) (fun _ _ _ h => h) hS0 (fun w' hS' => ?_) ?_; rotate_left; (focus ((try dsimp only at hS'); go_simp; try with_reducible rfl)); simp only [Act.put, Z1, Z2, Z3, Z4, Z5, Z6])
      | (refine along_skip rfl (by rfl) (by rfl) hS0 ?_; simp only [Act.put, Z1, Z2, Z3, Z4, Z5, Z6])
    refine along_done ?_
    clear hS0 c0 c1
    go_wp2
    go_roundw
    case rel => exact ⟨k + 1, by omega, by go_num, HCD.out, HE⟩
    case measure => simp [intOf]; omega
   have b3 : decide ((k : Int) > 0) = false := decide_eq_false (by omega)
   have HE := lh (show (List.range (k + 1)).all (Plain.risesAt l n) = true by rw [HS.out, HR.out, hall.out, b1, b2', decide_eq_false h0]; simp)
   have b5 : decide (0 < k) = false := decide_eq_false h0
   clear h1 h2 e1
   repeat
    first
     | (refine along_off rfl (by rfl) (by rfl) (fun _ _ _ h => h) hS0 ?_; simp only [Act.put, Z1, Z2, Z3, Z4, Z5, Z6])
     | (refine along_read (v := ?_) rfl (by rfl) (by rfl) (fun _ _ _ h => h) hS0 (fun w' hS' => ?_) ?_; rotate_left; (focus ((try dsimp only at hS'); go_simp; try with_reducible rfl)); simp only [Act.put, Z1, Z2, Z3, Z4, Z5, Z6])
     | (refine along_skip rfl (by rfl) (by rfl) hS0 ?_; simp only [Act.put, Z1, Z2, Z3, Z4, Z5, Z6])
   refine along_done ?_
   clear hS0 c0 c1
   go_wp2
   go_roundw
   case rel => exact ⟨k + 1, by omega, by go_num, HCD.out, HE⟩
   case measure => simp [intOf]; omega
  have e : k = l.length := by omega
  subst e
  have HE := lh hall.out
  clear hc
  go_wp2
  go_ret
  exact ⟨ret_bool HE.out.symm, HC.out⟩
end Go.Proofs.YtckjpaimbmlboaaGreat
