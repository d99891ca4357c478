/- package graph: contracts of rising, Right. Conditions: lists and a graph that lie in memory and read so. -/
import Derived.Test.YtfgbkpbakignhaaVBase
namespace Go.Proofs.Ytfgbkpbakignhaa
open Go.RowKit Go.Maps

theorem rising_any (v : Value) (l : List Int) (n : Int) (w : World) (_hn : I64 n) (h : IntsAt w v l) :
    Calls Try.prog 40 #[v, .int .i64 n] w fun e w' => e = .returned (.bool (Plain.rises l n)) ∧ Chg [] w w' := by
  obtain ⟨ao, cap, rfl, hsm, hm, hcell⟩ := h
  have HSM := Lib.hid hsm
  have HCE := Lib.hid hcell
  clear hsm hcell
  go_enter Try.func40, Try.ntmps40
  go_wp2
  go_loopw [9] (fun c wr => ∃ k : Nat, k ≤ l.length ∧ c = .int .i64 k ∧ Chg [] w wr ∧ Hid ((List.range k).all (Plain.risesAt l n) = true)) (fun c _ => l.length - (intOf c).toNat)
  case atStart => exact ⟨0, Nat.zero_le _, rfl, Chg.refl _ _, rfl⟩
  case round =>
    obtain ⟨k, hk, rfl, hc, hall⟩ := hrel
    have HC := Lib.hid hc
    by_cases hlt : k < l.length
    · obtain ⟨b, off, rfl, hfc⟩ := HCE.out (by intro e; rw [e] at hlt; simp at hlt)
      have c0 := hc.cell (hfc k hlt) (by simp)
      have hz := HSM.out (l.getD k 0) (by simp [List.getD, hlt])
      have HF := Lib.hid (fun h => Plain.all_range_false (p := Plain.risesAt l n) hlt h)
      have HS := Lib.hid (Plain.all_range_succ (Plain.risesAt l n) k)
      cases k with
      | zero =>
        have HR := Lib.hid (show Plain.risesAt l n 0 = !(decide (l.getD 0 0 < 0) || decide (n ≤ l.getD 0 0)) by simp [Plain.risesAt])
        rw [Nat.add_zero] at c0
        clear hfc hc
        generalize l.getD 0 0 = z at *
        by_cases h1 : z < 0
        · go_wp2
          go_ret
          exact ⟨ret_bool (by rw [HR.out] at HF; exact (HF.out (by simp [h1])).symm), HC.out⟩
        · by_cases h2 : n ≤ z
          · go_wp2
            go_ret
            exact ⟨ret_bool (by rw [HR.out] at HF; exact (HF.out (by simp [h2])).symm), HC.out⟩
          · go_wp2
            go_roundw
            case rel => exact ⟨1, by omega, by go_num, HC.out, Lib.hid (by rw [HS.out, HR.out, hall.out]; simp [h1, h2])⟩
            case measure => simp [intOf]; omega
      | succ m =>
        have c1 := hc.cell (hfc m (by omega)) (by simp)
        have HR := Lib.hid (show Plain.risesAt l n (m + 1) = !(decide (l.getD (m + 1) 0 < 0) || decide (n ≤ l.getD (m + 1) 0) || decide (l.getD (m + 1) 0 ≤ l.getD m 0)) by simp [Plain.risesAt])
        have hm1 : (((m + 1 : Nat) : Int) - 1) = (m : Int) := by omega
        have hy := HSM.out (l.getD m 0) (by simp [List.getD, show m < l.length by omega])
        clear hfc hc
        generalize l.getD (m + 1) 0 = z at *
        generalize l.getD m 0 = y at *
        by_cases h1 : z < 0
        · go_wp2
          go_ret
          exact ⟨ret_bool (by rw [HR.out] at HF; exact (HF.out (by simp [h1])).symm), HC.out⟩
        · by_cases h2 : n ≤ z
          · go_wp2
            go_ret
            exact ⟨ret_bool (by rw [HR.out] at HF; exact (HF.out (by simp [h2])).symm), HC.out⟩
          · by_cases h3 : z ≤ y
            · go_wp2
              go_ret
              exact ⟨ret_bool (by rw [HR.out] at HF; exact (HF.out (by simp [h3])).symm), HC.out⟩
            · go_wp2
              go_roundw
              case rel => exact ⟨m + 2, by omega, by go_num, HC.out, Lib.hid (by rw [HS.out, HR.out, hall.out]; simp [h1, h2, h3])⟩
              case measure => simp [intOf]; omega
    · have e : k = l.length := by omega
      subst e
      go_wp2
      go_ret
      exact ⟨ret_bool hall.out.symm, HC.out⟩

theorem graphRight_any (v : Value) (g : Plain.Gr) (w : World) (h : GrAt w v g) :
    Calls Try.prog 33 #[v] w fun e w' => e = .returned (.int .i64 g.err) ∧ Chg [] w w' := by
  obtain ⟨eo, cap, rfl, hn, hm, hsm, hcell⟩ := h
  have HSM := Lib.hid hsm
  have HCE := Lib.hid hcell
  have HN := Lib.hid hn
  have hmin : -9223372036854775808 ≤ g.n := by have h := hn; unfold I64 at h; simp only [Lit.wf, Bool.and_eq_true, decide_eq_true_eq] at h; exact h.1
  clear hsm hcell
  go_enter Try.func33, Try.ntmps33
  have HC1 := Lib.hid ((Chg.refl [] w).alloc (.cells #[.int .i64 g.n, .slice eo g.e.length cap] 24))
  by_cases h1 : g.n < 0
  · have HE := Lib.hid (show g.err = 3 by unfold Plain.Gr.err; rw [if_pos h1])
    go_wp2
    go_ret
    exact ⟨ret_int HE.out.symm, HC1.out⟩
  · by_cases h2 : 1024 < g.n
    · have HE := Lib.hid (show g.err = 2 by unfold Plain.Gr.err; rw [if_neg h1, if_pos (Or.inl h2)])
      go_wp2
      go_ret
      exact ⟨ret_int HE.out.symm, HC1.out⟩
    · have hsub : (1024 : Int) - g.n ≤ 1024 := by omega
      by_cases h3 : 1024 - g.n < (g.e.length : Int)
      · have HE := Lib.hid (show g.err = 2 by unfold Plain.Gr.err; rw [if_neg h1, if_pos (Or.inr h3)])
        go_wp2
        go_ret
        exact ⟨ret_int HE.out.symm, HC1.out⟩
      · have HER := Lib.hid (show g.err = if (List.range g.e.length).all g.okEdge then 0 else 3 by unfold Plain.Gr.err; rw [if_neg h1, if_neg (by omega)])
        have hcn : (w.alloc (.cells #[.int .i64 g.n, .slice eo g.e.length cap] 24)).cell? ⟨w.heap.size, 0, none⟩ = some (.int .i64 g.n) := by rw [cell_of_row _ _ 0 _ _ _ (heap_alloc_new w _)]; rfl
        have HCN := Lib.hid hcn
        clear hcn
        go_wp2
        generalize (w.alloc (.cells #[.int .i64 g.n, .slice eo g.e.length cap] 24)) = w1 at *
        generalize w.heap.size = gb at *
        go_loopw [23] (fun c wr => ∃ k : Nat, k ≤ g.e.length ∧ c = .int .i64 k ∧ Chg [] w1 wr ∧ Hid ((List.range k).all g.okEdge = true)) (fun c _ => g.e.length - (intOf c).toNat)
        case atStart => exact ⟨0, Nat.zero_le _, rfl, Chg.refl _ _, rfl⟩
        case round =>
          obtain ⟨k, hk, rfl, hc, hall⟩ := hrel
          have HC := Lib.hid hc
          have cn := fun o => cellNew (hc.cell HCN.out (by simp)) o
          by_cases hlt : k < g.e.length
          · obtain ⟨b, off, rfl, hc0, hc1⟩ := HCE.out k hlt
            have c0 := hc.cell (HC1.out.cell hc0 (by simp)) (by simp)
            have c1 := hc.cell (HC1.out.cell hc1 (by simp)) (by simp)
            obtain ⟨z1, z2⟩ := HSM.out k hlt
            have HF := Lib.hid (fun h => Plain.all_range_false (p := g.okEdge) hlt h)
            have HS := Lib.hid (Plain.all_range_succ g.okEdge k)
            have HR := Lib.hid (show g.okEdge k = !(decide ((g.ends k).1 < 0) || decide (g.n ≤ (g.ends k).1) || decide ((g.ends k).2 < 0) || decide (g.n ≤ (g.ends k).2)) from rfl)
            clear hc0 hc1 hc
            generalize (g.ends k).1 = x at *
            generalize (g.ends k).2 = y at *
            by_cases p1 : x < 0
            · have HE := Lib.hid (HER.out.trans (if_neg (by rw [HF.out (by rw [HR.out]; simp [p1])]; decide)))
              go_wp2
              go_ret
              exact ⟨ret_int HE.out.symm, HC1.out.trans (HC.out.alloc _) (by simp)⟩
            · skip
              by_cases p2 : g.n ≤ x
              · have HE := Lib.hid (HER.out.trans (if_neg (by rw [HF.out (by rw [HR.out]; simp [p2])]; decide)))
                go_wp2
                go_ret
                exact ⟨ret_int HE.out.symm, HC1.out.trans (HC.out.alloc _) (by simp)⟩
              · skip
                by_cases p3 : y < 0
                · have HE := Lib.hid (HER.out.trans (if_neg (by rw [HF.out (by rw [HR.out]; simp [p3])]; decide)))
                  go_wp2
                  go_ret
                  exact ⟨ret_int HE.out.symm, HC1.out.trans (HC.out.alloc _) (by simp)⟩
                · skip
                  by_cases p4 : g.n ≤ y
                  · have HE := Lib.hid (HER.out.trans (if_neg (by rw [HF.out (by rw [HR.out]; simp [p4])]; decide)))
                    go_wp2
                    go_ret
                    exact ⟨ret_int HE.out.symm, HC1.out.trans (HC.out.alloc _) (by simp)⟩
                  · skip
                    have HK := Lib.hid (show (List.range (k + 1)).all g.okEdge = true by rw [HS.out, HR.out, hall.out]; simp [p1, p2, p3, p4])
                    go_wp2
                    go_roundw
                    case rel => exact ⟨k + 1, by omega, by go_num, HC.out.alloc _, HK⟩
                    case measure => simp [intOf]; omega
          · have e : k = g.e.length := by omega
            subst e
            have HE := Lib.hid (HER.out.trans (if_pos hall.out))
            go_wp2
            go_ret
            exact ⟨ret_int HE.out.symm, HC1.out.trans HC.out (by simp)⟩

end Go.Proofs.Ytfgbkpbakignhaa
