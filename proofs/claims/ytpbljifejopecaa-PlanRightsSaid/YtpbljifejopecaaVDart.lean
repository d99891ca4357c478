/- darts in the program and the document's answer: contracts of walk.target, face.leaves, ref04.Tail, ref04.In. Conditions: a graph, a list that lie in memory and read so; a dart of it. -/
import Derived.Test.YtpbljifejopecaaVMem
import Derived.Test.YtpbljifejopecaaVPerm
namespace Go.Proofs.Ytpbljifejopecaa
open Go.RowKit Go.Maps

/-- A dart, by its edge and which way. -/
theorem dart_even (g : Plain.Gr) (e : Nat) : g.tail ((2 * e : Nat) : Int) = (g.ends e).1 ∧ g.head ((2 * e : Nat) : Int) = (g.ends e).2 := by
  unfold Plain.Gr.tail Plain.Gr.head Plain.Gr.at
  rw [if_pos (by omega), if_pos (by omega), show (((2 * e : Nat) : Int) / 2).toNat = e by omega]
  exact ⟨rfl, rfl⟩
theorem dart_odd (g : Plain.Gr) (e : Nat) : g.tail ((2 * e + 1 : Nat) : Int) = (g.ends e).2 ∧ g.head ((2 * e + 1 : Nat) : Int) = (g.ends e).1 := by
  unfold Plain.Gr.tail Plain.Gr.head Plain.Gr.at
  rw [if_neg (by omega), if_neg (by omega), show (((2 * e + 1 : Nat) : Int) / 2).toNat = e by omega]
  exact ⟨rfl, rfl⟩

theorem quo_even (e : Nat) : Int.tmod ((2 * e : Nat) : Int) 2 = 0 ∧ Int.tdiv ((2 * e : Nat) : Int) 2 = (e : Int) := by
  rw [Int.tmod_eq_emod_of_nonneg (by omega), Int.tdiv_eq_ediv_of_nonneg (by omega)]
  omega
theorem quo_odd (e : Nat) : Int.tmod ((2 * e + 1 : Nat) : Int) 2 = 1 ∧ Int.tdiv ((2 * e + 1 : Nat) : Int) 2 = (e : Int) := by
  rw [Int.tmod_eq_emod_of_nonneg (by omega), Int.tdiv_eq_ediv_of_nonneg (by omega)]
  omega

theorem target_any (v : Value) (g : Plain.Gr) (d : Nat) (w : World) (hd : d / 2 < g.e.length) (hm : g.e.length < 4294967296) (h : GrAt w v g) :
    Calls Try.prog 136 #[v, .int .i64 d] w fun e w' => e = .returned (.int .i64 (g.head d)) ∧ Chg [] w w' := by
  obtain ⟨eo, cap, rfl, -, -, -, hcell⟩ := h
  obtain ⟨b, off, rfl, hc0, hc1⟩ := hcell (d / 2) hd
  have HC1 := Lib.hid ((Chg.refl [] w).alloc (.cells #[.int .i64 g.n, .slice (some ⟨b, off, none⟩) g.e.length cap] 24))
  obtain ⟨e, he⟩ : ∃ e, d / 2 = e := ⟨_, rfl⟩
  rw [he] at hd hc0 hc1
  have c0 := fun o => cellNew hc0 o
  have c1 := fun o => cellNew hc1 o
  clear hcell hc0 hc1
  rcases (show d = 2 * e ∨ d = 2 * e + 1 by omega) with rfl | rfl
  · obtain ⟨q1, q2⟩ := quo_even e
    have HE := Lib.hid (dart_even g e).2
    rw [HE.out]
    clear he
    generalize ((2 * e : Nat) : Int) = dd at *
    generalize (g.ends e).1 = x at *
    generalize (g.ends e).2 = y at *
    go_enter Try.func136, Try.ntmps136
    go_wp2
    go_ret
    exact ⟨rfl, HC1.out⟩
  · obtain ⟨q1, q2⟩ := quo_odd e
    have HE := Lib.hid (dart_odd g e).2
    rw [HE.out]
    clear he
    generalize ((2 * e + 1 : Nat) : Int) = dd at *
    generalize (g.ends e).1 = x at *
    generalize (g.ends e).2 = y at *
    go_enter Try.func136, Try.ntmps136
    go_wp2
    go_ret
    exact ⟨rfl, HC1.out⟩

theorem leaves_any (v : Value) (g : Plain.Gr) (d : Nat) (w : World) (hd : d / 2 < g.e.length) (hm : g.e.length < 4294967296) (h : GrAt w v g) :
    Calls Try.prog 119 #[v, .int .i64 d] w fun e w' => e = .returned (.int .i64 (g.tail d)) ∧ Chg [] w w' := by
  obtain ⟨eo, cap, rfl, -, -, -, hcell⟩ := h
  obtain ⟨b, off, rfl, hc0, hc1⟩ := hcell (d / 2) hd
  have HC1 := Lib.hid ((Chg.refl [] w).alloc (.cells #[.int .i64 g.n, .slice (some ⟨b, off, none⟩) g.e.length cap] 24))
  obtain ⟨e, he⟩ : ∃ e, d / 2 = e := ⟨_, rfl⟩
  rw [he] at hd hc0 hc1
  have c0 := fun o => cellNew hc0 o
  have c1 := fun o => cellNew hc1 o
  clear hcell hc0 hc1
  rcases (show d = 2 * e ∨ d = 2 * e + 1 by omega) with rfl | rfl
  · obtain ⟨q1, q2⟩ := quo_even e
    have HE := Lib.hid (dart_even g e).1
    rw [HE.out]
    clear he
    generalize ((2 * e : Nat) : Int) = dd at *
    generalize (g.ends e).1 = x at *
    generalize (g.ends e).2 = y at *
    go_enter Try.func119, Try.ntmps119
    go_wp2
    go_ret
    exact ⟨rfl, HC1.out⟩
  · obtain ⟨q1, q2⟩ := quo_odd e
    have HE := Lib.hid (dart_odd g e).1
    rw [HE.out]
    clear he
    generalize ((2 * e + 1 : Nat) : Int) = dd at *
    generalize (g.ends e).1 = x at *
    generalize (g.ends e).2 = y at *
    go_enter Try.func119, Try.ntmps119
    go_wp2
    go_ret
    exact ⟨rfl, HC1.out⟩

theorem tail_any (v : Value) (g : Plain.Gr) (d : Nat) (w : World) (hd : d / 2 < g.e.length) (hm : g.e.length < 4294967296) (h : GrAt w v g) :
    Calls Try.prog 95 #[v, .int .i64 d] w fun e w' => e = .returned (.int .i64 (g.tail d)) ∧ Chg [] w w' := by
  obtain ⟨eo, cap, rfl, -, -, -, hcell⟩ := h
  obtain ⟨b, off, rfl, hc0, hc1⟩ := hcell (d / 2) hd
  have HC1 := Lib.hid ((Chg.refl [] w).alloc (.cells #[.int .i64 g.n, .slice (some ⟨b, off, none⟩) g.e.length cap] 24))
  obtain ⟨e, he⟩ : ∃ e, d / 2 = e := ⟨_, rfl⟩
  rw [he] at hd hc0 hc1
  have c0 := fun o => cellNew hc0 o
  have c1 := fun o => cellNew hc1 o
  clear hcell hc0 hc1
  rcases (show d = 2 * e ∨ d = 2 * e + 1 by omega) with rfl | rfl
  · obtain ⟨q1, q2⟩ := quo_even e
    have HE := Lib.hid (dart_even g e).1
    rw [HE.out]
    clear he
    generalize ((2 * e : Nat) : Int) = dd at *
    generalize (g.ends e).1 = x at *
    generalize (g.ends e).2 = y at *
    go_enter Try.func95, Try.ntmps95
    go_wp2
    go_ret
    exact ⟨rfl, HC1.out⟩
  · obtain ⟨q1, q2⟩ := quo_odd e
    have HE := Lib.hid (dart_odd g e).1
    rw [HE.out]
    clear he
    generalize ((2 * e + 1 : Nat) : Int) = dd at *
    generalize (g.ends e).1 = x at *
    generalize (g.ends e).2 = y at *
    go_enter Try.func95, Try.ntmps95
    go_wp2
    go_ret
    exact ⟨rfl, HC1.out⟩

theorem take_snoc_mem {l : List Int} {x : Int} {k : Nat} (hk : k < l.length) : x ∈ l.take (k + 1) ↔ x ∈ l.take k ∨ l.getD k 0 = x := by
  rw [List.take_succ_eq_append_getElem hk]
  simp only [List.mem_append, List.mem_singleton, List.getD, List.getElem?_eq_getElem hk, Option.getD_some]
  exact or_congr_right eq_comm

theorem in_any (v : Value) (l : List Int) (x : Int) (w : World) (h : IntsAt w v l) :
    Calls Try.prog 26 #[v, .int .i64 x] w fun e w' => e = .returned (.bool (decide (x ∈ l))) ∧ Chg [] w w' := by
  obtain ⟨ao, cap, rfl, hsm, hm, hcell⟩ := h
  have HCE := Lib.hid hcell
  clear hsm hcell
  go_enter Try.func26, Try.ntmps26
  go_wp2
  go_loopw [5] (fun c wr => ∃ k : Nat, k ≤ l.length ∧ c = .int .i64 k ∧ Chg [] w wr ∧ Hid (x ∉ l.take k)) (fun c _ => l.length - (intOf c).toNat)
  case atStart => exact ⟨0, Nat.zero_le _, rfl, Chg.refl _ _, Lib.hid (by simp)⟩
  case round =>
    obtain ⟨k, hk, rfl, hc, hall⟩ := hrel
    have HC := Lib.hid hc
    by_cases hlt : k < l.length
    · obtain ⟨b, off, rfl, hfc⟩ := HCE.out (by intro e; rw [e] at hlt; simp at hlt)
      have c0 := hc.cell (hfc k hlt) (by simp)
      have HS := Lib.hid (take_snoc_mem (x := x) hlt)
      have HIN := Lib.hid (fun (e : l.getD k 0 = x) => (show x ∈ l from List.mem_of_mem_take ((take_snoc_mem (x := x) hlt).2 (Or.inr e))))
      clear hfc hc
      generalize l.getD k 0 = z at *
      by_cases h1 : z = x
      · have HE := Lib.hid (decide_eq_true (HIN.out h1))
        subst h1
        go_wp2
        go_ret
        exact ⟨ret_bool HE.out.symm, HC.out⟩
      · have h2 : (z == x) = false := by rw [beq_eq_false_iff_ne]; exact h1
        go_wp2
        go_roundw
        case rel => exact ⟨k + 1, by omega, by go_num, HC.out, Lib.hid (fun q => (HS.out.1 q).elim hall.out h1)⟩
        case measure => simp [intOf]; omega
    · have e : k = l.length := by omega
      subst e
      have HE := Lib.hid (decide_eq_false (by have := hall.out; rwa [List.take_length] at this))
      go_wp2
      go_ret
      exact ⟨ret_bool HE.out.symm, HC.out⟩

end Go.Proofs.Ytpbljifejopecaa
