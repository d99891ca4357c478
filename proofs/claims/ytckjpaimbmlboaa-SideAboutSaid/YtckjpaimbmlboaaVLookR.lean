/- rest.look: its contract. Conditions: a graph, a part, a plan that lie in memory and read so, of a bounded size. -/
import Derived.Test.YtckjpaimbmlboaaVRegs8
namespace Go.Proofs.Ytckjpaimbmlboaa
open Go.RowKit Go.Maps
namespace Plain
def lastAt (F : Int → Int) (cy : List Int) : Nat → Int → Option Int
 | 0 => fun _ => none
 | k + 1 => fun v => if v = F (cy.getD k 0) then some (k : Int) else lastAt F cy k v
theorem lastAt_succ (F : Int → Int) (cy : List Int) (k : Nat) : lastAt F cy (k + 1) = fun v => if v = F (cy.getD k 0) then some (k : Int) else lastAt F cy k v := rfl
theorem lastAt_none {F : Int → Int} {cy : List Int} {k : Nat} {v : Int} : lastAt F cy k v = none ↔ ∀ i, i < k → F (cy.getD i 0) ≠ v := by
 induction k with
 | zero => simp [lastAt]
 | succ k ih =>
  rw [lastAt_succ]
  constructor
  ·intro h i hi
   replace h : (if v = F (cy.getD k 0) then some (k : Int) else lastAt F cy k v) = none := h
   by_cases e : v = F (cy.getD k 0)
   ·rw [if_pos e] at h; cases h
   rw [if_neg e] at h
   by_cases hik : i < k
   ·exact ih.1 h i hik
   have : i = k := by omega
   subst this
   exact fun q => e q.symm
  intro h
  show (if v = F (cy.getD k 0) then some (k : Int) else lastAt F cy k v) = none
  rw [if_neg (fun e => h k (by omega) e.symm)]
  exact ih.2 fun i hi => h i (by omega)
def befAt (cy : List Int) (k : Nat) : Int := if k = 0 then cy.getD (cy.length - 1) 0 else cy.getD (k - 1) 0
theorem befAt_zero (cy : List Int) : befAt cy 0 = cy.getD (cy.length - 1) 0 := rfl
theorem befAt_succ (cy : List Int) (k : Nat) : befAt cy (k + 1) = cy.getD k 0 := rfl
def cycAt (g : Gr) (cy : List Int) (k : Nat) : Bool :=
 !((lastAt g.tail cy k (g.tail (cy.getD k 0))).isSome || (lastAt (· / 2) cy k (cy.getD k 0 / 2)).isSome) && decide (g.head (befAt cy k) = g.tail (cy.getD k 0))
def dartAt (p : Pt) (cy : List Int) (k : Nat) : Bool := decide (0 ≤ cy.getD k 0 ∧ cy.getD k 0 / 2 ∈ p.e)
def cycOk (g : Gr) (p : Pt) (cy : List Int) : Bool := decide (p.err g = 0) && !cy.isEmpty && (List.range cy.length).all (dartAt p cy) && (List.range cy.length).all (cycAt g cy)
theorem all_stop {f : Nat → Bool} {n k : Nat} (hk : k < n) (h : f k = false) : (List.range n).all f = false := by
 rw [List.all_eq_false]
 exact ⟨k, List.mem_range.2 hk, by simp [h]⟩
theorem all_go {f : Nat → Bool} {n : Nat} (h : ∀ i, i < n → f i = true) : (List.range n).all f = true := List.all_eq_true.2 fun i hi => h i (List.mem_range.1 hi)
theorem cyc_err {g : Gr} {p : Pt} {cy : List Int} (h : p.err g ≠ 0) : cycOk g p cy = false := by simp [cycOk, h]
theorem cyc_nil {g : Gr} {p : Pt} : cycOk g p [] = false := by simp [cycOk]
theorem cyc_dart {g : Gr} {p : Pt} {cy : List Int} {k : Nat} (hk : k < cy.length) (h : dartAt p cy k = false) : cycOk g p cy = false := by
 unfold cycOk; rw [all_stop hk h]; simp
theorem cyc_at {g : Gr} {p : Pt} {cy : List Int} {k : Nat} (hk : k < cy.length) (h : cycAt g cy k = false) : cycOk g p cy = false := by
 unfold cycOk; rw [all_stop hk h]; simp
theorem cyc_ok {g : Gr} {p : Pt} {cy : List Int} (h0 : p.err g = 0) (h1 : 0 < cy.length) (h2 : ∀ k, k < cy.length → dartAt p cy k = true) (h3 : ∀ k, k < cy.length → cycAt g cy k = true) : cycOk g p cy = true := by
 unfold cycOk
 rw [all_go h2, all_go h3, decide_eq_true h0]
 cases cy with
 | nil => simp at h1
 | cons a l => rfl
end Plain
theorem leavesS_any (v : Value) (g : Plain.Gr) (d : Nat) (w : World) (hd : d / 2 < g.e.length) (hm : g.e.length < 4294967296) (h : GrAt w v g) :
  Calls Try.prog 50 #[v, .int .i64 d] w fun e w' => e = .returned (.int .i64 (g.tail d)) ∧ Chg [] w w' := by
 obtain ⟨eo, cap, rfl, -, -, -, hcell⟩ := h
 obtain ⟨b, off, rfl, hc0, hc1⟩ := hcell (d / 2) hd
 have HC1 := Lib.hid ((Chg.refl [] w).alloc (.cells #[.int .i64 g.n, .slice (some ⟨b, off, none⟩) g.e.length cap] 24))
 obtain ⟨e, he⟩ : ∃ e, d / 2 = e := ⟨_, rfl⟩
 rw [he] at hd hc0 hc1
 have c0 := fun o => cellNew hc0 o
 have c1 := fun o => cellNew hc1 o
 clear hcell hc0 hc1
 rcases (show d = 2 * e ∨ d = 2 * e + 1 by omega) with rfl | rfl
 ·obtain ⟨q1, q2⟩ := quo_even e
  have HE := Lib.hid (dart_even g e).1
  rw [HE.out]
  clear he
  generalize ((2 * e : Nat) : Int) = dd at *
  generalize (g.ends e).1 = x at *
  generalize (g.ends e).2 = y at *
  go_enter Try.func50, Try.ntmps50
  go_wp2
  go_ret
  exact ⟨rfl, HC1.out⟩
 obtain ⟨q1, q2⟩ := quo_odd e
 have HE := Lib.hid (dart_odd g e).1
 rw [HE.out]
 clear he
 generalize ((2 * e + 1 : Nat) : Int) = dd at *
 generalize (g.ends e).1 = x at *
 generalize (g.ends e).2 = y at *
 go_enter Try.func50, Try.ntmps50
 go_wp2
 go_ret
 exact ⟨rfl, HC1.out⟩
end Go.Proofs.Ytckjpaimbmlboaa
