/- Memory of the triangle and its drawing, as awake lays it. Condition: one place of the drawing's list is an int. -/
import Derived.Test.YtfgbkpbakignhaaVTurnP
import Derived.Test.YtfgbkpbakignhaaVWhole
import Derived.Test.YtfgbkpbakignhaaVMisc
import Derived.Test.YtfgbkpbakignhaaVSmall
import Derived.Test.YtfgbkpbakignhaaVMem
namespace Go.Proofs.Ytfgbkpbakignhaa
open Go.RowKit Go.Maps

theorem alloc_at (w : World) (o : Obj) (n : Nat) (h : w.heap.size = n) : (w.alloc o).heap[n]? = some o ∧ (w.alloc o).heap.size = n + 1 ∧ ∀ (b : Nat) (o' : Obj), w.heap[b]? = some o' → (w.alloc o).heap[b]? = some o' := by
  subst h
  exact ⟨heap_alloc_new w o, by simp, fun b o' hb => ((Chg.refl [] w).alloc o).heap hb (by simp)⟩
theorem ints_two {w : World} {b : Nat} {x y : Int} (h : w.heap[b]? = some (.cells #[.int .i64 x, .int .i64 y] 3)) (hx : I64 x) (hy : I64 y) : IntsAt w (.slice (some ⟨b, 0, none⟩) 2 2) [x, y] := by
  refine ⟨_, 2, rfl, by simp [hx, hy], by simp, fun _ => ⟨b, 0, rfl, fun i hi => ?_⟩⟩
  simp at hi
  rw [cell_of_row _ _ _ _ _ _ h]
  rcases i with _ | _ | i
  · rfl
  · rfl
  · omega
theorem ints_three {w : World} {b : Nat} {x y z : Int} (h : w.heap[b]? = some (.cells #[.int .i64 x, .int .i64 y, .int .i64 z] 3)) (hx : I64 x) (hy : I64 y) (hz : I64 z) : IntsAt w (.slice (some ⟨b, 0, none⟩) 3 3) [x, y, z] := by
  refine ⟨_, 3, rfl, by simp [hx, hy, hz], by simp, fun _ => ⟨b, 0, rfl, fun i hi => ?_⟩⟩
  simp at hi
  rw [cell_of_row _ _ _ _ _ _ h]
  rcases i with _ | _ | _ | i
  · rfl
  · rfl
  · rfl
  · omega
theorem lit_three (w : World) {x y z : Int} (hx : I64 x) (hy : I64 y) (hz : I64 z) : IntsAt (w.alloc (.cells #[.int .i64 x, .int .i64 y, .int .i64 z] 3)) (.slice (some ⟨w.heap.size, 0, none⟩) 3 3) [x, y, z] := ints_three (heap_alloc_new w _) hx hy hz
theorem capOk (b n : Nat) (h : n ≤ 100) : CapOk (.slice (some ⟨b, 0, none⟩) n n) := ⟨_, n, n, rfl, Nat.le_refl _, by omega⟩
theorem gr_tri {w : World} {b : Nat} (h : w.heap[b]? = some (.cells #[.int .i64 0, .int .i64 1, .int .i64 1, .int .i64 2, .int .i64 2, .int .i64 0] 42)) : GrAt w (.agg #[.int .i64 4, .slice (some ⟨b, 0, none⟩) 3 3]) Plain.g1 := by
  have hc := fun i => cell_of_row w b i _ _ _ h
  refine ⟨_, 3, rfl, I64.mk (by decide) (by decide), by decide, fun i hi => ?_, fun i hi => ⟨b, 0, rfl, ?_⟩⟩
  · have hi : i < 3 := hi
    rcases (show i = 0 ∨ i = 1 ∨ i = 2 by omega) with rfl | rfl | rfl
    · exact ⟨I64.mk (by decide) (by decide), I64.mk (by decide) (by decide)⟩
    · exact ⟨I64.mk (by decide) (by decide), I64.mk (by decide) (by decide)⟩
    · exact ⟨I64.mk (by decide) (by decide), I64.mk (by decide) (by decide)⟩
  · have hi : i < 3 := hi
    rcases (show i = 0 ∨ i = 1 ∨ i = 2 by omega) with rfl | rfl | rfl
    · exact ⟨(hc 0).trans rfl, (hc 1).trans rfl⟩
    · exact ⟨(hc 2).trans rfl, (hc 3).trans rfl⟩
    · exact ⟨(hc 4).trans rfl, (hc 5).trans rfl⟩
theorem pl_tri {w : World} {b0 b1 b2 b3 b4 b5 : Nat} {k : Int} (hk : I64 k) (h0 : w.heap[b0]? = some (.cells #[.int .i64 0, .int .i64 5] 3)) (h1 : w.heap[b1]? = some (.cells #[.int .i64 1, .int .i64 2] 3)) (h2 : w.heap[b2]? = some (.cells #[.int .i64 3, .int .i64 4] 3))
    (h3 : w.heap[b3]? = some (.cells #[.slice (some ⟨b0, 0, none⟩) 2 2, .slice (some ⟨b1, 0, none⟩) 2 2, .slice (some ⟨b2, 0, none⟩) 2 2, .slice none 0 0] 25)) (h4 : w.heap[b4]? = some (.cells #[.int .i64 (-4), .int .i64 k] 3)) (h5 : w.heap[b5]? = some (.cells #[.slice (some ⟨b4, 0, none⟩) 2 2] 25)) :
    PlAt w (.agg #[.slice (some ⟨b3, 0, none⟩) 4 4, .slice (some ⟨b5, 0, none⟩) 1 1]) Plain.t1 [[-4, k]] := by
  have i0 : ∀ x : Int, -100 ≤ x → x ≤ 100 → I64 x := fun x a b => I64.mk (by omega) (by omega)
  have hc3 := fun i => cell_of_row w b3 i _ _ _ h3
  have hc5 := fun i => cell_of_row w b5 i _ _ _ h5
  refine ⟨_, _, rfl, ⟨_, 4, rfl, by decide, fun i hi => ?_⟩, ⟨_, 1, rfl, by simp, fun i hi => ?_⟩⟩
  · have hi : i < 4 := hi
    rcases (show i = 0 ∨ i = 1 ∨ i = 2 ∨ i = 3 by omega) with rfl | rfl | rfl | rfl
    · exact ⟨b3, 0, _, rfl, (hc3 0).trans rfl, capOk _ _ (by decide), ints_two h0 (i0 _ (by decide) (by decide)) (i0 _ (by decide) (by decide))⟩
    · exact ⟨b3, 0, _, rfl, (hc3 1).trans rfl, capOk _ _ (by decide), ints_two h1 (i0 _ (by decide) (by decide)) (i0 _ (by decide) (by decide))⟩
    · exact ⟨b3, 0, _, rfl, (hc3 2).trans rfl, capOk _ _ (by decide), ints_two h2 (i0 _ (by decide) (by decide)) (i0 _ (by decide) (by decide))⟩
    · exact ⟨b3, 0, _, rfl, (hc3 3).trans rfl, ⟨none, 0, 0, rfl, by decide, by decide⟩, IntsAt.nil _⟩
  · have hi : i < 1 := by simpa using hi
    obtain rfl : i = 0 := by omega
    exact ⟨b5, 0, _, rfl, (hc5 0).trans rfl, capOk _ _ (by decide), ints_two h4 (i0 _ (by decide) (by decide)) hk⟩
end Go.Proofs.Ytfgbkpbakignhaa
/- What a cycle of darts is, plainly; the contract of side.leaves. Conditions: a graph that lies in memory and reads so; a dart of it. -/
namespace Go.Proofs.Ytfgbkpbakignhaa
open Go.RowKit Go.Maps

namespace Plain
/-- At which of the first k places of a list a value of F is met first from behind. -/
def lastAt (F : Int → Int) (cy : List Int) : Nat → Int → Option Int
  | 0 => fun _ => none
  | k + 1 => fun v => if v = F (cy.getD k 0) then some (k : Int) else lastAt F cy k v
theorem lastAt_zero (F : Int → Int) (cy : List Int) : lastAt F cy 0 = fun _ => none := rfl
theorem lastAt_succ (F : Int → Int) (cy : List Int) (k : Nat) : lastAt F cy (k + 1) = fun v => if v = F (cy.getD k 0) then some (k : Int) else lastAt F cy k v := rfl
theorem lastAt_none {F : Int → Int} {cy : List Int} {k : Nat} {v : Int} : lastAt F cy k v = none ↔ ∀ i, i < k → F (cy.getD i 0) ≠ v := by
  induction k with
  | zero => simp [lastAt]
  | succ k ih =>
    rw [lastAt_succ]
    constructor
    · intro h i hi
      replace h : (if v = F (cy.getD k 0) then some (k : Int) else lastAt F cy k v) = none := h
      by_cases e : v = F (cy.getD k 0)
      · rw [if_pos e] at h; cases h
      · rw [if_neg e] at h
        by_cases hik : i < k
        · exact ih.1 h i hik
        · have : i = k := by omega
          subst this
          exact fun q => e q.symm
    · intro h
      show (if v = F (cy.getD k 0) then some (k : Int) else lastAt F cy k v) = none
      rw [if_neg (fun e => h k (by omega) e.symm)]
      exact ih.2 fun i hi => h i (by omega)

/-- The dart ahead of place k, around. -/
def befAt (cy : List Int) (k : Nat) : Int := if k = 0 then cy.getD (cy.length - 1) 0 else cy.getD (k - 1) 0
theorem befAt_zero (cy : List Int) : befAt cy 0 = cy.getD (cy.length - 1) 0 := rfl
theorem befAt_succ (cy : List Int) (k : Nat) : befAt cy (k + 1) = cy.getD k 0 := rfl
/-- Place k goes on from the place ahead and meets neither a vertex nor an edge anew. -/
def cycAt (g : Gr) (cy : List Int) (k : Nat) : Bool :=
  !((lastAt g.tail cy k (g.tail (cy.getD k 0))).isSome || (lastAt (· / 2) cy k (cy.getD k 0 / 2)).isSome) && decide (g.head (befAt cy k) = g.tail (cy.getD k 0))
def dartAt (p : Pt) (cy : List Int) (k : Nat) : Bool := decide (0 ≤ cy.getD k 0 ∧ cy.getD k 0 / 2 ∈ p.e)
/-- A cycle of the part. -/
def cycOk (g : Gr) (p : Pt) (cy : List Int) : Bool := decide (p.err g = 0) && !cy.isEmpty && (List.range cy.length).all (dartAt p cy) && (List.range cy.length).all (cycAt g cy)

theorem all_stop {f : Nat → Bool} {n k : Nat} (hk : k < n) (h : f k = false) : (List.range n).all f = false := by
  rw [List.all_eq_false]
  exact ⟨k, List.mem_range.2 hk, by simp [h]⟩
theorem all_go {f : Nat → Bool} {n : Nat} (h : ∀ i, i < n → f i = true) : (List.range n).all f = true := List.all_eq_true.2 fun i hi => h i (List.mem_range.1 hi)
theorem cyc_err {g : Gr} {p : Pt} {cy : List Int} (h : p.err g ≠ 0) : cycOk g p cy = false := by simp [cycOk, h]
theorem cyc_nil {g : Gr} {p : Pt} : cycOk g p [] = false := by simp [cycOk]
theorem cyc_dart {g : Gr} {p : Pt} {cy : List Int} {k : Nat} (hk : k < cy.length) (h : dartAt p cy k = false) : cycOk g p cy = false := by
  unfold cycOk; rw [all_stop hk h]; simp
theorem cyc_at {g : Gr} {p : Pt} {cy : List Int} {k : Nat} (hk : k < cy.length) (h : cycAt g cy k = false) : cycOk g p cy = false := by
  unfold cycOk; rw [all_stop hk h]; simp
theorem cyc_ok {g : Gr} {p : Pt} {cy : List Int} (h0 : p.err g = 0) (h1 : 0 < cy.length) (h2 : ∀ k, k < cy.length → dartAt p cy k = true) (h3 : ∀ k, k < cy.length → cycAt g cy k = true) : cycOk g p cy = true := by
  unfold cycOk
  rw [all_go h2, all_go h3, decide_eq_true h0]
  cases cy with
  | nil => simp at h1
  | cons a l => rfl
end Plain

theorem leavesS_any (v : Value) (g : Plain.Gr) (d : Nat) (w : World) (hd : d / 2 < g.e.length) (hm : g.e.length < 4294967296) (h : GrAt w v g) :
    Calls Try.prog 21 #[v, .int .i64 d] w fun e w' => e = .returned (.int .i64 (g.tail d)) ∧ Chg [] w w' := by
  obtain ⟨eo, cap, rfl, -, -, -, hcell⟩ := h
  obtain ⟨b, off, rfl, hc0, hc1⟩ := hcell (d / 2) hd
  have HC1 := Lib.hid ((Chg.refl [] w).alloc (.cells #[.int .i64 g.n, .slice (some ⟨b, off, none⟩) g.e.length cap] 24))
  obtain ⟨e, he⟩ : ∃ e, d / 2 = e := ⟨_, rfl⟩
  rw [he] at hd hc0 hc1
  have c0 := fun o => cellNew hc0 o
  have c1 := fun o => cellNew hc1 o
  clear hcell hc0 hc1
  rcases (show d = 2 * e ∨ d = 2 * e + 1 by omega) with rfl | rfl
  · obtain ⟨q1, q2⟩ := quo_even e
    have HE := Lib.hid (dart_even g e).1
    rw [HE.out]
    clear he
    generalize ((2 * e : Nat) : Int) = dd at *
    generalize (g.ends e).1 = x at *
    generalize (g.ends e).2 = y at *
    go_enter Try.func21, Try.ntmps21
    go_wp2
    go_ret
    exact ⟨rfl, HC1.out⟩
  · obtain ⟨q1, q2⟩ := quo_odd e
    have HE := Lib.hid (dart_odd g e).1
    rw [HE.out]
    clear he
    generalize ((2 * e + 1 : Nat) : Int) = dd at *
    generalize (g.ends e).1 = x at *
    generalize (g.ends e).2 = y at *
    go_enter Try.func21, Try.ntmps21
    go_wp2
    go_ret
    exact ⟨rfl, HC1.out⟩
end Go.Proofs.Ytfgbkpbakignhaa
