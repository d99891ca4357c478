/- side.All: its contract. Conditions: a graph, a part, a plan, a list of ints that lie in memory and read so, of a bounded size. -/
import Derived.Test.YtckjpaimbmlboaaVSidesS
namespace Go.Proofs.Ytckjpaimbmlboaa
open Go.RowKit Go.Maps
namespace Plain
end Plain
namespace Plain
end Plain
theorem alloc_at (w : World) (o : Obj) (n : Nat) (h : w.heap.size = n) : (w.alloc o).heap[n]? = some o ∧ (w.alloc o).heap.size = n + 1 ∧ ∀ (b : Nat) (o' : Obj), w.heap[b]? = some o' → (w.alloc o).heap[b]? = some o' := by
 subst h
 exact ⟨heap_alloc_new w o, by simp, fun b o' hb => ((Chg.refl [] w).alloc o).heap hb (by simp)⟩
theorem ints_two {w : World} {b : Nat} {x y : Int} (h : w.heap[b]? = some (.cells #[.int .i64 x, .int .i64 y] 3)) (hx : I64 x) (hy : I64 y) : IntsAt w (.slice (some ⟨b, 0, none⟩) 2 2) [x, y] := by
 refine ⟨_, 2, rfl, by simp [hx, hy], by simp, fun _ => ⟨b, 0, rfl, fun i hi => ?_⟩⟩
 simp at hi
 rw [cell_of_row _ _ _ _ _ _ h]
 rcases i with _ | _ | i
 ·rfl
 ·rfl
 omega
theorem capOk (b n : Nat) (h : n ≤ 100) : CapOk (.slice (some ⟨b, 0, none⟩) n n) := ⟨_, n, n, rfl, Nat.le_refl _, by omega⟩
theorem gr_tri {w : World} {b : Nat} (h : w.heap[b]? = some (.cells #[.int .i64 0, .int .i64 1, .int .i64 1, .int .i64 2, .int .i64 2, .int .i64 0] 79)) : GrAt w (.agg #[.int .i64 4, .slice (some ⟨b, 0, none⟩) 3 3]) Plain.g1 := by
 have hc := fun i => cell_of_row w b i _ _ _ h
 refine ⟨_, 3, rfl, I64.mk (by decide) (by decide), by decide, fun i hi => ?_, fun i hi => ⟨b, 0, rfl, ?_⟩⟩
 ·have hi : i < 3 := hi
  rcases (show i = 0 ∨ i = 1 ∨ i = 2 by omega) with rfl | rfl | rfl
  ·exact ⟨I64.mk (by decide) (by decide), I64.mk (by decide) (by decide)⟩
  ·exact ⟨I64.mk (by decide) (by decide), I64.mk (by decide) (by decide)⟩
  exact ⟨I64.mk (by decide) (by decide), I64.mk (by decide) (by decide)⟩
 have hi : i < 3 := hi
 rcases (show i = 0 ∨ i = 1 ∨ i = 2 by omega) with rfl | rfl | rfl
 ·exact ⟨(hc 0).trans rfl, (hc 1).trans rfl⟩
 ·exact ⟨(hc 2).trans rfl, (hc 3).trans rfl⟩
 exact ⟨(hc 4).trans rfl, (hc 5).trans rfl⟩
theorem pl_tri {w : World} {b0 b1 b2 b3 b4 b5 : Nat} {k : Int} (hk : I64 k) (h0 : w.heap[b0]? = some (.cells #[.int .i64 0, .int .i64 5] 3)) (h1 : w.heap[b1]? = some (.cells #[.int .i64 1, .int .i64 2] 3)) (h2 : w.heap[b2]? = some (.cells #[.int .i64 3, .int .i64 4] 3))
  (h3 : w.heap[b3]? = some (.cells #[.slice (some ⟨b0, 0, none⟩) 2 2, .slice (some ⟨b1, 0, none⟩) 2 2, .slice (some ⟨b2, 0, none⟩) 2 2, .slice none 0 0] 25)) (h4 : w.heap[b4]? = some (.cells #[.int .i64 (-4), .int .i64 k] 3)) (h5 : w.heap[b5]? = some (.cells #[.slice (some ⟨b4, 0, none⟩) 2 2] 25)) :
  PlAt w (.agg #[.slice (some ⟨b3, 0, none⟩) 4 4, .slice (some ⟨b5, 0, none⟩) 1 1]) Plain.t1 [[-4, k]] := by
 have i0 : ∀ x : Int, -100 ≤ x → x ≤ 100 → I64 x := fun x a b => I64.mk (by omega) (by omega)
 have hc3 := fun i => cell_of_row w b3 i _ _ _ h3
 have hc5 := fun i => cell_of_row w b5 i _ _ _ h5
 refine ⟨_, _, rfl, ⟨_, 4, rfl, by decide, fun i hi => ?_⟩, ⟨_, 1, rfl, by simp, fun i hi => ?_⟩⟩
 ·have hi : i < 4 := hi
  rcases (show i = 0 ∨ i = 1 ∨ i = 2 ∨ i = 3 by omega) with rfl | rfl | rfl | rfl
  ·exact ⟨b3, 0, _, rfl, (hc3 0).trans rfl, capOk _ _ (by decide), ints_two h0 (i0 _ (by decide) (by decide)) (i0 _ (by decide) (by decide))⟩
  ·exact ⟨b3, 0, _, rfl, (hc3 1).trans rfl, capOk _ _ (by decide), ints_two h1 (i0 _ (by decide) (by decide)) (i0 _ (by decide) (by decide))⟩
  ·exact ⟨b3, 0, _, rfl, (hc3 2).trans rfl, capOk _ _ (by decide), ints_two h2 (i0 _ (by decide) (by decide)) (i0 _ (by decide) (by decide))⟩
  exact ⟨b3, 0, _, rfl, (hc3 3).trans rfl, ⟨none, 0, 0, rfl, by decide, by decide⟩, IntsAt.nil _⟩
 have hi : i < 1 := by simpa using hi
 obtain rfl : i = 0 := by omega
 exact ⟨b5, 0, _, rfl, (hc5 0).trans rfl, capOk _ _ (by decide), ints_two h4 (i0 _ (by decide) (by decide)) hk⟩
end Go.Proofs.Ytckjpaimbmlboaa
namespace Go.Proofs.Ytckjpaimbmlboaa
open Go.RowKit Go.Maps
namespace Plain
end Plain
namespace Plain
end Plain
namespace Plain
def nearAt (L : Int → Option Int) (M : List Int) (j : Nat) (e : Int) : Prop := (lf L (2 * e) = M.getD j 0 → lf L (2 * e + 1) ∈ M) ∧ (lf L (2 * e + 1) = M.getD j 0 → lf L (2 * e) ∈ M)
structure LeftsAt (L : Int → Option Int) (p : Pt) (cy : List Int) (M : List Int) (i k : Nat) : Prop where
 head : sideHead L cy ∈ M
 nodup : M.Nodup
 low : ∀ r ∈ M, 0 ≤ r ∧ r ≤ 10000
 rel : ∀ r ∈ M, sideRel L p cy r (sideHead L cy)
 done : ∀ j, j < i → ∀ e ∈ p.e, e ∉ cy.map (· / 2) → nearAt L M j e
 now : ∀ q, q < k → p.e.getD q 0 ∉ cy.map (· / 2) → nearAt L M i (p.e.getD q 0)
theorem left_dart {g : Gr} {p : Pt} {turn same : List (List Int)} (hz : planErr g p turn same = 0) {d : Int} (hd : d ∈ p.darts) : (leftOf (regionsOf g p turn same) (walksOf g p turn) d).isSome = true := by
 obtain ⟨hpe, hto⟩ := turnErr_zero (flatErr_zero (planErr_zero hz).1).1
 exact (left_next _ hpe (walks_ok hpe hto) hd).2
end Plain
end Go.Proofs.Ytckjpaimbmlboaa
namespace Go.Proofs.Ytckjpaimbmlboaa
open Go.RowKit Go.Maps
namespace Plain
theorem left_marks {g : Gr} {p : Pt} {turn : List (List Int)} {W : List Face} (ll : List (List Int)) (hpe : p.err g = 0) (hW : WalksOk g p turn W) {f : Face} (hf : f ∈ W) {y : Int} (hy : y ∈ marks f) : (leftOf ll W y).isSome = true := by
 obtain ⟨i, hi, hfi⟩ := List.getElem_of_mem hf
 have hp8 := places8_getD hi
 rw [show W.getD i (0, []) = f by simp [List.getD, hi, hfi]] at hp8
 unfold leftOf
 rw [regionAt_hit (places_nodup hpe hW) (by rw [places8_len]; exact hi) (by rw [hp8]; exact hy)]
 rfl
theorem turn_none {g : Gr} {p : Pt} {turn : List (List Int)} (ht : TurnsOk g p turn) {v : Int} (h0 : 0 ≤ v) (hv : v < g.n) (h : dartsAt g p v = []) : turnAt turn v = [] := by
 cases e : turnAt turn v with
 | nil => rfl
 | cons d l =>
  have := (ht.mem v h0 hv d).1 (by rw [e]; simp)
  have := mem_dartsAt.2 this
  rw [h] at this
  cases this
theorem left_lone {g : Gr} {p : Pt} {turn same : List (List Int)} (hz : planErr g p turn same = 0) {v : Int} (hv : v ∈ p.v) (h : dartsAt g p v = []) : (leftOf (regionsOf g p turn same) (walksOf g p turn) (-1 - v)).isSome = true := by
 obtain ⟨hpe, hto⟩ := turnErr_zero (flatErr_zero (planErr_zero hz).1).1
 have hW := walks_ok hpe hto
 have hvr := (Pt.ok_of_err hpe).vr v hv
 obtain ⟨F, e, -⟩ := hW.split
 refine left_marks _ hpe hW (f := (-1 - v, [])) ?_ (by rw [marks_nil rfl]; simp)
 rw [e]
 refine List.mem_append.2 (Or.inl (List.mem_map.2 ⟨v, List.mem_filter.2 ⟨List.mem_reverse.2 hv, ?_⟩, rfl⟩))
 rw [turn_none hto hvr.1 hvr.2 h]; rfl
end Plain
end Go.Proofs.Ytckjpaimbmlboaa
