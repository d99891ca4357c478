/- package plan: the contract of owners: which piece has which walk. Conditions: turns that are turns; lists that lie in memory and read so, of a bounded size. -/
import Derived.Test.YtpcgklagmcnhaaaGreatT8Pieces
import Derived.Shelf.SlSortCmp.Whole1
-- READS ONLY
namespace Go.Proofs.YtpcgklagmcnhaaaGreat
open Go.RowKit Go.Maps
namespace Plain
end Plain
end Go.Proofs.YtpcgklagmcnhaaaGreat
namespace Go.Proofs.YtpcgklagmcnhaaaGreat
namespace Plain
def listBad (same : List (List Int)) (i : Nat) : Prop := (same.getD i []).length < 2 ∨ (0 < i ∧ (same.getD i []).getD 0 0 ≤ (same.getD (i - 1) []).getD 0 0)
instance (same : List (List Int)) (i : Nat) : Decidable (listBad same i) := by unfold listBad; infer_instance
def upTo (n : Nat) : List Int := (List.range n).map fun (i : Nat) => (i : Int)
end Plain
end Go.Proofs.YtpcgklagmcnhaaaGreat
namespace Go.Proofs.YtpcgklagmcnhaaaGreat
open Go.RowKit Go.Maps
theorem heap_lt {w : World} {b : Nat} {o : Obj} (h : w.heap[b]? = some o) : b < w.heap.size := (Array.getElem?_eq_some_iff.1 h).1
theorem owns_lt {w : World} {v : Value} {n : Nat} {xs : List Value} {e : TypeId} {size base : Nat} (h : w.ownsRow base e size v n xs) {b : Nat} (hb : v.ownBlock = some b) : b < w.heap.size := by
 rcases h.2 with ⟨rfl, rfl⟩ | ⟨g, cap, cur, rfl, -, hh, -⟩
 ·cases hb
 cases hb; exact heap_lt hh
theorem SetsObj.lt {w : World} {own : List Nat} {pb : Nat} {s : St} (h : SetsObj w pb own s) : ∀ j ∈ own, j < w.heap.size := by
 obtain ⟨mb, tv, uv, up, h, rfl⟩ := h
 intro j hj
 simp only [SetsAt.blocks, List.mem_append, List.mem_cons, List.not_mem_nil, or_false, Option.mem_toList] at hj
 rcases hj with ((rfl | rfl) | q) | q
 ·exact heap_lt h.cells
 ·exact h.map.lt
 ·exact owns_lt h.things q
 exact owns_lt h.ups q
end Go.Proofs.YtpcgklagmcnhaaaGreat
-- READS ONLY
namespace Go.Proofs.YtpcgklagmcnhaaaGreat
open Go.RowKit Go.Maps
section
open Go.Sort
variable {α : Type} [Inhabited α]
theorem sorted_heap {enc : α → Value} {w : World} {g n : Nat} {os : Array Obj} {cur : Array Value} {e : TypeId} {fr : Nat × Nat} (d : Array α) (hb : w.heap[g]? = some (.cells cur e fr)) :
  (sortWorld enc w g 0 n d os).heap[g]? = some (.cells (putCells enc 0 d cur) e fr) := by
 have hg : g < w.heap.size := (Array.getElem?_eq_some_iff.1 hb).1
 unfold sortWorld
 rw [heap_grow_old _ _ (by simpa using hg)]
 simp [putRow, mapBlock, Sort.ahead, Array.getElem?_modify, hb, onCells]
theorem sorted_chg (enc : α → Value) (w : World) (g n : Nat) (os : Array Obj) (d : Array α) : Chg [g] w (sortWorld enc w g 0 n d os) := by
 refine ⟨rfl, rfl, rfl, by simp [sortWorld], fun k hk hne => ?_⟩
 unfold sortWorld
 rw [heap_grow_old _ _ (by simpa using hk)]
 have : g ≠ k := fun e => hne (by simp [e])
 simp [putRow, mapBlock, Sort.ahead, Array.getElem?_modify, this]
theorem sorted_take (enc : α → Value) (cur : Array Value) (d : Array α) (h : d.size ≤ cur.size) : (putCells enc 0 d cur).toList.take d.size = d.toList.map enc := by
 apply List.ext_getElem?
 intro j
 by_cases hj : j < d.size
 ·rw [List.getElem?_take_of_lt hj, Array.getElem?_toList]
  simp [putCells, hj, show j < cur.size by omega]
 all_goals grind
theorem sorted_owns {enc : α → Value} {w : World} {base g cap n : Nat} {e : TypeId} {os : Array Obj} {xs : List Value} {d : Array α} (h : w.ownsRow base e 1 (.slice (some ⟨g, 0, none⟩) xs.length cap) xs.length xs) (hd : d.size = xs.length) :
  (sortWorld enc w g 0 n d os).ownsRow base e 1 (.slice (some ⟨g, 0, none⟩) xs.length cap) xs.length (d.toList.map enc) := by
 rcases h.2 with ⟨h, -⟩ | ⟨g', cap', cur, hv, hg, hh, h1, h2, h3, h4⟩
 ·cases h
 cases hv
 exact ⟨by simp [hd], .inr ⟨g, cap, _, rfl, hg, sorted_heap d hh, h1, h2, by simp [putCells, h3], by rw [Nat.mul_one, ← hd]; exact sorted_take enc cur d (by omega)⟩⟩
theorem sorted_holds {enc : α → Value} {w : World} {base g cap : Nat} {e : TypeId} {xs : List Value} {d : Array α} (h : w.ownsRow base e 1 (.slice (some ⟨g, 0, none⟩) xs.length cap) xs.length xs) (hd : d.toList.map enc = xs) : Holds enc w g 0 d := by
 have hs : d.size = xs.length := by rw [← hd]; simp
 rcases h.2 with ⟨h, -⟩ | ⟨g', cap', cur, hv, hg, hh, h1, h2, h3, h4⟩
 ·cases h
 cases hv
 intro j hj
 refine ⟨?_, by simp [World.frozen?, hh]⟩
 have e1 : (cur.toList.take (xs.length * 1))[j]? = xs[j]? := by rw [h4]
 rw [List.getElem?_take_of_lt (by omega)] at e1
 simp only [World.cell?, hh, Nat.zero_add, Option.isSome_none, Bool.false_eq_true, if_false]
 rw [← Array.getElem?_toList, e1, ← hd]
 simp [hj]
end
theorem nan_any (x : Int) (w : World) : Calls Tryz.prog 116 #[.int .i64 x] w fun e w' => e = .returned (.bool false) ∧ w = w' := by
 have b1 : (x != x) = false := by simp
 go_enter Tryz.func116, Tryz.ntmps116
 go_wp2
 go_ret
 exact ⟨rfl, rfl⟩
theorem compare_any (x y : Int) (w : World) : Calls Tryz.prog 69 #[.int .i64 x, .int .i64 y] w fun e w' => e = .returned (.int .i64 (Lib.compareInt x y)) ∧ w = w' := by
 have HC := Lib.hid (show Lib.compareInt x y = if x < y then -1 else if y < x then 1 else 0 from rfl)
 go_enter Tryz.func69, Tryz.ntmps69
 go_wp2_with fail
 refine (nan_any x _).mono ?_
 rintro e w1 ⟨rfl, rfl⟩
 go_wp2_with fail
 refine (nan_any y _).mono ?_
 rintro e w1 ⟨rfl, rfl⟩
 by_cases h1 : x < y
 ·have HR := Lib.hid (show Lib.compareInt x y = -1 by rw [HC.out, if_pos h1])
  have b1 : decide (x < y) = true := decide_eq_true h1
  go_wp2
  go_ret
  exact ⟨ret_int HR.out.symm, rfl⟩
 by_cases h2 : y < x
 ·have HR := Lib.hid (show Lib.compareInt x y = 1 by rw [HC.out, if_neg h1, if_pos h2])
  have b1 : decide (x < y) = false := decide_eq_false h1
  have b2 : decide (x > y) = true := decide_eq_true h2
  go_wp2
  go_ret
  exact ⟨ret_int HR.out.symm, rfl⟩
 have HR := Lib.hid (show Lib.compareInt x y = 0 by rw [HC.out, if_neg h1, if_neg h2])
 have b1 : decide (x < y) = false := decide_eq_false h1
 have b2 : decide (x > y) = false := decide_eq_false h2
 go_wp2
 go_ret
 exact ⟨ret_int HR.out.symm, rfl⟩
end Go.Proofs.YtpcgklagmcnhaaaGreat
