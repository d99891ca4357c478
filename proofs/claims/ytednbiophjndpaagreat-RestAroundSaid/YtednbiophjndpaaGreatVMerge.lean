/- graph.merge, And, Or: contracts. Conditions: rising lists, parts that lie in memory and read so. -/
import Derived.Test.YtednbiophjndpaaGreatVRef09
namespace Go.Proofs.YtednbiophjndpaaGreat
open Go.RowKit Go.Maps
namespace Plain
def mergeL (one : Bool) : List Int → List Int → List Int
 | [], b => if one then b else []
 | x :: a, [] => if one then x :: a else []
 | x :: a, y :: b => if x < y then (if one then x :: mergeL one a (y :: b) else mergeL one a (y :: b)) else if y < x then (if one then y :: mergeL one (x :: a) b else mergeL one (x :: a) b) else x :: mergeL one a b
termination_by a b => a.length + b.length
theorem mergeL_one : ∀ a b : List Int, mergeL true a b = orL a b
 | [], b => by simp [mergeL, orL]
 | x :: a, [] => by simp [mergeL, orL]
 | x :: a, y :: b => by
  rw [mergeL, orL, mergeL_one a (y :: b), mergeL_one (x :: a) b, mergeL_one a b]
  by_cases h : x < y
  ·have e1 : x ≤ y := by omega
   have e2 : ¬ x = y := by omega
   simp [h, e1, e2]
  by_cases h2 : y < x
  ·have e1 : ¬ x ≤ y := by omega
   simp [h, h2, e1]
  obtain rfl : x = y := by omega
  simp
termination_by a b => a.length + b.length
theorem rise_eq : ∀ {l m : List Int}, l.Pairwise (· < ·) → m.Pairwise (· < ·) → (∀ x, x ∈ l ↔ x ∈ m) → l = m := by
 intro l m hl hm h
 have hp : l.Perm m := (List.perm_ext_iff_of_nodup (hl.imp fun h => by omega) (hm.imp fun h => by omega)).2 h
 exact hp.eq_of_pairwise (fun a b _ _ h1 h2 => by omega) (hl.imp fun h => Int.le_of_lt h) (hm.imp fun h => Int.le_of_lt h)
theorem mergeL_len (one : Bool) : ∀ a b : List Int, (mergeL one a b).length ≤ a.length + b.length
 | [], b => by rw [mergeL]; split <;> simp
 | x :: a, [] => by rw [mergeL]; split <;> simp
 | x :: a, y :: b => by
  have h1 := mergeL_len one a (y :: b)
  have h2 := mergeL_len one (x :: a) b
  have h3 := mergeL_len one a b
  rw [mergeL]
  simp only [List.length_cons] at h1 h2 h3 ⊢
  split
  ·split <;> (try simp only [List.length_cons]) <;> omega
  split
  ·split <;> (try simp only [List.length_cons]) <;> omega
  simp only [List.length_cons]; omega
termination_by a b => a.length + b.length
end Plain
namespace Plain
end Plain
end Go.Proofs.YtednbiophjndpaaGreat
