/- ring.About, slices.Sort at a row of the call's own, plan.order at a plan's lists: contracts. Conditions: what each theorem says. -/
import Derived.Test.YtpcgklagmcnhaaaGreatT7Draw
namespace Go.Proofs.YtpcgklagmcnhaaaGreat
open Go.RowKit Go.Maps
theorem sortI_any (v : Value) (l : List Int) (B : Nat) (w : World) (hn : l.length < 1000000000) (h : RowAt w B v l) :
  Calls Tryz.prog 31 #[v] w fun e w' => e = .returned (.tuple #[]) ∧ RowAt w' B v (l.mergeSort fun x y => decide (x ≤ y)) ∧ Chg v.ownBlock.toList w w' := by
 obtain ⟨ao, c, rfl⟩ := h.shape
 by_cases h0 : l = []
 ·subst h0
  refine (Tryz.slices_Sort_int_none ao c w).mono ?_
  rintro e w' ⟨rfl, rfl⟩
  exact ⟨rfl, by rw [List.mergeSort_nil]; exact h, Chg.refl _ _⟩
 obtain ⟨g, cap, e⟩ := owns_some h.1 (List.length_pos_iff.2 h0)
 cases e
 have hl : (ints l).length = l.length := by simp [ints]
 have hown := h.1
 rw [← hl] at hown
 have hH : Go.Sort.Holds (Value.int .i64) w g 0 l.toArray := sorted_holds hown (by simp [ints])
 have hg : g < w.heap.size := owns_lt h.1 rfl
 refine (Tryz.slices_Sort_int g 0 _ l w hH hg (by omega)).mono ?_
 rintro e w' ⟨rfl, n, os, rfl⟩
 have hs : (l.mergeSort fun x y => decide (x ≤ y)).length = l.length := (List.mergeSort_perm _ _).length_eq
 have hso := sorted_owns (enc := Value.int .i64) (n := n) (os := os) (d := (l.mergeSort fun x y => decide (x ≤ y)).toArray) hown (by simp [hs, hl])
 refine ⟨rfl, ⟨?_, fun x hx => h.2.1 x ((List.mergeSort_perm _ _).mem_iff.1 hx), by rw [hs]; exact h.2.2⟩, ?_⟩
 ·rw [hl] at hso
  rw [hs]
  exact hso
 exact sorted_chg (Value.int .i64) w g n os _
namespace Plain
end Plain
namespace Plain
theorem compact_upTo {d : Array Int} (hs : ∀ i j, i < j → j < d.size → d[i]! ≤ d[j]!) : ∀ m, m ≤ d.size → (Go.Lib.compactUpTo d m).Pairwise (· < ·) ∧ ∀ x, x ∈ Go.Lib.compactUpTo d m ↔ ∃ j, j < m ∧ x = d[j]!
 | 0, _ => by simp [Go.Lib.compactUpTo]
 | m + 1, hm => by
  obtain ⟨h1, h2⟩ := compact_upTo hs m (by omega)
  rw [Go.Lib.compactUpTo_succ]
  by_cases hk : Go.Lib.keeps d m = true
  ·rw [if_pos hk]
   have hk2 : m = 0 ∨ d[m]! ≠ d[m - 1]! := of_decide_eq_true hk
   refine ⟨List.pairwise_append.2 ⟨h1, List.pairwise_singleton _ _, fun a ha b hb => ?_⟩, fun x => ?_⟩
   ·obtain ⟨j, hj, rfl⟩ := (h2 a).1 ha
    rw [List.mem_singleton.1 hb]
    have hm1 : d[j]! ≤ d[m - 1]! := by
     by_cases e : j = m - 1
     ·grind
     exact hs j (m - 1) (by omega) (by omega)
    have hm2 := hs (m - 1) m (by omega) (by omega)
    have := hk2.resolve_left (by omega)
    omega
   rw [List.mem_append, h2, List.mem_singleton]
   constructor
   ·rintro (⟨j, hj, q⟩ | q)
    ·exact ⟨j, by omega, q⟩
    exact ⟨m, by omega, q⟩
   rintro ⟨j, hj, q⟩
   by_cases e : j = m
   ·rw [e] at q; exact Or.inr q
   exact Or.inl ⟨j, by omega, q⟩
  rw [if_neg hk, List.append_nil]
  have hk2 : ¬ (m = 0 ∨ d[m]! ≠ d[m - 1]!) := fun h => hk (decide_eq_true h)
  refine ⟨h1, fun x => ?_⟩
  rw [h2]
  constructor
  ·rintro ⟨j, hj, q⟩; exact ⟨j, by omega, q⟩
  rintro ⟨j, hj, q⟩
  by_cases e : j = m
  ·refine ⟨m - 1, by omega, ?_⟩
   rw [q, e]
   exact Classical.byContradiction fun h => hk2 (Or.inr h)
  exact ⟨j, by omega, q⟩
def tidy (l : List Int) : List Int := Go.Lib.compact (l.mergeSort fun x y => decide (x ≤ y))
theorem tidy_ok (l : List Int) : (tidy l).Pairwise (· < ·) ∧ ∀ x, x ∈ tidy l ↔ x ∈ l := by
 have hsort : (l.mergeSort fun x y => decide (x ≤ y)).Pairwise (· ≤ ·) := by
  have := List.pairwise_mergeSort (le := fun x y : Int => decide (x ≤ y)) (fun a b c h1 h2 => by grind) (fun a b => by grind) l
  grind
 have hm : ∀ x, x ∈ (l.mergeSort fun x y => decide (x ≤ y)) ↔ x ∈ l := fun x => (List.mergeSort_perm _ _).mem_iff
 unfold tidy
 revert hsort hm
 generalize (l.mergeSort fun x y => decide (x ≤ y)) = s
 intro hsort hm
 have hat : ∀ i, i < s.length → s.toArray[i]! = s.getD i 0 := fun i hi => by simp [List.getD, hi, getElem!_pos]
 obtain ⟨h1, h2⟩ := compact_upTo (d := s.toArray) (fun i j hij hj => by
  have hj : j < s.length := by simpa using hj
  rw [hat i (by omega), hat j hj]
  have := List.pairwise_iff_getElem.1 hsort i j (by omega) hj hij
  grind) s.length (by simp)
 refine ⟨h1, fun x => ?_⟩
 rw [← hm]
 unfold Go.Lib.compact
 all_goals grind [getD_mem, mem_getD]
end Plain
theorem owns_take {w : World} {B : Nat} {e : TypeId} {ao : Option Addr} {cap n m : Nat} {xs : List Value} (h : w.ownsRow B e 1 (.slice ao n cap) n xs) (hm : m ≤ n) : w.ownsRow B e 1 (.slice ao m cap) m (xs.take m) := by
 have hl := h.1
 rcases h.2 with ⟨e1, h0⟩ | ⟨g, c, cur, e1, hg, hh, hnc, hcm, hcs, hys⟩
 ·cases e1
  obtain rfl : m = 0 := by omega
  exact ⟨by simp, Or.inl ⟨rfl, rfl⟩⟩
 simp only [Value.slice.injEq] at e1
 obtain ⟨rfl, -, rfl⟩ := e1
 refine ⟨by rw [List.length_take]; omega, Or.inr ⟨g, cap, cur, rfl, hg, hh, by omega, hcm, hcs, ?_⟩⟩
 rw [← hys, List.take_take]
 congr 1
 omega
theorem compactI_any (v : Value) (l : List Int) (B : Nat) (w : World) (hn : l.length < 1000000000) (h : RowAt w B v l) :
  Calls Tryz.prog 70 #[v] w fun e w' => ∃ v', e = .returned v' ∧ RowAt w' B v' (Go.Lib.compact l) ∧ Chg v.ownBlock.toList w w' := by
 obtain ⟨ao, c, rfl⟩ := h.shape
 by_cases h0 : l = []
 ·subst h0
  refine (Tryz.slices_Compact_int_empty ao c w).mono ?_
  rintro e w' ⟨rfl, rfl⟩
  exact ⟨_, rfl, h, Chg.refl _ _⟩
 obtain ⟨g, cap, e⟩ := owns_some h.1 (List.length_pos_iff.2 h0)
 cases e
 have hl : (ints l).length = l.length := by simp [ints]
 have hown := h.1
 rw [← hl] at hown
 have hH : Go.Sort.Holds (Value.int .i64) w g 0 l.toArray := sorted_holds hown (by simp [ints])
 have hcap : l.length ≤ c := by
  rcases h.1.2 with ⟨e1, _⟩ | ⟨g', c', cur, e1, _, _, hnc, _⟩
  all_goals grind
 refine (Tryz.slices_Compact_int g 0 _ l w hH (by omega) hcap).mono ?_
 rintro e w' ⟨rfl, q, rfl⟩
 have hcl : (Go.Lib.compact l).length ≤ l.length := by
  unfold Go.Lib.compact Go.Lib.compactUpTo
  grind
 have hcm : ∀ x ∈ Go.Lib.compact l, x ∈ l := by
  intro x hx
  unfold Go.Lib.compact Go.Lib.compactUpTo at hx
  grind
 obtain ⟨D, hD⟩ : ∃ D, (Go.Lib.compact l ++ List.replicate (l.length - (Go.Lib.compact l).length) 0).toArray = D := ⟨_, rfl⟩
 have hDs : D.size = (ints l).length := by rw [← hD, hl]; simp; omega
 have hso := sorted_owns (enc := Value.int .i64) (n := q) (os := #[]) (d := D) hown hDs
 rw [hl] at hso
 have hpt := owns_take hso hcl
 have htk : (D.toList.map (Value.int .i64)).take (Go.Lib.compact l).length = ints (Go.Lib.compact l) := by
  rw [← hD, List.map_append, List.take_left' (by simp)]
  rfl
 rw [htk] at hpt
 have hw : Go.Sort.putRow (Value.int .i64) (Go.Sort.ahead w q) g 0 D = sortWorld (Value.int .i64) w g 0 q D #[] := by simp [sortWorld, Go.Sort.grow]; rfl
 rw [hD, hw]
 refine ⟨_, rfl, ⟨?_, fun x hx => h.2.1 x (hcm x hx), by grind⟩, ?_⟩
 ·exact hpt
 exact sorted_chg (Value.int .i64) w g q #[] D
end Go.Proofs.YtpcgklagmcnhaaaGreat
namespace Go.Proofs.YtpcgklagmcnhaaaGreat.Plain
theorem rises_of {l : List Int} {n : Int} (h : l.Pairwise (· < ·)) (hb : ∀ x ∈ l, 0 ≤ x ∧ x < n) : rises l n = true := by
 unfold rises
 rw [List.all_eq_true]
 intro i hi
 have hi := List.mem_range.1 hi
 obtain ⟨h1, h2⟩ := hb _ (getD_mem hi)
 unfold risesAt
 rw [decide_eq_false (by omega), decide_eq_false (by omega), Bool.false_or, Bool.false_or]
 by_cases h0 : 0 < i
 ·have := List.pairwise_iff_getElem.1 h (i - 1) i (by omega) hi (by omega)
  have e1 : l.getD (i - 1) 0 = l[i - 1] := by simp [List.getD, (by omega : i - 1 < l.length)]
  have e2 : l.getD i 0 = l[i] := by simp [List.getD, hi]
  rw [decide_eq_false (p := l.getD i 0 ≤ l.getD (i - 1) 0) (by rw [e1, e2]; omega), Bool.and_false]; rfl
 rw [decide_eq_false h0, Bool.false_and]; rfl
theorem rises_in {l : List Int} {n : Int} (h : rises l n = true) : ∀ x ∈ l, 0 ≤ x ∧ x < n := fun x hx => by
 obtain ⟨i, hi, rfl⟩ := mem_getD hx
 have := rises_at h hi
 exact ⟨this.1, this.2.1⟩
theorem Pt.err_of {g : Gr} {p : Pt} (h0 : g.err = 0) (hv : rises p.v g.n = true) (he : rises p.e g.e.length = true) (hi : ∀ e ∈ p.e, (g.ends e.toNat).1 ∈ p.v ∧ (g.ends e.toNat).2 ∈ p.v) : p.err g = 0 := by
 unfold Pt.err
 rw [if_neg (by simp [h0]), if_neg (by simp [hv, he]), if_pos]
 rw [List.all_eq_true]
 intro i hx
 obtain ⟨h1, h2⟩ := hi _ (getD_mem (List.mem_range.1 hx))
 unfold Pt.okEdge
 rw [decide_eq_true h1, decide_eq_true h2]; rfl
theorem Pt.ends_in {g : Gr} {p : Pt} (h : p.err g = 0) : ∀ e ∈ p.e, (g.ends e.toNat).1 ∈ p.v ∧ (g.ends e.toNat).2 ∈ p.v := fun e he => by
 obtain ⟨i, hi, rfl⟩ := mem_getD he
 exact (Pt.err_ok h).2.2.2 i hi
end Go.Proofs.YtpcgklagmcnhaaaGreat.Plain
namespace Go.Proofs.YtpcgklagmcnhaaaGreat
open Go.RowKit Go.Maps
namespace Plain
end Plain
theorem out_store2 {wr : World} {b : Nat} {a0 a1 : Value} {t : TypeId} (hb : wr.heap[b]? = some (.cells #[a0, a1] t (0, 0))) (u v : Value) :
  ((wr.setCell ⟨b, 0, none⟩ u).setCell ⟨b, 1, none⟩ v).heap[b]? = some (.cells #[u, v] t (0, 0)) ∧ ((wr.setCell ⟨b, 0, none⟩ u).setCell ⟨b, 1, none⟩ v).cell? ⟨b, 0, none⟩ = some u ∧ ((wr.setCell ⟨b, 0, none⟩ u).setCell ⟨b, 1, none⟩ v).cell? ⟨b, 1, none⟩ = some v ∧ Chg [b] wr ((wr.setCell ⟨b, 0, none⟩ u).setCell ⟨b, 1, none⟩ v) := by
 have hh := heap_setCell_same (heap_setCell_same hb 0 u) 1 v
 exact ⟨hh, (cell_of_row _ _ 0 _ _ _ hh).trans rfl, (cell_of_row _ _ 1 _ _ _ hh).trans rfl, ((Chg.refl _ wr).setCell (Or.inl (by simp)) _).setCell (Or.inl (by simp)) _⟩
end Go.Proofs.YtpcgklagmcnhaaaGreat
namespace Go.Proofs.YtpcgklagmcnhaaaGreat
open Go
section
variable {P : Program} {ops : Array Oper} {Q : Exit → Act → World → Prop} {md : Region.Mode} {w0 : World} {fr : (Nat → Value) → Act} {z : Nat} {fin : List Nat}
def Calm (p : Value → World → Prop) : Prop := ∀ u w w', Chg [] w w' → p u w → p u w'
def calmChk (md : Region.Mode) (ops : Array Oper) (deps : List (List Nat)) (fin : List Nat) : Bool :=
 let n := ops.size
 apart ops.toList && deps.length + 1 == n && ((List.range n).all fun i => (afters md ops i).all fun x => decide (x < i)) &&
 ((List.range (n - 1)).all fun i => (deps.getD i []).all fun x => (afters md ops i).contains x) &&
 ((List.range n).all fun j => j == n - 1 || (reach md ops n (afters md ops (n - 1))).contains j) && (fin.all fun x => decide (x < n - 1))
end
end Go.Proofs.YtpcgklagmcnhaaaGreat
