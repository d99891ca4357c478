/- When a plan is right: told by counts and by what hangs together. No program here. -/
import Derived.Test.YtpcgklagmcnhaaaGreatT8RestO
namespace Go.Proofs.YtpcgklagmcnhaaaGreat.Plain
end Go.Proofs.YtpcgklagmcnhaaaGreat.Plain
namespace Go.Proofs.YtpcgklagmcnhaaaGreat.Plain
theorem rise_ext : ∀ {l m : List Int}, l.Pairwise (· < ·) → m.Pairwise (· < ·) → (∀ x, x ∈ l ↔ x ∈ m) → l = m
 | [], [], _, _, _ => rfl
 | [], y :: m, _, _, h => by have := (h y).2 (by simp); simp at this
 | x :: l, [], _, _, h => by have := (h x).1 (by simp); simp at this
 | x :: l, y :: m, h1, h2, h => by
  rw [List.pairwise_cons] at h1 h2
  have e : x = y := by
   rcases List.mem_cons.1 ((h x).1 (by simp)) with q | q
   ·exact q
   rcases List.mem_cons.1 ((h y).2 (by simp)) with r | r
   ·exact r.symm
   have := h1.1 y r; have := h2.1 x q; omega
  subst e
  rw [rise_ext h1.2 h2.2 fun z => ?_]
  constructor
  ·intro hz
   rcases List.mem_cons.1 ((h z).1 (by simp [hz])) with q | q
   ·have := h1.1 z hz; omega
   exact q
  intro hz
  rcases List.mem_cons.1 ((h z).2 (by simp [hz])) with q | q
  ·have := h2.1 z hz; omega
  exact q
def back (l : List Int) (u : Int) : List Int := (l.take (l.idxOf u + 1)).reverse ++ (l.drop (l.idxOf u + 1)).reverse
section
variable {g : Gr} {p q : Pt} {turn : List (List Int)}
end
section
variable {g : Gr} {p q : Pt} {turn : List (List Int)}
end
section
variable {g : Gr} {p q : Pt} {turn same : List (List Int)}
end
end Go.Proofs.YtpcgklagmcnhaaaGreat.Plain
namespace Go.Proofs.YtpcgklagmcnhaaaGreat
open Go.RowKit Go.Maps
theorem seq_any (va vb : Value) (a b : List Int) (w : World) (ha : IntsAt w va a) (hb : IntsAt w vb b) :
  Calls Tryz.prog 102 #[va, vb] w fun e w' => e = .returned (.bool (decide (a = b))) ∧ Chg [] w w' := by
 obtain ⟨ao, ac, rfl, -, ham, hac⟩ := ha
 obtain ⟨bo, bc, rfl, -, hbm, hbc⟩ := hb
 by_cases hl : a.length = b.length
 ·by_cases h0 : a = []
  ·subst h0
   have hb0 : b = [] := List.length_eq_zero_iff.1 hl.symm
   subst hb0
   refine (Tryz.slices_Equal_int_empty ao bo ac 0 bc w (by decide)).mono ?_
   rintro e w' ⟨rfl, rfl⟩
   exact ⟨rfl, Chg.refl _ _⟩
  have hb0 : b ≠ [] := fun e => h0 (List.length_eq_zero_iff.1 (by rw [hl, e]; rfl))
  obtain ⟨ba, oa, rfl, ca⟩ := hac h0
  obtain ⟨bb, ob, rfl, cb⟩ := hbc hb0
  refine (Tryz.slices_Equal_int ba oa a.length ac bb ob b.length bc a b w (Nat.le_refl _) (Nat.le_refl _) (by omega) (by omega) ca cb).mono ?_
  rintro e w' ⟨rfl, n, rfl⟩
  refine ⟨?_, ?_⟩
  ·rw [List.take_length, List.take_length]
   by_cases h : a = b
   ·subst h; simp
   have h1 : (a == b) = false := beq_eq_false_iff_ne.2 h
   rw [h1, decide_eq_false (show ¬ a = b from h)]
  exact (Chg.refl [] w).drewN _
 refine (Tryz.slices_Equal_int_lens ao bo a.length ac b.length bc w hl).mono ?_
 rintro e w' ⟨rfl, rfl⟩
 exact ⟨by simp [show ¬ a = b from fun e => hl (by rw [e])], Chg.refl _ _⟩
namespace Plain
end Plain
end Go.Proofs.YtpcgklagmcnhaaaGreat
