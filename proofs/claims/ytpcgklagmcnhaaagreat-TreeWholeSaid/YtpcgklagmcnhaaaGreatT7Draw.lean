/- What is left of a drawing is a drawing: edges are taken out one by one (Euler), then vertices that none leaves. No program here. -/
import Derived.Test.YtpcgklagmcnhaaaGreatT7RestO
namespace Go.Proofs.YtpcgklagmcnhaaaGreat.Plain
section
variable {g : Gr} {p q : Pt} {turn : List (List Int)}
end
section
variable {g : Gr} {p q : Pt} {turn same : List (List Int)}
end
end Go.Proofs.YtpcgklagmcnhaaaGreat.Plain
namespace Go.Proofs.YtpcgklagmcnhaaaGreat
open Go.RowKit Go.Maps
theorem seq_any (va vb : Value) (a b : List Int) (w : World) (ha : IntsAt w va a) (hb : IntsAt w vb b) :
  Calls Tryz.prog 102 #[va, vb] w fun e w' => e = .returned (.bool (decide (a = b))) ∧ Chg [] w w' := by
 obtain ⟨ao, ac, rfl, -, ham, hac⟩ := ha
 obtain ⟨bo, bc, rfl, -, hbm, hbc⟩ := hb
 by_cases hl : a.length = b.length
 ·by_cases h0 : a = []
  ·subst h0
   have hb0 : b = [] := List.length_eq_zero_iff.1 hl.symm
   subst hb0
   refine (Tryz.slices_Equal_int_empty ao bo ac 0 bc w (by decide)).mono ?_
   rintro e w' ⟨rfl, rfl⟩
   exact ⟨rfl, Chg.refl _ _⟩
  have hb0 : b ≠ [] := fun e => h0 (List.length_eq_zero_iff.1 (by rw [hl, e]; rfl))
  obtain ⟨ba, oa, rfl, ca⟩ := hac h0
  obtain ⟨bb, ob, rfl, cb⟩ := hbc hb0
  refine (Tryz.slices_Equal_int ba oa a.length ac bb ob b.length bc a b w (Nat.le_refl _) (Nat.le_refl _) (by omega) (by omega) ca cb).mono ?_
  rintro e w' ⟨rfl, n, rfl⟩
  refine ⟨?_, ?_⟩
  ·rw [List.take_length, List.take_length]
   by_cases h : a = b
   ·subst h; simp
   have h1 : (a == b) = false := beq_eq_false_iff_ne.2 h
   rw [h1, decide_eq_false (show ¬ a = b from h)]
  exact (Chg.refl [] w).drewN _
 refine (Tryz.slices_Equal_int_lens ao bo a.length ac b.length bc w hl).mono ?_
 rintro e w' ⟨rfl, rfl⟩
 exact ⟨by simp [show ¬ a = b from fun e => hl (by rw [e])], Chg.refl _ _⟩
namespace Plain
end Plain
namespace Plain
end Plain
end Go.Proofs.YtpcgklagmcnhaaaGreat
namespace Go.Proofs.YtpcgklagmcnhaaaGreat.Plain
section
variable {g : Gr} {p q : Pt} {turn same : List (List Int)}
end
section
variable {g : Gr} {p q : Pt} {turn same : List (List Int)}
theorem rises_filter {l : List Int} {n : Int} (h : rises l n = true) (f : Int → Bool) : rises (l.filter f) n = true := by
 unfold rises
 rw [List.all_eq_true]
 intro i hi
 have hi := List.mem_range.1 hi
 have hpw : (l.filter f).Pairwise (· < ·) := (rises_pair h).sublist List.filter_sublist
 have hget : ∀ j (hj : j < (l.filter f).length), (l.filter f).getD j 0 = (l.filter f)[j] := fun j hj => by simp [List.getD, hj]
 have hm : (l.filter f).getD i 0 ∈ l := (List.mem_filter.1 (getD_mem hi)).1
 obtain ⟨k, hk, e⟩ := mem_getD hm
 have h1 := rises_at h hk
 rw [e] at h1
 unfold risesAt
 have h2 : 0 < i → (l.filter f).getD (i - 1) 0 < (l.filter f).getD i 0 := fun h0 => by
  rw [hget i hi, hget (i - 1) (by omega)]
  exact List.pairwise_iff_getElem.1 hpw (i - 1) i (by omega) hi (by omega)
 by_cases h0 : 0 < i
 ·have := h2 h0
  simp only [Bool.not_or, Bool.and_eq_true, Bool.not_eq_true', decide_eq_false_iff_not, Bool.and_eq_false_imp, decide_eq_true_eq]
  exact ⟨⟨by omega, by omega⟩, fun _ => by omega⟩
 simp only [Bool.not_or, Bool.and_eq_true, Bool.not_eq_true', decide_eq_false_iff_not, Bool.and_eq_false_imp, decide_eq_true_eq]
 exact ⟨⟨by omega, by omega⟩, fun k => absurd k h0⟩
end
end Go.Proofs.YtpcgklagmcnhaaaGreat.Plain
