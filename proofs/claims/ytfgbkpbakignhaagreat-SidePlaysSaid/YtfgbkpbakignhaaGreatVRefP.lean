/- ref05: the contract of Pieces (how many). Conditions: a right part that lies in memory, of at most 1000 vertices. -/
import Derived.Test.YtfgbkpbakignhaaGreatVSpread
import Derived.Test.YtfgbkpbakignhaaGreatVSub
import Derived.Test.YtfgbkpbakignhaaGreatVWalkU
namespace Go.Proofs.YtfgbkpbakignhaaGreat
open Go.RowKit Go.Maps

namespace Plain
def Gone (g : Gr) (p : Pt) (k : Nat) (A : List Int) : Prop := ∀ u, u ∈ A ↔ ∃ r ∈ rootsTo g p k, Come g p (-1) r u

theorem Gone.start (g : Gr) (p : Pt) : Gone g p 0 [] := fun u => by rw [rootsTo_zero]; simp

open Classical in
theorem Gone.root {g : Gr} {p : Pt} {k : Nat} {A : List Int} (hp : PartOk g p) (hr : p.v.Pairwise (· < ·)) (h : Gone g p k A) (hk : k < p.v.length) (hf : p.v.getD k 0 ∉ A) : p.v.getD k 0 ∈ roots g p := by
 obtain ⟨r, hr1, hc⟩ := root_of (g := g) (fun v hv => (hp.vr v hv).1) (getD_mem hk)
 have hle := (mem_roots.1 hr1).2 _ (getD_mem hk) hc
 by_cases e : r = p.v.getD k 0
 ·rw [← e]; exact hr1
 ·exfalso
  obtain ⟨j, hj, hje⟩ := mem_getD (mem_roots.1 hr1).1
  have hjk : j < k := by
   rcases Nat.lt_or_ge j k with q | q
   ·exact q
   ·exfalso
    rcases Nat.eq_or_lt_of_le q with q | q
    ·subst q; exact e hje.symm
    ·have := List.pairwise_iff_getElem.1 hr k j hk hj q
     simp [List.getD, hk, hj] at hje hle
     omega
  have hm : r ∈ rootsTo g p k := by
   unfold rootsTo
   refine List.mem_filter.2 ⟨?_, decide_eq_true (mem_roots.1 hr1).2⟩
   rw [← hje]
   have : (p.v.take k)[j]? = some p.v[j] := by rw [List.getElem?_take, if_pos hjk, List.getElem?_eq_getElem hj]
   have e2 : p.v.getD j 0 = p.v[j] := by simp [List.getD, hj]
   rw [e2]
   exact List.mem_of_getElem? this
  exact hf ((h _).2 ⟨r, hm, hc⟩)

theorem Gone.known {g : Gr} {p : Pt} {k : Nat} {A : List Int} (hp : PartOk g p) (h : Gone g p k A) (hk : k < p.v.length) (hf : p.v.getD k 0 ∈ A) : p.v.getD k 0 ∉ roots g p := by
 intro hr
 obtain ⟨r, hm, hc⟩ := (h _).1 hf
 have hm := rootsTo_mem hm
 have e := root_one (fun v hv => (hp.vr v hv).1) hm.1 hr hc .here
 have h2 := hm.2
 rw [e] at h2
 exact new_v hp hk h2

theorem Gone.skip {g : Gr} {p : Pt} {k : Nat} {A : List Int} (hp : PartOk g p) (h : Gone g p k A) (hk : k < p.v.length) (hf : p.v.getD k 0 ∈ A) : Gone g p (k + 1) A := by
 unfold Gone
 rw [rootsTo_same hk (h.known hp hk hf)]
 exact h
theorem Gone.add {g : Gr} {p : Pt} {k : Nat} {A M : List Int} (hp : PartOk g p) (hr : p.v.Pairwise (· < ·)) (h : Gone g p k A) (hk : k < p.v.length) (hf : p.v.getD k 0 ∉ A) (hM : ∀ u, u ∈ M ↔ Come g p (-1) (p.v.getD k 0) u) : Gone g p (k + 1) (A ++ M) := by
 intro u
 rw [rootsTo_snoc hk (h.root hp hr hk hf), List.mem_append, h u, hM u]
 constructor
 ·rintro (⟨r, h1, h2⟩ | h)
  ·exact ⟨r, List.mem_append.2 (Or.inl h1), h2⟩
  ·exact ⟨_, List.mem_append.2 (Or.inr (List.mem_singleton.2 rfl)), h⟩
 ·rintro ⟨r, h1, h2⟩
  rcases List.mem_append.1 h1 with h1 | h1
  ·exact Or.inl ⟨r, h1, h2⟩
  ·rw [List.mem_singleton.1 h1] at h2; exact Or.inr h2
end Plain

end Go.Proofs.YtfgbkpbakignhaaGreat
