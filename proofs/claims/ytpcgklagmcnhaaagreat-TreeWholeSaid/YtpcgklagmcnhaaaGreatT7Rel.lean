/- Which things a state of sets holds together, as a relation. No program here. -/
import Derived.Test.YtpcgklagmcnhaaaGreatT7LookS
namespace Go.Proofs.YtpcgklagmcnhaaaGreat
def St.rel (s : St) (x y : Int) : Prop := x = y ∨ s.same x y = true
theorem St.same_iff {s : St} {x y : Int} : s.same x y = true ↔ x ∈ s.all ∧ y ∈ s.all ∧ s.hd (s.all.idxOf x) = s.hd (s.all.idxOf y) := by
 grind [St.same]
theorem St.rel_refl (s : St) (x : Int) : s.rel x x := Or.inl rfl
theorem St.rel_symm {s : St} {x y : Int} (h : s.rel x y) : s.rel y x := by
 rcases h with h | h
 ·exact Or.inl h.symm
 obtain ⟨h1, h2, h3⟩ := St.same_iff.1 h
 exact Or.inr (St.same_iff.2 ⟨h2, h1, h3.symm⟩)
theorem St.rel_trans {s : St} {x y z : Int} (h : s.rel x y) (k : s.rel y z) : s.rel x z := by
 rcases h with rfl | h
 ·exact k
 rcases k with rfl | k
 ·exact Or.inr h
 obtain ⟨h1, h2, h3⟩ := St.same_iff.1 h
 obtain ⟨k1, k2, k3⟩ := St.same_iff.1 k
 exact Or.inr (St.same_iff.2 ⟨h1, k2, h3.trans k3⟩)
theorem St.hd_put_old {s : St} (hs : s.Ok) {a x : Int} (hx : x ∈ s.all) : (s.put a).hd ((s.put a).all.idxOf x) = s.hd (s.all.idxOf x) := by
 rw [St.idx_put_of a hx]
 by_cases h : a ∈ s.all
 ·rw [St.put_in h]
 rw [St.put_new h]
 have h1 := St.Ok.idx_lt hx
 have h2 := hs.len
 unfold St.hd List.getD
 rw [List.getElem?_append_left (by omega)]
theorem St.hd_put_new {s : St} (hs : s.Ok) {a : Int} (h : a ∉ s.all) : (s.put a).hd ((s.put a).all.idxOf a) = s.all.length := by
 rw [St.put_new h]
 simp [St.hd, List.getD, List.idxOf_append, h, hs.len]
theorem St.rel_put {s : St} (hs : s.Ok) (a x y : Int) : (s.put a).rel x y ↔ s.rel x y := by
 by_cases h : a ∈ s.all
 ·rw [St.put_in h]
 constructor
 ·rintro (rfl | hxy)
  ·exact Or.inl rfl
  obtain ⟨m1, m2, h3⟩ := St.same_iff.1 hxy
  have n1 : x ∈ s.all ∨ x = a := by rw [St.put_new h] at m1; simpa using m1
  have n2 : y ∈ s.all ∨ y = a := by rw [St.put_new h] at m2; simpa using m2
  clear m1 m2 hxy
  rcases n1 with h1 | rfl
  ·rcases n2 with h2 | rfl
   ·rw [St.hd_put_old hs h1, St.hd_put_old hs h2] at h3
    exact Or.inr (St.same_iff.2 ⟨h1, h2, h3⟩)
   all_goals grind [St.hd_put_old, St.hd_put_new, St.Ok.hd_lt]
  rcases n2 with h2 | rfl
  ·rw [St.hd_put_new hs h, St.hd_put_old hs h2] at h3
   have := hs.hd_lt h2
   omega
  exact Or.inl rfl
 rintro (rfl | hxy)
 ·exact Or.inl rfl
 obtain ⟨h1, h2, h3⟩ := St.same_iff.1 hxy
 exact Or.inr (St.same_iff.2 ⟨St.mem_put_of a h1, St.mem_put_of a h2, by grind [St.hd_put_old]⟩)
theorem St.rel_at {s : St} {x y : Int} (h : s.rel x y) (hy : y ∈ s.all) : x ∈ s.all ∧ s.hd (s.all.idxOf x) = s.hd (s.all.idxOf y) := by
 rcases h with rfl | h
 ·exact ⟨hy, rfl⟩
 obtain ⟨h1, -, h3⟩ := St.same_iff.1 h
 exact ⟨h1, h3⟩
theorem St.rel_join {s : St} (hs : s.Ok) (a b x y : Int) : (s.join a b).rel x y ↔ s.rel x y ∨ (s.rel x a ∧ s.rel b y) ∨ (s.rel x b ∧ s.rel a y) := by
 have ht := (hs.put a).put b
 have hm := s.put_put_mem a b
 have hr : ∀ u v, s.rel u v ↔ ((s.put a).put b).rel u v := fun u v => by rw [St.rel_put (hs.put a), St.rel_put hs]
 rw [hr x y, hr x a, hr b y, hr x b, hr a y]
 have hj : s.join a b = ⟨((s.put a).put b).all, relabel ((s.put a).put b).grp (((s.put a).put b).hd (((s.put a).put b).all.idxOf a)) (((s.put a).put b).hd (((s.put a).put b).all.idxOf b))⟩ := rfl
 rw [hj]
 clear hj hr
 generalize (s.put a).put b = t at *
 obtain ⟨ha, hb⟩ := hm
 obtain ⟨A, hA⟩ : ∃ A, t.hd (t.all.idxOf a) = A := ⟨_, rfl⟩
 obtain ⟨B, hB⟩ : ∃ B, t.hd (t.all.idxOf b) = B := ⟨_, rfl⟩
 rw [hA, hB]
 have hh : ∀ {u : Int}, u ∈ t.all → St.hd ⟨t.all, relabel t.grp A B⟩ (t.all.idxOf u) = if t.hd (t.all.idxOf u) = max A B then min A B else t.hd (t.all.idxOf u) := by
  grind [relabel, St.hd, getD_map, St.Ok.idx_lt]
 constructor
 ·rintro (rfl | h)
  ·exact Or.inl (Or.inl rfl)
  obtain ⟨h1, h2, h3⟩ := St.same_iff.1 h
  have h1 : x ∈ t.all := h1
  have h2 : y ∈ t.all := h2
  replace h3 : St.hd ⟨t.all, relabel t.grp A B⟩ (t.all.idxOf x) = St.hd ⟨t.all, relabel t.grp A B⟩ (t.all.idxOf y) := h3
  rw [hh h1, hh h2] at h3
  by_cases e : t.hd (t.all.idxOf x) = t.hd (t.all.idxOf y)
  ·exact Or.inl (Or.inr (St.same_iff.2 ⟨h1, h2, e⟩))
  have h4 : (t.hd (t.all.idxOf x) = A ∧ t.hd (t.all.idxOf y) = B) ∨ (t.hd (t.all.idxOf x) = B ∧ t.hd (t.all.idxOf y) = A) := by
   grind
  rcases h4 with ⟨e1, e2⟩ | ⟨e1, e2⟩
  ·exact Or.inr (Or.inl ⟨Or.inr (St.same_iff.2 ⟨h1, ha, e1.trans hA.symm⟩), Or.inr (St.same_iff.2 ⟨hb, h2, hB.trans e2.symm⟩)⟩)
  exact Or.inr (Or.inr ⟨Or.inr (St.same_iff.2 ⟨h1, hb, e1.trans hB.symm⟩), Or.inr (St.same_iff.2 ⟨ha, h2, hA.trans e2.symm⟩)⟩)
 have mk : ∀ {u v : Int}, u ∈ t.all → v ∈ t.all → (if t.hd (t.all.idxOf u) = max A B then min A B else t.hd (t.all.idxOf u)) = (if t.hd (t.all.idxOf v) = max A B then min A B else t.hd (t.all.idxOf v)) → St.rel ⟨t.all, relabel t.grp A B⟩ u v := fun {u v} h1 h2 h3 =>
  Or.inr (St.same_iff.2 ⟨h1, h2, by grind⟩)
 rintro (h | ⟨h1, h2⟩ | ⟨h1, h2⟩)
 ·rcases h with rfl | h
  ·exact Or.inl rfl
  all_goals grind [St.same_iff]
 all_goals grind [St.rel_at, St.rel_symm]
theorem St.rel_joined {s : St} (hs : s.Ok) (a b : Int) : (s.join a b).rel a b := by grind [St.rel_join, St.rel_refl]
end Go.Proofs.YtpcgklagmcnhaaaGreat
namespace Go.Proofs.YtpcgklagmcnhaaaGreat.Plain
def g1 : Gr := ⟨4, [(0, 1), (1, 2), (2, 0)]⟩
def p1 : Pt := ⟨[0, 1, 2, 3], [0, 1, 2]⟩
def t1 : List (List Int) := [[0, 5], [1, 2], [3, 4], []]
def w1 : List Face := [(-4, []), (0, [0, 2, 4]), (1, [1, 5, 3])]
end Go.Proofs.YtpcgklagmcnhaaaGreat.Plain
namespace Go.Proofs.YtpcgklagmcnhaaaGreat
open Go.RowKit Go.Maps
namespace Plain
end Plain
namespace Plain
end Plain
end Go.Proofs.YtpcgklagmcnhaaaGreat
namespace Go.Proofs.YtpcgklagmcnhaaaGreat
open Go.RowKit Go.Maps
namespace Plain
end Plain
end Go.Proofs.YtpcgklagmcnhaaaGreat
