/- The sides of all vertices and edges, plainly. No program here. -/
import Derived.Test.YtckjpaimbmlboaaVCycS
namespace Go.Proofs.Ytckjpaimbmlboaa.Plain
def seat (turn : List (List Int)) (v : Int) : Int := if 0 < (turnAt turn v).length then (turnAt turn v).getD 0 0 else -1 - v
def vside (S : Int → Option Int) (turn : List (List Int)) (p : Pt) (k : Nat) : Int → Option Int := fun y => if y ∈ p.v.take k then some ((S (seat turn y)).getD 0) else none
def eside (S : Int → Option Int) (p : Pt) (k : Nat) : Int → Option Int := fun y => if y ∈ p.e.take k then some ((S (2 * y)).getD 0) else none
def von (g : Gr) (V : Int → Option Int) (cy : List Int) (k : Nat) : Int → Option Int := fun y => if y ∈ (cy.take k).map g.tail then some 0 else V y
def eon (E : Int → Option Int) (cy : List Int) (k : Nat) : Int → Option Int := fun y => if y ∈ (cy.take k).map (· / 2) then some 0 else E y
theorem take_next {l : List Int} {k : Nat} (hk : k < l.length) : l.take (k + 1) = l.take k ++ [l.getD k 0] := by
 rw [List.take_succ_eq_append_getElem hk]
 simp [List.getD, hk]
theorem vside_zero (S : Int → Option Int) (turn : List (List Int)) (p : Pt) : vside S turn p 0 = fun _ => none := by funext y; simp [vside]
theorem vside_succ {S : Int → Option Int} {turn : List (List Int)} {p : Pt} {k : Nat} (hk : k < p.v.length) : (fun y => if y = p.v.getD k 0 then some ((S (seat turn (p.v.getD k 0))).getD 0) else vside S turn p k y) = vside S turn p (k + 1) := by
 funext y
 unfold vside
 rw [take_next hk]
 by_cases e : y = p.v.getD k 0
 ·rw [if_pos e, if_pos (by rw [e]; simp), e]
 rw [if_neg e]
 by_cases h : y ∈ p.v.take k
 ·rw [if_pos h, if_pos (by simp [h])]
 rw [if_neg h, if_neg (fun q => (List.mem_append.1 q).elim h fun z => e (List.mem_singleton.1 z))]
theorem vside_new {S : Int → Option Int} {turn : List (List Int)} {p : Pt} {k : Nat} (hn : p.v.Nodup) (hk : k < p.v.length) : vside S turn p k (p.v.getD k 0) = none := by
 unfold vside
 rw [if_neg]
 intro h
 have h1 := hn.sublist (List.take_sublist (k + 1) p.v)
 rw [take_next hk, List.nodup_append] at h1
 exact h1.2.2 _ h _ (by simp) rfl
theorem eside_zero (S : Int → Option Int) (p : Pt) : eside S p 0 = fun _ => none := by funext y; simp [eside]
theorem eside_succ {S : Int → Option Int} {p : Pt} {k : Nat} (hk : k < p.e.length) : (fun y => if y = p.e.getD k 0 then some ((S (2 * p.e.getD k 0)).getD 0) else eside S p k y) = eside S p (k + 1) := by
 funext y
 unfold eside
 rw [take_next hk]
 by_cases e : y = p.e.getD k 0
 ·rw [if_pos e, if_pos (by rw [e]; simp), e]
 rw [if_neg e]
 by_cases h : y ∈ p.e.take k
 ·rw [if_pos h, if_pos (by simp [h])]
 rw [if_neg h, if_neg (fun q => (List.mem_append.1 q).elim h fun z => e (List.mem_singleton.1 z))]
theorem eside_new {S : Int → Option Int} {p : Pt} {k : Nat} (hn : p.e.Nodup) (hk : k < p.e.length) : eside S p k (p.e.getD k 0) = none := by
 unfold eside
 rw [if_neg]
 intro h
 have h1 := hn.sublist (List.take_sublist (k + 1) p.e)
 rw [take_next hk, List.nodup_append] at h1
 exact h1.2.2 _ h _ (by simp) rfl
theorem von_zero (g : Gr) (V : Int → Option Int) (cy : List Int) : von g V cy 0 = V := by funext y; simp [von]
theorem von_succ {g : Gr} {V : Int → Option Int} {cy : List Int} {k : Nat} (hk : k < cy.length) : (fun y => if y = g.tail (cy.getD k 0) then some 0 else von g V cy k y) = von g V cy (k + 1) := by
 funext y
 unfold von
 rw [take_next hk, List.map_append]
 by_cases e : y = g.tail (cy.getD k 0)
 ·rw [if_pos e, if_pos (by rw [e]; simp)]
 rw [if_neg e]
 by_cases h : y ∈ (cy.take k).map g.tail
 ·rw [if_pos h, if_pos (List.mem_append.2 (Or.inl h))]
 rw [if_neg h, if_neg (fun q => (List.mem_append.1 q).elim h fun z => e (by simpa using z))]
theorem eon_zero (E : Int → Option Int) (cy : List Int) : eon E cy 0 = E := by funext y; simp [eon]
theorem eon_succ {E : Int → Option Int} {cy : List Int} {k : Nat} (hk : k < cy.length) : (fun y => if y = cy.getD k 0 / 2 then some 0 else eon E cy k y) = eon E cy (k + 1) := by
 funext y
 unfold eon
 rw [take_next hk, List.map_append]
 by_cases e : y = cy.getD k 0 / 2
 ·rw [if_pos e, if_pos (by rw [e]; simp)]
 rw [if_neg e]
 by_cases h : y ∈ (cy.take k).map (· / 2)
 ·rw [if_pos h, if_pos (List.mem_append.2 (Or.inl h))]
 rw [if_neg h, if_neg (fun q => (List.mem_append.1 q).elim h fun z => e (by simpa using z))]
end Go.Proofs.Ytckjpaimbmlboaa.Plain
namespace Go.Proofs.Ytckjpaimbmlboaa
open Go.RowKit Go.Maps
theorem owns_tight {w : World} {b n m : Nat} {D : DataW Unit} (h : w.ownsMap Try.prog 3 (plainElem Try.prog 3) b n D) (hs : Maps.size D = m) : w.ownsMap Try.prog 3 (plainElem Try.prog 3) b m D := by
 obtain ⟨es, clock, hb, F, _, rfl⟩ := h
 refine ⟨es, clock, hb, F, ?_, rfl⟩
 rw [← hs, size_eq, (Go.WideShapes.sorted_perm _).length_eq]
 simp
theorem wp_nset (w : World) {ops : Array Oper} {rest : List Oper} {o : Oper} {a : Act} {Q : Exit → Act → World → Prop} (hg : o.guard = none) (m x u : Operand) (hop : o.op = Op.mapUpdate 60 m x u) {b n : Nat} {f : Int → Option Int} (h : NMap w b n f) (hn : n < maxLen) (hm : a.eval m = .map (some b))
  {k v : Int} (hk : I64 k) (hv : I64 v) (hf : (f k).isSome = true) (hx : a.eval x = .int .i64 k) (hu : a.eval u = .int .i64 v)
  (hK : ∀ w', NMap w' b n (fun y => if y = k then some v else f y) → Chg [b] w w' → wpList Try.prog ops Q rest (a.put o.dst undef) w') : wpList Try.prog ops Q (o :: rest) a w := by
 refine wpList_plain hg fun K' hK' => ?_
 obtain ⟨D, ho, hs, hD⟩ := h
 have hkey := keyOf_int_mk Try.underlying3 hk
 obtain ⟨w2, h1, h2, h3⟩ := ho.update keyedInt Try.underlying60 hn hkey (plainElem_int Try.underlying3 hv)
 unfold Oper.wp
 simp [execOp, hop, hm, hx, hu, h1, Result.andThen]
 refine hK' _ _ (hK w2 ⟨_, owns_tight h2 ?_, ?_, fun y hy => ?_⟩ ((Chg.refl _ _).grown h3 (fun j hj => by cases hj; exact Or.inl (by simp))))
 ·rw [size_put (ho.tidy keyedInt), (hD k hk).1, hf, hs]; rfl
 ·rw [size_put (ho.tidy keyedInt), (hD k hk).1, hf, hs]; rfl
 by_cases e : y = k
 ·subst e
  have hkl := keyedInt.key hkey
  rw [has_put_same ho.isMap hkl, atKey_put_same ho.isMap hkl]
  simp
 rw [has_put_other (litNe e), atKey_put_other (litNe e)]
 simp only [if_neg e]
 exact hD y hy
end Go.Proofs.Ytckjpaimbmlboaa
namespace Go.Proofs.Ytckjpaimbmlboaa
def St.rel (s : St) (x y : Int) : Prop := x = y ∨ s.same x y = true
theorem St.same_iff {s : St} {x y : Int} : s.same x y = true ↔ x ∈ s.all ∧ y ∈ s.all ∧ s.hd (s.all.idxOf x) = s.hd (s.all.idxOf y) := by
 unfold St.same
 rw [Bool.and_eq_true, Bool.and_eq_true, decide_eq_true_iff, decide_eq_true_iff, beq_iff_eq, and_assoc]
theorem St.rel_refl (s : St) (x : Int) : s.rel x x := Or.inl rfl
theorem St.rel_symm {s : St} {x y : Int} (h : s.rel x y) : s.rel y x := by
 rcases h with h | h
 ·exact Or.inl h.symm
 obtain ⟨h1, h2, h3⟩ := St.same_iff.1 h
 exact Or.inr (St.same_iff.2 ⟨h2, h1, h3.symm⟩)
theorem St.rel_trans {s : St} {x y z : Int} (h : s.rel x y) (k : s.rel y z) : s.rel x z := by
 rcases h with rfl | h
 ·exact k
 rcases k with rfl | k
 ·exact Or.inr h
 obtain ⟨h1, h2, h3⟩ := St.same_iff.1 h
 obtain ⟨k1, k2, k3⟩ := St.same_iff.1 k
 exact Or.inr (St.same_iff.2 ⟨h1, k2, h3.trans k3⟩)
theorem St.rel_nil {x y : Int} : St.rel ⟨[], []⟩ x y ↔ x = y := by simp [St.rel, St.same]
theorem St.hd_put_old {s : St} (hs : s.Ok) {a x : Int} (hx : x ∈ s.all) : (s.put a).hd ((s.put a).all.idxOf x) = s.hd (s.all.idxOf x) := by
 rw [St.idx_put_of a hx]
 by_cases h : a ∈ s.all
 ·rw [St.put_in h]
 rw [St.put_new h]
 have h1 := St.Ok.idx_lt hx
 have h2 := hs.len
 unfold St.hd List.getD
 rw [List.getElem?_append_left (by omega)]
theorem St.hd_put_new {s : St} (hs : s.Ok) {a : Int} (h : a ∉ s.all) : (s.put a).hd ((s.put a).all.idxOf a) = s.all.length := by
 rw [St.put_new h]
 simp [St.hd, List.getD, List.idxOf_append, h, hs.len]
theorem St.rel_put {s : St} (hs : s.Ok) (a x y : Int) : (s.put a).rel x y ↔ s.rel x y := by
 by_cases h : a ∈ s.all
 ·rw [St.put_in h]
 constructor
 ·rintro (rfl | hxy)
  ·exact Or.inl rfl
  obtain ⟨m1, m2, h3⟩ := St.same_iff.1 hxy
  have n1 : x ∈ s.all ∨ x = a := by rw [St.put_new h] at m1; simpa using m1
  have n2 : y ∈ s.all ∨ y = a := by rw [St.put_new h] at m2; simpa using m2
  clear m1 m2 hxy
  rcases n1 with h1 | rfl
  ·rcases n2 with h2 | rfl
   ·rw [St.hd_put_old hs h1, St.hd_put_old hs h2] at h3
    exact Or.inr (St.same_iff.2 ⟨h1, h2, h3⟩)
   rw [St.hd_put_old hs h1, St.hd_put_new hs h] at h3
   have := hs.hd_lt h1
   omega
  rcases n2 with h2 | rfl
  ·rw [St.hd_put_new hs h, St.hd_put_old hs h2] at h3
   have := hs.hd_lt h2
   omega
  exact Or.inl rfl
 rintro (rfl | hxy)
 ·exact Or.inl rfl
 obtain ⟨h1, h2, h3⟩ := St.same_iff.1 hxy
 exact Or.inr (St.same_iff.2 ⟨St.mem_put_of a h1, St.mem_put_of a h2, by rw [St.hd_put_old hs h1, St.hd_put_old hs h2]; exact h3⟩)
theorem St.rel_at {s : St} {x y : Int} (h : s.rel x y) (hy : y ∈ s.all) : x ∈ s.all ∧ s.hd (s.all.idxOf x) = s.hd (s.all.idxOf y) := by
 rcases h with rfl | h
 ·exact ⟨hy, rfl⟩
 obtain ⟨h1, -, h3⟩ := St.same_iff.1 h
 exact ⟨h1, h3⟩
theorem St.rel_join {s : St} (hs : s.Ok) (a b x y : Int) : (s.join a b).rel x y ↔ s.rel x y ∨ (s.rel x a ∧ s.rel b y) ∨ (s.rel x b ∧ s.rel a y) := by
 have ht := (hs.put a).put b
 have hm := s.put_put_mem a b
 have hr : ∀ u v, s.rel u v ↔ ((s.put a).put b).rel u v := fun u v => by rw [St.rel_put (hs.put a), St.rel_put hs]
 rw [hr x y, hr x a, hr b y, hr x b, hr a y]
 have hj : s.join a b = ⟨((s.put a).put b).all, relabel ((s.put a).put b).grp (((s.put a).put b).hd (((s.put a).put b).all.idxOf a)) (((s.put a).put b).hd (((s.put a).put b).all.idxOf b))⟩ := rfl
 rw [hj]
 clear hj hr
 generalize (s.put a).put b = t at *
 obtain ⟨ha, hb⟩ := hm
 obtain ⟨A, hA⟩ : ∃ A, t.hd (t.all.idxOf a) = A := ⟨_, rfl⟩
 obtain ⟨B, hB⟩ : ∃ B, t.hd (t.all.idxOf b) = B := ⟨_, rfl⟩
 rw [hA, hB]
 have hh : ∀ {u : Int}, u ∈ t.all → St.hd ⟨t.all, relabel t.grp A B⟩ (t.all.idxOf u) = if t.hd (t.all.idxOf u) = max A B then min A B else t.hd (t.all.idxOf u) := by
  intro u hu
  unfold relabel St.hd
  exact getD_map _ _ _ (by rw [← ht.len]; exact St.Ok.idx_lt hu)
 constructor
 ·rintro (rfl | h)
  ·exact Or.inl (Or.inl rfl)
  obtain ⟨h1, h2, h3⟩ := St.same_iff.1 h
  have h1 : x ∈ t.all := h1
  have h2 : y ∈ t.all := h2
  replace h3 : St.hd ⟨t.all, relabel t.grp A B⟩ (t.all.idxOf x) = St.hd ⟨t.all, relabel t.grp A B⟩ (t.all.idxOf y) := h3
  rw [hh h1, hh h2] at h3
  by_cases e : t.hd (t.all.idxOf x) = t.hd (t.all.idxOf y)
  ·exact Or.inl (Or.inr (St.same_iff.2 ⟨h1, h2, e⟩))
  have h4 : (t.hd (t.all.idxOf x) = A ∧ t.hd (t.all.idxOf y) = B) ∨ (t.hd (t.all.idxOf x) = B ∧ t.hd (t.all.idxOf y) = A) := by
   split at h3 <;> split at h3 <;> omega
  rcases h4 with ⟨e1, e2⟩ | ⟨e1, e2⟩
  ·exact Or.inr (Or.inl ⟨Or.inr (St.same_iff.2 ⟨h1, ha, e1.trans hA.symm⟩), Or.inr (St.same_iff.2 ⟨hb, h2, hB.trans e2.symm⟩)⟩)
  exact Or.inr (Or.inr ⟨Or.inr (St.same_iff.2 ⟨h1, hb, e1.trans hB.symm⟩), Or.inr (St.same_iff.2 ⟨ha, h2, hA.trans e2.symm⟩)⟩)
 have mk : ∀ {u v : Int}, u ∈ t.all → v ∈ t.all → (if t.hd (t.all.idxOf u) = max A B then min A B else t.hd (t.all.idxOf u)) = (if t.hd (t.all.idxOf v) = max A B then min A B else t.hd (t.all.idxOf v)) → St.rel ⟨t.all, relabel t.grp A B⟩ u v := fun {u v} h1 h2 h3 =>
  Or.inr (St.same_iff.2 ⟨h1, h2, by show St.hd ⟨t.all, relabel t.grp A B⟩ (t.all.idxOf u) = St.hd ⟨t.all, relabel t.grp A B⟩ (t.all.idxOf v); rw [hh h1, hh h2]; exact h3⟩)
 rintro (h | ⟨h1, h2⟩ | ⟨h1, h2⟩)
 ·rcases h with rfl | h
  ·exact Or.inl rfl
  obtain ⟨h1, h2, h3⟩ := St.same_iff.1 h
  exact mk h1 h2 (by rw [h3])
 ·obtain ⟨k1, k2⟩ := St.rel_at h1 ha
  obtain ⟨k3, k4⟩ := St.rel_at (St.rel_symm h2) hb
  refine mk k1 k3 ?_
  rw [k2, k4, hA, hB]
  split <;> split <;> omega
 obtain ⟨k1, k2⟩ := St.rel_at h1 hb
 obtain ⟨k3, k4⟩ := St.rel_at (St.rel_symm h2) ha
 refine mk k1 k3 ?_
 rw [k2, k4, hA, hB]
 split <;> split <;> omega
theorem St.rel_joined {s : St} (hs : s.Ok) (a b : Int) : (s.join a b).rel a b := (St.rel_join hs a b a b).2 (Or.inr (Or.inl ⟨s.rel_refl a, s.rel_refl b⟩))
end Go.Proofs.Ytckjpaimbmlboaa
namespace Go.Proofs.Ytckjpaimbmlboaa.Plain
def g1 : Gr := ⟨4, [(0, 1), (1, 2), (2, 0)]⟩
def p1 : Pt := ⟨[0, 1, 2, 3], [0, 1, 2]⟩
def t1 : List (List Int) := [[0, 5], [1, 2], [3, 4], []]
def w1 : List Face := [(-4, []), (0, [0, 2, 4]), (1, [1, 5, 3])]
theorem err1 : p1.err g1 = 0 := by decide
theorem part1 : PartOk g1 p1 := Pt.ok_of_err err1
theorem near1 {u w : Int} (h : Near g1 p1 u w) : (u = 0 ∧ w = 1) ∨ (u = 1 ∧ w = 2) ∨ (u = 2 ∧ w = 0) ∨ (u = 1 ∧ w = 0) ∨ (u = 2 ∧ w = 1) ∨ (u = 0 ∧ w = 2) := by
 obtain ⟨e, he, h⟩ := h
 simp only [p1, List.mem_cons, List.not_mem_nil, or_false] at he
 have q0 : g1.at 0 = (0, 1) := rfl
 have q1 : g1.at 1 = (1, 2) := rfl
 have q2 : g1.at 2 = (2, 0) := rfl
 rcases he with rfl | rfl | rfl
 ·rw [q0] at h; simp only [Prod.mk.injEq] at h; omega
 ·rw [q1] at h; simp only [Prod.mk.injEq] at h; omega
 rw [q2] at h; simp only [Prod.mk.injEq] at h; omega
theorem near01 : Near g1 p1 0 1 := ⟨0, by decide, Or.inl rfl⟩
theorem near02 : Near g1 p1 0 2 := ⟨2, by decide, Or.inr rfl⟩
theorem come1 (u : Int) : u ∈ ([0, 1, 2] : List Int) ↔ Come g1 p1 (-1) 0 u := by
 refine come_iff (by decide) (fun u hu => ?_) (fun u hu w hw _ => ?_) u
 ·simp only [List.mem_cons, List.not_mem_nil, or_false] at hu
  rcases hu with rfl | rfl | rfl
  ·exact .here
  ·exact Come.step .here near01 (by decide)
  exact Come.step .here near02 (by decide)
 have := near1 hw
 simp only [List.mem_cons, List.not_mem_nil, or_false]
 omega
theorem come3 (u : Int) : u ∈ ([3] : List Int) ↔ Come g1 p1 (-1) 3 u := by
 refine come_iff (by decide) (fun u hu => ?_) (fun u hu w hw _ => ?_) u
 ·rw [List.mem_singleton.1 hu]; exact .here
 have := near1 hw
 rw [List.mem_singleton.1 hu] at this
 omega
theorem comp1 : comp g1 p1 0 = [0, 1, 2] := by
 have : comp g1 p1 0 = p1.v.filter fun u => decide (u ∈ ([0, 1, 2] : List Int)) := by
  unfold comp
  exact List.filter_congr fun u _ => by rw [decide_eq_decide]; exact (come1 u).symm
 rw [this]; decide
theorem comp3 : comp g1 p1 3 = [3] := by
 have : comp g1 p1 3 = p1.v.filter fun u => decide (u ∈ ([3] : List Int)) := by
  unfold comp
  exact List.filter_congr fun u _ => by rw [decide_eq_decide]; exact (come3 u).symm
 rw [this]; decide
theorem roots1 : roots g1 p1 = [0, 3] := by
 have h1 : ∀ v : Int, v ∈ p1.v → ((∀ u ∈ p1.v, Come g1 p1 (-1) v u → v ≤ u) ↔ v = 0 ∨ v = 3) := by
  intro v hv
  constructor
  ·intro h
   simp only [p1, List.mem_cons, List.not_mem_nil, or_false] at hv
   rcases hv with rfl | rfl | rfl | rfl
   ·exact Or.inl rfl
   ·have := h 0 (by decide) (((come1 1).1 (by decide)).symm (by decide)).2; omega
   ·have := h 0 (by decide) (((come1 2).1 (by decide)).symm (by decide)).2; omega
   exact Or.inr rfl
  rintro (rfl | rfl)
  ·intro u hu _
   simp only [p1, List.mem_cons, List.not_mem_nil, or_false] at hu
   omega
  intro u _ hc
  have := (come3 u).2 hc
  simp only [List.mem_cons, List.not_mem_nil, or_false] at this
  omega
 have : roots g1 p1 = p1.v.filter fun v => decide (v = 0 ∨ v = 3) := by
  unfold roots
  exact List.filter_congr fun u hu => by rw [decide_eq_decide]; exact h1 u hu
 rw [this]; decide
theorem turns1 : TurnsOk g1 p1 t1 := by
 refine turns_of_rows part1 rfl fun v hv => ?_
 have hv : (v : Int) < 4 := hv
 rcases (show v = 0 ∨ v = 1 ∨ v = 2 ∨ v = 3 by omega) with rfl | rfl | rfl | rfl <;> (unfold rowOk; decide)
theorem trk1 : Trk g1 p1 t1 [(0, [0, 2, 4]), (1, [1, 5, 3])] p1.darts := by
 refine ⟨⟨fun c hc => ?_, by decide⟩, by decide, fun f hf => ?_, by decide, fun f hf => ?_, by decide⟩
 ·simp only [List.map_cons, List.map_nil, List.mem_cons, List.not_mem_nil, or_false] at hc
  rcases hc with rfl | rfl
  ·exact ⟨by decide, by decide, show nextDart g1 t1 4 = 0 by decide⟩
  exact ⟨by decide, by decide, show nextDart g1 t1 3 = 1 by decide⟩
 ·simp only [List.mem_cons, List.not_mem_nil, or_false] at hf
  rcases hf with rfl | rfl
  ·exact ⟨_, rfl⟩
  exact ⟨_, rfl⟩
 simp only [List.mem_cons, List.not_mem_nil, or_false] at hf
 rcases hf with rfl | rfl
 ·exact ⟨[], [1, 2, 3, 4, 5], by decide, by decide⟩
 exact ⟨[0], [2, 3, 4, 5], by decide, by decide⟩
theorem walks1 : WalksOk g1 p1 t1 w1 := trk1.walks part1
theorem walksOf1 : walksOf g1 p1 t1 = w1 := (walks1.eq err1).symm
theorem turnErr1 : turnErr g1 p1 t1 = 0 := turnErr_ok err1 turns1
theorem flat1 : Flat g1 p1 t1 := by
 intro r hr
 rw [walksOf1]
 rw [roots1] at hr
 unfold genusAt
 simp only [List.mem_cons, List.not_mem_nil, or_false] at hr
 rcases hr with rfl | rfl
 ·rw [comp1]; decide
 rw [comp3]; decide
theorem flatErr1 : flatErr g1 p1 t1 = 0 := flatErr_ok turnErr1 flat1
theorem pieceIx10 : pieceIx g1 p1 0 = 0 := pieceIx_eq part1 (by rw [roots1]; decide) (by rw [roots1]; show (0 : Int) ∈ comp g1 p1 0; rw [comp1]; decide)
theorem pieceIx11 : pieceIx g1 p1 1 = 0 := pieceIx_eq part1 (by rw [roots1]; decide) (by rw [roots1]; show (1 : Int) ∈ comp g1 p1 0; rw [comp1]; decide)
theorem pieceIx13 : pieceIx g1 p1 3 = 1 := pieceIx_eq part1 (by rw [roots1]; decide) (by rw [roots1]; show (3 : Int) ∈ comp g1 p1 3; rw [comp3]; decide)
theorem owner14 : ownerOf g1 p1 w1 (-4) = some 1 := by
 have : ownerOf g1 p1 w1 (-4) = some ((pieceIx g1 p1 3 : Nat) : Int) := rfl
 rw [this, pieceIx13]; rfl
theorem owner10 : ownerOf g1 p1 w1 0 = some 0 := by
 have : ownerOf g1 p1 w1 0 = some ((pieceIx g1 p1 0 : Nat) : Int) := rfl
 rw [this, pieceIx10]; rfl
theorem owner11 : ownerOf g1 p1 w1 1 = some 0 := by
 have : ownerOf g1 p1 w1 1 = some ((pieceIx g1 p1 1 : Nat) : Int) := rfl
 rw [this, pieceIx11]; rfl
theorem run1 {k : Int} (hk : k = 0 ∨ k = 1) : sameRun (ownerOf g1 p1 w1) [[-4, k]] (St.new (upTo 2), []) 1 = some ((St.new (upTo 2)).join 1 0, [-4, k]) := by
 have ho : ownerOf g1 p1 w1 k = some 0 := by rcases hk with rfl | rfl; exact owner10; exact owner11
 refine sameRun_next (c := (St.new (upTo 2), [])) rfl ?_ ?_
 ·rcases hk with rfl | rfl <;> decide
 refine listRun_next (c := (St.new (upTo 2), [-4])) (k := 1) ?_ ?_
 ·refine listRun_next (c := (St.new (upTo 2), [])) (k := 0) rfl ?_
  exact keyStep_first (a := 1) owner14 (by simp)
 refine keyStep_join (a := 0) (b := 1) (by decide) ho ?_ ?_ ?_ (by decide)
 ·rcases hk with rfl | rfl <;> decide
 ·rcases hk with rfl | rfl <;> decide
 show (ownerOf g1 p1 w1 (-4)).getD 0 = 1
 rw [owner14]; rfl
theorem plan1w {k : Int} (hk : k = 0 ∨ k = 1) : planErr g1 p1 t1 [[-4, k]] = 0 := by
 rw [planErr_run flatErr1, roots1, walksOf1]
 show (match sameRun (ownerOf g1 p1 w1) [[-4, k]] (St.new (upTo 2), []) 1 with | none => (7 : Int) | some c => if 1 < c.1.count then 7 else 0) = 0
 rw [run1 hk]
 show (if 1 < ((St.new (upTo 2)).join 1 0).count then (7 : Int) else 0) = 0
 decide
theorem sideJoin_ok (L : Int → Option Int) (p : Pt) (cy : List Int) (k : Nat) : (sideJoin L p cy k).Ok := by
 induction k with
 | zero => exact St.ok_nil
 | succ k ih =>
  by_cases h : p.e.getD k 0 ∈ cy.map (· / 2)
  ·rw [sideJoin_on h]; exact ih
  rw [sideJoin_off h]; exact ih.join _ _
theorem sideAdd_ok (L : Int → Option Int) (p : Pt) (cy : List Int) (k : Nat) : (sideAdd L p cy k).Ok := by
 induction k with
 | zero => exact sideJoin_ok L p cy _
 | succ k ih => rw [sideAdd_succ]; exact (ih.put _).put _
def sideRel (L : Int → Option Int) (p : Pt) (cy : List Int) (x y : Int) : Prop := (sideJoin L p cy p.e.length).rel x y
theorem sideAdd_rel (L : Int → Option Int) (p : Pt) (cy : List Int) (k : Nat) (x y : Int) : (sideAdd L p cy k).rel x y ↔ sideRel L p cy x y := by
 induction k with
 | zero => exact Iff.rfl
 | succ k ih => rw [sideAdd_succ, St.rel_put ((sideAdd_ok L p cy k).put _), St.rel_put (sideAdd_ok L p cy k)]; exact ih
theorem sideNo_iff (L : Int → Option Int) (p : Pt) (cy : List Int) (r : Int) : (r = sideHead L cy ∨ (sideAdd L p cy cy.length).same r (sideHead L cy) = true) ↔ sideRel L p cy r (sideHead L cy) := sideAdd_rel L p cy cy.length r _
theorem sideNo_rel {L : Int → Option Int} {p : Pt} {cy : List Int} {r s : Int} (h : sideRel L p cy r s) : sideNo L p cy r = sideNo L p cy s := by
 unfold sideNo
 by_cases h1 : r = sideHead L cy ∨ (sideAdd L p cy cy.length).same r (sideHead L cy) = true
 ·rw [if_pos h1, if_pos ((sideNo_iff L p cy s).2 (St.rel_trans (St.rel_symm h) ((sideNo_iff L p cy r).1 h1)))]
 rw [if_neg h1, if_neg fun h2 => h1 ((sideNo_iff L p cy r).2 (St.rel_trans h ((sideNo_iff L p cy s).1 h2)))]
theorem sideJoin_mono {L : Int → Option Int} {p : Pt} {cy : List Int} {x y : Int} {k : Nat} (h : (sideJoin L p cy k).rel x y) (m : Nat) : (sideJoin L p cy (k + m)).rel x y := by
 induction m with
 | zero => exact h
 | succ m ih =>
  by_cases q : p.e.getD (k + m) 0 ∈ cy.map (· / 2)
  ·rw [← Nat.add_assoc, sideJoin_on q]; exact ih
  rw [← Nat.add_assoc, sideJoin_off q, St.rel_join (sideJoin_ok L p cy _)]; exact Or.inl ih
theorem sideRel_edge {L : Int → Option Int} {p : Pt} {cy : List Int} {e : Int} (he : e ∈ p.e) (hn : e ∉ cy.map (· / 2)) : sideRel L p cy (lf L (2 * e)) (lf L (2 * e + 1)) := by
 obtain ⟨k, hk, rfl⟩ := mem_getD he
 have h1 : (sideJoin L p cy (k + 1)).rel (lf L (2 * p.e.getD k 0)) (lf L (2 * p.e.getD k 0 + 1)) := by
  rw [sideJoin_off hn]; exact St.rel_joined (sideJoin_ok L p cy k) _ _
 have := sideJoin_mono h1 (p.e.length - (k + 1))
 rwa [show k + 1 + (p.e.length - (k + 1)) = p.e.length by omega] at this
theorem sideRel_least {L : Int → Option Int} {p : Pt} {cy : List Int} {R : Int → Int → Prop} (hr : ∀ x, R x x) (hs : ∀ x y, R x y → R y x) (ht : ∀ x y z, R x y → R y z → R x z) (he : ∀ e ∈ p.e, e ∉ cy.map (· / 2) → R (lf L (2 * e)) (lf L (2 * e + 1))) {x y : Int} (h : sideRel L p cy x y) : R x y := by
 have key : ∀ k, k ≤ p.e.length → ∀ x y, (sideJoin L p cy k).rel x y → R x y := by
  intro k
  induction k with
  | zero => intro _ x y h; obtain rfl := St.rel_nil.1 h; exact hr x
  | succ k ih =>
   intro hk x y h
   have ih := ih (by omega)
   by_cases q : p.e.getD k 0 ∈ cy.map (· / 2)
   ·rw [sideJoin_on q] at h; exact ih x y h
   rw [sideJoin_off q, St.rel_join (sideJoin_ok L p cy k)] at h
   have hR := he _ (getD_mem (show k < p.e.length by omega)) q
   rcases h with h | ⟨h1, h2⟩ | ⟨h1, h2⟩
   ·exact ih x y h
   ·exact ht _ _ _ (ih _ _ h1) (ht _ _ _ hR (ih _ _ h2))
   exact ht _ _ _ (ih _ _ h1) (ht _ _ _ (hs _ _ hR) (ih _ _ h2))
 exact key _ (Nat.le_refl _) x y h
theorem ring_mem {q : Int → Int} {c : List Int} {x : Int} (h : Ring q c) (hx : x ∈ c) : q x ∈ c := by
 obtain ⟨l, hr, hl⟩ := h.from hx
 refine hl.mem_iff.1 ?_
 cases l with
 | nil => have e : q x = x := hr; rw [e]; simp
 | cons y m => have e : q x = y := hr.1; rw [e]; simp
theorem left_next {g : Gr} {p : Pt} {turn : List (List Int)} {W : List Face} (ll : List (List Int)) (hpe : p.err g = 0) (hW : WalksOk g p turn W) {x : Int} (hx : x ∈ p.darts) : leftOf ll W (nextDart g turn x) = leftOf ll W x ∧ (leftOf ll W x).isSome = true := by
 obtain ⟨F, e, hT⟩ := hW.split
 obtain ⟨l, hl, hxl⟩ := List.mem_flatten.1 (hT.cover x hx)
 obtain ⟨f, hf, rfl⟩ := List.mem_map.1 hl
 have hn := ring_mem (hT.rings.ring f.2 hl) hxl
 have hfW : f ∈ W := by rw [e]; exact List.mem_append.2 (Or.inr hf)
 obtain ⟨i, hi, hfi⟩ := List.getElem_of_mem hfW
 have hm : marks f = f.2 := marks_some (by intro q; rw [q] at hxl; simp at hxl)
 have hp8 := places8_getD hi
 rw [show W.getD i (0, []) = f by simp [List.getD, hi, hfi], hm] at hp8
 have hnd := places_nodup hpe hW
 have hi8 : i < (places8 W).length := by rw [places8_len]; exact hi
 unfold leftOf
 rw [regionAt_hit hnd hi8 (by rw [hp8]; exact hn), regionAt_hit hnd hi8 (by rw [hp8]; exact hxl)]
 exact ⟨rfl, rfl⟩
theorem twin_cases (d : Int) : (d = 2 * (d / 2) ∧ twin d = 2 * (d / 2) + 1) ∨ (d = 2 * (d / 2) + 1 ∧ twin d = 2 * (d / 2)) := by unfold twin; split <;> omega
theorem side_twin {L : Int → Option Int} {p : Pt} {cy : List Int} {d : Int} (hd : d ∈ p.darts) (hn : d / 2 ∉ cy.map (· / 2)) (h1 : (L d).isSome = true) (h2 : (L (twin d)).isSome = true) : sideOf L p cy (twin d) = sideOf L p cy d := by
 have hr := sideRel_edge (L := L) (cy := cy) (mem_darts.1 hd) hn
 have hs : sideNo L p cy (lf L d) = sideNo L p cy (lf L (twin d)) := by
  rcases twin_cases d with ⟨e1, e2⟩ | ⟨e1, e2⟩
  ·rw [e2, show lf L d = lf L (2 * (d / 2)) from congrArg (lf L) e1]
   exact sideNo_rel hr
  rw [e2, show lf L d = lf L (2 * (d / 2) + 1) from congrArg (lf L) e1]
  exact (sideNo_rel hr).symm
 unfold sideOf
 unfold lf at hs
 cases e1 : L d with
 | none => rw [e1] at h1; cases h1
 | some a =>
  cases e2 : L (twin d) with
  | none => rw [e2] at h2; cases h2
  | some b =>
   rw [e1, e2] at hs
   simp only [Option.map_some]
   exact congrArg some hs.symm
theorem side_around {g : Gr} {p : Pt} {turn : List (List Int)} {W : List Face} {ll : List (List Int)} {cy : List Int} (hpe : p.err g = 0) (ht : TurnsOk g p turn) (hW : WalksOk g p turn W) {v : Int} (h0 : 0 ≤ v) (hv : v < g.n) (hn : ∀ d ∈ p.darts, g.tail d = v → d / 2 ∉ cy.map (· / 2)) {d : Int} (hd : d ∈ p.darts) (hdv : g.tail d = v) :
  sideOf (leftOf ll W) p cy (seat turn v) = sideOf (leftOf ll W) p cy d := by
 have hdt := (ht.mem v h0 hv d).2 ⟨hd, hdv⟩
 have hl : 0 < (turnAt turn v).length := List.length_pos_of_mem hdt
 have step : ∀ x ∈ turnAt turn v, sideOf (leftOf ll W) p cy (ahead (turnAt turn v) x) = sideOf (leftOf ll W) p cy x := by
  intro x hx
  obtain ⟨h1, h2⟩ := (ht.mem v h0 hv x).1 hx
  have h3 := left_next ll hpe hW (twin_mem h1)
  have h4 := left_next ll hpe hW h1
  have e : nextDart g turn (twin x) = ahead (turnAt turn v) x := by unfold nextDart before; rw [twin_twin, h2]
  rw [e] at h3
  have e2 : sideOf (leftOf ll W) p cy (ahead (turnAt turn v) x) = sideOf (leftOf ll W) p cy (twin x) := by unfold sideOf; rw [h3.1]
  rw [e2]
  exact side_twin h1 (hn x h1 h2) h4.2 h3.2
 have all : ∀ i, i < (turnAt turn v).length → sideOf (leftOf ll W) p cy ((turnAt turn v).getD i 0) = sideOf (leftOf ll W) p cy ((turnAt turn v).getD 0 0) := by
  intro i
  induction i with
  | zero => intro _; rfl
  | succ i ih =>
   intro hi
   have hs := step _ (getD_mem hi)
   have ha : ahead (turnAt turn v) ((turnAt turn v).getD (i + 1) 0) = (turnAt turn v).getD i 0 := by
    unfold ahead
    rw [idxOf_at (ht.nodup v) hi, show i + 1 + (turnAt turn v).length - 1 = i + (turnAt turn v).length by omega, Nat.add_mod_right, Nat.mod_eq_of_lt (by omega)]
   rw [ha] at hs
   rw [← hs]
   exact ih (by omega)
 obtain ⟨i, hi, rfl⟩ := mem_getD hdt
 unfold seat
 rw [if_pos hl]
 exact (all i hi).symm
theorem cyc_split {g : Gr} {p : Pt} {cy : List Int} (h : cycOk g p cy = true) : p.err g = 0 ∧ 0 < cy.length ∧ (∀ k, k < cy.length → dartAt p cy k = true) ∧ ∀ k, k < cy.length → cycAt g cy k = true := by
 unfold cycOk at h
 rw [Bool.and_eq_true, Bool.and_eq_true, Bool.and_eq_true] at h
 obtain ⟨⟨⟨h0, h1⟩, h2⟩, h3⟩ := h
 refine ⟨of_decide_eq_true h0, ?_, fun k hk => List.all_eq_true.1 h2 k (List.mem_range.2 hk), fun k hk => List.all_eq_true.1 h3 k (List.mem_range.2 hk)⟩
 cases cy with
 | nil => cases h1
 | cons a l => simp
theorem cyc_mem {g : Gr} {p : Pt} {cy : List Int} (h : cycOk g p cy = true) {d : Int} (hd : d ∈ cy) : d ∈ p.darts := by
 obtain ⟨i, hi, rfl⟩ := mem_getD hd
 have := (cyc_split h).2.2.1 i hi
 unfold dartAt at this
 exact mem_darts.2 (of_decide_eq_true this).2
theorem cyc_head {g : Gr} {p : Pt} {cy : List Int} (h : cycOk g p cy = true) {i : Nat} (hi : i < cy.length) : g.head (cy.getD i 0) ∈ cy.map g.tail := by
 have h3 := (cyc_split h).2.2.2
 have key : ∀ k, k < cy.length → g.head (befAt cy k) ∈ cy.map g.tail := fun k hk => by
  have := h3 k hk
  unfold cycAt at this
  rw [Bool.and_eq_true] at this
  rw [of_decide_eq_true this.2]
  exact List.mem_map.2 ⟨_, getD_mem hk, rfl⟩
 by_cases e : i + 1 < cy.length
 ·have := key (i + 1) e
  rwa [befAt_succ] at this
 have := key 0 (by omega)
 rwa [befAt_zero, show cy.length - 1 = i by omega] at this
theorem cyc_ends {g : Gr} {p : Pt} {cy : List Int} (h : cycOk g p cy = true) {d : Int} (hd : d / 2 ∈ cy.map (· / 2)) : g.tail d ∈ cy.map g.tail := by
 obtain ⟨x, hx, e⟩ := List.mem_map.1 hd
 have e : x / 2 = d / 2 := e
 by_cases q : d = x
 ·rw [q]; exact List.mem_map.2 ⟨x, hx, rfl⟩
 have : d = twin x := by unfold twin; split <;> omega
 rw [this, tail_twin]
 obtain ⟨i, hi, rfl⟩ := mem_getD hx
 exact cyc_head h hi
end Go.Proofs.Ytckjpaimbmlboaa.Plain
