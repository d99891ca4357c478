/- Permutations in rings: swapping two things makes one ring more or less; the parity of a product. No program here. -/
import Derived.WalkKit
namespace Go.Proofs.YtpcgklagmcnhaaaGreat.Plain
def Trail (p : Int → Int) : Int → List Int → Int → Prop
 | x, [], z => p x = z
 | x, y :: l, z => p x = y ∧ Trail p y l z
def Ring (p : Int → Int) : List Int → Prop
 | [] => False
 | x :: l => Trail p x l x
structure Rings (p : Int → Int) (C : List (List Int)) : Prop where
 ring : ∀ c ∈ C, Ring p c
 nodup : C.flatten.Nodup
def swp (a b x : Int) : Int := if x = a then b else if x = b then a else x
structure Gr where
 n : Int
 e : List (Int × Int)
structure Pt where
 v : List Int
 e : List Int
def Gr.ends (g : Gr) (i : Nat) : Int × Int := g.e.getD i (0, 0)
def Gr.at (g : Gr) (i : Int) : Int × Int := g.ends i.toNat
def Gr.okEdge (g : Gr) (i : Nat) : Bool := !(decide ((g.ends i).1 < 0) || decide (g.n ≤ (g.ends i).1) || decide ((g.ends i).2 < 0) || decide (g.n ≤ (g.ends i).2))
def Gr.err (g : Gr) : Int := if g.n < 0 then 3 else if 1024 < g.n ∨ 1024 - g.n < (g.e.length : Int) then 2 else if (List.range g.e.length).all g.okEdge then 0 else 3
def risesAt (l : List Int) (n : Int) (i : Nat) : Bool := !(decide (l.getD i 0 < 0) || decide (n ≤ l.getD i 0) || (decide (0 < i) && decide (l.getD i 0 ≤ l.getD (i - 1) 0)))
def rises (l : List Int) (n : Int) : Bool := (List.range l.length).all (risesAt l n)
def Pt.okEdge (g : Gr) (p : Pt) (i : Nat) : Bool := decide ((g.ends (p.e.getD i 0).toNat).1 ∈ p.v) && decide ((g.ends (p.e.getD i 0).toNat).2 ∈ p.v)
def Pt.err (g : Gr) (p : Pt) : Int := if g.err ≠ 0 then g.err else if !(rises p.v g.n && rises p.e g.e.length) then 4 else if (List.range p.e.length).all (p.okEdge g) then 0 else 4
theorem all_range_succ (p : Nat → Bool) (k : Nat) : (List.range (k + 1)).all p = ((List.range k).all p && p k) := by
 grind
theorem all_range_false {p : Nat → Bool} {k n : Nat} (hk : k < n) (h : p k = false) : (List.range n).all p = false := by
 grind
theorem Gr.err_ok {g : Gr} (h : g.err = 0) : 0 ≤ g.n ∧ g.n ≤ 1024 ∧ (g.e.length : Int) ≤ 1024 - g.n ∧ ∀ i, i < g.e.length → 0 ≤ (g.ends i).1 ∧ (g.ends i).1 < g.n ∧ 0 ≤ (g.ends i).2 ∧ (g.ends i).2 < g.n := by
 unfold Gr.err at h
 split at h
 ·simp at h
 split at h
 ·simp at h
 split at h
 ·rename_i h1 h2 h3
  refine ⟨by omega, by omega, by omega, fun i hi => ?_⟩
  have := List.all_eq_true.1 h3 i (List.mem_range.2 hi)
  simp only [Gr.okEdge, Bool.not_eq_true', Bool.or_eq_false_iff, decide_eq_false_iff_not] at this
  omega
 simp at h
theorem rises_at {l : List Int} {n : Int} (h : rises l n = true) {i : Nat} (hi : i < l.length) : 0 ≤ l.getD i 0 ∧ l.getD i 0 < n ∧ (0 < i → l.getD (i - 1) 0 < l.getD i 0) := by
 have := List.all_eq_true.1 h i (List.mem_range.2 hi)
 grind [risesAt]
theorem rises_lt {l : List Int} {n : Int} (h : rises l n = true) {i j : Nat} (hij : i < j) (hj : j < l.length) : l.getD i 0 < l.getD j 0 := by
 induction j with
 | zero => omega
 | succ j ih =>
  have h1 := (rises_at h hj).2.2 (by omega)
  all_goals grind
theorem rises_pair {l : List Int} {n : Int} (h : rises l n = true) : l.Pairwise (· < ·) := by
 rw [List.pairwise_iff_getElem]
 intro i j hi hj hij
 have := rises_lt h hij hj
 grind
theorem rises_nodup {l : List Int} {n : Int} (h : rises l n = true) : l.Nodup := by
 refine (rises_pair h).imp ?_
 grind
theorem Pt.err_ok {g : Gr} {p : Pt} (h : p.err g = 0) : g.err = 0 ∧ rises p.v g.n = true ∧ rises p.e g.e.length = true ∧ ∀ i, i < p.e.length → (g.ends (p.e.getD i 0).toNat).1 ∈ p.v ∧ (g.ends (p.e.getD i 0).toNat).2 ∈ p.v := by
 unfold Pt.err at h
 split at h
 ·rename_i h1; exact absurd h h1
 rename_i h1
 split at h
 ·simp at h
 rename_i h2
 split at h
 ·rename_i h3
  simp only [Bool.not_eq_true', Bool.and_eq_false_iff, not_or, Bool.not_eq_false] at h2
  refine ⟨by simpa using h1, h2.1, h2.2, fun i hi => ?_⟩
  have := List.all_eq_true.1 h3 i (List.mem_range.2 hi)
  simpa [Pt.okEdge] using this
 simp at h
def Near (g : Gr) (p : Pt) (u w : Int) : Prop := ∃ e ∈ p.e, (g.at e = (u, w) ∨ g.at e = (w, u))
theorem Near.symm {g : Gr} {p : Pt} {u w : Int} (h : Near g p u w) : Near g p w u := by
 obtain ⟨e, he, h⟩ := h
 exact ⟨e, he, h.symm⟩
inductive Come (g : Gr) (p : Pt) (shut : Int) (a : Int) : Int → Prop
 | here : Come g p shut a a
 | step {u w : Int} : Come g p shut a u → Near g p u w → w ≠ shut → Come g p shut a w
theorem Come.trans {g : Gr} {p : Pt} {s a b c : Int} (h : Come g p s a b) (k : Come g p s b c) : Come g p s a c := by
 induction k with
 | here => exact h
 | step _ hn hs ih => exact ih.step hn hs
theorem Come.symm {g : Gr} {p : Pt} {s a b : Int} (ha : a ≠ s) (h : Come g p s a b) : b ≠ s ∧ Come g p s b a := by
 induction h with
 | here => exact ⟨ha, .here⟩
 | step h1 hn hs ih => exact ⟨hs, Come.trans (Come.step .here hn.symm ih.1) ih.2⟩
noncomputable def comp (g : Gr) (p : Pt) (a : Int) : List Int := by
 classical
 exact p.v.filter fun u => decide (Come g p (-1) a u)
open Classical in
theorem mem_comp {g : Gr} {p : Pt} {a u : Int} : u ∈ comp g p a ↔ u ∈ p.v ∧ Come g p (-1) a u := by
 grind [comp]
noncomputable def roots (g : Gr) (p : Pt) : List Int := by
 classical
 exact p.v.filter fun v => decide (∀ u ∈ p.v, Come g p (-1) v u → v ≤ u)
open Classical in
theorem mem_roots {g : Gr} {p : Pt} {v : Int} : v ∈ roots g p ↔ v ∈ p.v ∧ ∀ u ∈ p.v, Come g p (-1) v u → v ≤ u := by
 grind [roots]
theorem exists_least : ∀ {l : List Int}, l ≠ [] → ∃ a ∈ l, ∀ b ∈ l, a ≤ b
 | [], h => absurd rfl h
 | [x], _ => ⟨x, by simp, by simp⟩
 | x :: y :: l, _ => by
  obtain ⟨a, ha, hl⟩ := exists_least (l := y :: l) (by simp)
  by_cases q : x ≤ a
  ·exact ⟨x, by simp, fun b hb => by rcases List.mem_cons.1 hb with rfl | hb; omega; have := hl b hb; omega⟩
  exact ⟨a, List.mem_cons_of_mem _ ha, fun b hb => by rcases List.mem_cons.1 hb with rfl | hb; omega; exact hl b hb⟩
theorem root_of {g : Gr} {p : Pt} (hv : ∀ v ∈ p.v, 0 ≤ v) {u : Int} (hu : u ∈ p.v) : ∃ r ∈ roots g p, Come g p (-1) r u := by
 obtain ⟨r, hr, hl⟩ := exists_least (l := comp g p u) (fun e => by have : u ∈ comp g p u := mem_comp.2 ⟨hu, .here⟩; rw [e] at this; simp at this)
 obtain ⟨hr1, hr2⟩ := mem_comp.1 hr
 have hsy := (hr2.symm (by grind)).2
 exact ⟨r, mem_roots.2 ⟨hr1, fun x hx hc => hl x (mem_comp.2 ⟨hx, hr2.trans hc⟩)⟩, hsy⟩
theorem root_one {g : Gr} {p : Pt} (hv : ∀ v ∈ p.v, 0 ≤ v) {u r r' : Int} (hr : r ∈ roots g p) (hr' : r' ∈ roots g p) (h : Come g p (-1) r u) (h' : Come g p (-1) r' u) : r = r' := by
 obtain ⟨h1, h2⟩ := mem_roots.1 hr
 obtain ⟨k1, k2⟩ := mem_roots.1 hr'
 have e1 := h2 r' k1 (h.trans (h'.symm (by grind)).2)
 have e2 := k2 r h1 (h'.trans (h.symm (by grind)).2)
 omega
end Go.Proofs.YtpcgklagmcnhaaaGreat.Plain
namespace Go.Proofs.YtpcgklagmcnhaaaGreat.Plain
def twin (d : Int) : Int := if d % 2 = 0 then d + 1 else d - 1
def Gr.tail (g : Gr) (d : Int) : Int := if d % 2 = 0 then (g.at (d / 2)).1 else (g.at (d / 2)).2
def Gr.head (g : Gr) (d : Int) : Int := if d % 2 = 0 then (g.at (d / 2)).2 else (g.at (d / 2)).1
def Pt.darts (p : Pt) : List Int := p.e.flatMap fun e => [2 * e, 2 * e + 1]
theorem twin_twin (d : Int) : twin (twin d) = d := by grind [twin]
theorem twin_div (d : Int) : twin d / 2 = d / 2 := by grind [twin]
theorem tail_twin (g : Gr) (d : Int) : g.tail (twin d) = g.head d := by
 all_goals grind [Gr.tail, Gr.head, twin_div, twin]
theorem mem_darts {p : Pt} {d : Int} : d ∈ p.darts ↔ d / 2 ∈ p.e := by
 all_goals grind [Pt.darts]
theorem twin_mem {p : Pt} {d : Int} (h : d ∈ p.darts) : twin d ∈ p.darts := by grind [mem_darts, twin_div]
theorem darts_nodup {p : Pt} (h : p.e.Nodup) : p.darts.Nodup := by
 grind [Pt.darts, mem_darts]
theorem darts_length (p : Pt) : p.darts.length = 2 * p.e.length := by
 unfold Pt.darts
 generalize p.e = l
 induction l with
 | nil => rfl
 | cons e l ih => rw [List.flatMap_cons, List.length_append, ih]; simp; omega
def ahead (l : List Int) (x : Int) : Int := l.getD ((l.idxOf x + l.length - 1) % l.length) 0
def behind (l : List Int) (x : Int) : Int := l.getD ((l.idxOf x + 1) % l.length) 0
end Go.Proofs.YtpcgklagmcnhaaaGreat.Plain
