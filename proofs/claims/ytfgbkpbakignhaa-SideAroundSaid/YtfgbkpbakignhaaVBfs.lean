/- Spreading out, in plain words: what has been met, what is still to do. No program here. -/
import Derived.Test.YtfgbkpbakignhaaVSums
namespace Go.Proofs.Ytfgbkpbakignhaa.Plain

/-- How many vertices have not been met. -/
def left (p : Pt) (f : Int → Option Int) : Nat := (p.v.filter fun u => (f u).isNone).length

theorem left_put {p : Pt} {f : Int → Option Int} {x c : Int} (hn : p.v.Nodup) (hx : x ∈ p.v) (hf : f x = none) : left p (fun y => if y = x then some c else f y) + 1 = left p f := by
  unfold left
  generalize p.v = l at *
  have none_ : ∀ {l : List Int}, x ∉ l → (l.filter fun u => (if u = x then some c else f u).isNone) = l.filter fun u => (f u).isNone := by
    intro l hl
    refine List.filter_congr fun u hu => ?_
    rw [if_neg (fun e => hl (by rw [← e]; exact hu))]
  induction l with
  | nil => simp at hx
  | cons y l ih =>
    rw [List.nodup_cons] at hn
    by_cases e : y = x
    · subst e
      rw [List.filter_cons_of_neg (by simp), List.filter_cons_of_pos (by simp [hf]), none_ hn.1]
      rfl
    · have hx' : x ∈ l := (List.mem_cons.1 hx).resolve_left (fun q => e q.symm)
      have := ih hn.2 hx'
      cases hy : f y with
      | none => rw [List.filter_cons_of_pos (by simp [e, hy]), List.filter_cons_of_pos (by simp [hy]), List.length_cons, List.length_cons]; omega
      | some z => rw [List.filter_cons_of_neg (by simp [e, hy]), List.filter_cons_of_neg (by simp [hy])]; exact this

structure Bfs (g : Gr) (p : Pt) (shut a : Int) (f : Int → Option Int) (m : Nat) : Prop where
  base : f a ≠ none
  come : ∀ u, f u ≠ none → Come g p shut a u
  inV : ∀ u, f u ≠ none → u ∈ p.v
  val : ∀ u c, f u = some c → 0 ≤ c ∧ c + (left p f : Int) ≤ p.v.length
  cnt : m + left p f ≤ p.v.length

/-- All beside u has been met. -/
def Done (g : Gr) (p : Pt) (shut : Int) (f : Int → Option Int) (u : Int) : Prop := ∀ x, Near g p u x → x ≠ shut → f x ≠ none

theorem Bfs.start {g : Gr} {p : Pt} {shut a : Int} (hp : PartOk g p) (ha : a ∈ p.v) : Bfs g p shut a (fun y => if y = a then some 0 else none) (0 + 1) := by
  have hl := left_put (f := fun _ => none) (c := 0) hp.vn ha rfl
  have h0 : left p (fun _ => none) = p.v.length := by unfold left; rw [List.filter_eq_self.2 (by simp)]
  refine ⟨by simp, fun u hu => ?_, fun u hu => ?_, fun u c hu => ?_, by omega⟩
  · by_cases e : u = a
    · subst e; exact .here
    · simp [e] at hu
  · by_cases e : u = a
    · subst e; exact ha
    · simp [e] at hu
  · by_cases e : u = a
    · simp [e] at hu; subst hu; omega
    · simp [e] at hu

theorem Bfs.add {g : Gr} {p : Pt} {shut a v x c : Int} {f : Int → Option Int} {m : Nat} (h : Bfs g p shut a f m) (hp : PartOk g p) (hx : x ∈ p.v) (hn : Near g p v x) (hs : x ≠ shut) (hv : f v = some c) (hf : f x = none) : Bfs g p shut a (fun y => if y = x then some (c + 1) else f y) (m + 1) := by
  have hl := left_put (f := f) (c := c + 1) hp.vn hx hf
  have hc := h.val v c hv
  have hm := h.cnt
  refine ⟨?_, fun u hu => ?_, fun u hu => ?_, fun u d hu => ?_, by omega⟩
  · show (if a = x then some (c + 1) else f a) ≠ none
    by_cases e : a = x
    · simp [e]
    · rw [if_neg e]; exact h.base
  · by_cases e : u = x
    · subst e; exact (h.come v (by rw [hv]; simp)).step hn hs
    · exact h.come u (by simpa [e] using hu)
  · by_cases e : u = x
    · subst e; exact hx
    · exact h.inV u (by simpa [e] using hu)
  · by_cases e : u = x
    · simp [e] at hu; subst hu; omega
    · have := h.val u d (by simpa [e] using hu); omega

theorem Done.add {g : Gr} {p : Pt} {shut u x c : Int} {f : Int → Option Int} (h : Done g p shut f u) : Done g p shut (fun y => if y = x then some c else f y) u := by
  intro z hz hs
  show (if z = x then some c else f z) ≠ none
  by_cases e : z = x
  · simp [e]
  · rw [if_neg e]; exact h z hz hs

/-- The darts that leave a vertex: what they come to is beside it. -/
theorem near_iff {g : Gr} {p : Pt} (_hp : PartOk g p) {u x : Int} : Near g p u x ↔ ∃ d ∈ p.darts.filter fun d => decide (g.tail d = u), g.head d = x := by
  constructor
  · rintro ⟨e, he, h | h⟩
    · have h1 := tail_even g e
      refine ⟨2 * e, List.mem_filter.2 ⟨mem_darts.2 (by rwa [show 2 * e / 2 = e by omega]), ?_⟩, ?_⟩
      · rw [h1.1, h]; simp
      · rw [h1.2, h]
    · have hd : 2 * e ∈ p.darts := mem_darts.2 (by rwa [show 2 * e / 2 = e by omega])
      have h1 := tail_even g e
      refine ⟨twin (2 * e), List.mem_filter.2 ⟨twin_mem hd, ?_⟩, ?_⟩
      · rw [tail_twin, h1.2, h]; simp
      · rw [← tail_twin, twin_twin, h1.1, h]
  · rintro ⟨d, hd, rfl⟩
    obtain ⟨h1, h2⟩ := List.mem_filter.1 hd
    have h2 : g.tail d = u := by simpa using h2
    rw [← h2]
    exact near_dart h1

/-- All that has been met is done: it is all that can be come to. -/
theorem Bfs.all {g : Gr} {p : Pt} {shut a : Int} {f : Int → Option Int} {m : Nat} (h : Bfs g p shut a f m) (hd : ∀ u, f u ≠ none → Done g p shut f u) (v : Int) : f v ≠ none ↔ Come g p shut a v := by
  refine ⟨h.come v, fun hc => ?_⟩
  induction hc with
  | here => exact h.base
  | step _ hn hs ih => exact hd _ ih _ hn hs
end Go.Proofs.Ytfgbkpbakignhaa.Plain
