/- On which side of a cycle a drawing's places are, plainly. No program here. -/
import Derived.Test.YtfgbkpbakignhaaVAwkM
import Derived.Test.YtfgbkpbakignhaaVRefW
import Derived.Test.YtfgbkpbakignhaaVBase
namespace Go.Proofs.Ytfgbkpbakignhaa.Plain

/-- What is to the left of a place, or 0. -/
def lf (L : Int → Option Int) (d : Int) : Int := (L d).getD 0
/-- The regions that are joined over the part's first k edges that are not the cycle's. -/
def sideJoin (L : Int → Option Int) (p : Pt) (cy : List Int) : Nat → St
  | 0 => ⟨[], []⟩
  | k + 1 => if p.e.getD k 0 ∈ cy.map (· / 2) then sideJoin L p cy k else (sideJoin L p cy k).join (lf L (2 * p.e.getD k 0)) (lf L (2 * p.e.getD k 0 + 1))
/-- .. with those at both sides of the cycle's first k darts put in. -/
def sideAdd (L : Int → Option Int) (p : Pt) (cy : List Int) : Nat → St
  | 0 => sideJoin L p cy p.e.length
  | k + 1 => ((sideAdd L p cy k).put (lf L (cy.getD k 0))).put (lf L (twin (cy.getD k 0)))
/-- The region to the left of the cycle's first dart. -/
def sideHead (L : Int → Option Int) (cy : List Int) : Int := lf L (cy.getD 0 0)
def sideNo (L : Int → Option Int) (p : Pt) (cy : List Int) (r : Int) : Int := if r = sideHead L cy ∨ (sideAdd L p cy cy.length).same r (sideHead L cy) = true then 1 else 2
/-- The side of a place. -/
def sideOf (L : Int → Option Int) (p : Pt) (cy : List Int) (y : Int) : Option Int := (L y).map (sideNo L p cy)

theorem sideJoin_on {L : Int → Option Int} {p : Pt} {cy : List Int} {k : Nat} (h : p.e.getD k 0 ∈ cy.map (· / 2)) : sideJoin L p cy (k + 1) = sideJoin L p cy k := if_pos h
theorem sideJoin_off {L : Int → Option Int} {p : Pt} {cy : List Int} {k : Nat} (h : p.e.getD k 0 ∉ cy.map (· / 2)) : sideJoin L p cy (k + 1) = (sideJoin L p cy k).join (lf L (2 * p.e.getD k 0)) (lf L (2 * p.e.getD k 0 + 1)) := if_neg h
theorem sideAdd_succ (L : Int → Option Int) (p : Pt) (cy : List Int) (k : Nat) : sideAdd L p cy (k + 1) = ((sideAdd L p cy k).put (lf L (cy.getD k 0))).put (lf L (twin (cy.getD k 0))) := rfl
theorem join_len (s : St) (x y : Int) : (s.join x y).all.length ≤ s.all.length + 2 := by
  rw [St.join_eq]
  have h1 := (s.len_put x).2
  have h2 := ((s.put x).len_put y).2
  show ((s.put x).put y).all.length ≤ _
  omega
theorem sideJoin_len (L : Int → Option Int) (p : Pt) (cy : List Int) (k : Nat) : (sideJoin L p cy k).all.length ≤ 2 * k := by
  induction k with
  | zero => simp [sideJoin]
  | succ k ih =>
    by_cases h : p.e.getD k 0 ∈ cy.map (· / 2)
    · rw [sideJoin_on h]; omega
    · rw [sideJoin_off h]
      have := join_len (sideJoin L p cy k) (lf L (2 * p.e.getD k 0)) (lf L (2 * p.e.getD k 0 + 1))
      omega
theorem sideAdd_len (L : Int → Option Int) (p : Pt) (cy : List Int) (k : Nat) : (sideAdd L p cy k).all.length ≤ 2 * p.e.length + 2 * k := by
  induction k with
  | zero => have := sideJoin_len L p cy p.e.length; simpa [sideAdd] using this
  | succ k ih =>
    rw [sideAdd_succ]
    have h1 := ((sideAdd L p cy k).len_put (lf L (cy.getD k 0))).2
    have h2 := (((sideAdd L p cy k).put (lf L (cy.getD k 0))).len_put (lf L (twin (cy.getD k 0)))).2
    omega
/-- The cycle's first k edges are those that lastAt has met. -/
theorem lastAt_mem {cy : List Int} {e : Int} : (lastAt (· / 2) cy cy.length e).isSome = decide (e ∈ cy.map (· / 2)) := by
  by_cases h : e ∈ cy.map (· / 2)
  · rw [decide_eq_true h]
    cases hl : lastAt (· / 2) cy cy.length e with
    | some _ => rfl
    | none =>
      obtain ⟨d, hd, e1⟩ := List.mem_map.1 h
      obtain ⟨i, hi, rfl⟩ := mem_getD hd
      exact absurd e1 (lastAt_none.1 hl i hi)
  · rw [decide_eq_false h, lastAt_none.2 fun i hi q => h (List.mem_map.2 ⟨_, getD_mem hi, q⟩)]
    rfl
theorem numOf_i64 {L : Int → Option Int} (h : ∀ y v, L y = some v → 0 ≤ v ∧ v < 1000000000) (y : Int) : 0 ≤ lf L y ∧ lf L y < 1000000000 := by
  unfold lf
  cases e : L y with
  | none => exact ⟨by simp, by simp⟩
  | some v => exact h y v e
theorem leftOf_small {ll : List (List Int)} (W : List Face) (hl : ll.length ≤ 30000) (y v : Int) (h : leftOf ll W y = some v) : 0 ≤ v ∧ v < 1000000000 := by
  unfold leftOf at h
  cases e : regionAt (places8 W) y with
  | none => rw [e] at h; cases h
  | some k =>
    rw [e] at h
    simp only [Option.map_some, Option.some.injEq] at h
    have := numOf_small ll (W.getD k (0, [])).1
    omega
theorem cyc_darts {g : Gr} {p : Pt} {cy : List Int} (h : cycOk g p cy = true) : p.err g = 0 ∧ 0 < cy.length ∧ ∀ d ∈ cy, ∃ n m : Nat, d = n ∧ n / 2 < g.e.length ∧ n < 2048 ∧ Plain.twin n = m ∧ m < 2048 := by
  unfold cycOk at h
  rw [Bool.and_eq_true, Bool.and_eq_true, Bool.and_eq_true] at h
  obtain ⟨⟨⟨h0, h1⟩, h2⟩, -⟩ := h
  have he := of_decide_eq_true h0
  refine ⟨he, ?_, fun d hd => ?_⟩
  · cases cy with
    | nil => cases h1
    | cons a l => simp
  · obtain ⟨i, hi, rfl⟩ := mem_getD hd
    have h3 := List.all_eq_true.1 h2 i (List.mem_range.2 hi)
    unfold dartAt at h3
    have hm := mem_darts.2 (of_decide_eq_true h3).2
    obtain ⟨n, e1, e2, e3⟩ := Pt.dart_nat he hm
    obtain ⟨m, e4, e5, e6⟩ := Pt.dart_nat he (twin_mem hm)
    exact ⟨n, m, e1, e2, e3, by rw [← e1]; exact e4, e6⟩
end Go.Proofs.Ytfgbkpbakignhaa.Plain
