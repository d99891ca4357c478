/- What a cycle of darts is, plainly; the contract of side.leaves. Conditions: a graph that lies in memory and reads so; a dart of it. -/
import Derived.Test.YtckjpaimbmlboaaVPlanRightsW
namespace Go.Proofs.Ytckjpaimbmlboaa
open Go.RowKit Go.Maps
namespace Plain
end Plain
end Go.Proofs.Ytckjpaimbmlboaa
namespace Go.Proofs.Ytckjpaimbmlboaa.Plain
def lf (L : Int → Option Int) (d : Int) : Int := (L d).getD 0
def sideJoin (L : Int → Option Int) (p : Pt) (cy : List Int) : Nat → St
 | 0 => ⟨[], []⟩
 | k + 1 => if p.e.getD k 0 ∈ cy.map (· / 2) then sideJoin L p cy k else (sideJoin L p cy k).join (lf L (2 * p.e.getD k 0)) (lf L (2 * p.e.getD k 0 + 1))
def sideHead (L : Int → Option Int) (cy : List Int) : Int := lf L (cy.getD 0 0)
theorem sideJoin_on {L : Int → Option Int} {p : Pt} {cy : List Int} {k : Nat} (h : p.e.getD k 0 ∈ cy.map (· / 2)) : sideJoin L p cy (k + 1) = sideJoin L p cy k := if_pos h
theorem sideJoin_off {L : Int → Option Int} {p : Pt} {cy : List Int} {k : Nat} (h : p.e.getD k 0 ∉ cy.map (· / 2)) : sideJoin L p cy (k + 1) = (sideJoin L p cy k).join (lf L (2 * p.e.getD k 0)) (lf L (2 * p.e.getD k 0 + 1)) := if_neg h
theorem join_len (s : St) (x y : Int) : (s.join x y).all.length ≤ s.all.length + 2 := by
 rw [St.join_eq]
 have h1 := (s.len_put x).2
 have h2 := ((s.put x).len_put y).2
 show ((s.put x).put y).all.length ≤ _
 omega
theorem numOf_i64 {L : Int → Option Int} (h : ∀ y v, L y = some v → 0 ≤ v ∧ v < 1000000000) (y : Int) : 0 ≤ lf L y ∧ lf L y < 1000000000 := by
 unfold lf
 cases e : L y with
 | none => exact ⟨by simp, by simp⟩
 | some v => exact h y v e
theorem leftOf_small {ll : List (List Int)} (W : List Face) (hl : ll.length ≤ 30000) (y v : Int) (h : leftOf ll W y = some v) : 0 ≤ v ∧ v < 1000000000 := by
 unfold leftOf at h
 cases e : regionAt (places8 W) y with
 | none => rw [e] at h; cases h
 | some k =>
  rw [e] at h
  simp only [Option.map_some, Option.some.injEq] at h
  have := numOf_small ll (W.getD k (0, [])).1
  omega
end Go.Proofs.Ytckjpaimbmlboaa.Plain
