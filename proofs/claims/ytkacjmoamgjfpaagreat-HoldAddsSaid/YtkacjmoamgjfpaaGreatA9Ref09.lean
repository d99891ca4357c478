/- law 09's small; the document's And: contracts. Conditions: a graph, parts, a plan, lists that lie in memory and read so. -/
import Derived.Test.YtkacjmoamgjfpaaGreatA9RestS
namespace Go.Proofs.YtkacjmoamgjfpaaGreat
open Go.RowKit Go.Maps
namespace aA
end aA
namespace aA
theorem aCJ {g:Gr} {p q:Pt} {aB same:List (List Int)} (h:gE g p q aB same=0):aN g p aB same=0∧q.err g=0∧(∀ v∈q.v,v∈p.v)∧∀ e∈q.e,e∈p.e:=by
 unfold gE at h;split at h
 ·rename_i hz;exact absurd h hz
 rename_i hz;split at h
 ·rename_i hc
  exact⟨Classical.byContradiction hz,hc.1,gS.1 hc.2.1,gS.1 hc.2.2⟩
 cases h
theorem aE2 {g:Gr} {p:Pt} (h:iC g p=true):g.e.length≤60∧p.v.length≤60∧p.e.length≤60:=by
 unfold iC at h;simp only[Bool.and_eq_true] at h;exact⟨of_decide_eq_true h.1.1.1,of_decide_eq_true h.1.1.2,of_decide_eq_true h.1.2⟩
theorem tO {g:Gr} {p:Pt} {aB same:List (List Int)} (h:iQ g p aB same=true):iC g p=true∧∀ i,(aB.getD i []).length≤200:=by
 unfold iQ jO at h;simp only[Bool.and_eq_true] at h;exact⟨h.1.1.1.1,uZ (aAS h.1.1.2)⟩
theorem aAM (E:List Int) (aB:List (List Int)) (i:Nat):((bA E aB).getD i []).length≤(aB.getD i []).length:=by
 unfold bA List.getD;rw[List.getElem?_map];cases aB[i]? with
 | none=>simp
 | some l=>exact Nat.le_trans (Nat.le_of_eq (gQ _).length_eq) (List.length_filter_le _ _)
end aA
end Go.Proofs.YtkacjmoamgjfpaaGreat
namespace Go.Proofs.YtkacjmoamgjfpaaGreat
open Go
inductive Wy where
 | done:Wy
 | nil:Wy
 | then_:Nat→Wy→Wy
 | alt:Nat→Wy→Wy→Wy
section
variable {P : Program} {ops : Array Oper} {Q : Exit → Act → World → Prop} {md : Region.Mode} {S : World → Prop} {R : List Nat}
end
end Go.Proofs.YtkacjmoamgjfpaaGreat
namespace Go.Proofs.YtkacjmoamgjfpaaGreat
open Go.RowKit Go.Maps
namespace aA
end aA
end Go.Proofs.YtkacjmoamgjfpaaGreat
