/- law 09's small; the document's And: contracts. Conditions: a graph, parts, a plan, lists that lie in memory and read so. -/
import Derived.Test.YtkacjmoamgjfpaaGreatExRestS
namespace Go.Proofs.YtkacjmoamgjfpaaGreat
open Go.RowKit Go.Maps
namespace Plain
end Plain
namespace Plain
theorem restErr_is {g:Gr} {p q:Pt} {turn same:List (List Int)} (h:restErr g p q turn same=0):planErr g p turn same=0∧q.err g=0∧(∀ v∈q.v,v∈p.v)∧∀ e∈q.e,e∈p.e:=by
 unfold restErr at h
 split at h
 ·rename_i hz;exact absurd h hz
 rename_i hz
 split at h
 ·rename_i hc
  exact⟨Classical.byContradiction hz,hc.1,subB_iff.1 hc.2.1,subB_iff.1 hc.2.2⟩
 cases h
theorem small4_is {g:Gr} {p:Pt} (h:small4 g p=true):g.e.length≤60∧p.v.length≤60∧p.e.length≤60:=by
 unfold small4 at h
 simp only[Bool.and_eq_true] at h
 exact⟨of_decide_eq_true h.1.1.1,of_decide_eq_true h.1.1.2,of_decide_eq_true h.1.2⟩
theorem restTurn_row (E:List Int) (turn:List (List Int)) (i:Nat):((restTurn E turn).getD i []).length≤(turn.getD i []).length:=by
 unfold restTurn List.getD
 rw[List.getElem?_map]
 cases turn[i]? with
 | none=>simp
 | some l=>exact Nat.le_trans (Nat.le_of_eq (first_perm _).length_eq) (List.length_filter_le _ _)
end Plain
end Go.Proofs.YtkacjmoamgjfpaaGreat
namespace Go.Proofs.YtkacjmoamgjfpaaGreat
open Go
inductive Wy where
 | done:Wy
 | nil:Wy
 | then_:Nat→Wy→Wy
 | alt:Nat→Wy→Wy→Wy
section
variable {P : Program} {ops : Array Oper} {Q : Exit → Act → World → Prop} {md : Region.Mode} {S : World → Prop} {R : List Nat}
end
end Go.Proofs.YtkacjmoamgjfpaaGreat
namespace Go.Proofs.YtkacjmoamgjfpaaGreat
open Go.RowKit Go.Maps
namespace Plain
end Plain
end Go.Proofs.YtkacjmoamgjfpaaGreat
