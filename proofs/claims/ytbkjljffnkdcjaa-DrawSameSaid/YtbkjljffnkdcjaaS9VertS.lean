/- side.Vertex, side.Edge: their contracts. Conditions: a graph, a part, a plan, a list of ints that lie in memory and read so, of a bounded size. -/
import Derived.Test.YtbkjljffnkdcjaaS9SidesP
namespace Go.Proofs.Ytbkjljffnkdcjaa
open Go.RowKit Go.Maps
namespace Plain
end Plain
end Go.Proofs.Ytbkjljffnkdcjaa
namespace Go.Proofs.Ytbkjljffnkdcjaa
open Go.RowKit Go.Maps
namespace Plain
end Plain
namespace Plain
end Plain
namespace Plain
def nearAt (L:Int→Option Int) (M:List Int) (j:Nat) (e:Int):Prop:=(lf L (2*e)=M.getD j 0→lf L (2*e+1)∈M)∧(lf L (2*e+1)=M.getD j 0→lf L (2*e)∈M)
structure LeftsAt (L:Int→Option Int) (p:Pt) (cy:List Int) (M:List Int) (i k:Nat):Prop where
 head:sideHead L cy∈M
 nodup:M.Nodup
 low:∀ r∈M,0≤r∧r≤10000
 rel:∀ r∈M,sideRel L p cy r (sideHead L cy)
 done:∀ j,j<i→∀ e∈p.e,e ∉ cy.map (· / 2)→nearAt L M j e
 now:∀ q,q<k→p.e.getD q 0 ∉ cy.map (· / 2)→nearAt L M i (p.e.getD q 0)
end Plain
end Go.Proofs.Ytbkjljffnkdcjaa
