/- side.Vertex, side.Edge: their contracts. Conditions: a graph, a part, a plan, a list of ints that lie in memory and read so, of a bounded size. -/
import Derived.Test.YtbkjljffnkdcjaaGreatD9SidesP
namespace Go.Proofs.YtbkjljffnkdcjaaGreat
open Go.RowKit Go.Maps
namespace Plain
end Plain
end Go.Proofs.YtbkjljffnkdcjaaGreat
namespace Go.Proofs.YtbkjljffnkdcjaaGreat
open Go.RowKit Go.Maps
namespace Plain
end Plain
namespace Plain
end Plain
namespace Plain
def N7 (L:Int->Option Int) (M:List Int) (j:Nat) (e:Int):Prop:=(lf L (2*e)=M.getD j 0->lf L (2*e+1)∈M)/\(lf L (2*e+1)=M.getD j 0->lf L (2*e)∈M)
structure ahS (L:Int->Option Int) (p:Pt) (cy:List Int) (M:List Int) (i k:Nat):Prop where
 head:EI L cy∈M
 nodup:M.Nodup
 low:∀ r∈M,0<=r/\r<=10000
 rel:∀ r∈M,UP L p cy r (EI L cy)
 done:∀ j,j<i->∀ e∈p.e,e ∉ cy.map (· / 2)->N7 L M j e
 now:∀ q,q<k->p.e.getD q 0 ∉ cy.map (· / 2)->N7 L M i (p.e.getD q 0)
end Plain
end Go.Proofs.YtbkjljffnkdcjaaGreat
