/- ref08.Right: its contract. Conditions: a graph, a part, a plan that lie in memory and read so, of a bounded size. -/
import Derived.Test.YtkacjmoamgjfpaaGreatHxRefS
namespace Go.Proofs.YtkacjmoamgjfpaaGreat
open Go.RowKit Go.Maps
namespace Plain
end Plain
end Go.Proofs.YtkacjmoamgjfpaaGreat
