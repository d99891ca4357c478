/- ref04: the contract of RightPart. Conditions: a graph, a part that lie in memory and read so, of a bounded size. -/
import Derived.Test.YtkacjmoamgjfpaaGreatHxRefP
import Derived.Test.YtkacjmoamgjfpaaGreatHxRefG
namespace Go.Proofs.YtkacjmoamgjfpaaGreat
open Go.RowKit Go.Maps
end Go.Proofs.YtkacjmoamgjfpaaGreat
