/- ref04: the contract of Right. Condition: a graph that lies in memory and reads so. -/
import Derived.Test.YtkacjmoamgjfpaaGreatHxLin
namespace Go.Proofs.YtkacjmoamgjfpaaGreat
open Go.RowKit Go.Maps
end Go.Proofs.YtkacjmoamgjfpaaGreat
