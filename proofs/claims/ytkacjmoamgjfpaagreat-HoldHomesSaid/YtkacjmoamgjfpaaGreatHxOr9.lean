/- ref04.Or (its things), ref09.Around (its things): contracts. Conditions: lists, a drawing that lie in memory and read so, of a bounded size. -/
import Derived.Test.YtkacjmoamgjfpaaGreatHxRefF
namespace Go.Proofs.YtkacjmoamgjfpaaGreat
open Go.RowKit Go.Maps
end Go.Proofs.YtkacjmoamgjfpaaGreat
