/- package sets: contract of Groups. Condition: an object with fewer than 2^32 fD. -/
import Derived.Test.YtkacjmoamgjfpaaGreatA9SetsB
import Derived.Test.YtkacjmoamgjfpaaGreatA9Rows2
import Derived.Deep.DeepCutAuto
import Derived.Deep.RegionLaw
namespace Go.Proofs.YtkacjmoamgjfpaaGreat
open Go.RowKit Go.Maps
end Go.Proofs.YtkacjmoamgjfpaaGreat
