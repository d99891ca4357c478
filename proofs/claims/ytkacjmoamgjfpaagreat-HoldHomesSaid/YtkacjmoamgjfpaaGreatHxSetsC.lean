/- package sets: contract of Groups. Condition: an object with fewer than 2^32 things. -/
import Derived.Test.YtkacjmoamgjfpaaGreatHxSetsB
import Derived.Test.YtkacjmoamgjfpaaGreatHxRows2
import Derived.Deep.DeepCutAuto
import Derived.Deep.RegionLaw
namespace Go.Proofs.YtkacjmoamgjfpaaGreat
open Go.RowKit Go.Maps
end Go.Proofs.YtkacjmoamgjfpaaGreat
