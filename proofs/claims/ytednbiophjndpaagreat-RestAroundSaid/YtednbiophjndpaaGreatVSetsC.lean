/- package sets: contract of Groups. Condition: an object with fewer than 2^32 things. -/
import Derived.Test.YtednbiophjndpaaGreatVSetsB
namespace Go.Proofs.YtednbiophjndpaaGreat
open Go.RowKit Go.Maps
end Go.Proofs.YtednbiophjndpaaGreat
