/- ref04: the contract of Rises. Condition: a list that lies in memory and reads so. -/
import Derived.Test.YtpcgklagmcnhaaaGreatT9Nest
namespace Go.Proofs.YtpcgklagmcnhaaaGreat
open Go.RowKit Go.Maps
end Go.Proofs.YtpcgklagmcnhaaaGreat
namespace Go.Proofs.YtpcgklagmcnhaaaGreat
open Go.RowKit Go.Maps
namespace Plain
end Plain
namespace Plain
end Plain
end Go.Proofs.YtpcgklagmcnhaaaGreat
namespace Go.Proofs.YtpcgklagmcnhaaaGreat.Plain
end Go.Proofs.YtpcgklagmcnhaaaGreat.Plain
