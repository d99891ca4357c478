/- plan.Clean: its contract. Conditions: a plan that lies in memory and reads so, of a bounded size. -/
import Derived.Test.YtpcgklagmcnhaaaGreatT8RefN
namespace Go.Proofs.YtpcgklagmcnhaaaGreat
open Go.RowKit Go.Maps
namespace Plain
end Plain
end Go.Proofs.YtpcgklagmcnhaaaGreat
-- READS ONLY
namespace Go.Proofs.YtpcgklagmcnhaaaGreat
open Go.RowKit Go.Maps
end Go.Proofs.YtpcgklagmcnhaaaGreat
-- READS ONLY
namespace Go.Proofs.YtpcgklagmcnhaaaGreat
open Go.RowKit Go.Maps
namespace Plain
end Plain
namespace Plain
end Plain
end Go.Proofs.YtpcgklagmcnhaaaGreat
namespace Go.Proofs.YtpcgklagmcnhaaaGreat.Plain
end Go.Proofs.YtpcgklagmcnhaaaGreat.Plain
namespace Go.Proofs.YtpcgklagmcnhaaaGreat
open Go.RowKit Go.Maps
namespace Plain
end Plain
end Go.Proofs.YtpcgklagmcnhaaaGreat
