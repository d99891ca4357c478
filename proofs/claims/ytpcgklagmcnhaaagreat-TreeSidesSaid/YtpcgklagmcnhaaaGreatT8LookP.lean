/- The regions to the left of darts and around lone vertices, plainly. No program here. -/
import Derived.Test.YtpcgklagmcnhaaaGreatT8Clean
namespace Go.Proofs.YtpcgklagmcnhaaaGreat.Plain
end Go.Proofs.YtpcgklagmcnhaaaGreat.Plain
namespace Go.Proofs.YtpcgklagmcnhaaaGreat
open Go.RowKit Go.Maps
end Go.Proofs.YtpcgklagmcnhaaaGreat
namespace Go.Proofs.YtpcgklagmcnhaaaGreat
open Go.RowKit Go.Maps
namespace Plain
end Plain
end Go.Proofs.YtpcgklagmcnhaaaGreat
namespace Go.Proofs.YtpcgklagmcnhaaaGreat.Plain
def lf (L : Int → Option Int) (d : Int) : Int := (L d).getD 0
end Go.Proofs.YtpcgklagmcnhaaaGreat.Plain
namespace Go.Proofs.YtpcgklagmcnhaaaGreat
open Go.RowKit Go.Maps
end Go.Proofs.YtpcgklagmcnhaaaGreat
namespace Go.Proofs.YtpcgklagmcnhaaaGreat.Plain
end Go.Proofs.YtpcgklagmcnhaaaGreat.Plain
