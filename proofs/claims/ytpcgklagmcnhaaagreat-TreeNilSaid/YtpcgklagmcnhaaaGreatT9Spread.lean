/- the document's answer for package walk: the contract of Spread, from one vertex. Conditions: a right part that lies in memory and reads so; a vertex of it. -/
import Derived.Test.YtpcgklagmcnhaaaGreatT9SMap
import Derived.Deep.DeepCutAuto
namespace Go.Proofs.YtpcgklagmcnhaaaGreat
open Go.RowKit Go.Maps
namespace Plain
end Plain
namespace Plain
end Plain
end Go.Proofs.YtpcgklagmcnhaaaGreat
-- READS ONLY
namespace Go.Proofs.YtpcgklagmcnhaaaGreat
open Go.RowKit Go.Maps
end Go.Proofs.YtpcgklagmcnhaaaGreat
-- READS ONLY
namespace Go.Proofs.YtpcgklagmcnhaaaGreat
open Go.RowKit Go.Maps
namespace Plain
end Plain
def OutAt (w : World) (B ob : Nat) (V E : List Int) : Prop := ∃ v1 v2, w.heap[ob]? = some (.cells #[v1, v2] 43 (0, 0)) ∧ RowAt w B v1 V ∧ RowAt w B v2 E ∧ (∀ j ∈ foot v1, j ∉ foot v2) ∧ B ≤ ob
end Go.Proofs.YtpcgklagmcnhaaaGreat
