/- ref06: the contract of Right. Conditions: a graph, a part, turns that lie in memory and read so, of a bounded size. -/
import Derived.Test.YtoiflofhcmjpoaaGreatD9RefQ
-- READS ONLY
namespace Go.Proofs.YtoiflofhcmjpoaaGreat
open Go.RowKit Go.Maps
end Go.Proofs.YtoiflofhcmjpoaaGreat
-- READS ONLY
namespace Go.Proofs.YtoiflofhcmjpoaaGreat
open Go.RowKit Go.Maps
end Go.Proofs.YtoiflofhcmjpoaaGreat
