/- ref04: the contract of Right. Condition: a graph that lies in memory and reads so. -/
import Derived.Test.YtoiflofhcmjpoaaGreatD9Lin
namespace Go.Proofs.YtoiflofhcmjpoaaGreat
open Go.RowKit Go.Maps
end Go.Proofs.YtoiflofhcmjpoaaGreat
