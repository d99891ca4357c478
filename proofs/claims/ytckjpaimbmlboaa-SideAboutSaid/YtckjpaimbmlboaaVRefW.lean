/- ref07: the contract of Walks. Conditions: a right part, right turns that lie in memory and read so, of a bounded size. -/
import Derived.Test.YtckjpaimbmlboaaVRefR
namespace Go.Proofs.Ytckjpaimbmlboaa
open Go.RowKit Go.Maps
end Go.Proofs.Ytckjpaimbmlboaa
