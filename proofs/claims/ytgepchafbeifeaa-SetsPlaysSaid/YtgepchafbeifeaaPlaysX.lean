/- the law SetsPlays: the contract of the whole. Conditions: the lists read as a list of ints and a list of calls. -/
import Derived.Test.YtgepchafbeifeaaPlaysM
import Derived.Test.YtgepchafbeifeaaPlaysW
namespace Go.Proofs.Ytgepchafbeifeaa
open Go.RowKit Go.Maps

theorem setsPlays_any (v0 v : Value) (f : List Int) (l : List Act3) (x y : Int) (w : World) (hx : I64 x) (hy : I64 y) (hf : IntsAt w v0 f) (h : ActsAt w v l) :
    Calls Try.prog 5 #[v0, v, .int .i64 x, .int .i64 y] w fun e w' => e = .returned (.bool true) ∧ Chg [] w w' := by
  by_cases hn : l.length ≤ 100
  · by_cases hm : f.length ≤ 100
    · exact playslaw_few v0 v f l x y w hn hm hx hy hf h
    · exact playslaw_wide v0 v f l x y w hn (by omega) hf h
  · exact playslaw_many v0 v f l x y w (by omega) hf h

end Go.Proofs.Ytgepchafbeifeaa
