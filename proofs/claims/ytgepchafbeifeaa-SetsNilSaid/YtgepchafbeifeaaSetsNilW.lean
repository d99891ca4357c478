/- the law SetsNil: nil sets have nothing: the walk. No condition. -/
import Derived.Test.YtgepchafbeifeaaSetsD
namespace Go.Proofs.Ytgepchafbeifeaa
open Go.RowKit Go.Maps

theorem setsNil_any (x y : Int) (w : World) : Calls Try.prog 6 #[.int .i64 x, .int .i64 y] w fun e w' => e = .returned (.bool true) ∧ Chg [] w w' := by
  go_enter Try.func6, Try.ntmps6
  go_wp2_with fail
  refine (head_nil x _).mono ?_
  rintro e w1 ⟨rfl, hc1⟩
  go_wp2_with fail
  refine (awake_any _).mono ?_
  rintro e w2 ⟨rfl, hc2⟩
  go_wp2_with fail
  refine (add_nil x _).mono ?_
  rintro e w3 ⟨rfl, hc3⟩
  go_wp2_with fail
  refine (join_nil x y _).mono ?_
  rintro e w4 ⟨rfl, hc4⟩
  go_wp2_with fail
  refine (same_nil x x _).mono ?_
  rintro e w5 ⟨rfl, hc5⟩
  go_wp2_with fail
  refine (len_nil _).mono ?_
  rintro e w6 ⟨rfl, rfl⟩
  go_wp2_with fail
  refine (count_nil _).mono ?_
  rintro e w7 ⟨rfl, rfl⟩
  go_wp2_with fail
  refine (groups_nil _).mono ?_
  rintro e w8 ⟨rfl, rfl⟩
  go_wp2
  go_ret
  exact ⟨rfl, (((hc1.trans hc2 (by simp)).trans hc3 (by simp)).trans hc4 (by simp)).trans hc5 (by simp)⟩

end Go.Proofs.Ytgepchafbeifeaa
