/- the law SetsPlays where there is too much to look at. Conditions: the lists read as a list of ints and a list of calls. -/
import Derived.Test.YtgepchafbeifeaaPlaysB
namespace Go.Proofs.Ytgepchafbeifeaa
open Go.RowKit Go.Maps
attribute [local go_sem ↓] Go.wp_at_zero Go.wp_at_succ

set_option maxRecDepth 100000 in
theorem playslaw_many (v0 v : Value) (f : List Int) (l : List Act3) (x y : Int) (w : World) (hn : 100 < l.length) (hf : IntsAt w v0 f) (h : ActsAt w v l) :
    Calls Try.prog 5 #[v0, v, .int .i64 x, .int .i64 y] w fun e w' => e = .returned (.bool true) ∧ Chg [] w w' := by
  obtain ⟨ao, cap, rfl, -, hm, -⟩ := h
  obtain ⟨fo, fcap, rfl, -, flm, -⟩ := hf
  go_enter Try.func5, Try.ntmps5
  go_wp2_with fail
  refine (awake_any _).mono ?_
  rintro e w1 ⟨rfl, hc1⟩
  go_wp2_with fail
  all_goals
    refine (awake_any _).mono ?_
    rintro e w2 ⟨rfl, hc2⟩
    go_wp2
    go_ret
    exact ⟨rfl, hc1.trans hc2 (by simp)⟩

set_option maxRecDepth 100000 in
theorem playslaw_wide (v0 v : Value) (f : List Int) (l : List Act3) (x y : Int) (w : World) (hn : l.length ≤ 100) (hn2 : 100 < f.length) (hf : IntsAt w v0 f) (h : ActsAt w v l) :
    Calls Try.prog 5 #[v0, v, .int .i64 x, .int .i64 y] w fun e w' => e = .returned (.bool true) ∧ Chg [] w w' := by
  obtain ⟨ao, cap, rfl, -, hm, -⟩ := h
  obtain ⟨fo, fcap, rfl, -, flm, -⟩ := hf
  go_enter Try.func5, Try.ntmps5
  go_wp2_with fail
  refine (awake_any _).mono ?_
  rintro e w1 ⟨rfl, hc1⟩
  go_wp2_with fail
  all_goals
    refine (awake_any _).mono ?_
    rintro e w2 ⟨rfl, hc2⟩
    go_wp2
    go_ret
    exact ⟨rfl, hc1.trans hc2 (by simp)⟩

end Go.Proofs.Ytgepchafbeifeaa
