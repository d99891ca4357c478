/- plan.Region: its contract. Conditions: a graph, a part, a plan that lie in memory and read so, of a bounded size. -/
import Derived.Test.YtpcgklagmcnhaaaGreatT7TurnP
namespace Go.Proofs.YtpcgklagmcnhaaaGreat
open Go.RowKit Go.Maps
def ixOf : Option Nat → Int
 | some i => i
 | none => -1
namespace Plain
end Plain
namespace Plain
end Plain
theorem clone_any (v : Value) (l : List Int) (w : World) (hl : l.length ≤ 1000000000) (h : IntsAt w v l) :
  Calls Tryz.prog 138 #[v] w fun e w' => ∃ v', e = .returned v' ∧ RowAt w' w.heap.size v' l ∧ Chg [] w w' := by
 obtain ⟨ao, cap, rfl, hsm, hm, hc⟩ := h
 cases l with
 | nil =>
  cases ao with
  | none =>
   refine (Tryz.slices_Clone_int_nil 0 cap w).mono ?_
   grind [rowNil', Chg.refl]
  | some ad =>
   refine (Tryz.slices_Clone_int_zero ad cap w).mono ?_
   rintro e w' ⟨v', rfl, h1, -, h3⟩
   exact ⟨_, rfl, ⟨h1, by simp, by simp⟩, Chg.of_below h3 (Nat.le_refl _)⟩
 | cons y r =>
  obtain ⟨b, off, rfl, hc2⟩ := hc (by simp)
  refine (Tryz.slices_Clone_int b off (y :: r).length cap (y :: r) w (Nat.le_refl _) (by omega) hc2).mono ?_
  rintro e w' ⟨v', rfl, h1, -, h3⟩
  rw [List.take_length] at h1
  exact ⟨_, rfl, ⟨h1, hsm, by omega⟩, Chg.of_below h3 (Nat.le_refl _)⟩
theorem owns_kind {w : World} {B : Nat} {e : TypeId} {sz : Nat} {v : Value} {n : Nat} {xs : List Value} (h : w.ownsRow B e sz v n xs) {b : Nat} (hb : v.ownBlock = some b) : ∃ cs, w.heap[b]? = some (.cells cs e (0, 0)) := by
 rcases h.2 with ⟨rfl, _⟩ | ⟨g, c, cur, rfl, _, hg, _⟩
 ·cases hb
 simp only [Value.ownBlock, Option.some.injEq] at hb
 subst hb
 exact ⟨_, hg⟩
theorem wp_apprun {o : Oper} {a : Act} {K : Act → World → Prop} {Q : Exit → Act → World → Prop} {w w' : World} (s x : Operand) (t : TypeId) (ho : o.op = .call { callee := .builtin .append, args := #[s, x], argTypes := #[t, t] }) {v u r : Value} (hs : a.eval s = v) (hx : a.eval x = u)
  (hr : (Builtin.append_ #[t, t] o.type #[v, u]).run Tryz.prog w = .ok r w') (hK : K (a.put o.dst r) w') : o.wp Tryz.prog a w K Q := by
 unfold Oper.wp execOp
 simp only [ho, resolve, invoke, builtin, Sem.run_bind, Sem.run_pure, Result.andThen_ok, List.map_toArray, List.map_cons, List.map_nil, hs, hx, hr]
 exact hK
namespace Plain
end Plain
end Go.Proofs.YtpcgklagmcnhaaaGreat
-- READS ONLY
namespace Go.Proofs.YtpcgklagmcnhaaaGreat
open Go.RowKit Go.Maps
end Go.Proofs.YtpcgklagmcnhaaaGreat
-- READS ONLY
namespace Go.Proofs.YtpcgklagmcnhaaaGreat
open Go.RowKit Go.Maps
namespace Plain
end Plain
namespace Plain
end Plain
end Go.Proofs.YtpcgklagmcnhaaaGreat
namespace Go.Proofs.YtpcgklagmcnhaaaGreat.Plain
end Go.Proofs.YtpcgklagmcnhaaaGreat.Plain
namespace Go.Proofs.YtpcgklagmcnhaaaGreat
open Go.RowKit Go.Maps
namespace Plain
end Plain
end Go.Proofs.YtpcgklagmcnhaaaGreat
namespace Go.Proofs.YtpcgklagmcnhaaaGreat.Plain
def numOf (ll : List (List Int)) (key : Int) : Int := ((regionAt ll key).map fun (k : Nat) => (k : Int)).getD 0
end Go.Proofs.YtpcgklagmcnhaaaGreat.Plain
