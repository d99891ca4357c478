/- A [][]int that the call itself makes, row by row: what it owns. No condition beyond what each law says. -/
import Derived.Test.YtpcgklagmcnhaaaGreatT7SetsA
namespace Go.Proofs.YtpcgklagmcnhaaaGreat
open Go.RowKit Go.Maps
def ints (l : List Int) : List Value := l.map (Value.int .i64)
structure RowsOwn (w : World) (B : Nat) (ov : Value) (vs : List Value) (ll : List (List Int)) : Prop where
 out : w.ownsRow B 31 1 ov vs.length vs
 len : vs.length = ll.length
 rows : ∀ k, k < vs.length → w.ownsRow B 3 1 (vs.getD k undef) (ll.getD k []).length (ints (ll.getD k []))
 apart : ∀ k l, k < vs.length → l < vs.length → k ≠ l → (vs.getD k undef).ownBlock = none ∨ (vs.getD k undef).ownBlock ≠ (vs.getD l undef).ownBlock
theorem RowsOwn.nil (w : World) (B : Nat) : RowsOwn w B (.slice none 0 0) [] [] := ⟨World.ownsRow_nil _ _ _ _, rfl, by simp, by simp⟩
theorem owns_two {w : World} {B B' : Nat} {v u : Value} {n m : Nat} {xs ys : List Value} {e e' : TypeId} {sz sz' : Nat} (h : w.ownsRow B e sz v n xs) (k : w.ownsRow B' e' sz' u m ys) (he : e ≠ e') : v.ownBlock = none ∨ v.ownBlock ≠ u.ownBlock := by
 rcases h.2 with ⟨rfl, _⟩ | ⟨g, cap, cur, rfl, _, hg, _⟩
 ·exact Or.inl rfl
 rcases k.2 with ⟨rfl, _⟩ | ⟨g', cap', cur', rfl, _, hg', _⟩
 ·exact Or.inr (by simp [Value.ownBlock])
 refine Or.inr (fun e1 => ?_)
 simp [Value.ownBlock] at e1
 grind
theorem RowsOwn.chg {w w' : World} {B : Nat} {ov : Value} {vs : List Value} {ll : List (List Int)} {own : List Nat} (h : RowsOwn w B ov vs ll) (hc : Chg own w w') (h1 : ∀ b, ov.ownBlock = some b → b ∉ own) (h2 : ∀ k b, k < vs.length → (vs.getD k undef).ownBlock = some b → b ∉ own) : RowsOwn w' B ov vs ll :=
 ⟨owns_chg h.out hc h1, h.len, fun k hk => owns_chg (h.rows k hk) hc (fun b hb => h2 k b hk hb), h.apart⟩
theorem RowsOwn.below {w w' : World} {B : Nat} {ov : Value} {vs : List Value} {ll : List (List Int)} {own : List Nat} (h : RowsOwn w B ov vs ll) (hc : Chg own w w') (hb : ∀ j ∈ own, j < B) : RowsOwn w' B ov vs ll :=
 h.chg hc (fun b hb' e => by have := (h.out.lt b hb').1; have := hb b e; omega) (fun k b hk hb' e => by have := ((h.rows k hk).lt b hb').1; have := hb b e; omega)
theorem RowsOwn.push {w w' : World} {B g cap : Nat} {ov : Value} {vs : List Value} {ll : List (List Int)} (h : RowsOwn w B ov vs ll) (hn : w'.ownsRow B 31 1 (.slice (some ⟨g, 0, none⟩) (vs.length + 1) cap) (vs.length + 1) (vs ++ [.slice none 0 0])) (hc : Chg ov.ownBlock.toList w w') :
  RowsOwn w' B (.slice (some ⟨g, 0, none⟩) (vs.length + 1) cap) (vs ++ [.slice none 0 0]) (ll ++ [[]]) := by
 have hl := h.len
 have old : ∀ k, k < vs.length → (vs ++ [Value.slice none 0 0]).getD k undef = vs.getD k undef ∧ (ll ++ [[]]).getD k [] = ll.getD k [] := by
  grind
 have new : (vs ++ [Value.slice none 0 0]).getD vs.length undef = .slice none 0 0 ∧ (ll ++ [[]]).getD vs.length [] = [] := by
  grind
 refine ⟨by grind, by simp [hl], fun k hk => ?_, fun k l hk hl' hne => ?_⟩
 ·by_cases e : k < vs.length
  ·rw [(old k e).1, (old k e).2]
   refine owns_chg (h.rows k e) hc (fun b hb e1 => ?_)
   rcases owns_two (h.rows k e) h.out (by decide) with q | q
   all_goals grind
  have : k = vs.length := by simp at hk; omega
  subst this
  rw [new.1, new.2]
  exact World.ownsRow_nil _ _ _ _
 by_cases e : k < vs.length
 ·rw [(old k e).1]
  by_cases e2 : l < vs.length
  ·rw [(old l e2).1]
   exact h.apart k l e e2 hne
  have : l = vs.length := by simp at hl'; omega
  subst this
  rw [new.1]
  cases hq : (vs.getD k undef).ownBlock
  ·exact Or.inl rfl
  exact Or.inr (by simp [Value.ownBlock])
 have : k = vs.length := by simp at hk; omega
 subst this
 rw [new.1]
 exact Or.inl rfl
theorem getD_setV (l : List Value) (i : Nat) (v : Value) (j : Nat) (hi : i < l.length) : (l.set i v).getD j undef = if j = i then v else l.getD j undef := by
 all_goals grind
theorem getD_setL {α : Type} (l : List (List α)) (i : Nat) (v : List α) (j : Nat) (hi : i < l.length) : (l.set i v).getD j [] = if j = i then v else l.getD j [] := by
 all_goals grind
theorem RowsOwn.put {w w' : World} {B g g' cap cap' : Nat} {n : Nat} {vs : List Value} {ll : List (List Int)} {q : Nat} {x : Int} (h : RowsOwn w B (.slice (some ⟨g, 0, none⟩) n cap) vs ll) (hn : n = vs.length) (hq : q < vs.length)
  (hr : w'.ownsRow B 3 1 (.slice (some ⟨g', 0, none⟩) ((ll.getD q []).length + 1) cap') ((ll.getD q []).length + 1) (ints (ll.getD q []) ++ [.int .i64 x])) (hc : Chg (vs.getD q undef).ownBlock.toList w w') (hl : (vs.getD q undef).ownBlock = some g' ∨ w.heap.size ≤ g') :
  RowsOwn (w'.setCell ⟨g, q, none⟩ (.slice (some ⟨g', 0, none⟩) ((ll.getD q []).length + 1) cap')) B (.slice (some ⟨g, 0, none⟩) n cap) (vs.set q (.slice (some ⟨g', 0, none⟩) ((ll.getD q []).length + 1) cap')) (ll.set q (ll.getD q [] ++ [x])) := by
 subst hn
 have hll := h.len
 have hgv : ∀ k, k < vs.length → (vs.getD k undef).ownBlock ≠ some g := by
  intro k hk e
  rcases owns_two (h.rows k hk) h.out (by decide) with q | q
  ·rw [q] at e; cases e
  exact q e
 have hout : w'.ownsRow B 31 1 (.slice (some ⟨g, 0, none⟩) vs.length cap) vs.length vs := owns_chg h.out hc (fun b hb e => by
  simp [Value.ownBlock] at hb
  grind)
 have hgg : g' ≠ g := by
  intro e
  rcases owns_two hr hout (by decide) with q | q
  ·simp [Value.ownBlock] at q
  exact q (by simp [Value.ownBlock, e])
 have hs := hout.stored q (.slice (some ⟨g', 0, none⟩) ((ll.getD q []).length + 1) cap')
 refine ⟨by grind, by simp [hll], fun k hk => ?_, fun k l hk hl' hne => ?_⟩
 ·rw [List.length_set] at hk
  rw [getD_setV _ _ _ _ hq, getD_setL _ _ _ _ (by omega)]
  by_cases e : k = q
  ·subst e
   simp only [if_true]
   have e2 : (ll.getD k [] ++ [x]).length = (ll.getD k []).length + 1 := by simp
   rw [e2]
   have : ints (ll.getD k [] ++ [x]) = ints (ll.getD k []) ++ [.int .i64 x] := by simp [ints]
   rw [this]
   exact ownsRow_setCell_other hr (by simpa [Value.ownBlock] using hgg) _
  rw [if_neg e, if_neg e]
  refine ownsRow_setCell_other (owns_chg (h.rows k hk) hc (fun b hb e1 => ?_)) (by grind) _
  rcases h.apart k q hk hq e with r | r
  all_goals grind
 rw [List.length_set] at hk hl'
 rw [getD_setV _ _ _ _ hq, getD_setV _ _ _ _ hq]
 by_cases e : k = q
 ·subst e
  rw [if_pos rfl, if_neg (Ne.symm hne)]
  refine Or.inr (fun e1 => ?_)
  replace e1 : some g' = (vs.getD l undef).ownBlock := e1
  rcases hl with r | r
  ·rcases h.apart l k hl' hk (Ne.symm hne) with t | t
   all_goals grind
  have := ((h.rows l hl').lt g' e1.symm).2
  omega
 rw [if_neg e]
 by_cases e2 : l = q
 ·subst e2
  rw [if_pos rfl]
  cases hb : (vs.getD k undef).ownBlock with
  | none => exact Or.inl rfl
  | some b =>
   refine Or.inr (fun e1 => ?_)
   simp [Value.ownBlock] at e1
   subst e1
   rcases hl with r | r
   ·rcases h.apart k l hk hl' hne with t | t
    all_goals grind
   have := ((h.rows k hk).lt b hb).2
   omega
 rw [if_neg e2]
 exact h.apart k l hk hl' hne
end Go.Proofs.YtpcgklagmcnhaaaGreat
