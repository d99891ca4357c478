/- A [][]int that the call itself makes, row by row: what it owns. No condition beyond what each law says. -/
import Derived.Test.YtfgbkpbakignhaaGreatVSetsA
import Derived.Deep.RegionHeld3
import Derived.WalkKit
import Derived.Test.YtfgbkpbakignhaaGreatVBase
import Derived.Laws.OwnMore
import Derived.Maps.AppendAt
namespace Go.Proofs.YtfgbkpbakignhaaGreat
open Go.RowKit Go.Maps

def ints (l : List Int) : List Value := l.map (Value.int .i64)

structure RowsOwn (w : World) (B : Nat) (ov : Value) (vs : List Value) (ll : List (List Int)) : Prop where
 out : w.ownsRow B 25 1 ov vs.length vs
 len : vs.length = ll.length
 rows : ∀ k, k < vs.length → w.ownsRow B 3 1 (vs.getD k undef) (ll.getD k []).length (ints (ll.getD k []))
 apart : ∀ k l, k < vs.length → l < vs.length → k ≠ l → (vs.getD k undef).ownBlock = none ∨ (vs.getD k undef).ownBlock ≠ (vs.getD l undef).ownBlock

theorem RowsOwn.nil (w : World) (B : Nat) : RowsOwn w B (.slice none 0 0) [] [] := ⟨World.ownsRow_nil _ _ _ _, rfl, by simp, by simp⟩

theorem owns_two {w : World} {B B' : Nat} {v u : Value} {n m : Nat} {xs ys : List Value} {e e' : TypeId} {sz sz' : Nat} (h : w.ownsRow B e sz v n xs) (k : w.ownsRow B' e' sz' u m ys) (he : e ≠ e') : v.ownBlock = none ∨ v.ownBlock ≠ u.ownBlock := by
 rcases h.2 with ⟨rfl, _⟩ | ⟨g, cap, cur, rfl, _, hg, _⟩
 ·exact Or.inl rfl
 ·rcases k.2 with ⟨rfl, _⟩ | ⟨g', cap', cur', rfl, _, hg', _⟩
  ·exact Or.inr (by simp [Value.ownBlock])
  ·refine Or.inr (fun e1 => ?_)
   simp [Value.ownBlock] at e1
   subst e1
   rw [hg] at hg'
   simp at hg'
   exact he hg'.2

theorem RowsOwn.chg {w w' : World} {B : Nat} {ov : Value} {vs : List Value} {ll : List (List Int)} {own : List Nat} (h : RowsOwn w B ov vs ll) (hc : Chg own w w') (h1 : ∀ b, ov.ownBlock = some b → b ∉ own) (h2 : ∀ k b, k < vs.length → (vs.getD k undef).ownBlock = some b → b ∉ own) : RowsOwn w' B ov vs ll :=
 ⟨owns_chg h.out hc h1, h.len, fun k hk => owns_chg (h.rows k hk) hc (fun b hb => h2 k b hk hb), h.apart⟩

theorem RowsOwn.below {w w' : World} {B : Nat} {ov : Value} {vs : List Value} {ll : List (List Int)} {own : List Nat} (h : RowsOwn w B ov vs ll) (hc : Chg own w w') (hb : ∀ j ∈ own, j < B) : RowsOwn w' B ov vs ll :=
 h.chg hc (fun b hb' e => by have := (h.out.lt b hb').1; have := hb b e; omega) (fun k b hk hb' e => by have := ((h.rows k hk).lt b hb').1; have := hb b e; omega)

theorem RowsOwn.push {w w' : World} {B g cap : Nat} {ov : Value} {vs : List Value} {ll : List (List Int)} (h : RowsOwn w B ov vs ll) (hn : w'.ownsRow B 25 1 (.slice (some ⟨g, 0, none⟩) (vs.length + 1) cap) (vs.length + 1) (vs ++ [.slice none 0 0])) (hc : Chg ov.ownBlock.toList w w') :
  RowsOwn w' B (.slice (some ⟨g, 0, none⟩) (vs.length + 1) cap) (vs ++ [.slice none 0 0]) (ll ++ [[]]) := by
 have hl := h.len
 have old : ∀ k, k < vs.length → (vs ++ [Value.slice none 0 0]).getD k undef = vs.getD k undef ∧ (ll ++ [[]]).getD k [] = ll.getD k [] := by
  intro k hk
  simp only [List.getD]
  rw [List.getElem?_append_left hk, List.getElem?_append_left (by omega)]
  exact ⟨rfl, rfl⟩
 have new : (vs ++ [Value.slice none 0 0]).getD vs.length undef = .slice none 0 0 ∧ (ll ++ [[]]).getD vs.length [] = [] := by
  simp [List.getD, hl]
 refine ⟨by simpa using hn, by simp [hl], fun k hk => ?_, fun k l hk hl' hne => ?_⟩
 ·by_cases e : k < vs.length
  ·rw [(old k e).1, (old k e).2]
   refine owns_chg (h.rows k e) hc (fun b hb e1 => ?_)
   rcases owns_two (h.rows k e) h.out (by decide) with q | q
   ·rw [q] at hb; cases hb
   ·simp at e1; exact q (hb.trans e1.symm)
  ·have : k = vs.length := by simp at hk; omega
   subst this
   rw [new.1, new.2]
   exact World.ownsRow_nil _ _ _ _
 ·by_cases e : k < vs.length
  ·rw [(old k e).1]
   by_cases e2 : l < vs.length
   ·rw [(old l e2).1]
    exact h.apart k l e e2 hne
   ·have : l = vs.length := by simp at hl'; omega
    subst this
    rw [new.1]
    cases hq : (vs.getD k undef).ownBlock
    ·exact Or.inl rfl
    ·exact Or.inr (by simp [Value.ownBlock])
  ·have : k = vs.length := by simp at hk; omega
   subst this
   rw [new.1]
   exact Or.inl rfl

theorem getD_setV (l : List Value) (i : Nat) (v : Value) (j : Nat) (hi : i < l.length) : (l.set i v).getD j undef = if j = i then v else l.getD j undef := by
 by_cases e : j = i
 ·subst e; simp [hi]
 ·simp [List.getD, List.getElem?_set_ne (Ne.symm e), e]
theorem getD_setL {α : Type} (l : List (List α)) (i : Nat) (v : List α) (j : Nat) (hi : i < l.length) : (l.set i v).getD j [] = if j = i then v else l.getD j [] := by
 by_cases e : j = i
 ·subst e; simp [hi]
 ·simp [List.getD, List.getElem?_set_ne (Ne.symm e), e]

theorem RowsOwn.put {w w' : World} {B g g' cap cap' : Nat} {n : Nat} {vs : List Value} {ll : List (List Int)} {q : Nat} {x : Int} (h : RowsOwn w B (.slice (some ⟨g, 0, none⟩) n cap) vs ll) (hn : n = vs.length) (hq : q < vs.length)
  (hr : w'.ownsRow B 3 1 (.slice (some ⟨g', 0, none⟩) ((ll.getD q []).length + 1) cap') ((ll.getD q []).length + 1) (ints (ll.getD q []) ++ [.int .i64 x])) (hc : Chg (vs.getD q undef).ownBlock.toList w w') (hl : (vs.getD q undef).ownBlock = some g' ∨ w.heap.size ≤ g') :
  RowsOwn (w'.setCell ⟨g, q, none⟩ (.slice (some ⟨g', 0, none⟩) ((ll.getD q []).length + 1) cap')) B (.slice (some ⟨g, 0, none⟩) n cap) (vs.set q (.slice (some ⟨g', 0, none⟩) ((ll.getD q []).length + 1) cap')) (ll.set q (ll.getD q [] ++ [x])) := by
 subst hn
 have hll := h.len
 have hgv : ∀ k, k < vs.length → (vs.getD k undef).ownBlock ≠ some g := by
  intro k hk e
  rcases owns_two (h.rows k hk) h.out (by decide) with q | q
  ·rw [q] at e; cases e
  ·exact q e
 have hout : w'.ownsRow B 25 1 (.slice (some ⟨g, 0, none⟩) vs.length cap) vs.length vs := owns_chg h.out hc (fun b hb e => by
  simp [Value.ownBlock] at hb
  subst hb
  simp at e
  exact hgv q hq e)
 have hgg : g' ≠ g := by
  intro e
  rcases owns_two hr hout (by decide) with q | q
  ·simp [Value.ownBlock] at q
  ·exact q (by simp [Value.ownBlock, e])
 have hs := hout.stored q (.slice (some ⟨g', 0, none⟩) ((ll.getD q []).length + 1) cap')
 refine ⟨by rw [List.length_set]; exact hs.1, by simp [hll], fun k hk => ?_, fun k l hk hl' hne => ?_⟩
 ·rw [List.length_set] at hk
  rw [getD_setV _ _ _ _ hq, getD_setL _ _ _ _ (by omega)]
  by_cases e : k = q
  ·subst e
   simp only [if_true]
   have e2 : (ll.getD k [] ++ [x]).length = (ll.getD k []).length + 1 := by simp
   rw [e2]
   have : ints (ll.getD k [] ++ [x]) = ints (ll.getD k []) ++ [.int .i64 x] := by simp [ints]
   rw [this]
   exact ownsRow_setCell_other hr (by simpa [Value.ownBlock] using hgg) _
  ·rw [if_neg e, if_neg e]
   refine ownsRow_setCell_other (owns_chg (h.rows k hk) hc (fun b hb e1 => ?_)) (by simpa using hgv k hk) _
   rcases h.apart k q hk hq e with r | r
   ·rw [r] at hb; cases hb
   ·simp at e1; exact r (hb.trans e1.symm)
 ·rw [List.length_set] at hk hl'
  rw [getD_setV _ _ _ _ hq, getD_setV _ _ _ _ hq]
  by_cases e : k = q
  ·subst e
   rw [if_pos rfl, if_neg (Ne.symm hne)]
   refine Or.inr (fun e1 => ?_)
   replace e1 : some g' = (vs.getD l undef).ownBlock := e1
   rcases hl with r | r
   ·rcases h.apart l k hl' hk (Ne.symm hne) with t | t
    ·rw [t] at e1; cases e1
    ·exact t (e1.symm.trans r.symm)
   ·have := ((h.rows l hl').lt g' e1.symm).2
    omega
  ·rw [if_neg e]
   by_cases e2 : l = q
   ·subst e2
    rw [if_pos rfl]
    cases hb : (vs.getD k undef).ownBlock with
    | none => exact Or.inl rfl
    | some b =>
     refine Or.inr (fun e1 => ?_)
     simp [Value.ownBlock] at e1
     subst e1
     rcases hl with r | r
     ·rcases h.apart k l hk hl' hne with t | t
      ·rw [t] at hb; cases hb
      ·exact t (hb.trans r.symm)
     ·have := ((h.rows k hk).lt b hb).2
      omega
   ·rw [if_neg e2]
    exact h.apart k l hk hl' hne

end Go.Proofs.YtfgbkpbakignhaaGreat
/- A region that draws its order, whose operations read, or make what then stays: walked one operation at a time, each from whatever the others have left. No program here. -/
namespace Go.Proofs.YtfgbkpbakignhaaGreat
open Go

section
variable {P : Program} {ops : Array Oper} {Q : Exit → Act → World → Prop} {md : Region.Mode}

def apart : List Oper → Bool
 | [] => true
 | o :: r => (match o.dst with | none => true | some x => r.all fun p => p.dst != some x) && apart r

def held (a : Act) (o : Oper) : Value := match o.dst with | none => undef | some x => a.tmps.getD x undef

structure Info where
 deps : List Nat
 con : List Nat
 lin : Bool

def foot : Value → List Nat
 | .agg vs => vs.toList.flatMap fun v => v.ownBlock.toList
 | v => v.ownBlock.toList

variable {G : World → Prop} {fr : (Nat → Value) → Act} {z : Nat} {fin : List Nat}

def afters (md : Region.Mode) (ops : Array Oper) (j : Nat) : List Nat := match ops[j]? with | none => [] | some o => (o.after.toList.filter (Region.binds md ·)).map (·.on)

def reach (md : Region.Mode) (ops : Array Oper) : Nat → List Nat → List Nat
 | 0, l => l
 | k + 1, l => reach md ops k (if l.contains k then l ++ afters md ops k else l)

theorem mem_afters {j x : Nat} : x ∈ afters md ops j ↔ ∃ o, ops[j]? = some o ∧ ∃ e ∈ o.after, Region.binds md e = true ∧ e.on = x := by
 unfold afters
 cases ho : ops[j]? with
 | none => simp
 | some o => simp [and_assoc]

theorem reach_sound {listed : Array Bool} (hdn : ∀ j oj, ops[j]? = some oj → listed.getD j false = true → ∀ e ∈ oj.after, Region.binds md e = true → listed.getD e.on false = true) :
  ∀ (k : Nat) (l : List Nat), (∀ x ∈ l, listed.getD x false = true) → ∀ x ∈ reach md ops k l, listed.getD x false = true
 | 0, _, h => h
 | k + 1, l, h => by
  unfold reach
  refine reach_sound hdn k _ ?_
  split
  ·rename_i hc
   intro x hx
   rcases List.mem_append.1 hx with q | q
   ·exact h x q
   ·obtain ⟨o, ho, e, he, hb, rfl⟩ := mem_afters.1 q
    exact hdn k o ho (h k (by simpa using hc)) e he hb
  ·exact h

end

end Go.Proofs.YtfgbkpbakignhaaGreat
/- A region that draws its order, walked in one order: reads are taken where they stand if their values hold in every world that the region may come to; what writes comes up alone. No program here. -/
namespace Go.Proofs.YtfgbkpbakignhaaGreat
open Go

section
variable {P : Program} {ops : Array Oper} {Q : Exit → Act → World → Prop} {md : Region.Mode} {S : World → Prop} {N : Nat → Bool} {R : List Nat}

def wpAnyN (P : Program) (md : Region.Mode) (ops : Array Oper) (Q : Exit → Act → World → Prop) (S : World → Prop) (N : Nat → Bool) : Nat → Array Bool → Act → World → Prop
 | 0, listed, a, w => Region.ready md ops listed = [] ∧ Q .normal a w
 | fuel + 1, listed, a, w =>
  (Region.ready md ops listed = [] → Q .normal a w) ∧
  ∀ i ∈ Region.ready md ops listed, wpOp P ops Q i (fun a' w' => (N i = true → S w') ∧ wpAnyN P md ops Q S N fuel (listed.setIfInBounds i true) a' w') a w

theorem wpAnyN_any : ∀ (fuel : Nat) (listed : Array Bool) (a : Act) (w : World), wpAnyN P md ops Q S N fuel listed a w → wpAny P md ops Q fuel listed a w
 | 0, _, _, _, h => h
 | fuel + 1, _, _, _, h => ⟨h.1, fun i hi => wpOp_mono (fun a' w' h' => wpAnyN_any fuel _ a' w' h'.2) (h.2 i hi)⟩

def Down (md : Region.Mode) (ops : Array Oper) (listed : Array Bool) : Prop := ∀ j oj, ops[j]? = some oj → listed.getD j false = true → ∀ e ∈ oj.after, Region.binds md e = true → listed.getD e.on false = true

theorem down_set {listed : Array Bool} {j : Nat} (hd : Down md ops listed) (hj : j ∈ Region.ready md ops listed) : Down md ops (listed.setIfInBounds j true) := by
 intro k ok hk hlk e he hb
 obtain ⟨-, oj, hoj, hall⟩ := mem_ready.1 hj
 by_cases hkj : k = j
 ·subst hkj
  rw [hoj] at hk
  cases hk
  exact getD_set_true (hall e he hb)
 ·rw [getD_set_ne false (Ne.symm hkj)] at hlk
  exact getD_set_true (hd k ok hk hlk e he hb)

theorem not_reach {listed : Array Bool} {i j : Nat} (hd : Down md ops listed) (hj : j ∈ Region.ready md ops listed) (hi : listed.getD i false = false) : i ∉ reach md ops ops.size (afters md ops j) := by
 intro h
 obtain ⟨-, oj, hoj, hall⟩ := mem_ready.1 hj
 have := reach_sound hd ops.size (afters md ops j) (fun x hx => by
  obtain ⟨o, ho, e, he, hb, rfl⟩ := mem_afters.1 hx
  rw [hoj] at ho
  cases ho
  exact hall e he hb) i h
 rw [hi] at this
 cases this

theorem unlisted {listed : Array Bool} {i : Nat} (hr : i ∈ Region.ready md ops listed) : listed.getD i false = false := by
 have h0 := (mem_ready.1 hr).1
 rcases Nat.lt_or_ge i listed.size with q | q
 ·simp [q] at h0 ⊢; exact h0
 ·simp [Array.getElem?_eq_none q] at h0

theorem wpAnyN_first {i : Nat} {oi : Oper} {v : Value} (hi : ops[i]? = some oi) (hsel : ∀ (j : Nat) (o : Oper) cs b, ops[j]? = some o → o.op ≠ .select cs b)
  (hQ : ∀ c a w, Q (.panic c) (a.put oi.dst v) w → Q (.panic c) a w)
  (hN : ∀ j, j ≠ i → i ∉ reach md ops ops.size (afters md ops j) → N j = true) :
  ∀ (fuel : Nat) (listed : Array Bool) (a : Act) (w : World), Down md ops listed →
   (∀ j oj, ops[j]? = some oj → j ≠ i → listed.getD j true = false → (∀ e ∈ oj.after, Region.binds md e = true → e.on ≠ i) → oi.apart ops oj = true) →
   i ∈ Region.ready md ops listed → YieldsIf P ops S oi v a → S w →
   wpAnyN P md ops Q S N fuel (listed.setIfInBounds i true) (a.put oi.dst v) w → wpAnyN P md ops Q S N (fuel + 1) listed a w := by
 intro fuel
 induction fuel with
 | zero =>
  intro listed a w _ _ hr hy hS H
  refine ⟨fun h => (by rw [h] at hr; cases hr), fun j hj => ?_⟩
  by_cases hji : j = i
  ·subst hji; exact hy.wpOp hi hS ⟨fun _ => hS, H⟩
  ·have := ready_mono hj hji
   rw [H.1] at this
   cases this
 | succ fuel ih =>
  intro listed a w hdn hfree hr hy hS H
  refine ⟨fun h => (by rw [h] at hr; cases hr), fun j hj => ?_⟩
  by_cases hji : j = i
  ·subst hji; exact hy.wpOp hi hS ⟨fun _ => hS, H⟩
  ·obtain ⟨hjun, oj, hoj, hall⟩ := mem_ready.1 hj
   have hnot : ∀ e ∈ oj.after, Region.binds md e = true → e.on ≠ i := fun e he hb heq => by
    have h1 := hall e he hb
    have h0 := (mem_ready.1 hr).1
    rw [heq] at h1
    rcases Nat.lt_or_ge i listed.size with h' | h'
    ·simp [h'] at h0 h1; rw [h0] at h1; cases h1
    ·simp [Array.getElem?_eq_none h'] at h1
   have hNj := hN j hji (not_reach hdn hj (unlisted hr))
   have h2 := wpOp_putIf hoj (hfree j oj hoj hji hjun hnot) (fun cs b => hsel i oi cs b hi) (fun cs b => hsel j oj cs b hoj) hQ hy (H.2 j (ready_mono hj hji))
   refine wpOp_mono (fun a' w' h3 => ⟨fun _ => h3.2.1 hNj, ih (listed.setIfInBounds j true) a' w' (down_set hdn hj) (fun k ok hk hki hun hno => ?_) (ready_mono hr (Ne.symm hji)) h3.1 (h3.2.1 hNj) ?_⟩) h2
   ·refine hfree k ok hk hki ?_ hno
    by_cases hjk : j = k
    ·subst hjk; exact hjun
    ·rw [getD_set_ne true hjk] at hun; exact hun
   ·rw [Array.setIfInBounds_comm _ _ hji]
    exact h3.2.2

def needs (md : Region.Mode) (ops : Array Oper) (R : List Nat) (j : Nat) : Bool :=
 R.any fun i => i != j && !(reach md ops ops.size (afters md ops j)).contains i

theorem needs_of {i j : Nat} (hi : i ∈ R) (hne : j ≠ i) (hno : i ∉ reach md ops ops.size (afters md ops j)) : needs md ops R j = true := by
 refine List.any_eq_true.2 ⟨i, hi, ?_⟩
 simp only [Bool.and_eq_true, bne_iff_ne, ne_eq, Bool.not_eq_true', List.contains_eq_mem, decide_eq_false_iff_not]
 exact ⟨Ne.symm hne, hno⟩

end

end Go.Proofs.YtfgbkpbakignhaaGreat
/- A region that draws its order, walked as a tree: reads are taken where they stand if their values hold in every world that the region may come to; of what writes, at most two come up beside each other, and both ways are walked. No program here. -/
namespace Go.Proofs.YtfgbkpbakignhaaGreat
open Go

inductive Way where
 | done : Way
 | then_ : Nat → Way → Way
 | fork : Nat → Nat → Way → Way → Way

def Way.size : Way → Nat
 | done => 0
 | then_ _ r => r.size + 1
 | fork _ _ r s => max r.size s.size + 1

def Way.line : List Nat → Way → Way
 | [], r => r
 | i :: l, r => .then_ i (Way.line l r)

section
variable {P : Program} {ops : Array Oper} {Q : Exit → Act → World → Prop} {md : Region.Mode} {S : World → Prop} {R : List Nat}

def Way.inside (n : Nat) : Way → Bool
 | done => true
 | then_ i r => decide (i < n) && r.inside n
 | fork i j r s => decide (i < n) && decide (j < n) && r.inside n && s.inside n

def wayChk (md : Region.Mode) (ops : Array Oper) (R : List Nat) : Way → Array Bool → Bool
 | .done, listed => (Region.ready md ops listed).isEmpty
 | .then_ i r, listed => (if R.contains i then (Region.ready md ops listed).contains i && Region.free md ops listed i else Region.ready md ops listed == [i]) && wayChk md ops R r (listed.setIfInBounds i true)
 | .fork i j r s, listed => !R.contains i && !R.contains j && Region.ready md ops listed == [i, j] && wayChk md ops R r (listed.setIfInBounds i true) && wayChk md ops R s (listed.setIfInBounds j true)

def Along (P : Program) (md : Region.Mode) (ops : Array Oper) (Q : Exit → Act → World → Prop) (S : World → Prop) (R : List Nat) : Way → Act → World → Prop
 | .done, a, w => Q .normal a w
 | .then_ i r, a, w =>
  if R.contains i then ∃ o, ops[i]? = some o ∧ ∃ v, YieldsIf P ops S o v a ∧ S w ∧ (∀ c a w, Q (.panic c) (a.put o.dst v) w → Q (.panic c) a w) ∧ Along P md ops Q S R r (a.put o.dst v) w
  else wpOp P ops Q i (fun a' w' => (needs md ops R i = true → S w') ∧ Along P md ops Q S R r a' w') a w
 | .fork i j r s, a, w =>
  wpOp P ops Q i (fun a' w' => (needs md ops R i = true → S w') ∧ Along P md ops Q S R r a' w') a w ∧
  wpOp P ops Q j (fun a' w' => (needs md ops R j = true → S w') ∧ Along P md ops Q S R s a' w') a w

theorem along_sound (hs : Region.noSelect ops = true) : ∀ (way : Way) (listed : Array Bool) (a : Act) (w : World) (fuel : Nat), way.size ≤ fuel → way.inside ops.size = true → wayChk md ops R way listed = true → Down md ops listed →
  Along P md ops Q S R way a w → wpAnyN P md ops Q S (needs md ops R) fuel listed a w
 | .done, _, _, _, 0, _, _, hc, _, h => ⟨by simpa [wayChk] using hc, h⟩
 | .done, _, _, _, n + 1, _, _, hc, _, h => ⟨fun _ => h, by rw [show Region.ready md ops _ = [] by simpa [wayChk] using hc]; simp⟩
 | .then_ i rest, listed, a, w, 0, hl, _, _, _, _ => by simp [Way.size] at hl
 | .fork i j r s, listed, a, w, 0, hl, _, _, _, _ => by simp [Way.size] at hl
 | .then_ i rest, listed, a, w, fuel + 1, hl, hlt, hc, hdn, h => by
  simp only [Way.size, Nat.add_le_add_iff_right] at hl
  simp only [Way.inside, Bool.and_eq_true, decide_eq_true_eq] at hlt
  unfold wayChk at hc
  rw [Bool.and_eq_true] at hc
  unfold Along at h
  by_cases hR : R.contains i = true
  ·rw [if_pos hR] at h
   rw [if_pos hR, Bool.and_eq_true] at hc
   obtain ⟨o, ho, v, hy, hS, hQ, h⟩ := h
   exact wpAnyN_first ho (Region.noSelect_spec hs) hQ (fun j hne hno => needs_of (by simpa using hR) hne hno) fuel listed a w hdn (Region.free_spec ho hc.1.2) (by simpa using hc.1.1) hy hS
    (along_sound hs rest _ _ _ fuel hl hlt.2 hc.2 (down_set hdn (by simpa using hc.1.1)) h)
  ·rw [if_neg hR] at h hc
   have hr : Region.ready md ops listed = [i] := by simpa using hc.1
   refine ⟨fun h0 => (by rw [hr] at h0; cases h0), fun j hj => ?_⟩
   rw [hr] at hj
   obtain rfl : j = i := by simpa using hj
   exact wpOp_mono (fun a' w' h' => ⟨h'.1, along_sound hs rest _ a' w' fuel hl hlt.2 hc.2 (down_set hdn (by rw [hr]; simp)) h'.2⟩) h
 | .fork i j r s, listed, a, w, fuel + 1, hl, hlt, hc, hdn, h => by
  simp only [Way.size, Nat.add_le_add_iff_right] at hl
  simp only [Way.inside, Bool.and_eq_true, decide_eq_true_eq] at hlt
  unfold wayChk at hc
  simp only [Bool.and_eq_true, Bool.not_eq_true', beq_iff_eq] at hc
  obtain ⟨⟨⟨⟨-, -⟩, hr⟩, hc1⟩, hc2⟩ := hc
  unfold Along at h
  refine ⟨fun h0 => (by rw [hr] at h0; cases h0), fun k hk => ?_⟩
  rw [hr] at hk
  have hk' : k = i ∨ k = j := by simpa using hk
  rcases hk' with e | e
  ·subst e
   exact wpOp_mono (fun a' w' h' => ⟨h'.1, along_sound hs r _ a' w' fuel (by omega) hlt.1.2 hc1 (down_set hdn (by rw [hr]; simp)) h'.2⟩) h.1
  ·subst e
   exact wpOp_mono (fun a' w' h' => ⟨h'.1, along_sound hs s _ a' w' fuel (by omega) hlt.2 hc2 (down_set hdn (by rw [hr]; simp)) h'.2⟩) h.2

theorem wp_region_way {id : Nat} {a : Act} {w : World} (S : World → Prop) (R : List Nat) (way : Way) (hm : P.follows .mixedOrders = true)
  (hc : (Region.noSelect ops && decide (way.size ≤ ops.size) && way.inside ops.size && wayChk .any ops R way (Array.replicate ops.size false)) = true)
  (h : Along P .any ops Q S R way a w.drew) : (Code.region id ops true).wp P Q a w := by
 simp only [Bool.and_eq_true, decide_eq_true_eq] at hc
 exact wp_region_any hm (wpAnyN_any _ _ _ _ (along_sound hc.1.1.1 way _ a _ _ hc.1.1.2 hc.1.2 hc.2 (fun j _ _ hj => by simp [Array.getElem?_replicate] at hj; split at hj <;> simp_all) h))

theorem along_read {i : Nat} {rest : Way} {a : Act} {w : World} {o : Oper} {v : Value} (ho : ops[i]? = some o) (hR : R.contains i = true) (hw : Region.wanted o (yielded ops a.tmps) = true)
  (hQ : ∀ c a w, Q (.panic c) (a.put o.dst v) w → Q (.panic c) a w) (hS : S w) (hv : ∀ w, S w → (execOp a.eval o).run P w = .ok (.value v) w) (h : Along P md ops Q S R rest (a.put o.dst v) w) : Along P md ops Q S R (.then_ i rest) a w := by
 unfold Along
 rw [if_pos hR]
 exact ⟨o, ho, v, Or.inl ⟨hw, hv⟩, hS, hQ, h⟩

theorem along_off {i : Nat} {rest : Way} {a : Act} {w : World} {o : Oper} (ho : ops[i]? = some o) (hR : R.contains i = true) (hw : Region.wanted o (yielded ops a.tmps) = false)
  (hQ : ∀ c a w, Q (.panic c) (a.put o.dst undef) w → Q (.panic c) a w) (hS : S w) (h : Along P md ops Q S R rest (a.put o.dst undef) w) : Along P md ops Q S R (.then_ i rest) a w := by
 unfold Along
 rw [if_pos hR]
 exact ⟨o, ho, undef, Or.inr ⟨hw, rfl⟩, hS, hQ, h⟩

theorem along_skip {i : Nat} {rest : Way} {a : Act} {w : World} {o : Oper} (ho : ops[i]? = some o) (hR : R.contains i = false) (hw : Region.wanted o (yielded ops a.tmps) = false)
  (hS : S w) (h : Along P md ops Q S R rest (a.put o.dst undef) w) : Along P md ops Q S R (.then_ i rest) a w := by
 unfold Along
 rw [if_neg (by simp only [hR]; decide)]
 unfold wpOp
 simp only [ho, hw]
 exact ⟨fun _ => hS, h⟩

theorem along_op {i : Nat} {rest : Way} {a : Act} {w : World} {o : Oper} (ho : ops[i]? = some o) (hR : R.contains i = false) (hw : Region.wanted o (yielded ops a.tmps) = true)
  (h : ∀ K : Act → World → Prop, Shut (∀ a w, (needs md ops R i = true → S w) → Along P md ops Q S R rest a w → K a w) → Oper.wp P o a w K Q) : Along P md ops Q S R (.then_ i rest) a w := by
 unfold Along
 rw [if_neg (by simp only [hR]; decide)]
 unfold wpOp
 simp only [ho, hw, if_true]
 exact Or.inl (h _ (fun a w hS hr => ⟨hS, hr⟩))

theorem along_fork {i j : Nat} {r s : Way} {a : Act} {w : World} (hi : R.contains i = false) (hj : R.contains j = false) (h1 : Along P md ops Q S R (.then_ i r) a w) (h2 : Along P md ops Q S R (.then_ j s) a w) : Along P md ops Q S R (.fork i j r s) a w := by
 unfold Along at h1 h2 ⊢
 rw [if_neg (by simp only [hi]; decide)] at h1
 rw [if_neg (by simp only [hj]; decide)] at h2
 exact ⟨h1, h2⟩

theorem along_done {a : Act} {w : World} (h : Q .normal a w) : Along P md ops Q S R .done a w := h
end

end Go.Proofs.YtfgbkpbakignhaaGreat
/- Rows of ints of a call's own: appends, stores, literals; lists of lists; calls inside drawn regions. Conditions: what each law says. -/
namespace Go.Proofs.YtfgbkpbakignhaaGreat
open Go.RowKit Go.Maps

theorem run_spread {t e : TypeId} {z : Value} {size bytes : Nat} (E : Elem t e z size bytes) {w : World} {B B' : Nat} {v u : Value} {n m : Nat} {xs ys : List Value} (hown : w.ownsRow B e size v n xs) (hsrc : w.ownsRow B' e size u m ys) (hB : B ≤ w.heap.size)
  (h1 : ∀ y ∈ ys, y.oneCell' = true) (hn : n + m < 68719476736) (ty : TypeId) :
  ∃ v' w', (Builtin.append_ #[t, t] ty #[v, u]).run Tryz.prog w = .ok v' w' ∧ w'.ownsRow B e size v' (n + m) (xs ++ ys) ∧ Chg v.ownBlock.toList w w' ∧ (∀ b ∈ v'.ownBlock.toList, b ∈ v.ownBlock.toList ∨ w.heap.size ≤ b) := by
 obtain ⟨i0, hi, hz0, hz1, hz2⟩ := info_parts E.hi
 have hb := E.hb
 rcases hsrc.2 with ⟨rfl, rfl⟩ | ⟨g, cap, cur, rfl, hg, hh, hnc, hcm, hcs, hys⟩
 ·have hy : ys = [] := List.length_eq_zero_iff.1 (by rw [hsrc.1]; simp)
  subst hy
  exact ⟨v, w, run_append_owned_none w B t ty e i0 size E.ht hi v n xs hown, by simpa using hown, Chg.refl _ _, fun b hb => Or.inl hb⟩
 ·have hl := hsrc.1
  have hnews : ∀ j y, ys[j]? = some y → w.cell? ((⟨g, 0, none⟩ : Addr).add j) = some y := by
   intro j y hy
   have hadd : (⟨g, 0, none⟩ : Addr).add j = ⟨g, j, none⟩ := by unfold Addr.add; split <;> simp_all
   rw [hadd, cell_of_row w _ j cur e (0, 0) hh]
   rw [← hys] at hy
   rw [List.getElem?_take] at hy
   split at hy
   ·simpa using hy
   ·cases hy
  obtain ⟨v', w', hr, h2, h3, -, h5⟩ := run_append_own_at (P := Tryz.prog) w B t ty e i0 z size bytes E.ht hi hz0 hz1 hz2 E.hz E.h0 v n xs hown ⟨g, 0, none⟩ m cap ys hl hnews h1 (by unfold maxLen; omega) (Nat.le_trans (Nat.mul_le_mul_left _ hb) (by omega)) hB
  refine ⟨v', w', hr, h2, (Chg.refl _ _).grown h3 (fun j hj => Or.inl (by rw [hj]; simp)), fun b hb => ?_⟩
  rcases h5 with q | q
  ·exact Or.inl (by rw [← q]; exact hb)
  ·rw [q] at hb
   simp at hb
   exact Or.inr (by omega)

theorem wp_spread {t e : TypeId} {z : Value} {size bytes : Nat} (E : Elem t e z size bytes) {o : Oper} {a : Act} {K : Act → World → Prop} {Q : Exit → Act → World → Prop} {w : World} (s x : Operand) (ho : o.op = .call { callee := .builtin .append, args := #[s, x], argTypes := #[t, t] })
  {B B' : Nat} {v u : Value} {n m : Nat} {xs ys : List Value} (hs : a.eval s = v) (hx : a.eval x = u) (hown : w.ownsRow B e size v n xs) (hsrc : w.ownsRow B' e size u m ys) (hB : B ≤ w.heap.size)
  (h1 : ∀ y ∈ ys, y.oneCell' = true) (hn : n + m < 68719476736)
  (hK : ∀ v' w', w'.ownsRow B e size v' (n + m) (xs ++ ys) → Chg v.ownBlock.toList w w' → (∀ b ∈ v'.ownBlock.toList, b ∈ v.ownBlock.toList ∨ w.heap.size ≤ b) → K (a.put o.dst v') w') : o.wp Tryz.prog a w K Q := by
 obtain ⟨v', w', hr, r1, r2, r3⟩ := run_spread E hown hsrc hB h1 hn o.type
 unfold Oper.wp execOp
 simp only [ho, resolve, invoke, builtin, Sem.run_bind, Sem.run_pure, Result.andThen_ok, List.map_toArray, List.map_cons, List.map_nil, hs, hx, hr]
 exact hK v' w' r1 r2 r3

def RowAt (w : World) (B : Nat) (v : Value) (l : List Int) : Prop := w.ownsRow B 3 1 v l.length (ints l) ∧ (∀ x ∈ l, I64 x) ∧ l.length < 4294967296

theorem RowAt.ints {w : World} {B : Nat} {v : Value} {l : List Int} (h : RowAt w B v l) : IntsAt w v l := by
 obtain ⟨h, h1, h2⟩ := h
 rcases h.2 with ⟨rfl, h0⟩ | ⟨g, cap, cur, rfl, hg, hh, hnc, hcm, hcs, hys⟩
 ·have : l = [] := List.length_eq_zero_iff.1 h0
  subst this
  exact IntsAt.nil _
 ·refine ⟨_, cap, rfl, h1, by omega, fun _ => ⟨g, 0, rfl, fun i hi => ?_⟩⟩
  rw [Nat.zero_add, cell_of_row w _ i cur 3 (0, 0) hh]
  have : cur.toList[i]? = some (.int .i64 (l.getD i 0)) := by
   have q : (Go.Proofs.YtfgbkpbakignhaaGreat.ints l)[i]? = some (.int .i64 (l.getD i 0)) := by simp [Go.Proofs.YtfgbkpbakignhaaGreat.ints, List.getD, hi]
   rw [← hys, List.getElem?_take, if_pos (by omega)] at q
   exact q
  simpa using this

theorem RowAt.chg {w w' : World} {B : Nat} {v : Value} {l : List Int} {own : List Nat} (h : RowAt w B v l) (hc : Chg own w w') (hn : ∀ b ∈ v.ownBlock.toList, b ∉ own) : RowAt w' B v l :=
 ⟨owns_chg h.1 hc (fun b hb => hn b (by rw [hb]; simp)), h.2⟩

theorem RowAt.low {w : World} {B : Nat} {v : Value} {l : List Int} (h : RowAt w B v l) : ∀ b ∈ v.ownBlock.toList, B ≤ b ∧ b < w.heap.size := fun b hb => h.1.lt b (by simpa using hb)

theorem foot_slice (ao : Option Addr) (n c : Nat) : foot (.slice ao n c) = (Value.slice ao n c).ownBlock.toList := rfl

theorem RowAt.shape {w : World} {B : Nat} {v : Value} {l : List Int} (h : RowAt w B v l) : ∃ ao c, v = .slice ao l.length c := owns_shape h.1

theorem RowAt.foot {w : World} {B : Nat} {v : Value} {l : List Int} (h : RowAt w B v l) : foot v = v.ownBlock.toList := by
 obtain ⟨ao, c, rfl⟩ := h.shape
 rfl

theorem ints_ones {l : List Int} : ∀ y ∈ ints l, y.oneCell' = true := by
 intro y hy
 simp only [ints, List.mem_map] at hy
 obtain ⟨x, -, rfl⟩ := hy
 rfl

theorem wp_cat {o : Oper} {a : Act} {K : Act → World → Prop} {Q : Exit → Act → World → Prop} {w : World} (s x : Operand) (ho : o.op = .call { callee := .builtin .append, args := #[s, x], argTypes := #[25, 25] })
  {B B' : Nat} {v u : Value} {l m : List Int} (hs : a.eval s = v) (hx : a.eval x = u) (h1 : RowAt w B v l) (h2 : RowAt w B' u m) (hB : B ≤ w.heap.size) (hn : l.length + m.length < 4294967296)
  (hK : ∀ v' w', RowAt w' B v' (l ++ m) → Chg (foot v) w w' → (∀ b ∈ foot v', b ∈ foot v ∨ w.heap.size ≤ b) → K (a.put o.dst v') w') : o.wp Tryz.prog a w K Q :=
 wp_spread elemInt s x ho hs hx h1.1 h2.1 hB ints_ones (by omega) fun v' w' r1 r2 r3 => by
  have hr : RowAt w' B v' (l ++ m) := ⟨by rw [List.length_append]; simpa [ints] using r1, fun y hy => (List.mem_append.1 hy).elim (h1.2.1 y) (h2.2.1 y), by rw [List.length_append]; exact hn⟩
  exact hK v' w' hr (by rw [h1.foot]; exact r2) (fun b hb => by rw [h1.foot]; exact r3 b (by rw [← hr.foot]; exact hb))

theorem RowAt.base {w : World} {B B' : Nat} {v : Value} {l : List Int} (h : RowAt w B' v l) (hB : B ≤ B') : RowAt w B v l := by
 obtain ⟨⟨h0, h1⟩, h2⟩ := h
 refine ⟨⟨h0, h1.imp id ?_⟩, h2⟩
 rintro ⟨g, cap, cur, e, q, r⟩
 exact ⟨g, cap, cur, e, by omega, r⟩

section
variable {ops : Array Oper} {Q : Exit → Act → World → Prop} {fr : (Nat → Value) → Act} {z : Nat} {fin : List Nat} {w1 : World} {i : Nat} {rest : List (Oper × Info)} {L : List (Value → World → Prop)} {o : Oper} {d : Info}

end

theorem RowAt.some {w : World} {B : Nat} {ao : Option Addr} {n c : Nat} {l : List Int} (h : RowAt w B (.slice ao n c) l) (hl : 0 < l.length) : ∃ g, ao = some ⟨g, 0, none⟩ ∧ ∀ i, i < l.length → w.cell? ⟨g, i, none⟩ = .some (.int .i64 (l.getD i 0)) := by
 rcases h.1.2 with ⟨e, h0⟩ | ⟨g, cap, cur, e, -, hh, -⟩
 ·omega
 ·obtain ⟨ao', c', e1, h1, h2, h3⟩ := h.ints
  obtain ⟨b, off, rfl, h4⟩ := h3 (by intro q; rw [q] at hl; simp at hl)
  simp only [Value.slice.injEq] at e e1
  obtain ⟨rfl, -, -⟩ := e
  obtain ⟨e2, -, -⟩ := e1
  simp only [Option.some.injEq, Addr.mk.injEq] at e2
  obtain ⟨rfl, rfl, -⟩ := e2
  exact ⟨_, rfl, fun i hi => by simpa using h4 i hi⟩

theorem wp_calls {P : Program} {o : Oper} {a : Act} {K : Act → World → Prop} {Q : Exit → Act → World → Prop} {w : World} {f : FuncId} {xs : Array Operand} {tys : Array TypeId} {args : Array Value} (ho : o.op = .call { callee := .value (.func f), args := xs, argTypes := tys })
  (he : ∀ args w, (callFunc f args).run P w = .ok (.enter f args) w) (hx : xs.toList.map a.eval = args.toList) (h : Calls P f args w fun e w' => ∃ v, e = .returned v ∧ K (a.put o.dst v) w') : o.wp P a w K Q := by
 have e : (execOp a.eval o).run P w = .ok (.enter f args) w := by
  unfold execOp
  have hx' : xs.map a.eval = args := by
   apply Array.toList_inj.1
   rw [Array.toList_map]
   exact hx
  simp only [ho]
  simp [resolve, go_sem, hx', he]
 unfold Oper.wp
 rw [e, Oper.upon_enter]
 refine h.mono ?_
 rintro e' w' ⟨v, rfl, hk⟩
 exact hk

theorem wl_cat {ops : Array Oper} {rest : List Oper} {o : Oper} {a : Act} {Q : Exit → Act → World → Prop} {w : World} (hg : o.guard = none) (s x : Operand) (ho : o.op = .call { callee := .builtin .append, args := #[s, x], argTypes := #[25, 25] })
  {B B' : Nat} {v u : Value} {l m : List Int} (hs : a.eval s = v) (hx : a.eval x = u) (h1 : RowAt w B v l) (h2 : RowAt w B' u m) (hB : B ≤ w.heap.size) (hn : l.length + m.length < 4294967296)
  (hK : ∀ v' w', RowAt w' B v' (l ++ m) → Chg (foot v) w w' → (∀ b ∈ foot v', b ∈ foot v ∨ w.heap.size ≤ b) → wpList Tryz.prog ops Q rest (a.put o.dst v') w') : wpList Tryz.prog ops Q (o :: rest) a w :=
 wpList_plain hg fun _ hK' => wp_cat s x ho hs hx h1 h2 hB hn fun v' w' r1 r2 r3 => hK' _ _ (hK v' w' r1 r2 r3)

theorem RowAt.set {w : World} {B g n c : Nat} {l : List Int} (h : RowAt w B (.slice (.some ⟨g, 0, none⟩) n c) l) (i : Nat) (x : Int) (hx : I64 x) : RowAt (w.setCell ⟨g, i, none⟩ (.int .i64 x)) B (.slice (.some ⟨g, 0, none⟩) n c) (l.set i x) := by
 obtain ⟨ao, c', e⟩ := h.shape
 simp only [Value.slice.injEq] at e
 obtain ⟨-, rfl, -⟩ := e
 refine ⟨?_, fun y hy => ?_, by rw [List.length_set]; exact h.2.2⟩
 ·have := (h.1.stored i (.int .i64 x)).1
  rw [List.length_set, _root_.Go.Proofs.YtfgbkpbakignhaaGreat.ints, List.map_set]
  exact this
 ·rcases List.mem_or_eq_of_mem_set hy with q | q
  ·exact h.2.1 y q
  ·rw [q]; exact hx

theorem RowAt.free {w : World} {B g n c : Nat} {l : List Int} (h : RowAt w B (.slice (.some ⟨g, 0, none⟩) n c) l) (hl : 0 < l.length) (i : Nat) : w.frozen? ⟨g, i, none⟩ = false := by
 rcases h.1.2 with ⟨e, h0⟩ | ⟨g', cap, cur, e, -, hh, -⟩
 ·omega
 ·simp only [Value.slice.injEq, Option.some.injEq, Addr.mk.injEq] at e
  obtain ⟨⟨rfl, -⟩, -⟩ := e
  simp [World.frozen?, hh]

theorem RowsOwn.add {w w' : World} {B g cap : Nat} {ov v : Value} {vs : List Value} {ll : List (List Int)} {l : List Int} (h : RowsOwn w B ov vs ll) (hv : w.ownsRow B 3 1 v l.length (ints l))
  (hap : ∀ k b, k < vs.length → (vs.getD k undef).ownBlock = some b → v.ownBlock ≠ some b) (hn : w'.ownsRow B 25 1 (.slice (some ⟨g, 0, none⟩) (vs.length + 1) cap) (vs.length + 1) (vs ++ [v])) (hc : Chg ov.ownBlock.toList w w') :
  RowsOwn w' B (.slice (some ⟨g, 0, none⟩) (vs.length + 1) cap) (vs ++ [v]) (ll ++ [l]) := by
 have hl := h.len
 have old : ∀ k, k < vs.length → (vs ++ [v]).getD k undef = vs.getD k undef ∧ (ll ++ [l]).getD k [] = ll.getD k [] := by
  intro k hk
  simp only [List.getD]
  rw [List.getElem?_append_left hk, List.getElem?_append_left (by omega)]
  exact ⟨rfl, rfl⟩
 have new : (vs ++ [v]).getD vs.length undef = v ∧ (ll ++ [l]).getD vs.length [] = l := by
  simp [List.getD, hl]
 have keep : ∀ {u : Value} {m : List Int}, w.ownsRow B 3 1 u m.length (ints m) → w'.ownsRow B 3 1 u m.length (ints m) := by
  intro u m hu
  refine owns_chg hu hc (fun b hb e1 => ?_)
  rcases owns_two hu h.out (by decide) with q | q
  ·rw [q] at hb; cases hb
  ·simp at e1; exact q (hb.trans e1.symm)
 refine ⟨by simpa using hn, by simp [hl], fun k hk => ?_, fun k j hk hj hne => ?_⟩
 ·by_cases e : k < vs.length
  ·rw [(old k e).1, (old k e).2]
   exact keep (h.rows k e)
  ·have : k = vs.length := by simp at hk; omega
   subst this
   rw [new.1, new.2]
   exact keep hv
 ·by_cases e : k < vs.length
  ·rw [(old k e).1]
   by_cases e2 : j < vs.length
   ·rw [(old j e2).1]
    exact h.apart k j e e2 hne
   ·have : j = vs.length := by simp at hj; omega
    subst this
    rw [new.1]
    cases hq : (vs.getD k undef).ownBlock with
    | none => exact Or.inl rfl
    | some b => exact Or.inr (fun q => hap k b e hq q.symm)
  ·have : k = vs.length := by simp at hk; omega
   subst this
   have e2 : j < vs.length := by simp at hj; omega
   rw [new.1, (old j e2).1]
   cases hq : (vs.getD j undef).ownBlock with
   | none =>
    cases hq2 : v.ownBlock with
    | none => exact Or.inl rfl
    | some b => exact Or.inr (by simp)
   | some b => exact Or.inr (fun q => hap j b e2 hq q)

theorem owns_base {w : World} {B B' : Nat} {e : TypeId} {size : Nat} {v : Value} {n : Nat} {xs : List Value} (h : w.ownsRow B' e size v n xs) (hB : B ≤ B') : w.ownsRow B e size v n xs := by
 obtain ⟨h0, h1⟩ := h
 refine ⟨h0, h1.imp id ?_⟩
 rintro ⟨g, cap, cur, e, q, r⟩
 exact ⟨g, cap, cur, e, by omega, r⟩

theorem RowsOwn.base {w : World} {B B' : Nat} {ov : Value} {vs : List Value} {ll : List (List Int)} (h : RowsOwn w B' ov vs ll) (hB : B ≤ B') : RowsOwn w B ov vs ll :=
 ⟨owns_base h.out hB, h.len, fun k hk => owns_base (h.rows k hk) hB, h.apart⟩

theorem wl_make0 {ops : Array Oper} {rest : List Oper} {o : Oper} {a : Act} {Q : Exit → Act → World → Prop} {w : World} (hg : o.guard = none) (l c : Operand) (hop : o.op = Op.makeSlice 25 l c) {B n : Nat} (hl : a.eval l = .int .i64 0) (hc : a.eval c = .int .i64 n) (hB : B ≤ w.heap.size) (hn : n < 4294967296)
  (hK : ∀ v w', RowAt w' B v [] → Chg [] w w' → (∀ b ∈ foot v, w.heap.size ≤ b) → wpList Tryz.prog ops Q rest (a.put o.dst v) w') : wpList Tryz.prog ops Q (o :: rest) a w := by
 obtain ⟨i0, hi, hz0, hz1, hz2⟩ := info_parts elemInt.hi
 refine wpList_make_own w hg l c 25 hop B 3 i0 (.int .i64 0) 1 elemInt.ht hi hz0 hz1 .i64 .i64 (n : Int) n hl hc rfl ?_ (by unfold maxLen; omega) hB (fun w' h1 h2 => hK _ w' ⟨h1, by simp, by simp⟩ ((Chg.refl _ _).grown h2 (by simp)) (by simp [foot, Value.ownBlock]))
 rw [hz2]
 omega

theorem run_app_read {w : World} {B : Nat} {v u : Value} {l m : List Int} (h1 : RowAt w B v l) (h2 : IntsAt w u m) (hB : B ≤ w.heap.size) (hn : l.length + m.length < 4294967296) (ty : TypeId) :
  ∃ v' w', (Builtin.append_ #[25, 25] ty #[v, u]).run Tryz.prog w = .ok v' w' ∧ RowAt w' B v' (l ++ m) ∧ Chg (foot v) w w' ∧ (∀ b ∈ foot v', b ∈ foot v ∨ w.heap.size ≤ b) := by
 obtain ⟨i0, hi, hz0, hz1, hz2⟩ := info_parts elemInt.hi
 have hb := elemInt.hb
 obtain ⟨ao, cap, rfl, hsm, hml, hc⟩ := h2
 have fin : ∀ (ad : Addr), ao = some ad → (∀ j y, (ints m)[j]? = some y → w.cell? (ad.add j) = some y) → ∃ v' w', (Builtin.append_ #[25, 25] ty #[v, .slice ao m.length cap]).run Tryz.prog w = .ok v' w' ∧ RowAt w' B v' (l ++ m) ∧ Chg (foot v) w w' ∧ (∀ b ∈ foot v', b ∈ foot v ∨ w.heap.size ≤ b) := by
  rintro ad rfl hnews
  obtain ⟨v', w', hr, r2, r3, -, r5⟩ := run_append_own_at (P := Tryz.prog) w B 25 ty 3 i0 (.int .i64 0) 1 8 elemInt.ht hi hz0 hz1 hz2 elemInt.hz elemInt.h0 v l.length (ints l) h1.1 ad m.length cap (ints m) (by simp [ints]) hnews ints_ones (by unfold maxLen; omega) (Nat.le_trans (Nat.mul_le_mul_left _ (Nat.le_refl _)) (by omega)) hB
  have hrow : RowAt w' B v' (l ++ m) := ⟨by rw [List.length_append]; simpa [ints] using r2, fun y hy => (List.mem_append.1 hy).elim (h1.2.1 y) (hsm y), by rw [List.length_append]; exact hn⟩
  refine ⟨v', w', hr, hrow, (Chg.refl _ _).grown r3 (fun j hj => Or.inl (by rw [h1.foot, hj]; simp)), fun b hb => ?_⟩
  rw [hrow.foot] at hb
  rw [h1.foot]
  rcases r5 with q | q
  ·exact Or.inl (by rw [← q]; exact hb)
  ·rw [q] at hb
   simp at hb
   exact Or.inr (by omega)
 cases ao with
 | none =>
  have hm0 : m = [] := by
   cases m with
   | nil => rfl
   | cons x r => obtain ⟨b, off, e, -⟩ := hc (by simp); cases e
  subst hm0
  refine ⟨v, w, ?_, by simpa using h1, Chg.refl _ _, fun b hb => Or.inl hb⟩
  rcases h1.1.2 with ⟨rfl, _⟩ | ⟨g, cap2, cur, rfl, _, _, hnc, _⟩
  ·simp [Builtin.append_, run_underlying elemInt.ht, sizeOf, typeInfo, hi, Builtin.lenOf, Builtin.firstCells]
  ·simp [Builtin.append_, run_underlying elemInt.ht, sizeOf, typeInfo, hi, Builtin.lenOf, Builtin.firstCells, hnc, storeCells]
 | some ad =>
  by_cases hm0 : m = []
  ·subst hm0
   exact fin ad rfl (by simp [ints])
  ·obtain ⟨b, off, e, hcc⟩ := hc hm0
   cases e
   refine fin ⟨b, off, none⟩ rfl fun j y hy => ?_
   have hadd : (⟨b, off, none⟩ : Addr).add j = ⟨b, off + j, none⟩ := by unfold Addr.add; split <;> simp_all
   have hj : j < m.length := by have := (List.getElem?_eq_some_iff.1 hy).1; simpa [ints] using this
   rw [hadd, hcc j hj, ← hy]
   simp [ints, List.getD, hj]

theorem wl_app_read {ops : Array Oper} {rest : List Oper} {o : Oper} {a : Act} {Q : Exit → Act → World → Prop} {w : World} (hg : o.guard = none) (s x : Operand) (ho : o.op = .call { callee := .builtin .append, args := #[s, x], argTypes := #[25, 25] })
  {B : Nat} {v u : Value} {l m : List Int} (hs : a.eval s = v) (hx : a.eval x = u) (h1 : RowAt w B v l) (h2 : IntsAt w u m) (hB : B ≤ w.heap.size) (hn : l.length + m.length < 4294967296)
  (hK : ∀ v' w', RowAt w' B v' (l ++ m) → Chg (foot v) w w' → (∀ b ∈ foot v', b ∈ foot v ∨ w.heap.size ≤ b) → wpList Tryz.prog ops Q rest (a.put o.dst v') w') : wpList Tryz.prog ops Q (o :: rest) a w := by
 refine wpList_plain hg fun K hK' => ?_
 obtain ⟨v', w', hr, r1, r2, r3⟩ := run_app_read h1 h2 hB hn o.type
 unfold Oper.wp execOp
 simp only [ho, resolve, invoke, builtin, Sem.run_bind, Sem.run_pure, Result.andThen_ok, List.map_toArray, List.map_cons, List.map_nil, hs, hx, hr]
 exact hK' _ _ (hK v' w' r1 r2 r3)

theorem wp_app_readK {o : Oper} {a : Act} {K : Act → World → Prop} {Q : Exit → Act → World → Prop} {w : World} (s x : Operand) (ho : o.op = .call { callee := .builtin .append, args := #[s, x], argTypes := #[25, 25] })
  {B : Nat} {v u : Value} {l m : List Int} (hs : a.eval s = v) (hx : a.eval x = u) (h1 : RowAt w B v l) (h2 : IntsAt w u m) (hB : B ≤ w.heap.size) (hn : l.length + m.length < 4294967296)
  (hK : ∀ v' w', RowAt w' B v' (l ++ m) → Chg (foot v) w w' → (∀ b ∈ foot v', b ∈ foot v ∨ w.heap.size ≤ b) → K (a.put o.dst v') w') : o.wp Tryz.prog a w K Q := by
 obtain ⟨v', w', hr, r1, r2, r3⟩ := run_app_read h1 h2 hB hn o.type
 unfold Oper.wp execOp
 simp only [ho, resolve, invoke, builtin, Sem.run_bind, Sem.run_pure, Result.andThen_ok, List.map_toArray, List.map_cons, List.map_nil, hs, hx, hr]
 exact hK v' w' r1 r2 r3

theorem row_kind {w : World} {B : Nat} {v : Value} {l : List Int} (h : RowAt w B v l) : ∀ j ∈ foot v, ∃ cs r, w.heap[j]? = some (.cells cs 3 r) := by
 intro j hj
 rw [h.foot] at hj
 rcases h.1.2 with ⟨rfl, _⟩ | ⟨g, c, cur, rfl, hb, hh, _⟩
 ·simp [Value.ownBlock] at hj
 ·simp [Value.ownBlock] at hj
  subst hj
  exact ⟨_, _, hh⟩

end Go.Proofs.YtfgbkpbakignhaaGreat
