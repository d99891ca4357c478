/- A [][]int that the call itself makes, row by row: what it owns. No condition beyond what each law says. -/
import Derived.Test.YtfgbkpbakignhaaVSetsA
import Derived.Deep.RegionHeld3
import Derived.WalkKit
import Derived.Test.YtfgbkpbakignhaaVBase
import Derived.Test.YtfgbkpbakignhaaVCycP
namespace Go.Proofs.Ytfgbkpbakignhaa
open Go.RowKit Go.Maps

/-- The ints of a list, as cells. -/
def ints (l : List Int) : List Value := l.map (Value.int .i64)

/-- ov is a [][]int of the call's own: its rows' values vs, each row of the call's own, no two of one array. -/
structure RowsOwn (w : World) (B : Nat) (ov : Value) (vs : List Value) (ll : List (List Int)) : Prop where
  out : w.ownsRow B 25 1 ov vs.length vs
  len : vs.length = ll.length
  rows : ∀ k, k < vs.length → w.ownsRow B 3 1 (vs.getD k undef) (ll.getD k []).length (ints (ll.getD k []))
  apart : ∀ k l, k < vs.length → l < vs.length → k ≠ l → (vs.getD k undef).ownBlock = none ∨ (vs.getD k undef).ownBlock ≠ (vs.getD l undef).ownBlock

theorem RowsOwn.nil (w : World) (B : Nat) : RowsOwn w B (.slice none 0 0) [] [] := ⟨World.ownsRow_nil _ _ _ _, rfl, by simp, by simp⟩

/-- A row's block is none of the outer array's. -/
theorem owns_two {w : World} {B B' : Nat} {v u : Value} {n m : Nat} {xs ys : List Value} {e e' : TypeId} {sz sz' : Nat} (h : w.ownsRow B e sz v n xs) (k : w.ownsRow B' e' sz' u m ys) (he : e ≠ e') : v.ownBlock = none ∨ v.ownBlock ≠ u.ownBlock := by
  rcases h.2 with ⟨rfl, _⟩ | ⟨g, cap, cur, rfl, _, hg, _⟩
  · exact Or.inl rfl
  · rcases k.2 with ⟨rfl, _⟩ | ⟨g', cap', cur', rfl, _, hg', _⟩
    · exact Or.inr (by simp [Value.ownBlock])
    · refine Or.inr (fun e1 => ?_)
      simp [Value.ownBlock] at e1
      subst e1
      rw [hg] at hg'
      simp at hg'
      exact he hg'.2

theorem RowsOwn.chg {w w' : World} {B : Nat} {ov : Value} {vs : List Value} {ll : List (List Int)} {own : List Nat} (h : RowsOwn w B ov vs ll) (hc : Chg own w w') (h1 : ∀ b, ov.ownBlock = some b → b ∉ own) (h2 : ∀ k b, k < vs.length → (vs.getD k undef).ownBlock = some b → b ∉ own) : RowsOwn w' B ov vs ll :=
  ⟨owns_chg h.out hc h1, h.len, fun k hk => owns_chg (h.rows k hk) hc (fun b hb => h2 k b hk hb), h.apart⟩

/-- What is changed lies below B: then nothing of it has turned. -/
theorem RowsOwn.below {w w' : World} {B : Nat} {ov : Value} {vs : List Value} {ll : List (List Int)} {own : List Nat} (h : RowsOwn w B ov vs ll) (hc : Chg own w w') (hb : ∀ j ∈ own, j < B) : RowsOwn w' B ov vs ll :=
  h.chg hc (fun b hb' e => by have := (h.out.lt b hb').1; have := hb b e; omega) (fun k b hk hb' e => by have := ((h.rows k hk).lt b hb').1; have := hb b e; omega)

/-- A nil row more. -/
theorem RowsOwn.push {w w' : World} {B g cap : Nat} {ov : Value} {vs : List Value} {ll : List (List Int)} (h : RowsOwn w B ov vs ll) (hn : w'.ownsRow B 25 1 (.slice (some ⟨g, 0, none⟩) (vs.length + 1) cap) (vs.length + 1) (vs ++ [.slice none 0 0])) (hc : Chg ov.ownBlock.toList w w') :
    RowsOwn w' B (.slice (some ⟨g, 0, none⟩) (vs.length + 1) cap) (vs ++ [.slice none 0 0]) (ll ++ [[]]) := by
  have hl := h.len
  have old : ∀ k, k < vs.length → (vs ++ [Value.slice none 0 0]).getD k undef = vs.getD k undef ∧ (ll ++ [[]]).getD k [] = ll.getD k [] := by
    intro k hk
    simp only [List.getD]
    rw [List.getElem?_append_left hk, List.getElem?_append_left (by omega)]
    exact ⟨rfl, rfl⟩
  have new : (vs ++ [Value.slice none 0 0]).getD vs.length undef = .slice none 0 0 ∧ (ll ++ [[]]).getD vs.length [] = [] := by
    simp [List.getD, hl]
  refine ⟨by simpa using hn, by simp [hl], fun k hk => ?_, fun k l hk hl' hne => ?_⟩
  · by_cases e : k < vs.length
    · rw [(old k e).1, (old k e).2]
      refine owns_chg (h.rows k e) hc (fun b hb e1 => ?_)
      rcases owns_two (h.rows k e) h.out (by decide) with q | q
      · rw [q] at hb; cases hb
      · simp at e1; exact q (hb.trans e1.symm)
    · have : k = vs.length := by simp at hk; omega
      subst this
      rw [new.1, new.2]
      exact World.ownsRow_nil _ _ _ _
  · by_cases e : k < vs.length
    · rw [(old k e).1]
      by_cases e2 : l < vs.length
      · rw [(old l e2).1]
        exact h.apart k l e e2 hne
      · have : l = vs.length := by simp at hl'; omega
        subst this
        rw [new.1]
        cases hq : (vs.getD k undef).ownBlock
        · exact Or.inl rfl
        · exact Or.inr (by simp [Value.ownBlock])
    · have : k = vs.length := by simp at hk; omega
      subst this
      rw [new.1]
      exact Or.inl rfl

theorem getD_setV (l : List Value) (i : Nat) (v : Value) (j : Nat) (hi : i < l.length) : (l.set i v).getD j undef = if j = i then v else l.getD j undef := by
  by_cases e : j = i
  · subst e; simp [hi]
  · simp [List.getD, List.getElem?_set_ne (Ne.symm e), e]
theorem getD_setL {α : Type} (l : List (List α)) (i : Nat) (v : List α) (j : Nat) (hi : i < l.length) : (l.set i v).getD j [] = if j = i then v else l.getD j [] := by
  by_cases e : j = i
  · subst e; simp [hi]
  · simp [List.getD, List.getElem?_set_ne (Ne.symm e), e]

/-- A row has been appended to (w to w'), and its new value laid into its place. -/
theorem RowsOwn.put {w w' : World} {B g g' cap cap' : Nat} {n : Nat} {vs : List Value} {ll : List (List Int)} {q : Nat} {x : Int} (h : RowsOwn w B (.slice (some ⟨g, 0, none⟩) n cap) vs ll) (hn : n = vs.length) (hq : q < vs.length)
    (hr : w'.ownsRow B 3 1 (.slice (some ⟨g', 0, none⟩) ((ll.getD q []).length + 1) cap') ((ll.getD q []).length + 1) (ints (ll.getD q []) ++ [.int .i64 x])) (hc : Chg (vs.getD q undef).ownBlock.toList w w') (hl : (vs.getD q undef).ownBlock = some g' ∨ w.heap.size ≤ g') :
    RowsOwn (w'.setCell ⟨g, q, none⟩ (.slice (some ⟨g', 0, none⟩) ((ll.getD q []).length + 1) cap')) B (.slice (some ⟨g, 0, none⟩) n cap) (vs.set q (.slice (some ⟨g', 0, none⟩) ((ll.getD q []).length + 1) cap')) (ll.set q (ll.getD q [] ++ [x])) := by
  subst hn
  have hll := h.len
  have hgv : ∀ k, k < vs.length → (vs.getD k undef).ownBlock ≠ some g := by
    intro k hk e
    rcases owns_two (h.rows k hk) h.out (by decide) with q | q
    · rw [q] at e; cases e
    · exact q e
  have hout : w'.ownsRow B 25 1 (.slice (some ⟨g, 0, none⟩) vs.length cap) vs.length vs := owns_chg h.out hc (fun b hb e => by
    simp [Value.ownBlock] at hb
    subst hb
    simp at e
    exact hgv q hq e)
  have hgg : g' ≠ g := by
    intro e
    rcases owns_two hr hout (by decide) with q | q
    · simp [Value.ownBlock] at q
    · exact q (by simp [Value.ownBlock, e])
  have hs := hout.stored q (.slice (some ⟨g', 0, none⟩) ((ll.getD q []).length + 1) cap')
  refine ⟨by rw [List.length_set]; exact hs.1, by simp [hll], fun k hk => ?_, fun k l hk hl' hne => ?_⟩
  · rw [List.length_set] at hk
    rw [getD_setV _ _ _ _ hq, getD_setL _ _ _ _ (by omega)]
    by_cases e : k = q
    · subst e
      simp only [if_true]
      have e2 : (ll.getD k [] ++ [x]).length = (ll.getD k []).length + 1 := by simp
      rw [e2]
      have : ints (ll.getD k [] ++ [x]) = ints (ll.getD k []) ++ [.int .i64 x] := by simp [ints]
      rw [this]
      exact ownsRow_setCell_other hr (by simpa [Value.ownBlock] using hgg) _
    · rw [if_neg e, if_neg e]
      refine ownsRow_setCell_other (owns_chg (h.rows k hk) hc (fun b hb e1 => ?_)) (by simpa using hgv k hk) _
      rcases h.apart k q hk hq e with r | r
      · rw [r] at hb; cases hb
      · simp at e1; exact r (hb.trans e1.symm)
  · rw [List.length_set] at hk hl'
    rw [getD_setV _ _ _ _ hq, getD_setV _ _ _ _ hq]
    by_cases e : k = q
    · subst e
      rw [if_pos rfl, if_neg (Ne.symm hne)]
      refine Or.inr (fun e1 => ?_)
      replace e1 : some g' = (vs.getD l undef).ownBlock := e1
      rcases hl with r | r
      · rcases h.apart l k hl' hk (Ne.symm hne) with t | t
        · rw [t] at e1; cases e1
        · exact t (e1.symm.trans r.symm)
      · have := ((h.rows l hl').lt g' e1.symm).2
        omega
    · rw [if_neg e]
      by_cases e2 : l = q
      · subst e2
        rw [if_pos rfl]
        cases hb : (vs.getD k undef).ownBlock with
        | none => exact Or.inl rfl
        | some b =>
          refine Or.inr (fun e1 => ?_)
          simp [Value.ownBlock] at e1
          subst e1
          rcases hl with r | r
          · rcases h.apart k l hk hl' hne with t | t
            · rw [t] at hb; cases hb
            · exact t (hb.trans r.symm)
          · have := ((h.rows k hk).lt b hb).2
            omega
      · rw [if_neg e2]
        exact h.apart k l hk hl' hne

end Go.Proofs.Ytfgbkpbakignhaa
/- A region that draws its order, whose operations read, or make what then stays: walked one operation at a time, each from whatever the others have left. No program here. -/
namespace Go.Proofs.Ytfgbkpbakignhaa
open Go

section
variable {P : Program} {ops : Array Oper} {Q : Exit → Act → World → Prop} {md : Region.Mode}

/-- The frame with a value for each operation's slot. -/
def fillL (vals : Nat → Value) : Nat → List Oper → Act → Act
  | _, [], a => a
  | i, o :: r, a => fillL vals (i + 1) r (a.put o.dst (vals i))

theorem put_comm (a : Act) {d e : Option Nat} (u v : Value) (h : ∀ x, d = some x → e ≠ some x) : (a.put d u).put e v = (a.put e v).put d u := by
  cases d with
  | none => rfl
  | some x =>
    cases e with
    | none => rfl
    | some y =>
      have : x ≠ y := fun q => h x rfl (by rw [q])
      simp only [Act.put, Array.setIfInBounds_comm _ _ this]

theorem put_put (a : Act) (d : Option Nat) (u v : Value) : (a.put d u).put d v = a.put d v := by
  cases d with
  | none => rfl
  | some x => simp only [Act.put, Array.setIfInBounds_setIfInBounds]

theorem fillL_put (vals : Nat → Value) (d : Option Nat) (v : Value) : ∀ (l : List Oper) (i : Nat) (a : Act), (∀ o ∈ l, ∀ x, d = some x → o.dst ≠ some x) → fillL vals i l (a.put d v) = (fillL vals i l a).put d v
  | [], _, _, _ => rfl
  | o :: r, i, a, h => by
    simp only [fillL]
    rw [put_comm a v (vals i) (h o (by simp)), fillL_put vals d v r (i + 1) _ (fun o ho => h o (by simp [ho]))]

def upd (vals : Nat → Value) (i : Nat) (v : Value) : Nat → Value := fun j => if j = i then v else vals j

theorem fillL_above (vals : Nat → Value) (k : Nat) (v : Value) : ∀ (l : List Oper) (i : Nat) (a : Act), k < i → fillL (upd vals k v) i l a = fillL vals i l a
  | [], _, _, _ => rfl
  | o :: r, i, a, h => by
    simp only [fillL]
    rw [fillL_above vals k v r (i + 1) _ (by omega), show upd vals k v i = vals i from if_neg (by omega)]

def apart : List Oper → Bool
  | [] => true
  | o :: r => (match o.dst with | none => true | some x => r.all fun p => p.dst != some x) && apart r

theorem apart_spec {o : Oper} {r : List Oper} (h : apart (o :: r) = true) : (∀ p ∈ r, ∀ x, o.dst = some x → p.dst ≠ some x) ∧ apart r = true := by
  rw [apart, Bool.and_eq_true] at h
  refine ⟨fun p hp x hx => ?_, h.2⟩
  have := h.1
  rw [hx] at this
  simpa using List.all_eq_true.1 this p hp

theorem fillL_upd (vals : Nat → Value) (v : Value) : ∀ (l : List Oper) (i k : Nat) (o : Oper) (a : Act), apart l = true → l[k]? = some o → fillL (upd vals (i + k) v) i l a = (fillL vals i l a).put o.dst v
  | [], _, _, _, _, _, hk => by simp at hk
  | p :: r, i, 0, o, a, ha, hk => by
    simp only [List.getElem?_cons_zero, Option.some.injEq] at hk
    subst hk
    have := apart_spec ha
    simp only [fillL, Nat.add_zero]
    rw [fillL_above vals i v r (i + 1) _ (by omega), show upd vals i v i = v from if_pos rfl, ← put_put a p.dst (vals i) v, fillL_put vals p.dst v r (i + 1) _ this.1]
  | p :: r, i, k + 1, o, a, ha, hk => by
    simp only [List.getElem?_cons_succ] at hk
    simp only [fillL]
    rw [show upd vals (i + (k + 1)) v i = vals i from if_neg (by omega), show i + (k + 1) = (i + 1) + k by omega]
    exact fillL_upd vals v r (i + 1) k o _ (apart_spec ha).2 hk

def held (a : Act) (o : Oper) : Value := match o.dst with | none => undef | some x => a.tmps.getD x undef

theorem put_own (a : Act) (o : Oper) : a.put o.dst (held a o) = a := by
  unfold held
  cases hd : o.dst with
  | none => rfl
  | some x =>
    simp only [Act.put]
    have : a.tmps.setIfInBounds x (a.tmps.getD x undef) = a.tmps := by
      apply Array.ext
      · simp
      · intro i h1 h2
        rw [Array.getElem_setIfInBounds]
        · split
          · rename_i e; subst e; simp [Array.getD, h2]
          · rfl
    rw [this]

theorem fillL_own (vals : Nat → Value) (a : Act) : ∀ (l : List Oper) (i : Nat), (∀ k o, l[k]? = some o → vals (i + k) = held a o) → fillL vals i l a = a
  | [], _, _ => rfl
  | o :: r, i, h => by
    simp only [fillL]
    rw [show vals i = held a o by simpa using h 0 o rfl, put_own]
    exact fillL_own vals a r (i + 1) (fun k p hk => by rw [← h (k + 1) p (by simpa using hk)]; congr 1; omega)

/-- Facts of those operations that one leans on. -/
def Facts (L : List (Value → World → Prop)) (vals : Nat → Value) (w : World) : List Nat → Prop
  | [] => True
  | d :: r => (L.getD d (fun _ _ => True)) (vals d) w ∧ Facts L vals w r

def FactsAll (vals : Nat → Value) (w : World) : Nat → List (Value → World → Prop) → Prop
  | _, [] => True
  | i, p :: r => p (vals i) w ∧ FactsAll vals w (i + 1) r

/-- What an operation leans on; whose rows it takes over; whether it makes a row (or more). -/
structure Info where
  deps : List Nat
  con : List Nat
  lin : Bool

/-- The rows of a value. -/
def foot : Value → List Nat
  | .agg vs => vs.toList.flatMap fun v => v.ownBlock.toList
  | v => v.ownBlock.toList

/-- The rows of some operations' values. -/
def foots (vals : Nat → Value) (l : List Nat) : List Nat := l.flatMap fun j => foot (vals j)

def Firm (lin : Bool) (p : Value → World → Prop) : Prop :=
  if lin = true then (∀ X u w w', Chg X w w' → (∀ b ∈ foot u, b ∉ X) → p u w → p u w') ∧ (∀ u w, p u w → ∀ b ∈ foot u, b < w.heap.size) else ∀ u w w', p u w → p u w'

def Obl (P : Program) (ops : Array Oper) (Q : Exit → Act → World → Prop) (G : World → Prop) (fr : (Nat → Value) → Act) (z : Nat) (L : List (Value → World → Prop)) (i : Nat) (o : Oper) (d : Info) (p : Value → World → Prop) : Prop :=
  (i = z ∨ Firm d.lin p) ∧ ∀ vals w, G w → Facts L vals w d.deps →
    wpOp P ops Q i (fun a' w' => ∃ v, a' = (fr vals).put o.dst v ∧ p v w' ∧ (i = z ∨ Chg (foots vals d.con) w w') ∧ (i = z ∨ d.lin = false ∨ ∀ b ∈ foot v, b ∈ foots vals d.con ∨ w.heap.size ≤ b) ∧ (i = z ∨ G w')) (fr vals) w

def Mono (P : Program) (ops : Array Oper) (Q : Exit → Act → World → Prop) (G : World → Prop) (fr : (Nat → Value) → Act) (z : Nat) (fin : List Nat) (L : List (Value → World → Prop)) : Nat → List (Oper × Info) → Prop
  | _, [] => ∀ vals w, (ops.size ≤ z → G w) → Facts L vals w fin → Q .normal (fr vals) w
  | i, (o, d) :: r => ∃ p, Obl P ops Q G fr z L i o d p ∧ Mono P ops Q G fr z fin (L ++ [p]) (i + 1) r

theorem facts_congr {L L' : List (Value → World → Prop)} {vals : Nat → Value} {w : World} : ∀ {d : List Nat}, (∀ x ∈ d, L.getD x (fun _ _ => True) = L'.getD x (fun _ _ => True)) → Facts L vals w d = Facts L' vals w d
  | [], _ => rfl
  | x :: r, h => by
    simp only [Facts]
    rw [h x (by simp), facts_congr (fun y hy => h y (by simp [hy]))]

theorem facts_of {L : List (Value → World → Prop)} {vals : Nat → Value} {w : World} : ∀ {d : List Nat}, (∀ x ∈ d, (L.getD x (fun _ _ => True)) (vals x) w) → Facts L vals w d
  | [], _ => trivial
  | x :: r, h => ⟨h x (by simp), facts_of (fun y hy => h y (by simp [hy]))⟩

theorem factsAll_of {vals : Nat → Value} {w : World} : ∀ {L : List (Value → World → Prop)} {i : Nat}, (∀ j, j < L.length → (L.getD j (fun _ _ => True)) (vals (i + j)) w) → FactsAll vals w i L
  | [], _, _ => trivial
  | p :: r, i, h => ⟨by simpa using h 0 (by simp), factsAll_of (fun j hj => by have := h (j + 1) (by simp; omega); rw [show i + (j + 1) = i + 1 + j by omega] at this; simpa using this)⟩


variable {G : World → Prop} {fr : (Nat → Value) → Act} {z : Nat} {fin : List Nat}

theorem mono_out : ∀ (todo : List (Oper × Info)) (i : Nat) (L : List (Value → World → Prop)), L.length = i → Mono P ops Q G fr z fin L i todo → (∀ k o d, todo[k]? = some (o, d) → ∀ x ∈ d.deps, x < i + k) →
    ∃ L' : List (Value → World → Prop), L'.length = i + todo.length ∧ (∀ j, j < i → L'.getD j (fun _ _ => True) = L.getD j (fun _ _ => True)) ∧
      (∀ k o d, todo[k]? = some (o, d) → Obl P ops Q G fr z L' (i + k) o d (L'.getD (i + k) (fun _ _ => True))) ∧ (∀ vals w, (ops.size ≤ z → G w) → Facts L' vals w fin → Q .normal (fr vals) w)
  | [], i, L, hl, h, _ => ⟨L, hl, fun _ _ => rfl, by simp, h⟩
  | (o, d) :: r, i, L, hl, h, hd => by
    obtain ⟨p, ho, h⟩ := h
    obtain ⟨L', h1, h2, h3, h4⟩ := mono_out r (i + 1) (L ++ [p]) (by simp [hl]) h (fun k o d hk x hx => by have := hd (k + 1) o d (by simpa using hk) x hx; omega)
    have hold : ∀ j, j < i → L'.getD j (fun _ _ => True) = L.getD j (fun _ _ => True) := fun j hj => by
      rw [h2 j (by omega)]
      simp [List.getD, List.getElem?_append_left (show j < L.length by omega)]
    refine ⟨L', by simp [h1]; omega, hold, fun k o' d' hk => ?_, h4⟩
    cases k with
    | zero =>
      simp only [List.getElem?_cons_zero, Option.some.injEq, Prod.mk.injEq] at hk
      obtain ⟨rfl, rfl⟩ := hk
      have e : L'.getD (i + 0) (fun _ _ => True) = p := by
        rw [h2 _ (by omega)]
        subst hl
        simp [List.getD]
      rw [e]
      refine ⟨ho.1, fun vals w hG hF => ho.2 vals w hG ?_⟩
      rwa [← facts_congr (fun x hx => hold x (by simpa using hd 0 o d rfl x hx))]
    | succ k =>
      have := h3 k o' d' (by simpa using hk)
      rwa [show i + (k + 1) = i + 1 + k by omega]

/-- Listed, and taken over by none that is listed. -/
def Live (info : Nat → Info) (n : Nat) (listed : Array Bool) (j : Nat) : Prop := listed.getD j false = true ∧ ∀ i, i < n → listed.getD i false = true → j ∉ (info i).con

theorem mem_foots {vals : Nat → Value} {l : List Nat} {b : Nat} : b ∈ foots vals l ↔ ∃ j ∈ l, b ∈ foot (vals j) := by simp [foots]

theorem wpAny_mono {a0 : Act} {info : Nat → Info} {I : Nat → Value → World → Prop} (hfr : ∀ vals, fr vals = fillL vals 0 ops.toList a0) (hap : apart ops.toList = true)
    (hacy : ∀ j oj, ops[j]? = some oj → ∀ e ∈ oj.after, Region.binds md e = true → e.on < j) (hdeps : ∀ j oj, ops[j]? = some oj → ∀ x ∈ (info j).deps, ∃ e ∈ oj.after, Region.binds md e = true ∧ e.on = x)
    (hcon : ∀ i, i < ops.size → ∀ x ∈ (info i).con, x ∈ (info i).deps ∧ (info x).lin = true) (huse : ∀ i k x, i < ops.size → k < ops.size → x ∈ (info i).deps → x ∈ (info k).con → i = k)
    (hready : ∀ listed : Array Bool, listed.size = ops.size → (∀ j oj, ops[j]? = some oj → listed.getD j false = true → ∀ e ∈ oj.after, Region.binds md e = true → listed.getD e.on false = true) → z < ops.size → z ∈ Region.ready md ops listed → ∀ j, j < ops.size → j ≠ z → listed.getD j false = true)
    (hop : ∀ i o, ops[i]? = some o → (i = z ∨ Firm (info i).lin (I i)) ∧ ∀ vals w, G w → (∀ x ∈ (info i).deps, I x (vals x) w) →
      wpOp P ops Q i (fun a' w' => ∃ v, a' = (fr vals).put o.dst v ∧ I i v w' ∧ (i = z ∨ Chg (foots vals (info i).con) w w') ∧ (i = z ∨ (info i).lin = false ∨ ∀ b ∈ foot v, b ∈ foots vals (info i).con ∨ w.heap.size ≤ b) ∧ (i = z ∨ G w')) (fr vals) w)
    (hend : ∀ vals w, (ops.size ≤ z → G w) → (∀ j, j < ops.size → j ≠ z → (info j).lin = false → I j (vals j) w) → (z < ops.size → I z (vals z) w) →
      (ops.size ≤ z → ∀ j, j < ops.size → (∀ i, i < ops.size → j ∉ (info i).con) → I j (vals j) w) → Q .normal (fr vals) w) :
    ∀ (fuel : Nat) (listed : Array Bool) (vals : Nat → Value) (w : World), listed.size = ops.size → (List.range ops.size).countP (fun j => !listed.getD j false) ≤ fuel →
      (∀ j oj, ops[j]? = some oj → listed.getD j false = true → ∀ e ∈ oj.after, Region.binds md e = true → listed.getD e.on false = true) →
      listed.getD z false = false → (∀ j, listed.getD j false = true → (info j).lin = false → I j (vals j) w) →
      (∀ j, Live info ops.size listed j → (info j).lin = true → I j (vals j) w) →
      (∀ j k, j ≠ k → Live info ops.size listed j → Live info ops.size listed k → (info j).lin = true → (info k).lin = true → ∀ b ∈ foot (vals j), b ∉ foot (vals k)) → G w → wpAny P md ops Q fuel listed (fr vals) w := by
  have hall : ∀ listed : Array Bool, listed.size = ops.size → Region.ready md ops listed = [] → ∀ j, j < ops.size → listed.getD j false = true := by
    intro listed hs hnil j
    induction j using Nat.strongRecOn with
    | _ j ih =>
      intro hj
      apply Classical.byContradiction
      intro hc
      have : j ∈ Region.ready md ops listed := by
        refine mem_ready.2 ⟨?_, ops[j], Array.getElem?_eq_getElem hj, fun e he hb => ih e.on (hacy j _ (Array.getElem?_eq_getElem hj) e he hb) (by have := hacy j _ (Array.getElem?_eq_getElem hj) e he hb; omega)⟩
        have hl : j < listed.size := by omega
        simp [hl] at hc ⊢
        exact hc
      rw [hnil] at this
      cases this
  have hdone : ∀ listed : Array Bool, listed.size = ops.size → (∀ j, j < ops.size → listed.getD j false = true) → Region.ready md ops listed = [] := by
    intro listed hs ha
    refine List.eq_nil_iff_forall_not_mem.2 fun j hj => ?_
    obtain ⟨h0, o, ho, -⟩ := mem_ready.1 hj
    have hlt : j < ops.size := (Array.getElem?_eq_some_iff.1 ho).1
    have h1 := ha j hlt
    have hl : j < listed.size := by omega
    simp [hl] at h0 h1
    rw [h0] at h1
    cases h1
  have hfin : ∀ (listed : Array Bool) (vals : Nat → Value) (w : World), listed.size = ops.size → listed.getD z false = false → (∀ j, listed.getD j false = true → (info j).lin = false → I j (vals j) w) →
      (∀ j, Live info ops.size listed j → (info j).lin = true → I j (vals j) w) → G w → (∀ j, j < ops.size → listed.getD j false = true) → Q .normal (fr vals) w := by
    intro listed vals w hs hnz h1 h2 hG ha
    have hzn : ops.size ≤ z := by
      apply Nat.le_of_not_lt
      intro q
      rw [ha z q] at hnz
      cases hnz
    refine hend vals w (fun _ => hG) (fun j hj _ hl => h1 j (ha j hj) hl) (fun q => by omega) (fun _ j hj hno => ?_)
    cases hl : (info j).lin with
    | false => exact h1 j (ha j hj) hl
    | true => exact h2 j ⟨ha j hj, fun i hi _ => hno i hi⟩ hl
  intro fuel
  induction fuel with
  | zero =>
    intro listed vals w hs hc hdn hnz h1 h2 h3 hG
    have ha : ∀ j, j < ops.size → listed.getD j false = true := fun j hj => by
      have := List.countP_eq_zero.1 (Nat.le_zero.1 hc) j (by simpa using hj)
      simpa using this
    exact ⟨hdone listed hs ha, hfin listed vals w hs hnz h1 h2 hG ha⟩
  | succ fuel ih =>
    intro listed vals w hs hc hdn hnz h1 h2 h3 hG
    refine ⟨fun hnil => hfin listed vals w hs hnz h1 h2 hG (hall listed hs hnil), fun i hi => ?_⟩
    obtain ⟨h0, o, ho, haft⟩ := mem_ready.1 hi
    have hlt : i < ops.size := (Array.getElem?_eq_some_iff.1 ho).1
    have hl : i < listed.size := by omega
    have h0' : listed.getD i false = false := by simp [hl] at h0 ⊢; exact h0
    have hset : ∀ j, (listed.setIfInBounds i true).getD j false = if j = i then true else listed.getD j false := fun j => by
      by_cases hji : j = i
      · subst hji; simp [hl]
      · rw [getD_set_ne false (Ne.symm hji), if_neg hji]
    have hlive : ∀ x ∈ (info i).deps, Live info ops.size listed x := fun x hx => by
      obtain ⟨e, he, hb, rfl⟩ := hdeps i o ho x hx
      refine ⟨haft e he hb, fun k hk hlk hc => ?_⟩
      have := huse i k _ hlt hk hx hc
      subst this
      rw [h0'] at hlk
      cases hlk
    refine wpOp_mono ?_ ((hop i o ho).2 vals w hG (fun x hx => ?_))
    · rintro a' w' ⟨v, rfl, hv, hR, hft, hG'⟩
      have e : (fr vals).put o.dst v = fr (upd vals i v) := by
        rw [hfr, hfr]
        have := fillL_upd vals v ops.toList 0 i o a0 hap (by simpa using ho)
        rw [← this, Nat.zero_add]
      rw [e]
      by_cases hiz : i = z
      · subst hiz
        have ha : ∀ j, j < ops.size → (listed.setIfInBounds i true).getD j false = true := fun j hj => by
          rw [hset]
          by_cases q : j = i
          · rw [if_pos q]
          · rw [if_neg q]; exact hready listed hs hdn hlt hi j hj q
        have hq : Q .normal (fr (upd vals i v)) w' := by
          refine hend _ w' (fun q => by omega) (fun j hj hji hlj => ?_) (fun _ => by rw [show upd vals i v i = v from if_pos rfl]; exact hv) (fun q => by omega)
          rw [show upd vals i v j = vals j from if_neg hji]
          have h4 := ha j hj
          rw [hset, if_neg hji] at h4
          obtain ⟨oj, hoj⟩ : ∃ oj, ops[j]? = some oj := ⟨_, Array.getElem?_eq_getElem hj⟩
          rcases (hop j oj hoj).1 with q | q
          · exact absurd q hji
          · unfold Firm at q
            rw [hlj] at q
            exact q _ _ _ (h1 j h4 hlj)
        have hnil := hdone (listed.setIfInBounds i true) (by simpa using hs) ha
        cases fuel with
        | zero => exact ⟨hnil, hq⟩
        | succ fuel => exact ⟨fun _ => hq, fun k hk => by rw [hnil] at hk; cases hk⟩
      · have hR' := hR.resolve_left hiz
        have hft' := hft.resolve_left hiz
        have hFi := (hop i o ho).1.resolve_left hiz
        have hF : ∀ j, listed.getD j false = true → Firm (info j).lin (I j) := fun j hj => by
          have hjl : j < listed.size := by
            rcases Nat.lt_or_ge j listed.size with q | q
            · exact q
            · simp [Array.getElem?_eq_none q] at hj
          obtain ⟨oj, hoj⟩ : ∃ oj, ops[j]? = some oj := ⟨_, Array.getElem?_eq_getElem (by omega)⟩
          refine (hop j oj hoj).1.resolve_left ?_
          rintro rfl
          rw [hj] at hnz
          cases hnz
        have hold : ∀ j, j ≠ i → Live info ops.size (listed.setIfInBounds i true) j → Live info ops.size listed j ∧ j ∉ (info i).con := fun j hji hlv => by
          have q := hlv.1
          rw [hset, if_neg hji] at q
          exact ⟨⟨q, fun k hk hlk => hlv.2 k hk (by rw [hset]; split; rfl; exact hlk)⟩, hlv.2 i hlt (by rw [hset, if_pos rfl])⟩
        have hdis : ∀ j, Live info ops.size listed j → (info j).lin = true → j ∉ (info i).con → ∀ b ∈ foot (vals j), b ∉ foots vals (info i).con := fun j hlj hlin hnc b hb hbx => by
          obtain ⟨x, hx, hbx⟩ := mem_foots.1 hbx
          have := hcon i hlt x hx
          exact h3 j x (fun q => hnc (by rw [q]; exact hx)) hlj (hlive x this.1) hlin this.2 b hb hbx
        have hlow : ∀ j, Live info ops.size listed j → (info j).lin = true → ∀ b ∈ foot (vals j), b < w.heap.size := fun j hlj hlin => by
          have q := hF j hlj.1
          unfold Firm at q
          rw [if_pos hlin] at q
          exact q.2 _ _ (h2 j hlj hlin)
        refine ih _ _ _ (by simpa using hs) ?_ (fun j oj hj hlj e he hb => ?_) ?_ (fun j hj hlin => ?_) (fun j hj hlin => ?_) (fun j k hjk hj hk hlj hlk b hb hbk => ?_) (hG'.resolve_left hiz)
        · have := countP_less (fun j => !listed.getD j false) (fun j => !(listed.setIfInBounds i true).getD j false) i (by simp only [h0']; rfl) (by simp only [hset]; simp) (fun k hk => by simp only [hset, if_neg hk]) ops.size hlt
          omega
        · rw [hset] at hlj ⊢
          by_cases he1 : e.on = i
          · rw [if_pos he1]
          · rw [if_neg he1]
            by_cases hji : j = i
            · subst hji
              rw [ho] at hj
              cases hj
              exact haft _ he hb
            · rw [if_neg hji] at hlj
              exact hdn j oj hj hlj e he hb
        · rw [hset, if_neg (Ne.symm hiz)]; exact hnz
        · by_cases hji : j = i
          · subst hji
            rw [show upd vals j v j = v from if_pos rfl]
            exact hv
          · rw [hset, if_neg hji] at hj
            rw [show upd vals i v j = vals j from if_neg hji]
            have q := hF j hj
            unfold Firm at q
            rw [hlin] at q
            exact q _ _ _ (h1 j hj hlin)
        · by_cases hji : j = i
          · subst hji
            rw [show upd vals j v j = v from if_pos rfl]
            exact hv
          · obtain ⟨hlj, hnc⟩ := hold j hji hj
            rw [show upd vals i v j = vals j from if_neg hji]
            have q := hF j hlj.1
            unfold Firm at q
            rw [if_pos hlin] at q
            exact q.1 _ _ _ _ hR' (hdis j hlj hlin hnc) (h2 j hlj hlin)
        · by_cases hji : j = i
          · subst hji
            rw [show upd vals j v j = v from if_pos rfl] at hb
            rw [show upd vals j v k = vals k from if_neg (Ne.symm hjk)] at hbk
            obtain ⟨hlk', hnc⟩ := hold k (Ne.symm hjk) hk
            rcases hft' with q | q
            · rw [hlj] at q; cases q
            · rcases q b hb with q | q
              · exact hdis k hlk' hlk hnc b hbk q
              · have := hlow k hlk' hlk b hbk; omega
          · obtain ⟨hlj', hnc⟩ := hold j hji hj
            rw [show upd vals i v j = vals j from if_neg hji] at hb
            by_cases hki : k = i
            · subst hki
              rw [show upd vals k v k = v from if_pos rfl] at hbk
              rcases hft' with q | q
              · rw [hlk] at q; cases q
              · rcases q b hbk with q | q
                · exact hdis j hlj' hlj hnc b hb q
                · have := hlow j hlj' hlj b hb; omega
            · obtain ⟨hlk', -⟩ := hold k hki hk
              rw [show upd vals i v k = vals k from if_neg hki] at hbk
              exact h3 j k hjk hlj' hlk' hlj hlk b hb hbk
    · cases hlin : (info x).lin with
      | false => exact h1 x (hlive x hx).1 hlin
      | true => exact h2 x (hlive x hx) hlin

def afters (md : Region.Mode) (ops : Array Oper) (j : Nat) : List Nat := match ops[j]? with | none => [] | some o => (o.after.toList.filter (Region.binds md ·)).map (·.on)

def reach (md : Region.Mode) (ops : Array Oper) : Nat → List Nat → List Nat
  | 0, l => l
  | k + 1, l => reach md ops k (if l.contains k then l ++ afters md ops k else l)

theorem mem_afters {j x : Nat} : x ∈ afters md ops j ↔ ∃ o, ops[j]? = some o ∧ ∃ e ∈ o.after, Region.binds md e = true ∧ e.on = x := by
  unfold afters
  cases ho : ops[j]? with
  | none => simp
  | some o => simp [and_assoc]

theorem reach_sound {listed : Array Bool} (hdn : ∀ j oj, ops[j]? = some oj → listed.getD j false = true → ∀ e ∈ oj.after, Region.binds md e = true → listed.getD e.on false = true) :
    ∀ (k : Nat) (l : List Nat), (∀ x ∈ l, listed.getD x false = true) → ∀ x ∈ reach md ops k l, listed.getD x false = true
  | 0, _, h => h
  | k + 1, l, h => by
    unfold reach
    refine reach_sound hdn k _ ?_
    split
    · rename_i hc
      intro x hx
      rcases List.mem_append.1 hx with q | q
      · exact h x q
      · obtain ⟨o, ho, e, he, hb, rfl⟩ := mem_afters.1 q
        exact hdn k o ho (h k (by simpa using hc)) e he hb
    · exact h


def linChk (md : Region.Mode) (ops : Array Oper) (infos : List Info) (z : Nat) (fin : List Nat) : Bool :=
  let inf := fun i => infos.getD i ⟨[], [], false⟩
  let n := ops.size
  apart ops.toList && infos.length == n && ((List.range n).all fun i => (afters md ops i).all fun x => decide (x < i)) &&
  ((List.range n).all fun i => (inf i).deps.all fun x => (afters md ops i).contains x) &&
  ((List.range n).all fun i => (inf i).con.all fun x => (inf i).deps.contains x && (inf x).lin) &&
  ((List.range n).all fun i => (List.range n).all fun k => (inf i).deps.all fun x => !(inf k).con.contains x || i == k) &&
  (decide (n ≤ z) || (List.range n).all fun j => j == z || (reach md ops n (afters md ops z)).contains j) &&
  (fin.all fun x => decide (x < n) && (x == z || !(inf x).lin || (decide (n ≤ z) && (List.range n).all fun i => !(inf i).con.contains x)))

/-- THE BEGINNING: infos: what each operation leans on (operations ahead of it), whose rows it takes over, whether it makes rows; z: the operation that all others precede (its fact need not stand behind anything), or the number of operations; fin: the operations whose facts are wanted at the end; G: what is known of the world all the while. -/
theorem wp_region_lin {id : Nat} {a : Act} {w : World} (infos : List Info) (z : Nat) (fin : List Nat) (G : World → Prop) (hm : P.follows .mixedOrders = true)
    (hc : linChk .any ops infos z fin = true) (hG : G w.drew)
    (h' : ∀ fr : (Nat → Value) → Act, (∀ vals, fillL vals 0 ops.toList a = fr vals) → Mono P ops Q G fr z fin [] 0 (ops.toList.zip infos)) : (Code.region id ops true).wp P Q a w := by
  obtain ⟨fr, hfr⟩ : ∃ fr : (Nat → Value) → Act, ∀ vals, fillL vals 0 ops.toList a = fr vals := ⟨_, fun _ => rfl⟩
  have h := h' fr hfr
  unfold linChk at hc
  simp only [Bool.and_eq_true, Bool.or_eq_true, decide_eq_true_eq, beq_iff_eq, List.all_eq_true, List.mem_range, Bool.not_eq_true', List.contains_eq_mem, decide_eq_false_iff_not] at hc
  obtain ⟨⟨⟨⟨⟨⟨⟨hap, hlen⟩, hacy⟩, hdep⟩, hcon⟩, huse⟩, hz⟩, hfin⟩ := hc
  have hzip : ∀ k o, ops[k]? = some o → (ops.toList.zip infos)[k]? = some (o, infos.getD k ⟨[], [], false⟩) := fun k o ho => by
    have hk : k < ops.size := (Array.getElem?_eq_some_iff.1 ho).1
    rw [List.getElem?_zip_eq_some]
    refine ⟨by simpa using ho, ?_⟩
    simp [List.getD, show k < infos.length by omega]
  have hzip' : ∀ k o d, (ops.toList.zip infos)[k]? = some (o, d) → ops[k]? = some o ∧ infos.getD k ⟨[], [], false⟩ = d := fun k o d hk => by
    rw [List.getElem?_zip_eq_some] at hk
    exact ⟨by simpa using hk.1, by simp [List.getD, hk.2]⟩
  have hafter : ∀ j oj, ops[j]? = some oj → ∀ e ∈ oj.after, Region.binds .any e = true → e.on < j := fun j oj hj e he hb =>
    hacy j (Array.getElem?_eq_some_iff.1 hj).1 e.on (mem_afters.2 ⟨oj, hj, e, he, hb, rfl⟩)
  have hdeps : ∀ j oj, ops[j]? = some oj → ∀ x ∈ (infos.getD j ⟨[], [], false⟩).deps, ∃ e ∈ oj.after, Region.binds .any e = true ∧ e.on = x := fun j oj hj x hx => by
    obtain ⟨o, ho, q⟩ := mem_afters.1 (hdep j (Array.getElem?_eq_some_iff.1 hj).1 x hx)
    rw [hj] at ho
    cases ho
    exact q
  obtain ⟨L, hL, -, hO, hE⟩ := mono_out _ 0 [] rfl h (fun k o d hk x hx => by
    obtain ⟨h1, rfl⟩ := hzip' k o d hk
    obtain ⟨e, he, hb, rfl⟩ := hdeps k o h1 x hx
    have := hafter k o h1 e he hb
    omega)
  refine wp_region_any hm ?_
  have hstart := wpAny_mono (P := P) (Q := Q) (md := .any) (a0 := a) (info := fun j => infos.getD j ⟨[], [], false⟩) (I := fun j => L.getD j (fun _ _ => True)) (G := G) (fr := fr) (z := z) (fun vals => (hfr vals).symm) hap hafter hdeps
    (fun i hi x hx => by simpa using hcon i hi x hx)
    (fun i k x hi hk hx hxk => by
      rcases huse i hi k hk x hx with q | q
      · exact absurd hxk (by simpa using q)
      · exact q)
    (fun listed hs hdn hzn hzr j hj hjz => by
      obtain ⟨-, o, ho, haft⟩ := mem_ready.1 hzr
      rcases hz with q | q
      · omega
      · rcases q j hj with q | q
        · exact absurd q hjz
        · refine reach_sound hdn ops.size _ (fun x hx => ?_) j q
          obtain ⟨o', ho', e, he, hb, rfl⟩ := mem_afters.1 hx
          rw [ho] at ho'
          cases ho'
          exact haft e he hb)
    (fun i o ho => by
      have := hO i o _ (hzip i o ho)
      rw [Nat.zero_add] at this
      exact ⟨this.1, fun vals w hG hF => this.2 vals w hG (facts_of hF)⟩)
    (fun vals w hG h1 h2 h3 => hE vals w hG (facts_of fun x hx => by
      obtain ⟨hxn, q⟩ := hfin x hx
      rcases q with (q | q) | q
      · subst q; exact h2 hxn
      · by_cases hxz : x = z
        · subst hxz; exact h2 hxn
        · exact h1 x hxn hxz q
      · exact h3 q.1 x hxn (fun i hi => by simpa using q.2 i hi)))
  have e0 : a = fr (fun k => match ops.toList[k]? with | some o => held a o | none => undef) := by
    rw [← hfr]
    refine (fillL_own _ a ops.toList 0 fun k o hk => ?_).symm
    simp only [Nat.zero_add, hk]
  have hno : ∀ j, (Array.replicate ops.size false).getD j false = false := fun j => by
    rcases Nat.lt_or_ge j (Array.replicate ops.size false).size with q | q
    · simp only [Array.size_replicate] at q
      simp [q]
    · simp [Array.getElem?_eq_none q]
  have hnl : ∀ j, ¬ Live (fun j => infos.getD j ⟨[], [], false⟩) ops.size (Array.replicate ops.size false) j := fun j hj => by
    have := hj.1
    rw [hno] at this
    cases this
  have := hstart ops.size (Array.replicate ops.size false) (fun k => match ops.toList[k]? with | some o => held a o | none => undef) w.drew (by simp) (Nat.le_trans (List.countP_le_length) (by simp))
    (fun j _ _ hj => by rw [hno] at hj; cases hj) (hno z) (fun j hj => by rw [hno] at hj; cases hj) (fun j hj => absurd hj (hnl j)) (fun j k _ hj => absurd hj (hnl j)) hG
  rw [← e0] at this
  exact this

/-- An operation that reads: it yields c. -/
theorem lin_read {i : Nat} {rest : List (Oper × Info)} {L : List (Value → World → Prop)} {o : Oper} {d : Info} {c : Value} (ho : ops[i]? = some o) (hd : d.lin = false ∧ d.con = [])
    (h : ∀ vals w, G w → Facts L vals w d.deps → Region.wanted o (yielded ops (fr vals).tmps) = true ∧ (execOp (fr vals).eval o).run P w = .ok (.value c) w)
    (hn : Mono P ops Q G fr z fin (L ++ [fun v _ => v = c]) (i + 1) rest) : Mono P ops Q G fr z fin L i ((o, d) :: rest) := by
  refine ⟨fun v _ => v = c, ⟨Or.inr (by unfold Firm; rw [hd.1]; exact fun _ _ _ q => q), fun vals w hG hF => ?_⟩, hn⟩
  obtain ⟨h1, h2⟩ := h vals w hG hF
  unfold wpOp
  simp only [ho, h1, if_true, Oper.wp, h2, Oper.upon]
  exact .inl ⟨c, rfl, rfl, Or.inr (by rw [hd.2]; exact Chg.refl _ _), Or.inr (Or.inl hd.1), Or.inr hG⟩

/-- An operation that its guard passes over. -/
theorem lin_off {i : Nat} {rest : List (Oper × Info)} {L : List (Value → World → Prop)} {o : Oper} {d : Info} (ho : ops[i]? = some o) (hd : d.lin = false ∧ d.con = [])
    (h : ∀ vals w, G w → Facts L vals w d.deps → Region.wanted o (yielded ops (fr vals).tmps) = false)
    (hn : Mono P ops Q G fr z fin (L ++ [fun v _ => v = undef]) (i + 1) rest) : Mono P ops Q G fr z fin L i ((o, d) :: rest) := by
  refine ⟨fun v _ => v = undef, ⟨Or.inr (by unfold Firm; rw [hd.1]; exact fun _ _ _ q => q), fun vals w hG hF => ?_⟩, hn⟩
  unfold wpOp
  simp only [ho, h vals w hG hF]
  exact ⟨undef, rfl, rfl, Or.inr (by rw [hd.2]; exact Chg.refl _ _), Or.inr (Or.inl hd.1), Or.inr hG⟩

/-- Another operation: p: what it yields. -/
theorem lin_op {i : Nat} {rest : List (Oper × Info)} {L : List (Value → World → Prop)} {o : Oper} {d : Info} (p : Value → World → Prop) (ho : ops[i]? = some o) (hp : i = z ∨ Firm d.lin p)
    (h : ∀ vals w, G w → Facts L vals w d.deps → Region.wanted o (yielded ops (fr vals).tmps) = true ∧
      ∀ K : Act → World → Prop, Shut (∀ v w', p v w' → (i = z ∨ Chg (foots vals d.con) w w') → (i = z ∨ d.lin = false ∨ ∀ b ∈ foot v, b ∈ foots vals d.con ∨ w.heap.size ≤ b) → (i = z ∨ G w') → K ((fr vals).put o.dst v) w') → o.wp P (fr vals) w K Q)
    (hn : Mono P ops Q G fr z fin (L ++ [p]) (i + 1) rest) : Mono P ops Q G fr z fin L i ((o, d) :: rest) := by
  refine ⟨p, ⟨hp, fun vals w hG hF => ?_⟩, hn⟩
  obtain ⟨h1, h2⟩ := h vals w hG hF
  unfold wpOp
  simp only [ho, h1, if_true]
  exact .inl (h2 _ (fun v w' a b c e => ⟨v, rfl, a, b, c, e⟩))

theorem lin_nil {i : Nat} {L : List (Value → World → Prop)} (h : ∀ vals w, (ops.size ≤ z → G w) → Facts L vals w fin → Q .normal (fr vals) w) : Mono P ops Q G fr z fin L i [] := h
end

end Go.Proofs.Ytfgbkpbakignhaa
