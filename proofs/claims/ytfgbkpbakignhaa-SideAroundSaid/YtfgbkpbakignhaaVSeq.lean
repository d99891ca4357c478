/- A region that draws its order, walked in one order: reads are taken where they stand if their values hold in every world that the region may come to; what writes comes up alone. No program here. -/
import Derived.Deep.RegionHeld3
import Derived.WalkKit
import Derived.Test.YtfgbkpbakignhaaVRows2
namespace Go.Proofs.Ytfgbkpbakignhaa
open Go

section
variable {P : Program} {ops : Array Oper} {Q : Exit → Act → World → Prop} {md : Region.Mode} {S : World → Prop} {N : Nat → Bool} {R : List Nat}

/-- Whatever order is picked from here on; S holds behind each operation of which N says that it must. -/
def wpAnyN (P : Program) (md : Region.Mode) (ops : Array Oper) (Q : Exit → Act → World → Prop) (S : World → Prop) (N : Nat → Bool) : Nat → Array Bool → Act → World → Prop
  | 0, listed, a, w => Region.ready md ops listed = [] ∧ Q .normal a w
  | fuel + 1, listed, a, w =>
    (Region.ready md ops listed = [] → Q .normal a w) ∧
    ∀ i ∈ Region.ready md ops listed, wpOp P ops Q i (fun a' w' => (N i = true → S w') ∧ wpAnyN P md ops Q S N fuel (listed.setIfInBounds i true) a' w') a w

theorem wpAnyN_any : ∀ (fuel : Nat) (listed : Array Bool) (a : Act) (w : World), wpAnyN P md ops Q S N fuel listed a w → wpAny P md ops Q fuel listed a w
  | 0, _, _, _, h => h
  | fuel + 1, _, _, _, h => ⟨h.1, fun i hi => wpOp_mono (fun a' w' h' => wpAnyN_any fuel _ a' w' h'.2) (h.2 i hi)⟩

/-- What is listed is closed downward. -/
def Down (md : Region.Mode) (ops : Array Oper) (listed : Array Bool) : Prop := ∀ j oj, ops[j]? = some oj → listed.getD j false = true → ∀ e ∈ oj.after, Region.binds md e = true → listed.getD e.on false = true

theorem down_set {listed : Array Bool} {j : Nat} (hd : Down md ops listed) (hj : j ∈ Region.ready md ops listed) : Down md ops (listed.setIfInBounds j true) := by
  intro k ok hk hlk e he hb
  obtain ⟨-, oj, hoj, hall⟩ := mem_ready.1 hj
  by_cases hkj : k = j
  · subst hkj
    rw [hoj] at hk
    cases hk
    exact getD_set_true (hall e he hb)
  · rw [getD_set_ne false (Ne.symm hkj)] at hlk
    exact getD_set_true (hd k ok hk hlk e he hb)

theorem not_reach {listed : Array Bool} {i j : Nat} (hd : Down md ops listed) (hj : j ∈ Region.ready md ops listed) (hi : listed.getD i false = false) : i ∉ reach md ops ops.size (afters md ops j) := by
  intro h
  obtain ⟨-, oj, hoj, hall⟩ := mem_ready.1 hj
  have := reach_sound hd ops.size (afters md ops j) (fun x hx => by
    obtain ⟨o, ho, e, he, hb, rfl⟩ := mem_afters.1 hx
    rw [hoj] at ho
    cases ho
    exact hall e he hb) i h
  rw [hi] at this
  cases this

theorem unlisted {listed : Array Bool} {i : Nat} (hr : i ∈ Region.ready md ops listed) : listed.getD i false = false := by
  have h0 := (mem_ready.1 hr).1
  rcases Nat.lt_or_ge i listed.size with q | q
  · simp [q] at h0 ⊢; exact h0
  · simp [Array.getElem?_eq_none q] at h0

theorem wpAnyN_first {i : Nat} {oi : Oper} {v : Value} (hi : ops[i]? = some oi) (hsel : ∀ (j : Nat) (o : Oper) cs b, ops[j]? = some o → o.op ≠ .select cs b)
    (hQ : ∀ c a w, Q (.panic c) (a.put oi.dst v) w → Q (.panic c) a w)
    (hN : ∀ j, j ≠ i → i ∉ reach md ops ops.size (afters md ops j) → N j = true) :
    ∀ (fuel : Nat) (listed : Array Bool) (a : Act) (w : World), Down md ops listed →
      (∀ j oj, ops[j]? = some oj → j ≠ i → listed.getD j true = false → (∀ e ∈ oj.after, Region.binds md e = true → e.on ≠ i) → oi.apart ops oj = true) →
      i ∈ Region.ready md ops listed → YieldsIf P ops S oi v a → S w →
      wpAnyN P md ops Q S N fuel (listed.setIfInBounds i true) (a.put oi.dst v) w → wpAnyN P md ops Q S N (fuel + 1) listed a w := by
  intro fuel
  induction fuel with
  | zero =>
    intro listed a w _ _ hr hy hS H
    refine ⟨fun h => (by rw [h] at hr; cases hr), fun j hj => ?_⟩
    by_cases hji : j = i
    · subst hji; exact hy.wpOp hi hS ⟨fun _ => hS, H⟩
    · have := ready_mono hj hji
      rw [H.1] at this
      cases this
  | succ fuel ih =>
    intro listed a w hdn hfree hr hy hS H
    refine ⟨fun h => (by rw [h] at hr; cases hr), fun j hj => ?_⟩
    by_cases hji : j = i
    · subst hji; exact hy.wpOp hi hS ⟨fun _ => hS, H⟩
    · obtain ⟨hjun, oj, hoj, hall⟩ := mem_ready.1 hj
      have hnot : ∀ e ∈ oj.after, Region.binds md e = true → e.on ≠ i := fun e he hb heq => by
        have h1 := hall e he hb
        have h0 := (mem_ready.1 hr).1
        rw [heq] at h1
        rcases Nat.lt_or_ge i listed.size with h' | h'
        · simp [h'] at h0 h1; rw [h0] at h1; cases h1
        · simp [Array.getElem?_eq_none h'] at h1
      have hNj := hN j hji (not_reach hdn hj (unlisted hr))
      have h2 := wpOp_putIf hoj (hfree j oj hoj hji hjun hnot) (fun cs b => hsel i oi cs b hi) (fun cs b => hsel j oj cs b hoj) hQ hy (H.2 j (ready_mono hj hji))
      refine wpOp_mono (fun a' w' h3 => ⟨fun _ => h3.2.1 hNj, ih (listed.setIfInBounds j true) a' w' (down_set hdn hj) (fun k ok hk hki hun hno => ?_) (ready_mono hr (Ne.symm hji)) h3.1 (h3.2.1 hNj) ?_⟩) h2
      · refine hfree k ok hk hki ?_ hno
        by_cases hjk : j = k
        · subst hjk; exact hjun
        · rw [getD_set_ne true hjk] at hun; exact hun
      · rw [Array.setIfInBounds_comm _ _ hji]
        exact h3.2.2

/-- Some read may still come behind operation j. -/
def needs (md : Region.Mode) (ops : Array Oper) (R : List Nat) (j : Nat) : Bool :=
  R.any fun i => i != j && !(reach md ops ops.size (afters md ops j)).contains i

theorem needs_of {i j : Nat} (hi : i ∈ R) (hne : j ≠ i) (hno : i ∉ reach md ops ops.size (afters md ops j)) : needs md ops R j = true := by
  refine List.any_eq_true.2 ⟨i, hi, ?_⟩
  simp only [Bool.and_eq_true, bne_iff_ne, ne_eq, Bool.not_eq_true', List.contains_eq_mem, decide_eq_false_iff_not]
  exact ⟨Ne.symm hne, hno⟩

/-- Each read may come up where it stands, and nobody meddles with it; each other operation comes up alone. -/
def seqChk (md : Region.Mode) (ops : Array Oper) (R : List Nat) : List Nat → Array Bool → Bool
  | [], listed => (Region.ready md ops listed).isEmpty
  | i :: rest, listed => (if R.contains i then (Region.ready md ops listed).contains i && Region.free md ops listed i else Region.ready md ops listed == [i]) && seqChk md ops R rest (listed.setIfInBounds i true)

/-- The operations in this order, each with its number. -/
def pick (ops : Array Oper) (order : List Nat) : List (Nat × Oper) := order.filterMap fun i => (ops[i]?).map fun o => (i, o)

/-- The region in this one order. -/
def SeqN (P : Program) (md : Region.Mode) (ops : Array Oper) (Q : Exit → Act → World → Prop) (S : World → Prop) (R : List Nat) : List (Nat × Oper) → Act → World → Prop
  | [], a, w => Q .normal a w
  | (i, o) :: rest, a, w =>
    if R.contains i then ∃ v, YieldsIf P ops S o v a ∧ S w ∧ (∀ c a w, Q (.panic c) (a.put o.dst v) w → Q (.panic c) a w) ∧ SeqN P md ops Q S R rest (a.put o.dst v) w
    else wpOp P ops Q i (fun a' w' => (needs md ops R i = true → S w') ∧ SeqN P md ops Q S R rest a' w') a w

theorem pick_cons {i : Nat} {rest : List Nat} (h : i < ops.size) : pick ops (i :: rest) = (i, ops[i]) :: pick ops rest := by simp [pick, h]

theorem seqN_sound (hs : Region.noSelect ops = true) : ∀ (todo : List Nat) (listed : Array Bool) (a : Act) (w : World) (fuel : Nat), todo.length ≤ fuel → (∀ i ∈ todo, i < ops.size) → seqChk md ops R todo listed = true → Down md ops listed →
    SeqN P md ops Q S R (pick ops todo) a w → wpAnyN P md ops Q S (needs md ops R) fuel listed a w
  | [], _, _, _, 0, _, _, hc, _, h => ⟨by simpa [seqChk] using hc, h⟩
  | [], _, _, _, n + 1, _, _, hc, _, h => ⟨fun _ => h, by rw [show Region.ready md ops _ = [] by simpa [seqChk] using hc]; simp⟩
  | i :: rest, listed, a, w, 0, hl, _, _, _, _ => by simp at hl
  | i :: rest, listed, a, w, fuel + 1, hl, hlt, hc, hdn, h => by
    simp only [List.length_cons, Nat.add_le_add_iff_right] at hl
    have hi : i < ops.size := hlt i (by simp)
    have hlt' : ∀ j ∈ rest, j < ops.size := fun j hj => hlt j (by simp [hj])
    have ho : ops[i]? = some ops[i] := Array.getElem?_eq_getElem hi
    unfold seqChk at hc
    rw [Bool.and_eq_true] at hc
    rw [pick_cons hi] at h
    unfold SeqN at h
    by_cases hR : R.contains i = true
    · rw [if_pos hR] at h
      rw [if_pos hR, Bool.and_eq_true] at hc
      obtain ⟨v, hy, hS, hQ, h⟩ := h
      exact wpAnyN_first ho (Region.noSelect_spec hs) hQ (fun j hne hno => needs_of (by simpa using hR) hne hno) fuel listed a w hdn (Region.free_spec ho hc.1.2) (by simpa using hc.1.1) hy hS
        (seqN_sound hs rest _ _ _ fuel hl hlt' hc.2 (down_set hdn (by simpa using hc.1.1)) h)
    · rw [if_neg hR] at h hc
      have hr : Region.ready md ops listed = [i] := by simpa using hc.1
      refine ⟨fun h0 => (by rw [hr] at h0; cases h0), fun j hj => ?_⟩
      rw [hr] at hj
      obtain rfl : j = i := by simpa using hj
      exact wpOp_mono (fun a' w' h' => ⟨h'.1, seqN_sound hs rest _ a' w' fuel hl hlt' hc.2 (down_set hdn (by rw [hr]; simp)) h'.2⟩) h

/-- THE BEGINNING. -/
theorem wp_region_seq {id : Nat} {a : Act} {w : World} (S : World → Prop) (R todo : List Nat) (hm : P.follows .mixedOrders = true)
    (hc : (Region.noSelect ops && decide (todo.length ≤ ops.size) && todo.all (fun i => decide (i < ops.size)) && seqChk .any ops R todo (Array.replicate ops.size false)) = true)
    (h : SeqN P .any ops Q S R (pick ops todo) a w.drew) : (Code.region id ops true).wp P Q a w := by
  simp only [Bool.and_eq_true, decide_eq_true_eq, List.all_eq_true] at hc
  exact wp_region_any hm (wpAnyN_any _ _ _ _ (seqN_sound hc.1.1.1 todo _ a _ _ hc.1.1.2 hc.1.2 hc.2 (fun j _ _ hj => by simp [Array.getElem?_replicate] at hj; split at hj <;> simp_all) h))

/-- A read. -/
theorem seqN_read {i : Nat} {rest : List (Nat × Oper)} {a : Act} {w : World} {o : Oper} {v : Value} (hR : R.contains i = true) (hw : Region.wanted o (yielded ops a.tmps) = true)
    (hQ : ∀ c a w, Q (.panic c) (a.put o.dst v) w → Q (.panic c) a w) (hS : S w) (hv : ∀ w, S w → (execOp a.eval o).run P w = .ok (.value v) w) (h : SeqN P md ops Q S R rest (a.put o.dst v) w) : SeqN P md ops Q S R ((i, o) :: rest) a w := by
  unfold SeqN
  rw [if_pos hR]
  exact ⟨v, Or.inl ⟨hw, hv⟩, hS, hQ, h⟩

/-- A read that its guard passes over. -/
theorem seqN_off {i : Nat} {rest : List (Nat × Oper)} {a : Act} {w : World} {o : Oper} (hR : R.contains i = true) (hw : Region.wanted o (yielded ops a.tmps) = false)
    (hQ : ∀ c a w, Q (.panic c) (a.put o.dst undef) w → Q (.panic c) a w) (hS : S w) (h : SeqN P md ops Q S R rest (a.put o.dst undef) w) : SeqN P md ops Q S R ((i, o) :: rest) a w := by
  unfold SeqN
  rw [if_pos hR]
  exact ⟨undef, Or.inr ⟨hw, rfl⟩, hS, hQ, h⟩

/-- Another operation that its guard passes over. -/
theorem seqN_skip {i : Nat} {rest : List (Nat × Oper)} {a : Act} {w : World} {o : Oper} (hR : R.contains i = false) (ho : ops[i]? = some o) (hw : Region.wanted o (yielded ops a.tmps) = false)
    (hS : S w) (h : SeqN P md ops Q S R rest (a.put o.dst undef) w) : SeqN P md ops Q S R ((i, o) :: rest) a w := by
  unfold SeqN
  rw [if_neg (by simp only [hR]; decide)]
  unfold wpOp
  simp only [ho, hw]
  exact ⟨fun _ => hS, h⟩

/-- Another operation: the way back into the region stands behind K. -/
theorem seqN_op {i : Nat} {rest : List (Nat × Oper)} {a : Act} {w : World} {o : Oper} (hR : R.contains i = false) (ho : ops[i]? = some o) (hw : Region.wanted o (yielded ops a.tmps) = true)
    (h : ∀ K : Act → World → Prop, Shut (∀ a w, (needs md ops R i = true → S w) → SeqN P md ops Q S R rest a w → K a w) → Oper.wp P o a w K Q) : SeqN P md ops Q S R ((i, o) :: rest) a w := by
  unfold SeqN
  rw [if_neg (by simp only [hR]; decide)]
  unfold wpOp
  simp only [ho, hw, if_true]
  exact Or.inl (h _ (fun a w hS hr => ⟨hS, hr⟩))

theorem seqN_nil {a : Act} {w : World} (h : Q .normal a w) : SeqN P md ops Q S R [] a w := h
end

end Go.Proofs.Ytfgbkpbakignhaa
/- A region that draws its order, walked as a tree: reads are taken where they stand if their values hold in every world that the region may come to; of what writes, at most two come up beside each other, and both ways are walked. No program here. -/
namespace Go.Proofs.Ytfgbkpbakignhaa
open Go

/-- The orders to walk. -/
inductive Way where
  | done : Way
  | then_ : Nat → Way → Way
  | fork : Nat → Nat → Way → Way → Way

def Way.size : Way → Nat
  | done => 0
  | then_ _ r => r.size + 1
  | fork _ _ r s => max r.size s.size + 1

/-- A line of operations ahead of a way. -/
def Way.line : List Nat → Way → Way
  | [], r => r
  | i :: l, r => .then_ i (Way.line l r)

section
variable {P : Program} {ops : Array Oper} {Q : Exit → Act → World → Prop} {md : Region.Mode} {S : World → Prop} {R : List Nat}

def Way.inside (n : Nat) : Way → Bool
  | done => true
  | then_ i r => decide (i < n) && r.inside n
  | fork i j r s => decide (i < n) && decide (j < n) && r.inside n && s.inside n

def wayChk (md : Region.Mode) (ops : Array Oper) (R : List Nat) : Way → Array Bool → Bool
  | .done, listed => (Region.ready md ops listed).isEmpty
  | .then_ i r, listed => (if R.contains i then (Region.ready md ops listed).contains i && Region.free md ops listed i else Region.ready md ops listed == [i]) && wayChk md ops R r (listed.setIfInBounds i true)
  | .fork i j r s, listed => !R.contains i && !R.contains j && Region.ready md ops listed == [i, j] && wayChk md ops R r (listed.setIfInBounds i true) && wayChk md ops R s (listed.setIfInBounds j true)

/-- The region along a way. -/
def Along (P : Program) (md : Region.Mode) (ops : Array Oper) (Q : Exit → Act → World → Prop) (S : World → Prop) (R : List Nat) : Way → Act → World → Prop
  | .done, a, w => Q .normal a w
  | .then_ i r, a, w =>
    if R.contains i then ∃ o, ops[i]? = some o ∧ ∃ v, YieldsIf P ops S o v a ∧ S w ∧ (∀ c a w, Q (.panic c) (a.put o.dst v) w → Q (.panic c) a w) ∧ Along P md ops Q S R r (a.put o.dst v) w
    else wpOp P ops Q i (fun a' w' => (needs md ops R i = true → S w') ∧ Along P md ops Q S R r a' w') a w
  | .fork i j r s, a, w =>
    wpOp P ops Q i (fun a' w' => (needs md ops R i = true → S w') ∧ Along P md ops Q S R r a' w') a w ∧
    wpOp P ops Q j (fun a' w' => (needs md ops R j = true → S w') ∧ Along P md ops Q S R s a' w') a w

theorem along_sound (hs : Region.noSelect ops = true) : ∀ (way : Way) (listed : Array Bool) (a : Act) (w : World) (fuel : Nat), way.size ≤ fuel → way.inside ops.size = true → wayChk md ops R way listed = true → Down md ops listed →
    Along P md ops Q S R way a w → wpAnyN P md ops Q S (needs md ops R) fuel listed a w
  | .done, _, _, _, 0, _, _, hc, _, h => ⟨by simpa [wayChk] using hc, h⟩
  | .done, _, _, _, n + 1, _, _, hc, _, h => ⟨fun _ => h, by rw [show Region.ready md ops _ = [] by simpa [wayChk] using hc]; simp⟩
  | .then_ i rest, listed, a, w, 0, hl, _, _, _, _ => by simp [Way.size] at hl
  | .fork i j r s, listed, a, w, 0, hl, _, _, _, _ => by simp [Way.size] at hl
  | .then_ i rest, listed, a, w, fuel + 1, hl, hlt, hc, hdn, h => by
    simp only [Way.size, Nat.add_le_add_iff_right] at hl
    simp only [Way.inside, Bool.and_eq_true, decide_eq_true_eq] at hlt
    unfold wayChk at hc
    rw [Bool.and_eq_true] at hc
    unfold Along at h
    by_cases hR : R.contains i = true
    · rw [if_pos hR] at h
      rw [if_pos hR, Bool.and_eq_true] at hc
      obtain ⟨o, ho, v, hy, hS, hQ, h⟩ := h
      exact wpAnyN_first ho (Region.noSelect_spec hs) hQ (fun j hne hno => needs_of (by simpa using hR) hne hno) fuel listed a w hdn (Region.free_spec ho hc.1.2) (by simpa using hc.1.1) hy hS
        (along_sound hs rest _ _ _ fuel hl hlt.2 hc.2 (down_set hdn (by simpa using hc.1.1)) h)
    · rw [if_neg hR] at h hc
      have hr : Region.ready md ops listed = [i] := by simpa using hc.1
      refine ⟨fun h0 => (by rw [hr] at h0; cases h0), fun j hj => ?_⟩
      rw [hr] at hj
      obtain rfl : j = i := by simpa using hj
      exact wpOp_mono (fun a' w' h' => ⟨h'.1, along_sound hs rest _ a' w' fuel hl hlt.2 hc.2 (down_set hdn (by rw [hr]; simp)) h'.2⟩) h
  | .fork i j r s, listed, a, w, fuel + 1, hl, hlt, hc, hdn, h => by
    simp only [Way.size, Nat.add_le_add_iff_right] at hl
    simp only [Way.inside, Bool.and_eq_true, decide_eq_true_eq] at hlt
    unfold wayChk at hc
    simp only [Bool.and_eq_true, Bool.not_eq_true', beq_iff_eq] at hc
    obtain ⟨⟨⟨⟨-, -⟩, hr⟩, hc1⟩, hc2⟩ := hc
    unfold Along at h
    refine ⟨fun h0 => (by rw [hr] at h0; cases h0), fun k hk => ?_⟩
    rw [hr] at hk
    have hk' : k = i ∨ k = j := by simpa using hk
    rcases hk' with e | e
    · subst e
      exact wpOp_mono (fun a' w' h' => ⟨h'.1, along_sound hs r _ a' w' fuel (by omega) hlt.1.2 hc1 (down_set hdn (by rw [hr]; simp)) h'.2⟩) h.1
    · subst e
      exact wpOp_mono (fun a' w' h' => ⟨h'.1, along_sound hs s _ a' w' fuel (by omega) hlt.2 hc2 (down_set hdn (by rw [hr]; simp)) h'.2⟩) h.2

/-- THE BEGINNING: S: what holds of every world; R: the reads; way: the orders. -/
theorem wp_region_way {id : Nat} {a : Act} {w : World} (S : World → Prop) (R : List Nat) (way : Way) (hm : P.follows .mixedOrders = true)
    (hc : (Region.noSelect ops && decide (way.size ≤ ops.size) && way.inside ops.size && wayChk .any ops R way (Array.replicate ops.size false)) = true)
    (h : Along P .any ops Q S R way a w.drew) : (Code.region id ops true).wp P Q a w := by
  simp only [Bool.and_eq_true, decide_eq_true_eq] at hc
  exact wp_region_any hm (wpAnyN_any _ _ _ _ (along_sound hc.1.1.1 way _ a _ _ hc.1.1.2 hc.1.2 hc.2 (fun j _ _ hj => by simp [Array.getElem?_replicate] at hj; split at hj <;> simp_all) h))

theorem along_read {i : Nat} {rest : Way} {a : Act} {w : World} {o : Oper} {v : Value} (ho : ops[i]? = some o) (hR : R.contains i = true) (hw : Region.wanted o (yielded ops a.tmps) = true)
    (hQ : ∀ c a w, Q (.panic c) (a.put o.dst v) w → Q (.panic c) a w) (hS : S w) (hv : ∀ w, S w → (execOp a.eval o).run P w = .ok (.value v) w) (h : Along P md ops Q S R rest (a.put o.dst v) w) : Along P md ops Q S R (.then_ i rest) a w := by
  unfold Along
  rw [if_pos hR]
  exact ⟨o, ho, v, Or.inl ⟨hw, hv⟩, hS, hQ, h⟩

theorem along_off {i : Nat} {rest : Way} {a : Act} {w : World} {o : Oper} (ho : ops[i]? = some o) (hR : R.contains i = true) (hw : Region.wanted o (yielded ops a.tmps) = false)
    (hQ : ∀ c a w, Q (.panic c) (a.put o.dst undef) w → Q (.panic c) a w) (hS : S w) (h : Along P md ops Q S R rest (a.put o.dst undef) w) : Along P md ops Q S R (.then_ i rest) a w := by
  unfold Along
  rw [if_pos hR]
  exact ⟨o, ho, undef, Or.inr ⟨hw, rfl⟩, hS, hQ, h⟩

theorem along_skip {i : Nat} {rest : Way} {a : Act} {w : World} {o : Oper} (ho : ops[i]? = some o) (hR : R.contains i = false) (hw : Region.wanted o (yielded ops a.tmps) = false)
    (hS : S w) (h : Along P md ops Q S R rest (a.put o.dst undef) w) : Along P md ops Q S R (.then_ i rest) a w := by
  unfold Along
  rw [if_neg (by simp only [hR]; decide)]
  unfold wpOp
  simp only [ho, hw]
  exact ⟨fun _ => hS, h⟩

theorem along_op {i : Nat} {rest : Way} {a : Act} {w : World} {o : Oper} (ho : ops[i]? = some o) (hR : R.contains i = false) (hw : Region.wanted o (yielded ops a.tmps) = true)
    (h : ∀ K : Act → World → Prop, Shut (∀ a w, (needs md ops R i = true → S w) → Along P md ops Q S R rest a w → K a w) → Oper.wp P o a w K Q) : Along P md ops Q S R (.then_ i rest) a w := by
  unfold Along
  rw [if_neg (by simp only [hR]; decide)]
  unfold wpOp
  simp only [ho, hw, if_true]
  exact Or.inl (h _ (fun a w hS hr => ⟨hS, hr⟩))

/-- A fork: both ways. -/
theorem along_fork {i j : Nat} {r s : Way} {a : Act} {w : World} (hi : R.contains i = false) (hj : R.contains j = false) (h1 : Along P md ops Q S R (.then_ i r) a w) (h2 : Along P md ops Q S R (.then_ j s) a w) : Along P md ops Q S R (.fork i j r s) a w := by
  unfold Along at h1 h2 ⊢
  rw [if_neg (by simp only [hi]; decide)] at h1
  rw [if_neg (by simp only [hj]; decide)] at h2
  exact ⟨h1, h2⟩

theorem along_done {a : Act} {w : World} (h : Q .normal a w) : Along P md ops Q S R .done a w := h
end

end Go.Proofs.Ytfgbkpbakignhaa
