/- A region that draws its order, walked as a tree: reads are taken where they stand if their values hold in every world that the region may come to; of what writes, at most two come up beside each other, and both ways are walked. No program here. -/
import Derived.Test.YtgepchafbeifeaaSeq
namespace Go.Proofs.Ytgepchafbeifeaa
open Go

/-- The orders to walk. -/
inductive Way where
  | done : Way
  | then_ : Nat → Way → Way
  | fork : Nat → Nat → Way → Way → Way

def Way.size : Way → Nat
  | done => 0
  | then_ _ r => r.size + 1
  | fork _ _ r s => max r.size s.size + 1

/-- A line of operations ahead of a way. -/
def Way.line : List Nat → Way → Way
  | [], r => r
  | i :: l, r => .then_ i (Way.line l r)

section
variable {P : Program} {ops : Array Oper} {Q : Exit → Act → World → Prop} {md : Region.Mode} {S : World → Prop} {R : List Nat}

def Way.inside (n : Nat) : Way → Bool
  | done => true
  | then_ i r => decide (i < n) && r.inside n
  | fork i j r s => decide (i < n) && decide (j < n) && r.inside n && s.inside n

def wayChk (md : Region.Mode) (ops : Array Oper) (R : List Nat) : Way → Array Bool → Bool
  | .done, listed => (Region.ready md ops listed).isEmpty
  | .then_ i r, listed => (if R.contains i then (Region.ready md ops listed).contains i && Region.free md ops listed i else Region.ready md ops listed == [i]) && wayChk md ops R r (listed.setIfInBounds i true)
  | .fork i j r s, listed => !R.contains i && !R.contains j && Region.ready md ops listed == [i, j] && wayChk md ops R r (listed.setIfInBounds i true) && wayChk md ops R s (listed.setIfInBounds j true)

/-- The region along a way. -/
def Along (P : Program) (md : Region.Mode) (ops : Array Oper) (Q : Exit → Act → World → Prop) (S : World → Prop) (R : List Nat) : Way → Act → World → Prop
  | .done, a, w => Q .normal a w
  | .then_ i r, a, w =>
    if R.contains i then ∃ o, ops[i]? = some o ∧ ∃ v, YieldsIf P ops S o v a ∧ S w ∧ (∀ c a w, Q (.panic c) (a.put o.dst v) w → Q (.panic c) a w) ∧ Along P md ops Q S R r (a.put o.dst v) w
    else wpOp P ops Q i (fun a' w' => (needs md ops R i = true → S w') ∧ Along P md ops Q S R r a' w') a w
  | .fork i j r s, a, w =>
    wpOp P ops Q i (fun a' w' => (needs md ops R i = true → S w') ∧ Along P md ops Q S R r a' w') a w ∧
    wpOp P ops Q j (fun a' w' => (needs md ops R j = true → S w') ∧ Along P md ops Q S R s a' w') a w

theorem along_sound (hs : Region.noSelect ops = true) : ∀ (way : Way) (listed : Array Bool) (a : Act) (w : World) (fuel : Nat), way.size ≤ fuel → way.inside ops.size = true → wayChk md ops R way listed = true → Down md ops listed →
    Along P md ops Q S R way a w → wpAnyN P md ops Q S (needs md ops R) fuel listed a w
  | .done, _, _, _, 0, _, _, hc, _, h => ⟨by simpa [wayChk] using hc, h⟩
  | .done, _, _, _, n + 1, _, _, hc, _, h => ⟨fun _ => h, by rw [show Region.ready md ops _ = [] by simpa [wayChk] using hc]; simp⟩
  | .then_ i rest, listed, a, w, 0, hl, _, _, _, _ => by simp [Way.size] at hl
  | .fork i j r s, listed, a, w, 0, hl, _, _, _, _ => by simp [Way.size] at hl
  | .then_ i rest, listed, a, w, fuel + 1, hl, hlt, hc, hdn, h => by
    simp only [Way.size, Nat.add_le_add_iff_right] at hl
    simp only [Way.inside, Bool.and_eq_true, decide_eq_true_eq] at hlt
    unfold wayChk at hc
    rw [Bool.and_eq_true] at hc
    unfold Along at h
    by_cases hR : R.contains i = true
    · rw [if_pos hR] at h
      rw [if_pos hR, Bool.and_eq_true] at hc
      obtain ⟨o, ho, v, hy, hS, hQ, h⟩ := h
      exact wpAnyN_first ho (Region.noSelect_spec hs) hQ (fun j hne hno => needs_of (by simpa using hR) hne hno) fuel listed a w hdn (Region.free_spec ho hc.1.2) (by simpa using hc.1.1) hy hS
        (along_sound hs rest _ _ _ fuel hl hlt.2 hc.2 (down_set hdn (by simpa using hc.1.1)) h)
    · rw [if_neg hR] at h hc
      have hr : Region.ready md ops listed = [i] := by simpa using hc.1
      refine ⟨fun h0 => (by rw [hr] at h0; cases h0), fun j hj => ?_⟩
      rw [hr] at hj
      obtain rfl : j = i := by simpa using hj
      exact wpOp_mono (fun a' w' h' => ⟨h'.1, along_sound hs rest _ a' w' fuel hl hlt.2 hc.2 (down_set hdn (by rw [hr]; simp)) h'.2⟩) h
  | .fork i j r s, listed, a, w, fuel + 1, hl, hlt, hc, hdn, h => by
    simp only [Way.size, Nat.add_le_add_iff_right] at hl
    simp only [Way.inside, Bool.and_eq_true, decide_eq_true_eq] at hlt
    unfold wayChk at hc
    simp only [Bool.and_eq_true, Bool.not_eq_true', beq_iff_eq] at hc
    obtain ⟨⟨⟨⟨-, -⟩, hr⟩, hc1⟩, hc2⟩ := hc
    unfold Along at h
    refine ⟨fun h0 => (by rw [hr] at h0; cases h0), fun k hk => ?_⟩
    rw [hr] at hk
    have hk' : k = i ∨ k = j := by simpa using hk
    rcases hk' with e | e
    · subst e
      exact wpOp_mono (fun a' w' h' => ⟨h'.1, along_sound hs r _ a' w' fuel (by omega) hlt.1.2 hc1 (down_set hdn (by rw [hr]; simp)) h'.2⟩) h.1
    · subst e
      exact wpOp_mono (fun a' w' h' => ⟨h'.1, along_sound hs s _ a' w' fuel (by omega) hlt.2 hc2 (down_set hdn (by rw [hr]; simp)) h'.2⟩) h.2

/-- THE BEGINNING: S: what holds of every world; R: the reads; way: the orders. -/
theorem wp_region_way {id : Nat} {a : Act} {w : World} (S : World → Prop) (R : List Nat) (way : Way) (hm : P.follows .mixedOrders = true)
    (hc : (Region.noSelect ops && decide (way.size ≤ ops.size) && way.inside ops.size && wayChk .any ops R way (Array.replicate ops.size false)) = true)
    (h : Along P .any ops Q S R way a w.drew) : (Code.region id ops true).wp P Q a w := by
  simp only [Bool.and_eq_true, decide_eq_true_eq] at hc
  exact wp_region_any hm (wpAnyN_any _ _ _ _ (along_sound hc.1.1.1 way _ a _ _ hc.1.1.2 hc.1.2 hc.2 (fun j _ _ hj => by simp [Array.getElem?_replicate] at hj; split at hj <;> simp_all) h))

theorem along_read {i : Nat} {rest : Way} {a : Act} {w : World} {o : Oper} {v : Value} (ho : ops[i]? = some o) (hR : R.contains i = true) (hw : Region.wanted o (yielded ops a.tmps) = true)
    (hQ : ∀ c a w, Q (.panic c) (a.put o.dst v) w → Q (.panic c) a w) (hS : S w) (hv : ∀ w, S w → (execOp a.eval o).run P w = .ok (.value v) w) (h : Along P md ops Q S R rest (a.put o.dst v) w) : Along P md ops Q S R (.then_ i rest) a w := by
  unfold Along
  rw [if_pos hR]
  exact ⟨o, ho, v, Or.inl ⟨hw, hv⟩, hS, hQ, h⟩

theorem along_off {i : Nat} {rest : Way} {a : Act} {w : World} {o : Oper} (ho : ops[i]? = some o) (hR : R.contains i = true) (hw : Region.wanted o (yielded ops a.tmps) = false)
    (hQ : ∀ c a w, Q (.panic c) (a.put o.dst undef) w → Q (.panic c) a w) (hS : S w) (h : Along P md ops Q S R rest (a.put o.dst undef) w) : Along P md ops Q S R (.then_ i rest) a w := by
  unfold Along
  rw [if_pos hR]
  exact ⟨o, ho, undef, Or.inr ⟨hw, rfl⟩, hS, hQ, h⟩

theorem along_skip {i : Nat} {rest : Way} {a : Act} {w : World} {o : Oper} (ho : ops[i]? = some o) (hR : R.contains i = false) (hw : Region.wanted o (yielded ops a.tmps) = false)
    (hS : S w) (h : Along P md ops Q S R rest (a.put o.dst undef) w) : Along P md ops Q S R (.then_ i rest) a w := by
  unfold Along
  rw [if_neg (by simp only [hR]; decide)]
  unfold wpOp
  simp only [ho, hw]
  exact ⟨fun _ => hS, h⟩

theorem along_op {i : Nat} {rest : Way} {a : Act} {w : World} {o : Oper} (ho : ops[i]? = some o) (hR : R.contains i = false) (hw : Region.wanted o (yielded ops a.tmps) = true)
    (h : ∀ K : Act → World → Prop, Shut (∀ a w, (needs md ops R i = true → S w) → Along P md ops Q S R rest a w → K a w) → Oper.wp P o a w K Q) : Along P md ops Q S R (.then_ i rest) a w := by
  unfold Along
  rw [if_neg (by simp only [hR]; decide)]
  unfold wpOp
  simp only [ho, hw, if_true]
  exact Or.inl (h _ (fun a w hS hr => ⟨hS, hr⟩))

/-- A fork: both ways. -/
theorem along_fork {i j : Nat} {r s : Way} {a : Act} {w : World} (hi : R.contains i = false) (hj : R.contains j = false) (h1 : Along P md ops Q S R (.then_ i r) a w) (h2 : Along P md ops Q S R (.then_ j s) a w) : Along P md ops Q S R (.fork i j r s) a w := by
  unfold Along at h1 h2 ⊢
  rw [if_neg (by simp only [hi]; decide)] at h1
  rw [if_neg (by simp only [hj]; decide)] at h2
  exact ⟨h1, h2⟩

theorem along_done {a : Act} {w : World} (h : Q .normal a w) : Along P md ops Q S R .done a w := h
end

end Go.Proofs.Ytgepchafbeifeaa
