/- A region that draws its order, whose operations read, or make what then stays: walked one operation at a time, each from whatever the others have left. No program here. -/
import Derived.Deep.RegionHeld3
import Derived.Test.YtpcgklagmcnhaaaGreatT7Turns
import Derived.Shelf.Small.Bits
import Derived.Shelf.Small.Wraps
import Derived.Shelf.Strconv.Itoa0
import Derived.Shelf.Sort.Plain
import Derived.Shelf.Slices.Turned
import Derived.Shelf.Slices.Equal
import Derived.Ground.Names2Prog
import Derived.Shelf.Slices.Clone
import Derived.Shelf.Slices.CompactI
import Derived.Shelf.Slices.SearchI
import Derived.Shelf.Slices.Cells
import Derived.Shelf.Slices.In.SortNone
import Derived.Shelf.Slices.Empties
import Derived.Shelf.Slices.Empties2
import Derived.Ground.SlgnProg
import Derived.Shelf.SlicesE.Equal
import Derived.Shelf.SlicesE.Compact
import Derived.Shelf.SlicesE.Clone
import Derived.Ground.SlgfProg
import Derived.Shelf.SlicesE.IndexFunc
import Derived.Shelf.SlicesE.DeleteFunc
import Derived.Ground.SlsfProg
import Derived.Shelf.SlSortCmp.InsertionK
import Derived.Shelf.SlSortCmp.SiftDownK
import Derived.Shelf.SlSortCmp.HeapSortK
import Derived.Shelf.SlSortCmp.MedianK
import Derived.Shelf.SlSortCmp.PivotK
import Derived.Shelf.SlSortCmp.ReverseRangeK
import Derived.Shelf.SlSortCmp.PartitionEqualK
import Derived.Shelf.SlSortCmp.PartitionK
import Derived.Test.YtpcgklagmcnhaaaGreatProg
namespace Go.Proofs.YtpcgklagmcnhaaaGreat
open Go
section
variable {P : Program} {ops : Array Oper} {Q : Exit → Act → World → Prop} {md : Region.Mode}
def fillL (vals : Nat → Value) : Nat → List Oper → Act → Act
 | _, [], a => a
 | i, o :: r, a => fillL vals (i + 1) r (a.put o.dst (vals i))
theorem put_comm (a : Act) {d e : Option Nat} (u v : Value) (h : ∀ x, d = some x → e ≠ some x) : (a.put d u).put e v = (a.put e v).put d u := by
 cases d with
 | none => rfl
 | some x =>
  cases e with
  | none => rfl
  | some y =>
   have : x ≠ y := fun q => h x rfl (by rw [q])
   simp only [Act.put, Array.setIfInBounds_comm _ _ this]
theorem put_put (a : Act) (d : Option Nat) (u v : Value) : (a.put d u).put d v = a.put d v := by
 cases d with
 | none => rfl
 | some x => simp only [Act.put, Array.setIfInBounds_setIfInBounds]
theorem fillL_put (vals : Nat → Value) (d : Option Nat) (v : Value) : ∀ (l : List Oper) (i : Nat) (a : Act), (∀ o ∈ l, ∀ x, d = some x → o.dst ≠ some x) → fillL vals i l (a.put d v) = (fillL vals i l a).put d v
 | [], _, _, _ => rfl
 | o :: r, i, a, h => by
  simp only [fillL]
  rw [put_comm a v (vals i) (h o (by simp)), fillL_put vals d v r (i + 1) _ (fun o ho => h o (by simp [ho]))]
def upd (vals : Nat → Value) (i : Nat) (v : Value) : Nat → Value := fun j => if j = i then v else vals j
theorem fillL_above (vals : Nat → Value) (k : Nat) (v : Value) : ∀ (l : List Oper) (i : Nat) (a : Act), k < i → fillL (upd vals k v) i l a = fillL vals i l a
 | [], _, _, _ => rfl
 | o :: r, i, a, h => by
  simp only [fillL]
  rw [fillL_above vals k v r (i + 1) _ (by omega), show upd vals k v i = vals i from if_neg (by omega)]
def apart : List Oper → Bool
 | [] => true
 | o :: r => (match o.dst with | none => true | some x => r.all fun p => p.dst != some x) && apart r
theorem apart_spec {o : Oper} {r : List Oper} (h : apart (o :: r) = true) : (∀ p ∈ r, ∀ x, o.dst = some x → p.dst ≠ some x) ∧ apart r = true := by
 grind [apart]
theorem fillL_upd (vals : Nat → Value) (v : Value) : ∀ (l : List Oper) (i k : Nat) (o : Oper) (a : Act), apart l = true → l[k]? = some o → fillL (upd vals (i + k) v) i l a = (fillL vals i l a).put o.dst v
 | [], _, _, _, _, _, hk => by simp at hk
 | p :: r, i, 0, o, a, ha, hk => by
  simp only [List.getElem?_cons_zero, Option.some.injEq] at hk
  subst hk
  have := apart_spec ha
  simp only [fillL, Nat.add_zero]
  rw [fillL_above vals i v r (i + 1) _ (by omega), show upd vals i v i = v from if_pos rfl, ← put_put a p.dst (vals i) v, fillL_put vals p.dst v r (i + 1) _ this.1]
 | p :: r, i, k + 1, o, a, ha, hk => by
  simp only [List.getElem?_cons_succ] at hk
  simp only [fillL]
  rw [show upd vals (i + (k + 1)) v i = vals i from if_neg (by omega), show i + (k + 1) = (i + 1) + k by omega]
  exact fillL_upd vals v r (i + 1) k o _ (apart_spec ha).2 hk
def held (a : Act) (o : Oper) : Value := match o.dst with | none => undef | some x => a.tmps.getD x undef
theorem put_own (a : Act) (o : Oper) : a.put o.dst (held a o) = a := by
 unfold held
 cases hd : o.dst with
 | none => rfl
 | some x =>
  simp only [Act.put]
  have : a.tmps.setIfInBounds x (a.tmps.getD x undef) = a.tmps := by
   apply Array.ext
   ·simp
   intro i h1 h2
   rw [Array.getElem_setIfInBounds]
   split
   ·rename_i e; subst e; simp [Array.getD, h2]
   rfl
  rw [this]
theorem fillL_own (vals : Nat → Value) (a : Act) : ∀ (l : List Oper) (i : Nat), (∀ k o, l[k]? = some o → vals (i + k) = held a o) → fillL vals i l a = a
 | [], _, _ => rfl
 | o :: r, i, h => by
  simp only [fillL]
  rw [show vals i = held a o by simpa using h 0 o rfl, put_own]
  exact fillL_own vals a r (i + 1) (fun k p hk => by rw [← h (k + 1) p (by simpa using hk)]; congr 1; omega)
def Facts (L : List (Value → World → Prop)) (vals : Nat → Value) (w : World) : List Nat → Prop
 | [] => True
 | d :: r => (L.getD d (fun _ _ => True)) (vals d) w ∧ Facts L vals w r
structure Info where
 deps : List Nat
 con : List Nat
 lin : Bool
def foot : Value → List Nat
 | .agg vs => vs.toList.flatMap fun v => v.ownBlock.toList
 | v => v.ownBlock.toList
theorem facts_congr {L L' : List (Value → World → Prop)} {vals : Nat → Value} {w : World} : ∀ {d : List Nat}, (∀ x ∈ d, L.getD x (fun _ _ => True) = L'.getD x (fun _ _ => True)) → Facts L vals w d = Facts L' vals w d
 | [], _ => rfl
 | x :: r, h => by
  simp only [Facts]
  rw [h x (by simp), facts_congr (fun y hy => h y (by simp [hy]))]
theorem facts_of {L : List (Value → World → Prop)} {vals : Nat → Value} {w : World} : ∀ {d : List Nat}, (∀ x ∈ d, (L.getD x (fun _ _ => True)) (vals x) w) → Facts L vals w d
 | [], _ => trivial
 | x :: r, h => ⟨h x (by simp), facts_of (fun y hy => h y (by simp [hy]))⟩
variable {G : World → Prop} {fr : (Nat → Value) → Act} {z : Nat} {fin : List Nat}
def afters (md : Region.Mode) (ops : Array Oper) (j : Nat) : List Nat := match ops[j]? with | none => [] | some o => (o.after.toList.filter (Region.binds md ·)).map (·.on)
def reach (md : Region.Mode) (ops : Array Oper) : Nat → List Nat → List Nat
 | 0, l => l
 | k + 1, l => reach md ops k (if l.contains k then l ++ afters md ops k else l)
theorem mem_afters {j x : Nat} : x ∈ afters md ops j ↔ ∃ o, ops[j]? = some o ∧ ∃ e ∈ o.after, Region.binds md e = true ∧ e.on = x := by
 grind [afters]
theorem reach_sound {listed : Array Bool} (hdn : ∀ j oj, ops[j]? = some oj → listed.getD j false = true → ∀ e ∈ oj.after, Region.binds md e = true → listed.getD e.on false = true) :
  ∀ (k : Nat) (l : List Nat), (∀ x ∈ l, listed.getD x false = true) → ∀ x ∈ reach md ops k l, listed.getD x false = true
 | 0, _, h => h
 | k + 1, l, h => by
  unfold reach
  refine reach_sound hdn k _ ?_
  split
  ·rename_i hc
   intro x hx
   rcases List.mem_append.1 hx with q | q
   ·exact h x q
   obtain ⟨o, ho, e, he, hb, rfl⟩ := mem_afters.1 q
   exact hdn k o ho (h k (by simpa using hc)) e he hb
  exact h
end
end Go.Proofs.YtpcgklagmcnhaaaGreat
namespace Go.Proofs.YtpcgklagmcnhaaaGreat
open Go
section
variable {P : Program} {ops : Array Oper} {Q : Exit → Act → World → Prop} {md : Region.Mode} {S : World → Prop} {N : Nat → Bool} {R : List Nat}
def wpAnyN (P : Program) (md : Region.Mode) (ops : Array Oper) (Q : Exit → Act → World → Prop) (S : World → Prop) (N : Nat → Bool) : Nat → Array Bool → Act → World → Prop
 | 0, listed, a, w => Region.ready md ops listed = [] ∧ Q .normal a w
 | fuel + 1, listed, a, w =>
  (Region.ready md ops listed = [] → Q .normal a w) ∧
  ∀ i ∈ Region.ready md ops listed, wpOp P ops Q i (fun a' w' => (N i = true → S w') ∧ wpAnyN P md ops Q S N fuel (listed.setIfInBounds i true) a' w') a w
theorem wpAnyN_any : ∀ (fuel : Nat) (listed : Array Bool) (a : Act) (w : World), wpAnyN P md ops Q S N fuel listed a w → wpAny P md ops Q fuel listed a w
 | 0, _, _, _, h => h
 | fuel + 1, _, _, _, h => ⟨h.1, fun i hi => wpOp_mono (fun a' w' h' => wpAnyN_any fuel _ a' w' h'.2) (h.2 i hi)⟩
def Down (md : Region.Mode) (ops : Array Oper) (listed : Array Bool) : Prop := ∀ j oj, ops[j]? = some oj → listed.getD j false = true → ∀ e ∈ oj.after, Region.binds md e = true → listed.getD e.on false = true
theorem down_set {listed : Array Bool} {j : Nat} (hd : Down md ops listed) (hj : j ∈ Region.ready md ops listed) : Down md ops (listed.setIfInBounds j true) := by
 intro k ok hk hlk e he hb
 obtain ⟨-, oj, hoj, hall⟩ := mem_ready.1 hj
 by_cases hkj : k = j
 ·subst hkj
  rw [hoj] at hk
  cases hk
  exact getD_set_true (hall e he hb)
 rw [getD_set_ne false (Ne.symm hkj)] at hlk
 exact getD_set_true (hd k ok hk hlk e he hb)
theorem not_reach {listed : Array Bool} {i j : Nat} (hd : Down md ops listed) (hj : j ∈ Region.ready md ops listed) (hi : listed.getD i false = false) : i ∉ reach md ops ops.size (afters md ops j) := by
 intro h
 obtain ⟨-, oj, hoj, hall⟩ := mem_ready.1 hj
 have := reach_sound hd ops.size (afters md ops j) (fun x hx => by
  grind [mem_afters]) i h
 grind
theorem unlisted {listed : Array Bool} {i : Nat} (hr : i ∈ Region.ready md ops listed) : listed.getD i false = false := by
 have h0 := (mem_ready.1 hr).1
 all_goals grind
theorem wpAnyN_first {i : Nat} {oi : Oper} {v : Value} (hi : ops[i]? = some oi) (hsel : ∀ (j : Nat) (o : Oper) cs b, ops[j]? = some o → o.op ≠ .select cs b)
  (hQ : ∀ c a w, Q (.panic c) (a.put oi.dst v) w → Q (.panic c) a w)
  (hN : ∀ j, j ≠ i → i ∉ reach md ops ops.size (afters md ops j) → N j = true) :
  ∀ (fuel : Nat) (listed : Array Bool) (a : Act) (w : World), Down md ops listed →
   (∀ j oj, ops[j]? = some oj → j ≠ i → listed.getD j true = false → (∀ e ∈ oj.after, Region.binds md e = true → e.on ≠ i) → oi.apart ops oj = true) →
   i ∈ Region.ready md ops listed → YieldsIf P ops S oi v a → S w →
   wpAnyN P md ops Q S N fuel (listed.setIfInBounds i true) (a.put oi.dst v) w → wpAnyN P md ops Q S N (fuel + 1) listed a w := by
 intro fuel
 induction fuel with
 | zero =>
  intro listed a w _ _ hr hy hS H
  refine ⟨fun h => (by grind), fun j hj => ?_⟩
  by_cases hji : j = i
  ·subst hji; exact hy.wpOp hi hS ⟨fun _ => hS, H⟩
  have := ready_mono hj hji
  rw [H.1] at this
  cases this
 | succ fuel ih =>
  intro listed a w hdn hfree hr hy hS H
  refine ⟨fun h => (by grind), fun j hj => ?_⟩
  by_cases hji : j = i
  ·subst hji; exact hy.wpOp hi hS ⟨fun _ => hS, H⟩
  obtain ⟨hjun, oj, hoj, hall⟩ := mem_ready.1 hj
  have hnot : ∀ e ∈ oj.after, Region.binds md e = true → e.on ≠ i := fun e he hb heq => by
   have h1 := hall e he hb
   have h0 := (mem_ready.1 hr).1
   all_goals grind
  have hNj := hN j hji (not_reach hdn hj (unlisted hr))
  have h2 := wpOp_putIf hoj (hfree j oj hoj hji hjun hnot) (fun cs b => hsel i oi cs b hi) (fun cs b => hsel j oj cs b hoj) hQ hy (H.2 j (ready_mono hj hji))
  refine wpOp_mono (fun a' w' h3 => ⟨fun _ => h3.2.1 hNj, ih (listed.setIfInBounds j true) a' w' (down_set hdn hj) (fun k ok hk hki hun hno => ?_) (ready_mono hr (Ne.symm hji)) h3.1 (h3.2.1 hNj) ?_⟩) h2
  ·refine hfree k ok hk hki ?_ hno
   by_cases hjk : j = k
   ·subst hjk; exact hjun
   rw [getD_set_ne true hjk] at hun; exact hun
  rw [Array.setIfInBounds_comm _ _ hji]
  exact h3.2.2
def needs (md : Region.Mode) (ops : Array Oper) (R : List Nat) (j : Nat) : Bool :=
 R.any fun i => i != j && !(reach md ops ops.size (afters md ops j)).contains i
theorem needs_of {i j : Nat} (hi : i ∈ R) (hne : j ≠ i) (hno : i ∉ reach md ops ops.size (afters md ops j)) : needs md ops R j = true := by
 refine List.any_eq_true.2 ⟨i, hi, ?_⟩
 grind
end
end Go.Proofs.YtpcgklagmcnhaaaGreat
namespace Go.Proofs.YtpcgklagmcnhaaaGreat
open Go
inductive Way where
 | done : Way
 | then_ : Nat → Way → Way
 | fork : Nat → Nat → Way → Way → Way
def Way.size : Way → Nat
 | done => 0
 | then_ _ r => r.size + 1
 | fork _ _ r s => max r.size s.size + 1
def Way.line : List Nat → Way → Way
 | [], r => r
 | i :: l, r => .then_ i (Way.line l r)
section
variable {P : Program} {ops : Array Oper} {Q : Exit → Act → World → Prop} {md : Region.Mode} {S : World → Prop} {R : List Nat}
def Way.inside (n : Nat) : Way → Bool
 | done => true
 | then_ i r => decide (i < n) && r.inside n
 | fork i j r s => decide (i < n) && decide (j < n) && r.inside n && s.inside n
def wayChk (md : Region.Mode) (ops : Array Oper) (R : List Nat) : Way → Array Bool → Bool
 | .done, listed => (Region.ready md ops listed).isEmpty
 | .then_ i r, listed => (if R.contains i then (Region.ready md ops listed).contains i && Region.free md ops listed i else Region.ready md ops listed == [i]) && wayChk md ops R r (listed.setIfInBounds i true)
 | .fork i j r s, listed => !R.contains i && !R.contains j && Region.ready md ops listed == [i, j] && wayChk md ops R r (listed.setIfInBounds i true) && wayChk md ops R s (listed.setIfInBounds j true)
def Along (P : Program) (md : Region.Mode) (ops : Array Oper) (Q : Exit → Act → World → Prop) (S : World → Prop) (R : List Nat) : Way → Act → World → Prop
 | .done, a, w => Q .normal a w
 | .then_ i r, a, w =>
  if R.contains i then ∃ o, ops[i]? = some o ∧ ∃ v, YieldsIf P ops S o v a ∧ S w ∧ (∀ c a w, Q (.panic c) (a.put o.dst v) w → Q (.panic c) a w) ∧ Along P md ops Q S R r (a.put o.dst v) w
  else wpOp P ops Q i (fun a' w' => (needs md ops R i = true → S w') ∧ Along P md ops Q S R r a' w') a w
 | .fork i j r s, a, w =>
  wpOp P ops Q i (fun a' w' => (needs md ops R i = true → S w') ∧ Along P md ops Q S R r a' w') a w ∧
  wpOp P ops Q j (fun a' w' => (needs md ops R j = true → S w') ∧ Along P md ops Q S R s a' w') a w
theorem along_sound (hs : Region.noSelect ops = true) : ∀ (way : Way) (listed : Array Bool) (a : Act) (w : World) (fuel : Nat), way.size ≤ fuel → way.inside ops.size = true → wayChk md ops R way listed = true → Down md ops listed →
  Along P md ops Q S R way a w → wpAnyN P md ops Q S (needs md ops R) fuel listed a w
 | .done, _, _, _, 0, _, _, hc, _, h => ⟨by simpa [wayChk] using hc, h⟩
 | .done, _, _, _, n + 1, _, _, hc, _, h => ⟨fun _ => h, by rw [show Region.ready md ops _ = [] by simpa [wayChk] using hc]; simp⟩
 | .then_ i rest, listed, a, w, 0, hl, _, _, _, _ => by simp [Way.size] at hl
 | .fork i j r s, listed, a, w, 0, hl, _, _, _, _ => by simp [Way.size] at hl
 | .then_ i rest, listed, a, w, fuel + 1, hl, hlt, hc, hdn, h => by
  simp only [Way.size, Nat.add_le_add_iff_right] at hl
  simp only [Way.inside, Bool.and_eq_true, decide_eq_true_eq] at hlt
  unfold wayChk at hc
  rw [Bool.and_eq_true] at hc
  unfold Along at h
  by_cases hR : R.contains i = true
  ·rw [if_pos hR] at h
   rw [if_pos hR, Bool.and_eq_true] at hc
   obtain ⟨o, ho, v, hy, hS, hQ, h⟩ := h
   exact wpAnyN_first ho (Region.noSelect_spec hs) hQ (fun j hne hno => needs_of (by simpa using hR) hne hno) fuel listed a w hdn (Region.free_spec ho hc.1.2) (by simpa using hc.1.1) hy hS
    (along_sound hs rest _ _ _ fuel hl hlt.2 hc.2 (down_set hdn (by simpa using hc.1.1)) h)
  rw [if_neg hR] at h hc
  have hr : Region.ready md ops listed = [i] := by simpa using hc.1
  refine ⟨fun h0 => (by rw [hr] at h0; cases h0), fun j hj => ?_⟩
  rw [hr] at hj
  obtain rfl : j = i := by simpa using hj
  exact wpOp_mono (fun a' w' h' => ⟨h'.1, along_sound hs rest _ a' w' fuel hl hlt.2 hc.2 (down_set hdn (by rw [hr]; simp)) h'.2⟩) h
 | .fork i j r s, listed, a, w, fuel + 1, hl, hlt, hc, hdn, h => by
  simp only [Way.size, Nat.add_le_add_iff_right] at hl
  simp only [Way.inside, Bool.and_eq_true, decide_eq_true_eq] at hlt
  unfold wayChk at hc
  simp only [Bool.and_eq_true, Bool.not_eq_true', beq_iff_eq] at hc
  obtain ⟨⟨⟨⟨-, -⟩, hr⟩, hc1⟩, hc2⟩ := hc
  unfold Along at h
  refine ⟨fun h0 => (by rw [hr] at h0; cases h0), fun k hk => ?_⟩
  rw [hr] at hk
  have hk' : k = i ∨ k = j := by simpa using hk
  rcases hk' with e | e
  ·subst e
   exact wpOp_mono (fun a' w' h' => ⟨h'.1, along_sound hs r _ a' w' fuel (by omega) hlt.1.2 hc1 (down_set hdn (by rw [hr]; simp)) h'.2⟩) h.1
  subst e
  exact wpOp_mono (fun a' w' h' => ⟨h'.1, along_sound hs s _ a' w' fuel (by omega) hlt.2 hc2 (down_set hdn (by rw [hr]; simp)) h'.2⟩) h.2
theorem wp_region_way {id : Nat} {a : Act} {w : World} (S : World → Prop) (R : List Nat) (way : Way) (hm : P.follows .mixedOrders = true)
  (hc : (Region.noSelect ops && decide (way.size ≤ ops.size) && way.inside ops.size && wayChk .any ops R way (Array.replicate ops.size false)) = true)
  (h : Along P .any ops Q S R way a w.drew) : (Code.region id ops true).wp P Q a w := by
 simp only [Bool.and_eq_true, decide_eq_true_eq] at hc
 exact wp_region_any hm (wpAnyN_any _ _ _ _ (along_sound hc.1.1.1 way _ a _ _ hc.1.1.2 hc.1.2 hc.2 (fun j _ _ hj => by simp [Array.getElem?_replicate] at hj; split at hj <;> simp_all) h))
theorem along_read {i : Nat} {rest : Way} {a : Act} {w : World} {o : Oper} {v : Value} (ho : ops[i]? = some o) (hR : R.contains i = true) (hw : Region.wanted o (yielded ops a.tmps) = true)
  (hQ : ∀ c a w, Q (.panic c) (a.put o.dst v) w → Q (.panic c) a w) (hS : S w) (hv : ∀ w, S w → (execOp a.eval o).run P w = .ok (.value v) w) (h : Along P md ops Q S R rest (a.put o.dst v) w) : Along P md ops Q S R (.then_ i rest) a w := by
 unfold Along
 rw [if_pos hR]
 exact ⟨o, ho, v, Or.inl ⟨hw, hv⟩, hS, hQ, h⟩
theorem along_off {i : Nat} {rest : Way} {a : Act} {w : World} {o : Oper} (ho : ops[i]? = some o) (hR : R.contains i = true) (hw : Region.wanted o (yielded ops a.tmps) = false)
  (hQ : ∀ c a w, Q (.panic c) (a.put o.dst undef) w → Q (.panic c) a w) (hS : S w) (h : Along P md ops Q S R rest (a.put o.dst undef) w) : Along P md ops Q S R (.then_ i rest) a w := by
 unfold Along
 rw [if_pos hR]
 exact ⟨o, ho, undef, Or.inr ⟨hw, rfl⟩, hS, hQ, h⟩
theorem along_skip {i : Nat} {rest : Way} {a : Act} {w : World} {o : Oper} (ho : ops[i]? = some o) (hR : R.contains i = false) (hw : Region.wanted o (yielded ops a.tmps) = false)
  (hS : S w) (h : Along P md ops Q S R rest (a.put o.dst undef) w) : Along P md ops Q S R (.then_ i rest) a w := by
 unfold Along
 rw [if_neg (by grind)]
 unfold wpOp
 grind
theorem along_op {i : Nat} {rest : Way} {a : Act} {w : World} {o : Oper} (ho : ops[i]? = some o) (hR : R.contains i = false) (hw : Region.wanted o (yielded ops a.tmps) = true)
  (h : ∀ K : Act → World → Prop, Shut (∀ a w, (needs md ops R i = true → S w) → Along P md ops Q S R rest a w → K a w) → Oper.wp P o a w K Q) : Along P md ops Q S R (.then_ i rest) a w := by
 unfold Along
 rw [if_neg (by grind)]
 unfold wpOp
 simp only [ho, hw, if_true]
 exact Or.inl (h _ (fun a w hS hr => ⟨hS, hr⟩))
theorem along_fork {i j : Nat} {r s : Way} {a : Act} {w : World} (hi : R.contains i = false) (hj : R.contains j = false) (h1 : Along P md ops Q S R (.then_ i r) a w) (h2 : Along P md ops Q S R (.then_ j s) a w) : Along P md ops Q S R (.fork i j r s) a w := by
 grind [Along]
theorem along_done {a : Act} {w : World} (h : Q .normal a w) : Along P md ops Q S R .done a w := h
end
end Go.Proofs.YtpcgklagmcnhaaaGreat
namespace Go.Proofs.YtpcgklagmcnhaaaGreat
open Go.RowKit Go.Maps
theorem rising_any (v : Value) (l : List Int) (n : Int) (w : World) (_hn : I64 n) (h : IntsAt w v l) :
  Calls Tryz.prog 61 #[v, .int .i64 n] w fun e w' => e = .returned (.bool (Plain.rises l n)) ∧ Chg [] w w' := by
 obtain ⟨ao, cap, rfl, hsm, hm, hcell⟩ := h
 have HSM := Lib.hid hsm
 have HCE := Lib.hid hcell
 clear hsm hcell
 go_enter Tryz.func61, Tryz.ntmps61
 go_wp2
 go_loopw [9] (fun c wr => ∃ k : Nat, k ≤ l.length ∧ c = .int .i64 k ∧ Chg [] w wr ∧ Hid ((List.range k).all (Plain.risesAt l n) = true)) (fun c _ => l.length - (intOf c).toNat)
 case atStart => exact ⟨0, Nat.zero_le _, rfl, Chg.refl _ _, rfl⟩
 case round =>
  obtain ⟨k, hk, rfl, hc, hall⟩ := hrel
  have HC := Lib.hid hc
  by_cases hlt : k < l.length
  ·obtain ⟨b, off, rfl, hfc⟩ := HCE.out (by grind)
   have c0 := hc.cell (hfc k hlt) (by simp)
   have hz := HSM.out (l.getD k 0) (by grind)
   have HF := Lib.hid (fun h => Plain.all_range_false (p := Plain.risesAt l n) hlt h)
   have HS := Lib.hid (Plain.all_range_succ (Plain.risesAt l n) k)
   cases k with
   | zero =>
    have HR := Lib.hid (show Plain.risesAt l n 0 = !(decide (l.getD 0 0 < 0) || decide (n ≤ l.getD 0 0)) by simp [Plain.risesAt])
    rw [Nat.add_zero] at c0
    clear hfc hc
    generalize l.getD 0 0 = z at *
    by_cases h1 : z < 0
    ·go_wp2
     go_ret
     exact ⟨ret_bool (by rw [HR.out] at HF; exact (HF.out (by simp [h1])).symm), HC.out⟩
    by_cases h2 : n ≤ z
    ·go_wp2
     go_ret
     exact ⟨ret_bool (by rw [HR.out] at HF; exact (HF.out (by simp [h2])).symm), HC.out⟩
    go_wp2
    go_roundw
    case rel => exact ⟨1, by omega, by go_num, HC.out, Lib.hid (by rw [HS.out, HR.out, hall.out]; simp [h1, h2])⟩
    case measure => simp [intOf]; omega
   | succ m =>
    have c1 := hc.cell (hfc m (by omega)) (by simp)
    have HR := Lib.hid (show Plain.risesAt l n (m + 1) = !(decide (l.getD (m + 1) 0 < 0) || decide (n ≤ l.getD (m + 1) 0) || decide (l.getD (m + 1) 0 ≤ l.getD m 0)) by simp [Plain.risesAt])
    have hm1 : (((m + 1 : Nat) : Int) - 1) = (m : Int) := by omega
    have hy := HSM.out (l.getD m 0) (by simp [List.getD, show m < l.length by omega])
    clear hfc hc
    generalize l.getD (m + 1) 0 = z at *
    generalize l.getD m 0 = y at *
    by_cases h1 : z < 0
    ·go_wp2
     go_ret
     exact ⟨ret_bool (by rw [HR.out] at HF; exact (HF.out (by simp [h1])).symm), HC.out⟩
    by_cases h2 : n ≤ z
    ·go_wp2
     go_ret
     exact ⟨ret_bool (by rw [HR.out] at HF; exact (HF.out (by simp [h2])).symm), HC.out⟩
    by_cases h3 : z ≤ y
    ·go_wp2
     go_ret
     exact ⟨ret_bool (by rw [HR.out] at HF; exact (HF.out (by simp [h3])).symm), HC.out⟩
    go_wp2
    go_roundw
    case rel => exact ⟨m + 2, by omega, by go_num, HC.out, Lib.hid (by rw [HS.out, HR.out, hall.out]; simp [h1, h2, h3])⟩
    case measure => simp [intOf]; omega
  have e : k = l.length := by omega
  subst e
  go_wp2
  go_ret
  exact ⟨ret_bool hall.out.symm, HC.out⟩
theorem graphRight_any (v : Value) (g : Plain.Gr) (w : World) (h : GrAt w v g) :
  Calls Tryz.prog 60 #[v] w fun e w' => e = .returned (.int .i64 g.err) ∧ Chg [] w w' := by
 obtain ⟨eo, cap, rfl, hn, hm, hsm, hcell⟩ := h
 have HSM := Lib.hid hsm
 have HCE := Lib.hid hcell
 have HN := Lib.hid hn
 have hmin : -9223372036854775808 ≤ g.n := by have h := hn; unfold I64 at h; simp only [Lit.wf, Bool.and_eq_true, decide_eq_true_eq] at h; exact h.1
 clear hsm hcell
 go_enter Tryz.func60, Tryz.ntmps60
 have HC1 := Lib.hid ((Chg.refl [] w).alloc (.cells #[.int .i64 g.n, .slice eo g.e.length cap] 41))
 by_cases h1 : g.n < 0
 ·have HE := Lib.hid (show g.err = 3 by grind [Plain.Gr.err])
  go_wp2
  go_ret
  exact ⟨ret_int HE.out.symm, HC1.out⟩
 by_cases h2 : 1024 < g.n
 ·have HE := Lib.hid (show g.err = 2 by grind [Plain.Gr.err])
  go_wp2
  go_ret
  exact ⟨ret_int HE.out.symm, HC1.out⟩
 have hsub : (1024 : Int) - g.n ≤ 1024 := by omega
 by_cases h3 : 1024 - g.n < (g.e.length : Int)
 ·have HE := Lib.hid (show g.err = 2 by grind [Plain.Gr.err])
  go_wp2
  go_ret
  exact ⟨ret_int HE.out.symm, HC1.out⟩
 have HER := Lib.hid (show g.err = if (List.range g.e.length).all g.okEdge then 0 else 3 by unfold Plain.Gr.err; rw [if_neg h1, if_neg (by omega)])
 have hcn : (w.alloc (.cells #[.int .i64 g.n, .slice eo g.e.length cap] 41)).cell? ⟨w.heap.size, 0, none⟩ = some (.int .i64 g.n) := by rw [cell_of_row _ _ 0 _ _ _ (heap_alloc_new w _)]; rfl
 have HCN := Lib.hid hcn
 clear hcn
 go_wp2
 generalize (w.alloc (.cells #[.int .i64 g.n, .slice eo g.e.length cap] 41)) = w1 at *
 generalize w.heap.size = gb at *
 go_loopw [23] (fun c wr => ∃ k : Nat, k ≤ g.e.length ∧ c = .int .i64 k ∧ Chg [] w1 wr ∧ Hid ((List.range k).all g.okEdge = true)) (fun c _ => g.e.length - (intOf c).toNat)
 case atStart => exact ⟨0, Nat.zero_le _, rfl, Chg.refl _ _, rfl⟩
 case round =>
  obtain ⟨k, hk, rfl, hc, hall⟩ := hrel
  have HC := Lib.hid hc
  have cn := fun o => cellNew (hc.cell HCN.out (by simp)) o
  by_cases hlt : k < g.e.length
  ·obtain ⟨b, off, rfl, hc0, hc1⟩ := HCE.out k hlt
   have c0 := hc.cell (HC1.out.cell hc0 (by simp)) (by simp)
   have c1 := hc.cell (HC1.out.cell hc1 (by simp)) (by simp)
   obtain ⟨z1, z2⟩ := HSM.out k hlt
   have HF := Lib.hid (fun h => Plain.all_range_false (p := g.okEdge) hlt h)
   have HS := Lib.hid (Plain.all_range_succ g.okEdge k)
   have HR := Lib.hid (show g.okEdge k = !(decide ((g.ends k).1 < 0) || decide (g.n ≤ (g.ends k).1) || decide ((g.ends k).2 < 0) || decide (g.n ≤ (g.ends k).2)) from rfl)
   clear hc0 hc1 hc
   generalize (g.ends k).1 = x at *
   generalize (g.ends k).2 = y at *
   by_cases p1 : x < 0
   ·have HE := Lib.hid (HER.out.trans (if_neg (by rw [HF.out (by rw [HR.out]; simp [p1])]; decide)))
    go_wp2
    go_ret
    exact ⟨ret_int HE.out.symm, HC1.out.trans (HC.out.alloc _) (by simp)⟩
   skip
   by_cases p2 : g.n ≤ x
   ·have HE := Lib.hid (HER.out.trans (if_neg (by rw [HF.out (by rw [HR.out]; simp [p2])]; decide)))
    go_wp2
    go_ret
    exact ⟨ret_int HE.out.symm, HC1.out.trans (HC.out.alloc _) (by simp)⟩
   skip
   by_cases p3 : y < 0
   ·have HE := Lib.hid (HER.out.trans (if_neg (by rw [HF.out (by rw [HR.out]; simp [p3])]; decide)))
    go_wp2
    go_ret
    exact ⟨ret_int HE.out.symm, HC1.out.trans (HC.out.alloc _) (by simp)⟩
   skip
   by_cases p4 : g.n ≤ y
   ·have HE := Lib.hid (HER.out.trans (if_neg (by rw [HF.out (by rw [HR.out]; simp [p4])]; decide)))
    go_wp2
    go_ret
    exact ⟨ret_int HE.out.symm, HC1.out.trans (HC.out.alloc _) (by simp)⟩
   skip
   have HK := Lib.hid (show (List.range (k + 1)).all g.okEdge = true by rw [HS.out, HR.out, hall.out]; simp [p1, p2, p3, p4])
   go_wp2
   go_roundw
   case rel => exact ⟨k + 1, by omega, by go_num, HC.out.alloc _, HK⟩
   case measure => simp [intOf]; omega
  have e : k = g.e.length := by omega
  subst e
  have HE := Lib.hid (HER.out.trans (if_pos hall.out))
  go_wp2
  go_ret
  exact ⟨ret_int HE.out.symm, HC1.out.trans HC.out (by simp)⟩
end Go.Proofs.YtpcgklagmcnhaaaGreat
namespace Go.Proofs
open Go.Shelf
def Tryz.lays189_ren : Go.Shelf.Ren := ⟨fun | 189 => 31 | 125 => 59 | 257 => 58 | 128 => 95 | 129 => 96 | 294 => 86 | 295 => 87 | 296 => 88 | 297 => 89 | 298 => 90 | 299 => 91 | 216 => 92 | 300 => 93 | 301 => 94 | 328 => 129 | 329 => 130 | 330 => 131 | 331 => 132 | 332 => 133 | 215 => 116 | 343 => 165 | n => n, fun | 28 => 31 | 3 => 3 | 46 => 109 | 0 => 0 | 51 => 151 | 53 => 153 | 4 => 4 | 183 => 145 | 182 => 144 | 131 => 29 | 5 => 5 | 9 => 9 | 218 => 184 | 222 => 188 | 228 => 210 | 229 => 211 | n => n, fun | n => n⟩
theorem Tryz.lays189 : Go.Proofs.Lays.n189 Tryz.prog Tryz.lays189_ren := {
 mixed := by kernel_rfl
 f125 := Tryz.func59.trans (congrArg some (by kernel_rfl))
 f128 := Tryz.func95.trans (congrArg some (by kernel_rfl))
 f129 := Tryz.func96.trans (congrArg some (by kernel_rfl))
 f189 := Tryz.func31.trans (congrArg some (by kernel_rfl))
 f215 := Tryz.func116.trans (congrArg some (by kernel_rfl))
 f216 := Tryz.func92.trans (congrArg some (by kernel_rfl))
 f257 := Tryz.func58.trans (congrArg some (by kernel_rfl))
 f294 := Tryz.func86.trans (congrArg some (by kernel_rfl))
 f295 := Tryz.func87.trans (congrArg some (by kernel_rfl))
 f296 := Tryz.func88.trans (congrArg some (by kernel_rfl))
 f297 := Tryz.func89.trans (congrArg some (by kernel_rfl))
 f298 := Tryz.func90.trans (congrArg some (by kernel_rfl))
 f299 := Tryz.func91.trans (congrArg some (by kernel_rfl))
 f300 := Tryz.func93.trans (congrArg some (by kernel_rfl))
 f301 := Tryz.func94.trans (congrArg some (by kernel_rfl))
 f328 := Tryz.func129.trans (congrArg some (by kernel_rfl))
 f329 := Tryz.func130.trans (congrArg some (by kernel_rfl))
 f330 := Tryz.func131.trans (congrArg some (by kernel_rfl))
 f331 := Tryz.func132.trans (congrArg some (by kernel_rfl))
 f332 := Tryz.func133.trans (congrArg some (by kernel_rfl))
 f343 := Tryz.func165.trans (congrArg some (by kernel_rfl))
 t0 := Tryz.underlying0
 a0 := Tryz.isAgg0
 z0 := Tryz.sizeOf0
 v0 := Tryz.zeroValue0
 t3 := Tryz.underlying3
 a3 := Tryz.isAgg3
 z3 := Tryz.sizeOf3
 v3 := Tryz.zeroValue3
 t4 := Tryz.underlying4
 a4 := Tryz.isAgg4
 z4 := Tryz.sizeOf4
 v4 := Tryz.zeroValue4
 t5 := Tryz.underlying5
 a5 := Tryz.isAgg5
 z5 := Tryz.sizeOf5
 v5 := Tryz.zeroValue5
 t9 := Tryz.underlying9
 a9 := Tryz.isAgg9
 z9 := Tryz.sizeOf9
 v9 := Tryz.zeroValue9
 t28 := Tryz.underlying31
 a28 := Tryz.isAgg31
 z28 := Tryz.sizeOf31
 v28 := Tryz.zeroValue31
 t46 := Tryz.underlying109
 a46 := Tryz.isAgg109
 z46 := Tryz.sizeOf109
 v46 := Tryz.zeroValue109
 t51 := Tryz.underlying151
 a51 := Tryz.isAgg151
 z51 := Tryz.sizeOf151
 v51 := Tryz.zeroValue151
 t53 := Tryz.underlying153
 a53 := Tryz.isAgg153
 z53 := Tryz.sizeOf153
 v53 := Tryz.zeroValue153
 t131 := Tryz.underlying29
 a131 := Tryz.isAgg29
 z131 := Tryz.sizeOf29
 v131 := Tryz.zeroValue29
 t182 := Tryz.underlying144
 a182 := Tryz.isAgg144
 z182 := Tryz.sizeOf144
 v182 := Tryz.zeroValue144
 t183 := Tryz.underlying145
 a183 := Tryz.isAgg145
 z183 := Tryz.sizeOf145
 v183 := Tryz.zeroValue145
 t218 := Tryz.underlying184
 a218 := Tryz.isAgg184
 z218 := Tryz.sizeOf184
 v218 := Tryz.zeroValue184
 t222 := Tryz.underlying188
 a222 := Tryz.isAgg188
 z222 := Tryz.sizeOf188
 v222 := Tryz.zeroValue188
 t228 := Tryz.underlying210
 a228 := Tryz.isAgg210
 z228 := Tryz.sizeOf210
 v228 := Tryz.zeroValue210
 t229 := Tryz.underlying211
 a229 := Tryz.isAgg211
 z229 := Tryz.sizeOf211
 v229 := Tryz.zeroValue211 }
open Go.Sort Go.RowKit in
theorem Tryz.slices_Sort_int (blk off cap : Nat) (zs : List Int) (w : World) (hH : Holds (Value.int .i64) w blk off zs.toArray) (hblk : blk < w.heap.size) (hsz : zs.length < 4611686018427387904) :
  Calls Tryz.prog 31 #[.slice (some ⟨blk, off, none⟩) zs.length cap] w fun e w' =>
   e = .returned (.tuple #[]) ∧ ∃ n os, w' = grow (putRow (Value.int .i64) (Sort.ahead w n) blk off (zs.mergeSort fun x y => decide (x ≤ y)).toArray) os := Any.slices_Sort_int Tryz.lays189 blk off cap zs w hH hblk hsz
def Tryz.lays108_ren : Go.Shelf.Ren := ⟨fun | 108 => 177 | n => n, fun | 28 => 31 | 3 => 3 | 0 => 0 | 4 => 4 | n => n, fun | n => n⟩
theorem Tryz.lays108 : Go.Proofs.Lays.n108 Tryz.prog Tryz.lays108_ren := {
 mixed := by kernel_rfl
 f108 := Tryz.func177.trans (congrArg some (by kernel_rfl))
 t0 := Tryz.underlying0
 a0 := Tryz.isAgg0
 z0 := Tryz.sizeOf0
 v0 := Tryz.zeroValue0
 t3 := Tryz.underlying3
 a3 := Tryz.isAgg3
 z3 := Tryz.sizeOf3
 v3 := Tryz.zeroValue3
 t4 := Tryz.underlying4
 a4 := Tryz.isAgg4
 z4 := Tryz.sizeOf4
 v4 := Tryz.zeroValue4
 t28 := Tryz.underlying31
 a28 := Tryz.isAgg31
 z28 := Tryz.sizeOf31
 v28 := Tryz.zeroValue31 }
open Go.Lib in
theorem Tryz.slices_Index_int (b off n c : Nat) (zs : List Int) (x : Int) (w : World) (hz : n ≤ zs.length) (hbig : n ≤ 9223372036854775807) (hc : ∀ j, j < zs.length → w.cell? ⟨b, off + j, none⟩ = some (.int .i64 (zs.getD j 0))) :
  Calls Tryz.prog 177 #[.slice (some ⟨b, off, none⟩) n c, .int .i64 x] w fun e w' => e = .returned (.int .i64 (Lib.idxOf (zs.take n) x)) ∧ w' = w := Any.slices_Index_int Tryz.lays108 b off n c zs x w hz hbig hc
def Tryz.lays111_ren : Go.Shelf.Ren := ⟨fun | 111 => 102 | n => n, fun | 28 => 31 | 3 => 3 | 4 => 4 | 0 => 0 | n => n, fun | n => n⟩
theorem Tryz.lays111 : Go.Proofs.Lays.n111 Tryz.prog Tryz.lays111_ren := {
 mixed := by kernel_rfl
 f111 := Tryz.func102.trans (congrArg some (by kernel_rfl))
 t0 := Tryz.underlying0
 a0 := Tryz.isAgg0
 z0 := Tryz.sizeOf0
 v0 := Tryz.zeroValue0
 t3 := Tryz.underlying3
 a3 := Tryz.isAgg3
 z3 := Tryz.sizeOf3
 v3 := Tryz.zeroValue3
 t4 := Tryz.underlying4
 a4 := Tryz.isAgg4
 z4 := Tryz.sizeOf4
 v4 := Tryz.zeroValue4
 t28 := Tryz.underlying31
 a28 := Tryz.isAgg31
 z28 := Tryz.sizeOf31
 v28 := Tryz.zeroValue31 }
open Go.RowKit Go.Lib in
theorem Tryz.slices_Equal_int (b1 o1 n c b2 o2 m d : Nat) (xs ys : List Int) (w : World) (hx : n ≤ xs.length) (hy : m ≤ ys.length) (hbig : n ≤ 9223372036854775807) (hbig2 : m ≤ 9223372036854775807) (hc1 : ∀ j, j < xs.length → w.cell? ⟨b1, o1 + j, none⟩ = some (.int .i64 (xs.getD j 0))) (hc2 : ∀ j, j < ys.length → w.cell? ⟨b2, o2 + j, none⟩ = some (.int .i64 (ys.getD j 0))) :
  Calls Tryz.prog 102 #[.slice (some ⟨b1, o1, none⟩) n c, .slice (some ⟨b2, o2, none⟩) m d] w fun e w' => e = .returned (.bool (xs.take n == ys.take m)) ∧ ∃ q, w' = w.drewN q := Any.slices_Equal_int Tryz.lays111 b1 o1 n c b2 o2 m d xs ys w hx hy hbig hbig2 hc1 hc2
open Go.RowKit Go.Lib in
theorem Tryz.slices_Equal_int_empty (a1 a2 : Option Addr) (c m d : Nat) (w : World) (hbig2 : m ≤ 9223372036854775807) :
  Calls Tryz.prog 102 #[.slice a1 0 c, .slice a2 m d] w fun e w' => e = .returned (.bool (decide (m = 0))) ∧ w' = w := Any.slices_Equal_int_empty Tryz.lays111 a1 a2 c m d w hbig2
def Tryz.laysNm215_ren : Go.Shelf.Ren := ⟨fun | 15 => 138 | n => n, fun | 22 => 31 | 3 => 3 | 4 => 4 | n => n, fun | n => n⟩
theorem Tryz.laysNm215 : Go.Proofs.Lays2.n15 Tryz.prog Tryz.laysNm215_ren := {
 mixed := by kernel_rfl
 f15 := Tryz.func138.trans (congrArg some (by kernel_rfl))
 t3 := Tryz.underlying3
 a3 := Tryz.isAgg3
 z3 := Tryz.sizeOf3
 v3 := Tryz.zeroValue3
 t4 := Tryz.underlying4
 a4 := Tryz.isAgg4
 z4 := Tryz.sizeOf4
 v4 := Tryz.zeroValue4
 t22 := Tryz.underlying31
 a22 := Tryz.isAgg31
 z22 := Tryz.sizeOf31
 v22 := Tryz.zeroValue31
 i3 := by kernel_rfl }
open Go.RowKit Go.Lib in
theorem Tryz.slices_Clone_int (b off n c : Nat) (zs : List Int) (w : World) (hz : n ≤ zs.length) (hbig : n * 8 ≤ 140737488355328) (hc : ∀ j, j < zs.length → w.cell? ⟨b, off + j, none⟩ = some (.int .i64 (zs.getD j 0))) :
  Calls Tryz.prog 138 #[.slice (some ⟨b, off, none⟩) n c] w fun e w' => ∃ v', e = .returned v' ∧ w'.ownsRow w.heap.size 3 1 v' n ((zs.take n).map (Value.int .i64)) ∧ v' ≠ .slice none 0 0 ∧ Below w.heap.size w w' := Any.slices_Clone_int Tryz.laysNm215 b off n c zs w hz hbig hc
open Go.RowKit Go.Lib in
theorem Tryz.slices_Clone_int_nil (n c : Nat) (w : World) :
  Calls Tryz.prog 138 #[.slice none n c] w fun e w' => e = .returned (.slice none 0 0) ∧ w' = w := Any.slices_Clone_int_nil Tryz.laysNm215 n c w
open Go.RowKit Go.Lib in
theorem Tryz.slices_Clone_int_zero (a : Addr) (c : Nat) (w : World) :
  Calls Tryz.prog 138 #[.slice (some a) 0 c] w fun e w' => ∃ v', e = .returned v' ∧ w'.ownsRow w.heap.size 3 1 v' 0 [] ∧ v' ≠ .slice none 0 0 ∧ Below w.heap.size w w' := Any.slices_Clone_int_zero Tryz.laysNm215 a c w
def Tryz.laysNm220_ren : Go.Shelf.Ren := ⟨fun | 20 => 70 | n => n, fun | 22 => 31 | 3 => 3 | 4 => 4 | 0 => 0 | n => n, fun | n => n⟩
theorem Tryz.laysNm220 : Go.Proofs.Lays2.n20 Tryz.prog Tryz.laysNm220_ren := {
 mixed := by kernel_rfl
 f20 := Tryz.func70.trans (congrArg some (by kernel_rfl))
 t0 := Tryz.underlying0
 a0 := Tryz.isAgg0
 z0 := Tryz.sizeOf0
 v0 := Tryz.zeroValue0
 t3 := Tryz.underlying3
 a3 := Tryz.isAgg3
 z3 := Tryz.sizeOf3
 v3 := Tryz.zeroValue3
 t4 := Tryz.underlying4
 a4 := Tryz.isAgg4
 z4 := Tryz.sizeOf4
 v4 := Tryz.zeroValue4
 t22 := Tryz.underlying31
 a22 := Tryz.isAgg31
 z22 := Tryz.sizeOf31
 v22 := Tryz.zeroValue31
 i3 := by kernel_rfl }
open Go.RowKit Go.Lib Go.Sort in
theorem Tryz.slices_Compact_int (blk off cap : Nat) (zs : List Int) (w : World) (hH : Holds (Value.int .i64) w blk off zs.toArray) (hsz : zs.length ≤ 9223372036854775807) (hcap : zs.length ≤ cap) :
  Calls Tryz.prog 70 #[.slice (some ⟨blk, off, none⟩) zs.length cap] w fun e w' => e = .returned (.slice (some ⟨blk, off, none⟩) (Lib.compact zs).length cap) ∧ ∃ q, w' = putRow (Value.int .i64) (Sort.ahead w q) blk off (Lib.compact zs ++ List.replicate (zs.length - (Lib.compact zs).length) 0).toArray := Any.slices_Compact_int Tryz.laysNm220 blk off cap zs w hH hsz hcap
open Go.RowKit Go.Lib Go.Sort in
theorem Tryz.slices_Compact_int_empty (a : Option Addr) (cap : Nat) (w : World) :
  Calls Tryz.prog 70 #[.slice a 0 cap] w fun e w' => e = .returned (.slice a 0 cap) ∧ w' = w := Any.slices_Compact_int_empty Tryz.laysNm220 a cap w
def Tryz.laysNm225_ren : Go.Shelf.Ren := ⟨fun | 25 => 97 | 31 => 92 | 32 => 134 | 37 => 116 | n => n, fun | 22 => 31 | 3 => 3 | 4 => 4 | 40 => 109 | 0 => 0 | n => n, fun | n => n⟩
theorem Tryz.laysNm225 : Go.Proofs.Lays2.n25 Tryz.prog Tryz.laysNm225_ren := {
 mixed := by kernel_rfl
 f25 := Tryz.func97.trans (congrArg some (by kernel_rfl))
 f31 := Tryz.func92.trans (congrArg some (by kernel_rfl))
 f32 := Tryz.func134.trans (congrArg some (by kernel_rfl))
 f37 := Tryz.func116.trans (congrArg some (by kernel_rfl))
 t0 := Tryz.underlying0
 a0 := Tryz.isAgg0
 z0 := Tryz.sizeOf0
 v0 := Tryz.zeroValue0
 t3 := Tryz.underlying3
 a3 := Tryz.isAgg3
 z3 := Tryz.sizeOf3
 v3 := Tryz.zeroValue3
 t4 := Tryz.underlying4
 a4 := Tryz.isAgg4
 z4 := Tryz.sizeOf4
 v4 := Tryz.zeroValue4
 t22 := Tryz.underlying31
 a22 := Tryz.isAgg31
 z22 := Tryz.sizeOf31
 v22 := Tryz.zeroValue31
 t40 := Tryz.underlying109
 a40 := Tryz.isAgg109
 z40 := Tryz.sizeOf109
 v40 := Tryz.zeroValue109 }
open Go.RowKit Go.Lib in
theorem Tryz.slices_BinarySearch_int (b off n c : Nat) (zs : List Int) (x : Int) (w : World) (hz : n ≤ zs.length) (hbig : n < 4611686018427387904) (hc : ∀ j, j < zs.length → w.cell? ⟨b, off + j, none⟩ = some (.int .i64 (zs.getD j 0))) (hs : (zs.take n).Pairwise (· ≤ ·)) :
  Calls Tryz.prog 97 #[.slice (some ⟨b, off, none⟩) n c, .int .i64 x] w fun e w' => e = .returned (.tuple #[.int .i64 ((zs.take n).countP (· < x) : Nat), .bool ((zs.take n).contains x)]) ∧ ∃ q, w' = w.drewN q := Any.slices_BinarySearch_int Tryz.laysNm225 b off n c zs x w hz hbig hc hs
open Go.RowKit Go.Sort in
theorem Tryz.slices_Sort_int_none (p : Option Addr) (cap : Nat) (w : World) :
  Calls Tryz.prog 31 #[.slice p 0 cap] w fun e w' => e = .returned (.tuple #[]) ∧ w' = w := Any.slices_Sort_int_none Tryz.lays189 p cap w
open Go.RowKit Go.Lib in
theorem Tryz.slices_BinarySearch_int_empty (a : Option Addr) (c : Nat) (x : Int) (w : World) :
  Calls Tryz.prog 97 #[.slice a 0 c, .int .i64 x] w fun e w' => e = .returned (.tuple #[.int .i64 0, .bool false]) ∧ w' = w := Any.slices_BinarySearch_int_empty Tryz.laysNm225 a c x w
open Go.RowKit Go.Lib in
theorem Tryz.slices_Equal_int_lens (a1 a2 : Option Addr) (n c m d : Nat) (w : World) (hnm : n ≠ m) :
  Calls Tryz.prog 102 #[.slice a1 n c, .slice a2 m d] w fun e w' => e = .returned (.bool false) ∧ w' = w := Any.slices_Equal_int_lens Tryz.lays111 a1 a2 n c m d w hnm
end Go.Proofs
