/- The document's way to a plan's error: keys first, then groups that are told anew; it is plan.Right's. No program here. -/
import Derived.Test.YtfgbkpbakignhaaGreatVSetsC
import Derived.Test.YtfgbkpbakignhaaGreatVRefS
import Derived.Test.YtfgbkpbakignhaaGreatVLookP
import Derived.Test.YtfgbkpbakignhaaGreatVWake
namespace Go.Proofs.YtfgbkpbakignhaaGreat

namespace Plain
theorem heads_one {s : St} (hs : s.Ok) : s.count ≤ 1 ↔ ∀ i j, i < s.grp.length → j < s.grp.length → s.hd i = s.hd j := by
 have hc : s.count = ((List.range s.grp.length).filter fun i => s.grp.getD i 0 == i).length := by unfold St.count; rw [List.countP_eq_length_filter]
 have hn : ((List.range s.grp.length).filter fun i => s.grp.getD i 0 == i).Nodup := List.nodup_range.filter _
 have hm : ∀ i, i ∈ ((List.range s.grp.length).filter fun i => s.grp.getD i 0 == i) ↔ i < s.grp.length ∧ s.hd i = i := fun i => by
  rw [List.mem_filter, List.mem_range]; unfold St.hd; simp
 rw [hc]
 generalize ((List.range s.grp.length).filter fun i => s.grp.getD i 0 == i) = L at *
 constructor
 ·intro h i j hi hj
  have h1 := (hm (s.hd i)).2 ⟨Nat.lt_of_le_of_lt (hs.le i hi) hi, hs.own i hi⟩
  have h2 := (hm (s.hd j)).2 ⟨Nat.lt_of_le_of_lt (hs.le j hj) hj, hs.own j hj⟩
  match L, h with
  | [], _ => simp at h1
  | [a], _ => rw [List.mem_singleton.1 h1, List.mem_singleton.1 h2]
  | a :: b :: l, h => simp at h
 ·intro h
  match L, hn with
  | [], _ => simp
  | [a], _ => simp
  | a :: b :: l, hn =>
   have h1 := (hm a).1 (by simp)
   have h2 := (hm b).1 (by simp)
   have := h a b h1.1 h2.1
   have e : a = b := by rw [← h1.2, ← h2.2]; exact this
   rw [e] at hn
   simp at hn

def keysOk (ow : Int → Option Int) (l : List Int) (met : List Int) (k : Nat) : Prop :=
 ∀ i, i < k → (ow (l.getD i 0)).isSome = true ∧ l.getD i 0 ∉ met ++ l.take i ∧ (0 < i → l.getD (i - 1) 0 < l.getD i 0)
instance (ow : Int → Option Int) (l met : List Int) (k : Nat) : Decidable (keysOk ow l met k) := by unfold keysOk; infer_instance
theorem keysOk_succ {ow : Int → Option Int} {l met : List Int} {k : Nat} : keysOk ow l met (k + 1) ↔ keysOk ow l met k ∧ ((ow (l.getD k 0)).isSome = true ∧ l.getD k 0 ∉ met ++ l.take k ∧ (0 < k → l.getD (k - 1) 0 < l.getD k 0)) := by
 unfold keysOk
 constructor
 ·exact fun h => ⟨fun i hi => h i (by omega), h k (by omega)⟩
 ·rintro ⟨h1, h2⟩ i hi
  by_cases e : i = k
  ·rw [e]; exact h2
  ·exact h1 i (by omega)

def grpStep (a b : Nat) (grp : List Nat) : List Nat := grp.map fun x => if x = b then a else x
def grpAt (ow : Int → Option Int) (grp : List Nat) (key : Int) : Nat := grp.getD ((ow key).getD 0).toNat 0
def joinRun (ow : Int → Option Int) (l : List Int) (grp : List Nat) : Nat → Option (List Nat)
 | 0 => some grp
 | k + 1 => (joinRun ow l grp k).bind fun q => if k = 0 then some q else if grpAt ow q (l.getD 0 0) = grpAt ow q (l.getD k 0) then none else some (grpStep (grpAt ow q (l.getD 0 0)) (grpAt ow q (l.getD k 0)) q)

structure Alike (n : Nat) (s : St) (grp : List Nat) : Prop where
 ok : s.Ok
 all : s.all = upTo n
 len : grp.length = n
 same : ∀ i j, i < n → j < n → (grp.getD i 0 = grp.getD j 0 ↔ s.hd i = s.hd j)

theorem idx_upTo {n i : Nat} (hi : i < n) : (upTo n).idxOf (i : Int) = i := by
 have hn : (upTo n).Nodup := by unfold upTo; exact List.Pairwise.map _ (fun a b hab => by omega) (List.nodup_range (n := n))
 have hl : (upTo n).length = n := by simp [upTo]
 have e : (upTo n).getD i 0 = (i : Int) := by simp [upTo, List.getD, hi]
 have := idxOf_at hn (i := i) (by rw [hl]; exact hi)
 rwa [e] at this

theorem Alike.start (n : Nat) : Alike n (St.new (upTo n)) (List.range n) := by
 have h := (PlanOk.start (fun _ => none) n)
 refine ⟨h.ok, h.all, by simp, fun i j hi hj => ?_⟩
 rw [St.new_upTo]
 rfl

theorem Alike.join {n : Nat} {s : St} {grp : List Nat} (h : Alike n s grp) {a b : Int} (ha : 0 ≤ a ∧ a < n) (hb : 0 ≤ b ∧ b < n) :
  (s.joins a b = true ↔ grp.getD a.toNat 0 ≠ grp.getD b.toNat 0) ∧ Alike n (s.join a b) (grpStep (grp.getD a.toNat 0) (grp.getD b.toNat 0) grp) := by
 obtain ⟨p, rfl⟩ : ∃ p : Nat, a = p := ⟨a.toNat, by omega⟩
 obtain ⟨q, rfl⟩ : ∃ q : Nat, b = q := ⟨b.toNat, by omega⟩
 have hp : p < n := by omega
 have hq : q < n := by omega
 have ma : ((p : Nat) : Int) ∈ s.all := by rw [h.all, mem_upTo]; omega
 have mb : ((q : Nat) : Int) ∈ s.all := by rw [h.all, mem_upTo]; omega
 obtain ⟨e1, e2⟩ := St.join_in ma mb
 have i1 : s.all.idxOf (p : Int) = p := by rw [h.all]; exact idx_upTo hp
 have i2 : s.all.idxOf (q : Int) = q := by rw [h.all]; exact idx_upTo hq
 rw [i1, i2] at e1 e2
 have hgl : s.grp.length = n := by rw [← h.ok.len, h.all]; simp [upTo]
 rw [Int.toNat_natCast, Int.toNat_natCast]
 refine ⟨by rw [e2, bne_iff_ne, ne_eq, ne_eq, h.same p q hp hq], ?_⟩
 refine ⟨h.ok.join _ _, by rw [e1]; exact h.all, by unfold grpStep; rw [List.length_map]; exact h.len, fun i j hi hj => ?_⟩
 have g1 : ∀ x, x < n → (grpStep (grp.getD p 0) (grp.getD q 0) grp).getD x 0 = if grp.getD x 0 = grp.getD q 0 then grp.getD p 0 else grp.getD x 0 := fun x hx => by
  unfold grpStep
  rw [getD_map _ _ _ (by rw [h.len]; exact hx)]
 have g2 : ∀ x, x < n → (s.join p q).hd x = if s.hd x = max (s.hd p) (s.hd q) then min (s.hd p) (s.hd q) else s.hd x := fun x hx => by
  rw [e1]
  unfold St.hd relabel
  rw [getD_map _ _ _ (by rw [hgl]; exact hx)]
 rw [g1 i hi, g1 j hj, g2 i hi, g2 j hj]
 have s1 := h.same i q hi hq
 have s2 := h.same j q hj hq
 have s3 := h.same i p hi hp
 have s4 := h.same j p hj hp
 have s5 := h.same i j hi hj
 have s6 := h.same p q hp hq
 generalize grp.getD i 0 = x1 at *
 generalize grp.getD j 0 = x2 at *
 generalize grp.getD p 0 = x3 at *
 generalize grp.getD q 0 = x4 at *
 generalize s.hd i = y1 at *
 generalize s.hd j = y2 at *
 generalize s.hd p = y3 at *
 generalize s.hd q = y4 at *
 clear e1 e2 g1 g2 i1 i2 ma mb
 rcases Nat.le_total y3 y4 with q1 | q1
 ·rw [Nat.max_eq_right q1, Nat.min_eq_left q1]
  split <;> split <;> split <;> split <;> omega
 ·rw [Nat.max_eq_left q1, Nat.min_eq_right q1]
  split <;> split <;> split <;> split <;> omega

theorem list_alike {ow : Int → Option Int} {n : Nat} {l : List Int} {c : St × List Int} {grp : List Nat} (hb : ∀ y a, ow y = some a → 0 ≤ a ∧ a < n) (hA : Alike n c.1 grp) : ∀ k, k ≤ l.length →
  (∀ d, listRun ow l c k = some d → keysOk ow l c.2 k ∧ d.2 = c.2 ++ l.take k ∧ ∃ q, joinRun ow l grp k = some q ∧ Alike n d.1 q) ∧ (listRun ow l c k = none → ¬ keysOk ow l c.2 k ∨ joinRun ow l grp k = none)
 | 0, _ => ⟨fun d h => by cases h; exact ⟨fun i hi => by omega, by simp, grp, rfl, hA⟩, fun h => by cases h⟩
 | k + 1, hk => by
  obtain ⟨i1, i2⟩ := list_alike (l := l) hb hA k (by omega)
  have e1 : listRun ow l c (k + 1) = (listRun ow l c k).bind (keyStep ow l k) := rfl
  cases hm : listRun ow l c k with
  | none =>
   rw [hm] at e1
   refine ⟨fun d h => (by rw [e1] at h; cases h), fun _ => ?_⟩
   rcases i2 hm with h | h
   ·exact Or.inl fun q => h (keysOk_succ.1 q).1
   ·refine Or.inr ?_
    show (joinRun ow l grp k).bind _ = none
    rw [h]; rfl
  | some m =>
   rw [hm] at e1
   have e1 : listRun ow l c (k + 1) = keyStep ow l k m := e1
   obtain ⟨h1, h2, q, h3, h4⟩ := i1 m hm
   have ej : joinRun ow l grp (k + 1) = if k = 0 then some q else if grpAt ow q (l.getD 0 0) = grpAt ow q (l.getD k 0) then none else some (grpStep (grpAt ow q (l.getD 0 0)) (grpAt ow q (l.getD k 0)) q) := by
    show (joinRun ow l grp k).bind _ = _
    rw [h3]; rfl
   have hfirst : 0 < k → ∃ b, ow (l.getD 0 0) = some b := fun h0 => Option.isSome_iff_exists.1 (h1 0 h0).1
   have htk : l.take (k + 1) = l.take k ++ [l.getD k 0] := take_snoc (by omega)
   constructor
   ·intro d hd
    rw [e1] at hd
    obtain ⟨a, ha, g1, g2, g3, g4⟩ := keyStep_some hd
    refine ⟨keysOk_succ.2 ⟨h1, by rw [ha]; rfl, by rw [← h2]; exact g1, g2⟩, by rw [g3, h2, htk, List.append_assoc], ?_⟩
    rcases g4 with ⟨rfl, e⟩ | ⟨h0, hj, e⟩
    ·exact ⟨q, by rw [ej, if_pos rfl], by rw [e]; exact h4⟩
    ·obtain ⟨b, hob⟩ := hfirst h0
     rw [hob] at hj e
     obtain ⟨w1, w2⟩ := h4.join (hb _ _ hob) (hb _ _ ha)
     have hne := w1.1 hj
     have ea : grpAt ow q (l.getD 0 0) = q.getD b.toNat 0 := by unfold grpAt; rw [hob]; rfl
     have eb : grpAt ow q (l.getD k 0) = q.getD a.toNat 0 := by unfold grpAt; rw [ha]; rfl
     refine ⟨_, by rw [ej, if_neg (by omega), ea, eb, if_neg hne], ?_⟩
     rw [e]
     exact w2
   ·intro hd
    rw [e1] at hd
    by_cases hok : keysOk ow l c.2 (k + 1)
    ·right
     obtain ⟨-, o1, o2, o3⟩ := keysOk_succ.1 hok
     obtain ⟨a, ha⟩ := Option.isSome_iff_exists.1 o1
     rw [← h2] at o2
     by_cases h0 : k = 0
     ·subst h0
      rw [keyStep_first ha o2] at hd
      cases hd
     ·obtain ⟨b, hob⟩ := hfirst (by omega)
      obtain ⟨w1, w2⟩ := h4.join (hb _ _ hob) (hb _ _ ha)
      have ea : grpAt ow q (l.getD 0 0) = q.getD b.toNat 0 := by unfold grpAt; rw [hob]; rfl
      have eb : grpAt ow q (l.getD k 0) = q.getD a.toNat 0 := by unfold grpAt; rw [ha]; rfl
      rw [ej, if_neg h0, ea, eb]
      by_cases hj : m.1.joins b a = true
      ·rw [keyStep_join (by omega) ha o2 (o3 (by omega)) (by rw [hob]; rfl) hj] at hd
       cases hd
      ·have : ¬ q.getD b.toNat 0 ≠ q.getD a.toNat 0 := fun x => hj (w1.2 x)
       rw [if_pos (by omega)]
    ·exact Or.inl hok

def refRun (ow : Int → Option Int) (same : List (List Int)) (st : List Nat × List Int) : Nat → Option (List Nat × List Int)
 | 0 => some st
 | i + 1 => (refRun ow same st i).bind fun c => if listBad same i then none else if keysOk ow (same.getD i []) c.2 (same.getD i []).length then (joinRun ow (same.getD i []) c.1 (same.getD i []).length).map fun q => (q, c.2 ++ same.getD i []) else none

theorem run_alike {ow : Int → Option Int} {n : Nat} {same : List (List Int)} (hb : ∀ y a, ow y = some a → 0 ≤ a ∧ a < n) : ∀ i,
  (∀ d, sameRun ow same (St.new (upTo n), []) i = some d → ∃ q, refRun ow same (List.range n, []) i = some (q, d.2) ∧ Alike n d.1 q) ∧ (sameRun ow same (St.new (upTo n), []) i = none → refRun ow same (List.range n, []) i = none)
 | 0 => ⟨fun d h => by cases h; exact ⟨_, rfl, Alike.start n⟩, fun h => by cases h⟩
 | i + 1 => by
  obtain ⟨i1, i2⟩ := run_alike (same := same) hb i
  have e1 : sameRun ow same (St.new (upTo n), []) (i + 1) = (sameRun ow same (St.new (upTo n), []) i).bind fun c => if listBad same i then none else listRun ow (same.getD i []) c (same.getD i []).length := rfl
  have e2 : refRun ow same (List.range n, []) (i + 1) = (refRun ow same (List.range n, []) i).bind fun c => if listBad same i then none else if keysOk ow (same.getD i []) c.2 (same.getD i []).length then (joinRun ow (same.getD i []) c.1 (same.getD i []).length).map fun q => (q, c.2 ++ same.getD i []) else none := rfl
  cases hm : sameRun ow same (St.new (upTo n), []) i with
  | none =>
   rw [hm] at e1
   rw [i2 hm] at e2
   exact ⟨fun d h => (by rw [e1] at h; cases h), fun _ => e2⟩
  | some m =>
   obtain ⟨q, hq, hA⟩ := i1 m hm
   rw [hm] at e1
   rw [hq] at e2
   have e1 : sameRun ow same (St.new (upTo n), []) (i + 1) = if listBad same i then none else listRun ow (same.getD i []) m (same.getD i []).length := e1
   have e2 : refRun ow same (List.range n, []) (i + 1) = if listBad same i then none else if keysOk ow (same.getD i []) m.2 (same.getD i []).length then (joinRun ow (same.getD i []) q (same.getD i []).length).map fun x => (x, m.2 ++ same.getD i []) else none := e2
   by_cases hbad : listBad same i
   ·rw [if_pos hbad] at e1 e2
    exact ⟨fun d h => (by rw [e1] at h; cases h), fun _ => e2⟩
   ·rw [if_neg hbad] at e1 e2
    obtain ⟨l1, l2⟩ := list_alike (l := same.getD i []) hb hA _ (Nat.le_refl _)
    constructor
    ·intro d h
     rw [e1] at h
     obtain ⟨k1, k2, r, k3, k4⟩ := l1 d h
     rw [List.take_length] at k2
     exact ⟨r, by rw [e2, if_pos k1, k3, k2]; rfl, k4⟩
    ·intro h
     rw [e1] at h
     rw [e2]
     rcases l2 h with k | k
     ·rw [if_neg k]
     ·split
      ·rw [k]; rfl
      ·rfl

def apartGrp (grp : List Nat) : Prop := ∃ i, i < grp.length ∧ grp.getD i 0 ≠ grp.getD 0 0

open Classical in
theorem planErr_ref {g : Gr} {p : Pt} {turn same : List (List Int)} (h : flatErr g p turn = 0) (hp : PartOk g p) (hW : WalksOk g p turn (walksOf g p turn)) :
  planErr g p turn same = match refRun (ownerOf g p (walksOf g p turn)) same (List.range (roots g p).length, []) same.length with
   | none => 7
   | some c => if apartGrp c.1 then 7 else 0 := by
 rw [planErr_run h]
 have hb : ∀ y a, ownerOf g p (walksOf g p turn) y = some a → 0 ≤ a ∧ a < ((roots g p).length : Int) := fun y a ha => ownerOf_lt hp hW ha
 obtain ⟨r1, r2⟩ := run_alike (same := same) hb same.length
 cases hm : sameRun (ownerOf g p (walksOf g p turn)) same (St.new (upTo (roots g p).length), []) same.length with
 | none => rw [r2 hm]
 | some d =>
  obtain ⟨q, hq, hA⟩ := r1 d hm
  rw [hq]
  dsimp only
  have hgl : d.1.grp.length = (roots g p).length := by rw [← hA.ok.len, hA.all]; simp [upTo]
  have : 1 < d.1.count ↔ apartGrp q := by
   rw [← Nat.not_le, heads_one hA.ok]
   constructor
   ·intro hx
    refine Classical.byContradiction fun hno => hx fun i j hi hj => ?_
    rw [hgl] at hi hj
    have e : ∀ x, x < (roots g p).length → q.getD x 0 = q.getD 0 0 := fun x hx => Classical.byContradiction fun y => hno ⟨x, by rw [hA.len]; exact hx, y⟩
    exact (hA.same i j hi hj).1 ((e i hi).trans (e j hj).symm)
   ·rintro ⟨i, hi, hne⟩ hall
    rw [hA.len] at hi
    exact hne ((hA.same i 0 hi (by omega)).2 (hall i 0 (by omega) (by omega)))
  by_cases hx : 1 < d.1.count
  ·rw [if_pos hx, if_pos (this.1 hx)]
  ·rw [if_neg hx, if_neg fun y => hx (this.2 y)]
end Plain
end Go.Proofs.YtfgbkpbakignhaaGreat
/- ref08.find, Owner: contracts; the document's way to a plan's error, step by step. Conditions: walks, pieces that lie in memory and read so. -/
namespace Go.Proofs.YtfgbkpbakignhaaGreat
open Go.RowKit Go.Maps

namespace Plain
theorem key_one {W : List Face} (hk : (W.map (·.1)).Pairwise (· < ·)) {f f' : Face} (hf : f ∈ W) (hf' : f' ∈ W) (e : f.1 = f'.1) : f = f' := by
 obtain ⟨i, hi, rfl⟩ := List.getElem_of_mem hf
 obtain ⟨j, hj, rfl⟩ := List.getElem_of_mem hf'
 rw [List.pairwise_map, List.pairwise_iff_getElem] at hk
 rcases Nat.lt_trichotomy i j with h | h | h
 ·have := hk i j hi hj h; omega
 ·subst h; rfl
 ·have := hk j i hj hi h; omega

def keyAt (W : List Face) (key : Int) : Option Nat := W.findIdx? fun f => decide (f.1 = key)
theorem keyAt_hit {W : List Face} {key : Int} {k : Nat} (hk : k < W.length) (h : ∀ i, i < k → (W.getD i (0, [])).1 ≠ key) (hin : (W.getD k (0, [])).1 = key) : keyAt W key = some k := by
 unfold keyAt
 rw [List.findIdx?_eq_some_iff_getElem]
 refine ⟨hk, decide_eq_true (by simpa [List.getD, hk] using hin), fun j hj => ?_⟩
 have := h j hj
 have hjl : j < W.length := by omega
 simpa [List.getD, hjl] using this
theorem keyAt_no {W : List Face} {key : Int} (h : ∀ i, i < W.length → (W.getD i (0, [])).1 ≠ key) : keyAt W key = none := by
 unfold keyAt
 rw [List.findIdx?_eq_none_iff]
 intro f hf
 obtain ⟨i, hi, rfl⟩ := List.getElem_of_mem hf
 have := h i hi
 simpa [List.getD, hi] using this
theorem keyAt_some {W : List Face} {key : Int} {k : Nat} (h : keyAt W key = some k) : k < W.length ∧ (W.getD k (0, [])).1 = key := by
 unfold keyAt at h
 rw [List.findIdx?_eq_some_iff_getElem] at h
 obtain ⟨h1, h2, -⟩ := h
 exact ⟨h1, by simpa [List.getD, h1] using h2⟩
theorem owner_keyAt {g : Gr} {p : Pt} {W : List Face} (hk : (W.map (·.1)).Pairwise (· < ·)) {key : Int} :
  (keyAt W key = none → ownerOf g p W key = none) ∧ ∀ k, keyAt W key = some k → ownerOf g p W key = some ((pieceIx g p ((W.getD k (0, [])).corner g) : Nat) : Int) := by
 constructor
 ·intro h
  unfold keyAt at h
  rw [List.findIdx?_eq_none_iff] at h
  unfold ownerOf
  rw [List.find?_eq_none.2 (fun f hf => by simpa using h f hf)]
  rfl
 ·intro k h
  obtain ⟨h1, h2⟩ := keyAt_some h
  have hm : W.getD k (0, []) ∈ W := by simp [List.getD, h1]
  unfold ownerOf
  cases hf : W.find? fun f => decide (f.1 = key) with
  | none =>
   rw [List.find?_eq_none] at hf
   exact absurd (decide_eq_true h2) (hf _ hm)
  | some f =>
   have e : f.1 = key := by have := List.find?_some hf; simpa using this
   have := key_one hk (List.mem_of_find?_eq_some hf) hm (e.trans h2.symm)
   rw [this]; rfl

theorem pieceIx_hit {g : Gr} {p : Pt} {v : Int} {k : Nat} (hk : k < (roots g p).length) (h : ∀ i, i < k → v ∉ comp g p ((roots g p).getD i 0)) (hin : v ∈ comp g p ((roots g p).getD k 0)) : pieceIx g p v = k := by
 unfold pieceIx
 rw [List.findIdx_eq hk]
 refine ⟨decide_eq_true (by simpa [List.getD, hk] using hin), fun j hj => ?_⟩
 have hjl : j < (roots g p).length := by omega
 have := h j hj
 simpa [List.getD, hjl] using this
end Plain

set_option maxRecDepth 100000 in
set_option maxHeartbeats 2000000 in
theorem refFind_any (ov : Value) (W : List Plain.Face) (xs : List Value) (key : Int) (B : Nat) (w : World) (hl : W.length < 1000000000) (h : Nest w B 66 2 ov W.length xs (faceCells W)) :
  Calls Tryz.prog 36 #[ov, .int .i64 key] w fun e w' => e = .returned (.int .i64 (ixOf (Plain.keyAt W key))) ∧ Chg [] w w' := by
 have HN := Lib.hid h
 obtain ⟨oo, oc, rfl⟩ := h.shape
 clear h
 go_enter Tryz.func36, Tryz.ntmps36
 go_wp2
 go_loopw [5] (fun c wr => ∃ k : Nat, k ≤ W.length ∧ c = .int .i64 k ∧ Hid (∀ i, i < k → (W.getD i (0, [])).1 ≠ key) ∧ Chg [] w wr) (fun c _ => W.length - (intOf c).toNat)
 case atStart => exact ⟨0, Nat.zero_le _, rfl, Lib.hid (by omega), Chg.refl _ _⟩
 case round =>
  obtain ⟨k, hk, rfl, hno, hc⟩ := hrel
  have HC := Lib.hid hc
  by_cases hlt : k < W.length
  ·obtain ⟨wg, wcc, fa, fc, ewo, m0, -, -⟩ := nest_face HN.out rfl hlt
   simp only [Value.slice.injEq] at ewo
   obtain ⟨rfl, -, rfl⟩ := ewo
   have f0 := hc.cell m0 (by simp)
   have HH := Lib.hid (fun h => Plain.keyAt_hit (key := key) hlt hno.out h)
   have HNO := Lib.hid (fun (h : (W.getD k (0, [])).1 ≠ key) i (hi : i < k + 1) => show (W.getD i (0, [])).1 ≠ key from by
    by_cases e : i = k
    ·rw [e]; exact h
    ·exact hno.out i (by omega))
   obtain ⟨z, hz⟩ : ∃ z, (W.getD k (0, [])).1 = z := ⟨_, rfl⟩
   rw [hz] at f0 HH HNO
   clear m0 hc hz
   by_cases q : z = key
   ·have b1 : (z == key) = true := by rw [beq_iff_eq]; exact q
    have HE := Lib.hid (HH.out q)
    clear q
    go_wp2
    go_ret
    exact ⟨ret_int (by rw [HE.out]; rfl), HC.out⟩
   ·have b1 : (z == key) = false := by rw [beq_eq_false_iff_ne]; exact q
    have HE := Lib.hid (HNO.out q)
    clear q
    go_wp2
    go_roundw
    case rel => exact ⟨k + 1, by omega, by go_num, HE, HC.out⟩
    case measure => simp [intOf]; omega
  ·have e : k = W.length := by omega
   subst e
   have HE := Lib.hid (Plain.keyAt_no hno.out)
   clear hc
   go_wp2
   go_ret
   exact ⟨ret_int (by rw [HE.out]; rfl), HC.out⟩

set_option maxRecDepth 100000 in
set_option maxHeartbeats 4000000 in
theorem refOwner_any (vg pv : Value) (g : Plain.Gr) (p : Plain.Pt) (turn : List (List Int)) (f : Plain.Face) (u : Value) (px : List Value) (B : Nat) (w : World) (hpv : p.v.length ≤ 1000) (hpe : p.err g = 0) (hW : Plain.WalksOk g p turn (Plain.walksOf g p turn)) (hf : f ∈ Plain.walksOf g p turn) (hu : ∃ a n c, u = .slice a n c) (hg : GrAt w vg g) {nn : Nat} (hnn : nn = (Plain.roots g p).length)
  (hn : Nest w B 27 2 pv nn px (pcs (Plain.comp g p) (fun r => (p.sub g (Plain.comp g p r)).e) (Plain.roots g p))) :
  Calls Tryz.prog 37 #[vg, pv, .agg #[.int .i64 f.1, u]] w fun e w' => e = .returned (.int .i64 (Plain.pieceIx g p (f.corner g) : Nat)) ∧ Chg [] w w' := by
 subst hnn
 have HPO := Plain.Pt.ok_of_err hpe
 have hcm := Plain.corner_mem HPO hW.faces f hf
 have hex := Plain.root_of (g := g) (fun v hv => (HPO.vr v hv).1) hcm
 have HHIT := Lib.hid (fun k hk h hin => Plain.pieceIx_hit (g := g) (p := p) (v := f.corner g) (k := k) hk h hin)
 have HEX := Lib.hid (show ∃ i, i < (Plain.roots g p).length ∧ f.corner g ∈ Plain.comp g p ((Plain.roots g p).getD i 0) from by
  obtain ⟨r, hr, hc⟩ := hex
  obtain ⟨i, hi, rfl⟩ := Plain.mem_getD hr
  exact ⟨i, hi, Plain.mem_comp.2 ⟨hcm, hc⟩⟩)
 have hrl2 : (Plain.roots g p).length ≤ 1000 := by rw [← Plain.rootsTo_all]; exact Nat.le_trans (Plain.rootsTo_len g p _) hpv
 have HG := Lib.hid hg
 have HN := Lib.hid hn
 have HPE := Lib.hid hpe
 have HW := Lib.hid hW
 have HF := Lib.hid hf
 obtain ⟨po, pc, rfl⟩ := hn.shape
 obtain ⟨ua, un, uc, rfl⟩ := hu
 obtain ⟨eo, cap, rfl, -, -, -, -⟩ := hg
 obtain ⟨hb1, hb2, hc1⟩ := box_two w #[.int .i64 g.n, .slice eo g.e.length cap] #[.int .i64 f.1, .slice ua un uc] 24 66
 have X0 := Lib.hid ((cell_of_row _ _ 0 _ _ _ hb1).trans (show _ = some (Value.int .i64 g.n) from rfl))
 have X1 := Lib.hid ((cell_of_row _ _ 1 _ _ _ hb1).trans (show _ = some (Value.slice eo g.e.length cap) from rfl))
 have Y0 := Lib.hid ((cell_of_row _ _ 0 _ _ _ hb2).trans (show _ = some (Value.int .i64 f.1) from rfl))
 have Y1 := Lib.hid ((cell_of_row _ _ 1 _ _ _ hb2).trans (show _ = some (Value.slice ua un uc) from rfl))
 have HC1 := Lib.hid hc1
 obtain ⟨R, hR⟩ : ∃ R, Plain.roots g p = R := ⟨_, rfl⟩
 rw [hR] at HHIT HEX hrl2 HN ⊢
 clear HPO hcm hex hn hpe hW hf hb1 hb2 hc1 hR
 go_enter Tryz.func37, Tryz.ntmps37
 go_wp2
 generalize ((w.alloc (.cells #[.int .i64 g.n, .slice eo g.e.length cap] 24)).alloc (.cells #[.int .i64 f.1, .slice ua un uc] 66)) = w1 at *
 go_loopw [7] (fun c wr => ∃ k : Nat, k ≤ R.length ∧ c = .int .i64 k ∧ Hid (∀ i, i < k → f.corner g ∉ Plain.comp g p (R.getD i 0)) ∧ Chg [] w1 wr) (fun c _ => R.length - (intOf c).toNat)
 case atStart => exact ⟨0, Nat.zero_le _, rfl, Lib.hid (by omega), Chg.refl _ _⟩
 case round =>
  obtain ⟨k, hk, rfl, hno, hc⟩ := hrel
  have HC := Lib.hid hc
  have HCW := Lib.hid (HC1.out.trans hc (by simp))
  by_cases hlt : k < R.length
  ·obtain ⟨pg, pcc, va, vc, ea, ec, epo, n0, n1, nr0, -⟩ := nest_pair HN.out rfl hlt
   simp only [Value.slice.injEq] at epo
   obtain ⟨rfl, -, rfl⟩ := epo
   have p0 := HCW.out.cell n0 (by simp)
   have x0 := hc.cell X0.out (by simp)
   have x1 := hc.cell X1.out (by simp)
   have y0 := hc.cell Y0.out (by simp)
   have y1 := hc.cell Y1.out (by simp)
   have NR := Lib.hid nr0
   have HH := Lib.hid (fun h => HHIT.out k hlt hno.out h)
   have HNO := Lib.hid (fun (h : f.corner g ∉ Plain.comp g p (R.getD k 0)) i (hi : i < k + 1) => show f.corner g ∉ Plain.comp g p (R.getD i 0) from by
    by_cases e : i = k
    ·rw [e]; exact h
    ·exact hno.out i (by omega))
   obtain ⟨C, hC⟩ : ∃ C, Plain.comp g p (R.getD k 0) = C := ⟨_, rfl⟩
   rw [hC] at p0 NR HH HNO
   clear n0 n1 nr0 hc hC
   go_wp2
   have hS0 : Chg [] wr wr.drew := (Chg.refl [] wr).drew
   refine wp_region_way (Chg [] wr) [0, 1, 2, 3, 4, 5, 6] (Way.line [0, 1, 2, 3, 4, 5, 6, 7, 8] .done) (by kernel_rfl) (by kernel_rfl) ?_
   simp only [Way.line]
   repeat
    first
     | (refine along_off rfl (by rfl) (by rfl) (fun _ _ _ h => h) hS0 ?_; simp only [Act.put, List.getElem_toArray, List.getElem_cons_zero, List.getElem_cons_succ, List.setIfInBounds_toArray, List.set_cons_zero, List.set_cons_succ])
     | (refine along_read (v := ?_) rfl (by rfl) (by rfl) (fun _ _ _ h => h) hS0 (fun w' hS' => ?_) ?_; rotate_left; (focus (have rd0 := hS'.cell x0 (by simp); have rd1 := hS'.cell x1 (by simp); have rd2 := hS'.cell y0 (by simp); have rd3 := hS'.cell y1 (by simp); have rd4 := hS'.cell p0 (by simp); clear hS'; go_simp; try with_reducible rfl)); simp only [Act.put, List.getElem_toArray, List.getElem_cons_zero, List.getElem_cons_succ, List.setIfInBounds_toArray, List.set_cons_zero, List.set_cons_succ])
     | (refine along_skip rfl (by rfl) (by rfl) hS0 ?_; simp only [Act.put, List.getElem_toArray, List.getElem_cons_zero, List.getElem_cons_succ, List.setIfInBounds_toArray, List.set_cons_zero, List.set_cons_succ])
   refine along_op rfl (by rfl) (by rfl) (fun K hK => ?_)
   go_simp
   refine (refCorner_any _ g p turn f _ _ HPE.out HW.out HF.out (HG.out.fresh (HCW.out.trans hS0 (by simp)))).mono ?_
   rintro e w6 ⟨rfl, hcx⟩
   have hS1 := hS0.trans hcx (by simp)
   clear hS0 hcx
   have hS0 := hS1
   clear hS1
   refine hK.out _ _ (fun _ => hS0) ?_
   clear hK K
   try simp only [Act.put, List.getElem_toArray, List.getElem_cons_zero, List.getElem_cons_succ, List.setIfInBounds_toArray, List.set_cons_zero, List.set_cons_succ]
   refine along_op rfl (by rfl) (by rfl) (fun K hK => ?_)
   go_simp
   refine (in_any _ C (f.corner g) _ ((NR.out.ints).fresh (HCW.out.trans hS0 (by simp)))).mono ?_
   rintro e w7 ⟨rfl, hcx⟩
   have hS1 := hS0.trans hcx (by simp)
   clear hS0 hcx
   have hS0 := hS1
   clear hS1
   refine hK.out _ _ (fun _ => hS0) ?_
   clear hK K
   try simp only [Act.put, List.getElem_toArray, List.getElem_cons_zero, List.getElem_cons_succ, List.setIfInBounds_toArray, List.set_cons_zero, List.set_cons_succ]
   refine along_done ?_
   have HC7 := Lib.hid (HC.out.trans hS0 (by simp))
   have HCF := Lib.hid (HCW.out.trans hS0 (by simp))
   clear x0 x1 y0 y1 p0 hS0
   by_cases q : f.corner g ∈ C
   ·rw [decide_eq_true q]
    have HE := Lib.hid (HH.out q)
    clear q
    go_wp2
    go_ret
    exact ⟨ret_int (by rw [HE.out]), HCF.out⟩
   ·rw [decide_eq_false q]
    have HE := Lib.hid (HNO.out q)
    clear q
    go_wp2
    go_roundw
    case rel => exact ⟨k + 1, by omega, by go_num, HE, HC7.out⟩
    case measure => simp [intOf]; omega
  ·exfalso
   obtain ⟨i, hi, hin⟩ := HEX.out
   exact hno.out i (by omega) hin
end Go.Proofs.YtfgbkpbakignhaaGreat
/- What the document's way to a plan's error comes to, where it stops and where it goes on. No program here. -/
namespace Go.Proofs.YtfgbkpbakignhaaGreat.Plain

theorem refRun_none {ow : Int → Option Int} {same : List (List Int)} {st : List Nat × List Int} {k : Nat} (h : refRun ow same st k = none) : ∀ n, k ≤ n → refRun ow same st n = none
 | 0, hk => by
  have : k = 0 := by omega
  subst this
  exact h
 | n + 1, hk => by
  by_cases e : k = n + 1
  ·subst e; exact h
  ·show (refRun ow same st n).bind _ = none
   rw [refRun_none h n (by omega)]; rfl

theorem joinRun_none {ow : Int → Option Int} {l : List Int} {grp : List Nat} {k : Nat} (h : joinRun ow l grp k = none) : ∀ n, k ≤ n → joinRun ow l grp n = none
 | 0, hk => by
  have : k = 0 := by omega
  subst this
  exact h
 | n + 1, hk => by
  by_cases e : k = n + 1
  ·subst e; exact h
  ·show (joinRun ow l grp n).bind _ = none
   rw [joinRun_none h n (by omega)]; rfl

theorem keysOk_less {ow : Int → Option Int} {l met : List Int} {k n : Nat} (h : keysOk ow l met n) (hk : k ≤ n) : keysOk ow l met k := fun i hi => h i (by omega)

noncomputable abbrev run08 (g : Gr) (p : Pt) (turn same : List (List Int)) (i : Nat) : Option (List Nat × List Int) := refRun (ownerOf g p (walksOf g p turn)) same (List.range (roots g p).length, []) i

theorem run08_succ {g : Gr} {p : Pt} {turn same : List (List Int)} {i : Nat} {c : List Nat × List Int} (h : run08 g p turn same i = some c) :
  run08 g p turn same (i + 1) = if listBad same i then none else if keysOk (ownerOf g p (walksOf g p turn)) (same.getD i []) c.2 (same.getD i []).length then (joinRun (ownerOf g p (walksOf g p turn)) (same.getD i []) c.1 (same.getD i []).length).map fun q => (q, c.2 ++ same.getD i []) else none := by
 show (refRun _ _ _ i).bind _ = _
 rw [show refRun (ownerOf g p (walksOf g p turn)) same (List.range (roots g p).length, []) i = some c from h]; rfl

theorem run08_stop {g : Gr} {p : Pt} {turn same : List (List Int)} {i : Nat} (hf : flatErr g p turn = 0) (hi : i ≤ same.length) (h : run08 g p turn same i = none) : planErr g p turn same = 7 := by
 obtain ⟨hpe, hto⟩ := turnErr_zero (flatErr_zero hf).1
 rw [planErr_ref hf (Pt.ok_of_err hpe) (walks_ok hpe hto), refRun_none h _ hi]
theorem run08_bad {g : Gr} {p : Pt} {turn same : List (List Int)} {i : Nat} {c : List Nat × List Int} (hf : flatErr g p turn = 0) (hi : i < same.length) (h : run08 g p turn same i = some c) (hb : listBad same i) : planErr g p turn same = 7 :=
 run08_stop hf hi (by rw [run08_succ h, if_pos hb])
theorem run08_key {g : Gr} {p : Pt} {turn same : List (List Int)} {i k : Nat} {c : List Nat × List Int} (hf : flatErr g p turn = 0) (hi : i < same.length) (h : run08 g p turn same i = some c) (hk : k < (same.getD i []).length)
  (hb : ¬ keysOk (ownerOf g p (walksOf g p turn)) (same.getD i []) c.2 (k + 1)) : planErr g p turn same = 7 :=
 run08_stop hf hi (by
  rw [run08_succ h]
  split
  ·rfl
  ·rw [if_neg fun q => hb (keysOk_less q hk)])
theorem run08_join {g : Gr} {p : Pt} {turn same : List (List Int)} {i k : Nat} {c : List Nat × List Int} (hf : flatErr g p turn = 0) (hi : i < same.length) (h : run08 g p turn same i = some c) (hk : k < (same.getD i []).length)
  (hb : joinRun (ownerOf g p (walksOf g p turn)) (same.getD i []) c.1 (k + 1) = none) : planErr g p turn same = 7 :=
 run08_stop hf hi (by
  rw [run08_succ h, joinRun_none hb _ hk]
  split
  ·rfl
  ·split <;> rfl)
theorem run08_next {g : Gr} {p : Pt} {turn same : List (List Int)} {i : Nat} {c : List Nat × List Int} {q : List Nat} (h : run08 g p turn same i = some c) (hb : ¬ listBad same i)
  (hk : keysOk (ownerOf g p (walksOf g p turn)) (same.getD i []) c.2 (same.getD i []).length) (hj : joinRun (ownerOf g p (walksOf g p turn)) (same.getD i []) c.1 (same.getD i []).length = some q) : run08 g p turn same (i + 1) = some (q, c.2 ++ same.getD i []) := by
 rw [run08_succ h, if_neg hb, if_pos hk, hj]; rfl

theorem run08_end {g : Gr} {p : Pt} {turn same : List (List Int)} {c : List Nat × List Int} (hf : flatErr g p turn = 0) (h : run08 g p turn same same.length = some c) :
  (∀ i, i < c.1.length → c.1.getD i 0 ≠ c.1.getD 0 0 → planErr g p turn same = 7) ∧ ((∀ i, i < c.1.length → c.1.getD i 0 = c.1.getD 0 0) → planErr g p turn same = 0) := by
 classical
 obtain ⟨hpe, hto⟩ := turnErr_zero (flatErr_zero hf).1
 have e := planErr_ref (same := same) hf (Pt.ok_of_err hpe) (walks_ok hpe hto)
 rw [show refRun (ownerOf g p (walksOf g p turn)) same (List.range (roots g p).length, []) same.length = some c from h] at e
 constructor
 ·intro i hi hne
  rw [e]
  show (if apartGrp c.1 then (7 : Int) else 0) = 7
  rw [if_pos ⟨i, hi, hne⟩]
 ·intro hall
  rw [e]
  show (if apartGrp c.1 then (7 : Int) else 0) = 0
  rw [if_neg]
  rintro ⟨i, hi, hne⟩
  exact hne (hall i hi)

theorem run08_len {g : Gr} {p : Pt} {turn same : List (List Int)} (hb : ∀ y a, ownerOf g p (walksOf g p turn) y = some a → 0 ≤ a ∧ a < ((roots g p).length : Int)) : ∀ (i : Nat) (c : List Nat × List Int), run08 g p turn same i = some c → c.1.length = (roots g p).length := by
 intro i c h
 obtain ⟨r1, r2⟩ := run_alike (same := same) hb i
 cases hm : sameRun (ownerOf g p (walksOf g p turn)) same (St.new (upTo (roots g p).length), []) i with
 | none => have h2 := r2 hm; rw [show refRun _ same _ i = some c from h] at h2; cases h2
 | some d =>
  obtain ⟨q, hq, hA⟩ := r1 d hm
  rw [show refRun _ same _ i = some c from h] at hq
  cases hq
  exact hA.len

theorem grpStep_len (a b : Nat) (grp : List Nat) : (grpStep a b grp).length = grp.length := by unfold grpStep; rw [List.length_map]
theorem joinRun_len {ow : Int → Option Int} {l : List Int} {grp : List Nat} : ∀ (k : Nat) (q : List Nat), joinRun ow l grp k = some q → q.length = grp.length
 | 0, q, h => by cases h; rfl
 | k + 1, q, h => by
  have h : (joinRun ow l grp k).bind _ = some q := h
  cases hm : joinRun ow l grp k with
  | none => rw [hm] at h; cases h
  | some r =>
   rw [hm] at h
   have ih := joinRun_len k r hm
   have h : (if k = 0 then some r else if grpAt ow r (l.getD 0 0) = grpAt ow r (l.getD k 0) then none else some (grpStep (grpAt ow r (l.getD 0 0)) (grpAt ow r (l.getD k 0)) r)) = some q := h
   split at h
   ·cases h; exact ih
   ·split at h
    ·cases h
    ·cases h; rw [grpStep_len]; exact ih
theorem joinRun_succ {ow : Int → Option Int} {l : List Int} {grp q : List Nat} {k : Nat} (hk : 0 < k) (h : joinRun ow l grp k = some q) :
  (grpAt ow q (l.getD 0 0) = grpAt ow q (l.getD k 0) → joinRun ow l grp (k + 1) = none) ∧ (grpAt ow q (l.getD 0 0) ≠ grpAt ow q (l.getD k 0) → joinRun ow l grp (k + 1) = some (grpStep (grpAt ow q (l.getD 0 0)) (grpAt ow q (l.getD k 0)) q)) := by
 have e : joinRun ow l grp (k + 1) = if k = 0 then some q else if grpAt ow q (l.getD 0 0) = grpAt ow q (l.getD k 0) then none else some (grpStep (grpAt ow q (l.getD 0 0)) (grpAt ow q (l.getD k 0)) q) := by
  show (joinRun ow l grp k).bind _ = _
  rw [h]; rfl
 rw [if_neg (by omega)] at e
 exact ⟨fun q2 => by rw [e, if_pos q2], fun q2 => by rw [e, if_neg q2]⟩
theorem joinRun_one (ow : Int → Option Int) (l : List Int) (grp : List Nat) : joinRun ow l grp 1 = some grp := rfl

def stepTo (a b : Nat) (grp : List Nat) (j : Nat) : List Nat := (grp.take j).map (fun x => if x = b then a else x) ++ grp.drop j
theorem stepTo_zero (a b : Nat) (grp : List Nat) : stepTo a b grp 0 = grp := by simp [stepTo]
theorem stepTo_all (a b : Nat) (grp : List Nat) : stepTo a b grp grp.length = grpStep a b grp := by simp [stepTo, grpStep]
theorem stepTo_len (a b : Nat) (grp : List Nat) (j : Nat) : (stepTo a b grp j).length = grp.length := by unfold stepTo; simp; omega
theorem stepTo_at {a b : Nat} {grp : List Nat} {j : Nat} (hj : j < grp.length) : (stepTo a b grp j).getD j 0 = grp.getD j 0 := by
 unfold stepTo List.getD
 rw [List.getElem?_append_right (by simp; omega)]
 simp [List.length_take, Nat.min_eq_left (Nat.le_of_lt hj)]
theorem stepTo_next {a b : Nat} {grp : List Nat} {j : Nat} (hj : j < grp.length) : stepTo a b grp (j + 1) = if grp.getD j 0 = b then (stepTo a b grp j).set j a else stepTo a b grp j := by
 have hlen := stepTo_len a b grp j
 have e1 : grp.take (j + 1) = grp.take j ++ [grp[j]] := List.take_succ_eq_append_getElem hj
 have e2 : grp.drop j = grp[j] :: grp.drop (j + 1) := List.drop_eq_getElem_cons hj
 have e3 : grp.getD j 0 = grp[j] := by simp [List.getD, hj]
 have hl : ((grp.take j).map fun x => if x = b then a else x).length = j := by simp; omega
 unfold stepTo
 rw [e1, List.map_append, e3]
 by_cases h : grp[j] = b
 ·rw [if_pos h, e2]
  rw [List.set_append_right _ _ (by rw [hl]; exact Nat.le_refl _), hl, Nat.sub_self]
  simp [h]
 ·rw [if_neg h, e2]
  simp [h]
end Go.Proofs.YtfgbkpbakignhaaGreat.Plain
