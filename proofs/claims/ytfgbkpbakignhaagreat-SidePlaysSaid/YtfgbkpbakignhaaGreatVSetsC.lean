/- package sets: contract of Groups. Condition: an object with fewer than 2^32 things. -/
import Derived.Test.YtfgbkpbakignhaaGreatVSetsB
import Derived.Test.YtfgbkpbakignhaaGreatVRows2
import Derived.Deep.DeepCutAuto
import Derived.Deep.RegionLaw
import Derived.Test.YtfgbkpbakignhaaGreatVWalkU
import Derived.Test.YtfgbkpbakignhaaGreatVTake
namespace Go.Proofs.YtfgbkpbakignhaaGreat
open Go.RowKit Go.Maps

end Go.Proofs.YtfgbkpbakignhaaGreat
/- package sets: contracts of New and of the laws' own example. Conditions: a list of fewer than 2^32 ints. -/
namespace Go.Proofs.YtfgbkpbakignhaaGreat
open Go.RowKit Go.Maps

theorem SetsObj.empty (w : World) : SetsObj ((w.alloc (.map #[] 0)).alloc (.cells #[.map (some w.heap.size), .slice none 0 0, .slice none 0 0, .int .i64 0] 111)) (w.heap.size + 1) [w.heap.size + 1, w.heap.size] ⟨[], []⟩ := by
 refine ⟨w.heap.size, .slice none 0 0, .slice none 0 0, [], ⟨?_, ?_, World.ownsRow_nil _ _ _ _, World.ownsRow_nil _ _ _ _, Or.inl rfl, ⟨rfl, by simp⟩, rfl, by simp, by simp⟩, rfl⟩
 ·have := heap_alloc_new (w.alloc (.map #[] 0)) (.cells #[.map (some w.heap.size), .slice none 0 0, .slice none 0 0, .int .i64 0] 111)
  have e : (w.alloc (.map #[] 0)).heap.size = w.heap.size + 1 := by simp
  rw [e] at this
  exact this
 ·have : (pos ([] : List Int)) = fun _ => none := by funext x; simp [pos]
  simp only [List.length_nil]
  rw [this]
  exact (IMap.made w).alloc _

def St.new (l : List Int) : St := l.foldl St.put ⟨[], []⟩

theorem St.new_take {l : List Int} {k : Nat} (h : k < l.length) : St.new (l.take (k + 1)) = (St.new (l.take k)).put (l.getD k 0) := by
 unfold St.new
 rw [List.take_succ_eq_append_getElem h, List.foldl_append]
 simp [List.getD, h]

theorem St.new_len (l : List Int) : (St.new l).all.length ≤ l.length := by
 have : ∀ (l : List Int) (s : St), (l.foldl St.put s).all.length ≤ s.all.length + l.length := by
  intro l
  induction l with
  | nil => intro s; simp
  | cons x r ih =>
   intro s
   have := ih (s.put x)
   have := (s.len_put x).2
   simp only [List.foldl_cons, List.length_cons]
   omega
 simpa [St.new] using this l ⟨[], []⟩

theorem new_any (v : Value) (l : List Int) (w : World) (hn : l.length < 4294967296) (h : IntsAt w v l) :
  Calls Tryz.prog 46 #[v] w fun e w' => ∃ pb own, e = .returned (.pointer (some ⟨pb, 0, none⟩)) ∧ SetsObj w' pb own (St.new l) ∧ Chg [] w w' ∧ ∀ j ∈ own, w.heap.size ≤ j := by
 obtain ⟨ao, cap, rfl, hsm, -, hcell⟩ := h
 have hmm := @run_makeMap Tryz.prog
 have HE := Lib.hid (SetsObj.empty w)
 go_enter Tryz.func46, Tryz.ntmps46
 go_wp2
 go_loopw [11] (fun c wr => ∃ k : Nat, k ≤ l.length ∧ c = .int .i64 k ∧ ∃ own, SetsObj wr (w.heap.size + 1) own (St.new (l.take k)) ∧ Chg [] w wr ∧ ∀ j ∈ own, w.heap.size ≤ j) (fun c _ => l.length - (intOf c).toNat)
 case atStart => exact ⟨0, Nat.zero_le _, rfl, _, HE.out, ((Chg.refl _ _).alloc _).alloc _, by simp⟩
 case round =>
  obtain ⟨k, hk, rfl, own, hobj, hch, hown⟩ := hrel
  by_cases hlt : k < l.length
  ·obtain ⟨b, off, rfl, hc⟩ := hcell (by intro e; rw [e] at hlt; simp at hlt)
   have ck := hch.cell (hc k hlt) (by simp)
   have hx := hsm (l.getD k 0) (by simp [List.getD, hlt])
   have hl := St.new_len (l.take k)
   have hl2 : (l.take k).length ≤ k := List.length_take_le _ _
   have HX := Lib.hid (St.new_take hlt)
   have HS := Lib.hid hsm
   have HC := Lib.hid hc
   clear hcell hc hsm
   generalize l.getD k 0 = x at *
   go_wp2_with fail
   refine (add_any _ own _ x _ hx (by omega) hobj).mono ?_
   rintro e w2 ⟨rfl, own2, ho2, hc2, hs2⟩
   have HO2 := Lib.hid ho2
   have hch2 := hch.trans hc2 (fun j hj => Or.inr (hown j hj))
   have hsz := hch.size
   have hown2 : ∀ j ∈ own2, w.heap.size ≤ j := fun j hj => by rcases hs2 j hj with q | q; exact hown j q; omega
   clear hobj hch hown ho2 hc2 hs2 ck
   go_wp2
   go_roundw
   case rel => exact ⟨k + 1, by omega, by go_num, own2, by rw [HX.out]; exact HO2.out, hch2, hown2⟩
   case measure => simp [intOf]; omega
  ·have e : k = l.length := by omega
   subst e
   have HO := Lib.hid hobj
   clear hobj
   go_wp2
   go_ret
   exact ⟨_, own, rfl, by simpa using HO.out, hch, hown⟩

end Go.Proofs.YtfgbkpbakignhaaGreat
/- joins, plainly (lines of the older texts Acts and PlaysA, for seats without their types). No program here. -/
namespace Go.Proofs.YtfgbkpbakignhaaGreat
open Go.RowKit Go.Maps

theorem St.Ok.idx_lt {s : St} {x : Int} (h : x ∈ s.all) : s.all.idxOf x < s.all.length := List.idxOf_lt_length_iff.2 h

theorem St.Ok.hd_lt {s : St} (h : s.Ok) {x : Int} (hx : x ∈ s.all) : s.hd (s.all.idxOf x) < s.all.length := by
 have := h.le (s.all.idxOf x) (by rw [← h.len]; exact St.Ok.idx_lt hx)
 have := St.Ok.idx_lt hx
 omega

theorem St.put_put_mem (s : St) (x y : Int) : x ∈ ((s.put x).put y).all ∧ y ∈ ((s.put x).put y).all := ⟨St.mem_put_of y (s.mem_put x), St.mem_put _ _⟩

theorem St.join_in {s : St} {x y : Int} (hx : x ∈ s.all) (hy : y ∈ s.all) : s.join x y = ⟨s.all, relabel s.grp (s.hd (s.all.idxOf x)) (s.hd (s.all.idxOf y))⟩ ∧ s.joins x y = (s.hd (s.all.idxOf x) != s.hd (s.all.idxOf y)) := by
 have e : (s.put x).put y = s := by rw [St.put_in hx, St.put_in hy]
 exact ⟨by unfold St.join; rw [e], by unfold St.joins; rw [e]⟩

theorem St.join_count {s : St} (hs : s.Ok) {x y : Int} (hx : x ∈ s.all) (hy : y ∈ s.all) : s.count = (s.join x y).count + if s.joins x y then 1 else 0 := by
 obtain ⟨e1, e2⟩ := St.join_in hx hy
 rw [e1, e2]
 have h1 := hs.le (s.all.idxOf x) (by rw [← hs.len]; exact St.Ok.idx_lt hx)
 have h2 := hs.le (s.all.idxOf y) (by rw [← hs.len]; exact St.Ok.idx_lt hy)
 have k1 := St.Ok.idx_lt hx
 have k2 := St.Ok.idx_lt hy
 rw [hs.len] at k1 k2
 have o1 := hs.own _ k1
 have o2 := hs.own _ k2
 generalize s.hd (s.all.idxOf x) = i at *
 generalize s.hd (s.all.idxOf y) = j at *
 by_cases e : i = j
 ·subst e
  rw [relabel_self]
  simp
 ·have := St.count_relabel (all := s.all) (grp := s.grp) (by omega : i < s.grp.length) (by omega : j < s.grp.length) o1 o2 e
  have e3 : (i != j) = true := by rw [bne_iff_ne]; exact e
  rw [e3, if_pos rfl]
  exact this

theorem St.Ok.up {s : St} (h : s.Ok) : Up s.grp s.grp := ⟨rfl, fun i hi => ⟨h.le i hi, by
 have := h.own i hi
 simp only [St.hd] at this
 split
 ·assumption
 ·exact this.symm⟩⟩

theorem St.ok_nil : St.Ok ⟨[], []⟩ := ⟨rfl, List.nodup_nil, by simp, by simp⟩

theorem St.Ok.put {s : St} (h : s.Ok) (x : Int) : (s.put x).Ok := by
 by_cases hx : x ∈ s.all
 ·rwa [St.put_in hx]
 ·rw [St.put_new hx]
  have hu := h.up.put
  have hl := h.len
  refine ⟨by simp [hl], by rw [List.nodup_append]; exact ⟨h.nodup, by simp, by intro a ha b hb; simp at hb; subst hb; rintro rfl; exact hx ha⟩, fun i hi => ?_, fun i hi => ?_⟩
  ·have := hu.le i (by simpa using hi); simpa [St.hd, hl] using this.1
  ·have := hu.own (i := i) (by simpa using hi); simpa [St.hd, hl] using this

theorem St.Ok.join {s : St} (h : s.Ok) (x y : Int) : (s.join x y).Ok := by
 have ht := (h.put x).put y
 have hm := s.put_put_mem x y
 show St.Ok ⟨((s.put x).put y).all, relabel ((s.put x).put y).grp (((s.put x).put y).hd (((s.put x).put y).all.idxOf x)) (((s.put x).put y).hd (((s.put x).put y).all.idxOf y))⟩
 generalize (s.put x).put y = t at *
 have hi := ht.hd_lt hm.1
 have hj := ht.hd_lt hm.2
 have ei := ht.own (t.all.idxOf x) (by rw [← ht.len]; exact List.idxOf_lt_length_iff.2 hm.1)
 have ej := ht.own (t.all.idxOf y) (by rw [← ht.len]; exact List.idxOf_lt_length_iff.2 hm.2)
 generalize t.hd (t.all.idxOf x) = a at *
 generalize t.hd (t.all.idxOf y) = b at *
 by_cases hab : a = b
 ·subst hab
  rw [relabel_self]
  exact ht
 ·have hu := ht.up.join (i := a) (j := b) (by rw [← ht.len]; exact hi) (by rw [← ht.len]; exact hj) ei ej hab
  have hl : (relabel t.grp a b).length = t.grp.length := by simp [relabel]
  refine ⟨by simp only [hl, ht.len], ht.nodup, fun i hi => ?_, fun i hi => ?_⟩
  ·exact (hu.le i (by simp only [hl] at hi; simpa using hi)).1
  ·exact hu.own (by simp only [hl] at hi; simpa using hi)

end Go.Proofs.YtfgbkpbakignhaaGreat
/- plan.Right's answer, plainly; how many lists, keys, joins there are; how many regions. -/
namespace Go.Proofs.YtfgbkpbakignhaaGreat

namespace Plain
def keyStep (ow : Int → Option Int) (l : List Int) (k : Nat) (st : St × List Int) : Option (St × List Int) :=
 match ow (l.getD k 0) with
 | none => none
 | some a =>
  if l.getD k 0 ∈ st.2 ∨ (0 < k ∧ l.getD k 0 ≤ l.getD (k - 1) 0) then none
  else if 0 < k then (if st.1.joins ((ow (l.getD 0 0)).getD 0) a then some (st.1.join ((ow (l.getD 0 0)).getD 0) a, st.2 ++ [l.getD k 0]) else none)
  else some (st.1, st.2 ++ [l.getD k 0])

def listRun (ow : Int → Option Int) (l : List Int) (st : St × List Int) : Nat → Option (St × List Int)
 | 0 => some st
 | k + 1 => (listRun ow l st k).bind (keyStep ow l k)

def listBad (same : List (List Int)) (i : Nat) : Prop := (same.getD i []).length < 2 ∨ (0 < i ∧ (same.getD i []).getD 0 0 ≤ (same.getD (i - 1) []).getD 0 0)
instance (same : List (List Int)) (i : Nat) : Decidable (listBad same i) := by unfold listBad; infer_instance

def sameRun (ow : Int → Option Int) (same : List (List Int)) (st : St × List Int) : Nat → Option (St × List Int)
 | 0 => some st
 | i + 1 => (sameRun ow same st i).bind fun c => if listBad same i then none else listRun ow (same.getD i []) c (same.getD i []).length

def upTo (n : Nat) : List Int := (List.range n).map fun (i : Nat) => (i : Int)

noncomputable def planErr (g : Gr) (p : Pt) (turn same : List (List Int)) : Int :=
 if flatErr g p turn ≠ 0 then flatErr g p turn
 else match sameRun (ownerOf g p (walksOf g p turn)) same (St.new (upTo (roots g p).length), []) same.length with
  | none => 7
  | some c => if 1 < c.1.count then 7 else 0

theorem listRun_none {ow : Int → Option Int} {l : List Int} {st : St × List Int} {k : Nat} (h : listRun ow l st k = none) : ∀ n, k ≤ n → listRun ow l st n = none
 | 0, hn => by rw [show k = 0 by omega] at h; exact h
 | n + 1, hn => by
  by_cases e : k = n + 1
  ·rw [← e]; exact h
  ·show (listRun ow l st n).bind _ = none
   rw [listRun_none h n (by omega)]; rfl

theorem sameRun_none {ow : Int → Option Int} {same : List (List Int)} {st : St × List Int} {k : Nat} (h : sameRun ow same st k = none) : ∀ n, k ≤ n → sameRun ow same st n = none
 | 0, hn => by rw [show k = 0 by omega] at h; exact h
 | n + 1, hn => by
  by_cases e : k = n + 1
  ·rw [← e]; exact h
  ·show (sameRun ow same st n).bind _ = none
   rw [sameRun_none h n (by omega)]; rfl

theorem listRun_stop {ow : Int → Option Int} {l : List Int} {st c : St × List Int} {k : Nat} (hk : k < l.length) (h : listRun ow l st k = some c) (hs : keyStep ow l k c = none) : listRun ow l st l.length = none :=
 listRun_none (k := k + 1) (show (listRun ow l st k).bind _ = none by rw [h]; exact hs) _ hk
theorem listRun_next {ow : Int → Option Int} {l : List Int} {st c d : St × List Int} {k : Nat} (h : listRun ow l st k = some c) (hs : keyStep ow l k c = some d) : listRun ow l st (k + 1) = some d :=
 show (listRun ow l st k).bind _ = some d by rw [h]; exact hs
theorem sameRun_bad {ow : Int → Option Int} {same : List (List Int)} {st c : St × List Int} {i : Nat} (hi : i < same.length) (h : sameRun ow same st i = some c) (hb : listBad same i) : sameRun ow same st same.length = none :=
 sameRun_none (k := i + 1) (show (sameRun ow same st i).bind _ = none by rw [h]; exact if_pos hb) _ hi
theorem sameRun_stop {ow : Int → Option Int} {same : List (List Int)} {st c : St × List Int} {i : Nat} (hi : i < same.length) (h : sameRun ow same st i = some c) (hb : ¬ listBad same i) (hs : listRun ow (same.getD i []) c (same.getD i []).length = none) : sameRun ow same st same.length = none :=
 sameRun_none (k := i + 1) (show (sameRun ow same st i).bind _ = none by rw [h]; show (if _ then _ else _) = none; rw [if_neg hb]; exact hs) _ hi
theorem sameRun_next {ow : Int → Option Int} {same : List (List Int)} {st c d : St × List Int} {i : Nat} (h : sameRun ow same st i = some c) (hb : ¬ listBad same i) (hs : listRun ow (same.getD i []) c (same.getD i []).length = some d) : sameRun ow same st (i + 1) = some d :=
 show (sameRun ow same st i).bind _ = some d by rw [h]; show (if _ then _ else _) = some d; rw [if_neg hb]; exact hs

theorem keyStep_none {ow : Int → Option Int} {l : List Int} {k : Nat} {st : St × List Int} (h : ow (l.getD k 0) = none) : keyStep ow l k st = none := by unfold keyStep; rw [h]
theorem keyStep_bad {ow : Int → Option Int} {l : List Int} {k : Nat} {st : St × List Int} (h : l.getD k 0 ∈ st.2 ∨ (0 < k ∧ l.getD k 0 ≤ l.getD (k - 1) 0)) : keyStep ow l k st = none := by
 unfold keyStep
 cases ow (l.getD k 0) with
 | none => rfl
 | some a => exact if_pos h
theorem keyStep_first {ow : Int → Option Int} {l : List Int} {st : St × List Int} {a : Int} (h : ow (l.getD 0 0) = some a) (hm : l.getD 0 0 ∉ st.2) : keyStep ow l 0 st = some (st.1, st.2 ++ [l.getD 0 0]) := by
 unfold keyStep; rw [h]; dsimp only; rw [if_neg (by rintro (q | ⟨q, -⟩); exact hm q; omega), if_neg (by omega)]
theorem keyStep_join {ow : Int → Option Int} {l : List Int} {k : Nat} {st : St × List Int} {a b : Int} (hk : 0 < k) (h : ow (l.getD k 0) = some a) (hm : l.getD k 0 ∉ st.2) (hr : l.getD (k - 1) 0 < l.getD k 0) (hb : (ow (l.getD 0 0)).getD 0 = b) (hj : st.1.joins b a = true) : keyStep ow l k st = some (st.1.join b a, st.2 ++ [l.getD k 0]) := by
 unfold keyStep; rw [h]; dsimp only; rw [if_neg (by rintro (q | ⟨-, q⟩); exact hm q; omega), if_pos hk, hb, if_pos hj]
theorem keyStep_not {ow : Int → Option Int} {l : List Int} {k : Nat} {st : St × List Int} {a b : Int} (hk : 0 < k) (h : ow (l.getD k 0) = some a) (hb : (ow (l.getD 0 0)).getD 0 = b) (hj : st.1.joins b a = false) : keyStep ow l k st = none := by
 unfold keyStep; rw [h]; dsimp only
 split
 ·rfl
 ·rw [hb, hj]; rfl

theorem keyStep_some {ow : Int → Option Int} {l : List Int} {k : Nat} {st d : St × List Int} (h : keyStep ow l k st = some d) :
  ∃ a, ow (l.getD k 0) = some a ∧ l.getD k 0 ∉ st.2 ∧ (0 < k → l.getD (k - 1) 0 < l.getD k 0) ∧ d.2 = st.2 ++ [l.getD k 0] ∧ ((k = 0 ∧ d.1 = st.1) ∨ (0 < k ∧ st.1.joins ((ow (l.getD 0 0)).getD 0) a = true ∧ d.1 = st.1.join ((ow (l.getD 0 0)).getD 0) a)) := by
 unfold keyStep at h
 cases ha : ow (l.getD k 0) with
 | none => rw [ha] at h; cases h
 | some a =>
  rw [ha] at h
  dsimp only at h
  split at h
  ·cases h
  ·rename_i q
   have q1 : l.getD k 0 ∉ st.2 := fun x => q (Or.inl x)
   have q2 : 0 < k → l.getD (k - 1) 0 < l.getD k 0 := fun x => by
    by_cases y : l.getD k 0 ≤ l.getD (k - 1) 0
    ·exact absurd (Or.inr ⟨x, y⟩) q
    ·omega
   split at h
   ·rename_i hk
    split at h
    ·rename_i hj
     cases h
     exact ⟨a, rfl, q1, q2, rfl, Or.inr ⟨hk, hj, rfl⟩⟩
    ·cases h
   ·rename_i hk
    cases h
    exact ⟨a, rfl, q1, q2, rfl, Or.inl ⟨by omega, rfl⟩⟩

structure PlanOk (ow : Int → Option Int) (n : Nat) (t : Nat) (c : St × List Int) : Prop where
 ok : c.1.Ok
 all : c.1.all = upTo n
 num : c.1.count + c.2.length = n + t
 nodup : c.2.Nodup
 has : ∀ k ∈ c.2, (ow k).isSome = true

theorem mem_upTo {n : Nat} {a : Int} : a ∈ upTo n ↔ 0 ≤ a ∧ a < n := by
 unfold upTo
 rw [List.mem_map]
 constructor
 ·rintro ⟨i, hi, rfl⟩; have := List.mem_range.1 hi; omega
 ·intro h; exact ⟨a.toNat, List.mem_range.2 (by omega), by omega⟩

theorem St.new_upTo (n : Nat) : St.new (upTo n) = ⟨upTo n, List.range n⟩ := by
 induction n with
 | zero => rfl
 | succ n ih =>
  have e : upTo (n + 1) = upTo n ++ [(n : Int)] := by unfold upTo; rw [List.range_succ, List.map_append]; rfl
  have hn : (n : Int) ∉ upTo n := fun h => by have := mem_upTo.1 h; omega
  unfold St.new at ih ⊢
  rw [e, List.foldl_append, ih]
  show St.put _ _ = _
  rw [St.put_new hn]
  show St.mk _ _ = _
  congr 1
  rw [List.range_succ]
  congr 1
  simp [upTo]

theorem PlanOk.start (ow : Int → Option Int) (n : Nat) : PlanOk ow n 0 (St.new (upTo n), []) := by
 rw [St.new_upTo]
 refine ⟨⟨by simp [upTo], ?_, fun i hi => ?_, fun i hi => ?_⟩, rfl, ?_, List.nodup_nil, by simp⟩
 ·show (upTo n).Nodup
  unfold upTo
  exact List.Pairwise.map _ (fun a b hab => by omega) (List.nodup_range (n := n))
 ·have hi : i < n := by simpa using hi
  simp [St.hd, List.getD, hi]
 ·have hi : i < n := by simpa using hi
  simp [St.hd, List.getD, hi]
 ·show List.countP _ _ + 0 = _
  rw [List.length_range, List.countP_eq_length.2 ?_]
  ·simp
  ·intro i hi
   have hi := List.mem_range.1 hi
   simp [List.getD, hi]

theorem keyStep_ok {ow : Int → Option Int} {n t k : Nat} {l : List Int} {c d : St × List Int} (hb : ∀ y a, ow y = some a → 0 ≤ a ∧ a < n) (h0 : 0 < k → (ow (l.getD 0 0)).isSome = true) (hc : PlanOk ow n t c) (h : keyStep ow l k c = some d) : PlanOk ow n (if k = 0 then t + 1 else t) d := by
 obtain ⟨a, ha, hm, -, e2, e1⟩ := keyStep_some h
 have hnd : d.2.Nodup := by
  rw [e2, List.nodup_append]
  exact ⟨hc.nodup, by simp, fun x hx y hy => by rw [List.mem_singleton.1 hy]; intro q; exact hm (q ▸ hx)⟩
 have hhas : ∀ y ∈ d.2, (ow y).isSome = true := by
  intro y hy
  rw [e2, List.mem_append] at hy
  rcases hy with hy | hy
  ·exact hc.has y hy
  ·rw [List.mem_singleton.1 hy, ha]; rfl
 have hl : d.2.length = c.2.length + 1 := by rw [e2]; simp
 have hnum := hc.num
 rcases e1 with ⟨hk, e1⟩ | ⟨hk, hj, e1⟩
 ·rw [if_pos hk]
  exact ⟨by rw [e1]; exact hc.ok, by rw [e1]; exact hc.all, by rw [e1, hl]; omega, hnd, hhas⟩
 ·rw [if_neg (by omega)]
  obtain ⟨b, hob⟩ := Option.isSome_iff_exists.1 (h0 hk)
  rw [hob] at hj e1
  have ma : a ∈ c.1.all := by rw [hc.all, mem_upTo]; exact hb _ _ ha
  have mb : b ∈ c.1.all := by rw [hc.all, mem_upTo]; exact hb _ _ hob
  have hcnt := St.join_count hc.ok mb ma
  have hj : c.1.joins b a = true := hj
  rw [if_pos hj] at hcnt
  have e1 : d.1 = c.1.join b a := e1
  refine ⟨by rw [e1]; exact hc.ok.join _ _, by rw [e1, (St.join_in mb ma).1]; exact hc.all, by rw [e1, hl]; omega, hnd, hhas⟩

theorem listRun_ok {ow : Int → Option Int} {n t : Nat} {l : List Int} {c : St × List Int} (hb : ∀ y a, ow y = some a → 0 ≤ a ∧ a < n) (hc : PlanOk ow n t c) : ∀ k d, listRun ow l c k = some d →
  PlanOk ow n (if k = 0 then t else t + 1) d ∧ d.2 = c.2 ++ (List.range k).map (fun i => l.getD i 0) ∧ (0 < k → (ow (l.getD 0 0)).isSome = true) ∧ (∀ i, i + 1 < k → l.getD i 0 < l.getD (i + 1) 0)
 | 0, d, h => by
  cases h
  exact ⟨hc, by simp, by omega, by omega⟩
 | k + 1, d, h => by
  have h : (listRun ow l c k).bind (keyStep ow l k) = some d := h
  cases hm : listRun ow l c k with
  | none => rw [hm] at h; cases h
  | some m =>
   rw [hm] at h
   have h : keyStep ow l k m = some d := h
   obtain ⟨i1, i2, i3, i4⟩ := listRun_ok hb hc k m hm
   have := keyStep_ok hb i3 i1 h
   obtain ⟨a, ha, -, hr, e2, -⟩ := keyStep_some h
   refine ⟨?_, ?_, ?_, ?_⟩
   ·rw [if_neg (by omega)]
    by_cases e : k = 0
    ·rw [if_pos e, if_pos e] at this; exact this
    ·rw [if_neg e, if_neg e] at this; exact this
   ·rw [e2, i2, List.range_succ, List.map_append, List.append_assoc]; rfl
   ·intro _
    by_cases e : k = 0
    ·rw [← e, ha]; rfl
    ·exact i3 (by omega)
   ·intro i hi
    by_cases e : i + 1 = k
    ·subst e; exact hr (by omega)
    ·exact i4 i (by omega)

theorem getD_get (l : List Int) {i : Nat} (h : i < l.length) : l.getD i 0 = l[i] := by simp [List.getD, h]
theorem getD_all (l : List Int) : (List.range l.length).map (fun i => l.getD i 0) = l := by
 apply List.ext_getElem
 ·simp
 ·intro i h1 h2
  simp [List.getD, h2]

theorem sameRun_ok {ow : Int → Option Int} {n : Nat} {same : List (List Int)} (hb : ∀ y a, ow y = some a → 0 ≤ a ∧ a < n) : ∀ i d, i ≤ same.length → sameRun ow same (St.new (upTo n), []) i = some d →
  PlanOk ow n i d ∧ d.2 = (same.take i).flatten ∧ (∀ j, j < i → ¬ listBad same j ∧ (same.getD j []).Pairwise (· < ·))
 | 0, d, _, h => by
  cases h
  exact ⟨PlanOk.start ow n, by simp, by omega⟩
 | i + 1, d, hi, h => by
  have h : (sameRun ow same (St.new (upTo n), []) i).bind _ = some d := h
  cases hm : sameRun ow same (St.new (upTo n), []) i with
  | none => rw [hm] at h; cases h
  | some m =>
   rw [hm] at h
   have h : (if listBad same i then none else listRun ow (same.getD i []) m (same.getD i []).length) = some d := h
   split at h
   ·cases h
   ·rename_i hbad
    obtain ⟨i1, i2, i3⟩ := sameRun_ok hb i m (by omega) hm
    obtain ⟨j1, j2, -, j4⟩ := listRun_ok hb i1 _ d h
    have hl : 2 ≤ (same.getD i []).length := by unfold listBad at hbad; omega
    rw [if_neg (by omega)] at j1
    refine ⟨j1, ?_, ?_⟩
    ·rw [j2, i2, getD_all, List.take_succ_eq_append_getElem (by omega), List.flatten_append]
     have : same.getD i [] = same[i] := by simp [List.getD, show i < same.length by omega]
     rw [this]; simp
    ·intro j hj
     by_cases e : j = i
     ·subst e
      refine ⟨hbad, ?_⟩
      rw [List.pairwise_iff_getElem]
      intro a b ha hb' hab
      have mono : ∀ y x, x < y → y < (same.getD j []).length → (same.getD j []).getD x 0 < (same.getD j []).getD y 0 := by
       intro y
       induction y with
       | zero => intro x hx; omega
       | succ y ih =>
        intro x hx hy
        have h1 := j4 y (by omega)
        by_cases e : x = y
        ·subst e; exact h1
        ·have := ih x (by omega) (by omega); omega
      have := mono b a hab hb'
      rw [getD_get _ ha, getD_get _ hb'] at this
      exact this
     ·exact i3 j (by omega)
theorem ownerOf_lt {g : Gr} {p : Pt} {turn : List (List Int)} {W : List Face} (hp : PartOk g p) (hW : WalksOk g p turn W) {y a : Int} (h : ownerOf g p W y = some a) : 0 ≤ a ∧ a < (roots g p).length := by
 unfold ownerOf at h
 obtain ⟨f, hf, rfl⟩ := Option.map_eq_some_iff.1 h
 have hm := List.mem_of_find?_eq_some hf
 have hc := corner_mem hp hW.faces f hm
 obtain ⟨r, hr, hcr⟩ := root_of (g := g) (fun v hv => (hp.vr v hv).1) hc
 obtain ⟨i, hi, rfl⟩ := mem_getD hr
 rw [pieceIx_eq hp hi (mem_comp.2 ⟨hc, hcr⟩)]
 omega
theorem ownerOf_some {g : Gr} {p : Pt} {W : List Face} {y : Int} (h : (ownerOf g p W y).isSome = true) : y ∈ W.map (·.1) := by
 unfold ownerOf at h
 rw [Option.isSome_map] at h
 obtain ⟨f, hf⟩ := Option.isSome_iff_exists.1 h
 have h1 := List.mem_of_find?_eq_some hf
 have h2 := List.find?_some hf
 exact List.mem_map.2 ⟨f, h1, of_decide_eq_true h2⟩

theorem planErr_flat {g : Gr} {p : Pt} {turn same : List (List Int)} (h : flatErr g p turn ≠ 0) : planErr g p turn same = flatErr g p turn := if_pos h
theorem planErr_run {g : Gr} {p : Pt} {turn same : List (List Int)} (h : flatErr g p turn = 0) : planErr g p turn same = match sameRun (ownerOf g p (walksOf g p turn)) same (St.new (upTo (roots g p).length), []) same.length with
  | none => 7
  | some c => if 1 < c.1.count then 7 else 0 := if_neg (by simp [h])
theorem planErr_zero {g : Gr} {p : Pt} {turn same : List (List Int)} (h : planErr g p turn same = 0) : flatErr g p turn = 0 ∧ ∃ c, sameRun (ownerOf g p (walksOf g p turn)) same (St.new (upTo (roots g p).length), []) same.length = some c ∧ c.1.count ≤ 1 := by
 by_cases hf : flatErr g p turn = 0
 ·rw [planErr_run hf] at h
  refine ⟨hf, ?_⟩
  split at h
  ·cases h
  ·rename_i c hc
   refine ⟨c, hc, ?_⟩
   split at h
   ·cases h
   ·omega
 ·rw [planErr_flat hf] at h; exact absurd h hf
end Plain
end Go.Proofs.YtfgbkpbakignhaaGreat
/- Turns, told vertex by vertex: as many darts as leave it, each once, all of them. No program here. -/
namespace Go.Proofs.YtfgbkpbakignhaaGreat.Plain

def dartsAt (g : Gr) (p : Pt) (v : Int) : List Int := p.darts.filter fun d => decide (g.tail d = v)
def dartsTo (g : Gr) (p : Pt) (v : Int) (k : Nat) : List Int := (p.darts.take k).filter fun d => decide (g.tail d = v)
theorem dartsTo_zero (g : Gr) (p : Pt) (v : Int) : dartsTo g p v 0 = [] := by simp [dartsTo]
theorem dartsTo_all (g : Gr) (p : Pt) (v : Int) : dartsTo g p v p.darts.length = dartsAt g p v := by unfold dartsTo dartsAt; rw [List.take_length]
theorem dartsTo_next {g : Gr} {p : Pt} {v : Int} {k : Nat} (hk : k < p.darts.length) : dartsTo g p v (k + 1) = if g.tail (p.darts.getD k 0) = v then dartsTo g p v k ++ [p.darts.getD k 0] else dartsTo g p v k := by
 unfold dartsTo
 rw [take_snoc hk, List.filter_append]
 by_cases h : g.tail (p.darts.getD k 0) = v
 ·rw [List.filter_cons_of_pos (by simpa using h), if_pos h]; rfl
 ·rw [List.filter_cons_of_neg (by simpa using h), if_neg h]; simp
theorem dartsTo_len (g : Gr) (p : Pt) (v : Int) (k : Nat) : (dartsTo g p v k).length ≤ k :=
 Nat.le_trans (List.length_filter_le _ _) (by rw [List.length_take]; omega)
theorem mem_dartsAt {g : Gr} {p : Pt} {v d : Int} : d ∈ dartsAt g p v ↔ d ∈ p.darts ∧ g.tail d = v := by simp [dartsAt]
theorem dartsAt_nodup {g : Gr} {p : Pt} (h : p.e.Nodup) (v : Int) : (dartsAt g p v).Nodup := (darts_nodup h).filter _
theorem darts_getD {p : Pt} {i : Nat} (hi : i < p.e.length) (s : Nat) (hs : s < 2) : p.darts.getD (2 * i + s) 0 = 2 * p.e.getD i 0 + s := by
 obtain ⟨v, e⟩ := p
 unfold Pt.darts
 dsimp only at hi ⊢
 induction e generalizing i with
 | nil => simp at hi
 | cons a l ih =>
  rw [List.flatMap_cons]
  cases i with
  | zero => rcases (show s = 0 ∨ s = 1 by omega) with rfl | rfl <;> simp [List.getD]
  | succ i =>
   have := ih (i := i) (by simpa using hi)
   rw [show 2 * (i + 1) + s = (2 * i + s) + 2 by omega]
   simpa [List.getD] using this

def rowOk (g : Gr) (p : Pt) (turn : List (List Int)) (v : Int) : Prop := (dartsAt g p v).length = (turnAt turn v).length ∧ (turnAt turn v).Nodup ∧ ∀ d ∈ dartsAt g p v, d ∈ turnAt turn v

theorem perm_of_sub {l m : List Int} (hl : l.Nodup) (h : ∀ x ∈ l, x ∈ m) (hlen : l.length = m.length) : ∀ x ∈ m, x ∈ l := by
 intro x hx
 refine Classical.byContradiction fun q => ?_
 have h1 := len_le_of_sub (l := x :: l) (m := m) (List.nodup_cons.2 ⟨q, hl⟩) (fun y hy => by rcases List.mem_cons.1 hy with r | r; exact r ▸ hx; exact h y r)
 simp at h1
 omega

theorem TurnsOk.rowOk {g : Gr} {p : Pt} {turn : List (List Int)} (hp : PartOk g p) (h : TurnsOk g p turn) {v : Int} (h0 : 0 ≤ v) (hn : v < g.n) : rowOk g p turn v := by
 have hm : ∀ d, d ∈ dartsAt g p v ↔ d ∈ turnAt turn v := fun d => by rw [mem_dartsAt, h.mem v h0 hn]
 exact ⟨((List.perm_ext_iff_of_nodup (dartsAt_nodup hp.en v) (h.nodup v)).2 hm).length_eq, h.nodup v, fun d hd => (hm d).1 hd⟩

theorem turns_of_rows {g : Gr} {p : Pt} {turn : List (List Int)} (hp : PartOk g p) (hl : (turn.length : Int) = g.n) (h : ∀ v : Nat, (v : Int) < g.n → Plain.rowOk g p turn v) : TurnsOk g p turn := by
 have hrow : ∀ v : Int, 0 ≤ v → v < g.n → Plain.rowOk g p turn v := fun v h0 hn => by
  have := h v.toNat (by omega)
  rwa [show ((v.toNat : Nat) : Int) = v by omega] at this
 refine ⟨hl, fun v => ?_, fun v h0 hn d => ?_⟩
 ·by_cases h1 : v.toNat < turn.length
  ·have := (hrow (v.toNat : Nat) (by omega) (by omega)).2.1
   unfold turnAt at this ⊢
   rwa [Int.toNat_natCast] at this
  ·unfold turnAt
   rw [List.getD, List.getElem?_eq_none (by omega)]
   simp
 ·obtain ⟨h1, -, h3⟩ := hrow v h0 hn
  rw [← mem_dartsAt]
  exact ⟨fun hd => perm_of_sub (dartsAt_nodup hp.en v) h3 h1 d hd, h3 d⟩

theorem Pt.edge_in {g : Gr} {p : Pt} (h : p.err g = 0) {e : Int} (he : e ∈ p.e) : 0 ≤ e ∧ e < g.e.length := by
 obtain ⟨i, hi, rfl⟩ := mem_getD he
 have := rises_at (Pt.err_ok h).2.2.1 hi
 exact ⟨this.1, this.2.1⟩
theorem Pt.dart_nat {g : Gr} {p : Pt} (h : p.err g = 0) {d : Int} (hd : d ∈ p.darts) : ∃ n : Nat, d = n ∧ n / 2 < g.e.length ∧ n < 2048 := by
 have h1 := edge_in h (mem_darts.1 hd)
 have h2 := Gr.err_ok (Pt.err_ok h).1
 exact ⟨d.toNat, by omega, by omega, by omega⟩

theorem turnErr_len {g : Gr} {p : Pt} {turn : List (List Int)} (h : p.err g = 0) (hl : (turn.length : Int) ≠ g.n) : turnErr g p turn = 5 := turnErr_bad h fun k => hl k.len
theorem turnErr_row {g : Gr} {p : Pt} {turn : List (List Int)} (h : p.err g = 0) {v : Nat} (hv : (v : Int) < g.n) (hr : ¬ Plain.rowOk g p turn v) : turnErr g p turn = 5 := turnErr_bad h fun k => hr (k.rowOk (Pt.ok_of_err h) (by omega) hv)
end Go.Proofs.YtfgbkpbakignhaaGreat.Plain
/- The drawing of a triangle and a lone vertex, plainly. No program here. -/
namespace Go.Proofs.YtfgbkpbakignhaaGreat.Plain
def g1 : Gr := ⟨4, [(0, 1), (1, 2), (2, 0)]⟩
def p1 : Pt := ⟨[0, 1, 2, 3], [0, 1, 2]⟩
def t1 : List (List Int) := [[0, 5], [1, 2], [3, 4], []]
def w1 : List Face := [(-4, []), (0, [0, 2, 4]), (1, [1, 5, 3])]

theorem err1 : p1.err g1 = 0 := by decide
theorem part1 : PartOk g1 p1 := Pt.ok_of_err err1
theorem near1 {u w : Int} (h : Near g1 p1 u w) : (u = 0 ∧ w = 1) ∨ (u = 1 ∧ w = 2) ∨ (u = 2 ∧ w = 0) ∨ (u = 1 ∧ w = 0) ∨ (u = 2 ∧ w = 1) ∨ (u = 0 ∧ w = 2) := by
 obtain ⟨e, he, h⟩ := h
 simp only [p1, List.mem_cons, List.not_mem_nil, or_false] at he
 have q0 : g1.at 0 = (0, 1) := rfl
 have q1 : g1.at 1 = (1, 2) := rfl
 have q2 : g1.at 2 = (2, 0) := rfl
 rcases he with rfl | rfl | rfl
 ·rw [q0] at h; simp only [Prod.mk.injEq] at h; omega
 ·rw [q1] at h; simp only [Prod.mk.injEq] at h; omega
 ·rw [q2] at h; simp only [Prod.mk.injEq] at h; omega
theorem near01 : Near g1 p1 0 1 := ⟨0, by decide, Or.inl rfl⟩
theorem near02 : Near g1 p1 0 2 := ⟨2, by decide, Or.inr rfl⟩
theorem come1 (u : Int) : u ∈ ([0, 1, 2] : List Int) ↔ Come g1 p1 (-1) 0 u := by
 refine come_iff (by decide) (fun u hu => ?_) (fun u hu w hw _ => ?_) u
 ·simp only [List.mem_cons, List.not_mem_nil, or_false] at hu
  rcases hu with rfl | rfl | rfl
  ·exact .here
  ·exact Come.step .here near01 (by decide)
  ·exact Come.step .here near02 (by decide)
 ·have := near1 hw
  simp only [List.mem_cons, List.not_mem_nil, or_false]
  omega
theorem come3 (u : Int) : u ∈ ([3] : List Int) ↔ Come g1 p1 (-1) 3 u := by
 refine come_iff (by decide) (fun u hu => ?_) (fun u hu w hw _ => ?_) u
 ·rw [List.mem_singleton.1 hu]; exact .here
 ·have := near1 hw
  rw [List.mem_singleton.1 hu] at this
  omega
theorem comp1 : comp g1 p1 0 = [0, 1, 2] := by
 have : comp g1 p1 0 = p1.v.filter fun u => decide (u ∈ ([0, 1, 2] : List Int)) := by
  unfold comp
  exact List.filter_congr fun u _ => by rw [decide_eq_decide]; exact (come1 u).symm
 rw [this]; decide
theorem comp3 : comp g1 p1 3 = [3] := by
 have : comp g1 p1 3 = p1.v.filter fun u => decide (u ∈ ([3] : List Int)) := by
  unfold comp
  exact List.filter_congr fun u _ => by rw [decide_eq_decide]; exact (come3 u).symm
 rw [this]; decide
theorem roots1 : roots g1 p1 = [0, 3] := by
 have h1 : ∀ v : Int, v ∈ p1.v → ((∀ u ∈ p1.v, Come g1 p1 (-1) v u → v ≤ u) ↔ v = 0 ∨ v = 3) := by
  intro v hv
  constructor
  ·intro h
   simp only [p1, List.mem_cons, List.not_mem_nil, or_false] at hv
   rcases hv with rfl | rfl | rfl | rfl
   ·exact Or.inl rfl
   ·have := h 0 (by decide) (((come1 1).1 (by decide)).symm (by decide)).2; omega
   ·have := h 0 (by decide) (((come1 2).1 (by decide)).symm (by decide)).2; omega
   ·exact Or.inr rfl
  ·rintro (rfl | rfl)
   ·intro u hu _
    simp only [p1, List.mem_cons, List.not_mem_nil, or_false] at hu
    omega
   ·intro u _ hc
    have := (come3 u).2 hc
    simp only [List.mem_cons, List.not_mem_nil, or_false] at this
    omega
 have : roots g1 p1 = p1.v.filter fun v => decide (v = 0 ∨ v = 3) := by
  unfold roots
  exact List.filter_congr fun u hu => by rw [decide_eq_decide]; exact h1 u hu
 rw [this]; decide
theorem turns1 : TurnsOk g1 p1 t1 := by
 refine turns_of_rows part1 rfl fun v hv => ?_
 have hv : (v : Int) < 4 := hv
 rcases (show v = 0 ∨ v = 1 ∨ v = 2 ∨ v = 3 by omega) with rfl | rfl | rfl | rfl <;> (unfold rowOk; decide)
theorem trk1 : Trk g1 p1 t1 [(0, [0, 2, 4]), (1, [1, 5, 3])] p1.darts := by
 refine ⟨⟨fun c hc => ?_, by decide⟩, by decide, fun f hf => ?_, by decide, fun f hf => ?_, by decide⟩
 ·simp only [List.map_cons, List.map_nil, List.mem_cons, List.not_mem_nil, or_false] at hc
  rcases hc with rfl | rfl
  ·exact ⟨by decide, by decide, show nextDart g1 t1 4 = 0 by decide⟩
  ·exact ⟨by decide, by decide, show nextDart g1 t1 3 = 1 by decide⟩
 ·simp only [List.mem_cons, List.not_mem_nil, or_false] at hf
  rcases hf with rfl | rfl
  ·exact ⟨_, rfl⟩
  ·exact ⟨_, rfl⟩
 ·simp only [List.mem_cons, List.not_mem_nil, or_false] at hf
  rcases hf with rfl | rfl
  ·exact ⟨[], [1, 2, 3, 4, 5], by decide, by decide⟩
  ·exact ⟨[0], [2, 3, 4, 5], by decide, by decide⟩
theorem walks1 : WalksOk g1 p1 t1 w1 := trk1.walks part1
theorem walksOf1 : walksOf g1 p1 t1 = w1 := (walks1.eq err1).symm
theorem turnErr1 : turnErr g1 p1 t1 = 0 := turnErr_ok err1 turns1
theorem flat1 : Flat g1 p1 t1 := by
 intro r hr
 rw [walksOf1]
 rw [roots1] at hr
 unfold genusAt
 simp only [List.mem_cons, List.not_mem_nil, or_false] at hr
 rcases hr with rfl | rfl
 ·rw [comp1]; decide
 ·rw [comp3]; decide
theorem flatErr1 : flatErr g1 p1 t1 = 0 := flatErr_ok turnErr1 flat1
theorem pieceIx10 : pieceIx g1 p1 0 = 0 := pieceIx_eq part1 (by rw [roots1]; decide) (by rw [roots1]; show (0 : Int) ∈ comp g1 p1 0; rw [comp1]; decide)
theorem pieceIx11 : pieceIx g1 p1 1 = 0 := pieceIx_eq part1 (by rw [roots1]; decide) (by rw [roots1]; show (1 : Int) ∈ comp g1 p1 0; rw [comp1]; decide)
theorem pieceIx13 : pieceIx g1 p1 3 = 1 := pieceIx_eq part1 (by rw [roots1]; decide) (by rw [roots1]; show (3 : Int) ∈ comp g1 p1 3; rw [comp3]; decide)
theorem owner14 : ownerOf g1 p1 w1 (-4) = some 1 := by
 have : ownerOf g1 p1 w1 (-4) = some ((pieceIx g1 p1 3 : Nat) : Int) := rfl
 rw [this, pieceIx13]; rfl
theorem owner10 : ownerOf g1 p1 w1 0 = some 0 := by
 have : ownerOf g1 p1 w1 0 = some ((pieceIx g1 p1 0 : Nat) : Int) := rfl
 rw [this, pieceIx10]; rfl
theorem owner11 : ownerOf g1 p1 w1 1 = some 0 := by
 have : ownerOf g1 p1 w1 1 = some ((pieceIx g1 p1 1 : Nat) : Int) := rfl
 rw [this, pieceIx11]; rfl
theorem run1 {k : Int} (hk : k = 0 ∨ k = 1) : sameRun (ownerOf g1 p1 w1) [[-4, k]] (St.new (upTo 2), []) 1 = some ((St.new (upTo 2)).join 1 0, [-4, k]) := by
 have ho : ownerOf g1 p1 w1 k = some 0 := by rcases hk with rfl | rfl; exact owner10; exact owner11
 refine sameRun_next (c := (St.new (upTo 2), [])) rfl ?_ ?_
 ·rcases hk with rfl | rfl <;> decide
 ·refine listRun_next (c := (St.new (upTo 2), [-4])) (k := 1) ?_ ?_
  ·refine listRun_next (c := (St.new (upTo 2), [])) (k := 0) rfl ?_
   exact keyStep_first (a := 1) owner14 (by simp)
  ·refine keyStep_join (a := 0) (b := 1) (by decide) ho ?_ ?_ ?_ (by decide)
   ·rcases hk with rfl | rfl <;> decide
   ·rcases hk with rfl | rfl <;> decide
   ·show (ownerOf g1 p1 w1 (-4)).getD 0 = 1
    rw [owner14]; rfl
theorem plan1w {k : Int} (hk : k = 0 ∨ k = 1) : planErr g1 p1 t1 [[-4, k]] = 0 := by
 rw [planErr_run flatErr1, roots1, walksOf1]
 show (match sameRun (ownerOf g1 p1 w1) [[-4, k]] (St.new (upTo 2), []) 1 with | none => (7 : Int) | some c => if 1 < c.1.count then 7 else 0) = 0
 rw [run1 hk]
 show (if 1 < ((St.new (upTo 2)).join 1 0).count then (7 : Int) else 0) = 0
 decide
end Go.Proofs.YtfgbkpbakignhaaGreat.Plain
