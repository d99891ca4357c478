/- package walk: the contract of Pieces. Conditions: a graph, a part that lie in memory and read so, of a bounded size. -/
import Derived.Test.YtpcgklagmcnhaaaGreatT7Nest
import Derived.Shelf.SlSortCmp.Whole1
namespace Go.Proofs.YtpcgklagmcnhaaaGreat
open Go.RowKit Go.Maps
theorem elemPart : Elem 96 43 (.agg #[.slice none 0 0, .slice none 0 0]) 2 48 := ⟨Tryz.underlying96, by kernel_rfl, rfl, by decide, by decide⟩
theorem rowNil (w : World) (B : Nat) : RowAt w B (.slice none 0 0) [] := ⟨World.ownsRow_nil _ _ _ _, by simp, by simp⟩
theorem nest_pair {w : World} {B n i : Nat} {e : TypeId} {ov : Value} {xs : List Value} {V E : Int → List Int} {R : List Int} (h : Nest w B e 2 ov n xs (pcs V E R)) (hn : n = R.length) (hi : i < R.length) :
  ∃ g c va vc ea ec, ov = .slice (some ⟨g, 0, none⟩) n c ∧ w.cell? ⟨g, i * 2, none⟩ = some (.slice va (V (R.getD i 0)).length vc) ∧ w.cell? ⟨g, i * 2 + 1, none⟩ = some (.slice ea (E (R.getD i 0)).length ec) ∧ RowAt w B (.slice va (V (R.getD i 0)).length vc) (V (R.getD i 0)) ∧ RowAt w B (.slice ea (E (R.getD i 0)).length ec) (E (R.getD i 0)) := by
 obtain ⟨g, c, rfl⟩ := h.some (by omega)
 have hx := h.cells
 have r1 := h.row (pcs_even V E R i hi)
 have r2 := h.row (pcs_odd V E R i hi)
 have c1 := h.cell (k := i * 2) (by omega)
 have c2 := h.cell (k := i * 2 + 1) (by omega)
 obtain ⟨va, vc, e1⟩ := r1.shape
 obtain ⟨ea, ec, e2⟩ := r2.shape
 grind
namespace Plain
end Plain
end Go.Proofs.YtpcgklagmcnhaaaGreat
-- READS ONLY
namespace Go.Proofs.YtpcgklagmcnhaaaGreat
open Go.RowKit Go.Maps
namespace Plain
end Plain
theorem row_made {w : World} {B fb n c : Nat} (h : w.ownsRow B 3 1 (.slice (some ⟨fb, 0, none⟩) n c) n (madeCells (Value.int .i64 0).cells (n * 1)).toList) (hn : n < 4294967296) : RowAt w B (.slice (some ⟨fb, 0, none⟩) n c) (List.replicate n 0) := by
 have e1 : (madeCells (Value.int .i64 0).cells (n * 1)).toList = ints (List.replicate n 0) := by
  show (madeCells #[Value.int .i64 0] (n * 1)).toList = _
  rw [Nat.mul_one, toList_madeCells_one]
  simp [ints]
 rw [e1] at h
 refine ⟨by rw [List.length_replicate]; exact h, fun x hx => ?_, by rw [List.length_replicate]; exact hn⟩
 have := List.eq_of_mem_replicate hx
 subst this
 exact I64.mk (by omega) (by omega)
theorem two_boxes (w : World) {g : Plain.Gr} {p : Plain.Pt} {eo ao bo : Option Addr} {cap ac bc : Nat} {w2 : World} (h : Chg [] ((w.alloc (.cells #[.int .i64 g.n, .slice eo g.e.length cap] 41)).alloc (.cells #[.slice ao p.v.length ac, .slice bo p.e.length bc] 43)) w2) :
  w2.cell? ⟨w.heap.size, 0, none⟩ = some (.int .i64 g.n) ∧ w2.cell? ⟨w.heap.size, 1, none⟩ = some (.slice eo g.e.length cap) ∧ w2.cell? ⟨w.heap.size + 1, 0, none⟩ = some (.slice ao p.v.length ac) ∧ w2.cell? ⟨w.heap.size + 1, 1, none⟩ = some (.slice bo p.e.length bc) ∧ w.heap.size + 2 ≤ w2.heap.size := by
 obtain ⟨hb1, hb2, -⟩ := box_two w #[.int .i64 g.n, .slice eo g.e.length cap] #[.slice ao p.v.length ac, .slice bo p.e.length bc] 41 43
 have hs := h.size
 exact ⟨h.cell ((cell_of_row _ _ 0 _ _ _ hb1).trans rfl) (by simp), h.cell ((cell_of_row _ _ 1 _ _ _ hb1).trans rfl) (by simp), h.cell ((cell_of_row _ _ 0 _ _ _ hb2).trans rfl) (by simp), h.cell ((cell_of_row _ _ 1 _ _ _ hb2).trans rfl) (by simp), by grind⟩
theorem box_gp {w : World} {vg vp : Value} {g : Plain.Gr} {p : Plain.Pt} (hg : GrAt w vg g) (hp : PtAt w vp p) : ∃ eo cap ao ac bo bc, vg = .agg #[.int .i64 g.n, .slice eo g.e.length cap] ∧ vp = .agg #[.slice ao p.v.length ac, .slice bo p.e.length bc] ∧ Hid (GrAt w (.agg #[.int .i64 g.n, .slice eo g.e.length cap]) g) ∧ Hid (PtAt w (.agg #[.slice ao p.v.length ac, .slice bo p.e.length bc]) p) ∧ g.e.length ≤ 9223372036854775807 ∧ p.v.length ≤ 9223372036854775807 ∧ p.e.length ≤ 9223372036854775807 ∧
  Hid (p.v ≠ [] → ∃ b off, ao = some ⟨b, off, none⟩ ∧ ∀ i, i < p.v.length → w.cell? ⟨b, off + i, none⟩ = some (.int .i64 (p.v.getD i 0))) ∧ Hid (p.e ≠ [] → ∃ b off, bo = some ⟨b, off, none⟩ ∧ ∀ i, i < p.e.length → w.cell? ⟨b, off + i, none⟩ = some (.int .i64 (p.e.getD i 0))) ∧ Hid (∀ x ∈ p.v, I64 x) ∧ Hid (∀ x ∈ p.e, I64 x) ∧
  Hid (Chg [] w ((w.alloc (.cells #[.int .i64 g.n, .slice eo g.e.length cap] 41)).alloc (.cells #[.slice ao p.v.length ac, .slice bo p.e.length bc] 43))) ∧ Hid (∀ w2, Chg [] ((w.alloc (.cells #[.int .i64 g.n, .slice eo g.e.length cap] 41)).alloc (.cells #[.slice ao p.v.length ac, .slice bo p.e.length bc] 43)) w2 →
   w2.cell? ⟨w.heap.size, 0, none⟩ = some (.int .i64 g.n) ∧ w2.cell? ⟨w.heap.size, 1, none⟩ = some (.slice eo g.e.length cap) ∧ w2.cell? ⟨w.heap.size + 1, 0, none⟩ = some (.slice ao p.v.length ac) ∧ w2.cell? ⟨w.heap.size + 1, 1, none⟩ = some (.slice bo p.e.length bc) ∧ w.heap.size + 2 ≤ w2.heap.size) := by
 have hg0 := hg
 have hp0 := hp
 obtain ⟨eo, cap, rfl, -, hm, -, -⟩ := hg
 obtain ⟨v1, v2, rfl, hv, he⟩ := hp
 obtain ⟨ao, ac, rfl, has, ham, hacell⟩ := hv
 obtain ⟨bo, bc, rfl, hbs, hbm, hbcell⟩ := he
 exact ⟨eo, cap, ao, ac, bo, bc, rfl, rfl, Lib.hid hg0, Lib.hid hp0, hm, ham, hbm, Lib.hid hacell, Lib.hid hbcell, Lib.hid has, Lib.hid hbs, Lib.hid (box_two w _ _ _ _).2.2, Lib.hid fun w2 h => two_boxes w h⟩
end Go.Proofs.YtpcgklagmcnhaaaGreat
-- READS ONLY
namespace Go.Proofs.YtpcgklagmcnhaaaGreat
open Go.RowKit Go.Maps
namespace Plain
noncomputable def pieceIx (g : Gr) (p : Pt) (v : Int) : Nat := (roots g p).findIdx fun r => decide (v ∈ comp g p r)
theorem pieceIx_eq {g : Gr} {p : Pt} (hp : PartOk g p) {v : Int} {n : Nat} (hn : n < (roots g p).length) (hv : v ∈ comp g p ((roots g p).getD n 0)) : pieceIx g p v = n := by
 unfold pieceIx
 have h1 : (roots g p).findIdx (fun r => decide (v ∈ comp g p r)) < (roots g p).length := List.findIdx_lt_length_of_exists ⟨_, getD_mem hn, decide_eq_true hv⟩
 have h2 := List.findIdx_getElem (w := h1)
 have h3 : v ∈ comp g p ((roots g p).getD ((roots g p).findIdx fun r => decide (v ∈ comp g p r)) 0) := by
  have := of_decide_eq_true h2
  simpa [List.getD, h1] using this
 exact comp_one hp (fun r hr => hr) (roots_nodup hp) hn h1 (mem_comp.1 hv).2 h3
end Plain
theorem St.Ok.idx_lt {s : St} {x : Int} (h : x ∈ s.all) : s.all.idxOf x < s.all.length := by grind
theorem St.Ok.hd_lt {s : St} (h : s.Ok) {x : Int} (hx : x ∈ s.all) : s.hd (s.all.idxOf x) < s.all.length := by
 have := h.le (s.all.idxOf x) (by rw [← h.len]; exact St.Ok.idx_lt hx)
 grind
theorem St.put_put_mem (s : St) (x y : Int) : x ∈ ((s.put x).put y).all ∧ y ∈ ((s.put x).put y).all := by grind [St.mem_put_of, St.mem_put]
theorem St.join_in {s : St} {x y : Int} (hx : x ∈ s.all) (hy : y ∈ s.all) : s.join x y = ⟨s.all, relabel s.grp (s.hd (s.all.idxOf x)) (s.hd (s.all.idxOf y))⟩ ∧ s.joins x y = (s.hd (s.all.idxOf x) != s.hd (s.all.idxOf y)) := by
 grind [St.put_in, St.join, St.joins]
theorem St.join_count {s : St} (hs : s.Ok) {x y : Int} (hx : x ∈ s.all) (hy : y ∈ s.all) : s.count = (s.join x y).count + if s.joins x y then 1 else 0 := by
 obtain ⟨e1, e2⟩ := St.join_in hx hy
 rw [e1, e2]
 have h1 := hs.le (s.all.idxOf x) (by rw [← hs.len]; exact St.Ok.idx_lt hx)
 have h2 := hs.le (s.all.idxOf y) (by rw [← hs.len]; exact St.Ok.idx_lt hy)
 have k1 := St.Ok.idx_lt hx
 have k2 := St.Ok.idx_lt hy
 rw [hs.len] at k1 k2
 have o1 := hs.own _ k1
 have o2 := hs.own _ k2
 generalize s.hd (s.all.idxOf x) = i at *
 generalize s.hd (s.all.idxOf y) = j at *
 by_cases e : i = j
 ·subst e
  rw [relabel_self]
  simp
 have := St.count_relabel (all := s.all) (grp := s.grp) (by omega : i < s.grp.length) (by omega : j < s.grp.length) o1 o2 e
 have e3 : (i != j) = true := by rw [bne_iff_ne]; exact e
 rw [e3, if_pos rfl]
 exact this
theorem St.Ok.up {s : St} (h : s.Ok) : Up s.grp s.grp := ⟨rfl, fun i hi => ⟨h.le i hi, by
 have := h.own i hi
 simp only [St.hd] at this
 split
 ·assumption
 exact this.symm⟩⟩
theorem St.Ok.put {s : St} (h : s.Ok) (x : Int) : (s.put x).Ok := by
 by_cases hx : x ∈ s.all
 ·rwa [St.put_in hx]
 rw [St.put_new hx]
 have hu := h.up.put
 have hl := h.len
 refine ⟨by simp [hl], by rw [List.nodup_append]; exact ⟨h.nodup, by simp, by intro a ha b hb; simp at hb; subst hb; rintro rfl; exact hx ha⟩, fun i hi => ?_, fun i hi => ?_⟩
 ·have := hu.le i (by simpa using hi); simpa [St.hd, hl] using this.1
 have := hu.own (i := i) (by simpa using hi); simpa [St.hd, hl] using this
theorem St.Ok.join {s : St} (h : s.Ok) (x y : Int) : (s.join x y).Ok := by
 have ht := (h.put x).put y
 have hm := s.put_put_mem x y
 show St.Ok ⟨((s.put x).put y).all, relabel ((s.put x).put y).grp (((s.put x).put y).hd (((s.put x).put y).all.idxOf x)) (((s.put x).put y).hd (((s.put x).put y).all.idxOf y))⟩
 generalize (s.put x).put y = t at *
 have hi := ht.hd_lt hm.1
 have hj := ht.hd_lt hm.2
 have ei := ht.own (t.all.idxOf x) (by rw [← ht.len]; exact List.idxOf_lt_length_iff.2 hm.1)
 have ej := ht.own (t.all.idxOf y) (by rw [← ht.len]; exact List.idxOf_lt_length_iff.2 hm.2)
 generalize t.hd (t.all.idxOf x) = a at *
 generalize t.hd (t.all.idxOf y) = b at *
 by_cases hab : a = b
 ·subst hab
  rw [relabel_self]
  exact ht
 have hu := ht.up.join (i := a) (j := b) (by rw [← ht.len]; exact hi) (by rw [← ht.len]; exact hj) ei ej hab
 have hl : (relabel t.grp a b).length = t.grp.length := by simp [relabel]
 refine ⟨by simp only [hl, ht.len], ht.nodup, fun i hi => ?_, fun i hi => ?_⟩
 ·exact (hu.le i (by grind)).1
 exact hu.own (by grind)
end Go.Proofs.YtpcgklagmcnhaaaGreat
namespace Go.Proofs.YtpcgklagmcnhaaaGreat
namespace Plain
def keyStep (ow : Int → Option Int) (l : List Int) (k : Nat) (st : St × List Int) : Option (St × List Int) :=
 match ow (l.getD k 0) with
 | none => none
 | some a =>
  if l.getD k 0 ∈ st.2 ∨ (0 < k ∧ l.getD k 0 ≤ l.getD (k - 1) 0) then none
  else if 0 < k then (if st.1.joins ((ow (l.getD 0 0)).getD 0) a then some (st.1.join ((ow (l.getD 0 0)).getD 0) a, st.2 ++ [l.getD k 0]) else none)
  else some (st.1, st.2 ++ [l.getD k 0])
def listRun (ow : Int → Option Int) (l : List Int) (st : St × List Int) : Nat → Option (St × List Int)
 | 0 => some st
 | k + 1 => (listRun ow l st k).bind (keyStep ow l k)
def listBad (same : List (List Int)) (i : Nat) : Prop := (same.getD i []).length < 2 ∨ (0 < i ∧ (same.getD i []).getD 0 0 ≤ (same.getD (i - 1) []).getD 0 0)
instance (same : List (List Int)) (i : Nat) : Decidable (listBad same i) := by unfold listBad; infer_instance
def sameRun (ow : Int → Option Int) (same : List (List Int)) (st : St × List Int) : Nat → Option (St × List Int)
 | 0 => some st
 | i + 1 => (sameRun ow same st i).bind fun c => if listBad same i then none else listRun ow (same.getD i []) c (same.getD i []).length
def upTo (n : Nat) : List Int := (List.range n).map fun (i : Nat) => (i : Int)
theorem keyStep_some {ow : Int → Option Int} {l : List Int} {k : Nat} {st d : St × List Int} (h : keyStep ow l k st = some d) :
  ∃ a, ow (l.getD k 0) = some a ∧ l.getD k 0 ∉ st.2 ∧ (0 < k → l.getD (k - 1) 0 < l.getD k 0) ∧ d.2 = st.2 ++ [l.getD k 0] ∧ ((k = 0 ∧ d.1 = st.1) ∨ (0 < k ∧ st.1.joins ((ow (l.getD 0 0)).getD 0) a = true ∧ d.1 = st.1.join ((ow (l.getD 0 0)).getD 0) a)) := by
 unfold keyStep at h
 cases ha : ow (l.getD k 0) with
 | none => rw [ha] at h; cases h
 | some a =>
  rw [ha] at h
  dsimp only at h
  split at h
  ·cases h
  rename_i q
  have q1 : l.getD k 0 ∉ st.2 := fun x => q (Or.inl x)
  have q2 : 0 < k → l.getD (k - 1) 0 < l.getD k 0 := fun x => by
   by_cases y : l.getD k 0 ≤ l.getD (k - 1) 0
   ·exact absurd (Or.inr ⟨x, y⟩) q
   omega
  split at h
  ·rename_i hk
   split at h
   ·rename_i hj
    cases h
    exact ⟨a, rfl, q1, q2, rfl, Or.inr ⟨hk, hj, rfl⟩⟩
   cases h
  rename_i hk
  cases h
  exact ⟨a, rfl, q1, q2, rfl, Or.inl ⟨by omega, rfl⟩⟩
structure PlanOk (ow : Int → Option Int) (n : Nat) (t : Nat) (c : St × List Int) : Prop where
 ok : c.1.Ok
 all : c.1.all = upTo n
 num : c.1.count + c.2.length = n + t
 nodup : c.2.Nodup
 has : ∀ k ∈ c.2, (ow k).isSome = true
theorem mem_upTo {n : Nat} {a : Int} : a ∈ upTo n ↔ 0 ≤ a ∧ a < n := by
 unfold upTo
 rw [List.mem_map]
 constructor
 ·rintro ⟨i, hi, rfl⟩; have := List.mem_range.1 hi; omega
 intro h; exact ⟨a.toNat, List.mem_range.2 (by omega), by omega⟩
theorem St.new_upTo (n : Nat) : St.new (upTo n) = ⟨upTo n, List.range n⟩ := by
 induction n with
 | zero => rfl
 | succ n ih =>
  have e : upTo (n + 1) = upTo n ++ [(n : Int)] := by unfold upTo; rw [List.range_succ, List.map_append]; rfl
  have hn : (n : Int) ∉ upTo n := fun h => by have := mem_upTo.1 h; omega
  unfold St.new at ih ⊢
  rw [e, List.foldl_append, ih]
  show St.put _ _ = _
  rw [St.put_new hn]
  show St.mk _ _ = _
  congr 1
  rw [List.range_succ]
  congr 1
  simp [upTo]
theorem PlanOk.start (ow : Int → Option Int) (n : Nat) : PlanOk ow n 0 (St.new (upTo n), []) := by
 rw [St.new_upTo]
 refine ⟨⟨by simp [upTo], ?_, fun i hi => ?_, fun i hi => ?_⟩, rfl, ?_, List.nodup_nil, by simp⟩
 ·show (upTo n).Nodup
  unfold upTo
  exact List.Pairwise.map _ (fun a b hab => by omega) (List.nodup_range (n := n))
 ·have hi : i < n := by simpa using hi
  simp [St.hd, List.getD, hi]
 ·have hi : i < n := by simpa using hi
  simp [St.hd, List.getD, hi]
 show List.countP _ _ + 0 = _
 rw [List.length_range, List.countP_eq_length.2 ?_]
 ·simp
 intro i hi
 have hi := List.mem_range.1 hi
 simp [List.getD, hi]
theorem keyStep_ok {ow : Int → Option Int} {n t k : Nat} {l : List Int} {c d : St × List Int} (hb : ∀ y a, ow y = some a → 0 ≤ a ∧ a < n) (h0 : 0 < k → (ow (l.getD 0 0)).isSome = true) (hc : PlanOk ow n t c) (h : keyStep ow l k c = some d) : PlanOk ow n (if k = 0 then t + 1 else t) d := by
 obtain ⟨a, ha, hm, -, e2, e1⟩ := keyStep_some h
 have hnd : d.2.Nodup := by
  rw [e2, List.nodup_append]
  exact ⟨hc.nodup, by simp, fun x hx y hy => by rw [List.mem_singleton.1 hy]; intro q; exact hm (q ▸ hx)⟩
 have hhas : ∀ y ∈ d.2, (ow y).isSome = true := by
  intro y hy
  rw [e2, List.mem_append] at hy
  rcases hy with hy | hy
  ·exact hc.has y hy
  rw [List.mem_singleton.1 hy, ha]; rfl
 have hl : d.2.length = c.2.length + 1 := by rw [e2]; simp
 have hnum := hc.num
 rcases e1 with ⟨hk, e1⟩ | ⟨hk, hj, e1⟩
 ·rw [if_pos hk]
  exact ⟨by rw [e1]; exact hc.ok, by rw [e1]; exact hc.all, by rw [e1, hl]; omega, hnd, hhas⟩
 rw [if_neg (by omega)]
 obtain ⟨b, hob⟩ := Option.isSome_iff_exists.1 (h0 hk)
 rw [hob] at hj e1
 have ma : a ∈ c.1.all := by rw [hc.all, mem_upTo]; exact hb _ _ ha
 have mb : b ∈ c.1.all := by rw [hc.all, mem_upTo]; exact hb _ _ hob
 have hcnt := St.join_count hc.ok mb ma
 have hj : c.1.joins b a = true := hj
 rw [if_pos hj] at hcnt
 have e1 : d.1 = c.1.join b a := e1
 refine ⟨by rw [e1]; exact hc.ok.join _ _, by rw [e1, (St.join_in mb ma).1]; exact hc.all, by rw [e1, hl]; omega, hnd, hhas⟩
theorem listRun_ok {ow : Int → Option Int} {n t : Nat} {l : List Int} {c : St × List Int} (hb : ∀ y a, ow y = some a → 0 ≤ a ∧ a < n) (hc : PlanOk ow n t c) : ∀ k d, listRun ow l c k = some d →
  PlanOk ow n (if k = 0 then t else t + 1) d ∧ d.2 = c.2 ++ (List.range k).map (fun i => l.getD i 0) ∧ (0 < k → (ow (l.getD 0 0)).isSome = true) ∧ (∀ i, i + 1 < k → l.getD i 0 < l.getD (i + 1) 0)
 | 0, d, h => by
  cases h
  exact ⟨hc, by simp, by omega, by omega⟩
 | k + 1, d, h => by
  have h : (listRun ow l c k).bind (keyStep ow l k) = some d := h
  cases hm : listRun ow l c k with
  | none => rw [hm] at h; cases h
  | some m =>
   rw [hm] at h
   have h : keyStep ow l k m = some d := h
   obtain ⟨i1, i2, i3, i4⟩ := listRun_ok hb hc k m hm
   have := keyStep_ok hb i3 i1 h
   obtain ⟨a, ha, -, hr, e2, -⟩ := keyStep_some h
   refine ⟨?_, ?_, ?_, ?_⟩
   ·rw [if_neg (by omega)]
    by_cases e : k = 0
    ·rw [if_pos e, if_pos e] at this; exact this
    rw [if_neg e, if_neg e] at this; exact this
   ·rw [e2, i2, List.range_succ, List.map_append, List.append_assoc]; rfl
   ·intro _
    by_cases e : k = 0
    ·rw [← e, ha]; rfl
    exact i3 (by omega)
   intro i hi
   by_cases e : i + 1 = k
   ·subst e; exact hr (by omega)
   exact i4 i (by omega)
theorem getD_get (l : List Int) {i : Nat} (h : i < l.length) : l.getD i 0 = l[i] := by simp [List.getD, h]
theorem getD_all (l : List Int) : (List.range l.length).map (fun i => l.getD i 0) = l := by
 apply List.ext_getElem
 ·simp
 intro i h1 h2
 simp [List.getD, h2]
theorem sameRun_ok {ow : Int → Option Int} {n : Nat} {same : List (List Int)} (hb : ∀ y a, ow y = some a → 0 ≤ a ∧ a < n) : ∀ i d, i ≤ same.length → sameRun ow same (St.new (upTo n), []) i = some d →
  PlanOk ow n i d ∧ d.2 = (same.take i).flatten ∧ (∀ j, j < i → ¬ listBad same j ∧ (same.getD j []).Pairwise (· < ·))
 | 0, d, _, h => by
  cases h
  exact ⟨PlanOk.start ow n, by simp, by omega⟩
 | i + 1, d, hi, h => by
  have h : (sameRun ow same (St.new (upTo n), []) i).bind _ = some d := h
  cases hm : sameRun ow same (St.new (upTo n), []) i with
  | none => rw [hm] at h; cases h
  | some m =>
   rw [hm] at h
   have h : (if listBad same i then none else listRun ow (same.getD i []) m (same.getD i []).length) = some d := h
   split at h
   ·cases h
   rename_i hbad
   obtain ⟨i1, i2, i3⟩ := sameRun_ok hb i m (by omega) hm
   obtain ⟨j1, j2, -, j4⟩ := listRun_ok hb i1 _ d h
   have hl : 2 ≤ (same.getD i []).length := by unfold listBad at hbad; omega
   rw [if_neg (by omega)] at j1
   refine ⟨j1, ?_, ?_⟩
   ·rw [j2, i2, getD_all, List.take_succ_eq_append_getElem (by omega), List.flatten_append]
    have : same.getD i [] = same[i] := by simp [List.getD, show i < same.length by omega]
    rw [this]; simp
   intro j hj
   by_cases e : j = i
   ·subst e
    refine ⟨hbad, ?_⟩
    rw [List.pairwise_iff_getElem]
    intro a b ha hb' hab
    have mono : ∀ y x, x < y → y < (same.getD j []).length → (same.getD j []).getD x 0 < (same.getD j []).getD y 0 := by
     intro y
     induction y with
     | zero => intro x hx; omega
     | succ y ih =>
      intro x hx hy
      have h1 := j4 y (by omega)
      by_cases e : x = y
      ·subst e; exact h1
      have := ih x (by omega) (by omega); omega
    have := mono b a hab hb'
    rw [getD_get _ ha, getD_get _ hb'] at this
    exact this
   exact i3 j (by omega)
end Plain
end Go.Proofs.YtpcgklagmcnhaaaGreat
namespace Go.Proofs.YtpcgklagmcnhaaaGreat
open Go.RowKit Go.Maps
theorem heap_lt {w : World} {b : Nat} {o : Obj} (h : w.heap[b]? = some o) : b < w.heap.size := (Array.getElem?_eq_some_iff.1 h).1
theorem owns_lt {w : World} {v : Value} {n : Nat} {xs : List Value} {e : TypeId} {size base : Nat} (h : w.ownsRow base e size v n xs) {b : Nat} (hb : v.ownBlock = some b) : b < w.heap.size := by
 rcases h.2 with ⟨rfl, rfl⟩ | ⟨g, cap, cur, rfl, -, hh, -⟩
 ·cases hb
 cases hb; exact heap_lt hh
theorem SetsObj.lt {w : World} {own : List Nat} {pb : Nat} {s : St} (h : SetsObj w pb own s) : ∀ j ∈ own, j < w.heap.size := by
 obtain ⟨mb, tv, uv, up, h, rfl⟩ := h
 intro j hj
 simp only [SetsAt.blocks, List.mem_append, List.mem_cons, List.not_mem_nil, or_false, Option.mem_toList] at hj
 rcases hj with ((rfl | rfl) | q) | q
 ·exact heap_lt h.cells
 ·exact h.map.lt
 ·exact owns_lt h.things q
 exact owns_lt h.ups q
end Go.Proofs.YtpcgklagmcnhaaaGreat
