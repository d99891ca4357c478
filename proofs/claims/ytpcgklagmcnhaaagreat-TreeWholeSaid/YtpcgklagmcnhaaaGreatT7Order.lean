/- package plan: the contract of order: the rows by their first numbers. Conditions: a slice of rows of the call's own, none of them empty. -/
import Derived.Test.YtpcgklagmcnhaaaGreatT7Pieces
-- READS ONLY
namespace Go.Proofs.YtpcgklagmcnhaaaGreat
open Go.RowKit Go.Maps
section
open Go.Sort
variable {α : Type} [Inhabited α]
theorem sorted_heap {enc : α → Value} {w : World} {g n : Nat} {os : Array Obj} {cur : Array Value} {e : TypeId} {fr : Nat × Nat} (d : Array α) (hb : w.heap[g]? = some (.cells cur e fr)) :
  (sortWorld enc w g 0 n d os).heap[g]? = some (.cells (putCells enc 0 d cur) e fr) := by
 have hg : g < w.heap.size := (Array.getElem?_eq_some_iff.1 hb).1
 unfold sortWorld
 rw [heap_grow_old _ _ (by simpa using hg)]
 simp [putRow, mapBlock, Sort.ahead, Array.getElem?_modify, hb, onCells]
theorem sorted_chg (enc : α → Value) (w : World) (g n : Nat) (os : Array Obj) (d : Array α) : Chg [g] w (sortWorld enc w g 0 n d os) := by
 refine ⟨rfl, rfl, rfl, by simp [sortWorld], fun k hk hne => ?_⟩
 unfold sortWorld
 rw [heap_grow_old _ _ (by simpa using hk)]
 have : g ≠ k := fun e => hne (by simp [e])
 simp [putRow, mapBlock, Sort.ahead, Array.getElem?_modify, this]
theorem sorted_take (enc : α → Value) (cur : Array Value) (d : Array α) (h : d.size ≤ cur.size) : (putCells enc 0 d cur).toList.take d.size = d.toList.map enc := by
 apply List.ext_getElem?
 intro j
 by_cases hj : j < d.size
 ·rw [List.getElem?_take_of_lt hj, Array.getElem?_toList]
  simp [putCells, hj, show j < cur.size by omega]
 all_goals grind
theorem sorted_owns {enc : α → Value} {w : World} {base g cap n : Nat} {e : TypeId} {os : Array Obj} {xs : List Value} {d : Array α} (h : w.ownsRow base e 1 (.slice (some ⟨g, 0, none⟩) xs.length cap) xs.length xs) (hd : d.size = xs.length) :
  (sortWorld enc w g 0 n d os).ownsRow base e 1 (.slice (some ⟨g, 0, none⟩) xs.length cap) xs.length (d.toList.map enc) := by
 rcases h.2 with ⟨h, -⟩ | ⟨g', cap', cur, hv, hg, hh, h1, h2, h3, h4⟩
 ·cases h
 cases hv
 exact ⟨by simp [hd], .inr ⟨g, cap, _, rfl, hg, sorted_heap d hh, h1, h2, by simp [putCells, h3], by rw [Nat.mul_one, ← hd]; exact sorted_take enc cur d (by omega)⟩⟩
theorem sorted_holds {enc : α → Value} {w : World} {base g cap : Nat} {e : TypeId} {xs : List Value} {d : Array α} (h : w.ownsRow base e 1 (.slice (some ⟨g, 0, none⟩) xs.length cap) xs.length xs) (hd : d.toList.map enc = xs) : Holds enc w g 0 d := by
 have hs : d.size = xs.length := by rw [← hd]; simp
 rcases h.2 with ⟨h, -⟩ | ⟨g', cap', cur, hv, hg, hh, h1, h2, h3, h4⟩
 ·cases h
 cases hv
 intro j hj
 refine ⟨?_, by simp [World.frozen?, hh]⟩
 have e1 : (cur.toList.take (xs.length * 1))[j]? = xs[j]? := by rw [h4]
 rw [List.getElem?_take_of_lt (by omega)] at e1
 simp only [World.cell?, hh, Nat.zero_add, Option.isSome_none, Bool.false_eq_true, if_false]
 rw [← Array.getElem?_toList, e1, ← hd]
 simp [hj]
end
theorem nan_any (x : Int) (w : World) : Calls Tryz.prog 116 #[.int .i64 x] w fun e w' => e = .returned (.bool false) ∧ w = w' := by
 have b1 : (x != x) = false := by simp
 go_enter Tryz.func116, Tryz.ntmps116
 go_wp2
 go_ret
 exact ⟨rfl, rfl⟩
theorem compare_any (x y : Int) (w : World) : Calls Tryz.prog 69 #[.int .i64 x, .int .i64 y] w fun e w' => e = .returned (.int .i64 (Lib.compareInt x y)) ∧ w = w' := by
 have HC := Lib.hid (show Lib.compareInt x y = if x < y then -1 else if y < x then 1 else 0 from rfl)
 go_enter Tryz.func69, Tryz.ntmps69
 go_wp2_with fail
 refine (nan_any x _).mono ?_
 rintro e w1 ⟨rfl, rfl⟩
 go_wp2_with fail
 refine (nan_any y _).mono ?_
 rintro e w1 ⟨rfl, rfl⟩
 by_cases h1 : x < y
 ·have HR := Lib.hid (show Lib.compareInt x y = -1 by rw [HC.out, if_pos h1])
  have b1 : decide (x < y) = true := decide_eq_true h1
  go_wp2
  go_ret
  exact ⟨ret_int HR.out.symm, rfl⟩
 by_cases h2 : y < x
 ·have HR := Lib.hid (show Lib.compareInt x y = 1 by rw [HC.out, if_neg h1, if_pos h2])
  have b1 : decide (x < y) = false := decide_eq_false h1
  have b2 : decide (x > y) = true := decide_eq_true h2
  go_wp2
  go_ret
  exact ⟨ret_int HR.out.symm, rfl⟩
 have HR := Lib.hid (show Lib.compareInt x y = 0 by rw [HC.out, if_neg h1, if_neg h2])
 have b1 : decide (x < y) = false := decide_eq_false h1
 have b2 : decide (x > y) = false := decide_eq_false h2
 go_wp2
 go_ret
 exact ⟨ret_int HR.out.symm, rfl⟩
namespace Plain
def singles (W : List Face) (met : List Int) : List (List Int) := (W.filter fun f => decide (f.1 ∉ met)).map fun f => [f.1]
theorem sameRun_two {ow : Int → Option Int} {same : List (List Int)} {st : St × List Int} : ∀ i d, sameRun ow same st i = some d → ∀ j, j < i → ¬ listBad same j
 | 0, _, _ => by omega
 | i + 1, d, h => by
  have h : (sameRun ow same st i).bind _ = some d := h
  cases hm : sameRun ow same st i with
  | none => rw [hm] at h; cases h
  | some m =>
   rw [hm] at h
   have h : (if listBad same i then none else listRun ow (same.getD i []) m (same.getD i []).length) = some d := h
   split at h
   ·cases h
   rename_i hbad
   intro j hj
   by_cases e : j = i
   ·subst e; exact hbad
   exact sameRun_two i m hm j (by omega)
end Plain
end Go.Proofs.YtpcgklagmcnhaaaGreat
-- READS ONLY
namespace Go.Proofs.YtpcgklagmcnhaaaGreat
open Go.RowKit Go.Maps
namespace Plain
end Plain
end Go.Proofs.YtpcgklagmcnhaaaGreat
namespace Go.Proofs.YtpcgklagmcnhaaaGreat
namespace Plain
def g0 : Gr := ⟨2, []⟩
def p0 : Pt := ⟨[0, 1], []⟩
def t0 : List (List Int) := [[], []]
def s0 : List (List Int) := [[-2, -1]]
def w0 : List Face := [(-2, []), (-1, [])]
end Plain
end Go.Proofs.YtpcgklagmcnhaaaGreat
namespace Go.Proofs.YtpcgklagmcnhaaaGreat
open Go.RowKit Go.Maps
theorem Plain.upTo_succ (n : Nat) : Plain.upTo (n + 1) = Plain.upTo n ++ [(n : Int)] := by unfold Plain.upTo; rw [List.range_succ, List.map_append]; rfl
theorem Plain.upTo_len (n : Nat) : (Plain.upTo n).length = n := by simp [Plain.upTo]
theorem OutAt.put0 {w wa w7 : World} {B ob : Nat} {u1 u2 v : Value} {V E m : List Int} (ho : w.heap[ob]? = some (.cells #[u1, u2] 43 (0, 0))) (h1 : RowAt w B u1 V) (h2 : RowAt w B u2 E) (hap : ∀ j ∈ foot u1, j ∉ foot u2) (hB : B ≤ ob) (ca : Chg [] w wa) (c7 : Chg (foot u1) wa w7) (r7 : RowAt w7 B v m) (f7 : ∀ j ∈ foot v, j ∈ foot u1 ∨ wa.heap.size ≤ j) :
  OutAt (w7.setCell ⟨ob, 0, none⟩ v) B ob m E ∧ Chg (ob :: foot u1) w (w7.setCell ⟨ob, 0, none⟩ v) := by
 have nob : ∀ {w : World} {u : Value} {q : List Int} {x y : Value}, w.heap[ob]? = some (.cells #[x, y] 43 (0, 0)) → RowAt w B u q → ob ∉ foot u := fun hh h e => by
  grind [row_kind]
 have ho7 := c7.heap (ca.heap ho (by simp)) (nob ho h1)
 have hset : Chg [ob] w7 (w7.setCell ⟨ob, 0, none⟩ v) := (Chg.refl _ w7).setCell (Or.inl (by simp)) _
 have h27 := (h2.chg ca (by simp)).chg c7 (fun b hb e => hap b e (by rw [h2.foot]; exact hb))
 have keep : ∀ {u : Value} {q : List Int}, RowAt w7 B u q → RowAt (w7.setCell ⟨ob, 0, none⟩ v) B u q := fun h => h.chg hset (fun b hb e => by
  simp at e; subst e
  exact nob ho7 h (by rw [h.foot]; exact hb))
 refine ⟨⟨v, u2, heap_setCell_same ho7 0 v, keep r7, keep h27, fun j hj e => ?_, hB⟩, ((ca.mono (by simp)).trans (c7.mono (own' := ob :: foot u1) (fun j hj => Or.inl (List.mem_cons_of_mem _ hj))) (fun j hj => Or.inl hj)).trans (hset.mono (own' := ob :: foot u1) (fun j hj => Or.inl (by grind))) (fun j hj => Or.inl hj)⟩
 rcases f7 j hj with q | q
 ·exact hap j q e
 have := (h2.low j (by rw [← h2.foot]; exact e)).2
 have := ca.size
 omega
theorem OutAt.put1 {w wa w7 : World} {B ob : Nat} {u1 u2 v : Value} {V E m : List Int} (ho : w.heap[ob]? = some (.cells #[u1, u2] 43 (0, 0))) (h1 : RowAt w B u1 V) (h2 : RowAt w B u2 E) (hap : ∀ j ∈ foot u1, j ∉ foot u2) (hB : B ≤ ob) (ca : Chg [] w wa) (c7 : Chg (foot u2) wa w7) (r7 : RowAt w7 B v m) (f7 : ∀ j ∈ foot v, j ∈ foot u2 ∨ wa.heap.size ≤ j) :
  OutAt (w7.setCell ⟨ob, 1, none⟩ v) B ob V m ∧ Chg (ob :: foot u2) w (w7.setCell ⟨ob, 1, none⟩ v) := by
 have nob : ∀ {w : World} {u : Value} {q : List Int} {x y : Value}, w.heap[ob]? = some (.cells #[x, y] 43 (0, 0)) → RowAt w B u q → ob ∉ foot u := fun hh h e => by
  grind [row_kind]
 have ho7 := c7.heap (ca.heap ho (by simp)) (nob ho h2)
 have hset : Chg [ob] w7 (w7.setCell ⟨ob, 1, none⟩ v) := (Chg.refl _ w7).setCell (Or.inl (by simp)) _
 have h27 := (h1.chg ca (by simp)).chg c7 (fun b hb e => hap b (by rw [h1.foot]; exact hb) e)
 have keep : ∀ {u : Value} {q : List Int}, RowAt w7 B u q → RowAt (w7.setCell ⟨ob, 1, none⟩ v) B u q := fun h => h.chg hset (fun b hb e => by
  simp at e; subst e
  exact nob ho7 h (by rw [h.foot]; exact hb))
 refine ⟨⟨u1, v, heap_setCell_same ho7 1 v, keep h27, keep r7, fun j hj e => ?_, hB⟩, ((ca.mono (by simp)).trans (c7.mono (own' := ob :: foot u2) (fun j hj => Or.inl (List.mem_cons_of_mem _ hj))) (fun j hj => Or.inl hj)).trans (hset.mono (own' := ob :: foot u2) (fun j hj => Or.inl (by grind))) (fun j hj => Or.inl hj)⟩
 rcases f7 j e with q | q
 ·exact hap j hj q
 have := (h1.low j (by rw [← h1.foot]; exact hj)).2
 have := ca.size
 omega
set_option maxRecDepth 100000 in
set_option maxHeartbeats 4000000 in
theorem whole_any (vg : Value) (g : Plain.Gr) (N : Nat) (w : World) (hN : g.n = (N : Int)) (hNb : N ≤ 100000) (hE : g.e.length ≤ 100000) (hg : GrAt w vg g) :
  Calls Tryz.prog 28 #[vg] w fun e w' => ∃ v1 v2, e = .returned (.agg #[v1, v2]) ∧ RowAt w' w.heap.size v1 (Plain.upTo N) ∧ RowAt w' w.heap.size v2 (Plain.upTo g.e.length) ∧ Chg [] w w' := by
 obtain ⟨eo, cap, rfl, -, -, -, -⟩ := hg
 rw [hN]
 have X0 := Lib.hid ((cell_of_row _ _ 0 _ _ _ (heap_alloc_new w (.cells #[.int .i64 N, .slice eo g.e.length cap] 41))).trans (show _ = some (Value.int .i64 N) from rfl))
 have X1 := Lib.hid ((cell_of_row _ _ 1 _ _ _ (heap_alloc_new w (.cells #[.int .i64 N, .slice eo g.e.length cap] 41))).trans (show _ = some (Value.slice eo g.e.length cap) from rfl))
 have HGB := Lib.hid (heap_alloc_new w (.cells #[.int .i64 N, .slice eo g.e.length cap] 41))
 have HC1 := Lib.hid ((Chg.refl [] w).alloc (.cells #[.int .i64 N, .slice eo g.e.length cap] 41))
 obtain ⟨hr1, hr2, hc4⟩ := box_two (w.alloc (.cells #[.int .i64 N, .slice eo g.e.length cap] 41)) #[.slice none 0 0, .slice none 0 0] #[.slice none 0 0, .slice none 0 0] 43 43
 have hsz : (w.alloc (.cells #[.int .i64 N, .slice eo g.e.length cap] 41)).heap.size = w.heap.size + 1 := by simp
 rw [hsz] at hr1 hr2
 have HR1 := Lib.hid hr1
 have HC4 := Lib.hid hc4
 have HO := Lib.hid (show OutAt _ (w.heap.size + 1) (w.heap.size + 1 + 1) (Plain.upTo 0) (Plain.upTo 0) from ⟨_, _, hr2, ⟨World.ownsRow_nil _ _ _ _, by simp [Plain.upTo], by simp [Plain.upTo]⟩, ⟨World.ownsRow_nil _ _ _ _, by simp [Plain.upTo], by simp [Plain.upTo]⟩, by simp [foot, Value.ownBlock], by omega⟩)
 have HW1 := Lib.hid hsz
 clear hr1 hr2 hsz hc4 hN
 go_enter Tryz.func28, Tryz.ntmps28
 go_wp2
 generalize (((w.alloc (.cells #[.int .i64 N, .slice eo g.e.length cap] 41)).alloc (.cells #[.slice none 0 0, .slice none 0 0] 43)).alloc (.cells #[.slice none 0 0, .slice none 0 0] 43)) = w4 at *
 generalize (w.alloc (.cells #[.int .i64 N, .slice eo g.e.length cap] 41)) = w1 at *
 obtain ⟨E, hEE⟩ : ∃ E, g.e.length = E := ⟨_, rfl⟩
 have HEE := Lib.hid hEE
 rw [hEE] at hE X1 HGB ⊢
 clear hEE
 go_loopw [4] (fun c wr => ∃ k : Nat, k ≤ N ∧ c = .int .i64 k ∧ OutAt wr (w.heap.size + 1) (w.heap.size + 1 + 1) (Plain.upTo k) (Plain.upTo 0) ∧ Chg [] w1 wr ∧ wr.heap[w.heap.size + 1]? = some (.cells #[.slice none 0 0, .slice none 0 0] 43 (0, 0))) (fun c _ => N - (intOf c).toNat)
 case atStart => exact ⟨0, Nat.zero_le _, rfl, HO.out, HC4.out, HR1.out⟩
 case round =>
  obtain ⟨k, hk, rfl, hout, hc, hrb⟩ := hrel
  have HC := Lib.hid hc
  have HRB := Lib.hid hrb
  have HOUT := Lib.hid hout
  have xg := hc.cell X0.out (by grind)
  clear hrb hout
  by_cases hlt : k < N
  ·obtain ⟨u1, u2, ho, hr1, hr2, hap, hBo⟩ := HOUT.out
   obtain ⟨ua, uc, rfl⟩ := hr1.shape
   simp only [Plain.upTo_len] at ho hr1 hr2 hap
   have o0 := (cell_of_row _ _ 0 _ _ _ ho).trans (show _ = some (Value.slice ua k uc) from rfl)
   have n1 : w.heap.size + 1 + 1 ∉ foot (.slice ua k uc) := fun e => by grind [row_kind]
   have IK : I64 (k : Int) := by grind [I64.mk]
   have N1 := Lib.hid n1
   have HOO := Lib.hid ho
   have H1 := Lib.hid hr1
   have H2 := Lib.hid hr2
   have HAP := Lib.hid hap
   have CA := Lib.hid ((Chg.refl [] wr).alloc (.cells #[.int .i64 (k : Int)] 3))
   have HSZ := Lib.hid (show w.heap.size + 1 ≤ (wr.alloc (.cells #[.int .i64 (k : Int)] 3)).heap.size by have := HW1.out; have := HC.out.size; have := CA.out.size; omega)
   have HLI := Lib.hid (lit_ints wr IK)
   have HLEN := Lib.hid (show (Plain.upTo k).length + [(k : Int)].length < 4294967296 by grind [Plain.upTo_len])
   clear ho hr1 hr2 hap hBo n1 hc
   go_wp2_with (at_builtin; (refine wl_app_read rfl _ _ rfl (B := w.heap.size + 1) (v := .slice ua k uc) rfl rfl (H1.out.chg CA.out (by simp)) HLI.out HSZ.out HLEN.out ?_; intro v7 w7 r7 c7 f7; obtain ⟨vo, vc, rfl⟩ := r7.shape; have HO7 := Lib.hid (c7.heap (CA.out.heap HOO.out (by simp)) N1.out); have o7 := (cell_of_row _ _ 0 _ _ _ HO7.out).trans (show _ = some (Value.slice ua k uc) from rfl); have z7 : w7.frozen? ⟨w.heap.size + 1 + 1, 0, none⟩ = false := free_at HO7.out 0; have R7 := Lib.hid r7; have C7 := Lib.hid c7; have F7 := Lib.hid f7; clear r7 c7 f7 o0))
   have hput := OutAt.put0 HOO.out H1.out H2.out HAP.out (by omega) CA.out C7.out R7.out F7.out
   simp only [List.length_append, List.length_cons, List.length_nil, Nat.zero_add] at hput
   have hc2 := HC.out.trans hput.2 (fun j hj => Or.inr (by
    have := HW1.out
    rcases List.mem_cons.1 hj with rfl | hj
    ·omega
    have := (H1.out.low j (by grind [foot_slice])).1; omega))
   have hrb2 := hput.2.heap HRB.out (by
    intro e
    rcases List.mem_cons.1 e with e | e
    ·omega
    obtain ⟨cs, r, hh⟩ := row_kind H1.out _ e
    rw [HRB.out] at hh; simp at hh)
   exact ⟨⟨k + 1, by omega, by go_num, by grind [Plain.upTo_succ], hc2, hrb2⟩, by simp [intOf]; omega⟩
  have e : N = k := by omega
  subst e
  clear hc
  go_wp2
  clear xg
  go_loopw [5] (fun c wr => ∃ k : Nat, k ≤ E ∧ c = .int .i64 k ∧ OutAt wr (w.heap.size + 1) (w.heap.size + 1 + 1) (Plain.upTo N) (Plain.upTo k) ∧ Chg [] w1 wr ∧ wr.heap[w.heap.size + 1]? = some (.cells #[.slice none 0 0, .slice none 0 0] 43 (0, 0))) (fun c _ => E - (intOf c).toNat)
  case atStart => exact ⟨0, Nat.zero_le _, rfl, HOUT.out, HC.out, HRB.out⟩
  case round =>
   obtain ⟨k, hk, rfl, hout, hc, hrb⟩ := hrel
   have HC := Lib.hid hc
   have HRB := Lib.hid hrb
   have HOUT := Lib.hid hout
   have xg := hc.cell X1.out (by grind)
   clear hrb hout
   by_cases hlt : k < E
   ·obtain ⟨u1, u2, ho, hr1, hr2, hap, hBo⟩ := HOUT.out
    obtain ⟨ua, uc, rfl⟩ := hr2.shape
    simp only [Plain.upTo_len] at ho hr1 hr2 hap
    have o0 := (cell_of_row _ _ 1 _ _ _ ho).trans (show _ = some (Value.slice ua k uc) from rfl)
    have n1 : w.heap.size + 1 + 1 ∉ foot (.slice ua k uc) := fun e => by grind [row_kind]
    have IK : I64 (k : Int) := by grind [I64.mk]
    have N1 := Lib.hid n1
    have HOO := Lib.hid ho
    have H1 := Lib.hid hr1
    have H2 := Lib.hid hr2
    have HAP := Lib.hid hap
    have CA := Lib.hid ((Chg.refl [] wr).alloc (.cells #[.int .i64 (k : Int)] 3))
    have HSZ := Lib.hid (show w.heap.size + 1 ≤ (wr.alloc (.cells #[.int .i64 (k : Int)] 3)).heap.size by have := HW1.out; have := HC.out.size; have := CA.out.size; omega)
    have HLI := Lib.hid (lit_ints wr IK)
    have HLEN := Lib.hid (show (Plain.upTo k).length + [(k : Int)].length < 4294967296 by grind [Plain.upTo_len])
    clear ho hr1 hr2 hap hBo n1 hc
    go_wp2_with (at_builtin; (refine wl_app_read rfl _ _ rfl (B := w.heap.size + 1) (v := .slice ua k uc) rfl rfl (H2.out.chg CA.out (by simp)) HLI.out HSZ.out HLEN.out ?_; intro v7 w7 r7 c7 f7; obtain ⟨vo, vc, rfl⟩ := r7.shape; have HO7 := Lib.hid (c7.heap (CA.out.heap HOO.out (by simp)) N1.out); have o7 := (cell_of_row _ _ 1 _ _ _ HO7.out).trans (show _ = some (Value.slice ua k uc) from rfl); have z7 : w7.frozen? ⟨w.heap.size + 1 + 1, 1, none⟩ = false := free_at HO7.out 1; have R7 := Lib.hid r7; have C7 := Lib.hid c7; have F7 := Lib.hid f7; clear r7 c7 f7 o0))
    have hput := OutAt.put1 HOO.out H1.out H2.out HAP.out (by omega) CA.out C7.out R7.out F7.out
    simp only [List.length_append, List.length_cons, List.length_nil, Nat.zero_add] at hput
    have hc2 := HC.out.trans hput.2 (fun j hj => Or.inr (by
     have := HW1.out
     rcases List.mem_cons.1 hj with rfl | hj
     ·omega
     have := (H2.out.low j (by grind [foot_slice])).1; omega))
    have hrb2 := hput.2.heap HRB.out (by
     intro e
     rcases List.mem_cons.1 e with e | e
     ·omega
     obtain ⟨cs, r, hh⟩ := row_kind H2.out _ e
     rw [HRB.out] at hh; simp at hh)
    exact ⟨⟨k + 1, by omega, by go_num, by grind [Plain.upTo_succ], hc2, hrb2⟩, by simp [intOf]; omega⟩
   have e : E = k := by omega
   subst e
   obtain ⟨u1, u2, ho, hr1, hr2, hap, hBo⟩ := HOUT.out
   obtain ⟨a1, q1, rfl⟩ := hr1.shape
   obtain ⟨a2, q2, rfl⟩ := hr2.shape
   simp only [Plain.upTo_len] at ho hr1 hr2 hap
   have o0 := (cell_of_row _ _ 0 _ _ _ ho).trans (show _ = some (Value.slice a1 N q1) from rfl)
   have o1 := (cell_of_row _ _ 1 _ _ _ ho).trans (show _ = some (Value.slice a2 E q2) from rfl)
   have r0 := (cell_of_row _ _ 0 _ _ _ HRB.out).trans (show _ = some (Value.slice none 0 0) from rfl)
   have r1 := (cell_of_row _ _ 1 _ _ _ HRB.out).trans (show _ = some (Value.slice none 0 0) from rfl)
   have z0 : wr.frozen? ⟨w.heap.size + 1, 0, none⟩ = false := by simp [World.frozen?, HRB.out]
   have z1 : wr.frozen? ⟨w.heap.size + 1, 1, none⟩ = false := by simp [World.frozen?, HRB.out]
   have hset : Chg [w.heap.size + 1] wr ((wr.setCell ⟨w.heap.size + 1, 0, none⟩ (.slice a1 N q1)).setCell ⟨w.heap.size + 1, 1, none⟩ (.slice a2 E q2)) := by grind [Chg.refl, Chg.setCell]
   have hheap := heap_setCell_same (heap_setCell_same HRB.out 0 (.slice a1 N q1)) 1 (.slice a2 E q2)
   have f0 := (cell_of_row _ _ 0 _ _ _ hheap).trans (show _ = some (Value.slice a1 N q1) from rfl)
   have f1 := (cell_of_row _ _ 1 _ _ _ hheap).trans (show _ = some (Value.slice a2 E q2) from rfl)
   have kind : ∀ {v : Value} {q : List Int}, RowAt wr (w.heap.size + 1) v q → ∀ b ∈ v.ownBlock.toList, b ∉ [w.heap.size + 1] := fun h b hb e => by
    obtain ⟨cs, r, hh⟩ := row_kind h b (by rw [h.foot]; exact hb)
    simp at e
    rw [e, HRB.out] at hh
    simp at hh
   have HA := Lib.hid ((hr1.chg hset (kind hr1)).base (show w.heap.size ≤ w.heap.size + 1 by omega))
   have HB := Lib.hid ((hr2.chg hset (kind hr2)).base (show w.heap.size ≤ w.heap.size + 1 by omega))
   have HCF := Lib.hid (HC1.out.trans (HC.out.trans hset (fun j hj => Or.inr (by rw [HW1.out]; simp at hj; omega))) (by simp))
   have HF0 := Lib.hid f0
   have HF1 := Lib.hid f1
   clear ho hr1 hr2 hap hBo hset hheap f0 f1 kind hc
   go_wp2
   refine bodyPost_ret (v := .agg #[.slice a1 N q1, .slice a2 E q2]) (by have h0 := HF0.out; have h1 := HF1.out; simp [results, Tryz.results28, go_sem, h0, h1]) rfl ?_
   exact ⟨_, _, rfl, HA.out, by rw [HEE.out]; exact HB.out, HCF.out⟩
end Go.Proofs.YtpcgklagmcnhaaaGreat
namespace Go.Proofs.YtpcgklagmcnhaaaGreat
namespace Plain
theorem count_pos {s : St} (hs : s.Ok) (h : 0 < s.grp.length) : 0 < s.count := by
 unfold St.count
 rw [List.countP_pos_iff]
 refine ⟨0, List.mem_range.2 h, ?_⟩
 have := hs.le 0 h
 unfold St.hd at this
 simp
 simp at this
 omega
end Plain
end Go.Proofs.YtpcgklagmcnhaaaGreat
