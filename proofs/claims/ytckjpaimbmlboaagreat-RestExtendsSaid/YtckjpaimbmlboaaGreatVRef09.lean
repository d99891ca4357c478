/- law 09's small; the document's And: contracts. Conditions: a graph, parts, a plan, lists that lie in memory and read so. -/
import Derived.Test.YtckjpaimbmlboaaGreatVKeep
namespace Go.Proofs.YtckjpaimbmlboaaGreat
open Go.RowKit Go.Maps
namespace Plain
def andOf (b a : List Int) : List Int := a.filter fun x => decide (x ∈ b)
theorem andOf_snoc (b : List Int) {a : List Int} {k : Nat} (hk : k < a.length) : andOf b (a.take (k + 1)) = if a.getD k 0 ∈ b then andOf b (a.take k) ++ [a.getD k 0] else andOf b (a.take k) := by
 unfold andOf
 rw [take_snoc hk, List.filter_append]
 by_cases h : a.getD k 0 ∈ b
 ·rw [if_pos h, List.filter_cons_of_pos (by simpa using h)]; rfl
 rw [if_neg h, List.filter_cons_of_neg (by simpa using h)]; simp
theorem andOf_len (b a : List Int) : (andOf b a).length ≤ a.length := List.length_filter_le _ _
theorem andOf_all {b a : List Int} : (andOf b a).length = a.length ↔ subB a b = true := by
 rw [subB_iff]
 unfold andOf
 rw [List.length_filter_eq_length_iff]
 exact ⟨fun h x hx => by simpa using h x hx, fun h x hx => by simpa using h x hx⟩
end Plain
set_option maxRecDepth 100000 in
set_option maxHeartbeats 2000000 in
theorem refAnd_any (va vb : Value) (a b : List Int) (w : World) (hl : a.length < 1000000000) (ha : IntsAt w va a) (hb : IntsAt w vb b) :
  Calls Tryz.prog 42 #[va, vb] w fun e w' => ∃ ov, e = .returned ov ∧ RowAt w' w.heap.size ov (Plain.andOf b a) ∧ Chg [] w w' := by
 have HA := lh ha
 have HB := lh hb
 obtain ⟨ao, ac, rfl, -, -, -⟩ := ha
 clear hb
 go_enter Tryz.func42, Tryz.ntmps42
 go_wp2
 go_loopw [5, 6] (fun ov c wr => ∃ k : Nat, k ≤ a.length ∧ c = .int .i64 k ∧ RowAt wr w.heap.size ov (Plain.andOf b (a.take k)) ∧ Chg [] w wr) (fun _ c _ => a.length - (intOf c).toNat)
 case atStart => exact ⟨0, Nat.zero_le _, rfl, rowNil' _ _, Chg.refl _ _⟩
 case round =>
  obtain ⟨k, hk, rfl, hrow, hc⟩ := hrel
  have HROW := lh hrow
  have HC := lh hc
  have HW := lh (show w.heap.size ≤ wr.heap.size from hc.size)
  obtain ⟨oo, oc, rfl⟩ := hrow.shape
  have hkl := Nat.le_trans (Plain.andOf_len b (a.take k)) (List.length_take_le k a)
  clear hrow
  by_cases hlt : k < a.length
  ·obtain ⟨rb, roff, rfl, rc⟩ := IntsAt.cellAt HA.out hlt
   have rcell := hc.cell rc (by simp)
   have IX : I64 (a.getD k 0) := by obtain ⟨_, _, -, h, -, -⟩ := HA.out; exact h _ (Plain.getD_mem hlt)
   have HNX := lh (Plain.andOf_snoc b hlt)
   obtain ⟨x, hx⟩ : ∃ x, a.getD k 0 = x := ⟨_, rfl⟩
   rw [hx] at rcell HNX IX
   obtain ⟨M, hM⟩ : ∃ M, Plain.andOf b (a.take k) = M := ⟨_, rfl⟩
   rw [hM] at HNX HROW hkl ⊢
   have HRC := lh rcell
   clear rc hx hc hM
   go_wp2_with fail
   refine (in_any _ b x _ (HB.out.fresh HC.out)).mono ?_
   rintro e w2 ⟨rfl, hc2⟩
   have HC2 := lh (HC.out.trans hc2 (by simp))
   have HROW2 := lh (HROW.out.chg hc2 (by simp))
   have HW2 := lh (Nat.le_trans HW.out hc2.size)
   clear rcell
   have rcell := hc2.cell HRC.out (by simp)
   clear hc2
   by_cases h : x ∈ b
   ·have HS := lh (HNX.out.trans (if_pos h))
    rw [decide_eq_true h]
    have hml : M.length < 4294967290 := by omega
    clear h
    go_wp2_with (at_builtin; refine wl_push rfl _ _ rfl (B := w.heap.size) (v := .slice oo _ oc) rfl rfl HROW2.out IX HW2.out hml rfl ?_; intro v6 w6 r6 c6 f6; have R6 := lh r6; have C6 := lh c6; clear r6 c6 f6)
    go_roundw
    case rel => exact ⟨k + 1, by omega, by go_num, by rw [HS.out]; exact R6.out, HC2.out.trans C6.out (fun j hj => Or.inr (by rw [HROW2.out.foot] at hj; exact (HROW2.out.low j hj).1))⟩
    case measure => simp [intOf]; omega
   have HS := lh (HNX.out.trans (if_neg h))
   rw [decide_eq_false h]
   clear h
   go_wp2
   go_roundw
   case rel => exact ⟨k + 1, by omega, by go_num, by rw [HS.out]; exact HROW2.out, HC2.out⟩
   case measure => simp [intOf]; omega
  have e : k = a.length := by omega
  subst e
  rw [List.take_length] at HROW hkl ⊢
  clear hc
  go_wp2
  go_ret
  exact ⟨_, rfl, HROW.out, HC.out⟩
set_option maxRecDepth 100000 in
set_option maxHeartbeats 4000000 in
theorem small09_any (vg vp vx vq : Value) (g : Plain.Gr) (p q : Plain.Pt) (turn same : List (List Int)) (w : World) (hg : GrAt w vg g) (hp : PtAt w vp p) (hx : PlAt w vx turn same) (hq : PtAt w vq q) :
  Calls Tryz.prog 8 #[vg, vp, vx, vq] w fun e w' => e = .returned (.bool (Plain.small8 g p turn same && Plain.small4 g q)) ∧ Chg [] w w' := by
 have HQ := lh hq
 have HG := lh hg
 have HP := lh hp
 have HX := lh hx
 obtain ⟨eo, cap, rfl, hn, hm, hsm, hcell⟩ := hg
 obtain ⟨v1, v2, rfl, hv, he⟩ := hp
 obtain ⟨ao, ac, rfl, has, ham, hacell⟩ := hv
 obtain ⟨bo, bc, rfl, hbs, hbm, hbcell⟩ := he
 have HAC := lh hacell
 have HBC := lh hbcell
 obtain ⟨t1, t2, rfl, ht, hs⟩ := hx
 have HT := lh ht
 have HS := lh hs
 obtain ⟨tno, tc, rfl, htm, -⟩ := ht
 obtain ⟨so, sc, rfl, hsm2, hsc⟩ := hs
 obtain ⟨-, -, hc1⟩ := box_two w #[.int .i64 g.n, .slice eo g.e.length cap] #[.slice ao p.v.length ac, .slice bo p.e.length bc] 24 27
 obtain ⟨-, hc3⟩ := box_three w #[.int .i64 g.n, .slice eo g.e.length cap] #[.slice ao p.v.length ac, .slice bo p.e.length bc] #[.slice tno turn.length tc, .slice so same.length sc] 24 27 30
 have HC1 := lh (hc1.trans hc3 (by simp))
 have HBXS := lh (fun w2 h => three_boxes w (g := g) (p := p) (turn := turn) (same := same) (eo := eo) (ao := ao) (bo := bo) (tno := tno) (so := so) (cap := cap) (ac := ac) (bc := bc) (tc := tc) (sc := sc) (w2 := w2) h)
 clear hcell hacell hbcell hsm hbs has hn hc1 hc3 hsc
 obtain ⟨v3, v4, rfl, hqv1, hqe1⟩ := hq
 obtain ⟨co, cc, rfl, -, -, -⟩ := hqv1
 obtain ⟨fo, fc, rfl, -, -, -⟩ := hqe1
 have hcq := (Chg.refl [] (((w.alloc (.cells #[.int .i64 g.n, .slice eo g.e.length cap] 24)).alloc (.cells #[.slice ao p.v.length ac, .slice bo p.e.length bc] 27)).alloc (.cells #[.slice tno turn.length tc, .slice so same.length sc] 30))).alloc (.cells #[.slice co q.v.length cc, .slice fo q.e.length fc] 27)
 have hnq := heap_alloc_new (((w.alloc (.cells #[.int .i64 g.n, .slice eo g.e.length cap] 24)).alloc (.cells #[.slice ao p.v.length ac, .slice bo p.e.length bc] 27)).alloc (.cells #[.slice tno turn.length tc, .slice so same.length sc] 30)) (.cells #[.slice co q.v.length cc, .slice fo q.e.length fc] 27)
 obtain ⟨x0, x1, y0, y1, z0, z1, hsz⟩ := HBXS.out _ hcq
 have hs3 : (((w.alloc (.cells #[.int .i64 g.n, .slice eo g.e.length cap] 24)).alloc (.cells #[.slice ao p.v.length ac, .slice bo p.e.length bc] 27)).alloc (.cells #[.slice tno turn.length tc, .slice so same.length sc] 30)).heap.size = w.heap.size + 3 := by simp
 rw [hs3] at hnq
 have q0 := (cell_of_row _ _ 0 _ _ _ hnq).trans (show _ = some (Value.slice co q.v.length cc) from rfl)
 have q1 := (cell_of_row _ _ 1 _ _ _ hnq).trans (show _ = some (Value.slice fo q.e.length fc) from rfl)
 have HQ0 := lh q0
 have HQ1 := lh q1
 have HCQ := lh hcq
 have HCW := lh (HC1.out.trans hcq (by simp))
 clear hcq hnq hs3 q0 q1
 go_enter Tryz.func8, Tryz.ntmps8
 go_wp2_with fail
 refine (small8_any _ _ _ g p turn same _ (HG.out.fresh HCW.out) (HP.out.fresh HCW.out) (HX.out.fresh HCW.out)).mono ?_
 rintro e w2 ⟨rfl, hc2⟩
 have HC2 := lh (HCW.out.trans hc2 (by simp))
 have q0 := hc2.cell HQ0.out (by simp)
 have q1 := hc2.cell HQ1.out (by simp)
 clear x0 x1 y0 y1 z0 z1 hsz
 obtain ⟨x0, x1, y0, y1, z0, z1, hsz⟩ := HBXS.out _ (HCQ.out.trans hc2 (by simp))
 clear hc2
 cases hb : Plain.small8 g p turn same with
 | false =>
  rw [show bit false = 0 from rfl]
  have HB := lh hb
  clear hb
  go_wp2
  go_ret
  exact ⟨ret_bool (show false = _ by rw [HB.out]; rfl), HC2.out⟩
 | true =>
  rw [show bit true = 1 from rfl]
  have HB := lh hb
  clear hb
  go_wp2_with fail
  refine (small4_any _ _ g q _ (HG.out.fresh HC2.out) (HQ.out.fresh HC2.out)).mono ?_
  rintro e w3 ⟨rfl, hc3⟩
  have HC3 := lh (HC2.out.trans hc3 (by simp))
  clear x0 x1 y0 y1 z0 z1 hsz q0 q1 hc3
  cases hb : Plain.small4 g q with
  | false =>
   rw [show bit false = 0 from rfl]
   go_wp2
   go_ret
   exact ⟨ret_bool (show false = _ by rw [HB.out, hb]; rfl), HC3.out⟩
  | true =>
   rw [show bit true = 1 from rfl]
   go_wp2
   go_ret
   exact ⟨ret_bool (show true = _ by rw [HB.out, hb]; rfl), HC3.out⟩
end Go.Proofs.YtckjpaimbmlboaaGreat
