/- slices.Equal, slices.EqualFunc at rows, plan.Same: contracts. Conditions: lists, plans that lie in memory and read so, of a bounded size. -/
import Derived.Test.YtckjpaimbmlboaaVDraw
import Derived.Test.YtckjpaimbmlboaaVAwk09
namespace Go.Proofs.Ytckjpaimbmlboaa
open Go.RowKit Go.Maps
theorem seq_any (va vb : Value) (a b : List Int) (w : World) (ha : IntsAt w va a) (hb : IntsAt w vb b) :
  Calls Try.prog 46 #[va, vb] w fun e w' => e = .returned (.bool (decide (a = b))) ∧ Chg [] w w' := by
 obtain ⟨ao, ac, rfl, -, ham, hac⟩ := ha
 obtain ⟨bo, bc, rfl, -, hbm, hbc⟩ := hb
 by_cases hl : a.length = b.length
 ·by_cases h0 : a = []
  ·subst h0
   have hb0 : b = [] := List.length_eq_zero_iff.1 hl.symm
   subst hb0
   refine (Try.slices_Equal_int_empty ao bo ac 0 bc w (by decide)).mono ?_
   rintro e w' ⟨rfl, rfl⟩
   exact ⟨rfl, Chg.refl _ _⟩
  have hb0 : b ≠ [] := fun e => h0 (List.length_eq_zero_iff.1 (by rw [hl, e]; rfl))
  obtain ⟨ba, oa, rfl, ca⟩ := hac h0
  obtain ⟨bb, ob, rfl, cb⟩ := hbc hb0
  refine (Try.slices_Equal_int ba oa a.length ac bb ob b.length bc a b w (Nat.le_refl _) (Nat.le_refl _) (by omega) (by omega) ca cb).mono ?_
  rintro e w' ⟨rfl, n, rfl⟩
  refine ⟨?_, ?_⟩
  ·rw [List.take_length, List.take_length]
   by_cases h : a = b
   ·subst h; simp
   have h1 : (a == b) = false := beq_eq_false_iff_ne.2 h
   rw [h1, decide_eq_false (show ¬ a = b from h)]
  exact (Chg.refl [] w).drewN _
 refine (Try.slices_Equal_int_lens ao bo a.length ac b.length bc w hl).mono ?_
 rintro e w' ⟨rfl, rfl⟩
 exact ⟨by simp [show ¬ a = b from fun e => hl (by rw [e])], Chg.refl _ _⟩
namespace Plain
def rowsTo (l m : List (List Int)) (k : Nat) : Prop := ∀ i, i < k → l.getD i [] = m.getD i []
theorem rows_ext {l m : List (List Int)} (hl : l.length = m.length) (h : rowsTo l m l.length) : l = m := by
 refine List.ext_getElem hl fun i h1 h2 => ?_
 have := h i h1
 simpa [List.getD, h1, h2] using this
end Plain
set_option maxRecDepth 100000 in
theorem seqf_any (va vb : Value) (l m : List (List Int)) (w : World) (hll : l.length < 1000000000) (ha : RowsAt w va l) (hb : RowsAt w vb m) :
  Calls Try.prog 45 #[va, vb, .func (.func 46) #[] #[]] w fun e w' => e = .returned (.bool (decide (l = m))) ∧ Chg [] w w' := by
 have HA := Lib.hid ha
 have HB := Lib.hid hb
 obtain ⟨ao, ac, rfl, -⟩ := ha
 obtain ⟨bo, bc, rfl, -⟩ := hb
 go_enter Try.func45, Try.ntmps45
 by_cases hl : l.length = m.length
 ·have HL := Lib.hid hl
  obtain ⟨n, hn⟩ : ∃ n, l.length = n := ⟨_, rfl⟩
  have HN := Lib.hid hn
  have hn2 : m.length = n := hl.symm.trans hn
  rw [hn] at hll ⊢
  rw [hn2] at ⊢
  have HN2 := Lib.hid hn2
  clear hl hn hn2
  go_wp2
  go_loopw [17] (fun c wr => ∃ k : Nat, k ≤ n ∧ c = .int .i64 k ∧ Chg [] w wr ∧ Hid (Plain.rowsTo l m k)) (fun c _ => n - (intOf c).toNat)
  case atStart => exact ⟨0, Nat.zero_le _, rfl, Chg.refl _ _, Lib.hid (fun i hi => by omega)⟩
  case round =>
   obtain ⟨k, hk, rfl, hc, hrt⟩ := hrel
   have HC := Lib.hid hc
   by_cases hlt : k < n
   ·obtain ⟨b1, o1, u1, e1, c1, -, r1⟩ := (HA.out.fresh hc).rowc (k := k) (by rw [HN.out]; exact hlt)
    obtain ⟨b2, o2, u2, e2, c2, -, r2⟩ := (HB.out.fresh hc).rowc (k := k) (by rw [HN2.out]; exact hlt)
    have HEQ := Lib.hid (show Plain.rowsTo l m k ∧ l.getD k [] = m.getD k [] → Plain.rowsTo l m (k + 1) from fun h i hi => by
     rcases (show i < k ∨ i = k by omega) with q | q
     ·exact h.1 i q
     rw [q]; exact h.2)
    have HNE := Lib.hid (show l.getD k [] ≠ m.getD k [] → l ≠ m from fun h e => h (by rw [e]))
    obtain ⟨rx, hrx⟩ : ∃ x, l.getD k [] = x := ⟨_, rfl⟩
    obtain ⟨ry, hry⟩ : ∃ x, m.getD k [] = x := ⟨_, rfl⟩
    rw [hrx] at r1 HEQ HNE
    rw [hry] at r2 HEQ HNE
    have R1 := Lib.hid r1
    have R2 := Lib.hid r2
    clear hc r1 r2 hrx hry
    simp only [e1, e2]
    go_wp2_with fail
    refine (seq_any _ _ rx ry _ R1.out R2.out).mono ?_
    rintro e w4 ⟨rfl, hc4⟩
    have HC4 := Lib.hid (HC.out.trans hc4 (by simp))
    clear hc4 c1 c2
    by_cases hxy : rx = ry
    ·have HNX := Lib.hid (HEQ.out ⟨hrt.out, hxy⟩)
     rw [decide_eq_true hxy]
     clear hxy
     go_wp2
     go_roundw
     case rel => exact ⟨k + 1, by omega, by go_num, HC4.out, HNX⟩
     case measure => simp [intOf]; omega
    have HF := Lib.hid (HNE.out hxy)
    rw [decide_eq_false hxy]
    clear hxy
    go_wp2
    go_ret
    exact ⟨ret_bool (decide_eq_false HF.out).symm, HC4.out⟩
   have e : k = n := by omega
   have HALL := Lib.hid (Plain.rows_ext HL.out (by rw [HN.out, ← e]; exact hrt.out))
   subst e
   clear hlt
   go_wp2
   go_ret
   exact ⟨ret_bool (decide_eq_true HALL.out).symm, HC.out⟩
 have HF := Lib.hid (show l ≠ m from fun e => hl (by rw [e]))
 have hd : ((l.length : Int) != (m.length : Int)) = true := by simp; omega
 clear hl
 go_wp2
 go_ret
 exact ⟨ret_bool (decide_eq_false HF.out).symm, Chg.refl _ _⟩
theorem box_store {wr : World} {b : Nat} {x y : Value} {t : TypeId} (hb : wr.heap[b]? = some (.cells #[x, y] t (0, 0))) (u v : Value) :
  ((wr.setCell ⟨b, 0, none⟩ u).setCell ⟨b, 1, none⟩ v).cell? ⟨b, 0, none⟩ = some u ∧ ((wr.setCell ⟨b, 0, none⟩ u).setCell ⟨b, 1, none⟩ v).cell? ⟨b, 1, none⟩ = some v ∧ Chg [b] wr ((wr.setCell ⟨b, 0, none⟩ u).setCell ⟨b, 1, none⟩ v) := by
 have hh := heap_setCell_same (heap_setCell_same hb 0 u) 1 v
 exact ⟨(cell_of_row _ _ 0 _ _ _ hh).trans rfl, (cell_of_row _ _ 1 _ _ _ hh).trans rfl, ((Chg.refl _ wr).setCell (Or.inl (by simp)) _).setCell (Or.inl (by simp)) _⟩
set_option maxRecDepth 100000 in
set_option maxHeartbeats 4000000 in
theorem psame_any (va vb : Value) (ta sa tb sb : List (List Int)) (w : World) (h1 : ta.length < 1000000000) (h2 : sa.length < 1000000000) (h3 : ∀ i, (ta.getD i []).length < 1000000000) (h4 : ∀ i, (sa.getD i []).length < 1000000000) (h5 : tb.length < 1000000000) (h6 : sb.length < 1000000000) (h7 : ∀ i, (tb.getD i []).length < 1000000000) (h8 : ∀ i, (sb.getD i []).length < 1000000000) (ha : PlAt w va ta sa) (hb : PlAt w vb tb sb) :
  Calls Try.prog 13 #[va, vb] w fun e w' => e = .returned (.bool (decide (ta.map Plain.first = tb.map Plain.first ∧ sa = sb))) ∧ Chg [] w w' := by
 have HA := Lib.hid ha
 have HB := Lib.hid hb
 obtain ⟨u1, u2, rfl, ⟨ao, ac, rfl, -⟩, ⟨bo, bc, rfl, -⟩⟩ := ha
 obtain ⟨u3, u4, rfl, ⟨co, cc, rfl, -⟩, ⟨eo, ec, rfl, -⟩⟩ := hb
 have H3 := Lib.hid h3
 have H4 := Lib.hid h4
 have H7 := Lib.hid h7
 have H8 := Lib.hid h8
 obtain ⟨hb1, hb2, hc1⟩ := box_two w #[.slice ao ta.length ac, .slice bo sa.length bc] #[.slice co tb.length cc, .slice eo sb.length ec] 30 30
 have HC1 := Lib.hid hc1
 have B1 := Lib.hid hb1
 have B2 := Lib.hid hb2
 have z0 := (cell_of_row _ _ 0 _ _ _ hb1).trans (show _ = some (Value.slice ao ta.length ac) from rfl)
 have z1 := (cell_of_row _ _ 1 _ _ _ hb1).trans (show _ = some (Value.slice bo sa.length bc) from rfl)
 have y0 := (cell_of_row _ _ 0 _ _ _ hb2).trans (show _ = some (Value.slice co tb.length cc) from rfl)
 have y1 := (cell_of_row _ _ 1 _ _ _ hb2).trans (show _ = some (Value.slice eo sb.length ec) from rfl)
 have HSZ := Lib.hid (show ((w.alloc (.cells #[.slice ao ta.length ac, .slice bo sa.length bc] 30)).alloc (.cells #[.slice co tb.length cc, .slice eo sb.length ec] 30)).heap.size = w.heap.size + 2 by simp)
 clear h3 h4 h7 h8 hb1 hb2 hc1
 go_enter Try.func13, Try.ntmps13
 go_wp2
 generalize ((w.alloc (.cells #[.slice ao ta.length ac, .slice bo sa.length bc] 30)).alloc (.cells #[.slice co tb.length cc, .slice eo sb.length ec] 30)) = w1 at *
 have hS0 : Chg [w.heap.size] w1 w1.drew := (Chg.refl _ w1).drew
 have HF0 := Lib.hid ((Chg.refl [] w1).drew)
 refine wp_region_way (fun wx => Chg [w.heap.size] w1 wx) [2] (Way.line [2, 0, 1, 3, 4, 5] .done) (by kernel_rfl) (by kernel_rfl) ?_
 simp only [Way.line]
 repeat
  first
   | (refine along_off rfl (by rfl) (by rfl) (fun _ _ _ h => h) hS0 ?_; simp only [Act.put, Z1, Z2, Z3, Z4, Z5, Z6])
   | (refine along_read (v := ?_) rfl (by rfl) (by rfl) (fun _ _ _ h => h) hS0 (fun w' hS' => ?_) ?_; rotate_left; (focus (have rd0 := hS'.cell y0 (by simp); have rd1 := hS'.cell y1 (by simp); clear hS'; go_simp; try with_reducible rfl)); simp only [Act.put, Z1, Z2, Z3, Z4, Z5, Z6])
   | (refine along_skip rfl (by rfl) (by rfl) hS0 ?_; simp only [Act.put, Z1, Z2, Z3, Z4, Z5, Z6])
 refine along_op rfl (by rfl) (by rfl) (fun K hK => ?_)
 go_simp
 refine hK.out _ _ (fun _ => hS0) ?_
 clear hK K
 try simp only [Act.put, Z1, Z2, Z3, Z4, Z5, Z6]
 refine along_op rfl (by rfl) (by rfl) (fun K hK => ?_)
 go_simp
 refine (clean_any _ ta sa _ h1 h2 H3.out H4.out (HA.out.fresh (HC1.out.trans HF0.out (by simp)))).mono ?_
 rintro e w2 ⟨vy, rfl, hvy, hcx⟩
 have HVY := Lib.hid hvy
 have HF1 := Lib.hid (HF0.out.trans hcx (by simp))
 have hS1 := hS0.trans hcx (by simp)
 have HZ := Lib.hid hS0.size
 clear hS0 hcx hvy
 have hS0 := hS1
 clear hS1
 refine hK.out _ _ (fun _ => hS0) ?_
 clear hK K
 try simp only [Act.put, Z1, Z2, Z3, Z4, Z5, Z6]
 refine along_op rfl (by rfl) (by rfl) (fun K hK => ?_)
 go_simp
 refine (clean_any _ tb sb _ h5 h6 H7.out H8.out (HB.out.fresh (HC1.out.trans HF1.out (by simp)))).mono ?_
 rintro e w3 ⟨vz, rfl, hvz, hcx⟩
 have HVZ := Lib.hid hvz
 have H23 := Lib.hid hcx
 have HF2 := Lib.hid (HF1.out.trans hcx (by simp))
 have HZ2 := Lib.hid hS0.size
 have hS1 := hS0.trans hcx (by simp)
 clear hS0 hcx hvz
 have hS0 := hS1
 clear hS1
 refine hK.out _ _ (fun _ => hS0) ?_
 clear hK K
 try simp only [Act.put, Z1, Z2, Z3, Z4, Z5, Z6]
 obtain ⟨q1, q2, rfl, ⟨o1, k1, rfl, -⟩, ⟨o2, k2, rfl, -⟩⟩ := HVY.out [] w2 (Chg.refl _ _) (by simp)
 obtain ⟨q3, q4, rfl, ⟨o3, k3, rfl, -⟩, ⟨o4, k4, rfl, -⟩⟩ := HVZ.out [] w3 (Chg.refl _ _) (by simp)
 have b1 := HF2.out.heap B1.out (by simp)
 have r0 := (cell_of_row _ _ 0 _ _ _ b1).trans (show _ = some (Value.slice ao ta.length ac) from rfl)
 have r1 := (cell_of_row _ _ 1 _ _ _ b1).trans (show _ = some (Value.slice bo sa.length bc) from rfl)
 have f0 := free_at b1 0
 have f1 := free_at b1 1
 obtain ⟨p0, p1, p2⟩ := box_store b1 (.slice o1 ta.length k1) (.slice o2 sa.length k2)
 have P0 := Lib.hid p0
 have P1 := Lib.hid p1
 have P2 := Lib.hid p2
 have b2 := p2.heap (HF2.out.heap B2.out (by simp)) (by simp)
 refine along_op rfl (by rfl) (by rfl) (fun K hK => ?_)
 go_simp
 have hS1 := hS0.trans p2 (fun j hj => Or.inl hj)
 clear hS0 b1 r0 r1 f0 f1 p0 p1 p2
 have hS0 := hS1
 clear hS1
 refine hK.out _ _ (fun _ => hS0) ?_
 clear hK K
 try simp only [Act.put, Z1, Z2, Z3, Z4, Z5, Z6]
 generalize ((w3.setCell ⟨w.heap.size, 0, none⟩ (.slice o1 ta.length k1)).setCell ⟨w.heap.size, 1, none⟩ (.slice o2 sa.length k2)) = w4 at *
 have r0 := (cell_of_row _ _ 0 _ _ _ b2).trans (show _ = some (Value.slice co tb.length cc) from rfl)
 have r1 := (cell_of_row _ _ 1 _ _ _ b2).trans (show _ = some (Value.slice eo sb.length ec) from rfl)
 have f0 := free_at b2 0
 have f1 := free_at b2 1
 obtain ⟨p0, p1, p2⟩ := box_store b2 (.slice o3 tb.length k3) (.slice o4 sb.length k4)
 have R0 := Lib.hid p0
 have R1 := Lib.hid p1
 have R2 := Lib.hid p2
 refine along_op rfl (by rfl) (by rfl) (fun K hK => ?_)
 go_simp
 clear r0 r1 f0 f1 p0 p1 p2 hS0 b2
 refine hK.out _ _ (fun h => absurd h (Bool.eq_false_iff.1 (by kernel_rfl))) ?_
 clear hK K
 try simp only [Act.put, Z1, Z2, Z3, Z4, Z5, Z6]
 generalize ((w4.setCell ⟨w.heap.size + 1, 0, none⟩ (.slice o3 tb.length k3)).setCell ⟨w.heap.size + 1, 1, none⟩ (.slice o4 sb.length k4)) = w5 at *
 have HZ5 := Lib.hid (show w.heap.size + 2 ≤ w2.heap.size by rw [← HSZ.out]; exact HF1.out.size)
 have H35 := Lib.hid (show Chg [w.heap.size, w.heap.size + 1] w3 w5 from (P2.out.mono (by simp)).trans (R2.out.mono (by simp)) (fun j hj => Or.inl hj))
 have hpa := HVY.out [w.heap.size, w.heap.size + 1] w5 (((H23.out).mono (by simp)).trans H35.out (fun j hj => Or.inl hj)) (fun j hj => by have := HF0.out.size; have := HSZ.out; simp at hj; omega)
 have hpb := HVZ.out [w.heap.size, w.heap.size + 1] w5 H35.out (fun j hj => by have := HZ5.out; simp at hj; omega)
 rw [List.length_map] at hpa hpb
 have HPA := Lib.hid hpa
 have HPB := Lib.hid hpb
 clear hpa hpb
 have c0 := R2.out.cell P0.out (by simp)
 have c1 := R2.out.cell P1.out (by simp)
 have c2 := R0.out
 have c3 := R1.out
 have HW5 := Lib.hid (show Chg [] w w5 from (HC1.out.trans HF2.out (by simp)).trans H35.out (fun j hj => Or.inr (by simp at hj; omega)))
 refine along_done ?_
 clear z0 z1 y0 y1
 obtain ⟨v1, v2, e1, ra1, ra2⟩ := HPA.out
 obtain ⟨v3, v4, e2, rb1, rb2⟩ := HPB.out
 cases e1
 cases e2
 have RA1 := Lib.hid ra1
 have RA2 := Lib.hid ra2
 have RB1 := Lib.hid rb1
 have RB2 := Lib.hid rb2
 have HLA := Lib.hid (show (ta.map Plain.first).length < 1000000000 by rw [List.length_map]; exact h1)
 have HLB := Lib.hid (show (tb.map Plain.first).length < 1000000000 by rw [List.length_map]; exact h5)
 clear ra1 ra2 rb1 rb2
 go_wp2_with fail
 refine (seqf_any _ _ (ta.map Plain.first) (tb.map Plain.first) _ HLA.out RA1.out RB1.out).mono ?_
 rintro e w6 ⟨rfl, hc6⟩
 have HC6 := Lib.hid (HW5.out.trans hc6 (by simp))
 have HC56 := Lib.hid hc6
 have d0 := hc6.cell c0 (by simp)
 have d1 := hc6.cell c1 (by simp)
 have d2 := hc6.cell c2 (by simp)
 have d3 := hc6.cell c3 (by simp)
 clear c0 c1 c2 c3 hc6
 by_cases ht : ta.map Plain.first = tb.map Plain.first
 ·rw [decide_eq_true ht]
  go_wp2_with fail
  refine (seqf_any _ _ sa sb _ h2 (RA2.out.fresh HC56.out) (RB2.out.fresh HC56.out)).mono ?_
  rintro e w7 ⟨rfl, hc7⟩
  have HC7 := Lib.hid (HC6.out.trans hc7 (by simp))
  clear hc7
  go_wp2
  go_ret
  exact ⟨ret_bool (by simp [ht]), HC7.out⟩
 rw [decide_eq_false ht]
 go_wp2
 go_ret
 exact ⟨ret_bool (by simp [ht]), HC6.out⟩
namespace Plain
theorem grps_lens {c : Face → Int} {W : List Face} : (grps c W).length ≤ W.length ∧ ∀ i, ((grps c W).getD i []).length ≤ W.length := by
 refine ⟨?_, fun i => ?_⟩
 ·unfold grps
  rw [List.length_map]
  exact List.length_filter_le _ _
 by_cases hi : i < (grps c W).length
 ·have hm : (grps c W).getD i [] ∈ grps c W := by
   have : (grps c W).getD i [] = (grps c W)[i] := by simp [List.getD, hi]
   rw [this]; exact List.getElem_mem hi
  obtain ⟨h, e, -⟩ := mem_grps.1 hm
  rw [e]
  unfold keysAt
  rw [List.length_map]
  exact List.length_filter_le _ _
 simp [List.getD, hi]
end Plain
end Go.Proofs.Ytckjpaimbmlboaa
namespace Go.Proofs.Ytckjpaimbmlboaa.Plain
section
variable {g : Gr} {p q : Pt} {turn same : List (List Int)}
theorem firsts_first (turn : List (List Int)) : (turn.map first).map first = turn.map first := by
 rw [List.map_map]
 exact List.map_congr_left fun l _ => first_first l
theorem first_rows (i : Nat) : ((turn.map first).getD i []).length = (turn.getD i []).length := by
 unfold List.getD
 rw [List.getElem?_map]
 cases turn[i]? with
 | none => simp
 | some l => exact (first_perm l).length_eq
end
end Go.Proofs.Ytckjpaimbmlboaa.Plain
namespace Go.Proofs.Ytckjpaimbmlboaa
open Go.RowKit Go.Maps
namespace Plain
theorem rest_sizes {g : Gr} {p q : Pt} {turn same : List (List Int)} (h : restErr g p q turn same = 0) (hqv : q.v.length ≤ 60) (hqe : q.e.length ≤ 60) (hT : turn.length ≤ 100) (hr : ∀ i, (turn.getD i []).length ≤ 200) :
  (restTurn q.e turn).length ≤ 100 ∧ (∀ i, ((restTurn q.e turn).getD i []).length ≤ 200) ∧ sumLen (restTurn q.e turn) (restTurn q.e turn).length ≤ 20000 ∧ (restSame g p q turn same).length ≤ 1000 ∧ ∀ i, ((restSame g p q turn same).getD i []).length ≤ 1000 := by
 have hl : (restTurn q.e turn).length ≤ 100 := by unfold restTurn; rw [List.length_map]; exact hT
 have hrr : ∀ i, ((restTurn q.e turn).getD i []).length ≤ 200 := fun i => Nat.le_trans (restTurn_row q.e turn i) (hr i)
 obtain ⟨hpz, hqer, hqvs, hqes⟩ := restErr_is h
 have hwl := (walks_ok hqer (restTurn_ok (turnErr_zero (flatErr_zero (planErr_zero hpz).1).1).2 hqes)).len
 have hs := sumLen_le hrr (restTurn q.e turn).length
 have hm : (restTurn q.e turn).length * 200 ≤ 100 * 200 := Nat.mul_le_mul_right _ hl
 refine ⟨hl, hrr, by omega, Nat.le_trans grps_lens.1 (by omega), fun i => Nat.le_trans (grps_lens.2 i) (by omega)⟩
end Plain
end Go.Proofs.Ytckjpaimbmlboaa
namespace Go.Proofs.Ytckjpaimbmlboaa.Plain
theorem Gen.leastK {K : List Int} {R Q : Int → Int → Prop} (hQ : Eqv Q) (h1 : ∀ x ∈ K, ∀ y ∈ K, R x y → Q x y) : ∀ {E : List Int}, (∀ e ∈ E, 2 * e ∈ K ∧ 2 * e + 1 ∈ K) → (∀ e ∈ E, Q (2 * e) (2 * e + 1)) → ∀ {x y : Int}, x ∈ K → y ∈ K → Gen R E x y → Q x y
 | [], _, _, x, y, hx, hy, h => h1 x hx y hy h
 | a :: E, hE, h2, x, y, hx, hy, h => by
  have ih : ∀ {x y : Int}, x ∈ K → y ∈ K → Gen R E x y → Q x y := fun {x y} => Gen.leastK (R := R) hQ h1 (E := E) (fun e he => hE e (List.mem_cons_of_mem _ he)) (fun e he => h2 e (List.mem_cons_of_mem _ he)) (x := x) (y := y)
  obtain ⟨a1, a2⟩ := hE a (by simp)
  have ha := h2 a (by simp)
  rcases h with q | ⟨q, r⟩ | ⟨q, r⟩
  ·exact ih hx hy q
  ·exact hQ.trans (hQ.trans (ih hx a1 q) ha) (ih a2 hy r)
  exact hQ.trans (hQ.trans (ih hx a2 q) (hQ.symm ha)) (ih a1 hy r)
theorem list_ahead {x : Int} {l m : List Int} (hl : (x :: l).Nodup) (hm : (x :: m).Nodup) (h : ∀ y ∈ x :: l, ahead (x :: l) y = ahead (x :: m) y) : l = m := by
 have r1 := ahead_ring hl (by simp)
 have r2 := ahead_ring hm (by simp)
 have turn : ∀ {p : Int → Int} {l : List Int}, Ring p (x :: l).reverse → Trail p x l.reverse x := by
  intro p l hr
  rw [List.reverse_cons] at hr
  cases e : l.reverse with
  | nil => rw [e] at hr; exact hr
  | cons y k =>
   rw [e] at hr
   have hr : Ring p (y :: k ++ [x]) := hr
   have := Ring.turn (m := []) hr
   exact this
 have t1 := turn r1
 have t2 := turn r2
 have t1 : Trail (ahead (x :: m)) x l.reverse x := t1.congr fun y hy => h y (by
  rcases hy with e | hy
  ·rw [e]; simp
  exact List.mem_cons_of_mem _ (List.mem_reverse.1 hy))
 rw [List.nodup_cons] at hl hm
 have := Trail.det t1 t2 (fun k => hl.1 (List.mem_reverse.1 k)) (fun k => hm.1 (List.mem_reverse.1 k))
 exact List.reverse_inj.1 this
theorem first_cons {l : List Int} (h : l ≠ []) : ∃ x m, first l = x :: m ∧ ∀ y ∈ l, x ≤ y := by
 have h0 : 0 < l.length := List.length_pos_iff.2 h
 have hl := lst_lt h0 l.length (Nat.le_refl _)
 cases e : first l with
 | nil =>
  have := (first_perm l).length_eq
  rw [e] at this
  exact absurd (List.length_eq_zero_iff.1 this.symm) h
 | cons x m =>
  refine ⟨x, m, rfl, fun y hy => ?_⟩
  obtain ⟨i, hi, rfl⟩ := mem_getD hy
  have e0 : x = l.getD (lst l l.length) 0 := by
   have h1 : (first l).getD 0 0 = x := by rw [e]; rfl
   rw [← h1]
   unfold first
   have hd : 0 < l.length - lst l l.length := by omega
   simp [List.getD, List.getElem?_append, hl, hd]
  rw [e0]
  exact lst_min l l.length i hi
theorem first_turn {l m : List Int} (hl : l.Nodup) (hp : l.Perm m) (h : ∀ y ∈ l, ahead l y = ahead m y) : first l = first m := by
 by_cases e : l = []
 ·subst e; rw [List.Perm.eq_nil hp.symm]
 have hm : m.Nodup := hp.nodup_iff.1 hl
 have em : m ≠ [] := fun k => e (List.Perm.eq_nil (k ▸ hp))
 obtain ⟨x, a, ha, hxa⟩ := first_cons e
 obtain ⟨y, b, hb, hyb⟩ := first_cons em
 have hxl : x ∈ l := (first_perm l).mem_iff.1 (by rw [ha]; simp)
 have hym : y ∈ m := (first_perm m).mem_iff.1 (by rw [hb]; simp)
 have hxy : x = y := by
  have h1 := hxa y (hp.mem_iff.2 hym)
  have h2 := hyb x (hp.mem_iff.1 hxl)
  omega
 subst hxy
 have n1 : (first l).Nodup := (first_perm l).nodup_iff.2 hl
 have n2 : (first m).Nodup := (first_perm m).nodup_iff.2 hm
 have hah : ∀ z ∈ first l, ahead (first l) z = ahead (first m) z := fun z hz => by
  have hzl := (first_perm l).mem_iff.1 hz
  rw [ahead_begun hl z hzl, ahead_begun hm z (hp.mem_iff.1 hzl)]
  exact h z hzl
 rw [ha, hb] at hah
 rw [ha] at n1
 rw [hb] at n2
 rw [ha, hb, list_ahead n1 n2 hah]
theorem ahead_keep {E l : List Int} (hn : l.Nodup) {d : Int} (hd : d ∈ keepOf E l) : ahead (keepOf E (first l)) d = ahead (keepOf E l) d := by
 have hd2 := List.mem_filter.1 hd
 have hof : onE E d = true := hd2.2
 have hfl : d ∈ first l := (first_perm l).mem_iff.2 hd2.1
 have nf : (first l).Nodup := (first_perm l).nodup_iff.2 hn
 have e1 := land_ahead (P := onE E) hn hd2.1 hof
 have e2 := land_ahead (P := onE E) nf hfl hof
 have key : ∀ {z : Int}, z ∈ l → (back (first l) z).find? (onE E) = (back l z).find? (onE E) := by
  intro z hz
  have hb : ∀ n, ∀ z ∈ l, (∃ s r, back l z = s ++ r ∧ s.length = n ∧ (∀ y ∈ s, onE E y = false) ∧ ∃ y r', r = y :: r' ∧ onE E y = true) → (back (first l) z).find? (onE E) = (back l z).find? (onE E) := by
   intro n
   induction n with
   | zero =>
    rintro z hz ⟨s, r, e, hs, -, y, r', hr, hy⟩
    have : s = [] := List.length_eq_zero_iff.1 hs
    subst this
    obtain ⟨t, et⟩ := back_self hz
    rw [et, List.nil_append, hr] at e
    obtain ⟨rfl, -⟩ := List.cons.inj e
    rw [land_at hz hy, land_at ((first_perm l).mem_iff.2 hz) hy]
   | succ n ih =>
    rintro z hz ⟨s, r, e, hs, hno, hyes⟩
    cases s with
    | nil => simp at hs
    | cons a s =>
     obtain ⟨t, e1, e2⟩ := back_ahead hn hz
     rw [e1] at e
     obtain ⟨rfl, et⟩ := List.cons.inj e
     have hz0 : onE E z = false := hno z (by simp)
     obtain ⟨y, r', hr, hy⟩ := hyes
     have := ih _ (ahead_mem hn hz) ⟨s, r ++ [z], by rw [e2, et]; simp, by simpa using hs, fun y hy => hno y (List.mem_cons_of_mem _ hy), y, r' ++ [z], by rw [hr]; rfl, hy⟩
     rw [land_skip hn hz hz0] at this
     rw [← ahead_begun hn z hz, land_skip nf ((first_perm l).mem_iff.2 hz) hz0] at this
     exact this
  cases e : (back l z).find? (onE E) with
  | none =>
   have := List.find?_eq_none.1 e d ((mem_back hz).2 hd2.1)
   exact absurd hof this
  | some u =>
   obtain ⟨hu, s, r, e3, hs⟩ := List.find?_eq_some_iff_append.1 e
   rw [← e]
   exact hb s.length z hz ⟨s, u :: r, e3, rfl, fun y hy => by simpa using hs y hy, u, r, rfl, hu⟩
 rw [ahead_begun hn d hd2.1, key (ahead_mem hn hd2.1), e1] at e2
 exact (Option.some.inj e2).symm
section
variable {g : Gr} {p q r : Pt} {turn same : List (List Int)}
theorem gen_stand (hz : planErr g p turn same = 0) (h : Subs g p q turn) (hne : p.v ≠ []) {u : Int} (hu : u ∈ ground g p turn p.v) : GenR g p q turn same u (stand turn (lnd g turn q.e u)) := by
 have cut := rest_cut hz h hne
 refine stand_rel h GenR.eqv (fun y hy hn => ?_) hu
 have := cut.left y ((all_ground h.pk).2 (Or.inl hy))
 rw [go_off h.pk h.qk.en hy (fun k => hn (mem_darts.2 k))] at this
 exact this
theorem gen_same (hz : planErr g p turn same = 0) (h : Subs g p q turn) (hne : p.v ≠ []) {u v : Int} (hs : Same (walksIn g (walksOf g q (restTurn q.e turn)) q.v) u v) : GenR g p q turn same (stand turn u) (stand turn v) := by
 obtain ⟨C, hC⟩ := rest_rings h
 have cut := rest_cut hz h hne
 exact Same.least (GenR.eqv (g := g) (p := p) (q := q) (turn := turn) (same := same)) hC.rings (fun w hw => cut.left w (hC.all.mem_iff.1 hw)) (same_stand h hC hs)
theorem reg_rest (hz : planErr g p turn same = 0) (h : Subs g p q turn) (hne : p.v ≠ []) {u v : Int} (hu : u ∈ ground g q (restTurn q.e turn) q.v) (hv : v ∈ ground g q (restTurn q.e turn) q.v) :
  RegR g q (restTurn q.e turn) (restSame g p q turn same) u v ↔ GenR g p q turn same (stand turn u) (stand turn v) := by
 have hz2 := rest_right hz h.qe h.sube h.subv
 have hG := GenR.eqv (g := g) (p := p) (q := q) (turn := turn) (same := same)
 have hk := walks_keys h.qe (walks_ok h.qe h.turns)
 have place : ∀ {u : Int}, u ∈ ground g q (restTurn q.e turn) q.v → ∃ f ∈ walksOf g q (restTurn q.e turn), lof g q (restTurn q.e turn) (restSame g p q turn same) u = cls g q (restTurn q.e turn) (restSame g p q turn same) f ∧ GenR g p q turn same (stand turn u) (place turn f) := by
  intro u hu
  obtain ⟨f, hf, hm⟩ := mark_of h.qe h.turns hu
  refine ⟨f, hf, lof_cls hz2 hf hm, ?_⟩
  rw [place_stand h.qe h.turns hf]
  exact gen_same hz h hne (Or.inr ⟨marks f, (marks_ground h.qe h.turns hf).1, hm, (key_mark h.qe h.turns hf).1⟩)
 obtain ⟨f, hf, e1, g1⟩ := place hu
 obtain ⟨x, hx, e2, g2⟩ := place hv
 unfold RegR
 rw [e1, e2]
 have hcg : cls g q (restTurn q.e turn) (restSame g p q turn same) f = cls g q (restTurn q.e turn) (restSame g p q turn same) x ↔ restCls (leftOf (regionsOf g p turn same) (walksOf g p turn)) p q.e turn f = restCls (leftOf (regionsOf g p turn same) (walksOf g p turn)) p q.e turn x :=
  cls_grps hk (same_grps hz2).symm hf hx
 rw [hcg, rest_cls h]
 exact ⟨fun k => hG.trans g1 (hG.trans k (hG.symm g2)), fun k => hG.trans (hG.symm g1) (hG.trans k g2)⟩
theorem mem_outE {e : Int} : e ∈ (outE p q).reverse ++ [] ↔ e ∈ p.e ∧ e ∉ q.e := by
 rw [List.append_nil, List.mem_reverse]; unfold outE; rw [List.mem_filter, decide_eq_true_iff]
end
theorem ahead_back {l : List Int} (hn : l.Nodup) {d : Int} (hd : d ∈ l) : ahead l.reverse (ahead l d) = d := by
 obtain ⟨a, c, rfl, hda⟩ := split_at hd
 rw [ahead_split hda]
 rcases List.eq_nil_or_concat a with rfl | ⟨a, z, rfl⟩
 ·rcases List.eq_nil_or_concat c with rfl | ⟨c, z, rfl⟩
  ·have := ahead_split (a := []) (c := []) (u := d) (by simp)
   simpa using this
  have h1 : (([] : List Int).reverse ++ ((c.concat z).reverse ++ [d])).getD 0 0 = z := by simp [List.getD]
  rw [h1]
  have h2 := ahead_split (a := []) (c := c.reverse ++ [d]) (u := z) (by simp)
  have h3 : ([] ++ d :: c.concat z).reverse = [] ++ z :: (c.reverse ++ [d]) := by simp
  rw [h3, h2]
  simp [List.getD]
 have h1 : ((a.concat z).reverse ++ (c.reverse ++ [d])).getD 0 0 = z := by simp [List.getD]
 rw [h1]
 have hz : z ∉ c.reverse ++ [d] := by
  rw [List.concat_eq_append, List.append_assoc, List.nodup_append] at hn
  have h2 := hn.2.1
  rw [List.singleton_append, List.nodup_cons] at h2
  intro k
  rcases List.mem_append.1 k with k | k
  ·exact h2.1 (List.mem_cons_of_mem _ (List.mem_reverse.1 k))
  exact h2.1 (by rw [List.mem_singleton.1 k]; simp)
 have h2 := ahead_split (c := a.reverse) hz
 have h3 : (a.concat z ++ d :: c).reverse = (c.reverse ++ [d]) ++ z :: a.reverse := by simp
 rw [h3, h2]
 simp [List.getD]
def mirTurn (turn : List (List Int)) : List (List Int) := turn.map fun l => first l.reverse
theorem mirTurn_at (turn : List (List Int)) (v : Int) : turnAt (mirTurn turn) v = first (turnAt turn v).reverse := by
 unfold turnAt mirTurn List.getD
 rw [List.getElem?_map]
 cases turn[v.toNat]? <;> rfl
theorem mir_perm (l : List Int) : (first l.reverse).Perm l := (first_perm _).trans (List.reverse_perm l)
theorem mirTurn_ok {g : Gr} {p : Pt} {turn : List (List Int)} (ht : TurnsOk g p turn) : TurnsOk g p (mirTurn turn) := by
 refine ⟨by unfold mirTurn; rw [List.length_map]; exact ht.len, fun v => ?_, fun v h0 hn d => ?_⟩
 ·rw [mirTurn_at]; exact (mir_perm _).nodup_iff.2 (ht.nodup v)
 rw [mirTurn_at, (mir_perm _).mem_iff]; exact ht.mem v h0 hn d
theorem mir_mir {l : List Int} (hn : l.Nodup) : first (first l.reverse).reverse = first l := by
 have hr : l.reverse.Nodup := (List.reverse_perm l).nodup_iff.2 hn
 have hf : (first l.reverse).Nodup := (first_perm _).nodup_iff.2 hr
 refine (first_turn hn ((mir_perm l).symm.trans (List.reverse_perm _).symm) fun y hy => ?_).symm
 have h1 : ahead l y ∈ l := ahead_mem hn hy
 have h2 : ahead l y ∈ first l.reverse := (mir_perm l).mem_iff.2 h1
 have h3 := ahead_back hf h2
 rw [ahead_begun hr _ (List.mem_reverse.2 h1), ahead_back hn hy] at h3
 exact h3.symm
theorem mirTurn_twice {turn : List (List Int)} (hn : ∀ l ∈ turn, l.Nodup) : mirTurn (mirTurn turn) = turn.map first := by
 unfold mirTurn
 rw [List.map_map]
 exact List.map_congr_left fun l hl => mir_mir (hn l hl)
def tau (x : Int) : Int := if x < 0 then x else twin x
theorem twin_pos {x : Int} (h : 0 ≤ x) : 0 ≤ twin x := by unfold twin; split <;> omega
theorem tau_tau (x : Int) : tau (tau x) = x := by
 unfold tau
 by_cases h : x < 0
 ·rw [if_pos h, if_pos h]
 have := twin_pos (x := x) (by omega)
 rw [if_neg h, if_neg (by omega), twin_twin]
section
variable {g : Gr} {p q : Pt} {turn same : List (List Int)}
theorem tau_dart (h : PartOk g p) {d : Int} (hd : d ∈ p.darts) : tau d = twin d := by unfold tau; rw [if_neg (by have := dart_pos h hd; omega)]
theorem tau_key {x : Int} (h : x < 0) : tau x = x := if_pos h
theorem mir_nil {v : Int} : turnAt (mirTurn turn) v = [] ↔ turnAt turn v = [] := by
 rw [mirTurn_at]
 constructor
 ·intro h
  have := (mir_perm (turnAt turn v)).length_eq
  rw [h] at this
  exact List.length_eq_zero_iff.1 this.symm
 intro h; rw [h]; rfl
theorem mir_ground (h : PartOk g p) {x : Int} : x ∈ ground g p (mirTurn turn) p.v ↔ x ∈ ground g p turn p.v := by
 rw [all_ground h, all_ground h]
 simp only [mir_nil]
theorem tau_ground (h : PartOk g p) {x : Int} (hx : x ∈ ground g p turn p.v) : tau x ∈ ground g p turn p.v := by
 rcases (all_ground h).1 hx with hd | ⟨v, hv, e, rfl⟩
 ·rw [tau_dart h hd]; exact (all_ground h).2 (Or.inl (twin_mem hd))
 rw [tau_key (by have := (h.vr v hv).1; omega)]; exact hx
theorem tau_piece (h : PartOk g p) {x : Int} (hx : x ∈ ground g p turn p.v) : pieceIx g p (vert g (tau x)) = pieceIx g p (vert g x) := by
 rcases (all_ground h).1 hx with hd | ⟨v, hv, e, rfl⟩
 ·rw [tau_dart h hd, vert_dart h hd, vert_dart h (twin_mem hd), tail_twin]
  have t := h.tail_mem hd
  exact (come_piece h t.1 t.2 (Come.step .here (near_dart hd) (fun k => by have := (h.vr _ t.2).1; omega))).symm
 rw [tau_key (by have := (h.vr v hv).1; omega)]
theorem mir_before (h : PartOk g p) (ht : TurnsOk g p turn) {d : Int} (hd : d ∈ p.darts) : before g (mirTurn turn) (before g turn d) = d := by
 have hut := dart_turn h ht hd
 have hn := ht.nodup (g.tail d)
 have hat := ahead_mem hn hut
 obtain ⟨a1, a2⟩ := turn_dart h ht (h.tail_mem hd).1 hat
 unfold before
 rw [a2, mirTurn_at, ahead_begun ((List.reverse_perm _).nodup_iff.2 hn) _ (List.mem_reverse.2 hat)]
 exact ahead_back hn hut
theorem mir_next (h : PartOk g p) (ht : TurnsOk g p turn) {x : Int} (hx : x ∈ ground g p turn p.v) : bef g (mirTurn turn) (tw p.e (tau (bef g turn (tw p.e x)))) = tau x := by
 rcases (all_ground h).1 hx with hd | ⟨v, hv, e, rfl⟩
 ·have hn := (next_tail ht (fun d hd => dart_ends h hd) hd).1
  rw [go_dart h h.en hd (mem_darts.1 hd), tau_dart h hn, tau_dart h hd]
  rw [go_dart h h.en (twin_mem hn) (mem_darts.1 (twin_mem hn))]
  unfold nextDart
  rw [twin_twin]
  exact mir_before h ht (twin_mem hd)
 have h0 := (h.vr v hv).1
 have hk : tau (-1 - v) = -1 - v := tau_key (by omega)
 have e1 : bef g turn (tw p.e (-1 - v)) = -1 - v := go_key h.en h.er (by omega)
 have e2 : bef g (mirTurn turn) (tw p.e (-1 - v)) = -1 - v := go_key h.en h.er (by omega)
 rw [e1, hk, e2]
theorem mir_rings (hpe : p.err g = 0) (ht : TurnsOk g p turn) : Rings (fun x => bef g (mirTurn turn) (tw p.e x)) (walksIn g (walksOf g p (mirTurn turn)) p.v) ∧ (walksIn g (walksOf g p (mirTurn turn)) p.v).flatten.Perm (ground g p (mirTurn turn) p.v) := by
 have h := Pt.ok_of_err hpe
 have := walk_rings hpe (mirTurn_ok ht) (walks_ok hpe (mirTurn_ok ht)) (Stretch.all h)
 rwa [edges_all h] at this
theorem own_rings (hpe : p.err g = 0) (ht : TurnsOk g p turn) : Rings (fun x => bef g turn (tw p.e x)) (walksIn g (walksOf g p turn) p.v) ∧ (walksIn g (walksOf g p turn) p.v).flatten.Perm (ground g p turn p.v) := by
 have h := Pt.ok_of_err hpe
 have := walk_rings hpe ht (walks_ok hpe ht) (Stretch.all h)
 rwa [edges_all h] at this
theorem mir_same (hpe : p.err g = 0) (ht : TurnsOk g p turn) {x y : Int} : Same (walksIn g (walksOf g p (mirTurn turn)) p.v) x y → Same (walksIn g (walksOf g p turn) p.v) (tau x) (tau y) := by
 have h := Pt.ok_of_err hpe
 obtain ⟨w1, w2⟩ := own_rings hpe ht
 obtain ⟨m1, m2⟩ := mir_rings hpe ht
 have hE := Same.eqv w1.nodup
 intro k
 refine Same.least (hE.comap tau) m1 (fun w hw => ?_) k
 have hwK := (mir_ground h).1 (m2.mem_iff.1 hw)
 obtain ⟨u, hu, e⟩ := w1.pred (w2.mem_iff.2 (tau_ground h hwK))
 have hn := mir_next h ht (w2.mem_iff.1 hu)
 have e : bef g turn (tw p.e u) = tau w := e
 rw [e, tau_tau] at hn
 show Same _ (tau w) (tau (bef g (mirTurn turn) (tw p.e w)))
 rw [hn, tau_tau, ← e]
 exact hE.symm (Same.step w1 hu)
theorem same_mir (hpe : p.err g = 0) (ht : TurnsOk g p turn) {x y : Int} : Same (walksIn g (walksOf g p turn) p.v) x y → Same (walksIn g (walksOf g p (mirTurn turn)) p.v) (tau x) (tau y) := by
 have h := Pt.ok_of_err hpe
 obtain ⟨w1, w2⟩ := own_rings hpe ht
 obtain ⟨m1, m2⟩ := mir_rings hpe ht
 have hE := Same.eqv m1.nodup
 intro k
 refine Same.least (hE.comap tau) w1 (fun w hw => ?_) k
 have hwK := w2.mem_iff.1 hw
 have hnK := w2.mem_iff.1 (w1.next hw)
 have hn := mir_next h ht hwK
 have hs := Same.step m1 (m2.mem_iff.2 ((mir_ground h).2 (tau_ground h hnK)))
 have hs : Same (walksIn g (walksOf g p (mirTurn turn)) p.v) (tau (bef g turn (tw p.e w))) (bef g (mirTurn turn) (tw p.e (tau (bef g turn (tw p.e w))))) := hs
 rw [hn] at hs
 exact hE.symm hs
theorem mir_count (hpe : p.err g = 0) (ht : TurnsOk g p turn) : (walksOf g p (mirTurn turn)).length = (walksOf g p turn).length := by
 have h := Pt.ok_of_err hpe
 obtain ⟨w1, w2⟩ := own_rings hpe ht
 obtain ⟨m1, m2⟩ := mir_rings hpe ht
 have e1 := cnt_same w1 w2
 have e2 := cnt_same m1 m2
 rw [walks_all h (walks_ok hpe ht).faces] at e1
 rw [walks_all h (walks_ok hpe (mirTurn_ok ht)).faces] at e2
 rw [← e1, ← e2]
 refine cnt_via (Same.eqv m1.nodup) (Same.eqv w1.nodup) tau (fun x hx => tau_ground h ((mir_ground h).1 hx)) (fun x _ y _ => ⟨mir_same hpe ht, fun k => ?_⟩) (fun z hz => ⟨tau z, (mir_ground h).2 (tau_ground h hz), by rw [tau_tau]; exact (Same.eqv w1.nodup).refl z⟩)
 have := same_mir hpe ht k
 rwa [tau_tau, tau_tau] at this
noncomputable def mirCls (g : Gr) (p : Pt) (turn same : List (List Int)) (f : Face) : Int := lof g p turn same (tau f.1)
noncomputable def mirSame (g : Gr) (p : Pt) (turn same : List (List Int)) : List (List Int) := grps (mirCls g p turn same) (walksOf g p (mirTurn turn))
theorem lof_same (hz : planErr g p turn same = 0) {x y : Int} (k : Same (walksIn g (walksOf g p turn) p.v) x y) : lof g p turn same x = lof g p turn same y := by
 obtain ⟨hpe, hto⟩ := zero_ok hz
 have h := Pt.ok_of_err hpe
 have hW := walks_ok hpe hto
 obtain ⟨w1, w2⟩ := own_rings hpe hto
 refine Same.least (Q := RegR g p turn same) (RegR.eqv g p turn same) w1 (fun w hw => ?_) k
 show lof g p turn same w = lof g p turn same (bef g turn (tw p.e w))
 rcases (all_ground h).1 (w2.mem_iff.1 hw) with hd | ⟨v, hv, -, rfl⟩
 ·rw [go_dart h h.en hd (mem_darts.1 hd)]
  unfold lof lf
  rw [(left_next _ hpe hW hd).1]
 rw [go_key h.en h.er (by have := (h.vr v hv).1; omega)]
theorem mir_beside (hz : planErr g p turn same = 0) {k : Int} (hk : k ∈ ground g p turn p.v) : ∃ f ∈ walksOf g p (mirTurn turn), lof g p turn same k = mirCls g p turn same f ∧ ownAt g p (mirTurn turn) f.1 = (pieceIx g p (vert g k) : Int) := by
 obtain ⟨hpe, hto⟩ := zero_ok hz
 have h := Pt.ok_of_err hpe
 have hm := mirTurn_ok hto
 have hW := walks_ok hpe hm
 have hkm := (mir_ground (turn := turn) h).2 (tau_ground h hk)
 obtain ⟨f, hf, hfm⟩ := mark_of hpe hm hkm
 have hkey := key_mark hpe hm hf
 refine ⟨f, hf, ?_, ?_⟩
 ·have := lof_same hz (mir_same hpe hto (Or.inr ⟨marks f, (marks_ground hpe hm hf).1, hfm, hkey.1⟩))
  rw [tau_tau] at this
  exact this
 rw [own_corner hpe hm hf, ← tau_piece h hk]
 have hcm := corner_mem h hW.faces f hf
 by_cases e : f.2 = []
 ·rw [marks_nil e] at hfm
  have hfm : tau k = f.1 := by simpa using hfm
  rw [hfm, hkey.2]
 rw [marks_some e] at hfm
 obtain ⟨n1, c1⟩ := piece_at h hcm
 obtain ⟨d1, d2⟩ := walk_const h hm hW.faces (comp_closed h _) hf hfm
 rw [vert_dart h d1, pieceIx_eq h n1 (d2.2 c1)]
theorem mir_key (hz : planErr g p turn same = 0) {f : Face} (hf : f ∈ walksOf g p (mirTurn turn)) : f.1 ∈ ground g p (mirTurn turn) p.v ∧ tau f.1 ∈ ground g p turn p.v := by
 obtain ⟨hpe, hto⟩ := zero_ok hz
 have h := Pt.ok_of_err hpe
 have := (marks_ground hpe (mirTurn_ok hto) hf).2 _ (key_mark hpe (mirTurn_ok hto) hf).1
 exact ⟨this, tau_ground h ((mir_ground h).1 this)⟩
theorem mir_right (hz : planErr g p turn same = 0) : planErr g p (mirTurn turn) (mirSame g p turn same) = 0 := by
 obtain ⟨hpe, hto⟩ := zero_ok hz
 have h := Pt.ok_of_err hpe
 have hm := mirTurn_ok hto
 have hW := walks_ok hpe hm
 by_cases hne : p.v = []
 ·have hw : walksOf g p (mirTurn turn) = [] := by
   cases e : walksOf g p (mirTurn turn) with
   | nil => rfl
   | cons f W =>
    have := corner_mem h hW.faces f (by rw [e]; simp)
    rw [hne] at this
    cases this
  have hs : mirSame g p turn same = [] := by unfold mirSame; rw [hw]; rfl
  have hr : roots g p = [] := by
   cases e : roots g p with
   | nil => rfl
   | cons r R =>
    have := (mem_roots.1 (show r ∈ roots g p by rw [e]; simp)).1
    rw [hne] at this
    cases this
  rw [hs, ← planErr_first]
  refine lone_plan ?_
  unfold loneErr
  have hf : flatErr g p (mirTurn turn) = 0 := flatErr_ok (turnErr_ok hpe hm) (fun r hr2 => by rw [hr] at hr2; cases hr2)
  rw [if_neg (by simp [hf]), if_pos (by rw [hr]; simp)]
 have heu := euler h hto (walks_ok hpe hto).faces (flatErr_zero (planErr_zero hz).1).2
 have hc := mir_count hpe hto
 have hreg := regs_count hz hne
 have hE : Eqv fun x y => RegR g p turn same (tau x) (tau y) := (RegR.eqv g p turn same).comap tau
 have hn : (regionsOf g p turn same).length = nCls (mirCls g p turn same) (walksOf g p (mirTurn turn)) := by
  rw [← cnt_regs hz]
  have e1 : cnt (fun x y => RegR g p turn same (tau x) (tau y)) (ground g p turn p.v) = cnt (RegR g p turn same) (ground g p turn p.v) :=
   cnt_via hE (RegR.eqv g p turn same) tau (fun x hx => tau_ground h hx) (fun x _ y _ => Iff.rfl) (fun z hzz => ⟨tau z, tau_ground h hzz, by rw [tau_tau]; rfl⟩)
  rw [← e1]
  refine nCls_cnt (walks_keys hpe hW) hE (pl := fun f => f.1) (fun f hf => (mir_ground h).1 (mir_key hz hf).1) (fun f _ x _ => Iff.rfl) (fun k hk => ?_)
  obtain ⟨f, hf, e, -⟩ := mir_beside hz (tau_ground h hk)
  exact ⟨f, hf, e⟩
 refine plan_grps hpe hm (flat_of hpe hm hW (by rw [hc]; exact heu)) (by rw [hc]; omega) fun J hJ hj => ?_
 let J' : Int → Int → Prop := fun u v => u = v ∨ ∃ f ∈ walksOf g p (mirTurn turn), ∃ x ∈ walksOf g p (mirTurn turn), lof g p turn same u = mirCls g p turn same f ∧ lof g p turn same v = mirCls g p turn same x ∧ J (ownAt g p (mirTurn turn) f.1) (ownAt g p (mirTurn turn) x.1)
 have hJ' : Eqv J' := by
  refine ⟨fun _ => Or.inl rfl, fun {u v} k => ?_, fun {u v w} k m => ?_⟩
  ·rcases k with e | ⟨f, hf, x, hx, k1, k2, k3⟩
   ·exact Or.inl e.symm
   exact Or.inr ⟨x, hx, f, hf, k2, k1, hJ.symm k3⟩
  rcases k with e | ⟨f, hf, x, hx, k1, k2, k3⟩
  ·rw [e]; exact m
  rcases m with e | ⟨f', hf', x', hx', m1, m2, m3⟩
  ·rw [← e]; exact Or.inr ⟨f, hf, x, hx, k1, k2, k3⟩
  exact Or.inr ⟨f, hf, x', hx', k1, m2, hJ.trans k3 (hJ.trans (hj _ hx _ hf' (k2.symm.trans m1)) m3)⟩
 have hreg2 : ∀ u ∈ ground g p turn p.v, ∀ v, RegR g p turn same u v → J' u v := fun u hu v k => by
  obtain ⟨f, hf, h1, -⟩ := mir_beside hz hu
  have k : lof g p turn same u = lof g p turn same v := k
  exact Or.inr ⟨f, hf, f, hf, h1, k ▸ h1, hJ.refl _⟩
 have hpc : ∀ u ∈ ground g p turn p.v, ∀ v ∈ ground g p turn p.v, pieceIx g p (vert g u) = pieceIx g p (vert g v) → J' u v := fun u hu v hv e => by
  obtain ⟨f, hf, h1, o1⟩ := mir_beside hz hu
  obtain ⟨x, hx, h2, o2⟩ := mir_beside hz hv
  exact Or.inr ⟨f, hf, x, hx, h1, h2, by rw [o1, o2, e]; exact hJ.refl _⟩
 have ht := tot_start hz J' hJ' (fun u hu => by
  have hvb := vert_bef h hto (Stretch.all h) hu
  exact hpc u hu _ hvb.1 (by rw [hvb.2])) (fun f hf => by
  have hg2 := edges_in (turn := turn) h (Stretch.all h) (by rw [edges_all h]; exact hf)
  refine hpc _ hg2.1 _ hg2.2 ?_
  have := tau_piece h hg2.1
  have d1 : 2 * f ∈ p.darts := mem_darts.2 (by rwa [show 2 * f / 2 = f by omega])
  rw [tau_dart h d1, show twin (2 * f) = 2 * f + 1 by unfold twin; rw [if_pos (by omega)]] at this
  exact this.symm) (fun u hu v _ m => hreg2 u hu v m)
 have pick : ∀ a ∈ upTo (roots g p).length, ∃ k ∈ ground g p turn p.v, (pieceIx g p (vert g k) : Int) = a := by
  intro a ha
  obtain ⟨a1, a2⟩ := mem_upTo.1 ha
  have hn : a.toNat < (roots g p).length := by omega
  have hr := (mem_roots.1 (getD_mem hn)).1
  obtain ⟨s1, s2⟩ := seat_mem h hto hr
  refine ⟨_, s1, ?_⟩
  rw [s2, pieceIx_eq h hn (mem_comp.2 ⟨hr, .here⟩)]
  omega
 intro a ha b hb
 obtain ⟨u, hu, eu⟩ := pick a ha
 obtain ⟨v, hv, ev⟩ := pick b hb
 obtain ⟨fu, hfu, ru, ou⟩ := mir_beside hz hu
 obtain ⟨fv, hfv, rv, ov⟩ := mir_beside hz hv
 rcases ht u hu v hv with e | ⟨f, hf, x, hx, k1, k2, k3⟩
 ·rw [← eu, ← ev, e]; exact hJ.refl _
 have j1 := hj _ hfu _ hf (ru.symm.trans k1)
 have j2 := hj _ hx _ hfv (k2.symm.trans rv)
 rw [ou, eu] at j1
 rw [ov, ev] at j2
 exact hJ.trans j1 (hJ.trans k3 j2)
theorem reg_mir (hz : planErr g p turn same = 0) {u v : Int} (hu : u ∈ ground g p turn p.v) (hv : v ∈ ground g p turn p.v) : RegR g p (mirTurn turn) (mirSame g p turn same) u v ↔ RegR g p turn same (tau u) (tau v) := by
 obtain ⟨hpe, hto⟩ := zero_ok hz
 have h := Pt.ok_of_err hpe
 have hm := mirTurn_ok hto
 have hz2 := mir_right hz
 have hk := walks_keys hpe (walks_ok hpe hm)
 have place : ∀ {u : Int}, u ∈ ground g p turn p.v → ∃ f ∈ walksOf g p (mirTurn turn), lof g p (mirTurn turn) (mirSame g p turn same) u = cls g p (mirTurn turn) (mirSame g p turn same) f ∧ lof g p turn same (tau u) = mirCls g p turn same f := by
  intro u hu
  obtain ⟨f, hf, hfm⟩ := mark_of hpe hm ((mir_ground (turn := turn) h).2 hu)
  refine ⟨f, hf, lof_cls hz2 hf hfm, ?_⟩
  exact lof_same hz (mir_same hpe hto (Or.inr ⟨marks f, (marks_ground hpe hm hf).1, hfm, (key_mark hpe hm hf).1⟩))
 obtain ⟨f, hf, e1, g1⟩ := place hu
 obtain ⟨x, hx, e2, g2⟩ := place hv
 unfold RegR
 rw [e1, e2, g1, g2]
 exact cls_grps hk (same_grps hz2).symm hf hx
theorem mir_twice (hz : planErr g p turn same = 0) : mirTurn (mirTurn turn) = turn.map first ∧ mirSame g p (mirTurn turn) (mirSame g p turn same) = same := by
 obtain ⟨hpe, hto⟩ := zero_ok hz
 have h := Pt.ok_of_err hpe
 have ht : mirTurn (mirTurn turn) = turn.map first := mirTurn_twice fun l hl => by
  obtain ⟨i, hi, rfl⟩ := List.getElem_of_mem hl
  have := hto.nodup (i : Int)
  rwa [show turnAt turn (i : Int) = turn[i] by unfold turnAt; simp [List.getD, hi]] at this
 refine ⟨ht, ?_⟩
 conv => rhs; rw [same_grps hz]
 unfold mirSame
 rw [ht, walks_first hpe hto]
 refine grps_congr fun f hf x hx => ?_
 have key : ∀ {f : Face}, f ∈ walksOf g p turn → f.1 ∈ ground g p turn p.v := fun {f} hf => (marks_ground hpe hto hf).2 _ (key_mark hpe hto hf).1
 have hr := reg_mir hz (tau_ground h (key hf)) (tau_ground h (key hx))
 rw [tau_tau, tau_tau] at hr
 unfold RegR mirSame at hr
 show lof g p (mirTurn turn) (grps (mirCls g p turn same) (walksOf g p (mirTurn turn))) (tau f.1) = lof g p (mirTurn turn) (grps (mirCls g p turn same) (walksOf g p (mirTurn turn))) (tau x.1) ↔ _
 rw [hr, lof_cls hz hf (key_mark hpe hto hf).1, lof_cls hz hx (key_mark hpe hto hx).1]
end
end Go.Proofs.Ytckjpaimbmlboaa.Plain
