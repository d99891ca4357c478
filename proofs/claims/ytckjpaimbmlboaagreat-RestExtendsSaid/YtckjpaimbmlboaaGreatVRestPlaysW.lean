/- the law RestPlays: the walk. Conditions: a graph, two parts, a plan that lie in memory and read so. -/
import Derived.Test.YtckjpaimbmlboaaGreatVAwk09
import Derived.Test.YtckjpaimbmlboaaGreatVRef09R
namespace Go.Proofs.YtckjpaimbmlboaaGreat
open Go.RowKit Go.Maps
namespace Plain
theorem keep_rowi (E : List Int) (turn : List (List Int)) (i : Nat) : ((keepTurn E turn).getD i []).length ≤ (turn.getD i []).length := by
 unfold keepTurn List.getD
 rw [List.getElem?_map]
 cases turn[i]? with
 | none => simp
 | some l => exact List.length_filter_le _ _
theorem rest_firsts (E : List Int) (turn : List (List Int)) : (restTurn E turn).map first = (keepTurn E turn).map first := by
 rw [keep_first]
 unfold restTurn
 rw [List.map_map]
 exact List.map_congr_left fun l _ => first_first _
end Plain
theorem seq_any (va vb : Value) (a b : List Int) (w : World) (ha : IntsAt w va a) (hb : IntsAt w vb b) :
  Calls Tryz.prog 92 #[va, vb] w fun e w' => e = .returned (.bool (decide (a = b))) ∧ Chg [] w w' := by
 obtain ⟨ao, ac, rfl, -, ham, hac⟩ := ha
 obtain ⟨bo, bc, rfl, -, hbm, hbc⟩ := hb
 by_cases hl : a.length = b.length
 ·by_cases h0 : a = []
  ·subst h0
   have hb0 : b = [] := List.length_eq_zero_iff.1 hl.symm
   subst hb0
   refine (Tryz.slices_Equal_int_empty ao bo ac 0 bc w (by decide)).mono ?_
   rintro e w' ⟨rfl, rfl⟩
   exact ⟨rfl, Chg.refl _ _⟩
  have hb0 : b ≠ [] := fun e => h0 (List.length_eq_zero_iff.1 (by rw [hl, e]; rfl))
  obtain ⟨ba, oa, rfl, ca⟩ := hac h0
  obtain ⟨bb, ob, rfl, cb⟩ := hbc hb0
  refine (Tryz.slices_Equal_int ba oa a.length ac bb ob b.length bc a b w (Nat.le_refl _) (Nat.le_refl _) (by omega) (by omega) ca cb).mono ?_
  rintro e w' ⟨rfl, n, rfl⟩
  refine ⟨?_, ?_⟩
  ·rw [List.take_length, List.take_length]
   by_cases h : a = b
   ·subst h; simp
   have h1 : (a == b) = false := beq_eq_false_iff_ne.2 h
   rw [h1, decide_eq_false (show ¬ a = b from h)]
  exact (Chg.refl [] w).drewN _
 refine (Tryz.slices_Equal_int_lens ao bo a.length ac b.length bc w hl).mono ?_
 rintro e w' ⟨rfl, rfl⟩
 exact ⟨by simp [show ¬ a = b from fun e => hl (by rw [e])], Chg.refl _ _⟩
namespace Plain
def rowsTo (l m : List (List Int)) (k : Nat) : Prop := ∀ i, i < k → l.getD i [] = m.getD i []
theorem rows_ext {l m : List (List Int)} (hl : l.length = m.length) (h : rowsTo l m l.length) : l = m := by
 refine List.ext_getElem hl fun i h1 h2 => ?_
 have := h i h1
 simpa [List.getD, h1, h2] using this
end Plain
set_option maxRecDepth 100000 in
theorem seqf_any (va vb : Value) (l m : List (List Int)) (w : World) (hll : l.length < 1000000000) (ha : RowsAt w va l) (hb : RowsAt w vb m) :
  Calls Tryz.prog 91 #[va, vb, .func (.func 92) #[] #[]] w fun e w' => e = .returned (.bool (decide (l = m))) ∧ Chg [] w w' := by
 have HA := lh ha
 have HB := lh hb
 obtain ⟨ao, ac, rfl, -⟩ := ha
 obtain ⟨bo, bc, rfl, -⟩ := hb
 go_enter Tryz.func91, Tryz.ntmps91
 by_cases hl : l.length = m.length
 ·have HL := lh hl
  obtain ⟨n, hn⟩ : ∃ n, l.length = n := ⟨_, rfl⟩
  have HN := lh hn
  have hn2 : m.length = n := hl.symm.trans hn
  rw [hn] at hll ⊢
  rw [hn2] at ⊢
  have HN2 := lh hn2
  clear hl hn hn2
  go_wp2
  go_loopw [17] (fun c wr => ∃ k : Nat, k ≤ n ∧ c = .int .i64 k ∧ Chg [] w wr ∧ Hid (Plain.rowsTo l m k)) (fun c _ => n - (intOf c).toNat)
  case atStart => exact ⟨0, Nat.zero_le _, rfl, Chg.refl _ _, lh (fun i hi => by omega)⟩
  case round =>
   obtain ⟨k, hk, rfl, hc, hrt⟩ := hrel
   have HC := lh hc
   by_cases hlt : k < n
   ·obtain ⟨b1, o1, u1, e1, c1, -, r1⟩ := (HA.out.fresh hc).rowc (k := k) (by rw [HN.out]; exact hlt)
    obtain ⟨b2, o2, u2, e2, c2, -, r2⟩ := (HB.out.fresh hc).rowc (k := k) (by rw [HN2.out]; exact hlt)
    have HEQ := lh (show Plain.rowsTo l m k ∧ l.getD k [] = m.getD k [] → Plain.rowsTo l m (k + 1) from fun h i hi => by
     rcases (show i < k ∨ i = k by omega) with q | q
     ·exact h.1 i q
     rw [q]; exact h.2)
    have HNE := lh (show l.getD k [] ≠ m.getD k [] → l ≠ m from fun h e => h (by rw [e]))
    obtain ⟨rx, hrx⟩ : ∃ x, l.getD k [] = x := ⟨_, rfl⟩
    obtain ⟨ry, hry⟩ : ∃ x, m.getD k [] = x := ⟨_, rfl⟩
    rw [hrx] at r1 HEQ HNE
    rw [hry] at r2 HEQ HNE
    have R1 := lh r1
    have R2 := lh r2
    clear hc r1 r2 hrx hry
    simp only [e1, e2]
    go_wp2_with fail
    refine (seq_any _ _ rx ry _ R1.out R2.out).mono ?_
    rintro e w4 ⟨rfl, hc4⟩
    have HC4 := lh (HC.out.trans hc4 (by simp))
    clear hc4 c1 c2
    by_cases hxy : rx = ry
    ·have HNX := lh (HEQ.out ⟨hrt.out, hxy⟩)
     rw [decide_eq_true hxy]
     clear hxy
     go_wp2
     go_roundw
     case rel => exact ⟨k + 1, by omega, by go_num, HC4.out, HNX⟩
     case measure => simp [intOf]; omega
    have HF := lh (HNE.out hxy)
    rw [decide_eq_false hxy]
    clear hxy
    go_wp2
    go_ret
    exact ⟨ret_bool (decide_eq_false HF.out).symm, HC4.out⟩
   have e : k = n := by omega
   have HALL := lh (Plain.rows_ext HL.out (by rw [HN.out, ← e]; exact hrt.out))
   subst e
   clear hlt
   go_wp2
   go_ret
   exact ⟨ret_bool (decide_eq_true HALL.out).symm, HC.out⟩
 have HF := lh (show l ≠ m from fun e => hl (by rw [e]))
 have hd : ((l.length : Int) != (m.length : Int)) = true := by simp; omega
 clear hl
 go_wp2
 go_ret
 exact ⟨ret_bool (decide_eq_false HF.out).symm, Chg.refl _ _⟩
theorem box_store {wr : World} {b : Nat} {x y : Value} {t : TypeId} (hb : wr.heap[b]? = some (.cells #[x, y] t (0, 0))) (u v : Value) :
  ((wr.setCell ⟨b, 0, none⟩ u).setCell ⟨b, 1, none⟩ v).cell? ⟨b, 0, none⟩ = some u ∧ ((wr.setCell ⟨b, 0, none⟩ u).setCell ⟨b, 1, none⟩ v).cell? ⟨b, 1, none⟩ = some v ∧ Chg [b] wr ((wr.setCell ⟨b, 0, none⟩ u).setCell ⟨b, 1, none⟩ v) := by
 have hh := heap_setCell_same (heap_setCell_same hb 0 u) 1 v
 exact ⟨(cell_of_row _ _ 0 _ _ _ hh).trans rfl, (cell_of_row _ _ 1 _ _ _ hh).trans rfl, ((Chg.refl _ wr).setCell (Or.inl (by simp)) _).setCell (Or.inl (by simp)) _⟩
set_option maxRecDepth 100000 in
set_option maxHeartbeats 4000000 in
theorem psame_any (va vb : Value) (ta sa tb sb : List (List Int)) (w : World) (h1 : ta.length < 1000000000) (h2 : sa.length < 1000000000) (h3 : ∀ i, (ta.getD i []).length < 1000000000) (h4 : ∀ i, (sa.getD i []).length < 1000000000) (h5 : tb.length < 1000000000) (h6 : sb.length < 1000000000) (h7 : ∀ i, (tb.getD i []).length < 1000000000) (h8 : ∀ i, (sb.getD i []).length < 1000000000) (ha : PlAt w va ta sa) (hb : PlAt w vb tb sb) :
  Calls Tryz.prog 54 #[va, vb] w fun e w' => e = .returned (.bool (decide (ta.map Plain.first = tb.map Plain.first ∧ sa = sb))) ∧ Chg [] w w' := by
 have HA := lh ha
 have HB := lh hb
 obtain ⟨u1, u2, rfl, ⟨ao, ac, rfl, -⟩, ⟨bo, bc, rfl, -⟩⟩ := ha
 obtain ⟨u3, u4, rfl, ⟨co, cc, rfl, -⟩, ⟨eo, ec, rfl, -⟩⟩ := hb
 have H3 := lh h3
 have H4 := lh h4
 have H7 := lh h7
 have H8 := lh h8
 obtain ⟨hb1, hb2, hc1⟩ := box_two w #[.slice ao ta.length ac, .slice bo sa.length bc] #[.slice co tb.length cc, .slice eo sb.length ec] 30 30
 have HC1 := lh hc1
 have B1 := lh hb1
 have B2 := lh hb2
 have z0 := (cell_of_row _ _ 0 _ _ _ hb1).trans (show _ = some (Value.slice ao ta.length ac) from rfl)
 have z1 := (cell_of_row _ _ 1 _ _ _ hb1).trans (show _ = some (Value.slice bo sa.length bc) from rfl)
 have y0 := (cell_of_row _ _ 0 _ _ _ hb2).trans (show _ = some (Value.slice co tb.length cc) from rfl)
 have y1 := (cell_of_row _ _ 1 _ _ _ hb2).trans (show _ = some (Value.slice eo sb.length ec) from rfl)
 have HSZ := lh (show ((w.alloc (.cells #[.slice ao ta.length ac, .slice bo sa.length bc] 30)).alloc (.cells #[.slice co tb.length cc, .slice eo sb.length ec] 30)).heap.size = w.heap.size + 2 by simp)
 clear h3 h4 h7 h8 hb1 hb2 hc1
 go_enter Tryz.func54, Tryz.ntmps54
 go_wp2
 generalize ((w.alloc (.cells #[.slice ao ta.length ac, .slice bo sa.length bc] 30)).alloc (.cells #[.slice co tb.length cc, .slice eo sb.length ec] 30)) = w1 at *
 have hS0 : Chg [w.heap.size] w1 w1.drew := (Chg.refl _ w1).drew
 have HF0 := lh ((Chg.refl [] w1).drew)
 refine wp_region_way (fun wx => Chg [w.heap.size] w1 wx) [2] (Way.line [2, 0, 1, 3, 4, 5] .done) (by kernel_rfl) (by kernel_rfl) ?_
 simp only [Way.line]
 repeat
  first
   | (refine along_off rfl (by rfl) (by rfl) (fun _ _ _ h => h) hS0 ?_; simp only [Act.put, Z1, Z2, Z3, Z4, Z5, Z6])
   | (refine along_read (v := ?_) rfl (by rfl) (by rfl) (fun _ _ _ h => h) hS0 (fun w' hS' => ?_) ?_; rotate_left; (focus (have rd0 := hS'.cell y0 (by simp); have rd1 := hS'.cell y1 (by simp); clear hS'; go_simp; try with_reducible rfl)); simp only [Act.put, Z1, Z2, Z3, Z4, Z5, Z6])
   | (refine along_skip rfl (by rfl) (by rfl) hS0 ?_; simp only [Act.put, Z1, Z2, Z3, Z4, Z5, Z6])
 refine along_op rfl (by rfl) (by rfl) (fun K hK => ?_)
 go_simp
 refine hK.out _ _ (fun _ => hS0) ?_
 clear hK K
 try simp only [Act.put, Z1, Z2, Z3, Z4, Z5, Z6]
 refine along_op rfl (by rfl) (by rfl) (fun K hK => ?_)
 go_simp
 refine (clean_any _ ta sa _ h1 h2 H3.out H4.out (HA.out.fresh (HC1.out.trans HF0.out (by simp)))).mono ?_
 rintro e w2 ⟨vy, rfl, hvy, hcx⟩
 have HVY := lh hvy
 have HF1 := lh (HF0.out.trans hcx (by simp))
 have hS1 := hS0.trans hcx (by simp)
 have HZ := lh hS0.size
 clear hS0 hcx hvy
 have hS0 := hS1
 clear hS1
 refine hK.out _ _ (fun _ => hS0) ?_
 clear hK K
 try simp only [Act.put, Z1, Z2, Z3, Z4, Z5, Z6]
 refine along_op rfl (by rfl) (by rfl) (fun K hK => ?_)
 go_simp
 refine (clean_any _ tb sb _ h5 h6 H7.out H8.out (HB.out.fresh (HC1.out.trans HF1.out (by simp)))).mono ?_
 rintro e w3 ⟨vz, rfl, hvz, hcx⟩
 have HVZ := lh hvz
 have H23 := lh hcx
 have HF2 := lh (HF1.out.trans hcx (by simp))
 have HZ2 := lh hS0.size
 have hS1 := hS0.trans hcx (by simp)
 clear hS0 hcx hvz
 have hS0 := hS1
 clear hS1
 refine hK.out _ _ (fun _ => hS0) ?_
 clear hK K
 try simp only [Act.put, Z1, Z2, Z3, Z4, Z5, Z6]
 obtain ⟨q1, q2, rfl, ⟨o1, k1, rfl, -⟩, ⟨o2, k2, rfl, -⟩⟩ := HVY.out [] w2 (Chg.refl _ _) (by simp)
 obtain ⟨q3, q4, rfl, ⟨o3, k3, rfl, -⟩, ⟨o4, k4, rfl, -⟩⟩ := HVZ.out [] w3 (Chg.refl _ _) (by simp)
 have b1 := HF2.out.heap B1.out (by simp)
 have r0 := (cell_of_row _ _ 0 _ _ _ b1).trans (show _ = some (Value.slice ao ta.length ac) from rfl)
 have r1 := (cell_of_row _ _ 1 _ _ _ b1).trans (show _ = some (Value.slice bo sa.length bc) from rfl)
 have f0 := free_at b1 0
 have f1 := free_at b1 1
 obtain ⟨p0, p1, p2⟩ := box_store b1 (.slice o1 ta.length k1) (.slice o2 sa.length k2)
 have P0 := lh p0
 have P1 := lh p1
 have P2 := lh p2
 have b2 := p2.heap (HF2.out.heap B2.out (by simp)) (by simp)
 refine along_op rfl (by rfl) (by rfl) (fun K hK => ?_)
 go_simp
 have hS1 := hS0.trans p2 (fun j hj => Or.inl hj)
 clear hS0 b1 r0 r1 f0 f1 p0 p1 p2
 have hS0 := hS1
 clear hS1
 refine hK.out _ _ (fun _ => hS0) ?_
 clear hK K
 try simp only [Act.put, Z1, Z2, Z3, Z4, Z5, Z6]
 generalize ((w3.setCell ⟨w.heap.size, 0, none⟩ (.slice o1 ta.length k1)).setCell ⟨w.heap.size, 1, none⟩ (.slice o2 sa.length k2)) = w4 at *
 have r0 := (cell_of_row _ _ 0 _ _ _ b2).trans (show _ = some (Value.slice co tb.length cc) from rfl)
 have r1 := (cell_of_row _ _ 1 _ _ _ b2).trans (show _ = some (Value.slice eo sb.length ec) from rfl)
 have f0 := free_at b2 0
 have f1 := free_at b2 1
 obtain ⟨p0, p1, p2⟩ := box_store b2 (.slice o3 tb.length k3) (.slice o4 sb.length k4)
 have R0 := lh p0
 have R1 := lh p1
 have R2 := lh p2
 refine along_op rfl (by rfl) (by rfl) (fun K hK => ?_)
 go_simp
 clear r0 r1 f0 f1 p0 p1 p2 hS0 b2
 refine hK.out _ _ (fun h => absurd h (Bool.eq_false_iff.1 (by kernel_rfl))) ?_
 clear hK K
 try simp only [Act.put, Z1, Z2, Z3, Z4, Z5, Z6]
 generalize ((w4.setCell ⟨w.heap.size + 1, 0, none⟩ (.slice o3 tb.length k3)).setCell ⟨w.heap.size + 1, 1, none⟩ (.slice o4 sb.length k4)) = w5 at *
 have HZ5 := lh (show w.heap.size + 2 ≤ w2.heap.size by rw [← HSZ.out]; exact HF1.out.size)
 have H35 := lh (show Chg [w.heap.size, w.heap.size + 1] w3 w5 from (P2.out.mono (by simp)).trans (R2.out.mono (by simp)) (fun j hj => Or.inl hj))
 have hpa := HVY.out [w.heap.size, w.heap.size + 1] w5 (((H23.out).mono (by simp)).trans H35.out (fun j hj => Or.inl hj)) (fun j hj => by have := HF0.out.size; have := HSZ.out; simp at hj; omega)
 have hpb := HVZ.out [w.heap.size, w.heap.size + 1] w5 H35.out (fun j hj => by have := HZ5.out; simp at hj; omega)
 rw [List.length_map] at hpa hpb
 have HPA := lh hpa
 have HPB := lh hpb
 clear hpa hpb
 have c0 := R2.out.cell P0.out (by simp)
 have c1 := R2.out.cell P1.out (by simp)
 have c2 := R0.out
 have c3 := R1.out
 have HW5 := lh (show Chg [] w w5 from (HC1.out.trans HF2.out (by simp)).trans H35.out (fun j hj => Or.inr (by simp at hj; omega)))
 refine along_done ?_
 clear z0 z1 y0 y1
 obtain ⟨v1, v2, e1, ra1, ra2⟩ := HPA.out
 obtain ⟨v3, v4, e2, rb1, rb2⟩ := HPB.out
 cases e1
 cases e2
 have RA1 := lh ra1
 have RA2 := lh ra2
 have RB1 := lh rb1
 have RB2 := lh rb2
 have HLA := lh (show (ta.map Plain.first).length < 1000000000 by rw [List.length_map]; exact h1)
 have HLB := lh (show (tb.map Plain.first).length < 1000000000 by rw [List.length_map]; exact h5)
 clear ra1 ra2 rb1 rb2
 go_wp2_with fail
 refine (seqf_any _ _ (ta.map Plain.first) (tb.map Plain.first) _ HLA.out RA1.out RB1.out).mono ?_
 rintro e w6 ⟨rfl, hc6⟩
 have HC6 := lh (HW5.out.trans hc6 (by simp))
 have HC56 := lh hc6
 have d0 := hc6.cell c0 (by simp)
 have d1 := hc6.cell c1 (by simp)
 have d2 := hc6.cell c2 (by simp)
 have d3 := hc6.cell c3 (by simp)
 clear c0 c1 c2 c3 hc6
 by_cases ht : ta.map Plain.first = tb.map Plain.first
 ·rw [decide_eq_true ht]
  go_wp2_with fail
  refine (seqf_any _ _ sa sb _ h2 (RA2.out.fresh HC56.out) (RB2.out.fresh HC56.out)).mono ?_
  rintro e w7 ⟨rfl, hc7⟩
  have HC7 := lh (HC6.out.trans hc7 (by simp))
  clear hc7
  go_wp2
  go_ret
  exact ⟨ret_bool (by simp [ht]), HC7.out⟩
 rw [decide_eq_false ht]
 go_wp2
 go_ret
 exact ⟨ret_bool (by simp [ht]), HC6.out⟩
namespace Plain
open Classical in
noncomputable def extB (g : Gr) (p q : Pt) (turn same ty sy : List (List Int)) : Bool :=
 decide (planErr g q ty sy = 0) && (decide (restErr g p q turn same = 0) && decide ((restTurn q.e turn).map first = ty.map first ∧ restSame g p q turn same = sy))
theorem grps_lens {c : Face → Int} {W : List Face} : (grps c W).length ≤ W.length ∧ ∀ i, ((grps c W).getD i []).length ≤ W.length := by
 refine ⟨?_, fun i => ?_⟩
 ·unfold grps
  rw [List.length_map]
  exact List.length_filter_le _ _
 by_cases hi : i < (grps c W).length
 ·have hm : (grps c W).getD i [] ∈ grps c W := by
   have : (grps c W).getD i [] = (grps c W)[i] := by simp [List.getD, hi]
   rw [this]; exact List.getElem_mem hi
  obtain ⟨h, e, -⟩ := mem_grps.1 hm
  rw [e]
  unfold keysAt
  rw [List.length_map]
  exact List.length_filter_le _ _
 simp [List.getD, hi]
end Plain
set_option maxRecDepth 100000 in
set_option maxHeartbeats 8000000 in
theorem extends_any (vg vp vx vq vy : Value) (g : Plain.Gr) (p q : Plain.Pt) (turn same ty sy : List (List Int)) (w : World) (hpl : p.e.length ≤ 10000) (hpv : p.v.length ≤ 10000) (hql : q.e.length ≤ 10000) (hqv : q.v.length ≤ 10000) (hTL : turn.length < 1000000000) (htr : ∀ i, (turn.getD i []).length < 1000000000) (hS : Plain.sumLen turn turn.length < 2147483648) (hsl : same.length ≤ 10000) (hsr : ∀ i, (same.getD i []).length ≤ 10000)
  (hyl : ty.length < 1000000000) (hyr : ∀ i, (ty.getD i []).length < 1000000000) (hyS : Plain.sumLen ty ty.length < 2147483648) (hysl : sy.length ≤ 10000) (hysr : ∀ i, (sy.getD i []).length ≤ 10000) (hg : GrAt w vg g) (hp : PtAt w vp p) (hx : PlAt w vx turn same) (hq : PtAt w vq q) (hy : PlAt w vy ty sy) :
  Calls Tryz.prog 15 #[vg, vp, vx, vq, vy] w fun e w' => e = .returned (.bool (Plain.extB g p q turn same ty sy)) ∧ Chg [] w w' := by
 have HY := lh hy
 obtain ⟨v5, v6, rfl, ⟨yo, yc, rfl, -⟩, ⟨zo, zc, rfl, -⟩⟩ := hy
 have HYR := lh hyr
 have HYSR := lh hysr
 have HSR := lh hsr
 have HTR := lh htr
 clear hyr hysr hsr htr
 have HG := lh hg
 have HQ := lh hq
 obtain ⟨v3, v4, rfl, hqv1, hqe1⟩ := hq
 have HQV := lh hqv1
 have HQEI := lh hqe1
 obtain ⟨co, cc, rfl, -, -, -⟩ := hqv1
 obtain ⟨fo, fc, rfl, -, -, -⟩ := hqe1
 have HP := lh hp
 have HX := lh hx
 obtain ⟨eo, cap, rfl, hn, hm, hsm, hcell⟩ := hg
 obtain ⟨v1, v2, rfl, hv, he⟩ := hp
 obtain ⟨ao, ac, rfl, has, ham, hacell⟩ := hv
 obtain ⟨bo, bc, rfl, hbs, hbm, hbcell⟩ := he
 have HAC := lh hacell
 have HBC := lh hbcell
 obtain ⟨t1, t2, rfl, ht, hs⟩ := hx
 have HT := lh ht
 have HS := lh hs
 obtain ⟨tno, tc, rfl, htm, -⟩ := ht
 obtain ⟨so, sc, rfl, hsm2, hsc⟩ := hs
 obtain ⟨-, -, hc1⟩ := box_two w #[.int .i64 g.n, .slice eo g.e.length cap] #[.slice ao p.v.length ac, .slice bo p.e.length bc] 24 27
 obtain ⟨-, hc3⟩ := box_three w #[.int .i64 g.n, .slice eo g.e.length cap] #[.slice ao p.v.length ac, .slice bo p.e.length bc] #[.slice tno turn.length tc, .slice so same.length sc] 24 27 30
 have HC1 := lh (hc1.trans hc3 (by simp))
 have HBXS := lh (fun w2 h => three_boxes w (g := g) (p := p) (turn := turn) (same := same) (eo := eo) (ao := ao) (bo := bo) (tno := tno) (so := so) (cap := cap) (ac := ac) (bc := bc) (tc := tc) (sc := sc) (w2 := w2) h)
 clear hcell hacell hbcell hsm hbs has hn hc1 hc3 hsc
 clear HC1 HBXS
 have HC1 := lh (four_chg w #[.int .i64 g.n, .slice eo g.e.length cap] #[.slice ao p.v.length ac, .slice bo p.e.length bc] #[.slice tno turn.length tc, .slice so same.length sc] #[.slice co q.v.length cc, .slice fo q.e.length fc] 24 27 30 27)
 have HBXS := lh (fun w2 h => four_boxes w (g := g) (p := p) (q := q) (turn := turn) (same := same) (eo := eo) (ao := ao) (bo := bo) (tno := tno) (so := so) (co := co) (fo := fo) (cap := cap) (ac := ac) (bc := bc) (tc := tc) (sc := sc) (cc := cc) (fc := fc) (w2 := w2) h)
 have hset : Chg [] ((((w.alloc (.cells #[.int .i64 g.n, .slice eo g.e.length cap] 24)).alloc (.cells #[.slice ao p.v.length ac, .slice bo p.e.length bc] 27)).alloc (.cells #[.slice tno turn.length tc, .slice so same.length sc] 30)).alloc (.cells #[.slice co q.v.length cc, .slice fo q.e.length fc] 27)) (((((w.alloc (.cells #[.int .i64 g.n, .slice eo g.e.length cap] 24)).alloc (.cells #[.slice ao p.v.length ac, .slice bo p.e.length bc] 27)).alloc (.cells #[.slice tno turn.length tc, .slice so same.length sc] 30)).alloc (.cells #[.slice co q.v.length cc, .slice fo q.e.length fc] 27)).alloc (.cells #[.slice yo ty.length yc, .slice zo sy.length zc] 30)) := (Chg.refl [] _).alloc _
 have hheap := heap_alloc_new ((((w.alloc (.cells #[.int .i64 g.n, .slice eo g.e.length cap] 24)).alloc (.cells #[.slice ao p.v.length ac, .slice bo p.e.length bc] 27)).alloc (.cells #[.slice tno turn.length tc, .slice so same.length sc] 30)).alloc (.cells #[.slice co q.v.length cc, .slice fo q.e.length fc] 27)) (.cells #[.slice yo ty.length yc, .slice zo sy.length zc] 30)
 rw [show ((((w.alloc (.cells #[.int .i64 g.n, .slice eo g.e.length cap] 24)).alloc (.cells #[.slice ao p.v.length ac, .slice bo p.e.length bc] 27)).alloc (.cells #[.slice tno turn.length tc, .slice so same.length sc] 30)).alloc (.cells #[.slice co q.v.length cc, .slice fo q.e.length fc] 27)).heap.size = w.heap.size + 4 by simp] at hheap
 have HF0 := lh ((cell_of_row _ _ 0 _ _ _ hheap).trans (show _ = some (Value.slice yo ty.length yc) from rfl))
 have HF1 := lh ((cell_of_row _ _ 1 _ _ _ hheap).trans (show _ = some (Value.slice zo sy.length zc) from rfl))
 have HCS := lh hset
 have HC5 := lh (HC1.out.trans hset (by simp))
 obtain ⟨⟨x0, x1, y0, y1, z0, z1⟩, q0, q1, hsz⟩ := HBXS.out _ hset
 have m0 := HF0.out
 have m1 := HF1.out
 clear hset hheap
 go_enter Tryz.func15, Tryz.ntmps15
 go_wp2_with fail
 generalize (((((w.alloc (.cells #[.int .i64 g.n, .slice eo g.e.length cap] 24)).alloc (.cells #[.slice ao p.v.length ac, .slice bo p.e.length bc] 27)).alloc (.cells #[.slice tno turn.length tc, .slice so same.length sc] 30)).alloc (.cells #[.slice co q.v.length cc, .slice fo q.e.length fc] 27)).alloc (.cells #[.slice yo ty.length yc, .slice zo sy.length zc] 30)) = w1 at *
 refine (right_any _ _ _ g q ty sy _ (by omega) (by omega) (by omega) hyS (by omega) HYSR.out (HG.out.fresh HC5.out) (HQ.out.fresh HC5.out) (HY.out.fresh HC5.out)).mono ?_
 rintro e w2 ⟨rfl, hc2⟩
 have HC2 := lh (HC5.out.trans hc2 (by simp))
 have HC2B := lh (HCS.out.trans hc2 (by simp))
 have M0 := lh (hc2.cell HF0.out (by simp))
 have M1 := lh (hc2.cell HF1.out (by simp))
 clear x0 x1 y0 y1 z0 z1 q0 q1 hsz m0 m1 hc2
 obtain ⟨er, her⟩ : ∃ er, Plain.planErr g q ty sy = er := ⟨_, rfl⟩
 have HER := lh her
 rw [her]
 by_cases hz : er = 0
 ·have HPZ := lh (her.trans hz)
  rw [hz]
  obtain ⟨⟨x0, x1, y0, y1, z0, z1⟩, q0, q1, hsz⟩ := HBXS.out w2 HC2B.out
  clear her hz
  go_wp2_with fail
  refine (restTo_any _ _ _ _ g p q turn same _ hpl hpv hql hqv (by omega) hS hsl HSR.out (HG.out.fresh HC2.out) (HP.out.fresh HC2.out) (HX.out.fresh HC2.out) (HQ.out.fresh HC2.out)).mono ?_
  rintro e w3 ⟨ov, rfl, hno, hyes, hc3⟩
  have HC3 := lh (HC2.out.trans hc3 (by simp))
  have HC3B := lh (HC2B.out.trans hc3 (by simp))
  have M03 := lh (hc3.cell M0.out (by simp))
  have M13 := lh (hc3.cell M1.out (by simp))
  clear x0 x1 y0 y1 z0 z1 q0 q1 hsz hc3
  by_cases hr : Plain.restErr g p q turn same = 0
  ·have HR0 := lh hr
   have HPL := lh (hyes hr)
   obtain ⟨u1, u2, rfl, ⟨o1, k1, rfl, -⟩, ⟨o2, k2, rfl, -⟩⟩ := hyes hr
   have hl1 : (Plain.restTurn q.e turn).length < 1000000000 := by unfold Plain.restTurn; rw [List.length_map]; exact hTL
   have hl2 : ∀ i, ((Plain.restTurn q.e turn).getD i []).length < 1000000000 := fun i => Nat.lt_of_le_of_lt (Plain.restTurn_row q.e turn i) (HTR.out i)
   obtain ⟨hpz, hqe, hqs, hqvs⟩ := Plain.restErr_is hr
   have hwl : (Plain.walksOf g q (Plain.restTurn q.e turn)).length < 1000000000 := by
    have := (Plain.walks_ok hqe (Plain.restTurn_ok (Plain.turnErr_zero (Plain.flatErr_zero (Plain.planErr_zero hpz).1).1).2 hqvs)).len
    omega
   have hl3 : (Plain.restSame g p q turn same).length < 1000000000 := Nat.lt_of_le_of_lt Plain.grps_lens.1 hwl
   have hl4 : ∀ i, ((Plain.restSame g p q turn same).getD i []).length < 1000000000 := fun i => Nat.lt_of_le_of_lt (Plain.grps_lens.2 i) hwl
   rw [hr]
   have HL2 := lh hl2
   have HL4 := lh hl4
   obtain ⟨A1, hA1⟩ : ∃ x, Plain.restTurn q.e turn = x := ⟨_, rfl⟩
   obtain ⟨A2, hA2⟩ : ∃ x, Plain.restSame g p q turn same = x := ⟨_, rfl⟩
   have HEX := lh (show Plain.extB g p q turn same ty sy = decide (A1.map Plain.first = ty.map Plain.first ∧ A2 = sy) by
    unfold Plain.extB
    rw [hA1, hA2, decide_eq_true HPZ.out, decide_eq_true hr]; simp)
   rw [hA1] at hl1 HL2 HPL
   rw [hA2] at hl3 HL4 HPL
   rw [hA1, hA2]
   clear hno hyes hr hl2 hl4 hwl hpz hqe hqs hqvs hA1 hA2
   have hset : Chg [] w3 (w3.alloc (.cells #[.slice o1 A1.length k1, .slice o2 A2.length k2] 30)) := (Chg.refl [] w3).alloc _
   have hheap := heap_alloc_new w3 (.cells #[.slice o1 A1.length k1, .slice o2 A2.length k2] 30)
   have n0 := (cell_of_row _ _ 0 _ _ _ hheap).trans (show _ = some (Value.slice o1 A1.length k1) from rfl)
   have n1 := (cell_of_row _ _ 1 _ _ _ hheap).trans (show _ = some (Value.slice o2 A2.length k2) from rfl)
   have HC4 := lh (HC3.out.trans hset (by simp))
   have HC34 := lh hset
   have m0 := hset.cell M03.out (by simp)
   have m1 := hset.cell M13.out (by simp)
   clear hset hheap
   go_wp2_with fail
   generalize (w3.alloc (.cells #[.slice o1 A1.length k1, .slice o2 A2.length k2] 30)) = w4 at *
   refine (psame_any _ _ A1 A2 ty sy _ hl1 hl3 HL2.out HL4.out hyl (by omega) HYR.out (fun i => Nat.lt_of_le_of_lt (HYSR.out i) (by decide)) (HPL.out.fresh HC34.out) (HY.out.fresh HC4.out)).mono ?_
   rintro e w5 ⟨rfl, hc5⟩
   have HCF := lh (HC4.out.trans hc5 (by simp))
   clear hc5 n0 n1 m0 m1
   go_wp2
   go_ret
   exact ⟨ret_bool (by rw [HEX.out]; simp), HCF.out⟩
  have HNR := lh (show Plain.extB g p q turn same ty sy = false by
   unfold Plain.extB
   rw [decide_eq_false hr]; simp)
  have hov := hno hr
  subst hov
  obtain ⟨er2, her2⟩ : ∃ e, Plain.restErr g p q turn same = e := ⟨_, rfl⟩
  have hb : (er2 == 0) = false := by rw [← her2]; simpa using hr
  rw [her2]
  clear hno hyes hr her2
  go_wp2
  go_ret
  exact ⟨ret_bool HNR.out.symm, HC3.out.trans ((Chg.refl [] w3).alloc _) (by simp)⟩
 have HNE := lh (show Plain.extB g p q turn same ty sy = false by
  unfold Plain.extB
  rw [decide_eq_false (show ¬ Plain.planErr g q ty sy = 0 by rw [her]; exact hz)]; simp)
 have hb : (er != 0) = true := by simpa using hz
 clear her hz
 go_wp2
 go_ret
 exact ⟨ret_bool HNE.out.symm, HC2.out⟩
set_option maxRecDepth 100000 in
set_option maxHeartbeats 8000000 in
theorem restExtends_any (vg vp vx vq vy : Value) (g : Plain.Gr) (p q : Plain.Pt) (turn same ty sy : List (List Int)) (w : World) (hg : GrAt w vg g) (hp : PtAt w vp p) (hx : PlAt w vx turn same) (hq : PtAt w vq q) (hy : PlAt w vy ty sy) :
  Calls Tryz.prog 4 #[vg, vp, vx, vq, vy] w fun e w' => e = .returned (.bool true) ∧ Chg [] w w' := by
 have HY := lh hy
 obtain ⟨v5, v6, rfl, ⟨yo, yc, rfl, -⟩, ⟨zo, zc, rfl, -⟩⟩ := hy
 have HG := lh hg
 have HQ := lh hq
 obtain ⟨v3, v4, rfl, hqv1, hqe1⟩ := hq
 have HQV := lh hqv1
 have HQEI := lh hqe1
 obtain ⟨co, cc, rfl, -, -, -⟩ := hqv1
 obtain ⟨fo, fc, rfl, -, -, -⟩ := hqe1
 have HP := lh hp
 have HX := lh hx
 obtain ⟨eo, cap, rfl, hn, hm, hsm, hcell⟩ := hg
 obtain ⟨v1, v2, rfl, hv, he⟩ := hp
 obtain ⟨ao, ac, rfl, has, ham, hacell⟩ := hv
 obtain ⟨bo, bc, rfl, hbs, hbm, hbcell⟩ := he
 have HAC := lh hacell
 have HBC := lh hbcell
 obtain ⟨t1, t2, rfl, ht, hs⟩ := hx
 have HT := lh ht
 have HS := lh hs
 obtain ⟨tno, tc, rfl, htm, -⟩ := ht
 obtain ⟨so, sc, rfl, hsm2, hsc⟩ := hs
 obtain ⟨-, -, hc1⟩ := box_two w #[.int .i64 g.n, .slice eo g.e.length cap] #[.slice ao p.v.length ac, .slice bo p.e.length bc] 24 27
 obtain ⟨-, hc3⟩ := box_three w #[.int .i64 g.n, .slice eo g.e.length cap] #[.slice ao p.v.length ac, .slice bo p.e.length bc] #[.slice tno turn.length tc, .slice so same.length sc] 24 27 30
 have HC1 := lh (hc1.trans hc3 (by simp))
 have HBXS := lh (fun w2 h => three_boxes w (g := g) (p := p) (turn := turn) (same := same) (eo := eo) (ao := ao) (bo := bo) (tno := tno) (so := so) (cap := cap) (ac := ac) (bc := bc) (tc := tc) (sc := sc) (w2 := w2) h)
 clear hcell hacell hbcell hsm hbs has hn hc1 hc3 hsc
 clear HC1 HBXS
 have HC1 := lh (four_chg w #[.int .i64 g.n, .slice eo g.e.length cap] #[.slice ao p.v.length ac, .slice bo p.e.length bc] #[.slice tno turn.length tc, .slice so same.length sc] #[.slice co q.v.length cc, .slice fo q.e.length fc] 24 27 30 27)
 have HBXS := lh (fun w2 h => four_boxes w (g := g) (p := p) (q := q) (turn := turn) (same := same) (eo := eo) (ao := ao) (bo := bo) (tno := tno) (so := so) (co := co) (fo := fo) (cap := cap) (ac := ac) (bc := bc) (tc := tc) (sc := sc) (cc := cc) (fc := fc) (w2 := w2) h)
 have hset : Chg [] ((((w.alloc (.cells #[.int .i64 g.n, .slice eo g.e.length cap] 24)).alloc (.cells #[.slice ao p.v.length ac, .slice bo p.e.length bc] 27)).alloc (.cells #[.slice tno turn.length tc, .slice so same.length sc] 30)).alloc (.cells #[.slice co q.v.length cc, .slice fo q.e.length fc] 27)) (((((w.alloc (.cells #[.int .i64 g.n, .slice eo g.e.length cap] 24)).alloc (.cells #[.slice ao p.v.length ac, .slice bo p.e.length bc] 27)).alloc (.cells #[.slice tno turn.length tc, .slice so same.length sc] 30)).alloc (.cells #[.slice co q.v.length cc, .slice fo q.e.length fc] 27)).alloc (.cells #[.slice yo ty.length yc, .slice zo sy.length zc] 30)) := (Chg.refl [] _).alloc _
 have hheap := heap_alloc_new ((((w.alloc (.cells #[.int .i64 g.n, .slice eo g.e.length cap] 24)).alloc (.cells #[.slice ao p.v.length ac, .slice bo p.e.length bc] 27)).alloc (.cells #[.slice tno turn.length tc, .slice so same.length sc] 30)).alloc (.cells #[.slice co q.v.length cc, .slice fo q.e.length fc] 27)) (.cells #[.slice yo ty.length yc, .slice zo sy.length zc] 30)
 rw [show ((((w.alloc (.cells #[.int .i64 g.n, .slice eo g.e.length cap] 24)).alloc (.cells #[.slice ao p.v.length ac, .slice bo p.e.length bc] 27)).alloc (.cells #[.slice tno turn.length tc, .slice so same.length sc] 30)).alloc (.cells #[.slice co q.v.length cc, .slice fo q.e.length fc] 27)).heap.size = w.heap.size + 4 by simp] at hheap
 have HF0 := lh ((cell_of_row _ _ 0 _ _ _ hheap).trans (show _ = some (Value.slice yo ty.length yc) from rfl))
 have HF1 := lh ((cell_of_row _ _ 1 _ _ _ hheap).trans (show _ = some (Value.slice zo sy.length zc) from rfl))
 have HCS := lh hset
 have HC5 := lh (HC1.out.trans hset (by simp))
 clear hset hheap
 go_enter Tryz.func4, Tryz.ntmps4
 go_wp2_with fail
 generalize (((((w.alloc (.cells #[.int .i64 g.n, .slice eo g.e.length cap] 24)).alloc (.cells #[.slice ao p.v.length ac, .slice bo p.e.length bc] 27)).alloc (.cells #[.slice tno turn.length tc, .slice so same.length sc] 30)).alloc (.cells #[.slice co q.v.length cc, .slice fo q.e.length fc] 27)).alloc (.cells #[.slice yo ty.length yc, .slice zo sy.length zc] 30)) = w1 at *
 have HBX := lh (fun w2 (h : Chg [] w1 w2) => HBXS.out w2 (HCS.out.trans h (by simp)))
 have HM := lh (fun w2 (h : Chg [] w1 w2) => (⟨h.cell HF0.out (by simp), h.cell HF1.out (by simp)⟩ : w2.cell? ⟨w.heap.size + 4, 0, none⟩ = some (Value.slice yo ty.length yc) ∧ w2.cell? ⟨w.heap.size + 4, 1, none⟩ = some (Value.slice zo sy.length zc)))
 have HW := lh (fun w2 (h : Chg [] w1 w2) => HC5.out.trans h (by simp))
 clear HBXS HC1 HF0 HF1 HCS HC5
 refine (awake09_any _).mono ?_
 rintro e w2 ⟨rfl, hc2⟩
 obtain ⟨⟨x0, x1, y0, y1, z0, z1⟩, q0, q1, hsz⟩ := HBX.out w2 hc2
 obtain ⟨m0, m1⟩ := HM.out w2 hc2
 have HC2 := lh hc2
 clear hc2
 go_wp2_with fail
 refine (small09_any _ _ _ _ g p q turn same _ (HG.out.fresh (HW.out _ HC2.out)) (HP.out.fresh (HW.out _ HC2.out)) (HX.out.fresh (HW.out _ HC2.out)) (HQ.out.fresh (HW.out _ HC2.out))).mono ?_
 rintro e w3 ⟨rfl, hc3⟩
 have HC3 := lh (HC2.out.trans hc3 (by simp))
 clear x0 x1 y0 y1 z0 z1 q0 q1 hsz m0 m1 hc3
 obtain ⟨⟨x0, x1, y0, y1, z0, z1⟩, q0, q1, hsz⟩ := HBX.out w3 HC3.out
 obtain ⟨m0, m1⟩ := HM.out w3 HC3.out
 cases hb : (Plain.small8 g p turn same && Plain.small4 g q) with
 | false =>
  clear hb
  go_wp2_with fail
  refine (awake09_any _).mono ?_
  rintro e w4 ⟨rfl, hc4⟩
  have HC4 := lh (HC3.out.trans hc4 (by simp))
  clear hc4
  go_wp2
  go_ret
  exact ⟨rfl, HW.out _ HC4.out⟩
 | true =>
  rw [Bool.and_eq_true] at hb
  obtain ⟨b1, b2, b3, b4, b5, b6⟩ := Plain.small8_is hb.1
  obtain ⟨c1, c2, c3⟩ := Plain.small4_is hb.2
  have HB4 := lh b4
  have HB6 := lh (fun i => Nat.le_trans (b6 i) (by omega : 60 ≤ 10000))
  have HROWS := lh (Plain.small8_four hb.1).2
  have HRL := lh (fun v => Nat.lt_of_le_of_lt (Plain.small8_rows hb.1 v) (by decide : 200 < 4294967296))
  have HRL9 := lh (fun v => Nat.lt_of_le_of_lt (Plain.small8_rows hb.1 v) (by decide : 200 < 1000000000))
  clear hb b4 b6
  go_wp2_with fail
  refine (small8_any _ _ _ g q ty sy _ (HG.out.fresh (HW.out _ HC3.out)) (HQ.out.fresh (HW.out _ HC3.out)) (HY.out.fresh (HW.out _ HC3.out))).mono ?_
  rintro e w4 ⟨rfl, hc4⟩
  have HC4 := lh (HC3.out.trans hc4 (by simp))
  clear x0 x1 y0 y1 z0 z1 q0 q1 hsz m0 m1 hc4
  obtain ⟨⟨x0, x1, y0, y1, z0, z1⟩, q0, q1, hsz⟩ := HBX.out w4 HC4.out
  obtain ⟨m0, m1⟩ := HM.out w4 HC4.out
  cases hb : Plain.small8 g q ty sy with
  | false =>
   clear hb
   rw [show bit false = 0 from rfl]
   go_wp2_with fail
   refine (awake09_any _).mono ?_
   rintro e w5 ⟨rfl, hc5⟩
   have HC5 := lh (HC4.out.trans hc5 (by simp))
   clear hc5
   go_wp2
   go_ret
   exact ⟨rfl, HW.out _ HC5.out⟩
  | true =>
   obtain ⟨-, -, d3, d4, d5, d6⟩ := Plain.small8_is hb
   have HD4 := lh d4
   have HD6 := lh (fun i => Nat.le_trans (d6 i) (by omega : 60 ≤ 10000))
   have HDR := lh (Plain.small8_four hb).2
   have HDL := lh (fun v => Nat.lt_of_le_of_lt (Plain.small8_rows hb v) (by decide : 200 < 4294967296))
   clear hb d4 d6
   rw [show bit true = 1 from rfl]
   go_upto_region 3 with fail
   go_cut [11] (fun c wc => c = .bool (Plain.extB g p q turn same ty sy) ∧ Chg [] w4 wc)
   case first =>
    obtain ⟨er, her⟩ : ∃ er, Plain.restErr g p q turn same = er := ⟨_, rfl⟩
    have HER := lh her
    by_cases hz : er = 0
    ·have HZ := lh (her.trans hz)
     obtain ⟨hpz, hqe, hqv, hqs⟩ := Plain.restErr_is HZ.out
     have HPZ := lh hpz
     have HQE := lh hqe
     have HQVS := lh hqv
     have HQS := lh hqs
     obtain ⟨fr, hfr⟩ : ∃ fr, Plain.planErr g q ty sy = fr := ⟨_, rfl⟩
     have HFR := lh hfr
     clear her hpz hqe hqv hqs hfr
     by_cases hf : fr = 0
     ·have HEX := lh (show Plain.extB g p q turn same ty sy = (decide ((Plain.keepTurn q.e turn).map Plain.first = ty.map Plain.first) && decide (Plain.restSame g p q turn same = sy)) by
       unfold Plain.extB
       rw [HFR.out, HZ.out, hf, Plain.rest_firsts]; simp)
      have hS0 : Chg [] w4 w4.drew := (Chg.refl [] w4).drew
      refine wp_region_way (Chg [] w4) [0, 1, 2, 3, 5, 6, 7, 8, 9, 11, 12, 13, 14, 15, 16, 17, 19, 21, 22] (Way.line [0, 1, 2, 3, 4, 5, 6, 7, 8, 9, 10, 11, 12, 13, 14, 15, 16, 17, 19, 18, 20, 21, 22] .done) (by kernel_rfl) (by kernel_rfl) ?_
      simp only [Way.line]
      repeat
       first
        | (refine along_off rfl (by rfl) (by rfl) (fun _ _ _ h => h) hS0 ?_; simp only [Act.put, Z1, Z2, Z3, Z4, Z5, Z6])
        | (refine along_read (v := ?_) rfl (by rfl) (by rfl) (fun _ _ _ h => h) hS0 (fun w' hS' => ?_) ?_; rotate_left; (focus (have rd0 := hS'.cell x0 (by simp); have rd1 := hS'.cell x1 (by simp); have rd2 := hS'.cell y0 (by simp); have rd3 := hS'.cell y1 (by simp); have rd4 := hS'.cell z0 (by simp); have rd5 := hS'.cell z1 (by simp); have rd6 := hS'.cell q0 (by simp); have rd7 := hS'.cell q1 (by simp); have rd8 := hS'.cell m0 (by simp); have rd9 := hS'.cell m1 (by simp); clear hS'; go_simp; try with_reducible rfl)); simp only [Act.put, Z1, Z2, Z3, Z4, Z5, Z6])
        | (refine along_skip rfl (by rfl) (by rfl) hS0 ?_; simp only [Act.put, Z1, Z2, Z3, Z4, Z5, Z6])
      refine along_op rfl (by rfl) (by rfl) (fun K hK => ?_)
      go_simp
      refine (refRight9_any _ _ _ _ g p q turn same _ (by omega) (by omega) (by omega) (by omega) (by omega) HRL.out (by omega) HB6.out (HG.out.fresh (HW.out _ (HC4.out.trans hS0 (by simp)))) (HP.out.fresh (HW.out _ (HC4.out.trans hS0 (by simp)))) (HX.out.fresh (HW.out _ (HC4.out.trans hS0 (by simp)))) (HQ.out.fresh (HW.out _ (HC4.out.trans hS0 (by simp))))).mono ?_
      rintro e w5 ⟨rfl, hcx⟩
      have hS1 := hS0.trans hcx (by simp)
      clear hS0 hcx
      have hS0 := hS1
      clear hS1
      refine hK.out _ _ (fun _ => hS0) ?_
      clear hK K
      try simp only [Act.put, Z1, Z2, Z3, Z4, Z5, Z6]
      rw [HER.out, hz]
      repeat
       first
        | (refine along_off rfl (by rfl) (by rfl) (fun _ _ _ h => h) hS0 ?_; simp only [Act.put, Z1, Z2, Z3, Z4, Z5, Z6])
        | (refine along_read (v := ?_) rfl (by rfl) (by rfl) (fun _ _ _ h => h) hS0 (fun w' hS' => ?_) ?_; rotate_left; (focus (have rd0 := hS'.cell x0 (by simp); have rd1 := hS'.cell x1 (by simp); have rd2 := hS'.cell y0 (by simp); have rd3 := hS'.cell y1 (by simp); have rd4 := hS'.cell z0 (by simp); have rd5 := hS'.cell z1 (by simp); have rd6 := hS'.cell q0 (by simp); have rd7 := hS'.cell q1 (by simp); have rd8 := hS'.cell m0 (by simp); have rd9 := hS'.cell m1 (by simp); clear hS'; go_simp; try with_reducible rfl)); simp only [Act.put, Z1, Z2, Z3, Z4, Z5, Z6])
        | (refine along_skip rfl (by rfl) (by rfl) hS0 ?_; simp only [Act.put, Z1, Z2, Z3, Z4, Z5, Z6])
      refine along_op rfl (by rfl) (by rfl) (fun K hK => ?_)
      go_simp
      refine (refRight8_any _ _ _ g q ty sy _ (by omega) (by omega) (by omega) HDL.out (by omega) HD6.out (HG.out.fresh (HW.out _ (HC4.out.trans hS0 (by simp)))) (HQ.out.fresh (HW.out _ (HC4.out.trans hS0 (by simp)))) (HY.out.fresh (HW.out _ (HC4.out.trans hS0 (by simp))))).mono ?_
      rintro e w6 ⟨rfl, hcx⟩
      have hS1 := hS0.trans hcx (by simp)
      clear hS0 hcx
      have hS0 := hS1
      clear hS1
      refine hK.out _ _ (fun _ => hS0) ?_
      clear hK K
      try simp only [Act.put, Z1, Z2, Z3, Z4, Z5, Z6]
      rw [HFR.out, hf]
      repeat
       first
        | (refine along_off rfl (by rfl) (by rfl) (fun _ _ _ h => h) hS0 ?_; simp only [Act.put, Z1, Z2, Z3, Z4, Z5, Z6])
        | (refine along_read (v := ?_) rfl (by rfl) (by rfl) (fun _ _ _ h => h) hS0 (fun w' hS' => ?_) ?_; rotate_left; (focus (have rd0 := hS'.cell x0 (by simp); have rd1 := hS'.cell x1 (by simp); have rd2 := hS'.cell y0 (by simp); have rd3 := hS'.cell y1 (by simp); have rd4 := hS'.cell z0 (by simp); have rd5 := hS'.cell z1 (by simp); have rd6 := hS'.cell q0 (by simp); have rd7 := hS'.cell q1 (by simp); have rd8 := hS'.cell m0 (by simp); have rd9 := hS'.cell m1 (by simp); clear hS'; go_simp; try with_reducible rfl)); simp only [Act.put, Z1, Z2, Z3, Z4, Z5, Z6])
        | (refine along_skip rfl (by rfl) (by rfl) hS0 ?_; simp only [Act.put, Z1, Z2, Z3, Z4, Z5, Z6])
      refine along_op rfl (by rfl) (by rfl) (fun K hK => ?_)
      go_simp
      refine (refTo_any _ _ _ _ g p q turn same _ (by omega) (by omega) (by omega) (by omega) (by omega) HRL9.out (by omega) HPZ.out HQE.out HQS.out HQVS.out (HG.out.fresh (HW.out _ (HC4.out.trans hS0 (by simp)))) (HP.out.fresh (HW.out _ (HC4.out.trans hS0 (by simp)))) (HX.out.fresh (HW.out _ (HC4.out.trans hS0 (by simp)))) (HQ.out.fresh (HW.out _ (HC4.out.trans hS0 (by simp))))).mono ?_
      rintro e w7 ⟨ov2, rfl, hpl2, hcx⟩
      have hS1 := hS0.trans hcx (by simp)
      clear hS0 hcx
      have hS0 := hS1
      clear hS1
      refine hK.out _ _ (fun _ => hS0) ?_
      clear hK K
      try simp only [Act.put, Z1, Z2, Z3, Z4, Z5, Z6]
      repeat
       first
        | (refine along_off rfl (by rfl) (by rfl) (fun _ _ _ h => h) hS0 ?_; simp only [Act.put, Z1, Z2, Z3, Z4, Z5, Z6])
        | (refine along_read (v := ?_) rfl (by rfl) (by rfl) (fun _ _ _ h => h) hS0 (fun w' hS' => ?_) ?_; rotate_left; (focus (have rd0 := hS'.cell x0 (by simp); have rd1 := hS'.cell x1 (by simp); have rd2 := hS'.cell y0 (by simp); have rd3 := hS'.cell y1 (by simp); have rd4 := hS'.cell z0 (by simp); have rd5 := hS'.cell z1 (by simp); have rd6 := hS'.cell q0 (by simp); have rd7 := hS'.cell q1 (by simp); have rd8 := hS'.cell m0 (by simp); have rd9 := hS'.cell m1 (by simp); clear hS'; go_simp; try with_reducible rfl)); simp only [Act.put, Z1, Z2, Z3, Z4, Z5, Z6])
        | (refine along_skip rfl (by rfl) (by rfl) hS0 ?_; simp only [Act.put, Z1, Z2, Z3, Z4, Z5, Z6])
      refine along_op rfl (by rfl) (by rfl) (fun K hK => ?_)
      go_simp
      refine (refSame8_any _ _ _ _ _ _ _ (by unfold Plain.keepTurn; rw [List.length_map]; omega) (fun i => by have := Plain.keep_rowi q.e turn i; have := HROWS.out i; omega) (by omega) (fun i => Nat.lt_of_le_of_lt (HDR.out i) (by decide)) hpl2 (HY.out.fresh (HW.out _ (HC4.out.trans hS0 (by simp))))).mono ?_
      rintro e w8 ⟨rfl, hcx⟩
      have hS1 := hS0.trans hcx (by simp)
      clear hS0 hcx
      have hS0 := hS1
      clear hS1
      refine hK.out _ _ (fun _ => hS0) ?_
      clear hK K
      try simp only [Act.put, Z1, Z2, Z3, Z4, Z5, Z6]
      repeat
       first
        | (refine along_off rfl (by rfl) (by rfl) (fun _ _ _ h => h) hS0 ?_; simp only [Act.put, Z1, Z2, Z3, Z4, Z5, Z6])
        | (refine along_read (v := ?_) rfl (by rfl) (by rfl) (fun _ _ _ h => h) hS0 (fun w' hS' => ?_) ?_; rotate_left; (focus (have rd0 := hS'.cell x0 (by simp); have rd1 := hS'.cell x1 (by simp); have rd2 := hS'.cell y0 (by simp); have rd3 := hS'.cell y1 (by simp); have rd4 := hS'.cell z0 (by simp); have rd5 := hS'.cell z1 (by simp); have rd6 := hS'.cell q0 (by simp); have rd7 := hS'.cell q1 (by simp); have rd8 := hS'.cell m0 (by simp); have rd9 := hS'.cell m1 (by simp); clear hS'; go_simp; try with_reducible rfl)); simp only [Act.put, Z1, Z2, Z3, Z4, Z5, Z6])
        | (refine along_skip rfl (by rfl) (by rfl) hS0 ?_; simp only [Act.put, Z1, Z2, Z3, Z4, Z5, Z6])
      refine along_done ?_
      have HS0 := lh hS0
      clear hS0 x0 x1 y0 y1 z0 z1 q0 q1 hsz m0 m1
      go_wp2
      go_meet
      case rel => exact ⟨by rw [HEX.out], HS0.out⟩
     have HEX := lh (show Plain.extB g p q turn same ty sy = false by
      unfold Plain.extB
      rw [HFR.out, decide_eq_false hf]; simp)
     have hfb : (fr == 0) = false := by simpa using hf
     have hS0 : Chg [] w4 w4.drew := (Chg.refl [] w4).drew
     refine wp_region_way (Chg [] w4) [0, 1, 2, 3, 5, 6, 7, 8, 9, 11, 12, 13, 14, 15, 16, 17, 19, 21, 22] (Way.line [0, 1, 2, 3, 4, 5, 6, 7, 8, 9, 10, 11, 12, 13, 14, 15, 16, 17, 19, 18, 20, 21, 22] .done) (by kernel_rfl) (by kernel_rfl) ?_
     simp only [Way.line]
     repeat
      first
       | (refine along_off rfl (by rfl) (by rfl) (fun _ _ _ h => h) hS0 ?_; simp only [Act.put, Z1, Z2, Z3, Z4, Z5, Z6])
       | (refine along_read (v := ?_) rfl (by rfl) (by rfl) (fun _ _ _ h => h) hS0 (fun w' hS' => ?_) ?_; rotate_left; (focus (have rd0 := hS'.cell x0 (by simp); have rd1 := hS'.cell x1 (by simp); have rd2 := hS'.cell y0 (by simp); have rd3 := hS'.cell y1 (by simp); have rd4 := hS'.cell z0 (by simp); have rd5 := hS'.cell z1 (by simp); have rd6 := hS'.cell q0 (by simp); have rd7 := hS'.cell q1 (by simp); have rd8 := hS'.cell m0 (by simp); have rd9 := hS'.cell m1 (by simp); clear hS'; go_simp; try with_reducible rfl)); simp only [Act.put, Z1, Z2, Z3, Z4, Z5, Z6])
       | (refine along_skip rfl (by rfl) (by rfl) hS0 ?_; simp only [Act.put, Z1, Z2, Z3, Z4, Z5, Z6])
     refine along_op rfl (by rfl) (by rfl) (fun K hK => ?_)
     go_simp
     refine (refRight9_any _ _ _ _ g p q turn same _ (by omega) (by omega) (by omega) (by omega) (by omega) HRL.out (by omega) HB6.out (HG.out.fresh (HW.out _ (HC4.out.trans hS0 (by simp)))) (HP.out.fresh (HW.out _ (HC4.out.trans hS0 (by simp)))) (HX.out.fresh (HW.out _ (HC4.out.trans hS0 (by simp)))) (HQ.out.fresh (HW.out _ (HC4.out.trans hS0 (by simp))))).mono ?_
     rintro e w5 ⟨rfl, hcx⟩
     have hS1 := hS0.trans hcx (by simp)
     clear hS0 hcx
     have hS0 := hS1
     clear hS1
     refine hK.out _ _ (fun _ => hS0) ?_
     clear hK K
     try simp only [Act.put, Z1, Z2, Z3, Z4, Z5, Z6]
     rw [HER.out, hz]
     repeat
      first
       | (refine along_off rfl (by rfl) (by rfl) (fun _ _ _ h => h) hS0 ?_; simp only [Act.put, Z1, Z2, Z3, Z4, Z5, Z6])
       | (refine along_read (v := ?_) rfl (by rfl) (by rfl) (fun _ _ _ h => h) hS0 (fun w' hS' => ?_) ?_; rotate_left; (focus (have rd0 := hS'.cell x0 (by simp); have rd1 := hS'.cell x1 (by simp); have rd2 := hS'.cell y0 (by simp); have rd3 := hS'.cell y1 (by simp); have rd4 := hS'.cell z0 (by simp); have rd5 := hS'.cell z1 (by simp); have rd6 := hS'.cell q0 (by simp); have rd7 := hS'.cell q1 (by simp); have rd8 := hS'.cell m0 (by simp); have rd9 := hS'.cell m1 (by simp); clear hS'; go_simp; try with_reducible rfl)); simp only [Act.put, Z1, Z2, Z3, Z4, Z5, Z6])
       | (refine along_skip rfl (by rfl) (by rfl) hS0 ?_; simp only [Act.put, Z1, Z2, Z3, Z4, Z5, Z6])
     refine along_op rfl (by rfl) (by rfl) (fun K hK => ?_)
     go_simp
     refine (refRight8_any _ _ _ g q ty sy _ (by omega) (by omega) (by omega) HDL.out (by omega) HD6.out (HG.out.fresh (HW.out _ (HC4.out.trans hS0 (by simp)))) (HQ.out.fresh (HW.out _ (HC4.out.trans hS0 (by simp)))) (HY.out.fresh (HW.out _ (HC4.out.trans hS0 (by simp))))).mono ?_
     rintro e w6 ⟨rfl, hcx⟩
     have hS1 := hS0.trans hcx (by simp)
     clear hS0 hcx
     have hS0 := hS1
     clear hS1
     refine hK.out _ _ (fun _ => hS0) ?_
     clear hK K
     try simp only [Act.put, Z1, Z2, Z3, Z4, Z5, Z6]
     rw [HFR.out]
     repeat
      first
       | (refine along_off rfl (by rfl) (by rfl) (fun _ _ _ h => h) hS0 ?_; simp only [Act.put, Z1, Z2, Z3, Z4, Z5, Z6])
       | (refine along_read (v := ?_) rfl (by rfl) (by rfl) (fun _ _ _ h => h) hS0 (fun w' hS' => ?_) ?_; rotate_left; (focus (have rd0 := hS'.cell x0 (by simp); have rd1 := hS'.cell x1 (by simp); have rd2 := hS'.cell y0 (by simp); have rd3 := hS'.cell y1 (by simp); have rd4 := hS'.cell z0 (by simp); have rd5 := hS'.cell z1 (by simp); have rd6 := hS'.cell q0 (by simp); have rd7 := hS'.cell q1 (by simp); have rd8 := hS'.cell m0 (by simp); have rd9 := hS'.cell m1 (by simp); clear hS'; go_simp; try with_reducible rfl)); simp only [Act.put, Z1, Z2, Z3, Z4, Z5, Z6])
       | (refine along_skip rfl (by rfl) (by rfl) hS0 ?_; simp only [Act.put, Z1, Z2, Z3, Z4, Z5, Z6])
     refine along_done ?_
     have HS0 := lh hS0
     clear hS0 x0 x1 y0 y1 z0 z1 q0 q1 hsz m0 m1
     go_wp2
     go_meet
     case rel => exact ⟨by rw [HEX.out], HS0.out⟩
    have HEX := lh (show Plain.extB g p q turn same ty sy = false by
     unfold Plain.extB
     rw [her, decide_eq_false hz]; simp)
    have hzb : (er == 0) = false := by simpa using hz
    clear her
    have hS0 : Chg [] w4 w4.drew := (Chg.refl [] w4).drew
    refine wp_region_way (Chg [] w4) [0, 1, 2, 3, 5, 6, 7, 8, 9, 11, 12, 13, 14, 15, 16, 17, 19, 21, 22] (Way.line [0, 1, 2, 3, 4, 5, 6, 7, 8, 9, 10, 11, 12, 13, 14, 15, 16, 17, 19, 18, 20, 21, 22] .done) (by kernel_rfl) (by kernel_rfl) ?_
    simp only [Way.line]
    repeat
     first
      | (refine along_off rfl (by rfl) (by rfl) (fun _ _ _ h => h) hS0 ?_; simp only [Act.put, Z1, Z2, Z3, Z4, Z5, Z6])
      | (refine along_read (v := ?_) rfl (by rfl) (by rfl) (fun _ _ _ h => h) hS0 (fun w' hS' => ?_) ?_; rotate_left; (focus (have rd0 := hS'.cell x0 (by simp); have rd1 := hS'.cell x1 (by simp); have rd2 := hS'.cell y0 (by simp); have rd3 := hS'.cell y1 (by simp); have rd4 := hS'.cell z0 (by simp); have rd5 := hS'.cell z1 (by simp); have rd6 := hS'.cell q0 (by simp); have rd7 := hS'.cell q1 (by simp); have rd8 := hS'.cell m0 (by simp); have rd9 := hS'.cell m1 (by simp); clear hS'; go_simp; try with_reducible rfl)); simp only [Act.put, Z1, Z2, Z3, Z4, Z5, Z6])
      | (refine along_skip rfl (by rfl) (by rfl) hS0 ?_; simp only [Act.put, Z1, Z2, Z3, Z4, Z5, Z6])
    refine along_op rfl (by rfl) (by rfl) (fun K hK => ?_)
    go_simp
    refine (refRight9_any _ _ _ _ g p q turn same _ (by omega) (by omega) (by omega) (by omega) (by omega) HRL.out (by omega) HB6.out (HG.out.fresh (HW.out _ (HC4.out.trans hS0 (by simp)))) (HP.out.fresh (HW.out _ (HC4.out.trans hS0 (by simp)))) (HX.out.fresh (HW.out _ (HC4.out.trans hS0 (by simp)))) (HQ.out.fresh (HW.out _ (HC4.out.trans hS0 (by simp))))).mono ?_
    rintro e w5 ⟨rfl, hcx⟩
    have hS1 := hS0.trans hcx (by simp)
    clear hS0 hcx
    have hS0 := hS1
    clear hS1
    refine hK.out _ _ (fun _ => hS0) ?_
    clear hK K
    try simp only [Act.put, Z1, Z2, Z3, Z4, Z5, Z6]
    rw [HER.out]
    repeat
     first
      | (refine along_off rfl (by rfl) (by rfl) (fun _ _ _ h => h) hS0 ?_; simp only [Act.put, Z1, Z2, Z3, Z4, Z5, Z6])
      | (refine along_read (v := ?_) rfl (by rfl) (by rfl) (fun _ _ _ h => h) hS0 (fun w' hS' => ?_) ?_; rotate_left; (focus (have rd0 := hS'.cell x0 (by simp); have rd1 := hS'.cell x1 (by simp); have rd2 := hS'.cell y0 (by simp); have rd3 := hS'.cell y1 (by simp); have rd4 := hS'.cell z0 (by simp); have rd5 := hS'.cell z1 (by simp); have rd6 := hS'.cell q0 (by simp); have rd7 := hS'.cell q1 (by simp); have rd8 := hS'.cell m0 (by simp); have rd9 := hS'.cell m1 (by simp); clear hS'; go_simp; try with_reducible rfl)); simp only [Act.put, Z1, Z2, Z3, Z4, Z5, Z6])
      | (refine along_skip rfl (by rfl) (by rfl) hS0 ?_; simp only [Act.put, Z1, Z2, Z3, Z4, Z5, Z6])
    refine along_done ?_
    have HS0 := lh hS0
    clear hS0 x0 x1 y0 y1 z0 z1 q0 q1 hsz m0 m1
    go_wp2
    go_meet
    case rel => exact ⟨by rw [HEX.out], HS0.out⟩
   case rest =>
    obtain ⟨rfl, hcc⟩ := hcut
    have HC6 := lh (HC4.out.trans hcc (by simp))
    clear x0 x1 y0 y1 z0 z1 q0 q1 hsz m0 m1 hcc
    obtain ⟨⟨x0, x1, y0, y1, z0, z1⟩, q0, q1, hsz⟩ := HBX.out _ HC6.out
    obtain ⟨m0, m1⟩ := HM.out _ HC6.out
    go_wp2_with fail
    refine (extends_any _ _ _ _ _ g p q turn same ty sy _ (by omega) (by omega) (by omega) (by omega) (by omega) (fun i => Nat.lt_of_le_of_lt (HROWS.out i) (by decide)) (by have := HB4.out; omega) (by omega) HB6.out (by omega) (fun i => Nat.lt_of_le_of_lt (HDR.out i) (by decide)) (by have := HD4.out; omega) (by omega) HD6.out (HG.out.fresh (HW.out _ HC6.out)) (HP.out.fresh (HW.out _ HC6.out)) (HX.out.fresh (HW.out _ HC6.out)) (HQ.out.fresh (HW.out _ HC6.out)) (HY.out.fresh (HW.out _ HC6.out))).mono ?_
    rintro e w7 ⟨rfl, hc7⟩
    have HC7 := lh (HC6.out.trans hc7 (by simp))
    clear x0 x1 y0 y1 z0 z1 q0 q1 hsz m0 m1 hc7
    go_wp2
    go_ret
    exact ⟨ret_bool (by simp), HW.out _ HC7.out⟩
end Go.Proofs.YtckjpaimbmlboaaGreat
