/- slices.Equal, slices.EqualFunc at rows, plan.Same: contracts. Conditions: lists, plans that lie in memory and read so, of a bounded size. -/
import Derived.Test.YtckjpaimbmlboaaVRegP
import Derived.Test.YtckjpaimbmlboaaVRef09
import Derived.Test.YtckjpaimbmlboaaVRestS
import Derived.Test.YtckjpaimbmlboaaVPlanR
import Derived.Test.YtckjpaimbmlboaaVGrps
namespace Go.Proofs.Ytckjpaimbmlboaa
open Go.RowKit Go.Maps

theorem seq_any (va vb : Value) (a b : List Int) (w : World) (ha : IntsAt w va a) (hb : IntsAt w vb b) :
  Calls Try.prog 46 #[va, vb] w fun e w' => e = .returned (.bool (decide (a = b))) ∧ Chg [] w w' := by
 obtain ⟨ao, ac, rfl, -, ham, hac⟩ := ha
 obtain ⟨bo, bc, rfl, -, hbm, hbc⟩ := hb
 by_cases hl : a.length = b.length
 ·by_cases h0 : a = []
  ·subst h0
   have hb0 : b = [] := List.length_eq_zero_iff.1 hl.symm
   subst hb0
   refine (Try.slices_Equal_int_empty ao bo ac 0 bc w (by decide)).mono ?_
   rintro e w' ⟨rfl, rfl⟩
   exact ⟨rfl, Chg.refl _ _⟩
  ·have hb0 : b ≠ [] := fun e => h0 (List.length_eq_zero_iff.1 (by rw [hl, e]; rfl))
   obtain ⟨ba, oa, rfl, ca⟩ := hac h0
   obtain ⟨bb, ob, rfl, cb⟩ := hbc hb0
   refine (Try.slices_Equal_int ba oa a.length ac bb ob b.length bc a b w (Nat.le_refl _) (Nat.le_refl _) (by omega) (by omega) ca cb).mono ?_
   rintro e w' ⟨rfl, n, rfl⟩
   refine ⟨?_, ?_⟩
   ·rw [List.take_length, List.take_length]
    by_cases h : a = b
    ·subst h; simp
    ·have h1 : (a == b) = false := beq_eq_false_iff_ne.2 h
     rw [h1, decide_eq_false (show ¬ a = b from h)]
   ·exact (Chg.refl [] w).drewN _
 ·refine (Try.slices_Equal_int_lens ao bo a.length ac b.length bc w hl).mono ?_
  rintro e w' ⟨rfl, rfl⟩
  exact ⟨by simp [show ¬ a = b from fun e => hl (by rw [e])], Chg.refl _ _⟩

namespace Plain
def rowsTo (l m : List (List Int)) (k : Nat) : Prop := ∀ i, i < k → l.getD i [] = m.getD i []
theorem rows_ext {l m : List (List Int)} (hl : l.length = m.length) (h : rowsTo l m l.length) : l = m := by
 refine List.ext_getElem hl fun i h1 h2 => ?_
 have := h i h1
 simpa [List.getD, h1, h2] using this
end Plain

set_option maxRecDepth 100000 in
theorem seqf_any (va vb : Value) (l m : List (List Int)) (w : World) (hll : l.length < 1000000000) (ha : RowsAt w va l) (hb : RowsAt w vb m) :
  Calls Try.prog 45 #[va, vb, .func (.func 46) #[] #[]] w fun e w' => e = .returned (.bool (decide (l = m))) ∧ Chg [] w w' := by
 have HA := Lib.hid ha
 have HB := Lib.hid hb
 obtain ⟨ao, ac, rfl, -⟩ := ha
 obtain ⟨bo, bc, rfl, -⟩ := hb
 go_enter Try.func45, Try.ntmps45
 by_cases hl : l.length = m.length
 ·have HL := Lib.hid hl
  obtain ⟨n, hn⟩ : ∃ n, l.length = n := ⟨_, rfl⟩
  have HN := Lib.hid hn
  have hn2 : m.length = n := hl.symm.trans hn
  rw [hn] at hll ⊢
  rw [hn2] at ⊢
  have HN2 := Lib.hid hn2
  clear hl hn hn2
  go_wp2
  go_loopw [17] (fun c wr => ∃ k : Nat, k ≤ n ∧ c = .int .i64 k ∧ Chg [] w wr ∧ Hid (Plain.rowsTo l m k)) (fun c _ => n - (intOf c).toNat)
  case atStart => exact ⟨0, Nat.zero_le _, rfl, Chg.refl _ _, Lib.hid (fun i hi => by omega)⟩
  case round =>
   obtain ⟨k, hk, rfl, hc, hrt⟩ := hrel
   have HC := Lib.hid hc
   by_cases hlt : k < n
   ·obtain ⟨b1, o1, u1, e1, c1, -, r1⟩ := (HA.out.fresh hc).rowc (k := k) (by rw [HN.out]; exact hlt)
    obtain ⟨b2, o2, u2, e2, c2, -, r2⟩ := (HB.out.fresh hc).rowc (k := k) (by rw [HN2.out]; exact hlt)
    have HEQ := Lib.hid (show Plain.rowsTo l m k ∧ l.getD k [] = m.getD k [] → Plain.rowsTo l m (k + 1) from fun h i hi => by
     rcases (show i < k ∨ i = k by omega) with q | q
     ·exact h.1 i q
     ·rw [q]; exact h.2)
    have HNE := Lib.hid (show l.getD k [] ≠ m.getD k [] → l ≠ m from fun h e => h (by rw [e]))
    obtain ⟨rx, hrx⟩ : ∃ x, l.getD k [] = x := ⟨_, rfl⟩
    obtain ⟨ry, hry⟩ : ∃ x, m.getD k [] = x := ⟨_, rfl⟩
    rw [hrx] at r1 HEQ HNE
    rw [hry] at r2 HEQ HNE
    have R1 := Lib.hid r1
    have R2 := Lib.hid r2
    clear hc r1 r2 hrx hry
    simp only [e1, e2]
    go_wp2_with fail
    refine (seq_any _ _ rx ry _ R1.out R2.out).mono ?_
    rintro e w4 ⟨rfl, hc4⟩
    have HC4 := Lib.hid (HC.out.trans hc4 (by simp))
    clear hc4 c1 c2
    by_cases hxy : rx = ry
    ·have HNX := Lib.hid (HEQ.out ⟨hrt.out, hxy⟩)
     rw [decide_eq_true hxy]
     clear hxy
     go_wp2
     go_roundw
     case rel => exact ⟨k + 1, by omega, by go_num, HC4.out, HNX⟩
     case measure => simp [intOf]; omega
    ·have HF := Lib.hid (HNE.out hxy)
     rw [decide_eq_false hxy]
     clear hxy
     go_wp2
     go_ret
     exact ⟨ret_bool (decide_eq_false HF.out).symm, HC4.out⟩
   ·have e : k = n := by omega
    have HALL := Lib.hid (Plain.rows_ext HL.out (by rw [HN.out, ← e]; exact hrt.out))
    subst e
    clear hlt
    go_wp2
    go_ret
    exact ⟨ret_bool (decide_eq_true HALL.out).symm, HC.out⟩
 ·have HF := Lib.hid (show l ≠ m from fun e => hl (by rw [e]))
  have hd : ((l.length : Int) != (m.length : Int)) = true := by simp; omega
  clear hl
  go_wp2
  go_ret
  exact ⟨ret_bool (decide_eq_false HF.out).symm, Chg.refl _ _⟩

theorem box_store {wr : World} {b : Nat} {x y : Value} {t : TypeId} (hb : wr.heap[b]? = some (.cells #[x, y] t (0, 0))) (u v : Value) :
  ((wr.setCell ⟨b, 0, none⟩ u).setCell ⟨b, 1, none⟩ v).cell? ⟨b, 0, none⟩ = some u ∧ ((wr.setCell ⟨b, 0, none⟩ u).setCell ⟨b, 1, none⟩ v).cell? ⟨b, 1, none⟩ = some v ∧ Chg [b] wr ((wr.setCell ⟨b, 0, none⟩ u).setCell ⟨b, 1, none⟩ v) := by
 have hh := heap_setCell_same (heap_setCell_same hb 0 u) 1 v
 exact ⟨(cell_of_row _ _ 0 _ _ _ hh).trans rfl, (cell_of_row _ _ 1 _ _ _ hh).trans rfl, ((Chg.refl _ wr).setCell (Or.inl (by simp)) _).setCell (Or.inl (by simp)) _⟩

set_option maxRecDepth 100000 in
set_option maxHeartbeats 4000000 in
theorem psame_any (va vb : Value) (ta sa tb sb : List (List Int)) (w : World) (h1 : ta.length < 1000000000) (h2 : sa.length < 1000000000) (h3 : ∀ i, (ta.getD i []).length < 1000000000) (h4 : ∀ i, (sa.getD i []).length < 1000000000) (h5 : tb.length < 1000000000) (h6 : sb.length < 1000000000) (h7 : ∀ i, (tb.getD i []).length < 1000000000) (h8 : ∀ i, (sb.getD i []).length < 1000000000) (ha : PlAt w va ta sa) (hb : PlAt w vb tb sb) :
  Calls Try.prog 13 #[va, vb] w fun e w' => e = .returned (.bool (decide (ta.map Plain.first = tb.map Plain.first ∧ sa = sb))) ∧ Chg [] w w' := by
 have HA := Lib.hid ha
 have HB := Lib.hid hb
 obtain ⟨u1, u2, rfl, ⟨ao, ac, rfl, -⟩, ⟨bo, bc, rfl, -⟩⟩ := ha
 obtain ⟨u3, u4, rfl, ⟨co, cc, rfl, -⟩, ⟨eo, ec, rfl, -⟩⟩ := hb
 have H3 := Lib.hid h3
 have H4 := Lib.hid h4
 have H7 := Lib.hid h7
 have H8 := Lib.hid h8
 obtain ⟨hb1, hb2, hc1⟩ := box_two w #[.slice ao ta.length ac, .slice bo sa.length bc] #[.slice co tb.length cc, .slice eo sb.length ec] 30 30
 have HC1 := Lib.hid hc1
 have B1 := Lib.hid hb1
 have B2 := Lib.hid hb2
 have z0 := (cell_of_row _ _ 0 _ _ _ hb1).trans (show _ = some (Value.slice ao ta.length ac) from rfl)
 have z1 := (cell_of_row _ _ 1 _ _ _ hb1).trans (show _ = some (Value.slice bo sa.length bc) from rfl)
 have y0 := (cell_of_row _ _ 0 _ _ _ hb2).trans (show _ = some (Value.slice co tb.length cc) from rfl)
 have y1 := (cell_of_row _ _ 1 _ _ _ hb2).trans (show _ = some (Value.slice eo sb.length ec) from rfl)
 have HSZ := Lib.hid (show ((w.alloc (.cells #[.slice ao ta.length ac, .slice bo sa.length bc] 30)).alloc (.cells #[.slice co tb.length cc, .slice eo sb.length ec] 30)).heap.size = w.heap.size + 2 by simp)
 clear h3 h4 h7 h8 hb1 hb2 hc1
 go_enter Try.func13, Try.ntmps13
 go_wp2
 generalize ((w.alloc (.cells #[.slice ao ta.length ac, .slice bo sa.length bc] 30)).alloc (.cells #[.slice co tb.length cc, .slice eo sb.length ec] 30)) = w1 at *
 have hS0 : Chg [w.heap.size] w1 w1.drew := (Chg.refl _ w1).drew
 have HF0 := Lib.hid ((Chg.refl [] w1).drew)
 refine wp_region_way (fun wx => Chg [w.heap.size] w1 wx) [2] (Way.line [2, 0, 1, 3, 4, 5] .done) (by kernel_rfl) (by kernel_rfl) ?_
 simp only [Way.line]
 repeat
  first
   | (refine along_off rfl (by rfl) (by rfl) (fun _ _ _ h => h) hS0 ?_; simp only [Act.put, lz1, lz2, lz3, lz4, lz5, lz6])
   | (refine along_read (v := ?_) rfl (by rfl) (by rfl) (fun _ _ _ h => h) hS0 (fun w' hS' => ?_) ?_; rotate_left; (focus (have rd0 := hS'.cell y0 (by simp); have rd1 := hS'.cell y1 (by simp); clear hS'; go_simp; try with_reducible rfl)); simp only [Act.put, lz1, lz2, lz3, lz4, lz5, lz6])
   | (refine along_skip rfl (by rfl) (by rfl) hS0 ?_; simp only [Act.put, lz1, lz2, lz3, lz4, lz5, lz6])
 refine along_op rfl (by rfl) (by rfl) (fun K hK => ?_)
 go_simp
 refine hK.out _ _ (fun _ => hS0) ?_
 clear hK K
 try simp only [Act.put, lz1, lz2, lz3, lz4, lz5, lz6]
 refine along_op rfl (by rfl) (by rfl) (fun K hK => ?_)
 go_simp
 refine (clean_any _ ta sa _ h1 h2 H3.out H4.out (HA.out.fresh (HC1.out.trans HF0.out (by simp)))).mono ?_
 rintro e w2 ⟨vy, rfl, hvy, hcx⟩
 have HVY := Lib.hid hvy
 have HF1 := Lib.hid (HF0.out.trans hcx (by simp))
 have hS1 := hS0.trans hcx (by simp)
 have HZ := Lib.hid hS0.size
 clear hS0 hcx hvy
 have hS0 := hS1
 clear hS1
 refine hK.out _ _ (fun _ => hS0) ?_
 clear hK K
 try simp only [Act.put, lz1, lz2, lz3, lz4, lz5, lz6]
 refine along_op rfl (by rfl) (by rfl) (fun K hK => ?_)
 go_simp
 refine (clean_any _ tb sb _ h5 h6 H7.out H8.out (HB.out.fresh (HC1.out.trans HF1.out (by simp)))).mono ?_
 rintro e w3 ⟨vz, rfl, hvz, hcx⟩
 have HVZ := Lib.hid hvz
 have H23 := Lib.hid hcx
 have HF2 := Lib.hid (HF1.out.trans hcx (by simp))
 have HZ2 := Lib.hid hS0.size
 have hS1 := hS0.trans hcx (by simp)
 clear hS0 hcx hvz
 have hS0 := hS1
 clear hS1
 refine hK.out _ _ (fun _ => hS0) ?_
 clear hK K
 try simp only [Act.put, lz1, lz2, lz3, lz4, lz5, lz6]
 obtain ⟨q1, q2, rfl, ⟨o1, k1, rfl, -⟩, ⟨o2, k2, rfl, -⟩⟩ := HVY.out [] w2 (Chg.refl _ _) (by simp)
 obtain ⟨q3, q4, rfl, ⟨o3, k3, rfl, -⟩, ⟨o4, k4, rfl, -⟩⟩ := HVZ.out [] w3 (Chg.refl _ _) (by simp)
 have b1 := HF2.out.heap B1.out (by simp)
 have r0 := (cell_of_row _ _ 0 _ _ _ b1).trans (show _ = some (Value.slice ao ta.length ac) from rfl)
 have r1 := (cell_of_row _ _ 1 _ _ _ b1).trans (show _ = some (Value.slice bo sa.length bc) from rfl)
 have f0 := free_at b1 0
 have f1 := free_at b1 1
 obtain ⟨p0, p1, p2⟩ := box_store b1 (.slice o1 ta.length k1) (.slice o2 sa.length k2)
 have P0 := Lib.hid p0
 have P1 := Lib.hid p1
 have P2 := Lib.hid p2
 have b2 := p2.heap (HF2.out.heap B2.out (by simp)) (by simp)
 refine along_op rfl (by rfl) (by rfl) (fun K hK => ?_)
 go_simp
 have hS1 := hS0.trans p2 (fun j hj => Or.inl hj)
 clear hS0 b1 r0 r1 f0 f1 p0 p1 p2
 have hS0 := hS1
 clear hS1
 refine hK.out _ _ (fun _ => hS0) ?_
 clear hK K
 try simp only [Act.put, lz1, lz2, lz3, lz4, lz5, lz6]
 generalize ((w3.setCell ⟨w.heap.size, 0, none⟩ (.slice o1 ta.length k1)).setCell ⟨w.heap.size, 1, none⟩ (.slice o2 sa.length k2)) = w4 at *
 have r0 := (cell_of_row _ _ 0 _ _ _ b2).trans (show _ = some (Value.slice co tb.length cc) from rfl)
 have r1 := (cell_of_row _ _ 1 _ _ _ b2).trans (show _ = some (Value.slice eo sb.length ec) from rfl)
 have f0 := free_at b2 0
 have f1 := free_at b2 1
 obtain ⟨p0, p1, p2⟩ := box_store b2 (.slice o3 tb.length k3) (.slice o4 sb.length k4)
 have R0 := Lib.hid p0
 have R1 := Lib.hid p1
 have R2 := Lib.hid p2
 refine along_op rfl (by rfl) (by rfl) (fun K hK => ?_)
 go_simp
 clear r0 r1 f0 f1 p0 p1 p2 hS0 b2
 refine hK.out _ _ (fun h => absurd h (Bool.eq_false_iff.1 (by kernel_rfl))) ?_
 clear hK K
 try simp only [Act.put, lz1, lz2, lz3, lz4, lz5, lz6]
 generalize ((w4.setCell ⟨w.heap.size + 1, 0, none⟩ (.slice o3 tb.length k3)).setCell ⟨w.heap.size + 1, 1, none⟩ (.slice o4 sb.length k4)) = w5 at *
 have HZ5 := Lib.hid (show w.heap.size + 2 ≤ w2.heap.size by rw [← HSZ.out]; exact HF1.out.size)
 have H35 := Lib.hid (show Chg [w.heap.size, w.heap.size + 1] w3 w5 from (P2.out.mono (by simp)).trans (R2.out.mono (by simp)) (fun j hj => Or.inl hj))
 have hpa := HVY.out [w.heap.size, w.heap.size + 1] w5 (((H23.out).mono (by simp)).trans H35.out (fun j hj => Or.inl hj)) (fun j hj => by have := HF0.out.size; have := HSZ.out; simp at hj; omega)
 have hpb := HVZ.out [w.heap.size, w.heap.size + 1] w5 H35.out (fun j hj => by have := HZ5.out; simp at hj; omega)
 rw [List.length_map] at hpa hpb
 have HPA := Lib.hid hpa
 have HPB := Lib.hid hpb
 clear hpa hpb
 have c0 := R2.out.cell P0.out (by simp)
 have c1 := R2.out.cell P1.out (by simp)
 have c2 := R0.out
 have c3 := R1.out
 have HW5 := Lib.hid (show Chg [] w w5 from (HC1.out.trans HF2.out (by simp)).trans H35.out (fun j hj => Or.inr (by simp at hj; omega)))
 refine along_done ?_
 clear z0 z1 y0 y1
 obtain ⟨v1, v2, e1, ra1, ra2⟩ := HPA.out
 obtain ⟨v3, v4, e2, rb1, rb2⟩ := HPB.out
 cases e1
 cases e2
 have RA1 := Lib.hid ra1
 have RA2 := Lib.hid ra2
 have RB1 := Lib.hid rb1
 have RB2 := Lib.hid rb2
 have HLA := Lib.hid (show (ta.map Plain.first).length < 1000000000 by rw [List.length_map]; exact h1)
 have HLB := Lib.hid (show (tb.map Plain.first).length < 1000000000 by rw [List.length_map]; exact h5)
 clear ra1 ra2 rb1 rb2
 go_wp2_with fail
 refine (seqf_any _ _ (ta.map Plain.first) (tb.map Plain.first) _ HLA.out RA1.out RB1.out).mono ?_
 rintro e w6 ⟨rfl, hc6⟩
 have HC6 := Lib.hid (HW5.out.trans hc6 (by simp))
 have HC56 := Lib.hid hc6
 have d0 := hc6.cell c0 (by simp)
 have d1 := hc6.cell c1 (by simp)
 have d2 := hc6.cell c2 (by simp)
 have d3 := hc6.cell c3 (by simp)
 clear c0 c1 c2 c3 hc6
 by_cases ht : ta.map Plain.first = tb.map Plain.first
 ·rw [decide_eq_true ht]
  go_wp2_with fail
  refine (seqf_any _ _ sa sb _ h2 (RA2.out.fresh HC56.out) (RB2.out.fresh HC56.out)).mono ?_
  rintro e w7 ⟨rfl, hc7⟩
  have HC7 := Lib.hid (HC6.out.trans hc7 (by simp))
  clear hc7
  go_wp2
  go_ret
  exact ⟨ret_bool (by simp [ht]), HC7.out⟩
 ·rw [decide_eq_false ht]
  go_wp2
  go_ret
  exact ⟨ret_bool (by simp [ht]), HC6.out⟩
end Go.Proofs.Ytckjpaimbmlboaa
/- rest.Extends: its contract. Conditions: drawings and parts that lie in memory and read so, of a bounded size. -/
namespace Go.Proofs.Ytckjpaimbmlboaa
open Go.RowKit Go.Maps

namespace Plain
open Classical in
noncomputable def extB (g : Gr) (p q : Pt) (turn same ty sy : List (List Int)) : Bool :=
 decide (planErr g q ty sy = 0) && (decide (restErr g p q turn same = 0) && decide ((restTurn q.e turn).map first = ty.map first ∧ restSame g p q turn same = sy))
theorem grps_lens {c : Face → Int} {W : List Face} : (grps c W).length ≤ W.length ∧ ∀ i, ((grps c W).getD i []).length ≤ W.length := by
 refine ⟨?_, fun i => ?_⟩
 ·unfold grps
  rw [List.length_map]
  exact List.length_filter_le _ _
 ·by_cases hi : i < (grps c W).length
  ·have hm : (grps c W).getD i [] ∈ grps c W := by
    have : (grps c W).getD i [] = (grps c W)[i] := by simp [List.getD, hi]
    rw [this]; exact List.getElem_mem hi
   obtain ⟨h, e, -⟩ := mem_grps.1 hm
   rw [e]
   unfold keysAt
   rw [List.length_map]
   exact List.length_filter_le _ _
  ·simp [List.getD, hi]
end Plain

set_option maxRecDepth 100000 in
set_option maxHeartbeats 8000000 in
theorem extends_any (vg vp vx vq vy : Value) (g : Plain.Gr) (p q : Plain.Pt) (turn same ty sy : List (List Int)) (w : World) (hpl : p.e.length ≤ 10000) (hpv : p.v.length ≤ 10000) (hql : q.e.length ≤ 10000) (hqv : q.v.length ≤ 10000) (hTL : turn.length < 1000000000) (htr : ∀ i, (turn.getD i []).length < 1000000000) (hS : Plain.sumLen turn turn.length < 2147483648) (hsl : same.length ≤ 10000) (hsr : ∀ i, (same.getD i []).length ≤ 10000)
  (hyl : ty.length < 1000000000) (hyr : ∀ i, (ty.getD i []).length < 1000000000) (hyS : Plain.sumLen ty ty.length < 2147483648) (hysl : sy.length ≤ 10000) (hysr : ∀ i, (sy.getD i []).length ≤ 10000) (hg : GrAt w vg g) (hp : PtAt w vp p) (hx : PlAt w vx turn same) (hq : PtAt w vq q) (hy : PlAt w vy ty sy) :
  Calls Try.prog 29 #[vg, vp, vx, vq, vy] w fun e w' => e = .returned (.bool (Plain.extB g p q turn same ty sy)) ∧ Chg [] w w' := by
 have HY := Lib.hid hy
 obtain ⟨v5, v6, rfl, ⟨yo, yc, rfl, -⟩, ⟨zo, zc, rfl, -⟩⟩ := hy
 have HYR := Lib.hid hyr
 have HYSR := Lib.hid hysr
 have HSR := Lib.hid hsr
 have HTR := Lib.hid htr
 clear hyr hysr hsr htr
 have HG := Lib.hid hg
 have HQ := Lib.hid hq
 obtain ⟨v3, v4, rfl, hqv1, hqe1⟩ := hq
 have HQV := Lib.hid hqv1
 have HQEI := Lib.hid hqe1
 obtain ⟨co, cc, rfl, -, -, -⟩ := hqv1
 obtain ⟨fo, fc, rfl, -, -, -⟩ := hqe1
 have HP := Lib.hid hp
 have HX := Lib.hid hx
 obtain ⟨eo, cap, rfl, hn, hm, hsm, hcell⟩ := hg
 obtain ⟨v1, v2, rfl, hv, he⟩ := hp
 obtain ⟨ao, ac, rfl, has, ham, hacell⟩ := hv
 obtain ⟨bo, bc, rfl, hbs, hbm, hbcell⟩ := he
 have HAC := Lib.hid hacell
 have HBC := Lib.hid hbcell
 obtain ⟨t1, t2, rfl, ht, hs⟩ := hx
 have HT := Lib.hid ht
 have HS := Lib.hid hs
 obtain ⟨tno, tc, rfl, htm, -⟩ := ht
 obtain ⟨so, sc, rfl, hsm2, hsc⟩ := hs
 obtain ⟨-, -, hc1⟩ := box_two w #[.int .i64 g.n, .slice eo g.e.length cap] #[.slice ao p.v.length ac, .slice bo p.e.length bc] 24 27
 obtain ⟨-, hc3⟩ := box_three w #[.int .i64 g.n, .slice eo g.e.length cap] #[.slice ao p.v.length ac, .slice bo p.e.length bc] #[.slice tno turn.length tc, .slice so same.length sc] 24 27 30
 have HC1 := Lib.hid (hc1.trans hc3 (by simp))
 have HBXS := Lib.hid (fun w2 h => three_boxes w (g := g) (p := p) (turn := turn) (same := same) (eo := eo) (ao := ao) (bo := bo) (tno := tno) (so := so) (cap := cap) (ac := ac) (bc := bc) (tc := tc) (sc := sc) (w2 := w2) h)
 clear hcell hacell hbcell hsm hbs has hn hc1 hc3 hsc
 clear HC1 HBXS
 have HC1 := Lib.hid (four_chg w #[.int .i64 g.n, .slice eo g.e.length cap] #[.slice ao p.v.length ac, .slice bo p.e.length bc] #[.slice tno turn.length tc, .slice so same.length sc] #[.slice co q.v.length cc, .slice fo q.e.length fc] 24 27 30 27)
 have HBXS := Lib.hid (fun w2 h => four_boxes w (g := g) (p := p) (q := q) (turn := turn) (same := same) (eo := eo) (ao := ao) (bo := bo) (tno := tno) (so := so) (co := co) (fo := fo) (cap := cap) (ac := ac) (bc := bc) (tc := tc) (sc := sc) (cc := cc) (fc := fc) (w2 := w2) h)
 have hset : Chg [] ((((w.alloc (.cells #[.int .i64 g.n, .slice eo g.e.length cap] 24)).alloc (.cells #[.slice ao p.v.length ac, .slice bo p.e.length bc] 27)).alloc (.cells #[.slice tno turn.length tc, .slice so same.length sc] 30)).alloc (.cells #[.slice co q.v.length cc, .slice fo q.e.length fc] 27)) (((((w.alloc (.cells #[.int .i64 g.n, .slice eo g.e.length cap] 24)).alloc (.cells #[.slice ao p.v.length ac, .slice bo p.e.length bc] 27)).alloc (.cells #[.slice tno turn.length tc, .slice so same.length sc] 30)).alloc (.cells #[.slice co q.v.length cc, .slice fo q.e.length fc] 27)).alloc (.cells #[.slice yo ty.length yc, .slice zo sy.length zc] 30)) := (Chg.refl [] _).alloc _
 have hheap := heap_alloc_new ((((w.alloc (.cells #[.int .i64 g.n, .slice eo g.e.length cap] 24)).alloc (.cells #[.slice ao p.v.length ac, .slice bo p.e.length bc] 27)).alloc (.cells #[.slice tno turn.length tc, .slice so same.length sc] 30)).alloc (.cells #[.slice co q.v.length cc, .slice fo q.e.length fc] 27)) (.cells #[.slice yo ty.length yc, .slice zo sy.length zc] 30)
 rw [show ((((w.alloc (.cells #[.int .i64 g.n, .slice eo g.e.length cap] 24)).alloc (.cells #[.slice ao p.v.length ac, .slice bo p.e.length bc] 27)).alloc (.cells #[.slice tno turn.length tc, .slice so same.length sc] 30)).alloc (.cells #[.slice co q.v.length cc, .slice fo q.e.length fc] 27)).heap.size = w.heap.size + 4 by simp] at hheap
 have HF0 := Lib.hid ((cell_of_row _ _ 0 _ _ _ hheap).trans (show _ = some (Value.slice yo ty.length yc) from rfl))
 have HF1 := Lib.hid ((cell_of_row _ _ 1 _ _ _ hheap).trans (show _ = some (Value.slice zo sy.length zc) from rfl))
 have HCS := Lib.hid hset
 have HC5 := Lib.hid (HC1.out.trans hset (by simp))
 obtain ⟨⟨x0, x1, y0, y1, z0, z1⟩, q0, q1, hsz⟩ := HBXS.out _ hset
 have m0 := HF0.out
 have m1 := HF1.out
 clear hset hheap
 go_enter Try.func29, Try.ntmps29
 go_wp2_with fail
 generalize (((((w.alloc (.cells #[.int .i64 g.n, .slice eo g.e.length cap] 24)).alloc (.cells #[.slice ao p.v.length ac, .slice bo p.e.length bc] 27)).alloc (.cells #[.slice tno turn.length tc, .slice so same.length sc] 30)).alloc (.cells #[.slice co q.v.length cc, .slice fo q.e.length fc] 27)).alloc (.cells #[.slice yo ty.length yc, .slice zo sy.length zc] 30)) = w1 at *
 refine (right_any _ _ _ g q ty sy _ (by omega) (by omega) (by omega) hyS (by omega) HYSR.out (HG.out.fresh HC5.out) (HQ.out.fresh HC5.out) (HY.out.fresh HC5.out)).mono ?_
 rintro e w2 ⟨rfl, hc2⟩
 have HC2 := Lib.hid (HC5.out.trans hc2 (by simp))
 have HC2B := Lib.hid (HCS.out.trans hc2 (by simp))
 have M0 := Lib.hid (hc2.cell HF0.out (by simp))
 have M1 := Lib.hid (hc2.cell HF1.out (by simp))
 clear x0 x1 y0 y1 z0 z1 q0 q1 hsz m0 m1 hc2
 obtain ⟨er, her⟩ : ∃ er, Plain.planErr g q ty sy = er := ⟨_, rfl⟩
 have HER := Lib.hid her
 rw [her]
 by_cases hz : er = 0
 ·have HPZ := Lib.hid (her.trans hz)
  rw [hz]
  obtain ⟨⟨x0, x1, y0, y1, z0, z1⟩, q0, q1, hsz⟩ := HBXS.out w2 HC2B.out
  clear her hz
  go_wp2_with fail
  refine (restTo_any _ _ _ _ g p q turn same _ hpl hpv hql hqv (by omega) hS hsl HSR.out (HG.out.fresh HC2.out) (HP.out.fresh HC2.out) (HX.out.fresh HC2.out) (HQ.out.fresh HC2.out)).mono ?_
  rintro e w3 ⟨ov, rfl, hno, hyes, hc3⟩
  have HC3 := Lib.hid (HC2.out.trans hc3 (by simp))
  have HC3B := Lib.hid (HC2B.out.trans hc3 (by simp))
  have M03 := Lib.hid (hc3.cell M0.out (by simp))
  have M13 := Lib.hid (hc3.cell M1.out (by simp))
  clear x0 x1 y0 y1 z0 z1 q0 q1 hsz hc3
  by_cases hr : Plain.restErr g p q turn same = 0
  ·have HR0 := Lib.hid hr
   have HPL := Lib.hid (hyes hr)
   obtain ⟨u1, u2, rfl, ⟨o1, k1, rfl, -⟩, ⟨o2, k2, rfl, -⟩⟩ := hyes hr
   have hl1 : (Plain.restTurn q.e turn).length < 1000000000 := by unfold Plain.restTurn; rw [List.length_map]; exact hTL
   have hl2 : ∀ i, ((Plain.restTurn q.e turn).getD i []).length < 1000000000 := fun i => Nat.lt_of_le_of_lt (Plain.restTurn_row q.e turn i) (HTR.out i)
   obtain ⟨hpz, hqe, hqs, hqvs⟩ := Plain.restErr_is hr
   have hwl : (Plain.walksOf g q (Plain.restTurn q.e turn)).length < 1000000000 := by
    have := (Plain.walks_ok hqe (Plain.restTurn_ok (Plain.turnErr_zero (Plain.flatErr_zero (Plain.planErr_zero hpz).1).1).2 hqvs)).len
    omega
   have hl3 : (Plain.restSame g p q turn same).length < 1000000000 := Nat.lt_of_le_of_lt Plain.grps_lens.1 hwl
   have hl4 : ∀ i, ((Plain.restSame g p q turn same).getD i []).length < 1000000000 := fun i => Nat.lt_of_le_of_lt (Plain.grps_lens.2 i) hwl
   rw [hr]
   have HL2 := Lib.hid hl2
   have HL4 := Lib.hid hl4
   obtain ⟨A1, hA1⟩ : ∃ x, Plain.restTurn q.e turn = x := ⟨_, rfl⟩
   obtain ⟨A2, hA2⟩ : ∃ x, Plain.restSame g p q turn same = x := ⟨_, rfl⟩
   have HEX := Lib.hid (show Plain.extB g p q turn same ty sy = decide (A1.map Plain.first = ty.map Plain.first ∧ A2 = sy) by
    unfold Plain.extB
    rw [hA1, hA2, decide_eq_true HPZ.out, decide_eq_true hr]; simp)
   rw [hA1] at hl1 HL2 HPL
   rw [hA2] at hl3 HL4 HPL
   rw [hA1, hA2]
   clear hno hyes hr hl2 hl4 hwl hpz hqe hqs hqvs hA1 hA2
   have hset : Chg [] w3 (w3.alloc (.cells #[.slice o1 A1.length k1, .slice o2 A2.length k2] 30)) := (Chg.refl [] w3).alloc _
   have hheap := heap_alloc_new w3 (.cells #[.slice o1 A1.length k1, .slice o2 A2.length k2] 30)
   have n0 := (cell_of_row _ _ 0 _ _ _ hheap).trans (show _ = some (Value.slice o1 A1.length k1) from rfl)
   have n1 := (cell_of_row _ _ 1 _ _ _ hheap).trans (show _ = some (Value.slice o2 A2.length k2) from rfl)
   have HC4 := Lib.hid (HC3.out.trans hset (by simp))
   have HC34 := Lib.hid hset
   have m0 := hset.cell M03.out (by simp)
   have m1 := hset.cell M13.out (by simp)
   clear hset hheap
   go_wp2_with fail
   generalize (w3.alloc (.cells #[.slice o1 A1.length k1, .slice o2 A2.length k2] 30)) = w4 at *
   refine (psame_any _ _ A1 A2 ty sy _ hl1 hl3 HL2.out HL4.out hyl (by omega) HYR.out (fun i => Nat.lt_of_le_of_lt (HYSR.out i) (by decide)) (HPL.out.fresh HC34.out) (HY.out.fresh HC4.out)).mono ?_
   rintro e w5 ⟨rfl, hc5⟩
   have HCF := Lib.hid (HC4.out.trans hc5 (by simp))
   clear hc5 n0 n1 m0 m1
   go_wp2
   go_ret
   exact ⟨ret_bool (by rw [HEX.out]; simp), HCF.out⟩
  ·have HNR := Lib.hid (show Plain.extB g p q turn same ty sy = false by
    unfold Plain.extB
    rw [decide_eq_false hr]; simp)
   have hov := hno hr
   subst hov
   obtain ⟨er2, her2⟩ : ∃ e, Plain.restErr g p q turn same = e := ⟨_, rfl⟩
   have hb : (er2 == 0) = false := by rw [← her2]; simpa using hr
   rw [her2]
   clear hno hyes hr her2
   go_wp2
   go_ret
   exact ⟨ret_bool HNR.out.symm, HC3.out.trans ((Chg.refl [] w3).alloc _) (by simp)⟩
 ·have HNE := Lib.hid (show Plain.extB g p q turn same ty sy = false by
   unfold Plain.extB
   rw [decide_eq_false (show ¬ Plain.planErr g q ty sy = 0 by rw [her]; exact hz)]; simp)
  have hb : (er != 0) = true := by simpa using hz
  clear her hz
  go_wp2
  go_ret
  exact ⟨ret_bool HNE.out.symm, HC2.out⟩
end Go.Proofs.Ytckjpaimbmlboaa
/- All of a drawing that is left is the drawing. No program here. -/
namespace Go.Proofs.Ytckjpaimbmlboaa.Plain
section
variable {g : Gr} {p q : Pt} {turn same : List (List Int)}

theorem keep_all {E l : List Int} (h : ∀ d ∈ l, d / 2 ∈ E) : keepOf E l = l := by
 unfold keepOf
 rw [List.filter_eq_self]
 exact fun d hd => decide_eq_true (h d hd)

theorem row_turn {i : Nat} (hi : i < turn.length) : turnAt turn (i : Int) = turn[i] := by
 unfold turnAt
 simp [List.getD, hi]

theorem rest_turn_all (_hpe : p.err g = 0) (ht : TurnsOk g p turn) : restTurn p.e turn = turn.map first := by
 unfold restTurn
 refine List.map_congr_left fun l hl => ?_
 obtain ⟨i, hi, rfl⟩ := List.getElem_of_mem hl
 congr 1
 refine keep_all fun d hd => ?_
 have hlen := ht.len
 have := (ht.mem (i : Int) (by omega) (by omega) d).1 (by rw [row_turn hi]; exact hd)
 exact mem_darts.1 this.1

theorem place_marks (hpe : p.err g = 0) (ht : TurnsOk g p turn) {f : Face} (hf : f ∈ walksOf g p turn) : place turn f ∈ marks f := by
 have hW := walks_ok hpe ht
 have hm := (key_mark hpe ht hf).1
 unfold place
 by_cases e : f.2 = []
 ·obtain ⟨v, hv, e2, e1⟩ := lone_of hW.faces hf e
  rw [if_pos e]
  have h0 : seat turn (-1 - f.1) = f.1 := by
   rw [e1, show -1 - (-1 - v) = v by omega]
   unfold seat
   rw [e2, if_neg (by simp)]
  rw [h0]; exact hm
 ·rw [if_neg e]; exact hm

theorem rest_same_all (hz : planErr g p turn same = 0) : restSame g p p turn same = same := by
 obtain ⟨hpe, hto⟩ := zero_ok hz
 have h : Subs g p p turn := ⟨hpe, hpe, hto, fun _ h => h, fun _ h => h⟩
 have ho : outE p p = [] := by
  unfold outE
  rw [List.filter_eq_nil_iff]
  intro e he
  simp [he]
 have hG : ∀ x y, GenR g p p turn same x y ↔ RegR g p turn same x y := fun x y => by unfold GenR; rw [ho]; exact Iff.rfl
 conv => rhs; rw [same_grps hz]
 unfold restSame
 rw [rest_turn_all hpe hto, walks_first hpe hto]
 refine grps_congr fun f hf x hx => ?_
 rw [rest_cls h, hG]
 unfold RegR
 rw [lof_cls hz hf (place_marks hpe hto hf), lof_cls hz hx (place_marks hpe hto hx)]

theorem firsts_first (turn : List (List Int)) : (turn.map first).map first = turn.map first := by
 rw [List.map_map]
 exact List.map_congr_left fun l _ => first_first l

theorem first_rows (i : Nat) : ((turn.map first).getD i []).length = (turn.getD i []).length := by
 unfold List.getD
 rw [List.getElem?_map]
 cases turn[i]? with
 | none => simp
 | some l => exact (first_perm l).length_eq

theorem subB_self (l : List Int) : subB l l = true := subB_iff.2 fun _ h => h

theorem rest_err_all (hz : planErr g p turn same = 0) : restErr g p p turn same = 0 := by
 unfold restErr
 rw [if_neg (by simp [hz]), if_pos ⟨(zero_ok hz).1, subB_self _, subB_self _⟩]

theorem ext_rest (hr : restErr g p q turn same = 0) : extB g p q turn same (restTurn q.e turn) (restSame g p q turn same) = true := by
 obtain ⟨hz, hqe, hsv, hse⟩ := restErr_is hr
 unfold extB
 rw [rest_right hz hqe hse hsv, hr]
 simp
end
end Go.Proofs.Ytckjpaimbmlboaa.Plain
