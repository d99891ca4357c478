/- law 10's small. Conditions: a graph, a part, a plan, a list of ints that lie in memory and read so. -/
import Derived.Test.YtfgbkpbakignhaaGreatVSmall
import Derived.Test.YtfgbkpbakignhaaGreatVRegions
import Derived.Test.YtfgbkpbakignhaaGreatVWake
import Derived.Test.YtfgbkpbakignhaaGreatVRows2
namespace Go.Proofs.YtfgbkpbakignhaaGreat
open Go.RowKit Go.Maps

set_option maxRecDepth 100000 in
set_option maxHeartbeats 4000000 in
theorem small10_any (vg vp vx vc : Value) (g : Plain.Gr) (p : Plain.Pt) (turn same : List (List Int)) (cy : List Int) (w : World) (hg : GrAt w vg g) (hp : PtAt w vp p) (hx : PlAt w vx turn same) (hcy : IntsAt w vc cy) :
  Calls Tryz.prog 7 #[vg, vp, vx, vc] w fun e w' => e = .returned (.bool (Plain.small8 g p turn same && decide (cy.length ≤ 60))) ∧ Chg [] w w' := by
 obtain ⟨co, cc, rfl, hci, hcm, -⟩ := hcy
 clear hci
 have HG := Lib.hid hg
 have HP := Lib.hid hp
 have HX := Lib.hid hx
 obtain ⟨eo, cap, rfl, hn, hm, hsm, hcell⟩ := hg
 obtain ⟨v1, v2, rfl, hv, he⟩ := hp
 obtain ⟨ao, ac, rfl, has, ham, hacell⟩ := hv
 obtain ⟨bo, bc, rfl, hbs, hbm, hbcell⟩ := he
 have HAC := Lib.hid hacell
 have HBC := Lib.hid hbcell
 obtain ⟨t1, t2, rfl, ht, hs⟩ := hx
 have HT := Lib.hid ht
 have HS := Lib.hid hs
 obtain ⟨tno, tc, rfl, htm, -⟩ := ht
 obtain ⟨so, sc, rfl, hsm2, hsc⟩ := hs
 obtain ⟨-, -, hc1⟩ := box_two w #[.int .i64 g.n, .slice eo g.e.length cap] #[.slice ao p.v.length ac, .slice bo p.e.length bc] 24 27
 obtain ⟨-, hc3⟩ := box_three w #[.int .i64 g.n, .slice eo g.e.length cap] #[.slice ao p.v.length ac, .slice bo p.e.length bc] #[.slice tno turn.length tc, .slice so same.length sc] 24 27 30
 have HC1 := Lib.hid (hc1.trans hc3 (by simp))
 have HBXS := Lib.hid (fun w2 h => three_boxes w (g := g) (p := p) (turn := turn) (same := same) (eo := eo) (ao := ao) (bo := bo) (tno := tno) (so := so) (cap := cap) (ac := ac) (bc := bc) (tc := tc) (sc := sc) (w2 := w2) h)
 clear hcell hacell hbcell hsm hbs has hn hc1 hc3 hsc
 obtain ⟨x0, x1, y0, y1, z0, z1, hsz⟩ := HBXS.out _ (Chg.refl _ _)
 go_enter Tryz.func7, Tryz.ntmps7
 go_wp2_with fail
 refine (small8_any _ _ _ g p turn same _ (HG.out.fresh HC1.out) (HP.out.fresh HC1.out) (HX.out.fresh HC1.out)).mono ?_
 rintro e w2 ⟨rfl, hc2⟩
 have HC2 := Lib.hid (HC1.out.trans hc2 (by simp))
 clear x0 x1 y0 y1 z0 z1 hsz hc2
 cases hb : Plain.small8 g p turn same with
 | false =>
  rw [show bit false = 0 from rfl]
  have HB := Lib.hid hb
  clear hb
  go_wp2
  go_ret
  exact ⟨ret_bool (show false = _ by rw [HB.out]; rfl), HC2.out⟩
 | true =>
  rw [show bit true = 1 from rfl]
  have HB := Lib.hid hb
  clear hb
  by_cases hl : cy.length ≤ 60
  ·have bl : decide ((cy.length : Int) ≤ 60) = true := decide_eq_true (by omega)
   have HE := Lib.hid (show decide (cy.length ≤ 60) = true from decide_eq_true hl)
   clear hl
   go_wp2
   go_ret
   exact ⟨ret_bool (show true = _ by rw [HB.out, HE.out]; rfl), HC2.out⟩
  ·have bl : decide ((cy.length : Int) ≤ 60) = false := decide_eq_false (by omega)
   have HE := Lib.hid (show decide (cy.length ≤ 60) = false from decide_eq_false hl)
   clear hl
   go_wp2
   go_ret
   exact ⟨ret_bool (show false = _ by rw [HB.out, HE.out]; rfl), HC2.out⟩
end Go.Proofs.YtfgbkpbakignhaaGreat
/- ref04.Or (its things), ref09.Around (its things): contracts. Conditions: lists, a drawing that lie in memory and read so, of a bounded size. -/
namespace Go.Proofs.YtfgbkpbakignhaaGreat
open Go.RowKit Go.Maps

set_option maxRecDepth 100000 in
set_option maxHeartbeats 4000000 in
theorem refOr_any (va vb : Value) (a b : List Int) (w : World) (hla : a.length ≤ 1000000) (hlb : b.length ≤ 1000000) (ha : IntsAt w va a) (hb : IntsAt w vb b) :
  Calls Tryz.prog 78 #[va, vb] w fun e w' => ∃ ov M, e = .returned ov ∧ RowAt w' w.heap.size ov M ∧ (∀ x ∈ M, x ∈ a ∨ x ∈ b) ∧ (b ≠ [] → M ≠ []) ∧ M.length ≤ a.length + b.length ∧ Chg [] w w' := by
 have HA := Lib.hid ha
 have HB := Lib.hid hb
 obtain ⟨ao, ac, rfl, hia, -, -⟩ := ha
 obtain ⟨bo, bc, rfl, hib, -, -⟩ := hb
 have HIA := Lib.hid hia
 have HIB := Lib.hid hib
 clear hia hib
 go_enter Tryz.func78, Tryz.ntmps78
 go_wp2
 go_loopw [5, 6, 7] (fun ov c d wr => ∃ (i k : Nat) (M : List Int), c = .int .i64 i ∧ d = .int .i64 k ∧ i ≤ a.length ∧ k ≤ b.length ∧ M.length ≤ i + k ∧ RowAt wr w.heap.size ov M ∧ Hid (∀ x ∈ M, x ∈ a ∨ x ∈ b) ∧ Hid (M = [] → i = 0 ∧ k = 0) ∧ Chg [] w wr) (fun _ c d _ => a.length - (intOf c).toNat + (b.length - (intOf d).toNat))
 case atStart => exact ⟨0, 0, [], rfl, rfl, Nat.zero_le _, Nat.zero_le _, Nat.le_refl _, rowNil' _ _, Lib.hid (by simp), Lib.hid (fun _ => ⟨rfl, rfl⟩), Chg.refl _ _⟩
 case round =>
  obtain ⟨i, k, M, rfl, rfl, hi, hk, hml, hrow, HM, HE, hc⟩ := hrel
  have HROW := Lib.hid hrow
  have HC := Lib.hid hc
  have HBS := Lib.hid (show w.heap.size ≤ wr.heap.size from hc.size)
  obtain ⟨oo, oc, rfl⟩ := hrow.shape
  clear hrow
  by_cases hia : i < a.length
  ·have bi : decide ((i : Int) < (a.length : Int)) = true := decide_eq_true (by omega)
   obtain ⟨ab, aoff, rfl, ca⟩ := IntsAt.cellAt HA.out hia
   have acell := hc.cell ca (by simp)
   have hma := Plain.getD_mem hia
   have IX := HIA.out _ hma
   obtain ⟨x, hx⟩ : ∃ x, a.getD i 0 = x := ⟨_, rfl⟩
   rw [hx] at acell hma IX
   have HMX := Lib.hid (show ∀ y ∈ M ++ [x], y ∈ a ∨ y ∈ b from fun y hy => (List.mem_append.1 hy).elim (HM.out y) fun q => Or.inl (by rw [List.mem_singleton.1 q]; exact hma))
   clear ca hma hx
   by_cases hkb : k < b.length
   ·have bk : ((k : Int) == (b.length : Int)) = false := by rw [beq_eq_false_iff_ne]; omega
    have bk2 : decide ((k : Int) < (b.length : Int)) = true := decide_eq_true (by omega)
    obtain ⟨bb, boff, rfl, cb⟩ := IntsAt.cellAt HB.out hkb
    have bcell := hc.cell cb (by simp)
    have hmb := Plain.getD_mem hkb
    have IY := HIB.out _ hmb
    obtain ⟨y, hy⟩ : ∃ y, b.getD k 0 = y := ⟨_, rfl⟩
    rw [hy] at bcell hmb IY
    have HMY := Lib.hid (show ∀ z ∈ M ++ [y], z ∈ a ∨ z ∈ b from fun z hz => (List.mem_append.1 hz).elim (HM.out z) fun q => Or.inr (by rw [List.mem_singleton.1 q]; exact hmb))
    clear cb hmb hy
    clear hc
    by_cases hxy : x ≤ y
    ·have bxy : decide (x ≤ y) = true := decide_eq_true hxy
     by_cases hexy : x = y
     ·have be : (x == y) = true := by rw [beq_iff_eq]; exact hexy
      clear hexy hxy
      go_wp2
      have hS0 : Chg [] wr wr.drew := (Chg.refl [] wr).drew
      refine wp_region_way (Chg [] wr) [0, 1, 2, 3, 4, 5, 6, 7, 8, 9, 10, 11, 12, 13, 14, 15, 16, 17, 18, 19, 20] (Way.line [0, 1, 2, 3, 4, 5, 6, 7, 8, 9, 10, 11, 12, 13, 14, 15, 16, 17, 18, 19, 20] .done) (by kernel_rfl) (by kernel_rfl) ?_
      simp only [Way.line]
      repeat
       first
        | (refine along_off rfl (by rfl) (by rfl) (fun _ _ _ h => h) hS0 ?_; simp only [Act.put, List.getElem_toArray, List.getElem_cons_zero, List.getElem_cons_succ, List.setIfInBounds_toArray, List.set_cons_zero, List.set_cons_succ])
        | (refine along_read (v := ?_) rfl (by rfl) (by rfl) (fun _ _ _ h => h) hS0 (fun w' hS' => ?_) ?_; rotate_left; (focus (have rd0 := hS'.cell acell (by simp); have rd1 := hS'.cell bcell (by simp); clear hS'; go_simp; try with_reducible rfl)); simp only [Act.put, List.getElem_toArray, List.getElem_cons_zero, List.getElem_cons_succ, List.setIfInBounds_toArray, List.set_cons_zero, List.set_cons_succ])
        | (refine along_skip rfl (by rfl) (by rfl) hS0 ?_; simp only [Act.put, List.getElem_toArray, List.getElem_cons_zero, List.getElem_cons_succ, List.setIfInBounds_toArray, List.set_cons_zero, List.set_cons_succ])
      refine along_done ?_
      have HC2 := Lib.hid (HC.out.trans hS0 (by simp))
      have HROW2 := Lib.hid (HROW.out.chg hS0 (by simp))
      have acell := hS0.cell acell (by simp)
      have bcell := hS0.cell bcell (by simp)
      have HBS2 := Lib.hid (Nat.le_trans HBS.out hS0.size)
      clear hS0
      generalize wr.drew = wq at *
      go_wp2
      have hS0 : Chg [] wq wq.drew := (Chg.refl [] wq).drew
      refine wp_region_way (Chg [] wq) [0, 1, 2, 3, 4, 5, 6, 7, 8, 9, 10, 11, 12, 13, 14] (Way.line [0, 1, 2, 3, 4, 5, 6, 7, 8, 9, 10, 11, 12, 13, 14] .done) (by kernel_rfl) (by kernel_rfl) ?_
      simp only [Way.line]
      repeat
       first
        | (refine along_off rfl (by rfl) (by rfl) (fun _ _ _ h => h) hS0 ?_; simp only [Act.put, List.getElem_toArray, List.getElem_cons_zero, List.getElem_cons_succ, List.setIfInBounds_toArray, List.set_cons_zero, List.set_cons_succ])
        | (refine along_read (v := ?_) rfl (by rfl) (by rfl) (fun _ _ _ h => h) hS0 (fun w' hS' => ?_) ?_; rotate_left; (focus (have rd0 := hS'.cell acell (by simp); have rd1 := hS'.cell bcell (by simp); clear hS'; go_simp; try with_reducible rfl)); simp only [Act.put, List.getElem_toArray, List.getElem_cons_zero, List.getElem_cons_succ, List.setIfInBounds_toArray, List.set_cons_zero, List.set_cons_succ])
        | (refine along_skip rfl (by rfl) (by rfl) hS0 ?_; simp only [Act.put, List.getElem_toArray, List.getElem_cons_zero, List.getElem_cons_succ, List.setIfInBounds_toArray, List.set_cons_zero, List.set_cons_succ])
      refine along_done ?_
      have HC3 := Lib.hid (HC2.out.trans hS0 (by simp))
      have HROW3 := Lib.hid (HROW2.out.chg hS0 (by simp))
      have acell := hS0.cell acell (by simp)
      have HBS3 := Lib.hid (Nat.le_trans HBS2.out hS0.size)
      clear hS0 bcell
      generalize wq.drew = wz at *
      go_wp2_with (at_builtin; refine wl_push rfl _ _ rfl (B := w.heap.size) (v := .slice oo _ oc) rfl rfl HROW3.out IX HBS3.out (by omega) rfl ?_; intro v6 w6 r6 c6 f6; have R6 := Lib.hid r6; have C6 := Lib.hid c6; clear r6 c6 f6)
      go_roundw
      case rel => exact ⟨i + 1, k + 1, M ++ [x], by go_num, by go_num, by omega, by omega, by simp; omega, R6.out, HMX, Lib.hid (by simp), HC3.out.trans C6.out (fun j hj => Or.inr (by rw [HROW3.out.foot] at hj; exact (HROW3.out.low j hj).1))⟩
      case measure => simp [intOf]; omega
     ·have be : (x == y) = false := by rw [beq_eq_false_iff_ne]; exact hexy
      clear hexy hxy
      go_wp2
      have hS0 : Chg [] wr wr.drew := (Chg.refl [] wr).drew
      refine wp_region_way (Chg [] wr) [0, 1, 2, 3, 4, 5, 6, 7, 8, 9, 10, 11, 12, 13, 14, 15, 16, 17, 18, 19, 20] (Way.line [0, 1, 2, 3, 4, 5, 6, 7, 8, 9, 10, 11, 12, 13, 14, 15, 16, 17, 18, 19, 20] .done) (by kernel_rfl) (by kernel_rfl) ?_
      simp only [Way.line]
      repeat
       first
        | (refine along_off rfl (by rfl) (by rfl) (fun _ _ _ h => h) hS0 ?_; simp only [Act.put, List.getElem_toArray, List.getElem_cons_zero, List.getElem_cons_succ, List.setIfInBounds_toArray, List.set_cons_zero, List.set_cons_succ])
        | (refine along_read (v := ?_) rfl (by rfl) (by rfl) (fun _ _ _ h => h) hS0 (fun w' hS' => ?_) ?_; rotate_left; (focus (have rd0 := hS'.cell acell (by simp); have rd1 := hS'.cell bcell (by simp); clear hS'; go_simp; try with_reducible rfl)); simp only [Act.put, List.getElem_toArray, List.getElem_cons_zero, List.getElem_cons_succ, List.setIfInBounds_toArray, List.set_cons_zero, List.set_cons_succ])
        | (refine along_skip rfl (by rfl) (by rfl) hS0 ?_; simp only [Act.put, List.getElem_toArray, List.getElem_cons_zero, List.getElem_cons_succ, List.setIfInBounds_toArray, List.set_cons_zero, List.set_cons_succ])
      refine along_done ?_
      have HC2 := Lib.hid (HC.out.trans hS0 (by simp))
      have HROW2 := Lib.hid (HROW.out.chg hS0 (by simp))
      have acell := hS0.cell acell (by simp)
      have bcell := hS0.cell bcell (by simp)
      have HBS2 := Lib.hid (Nat.le_trans HBS.out hS0.size)
      clear hS0
      generalize wr.drew = wq at *
      go_wp2
      have hS0 : Chg [] wq wq.drew := (Chg.refl [] wq).drew
      refine wp_region_way (Chg [] wq) [0, 1, 2, 3, 4, 5, 6, 7, 8, 9, 10, 11, 12, 13, 14] (Way.line [0, 1, 2, 3, 4, 5, 6, 7, 8, 9, 10, 11, 12, 13, 14] .done) (by kernel_rfl) (by kernel_rfl) ?_
      simp only [Way.line]
      repeat
       first
        | (refine along_off rfl (by rfl) (by rfl) (fun _ _ _ h => h) hS0 ?_; simp only [Act.put, List.getElem_toArray, List.getElem_cons_zero, List.getElem_cons_succ, List.setIfInBounds_toArray, List.set_cons_zero, List.set_cons_succ])
        | (refine along_read (v := ?_) rfl (by rfl) (by rfl) (fun _ _ _ h => h) hS0 (fun w' hS' => ?_) ?_; rotate_left; (focus (have rd0 := hS'.cell acell (by simp); have rd1 := hS'.cell bcell (by simp); clear hS'; go_simp; try with_reducible rfl)); simp only [Act.put, List.getElem_toArray, List.getElem_cons_zero, List.getElem_cons_succ, List.setIfInBounds_toArray, List.set_cons_zero, List.set_cons_succ])
        | (refine along_skip rfl (by rfl) (by rfl) hS0 ?_; simp only [Act.put, List.getElem_toArray, List.getElem_cons_zero, List.getElem_cons_succ, List.setIfInBounds_toArray, List.set_cons_zero, List.set_cons_succ])
      refine along_done ?_
      have HC3 := Lib.hid (HC2.out.trans hS0 (by simp))
      have HROW3 := Lib.hid (HROW2.out.chg hS0 (by simp))
      have acell := hS0.cell acell (by simp)
      have HBS3 := Lib.hid (Nat.le_trans HBS2.out hS0.size)
      clear hS0 bcell
      generalize wq.drew = wz at *
      go_wp2_with (at_builtin; refine wl_push rfl _ _ rfl (B := w.heap.size) (v := .slice oo _ oc) rfl rfl HROW3.out IX HBS3.out (by omega) rfl ?_; intro v6 w6 r6 c6 f6; have R6 := Lib.hid r6; have C6 := Lib.hid c6; clear r6 c6 f6)
      go_roundw
      case rel => exact ⟨i + 1, k, M ++ [x], by go_num, by go_num, by omega, by omega, by simp; omega, R6.out, HMX, Lib.hid (by simp), HC3.out.trans C6.out (fun j hj => Or.inr (by rw [HROW3.out.foot] at hj; exact (HROW3.out.low j hj).1))⟩
      case measure => simp [intOf]; omega
    ·have bxy : decide (x ≤ y) = false := decide_eq_false hxy
     clear hxy
     go_wp2
     have hS0 : Chg [] wr wr.drew := (Chg.refl [] wr).drew
     refine wp_region_way (Chg [] wr) [0, 1, 2, 3, 4, 5, 6, 7, 8, 9, 10, 11, 12, 13, 14, 15, 16, 17, 18, 19, 20] (Way.line [0, 1, 2, 3, 4, 5, 6, 7, 8, 9, 10, 11, 12, 13, 14, 15, 16, 17, 18, 19, 20] .done) (by kernel_rfl) (by kernel_rfl) ?_
     simp only [Way.line]
     repeat
      first
       | (refine along_off rfl (by rfl) (by rfl) (fun _ _ _ h => h) hS0 ?_; simp only [Act.put, List.getElem_toArray, List.getElem_cons_zero, List.getElem_cons_succ, List.setIfInBounds_toArray, List.set_cons_zero, List.set_cons_succ])
       | (refine along_read (v := ?_) rfl (by rfl) (by rfl) (fun _ _ _ h => h) hS0 (fun w' hS' => ?_) ?_; rotate_left; (focus (have rd0 := hS'.cell acell (by simp); have rd1 := hS'.cell bcell (by simp); clear hS'; go_simp; try with_reducible rfl)); simp only [Act.put, List.getElem_toArray, List.getElem_cons_zero, List.getElem_cons_succ, List.setIfInBounds_toArray, List.set_cons_zero, List.set_cons_succ])
       | (refine along_skip rfl (by rfl) (by rfl) hS0 ?_; simp only [Act.put, List.getElem_toArray, List.getElem_cons_zero, List.getElem_cons_succ, List.setIfInBounds_toArray, List.set_cons_zero, List.set_cons_succ])
     refine along_done ?_
     have HC2 := Lib.hid (HC.out.trans hS0 (by simp))
     have HROW2 := Lib.hid (HROW.out.chg hS0 (by simp))
     have acell := hS0.cell acell (by simp)
     have bcell := hS0.cell bcell (by simp)
     have HBS2 := Lib.hid (Nat.le_trans HBS.out hS0.size)
     clear hS0
     generalize wr.drew = wq at *
     clear acell
     go_wp2_with (at_builtin; refine wl_push rfl _ _ rfl (B := w.heap.size) (v := .slice oo _ oc) rfl rfl HROW2.out IY HBS2.out (by omega) rfl ?_; intro v6 w6 r6 c6 f6; have R6 := Lib.hid r6; have C6 := Lib.hid c6; clear r6 c6 f6)
     go_roundw
     case rel => exact ⟨i, k + 1, M ++ [y], by go_num, by go_num, by omega, by omega, by simp; omega, R6.out, HMY, Lib.hid (by simp), HC2.out.trans C6.out (fun j hj => Or.inr (by rw [HROW2.out.foot] at hj; exact (HROW2.out.low j hj).1))⟩
     case measure => simp [intOf]; omega
   ·obtain rfl : k = b.length := by omega
    have bk : ((b.length : Int) == (b.length : Int)) = true := by simp
    have bk2 : decide ((b.length : Int) < (b.length : Int)) = false := decide_eq_false (by omega)
    clear hc
    go_wp2
    have hS0 : Chg [] wr wr.drew := (Chg.refl [] wr).drew
    refine wp_region_way (Chg [] wr) [0, 1, 2, 3, 4, 5, 6, 7, 8, 9, 10, 11, 12, 13, 14, 15, 16, 17, 18, 19, 20] (Way.line [0, 1, 2, 3, 4, 5, 6, 7, 8, 9, 10, 11, 12, 13, 14, 15, 16, 17, 18, 19, 20] .done) (by kernel_rfl) (by kernel_rfl) ?_
    simp only [Way.line]
    repeat
     first
      | (refine along_off rfl (by rfl) (by rfl) (fun _ _ _ h => h) hS0 ?_; simp only [Act.put, List.getElem_toArray, List.getElem_cons_zero, List.getElem_cons_succ, List.setIfInBounds_toArray, List.set_cons_zero, List.set_cons_succ])
      | (refine along_read (v := ?_) rfl (by rfl) (by rfl) (fun _ _ _ h => h) hS0 (fun w' hS' => ?_) ?_; rotate_left; (focus (have rd0 := hS'.cell acell (by simp); clear hS'; go_simp; try with_reducible rfl)); simp only [Act.put, List.getElem_toArray, List.getElem_cons_zero, List.getElem_cons_succ, List.setIfInBounds_toArray, List.set_cons_zero, List.set_cons_succ])
      | (refine along_skip rfl (by rfl) (by rfl) hS0 ?_; simp only [Act.put, List.getElem_toArray, List.getElem_cons_zero, List.getElem_cons_succ, List.setIfInBounds_toArray, List.set_cons_zero, List.set_cons_succ])
    refine along_done ?_
    have HC2 := Lib.hid (HC.out.trans hS0 (by simp))
    have HROW2 := Lib.hid (HROW.out.chg hS0 (by simp))
    have acell := hS0.cell acell (by simp)
    have HBS2 := Lib.hid (Nat.le_trans HBS.out hS0.size)
    clear hS0
    generalize wr.drew = wq at *
    go_wp2
    have hS0 : Chg [] wq wq.drew := (Chg.refl [] wq).drew
    refine wp_region_way (Chg [] wq) [0, 1, 2, 3, 4, 5, 6, 7, 8, 9, 10, 11, 12, 13, 14] (Way.line [0, 1, 2, 3, 4, 5, 6, 7, 8, 9, 10, 11, 12, 13, 14] .done) (by kernel_rfl) (by kernel_rfl) ?_
    simp only [Way.line]
    repeat
     first
      | (refine along_off rfl (by rfl) (by rfl) (fun _ _ _ h => h) hS0 ?_; simp only [Act.put, List.getElem_toArray, List.getElem_cons_zero, List.getElem_cons_succ, List.setIfInBounds_toArray, List.set_cons_zero, List.set_cons_succ])
      | (refine along_read (v := ?_) rfl (by rfl) (by rfl) (fun _ _ _ h => h) hS0 (fun w' hS' => ?_) ?_; rotate_left; (focus (have rd0 := hS'.cell acell (by simp); clear hS'; go_simp; try with_reducible rfl)); simp only [Act.put, List.getElem_toArray, List.getElem_cons_zero, List.getElem_cons_succ, List.setIfInBounds_toArray, List.set_cons_zero, List.set_cons_succ])
      | (refine along_skip rfl (by rfl) (by rfl) hS0 ?_; simp only [Act.put, List.getElem_toArray, List.getElem_cons_zero, List.getElem_cons_succ, List.setIfInBounds_toArray, List.set_cons_zero, List.set_cons_succ])
    refine along_done ?_
    have HC3 := Lib.hid (HC2.out.trans hS0 (by simp))
    have HROW3 := Lib.hid (HROW2.out.chg hS0 (by simp))
    have acell := hS0.cell acell (by simp)
    have HBS3 := Lib.hid (Nat.le_trans HBS2.out hS0.size)
    clear hS0
    generalize wq.drew = wz at *
    go_wp2_with (at_builtin; refine wl_push rfl _ _ rfl (B := w.heap.size) (v := .slice oo _ oc) rfl rfl HROW3.out IX HBS3.out (by omega) rfl ?_; intro v6 w6 r6 c6 f6; have R6 := Lib.hid r6; have C6 := Lib.hid c6; clear r6 c6 f6)
    go_roundw
    case rel => exact ⟨i + 1, b.length, M ++ [x], by go_num, by go_num, by omega, by omega, by simp; omega, R6.out, HMX, Lib.hid (by simp), HC3.out.trans C6.out (fun j hj => Or.inr (by rw [HROW3.out.foot] at hj; exact (HROW3.out.low j hj).1))⟩
    case measure => simp [intOf]; omega
  ·obtain rfl : i = a.length := by omega
   have bi : decide ((a.length : Int) < (a.length : Int)) = false := decide_eq_false (by omega)
   by_cases hkb : k < b.length
   ·have bk : ((k : Int) == (b.length : Int)) = false := by rw [beq_eq_false_iff_ne]; omega
    have bk2 : decide ((k : Int) < (b.length : Int)) = true := decide_eq_true (by omega)
    obtain ⟨bb, boff, rfl, cb⟩ := IntsAt.cellAt HB.out hkb
    have bcell := hc.cell cb (by simp)
    have hmb := Plain.getD_mem hkb
    have IY := HIB.out _ hmb
    obtain ⟨y, hy⟩ : ∃ y, b.getD k 0 = y := ⟨_, rfl⟩
    rw [hy] at bcell hmb IY
    have HMY := Lib.hid (show ∀ z ∈ M ++ [y], z ∈ a ∨ z ∈ b from fun z hz => (List.mem_append.1 hz).elim (HM.out z) fun q => Or.inr (by rw [List.mem_singleton.1 q]; exact hmb))
    clear cb hmb hy
    clear hc
    go_wp2
    have hS0 : Chg [] wr wr.drew := (Chg.refl [] wr).drew
    refine wp_region_way (Chg [] wr) [0, 1, 2, 3, 4, 5, 6, 7, 8, 9, 10, 11, 12, 13, 14, 15, 16, 17, 18, 19, 20] (Way.line [0, 1, 2, 3, 4, 5, 6, 7, 8, 9, 10, 11, 12, 13, 14, 15, 16, 17, 18, 19, 20] .done) (by kernel_rfl) (by kernel_rfl) ?_
    simp only [Way.line]
    repeat
     first
      | (refine along_off rfl (by rfl) (by rfl) (fun _ _ _ h => h) hS0 ?_; simp only [Act.put, List.getElem_toArray, List.getElem_cons_zero, List.getElem_cons_succ, List.setIfInBounds_toArray, List.set_cons_zero, List.set_cons_succ])
      | (refine along_read (v := ?_) rfl (by rfl) (by rfl) (fun _ _ _ h => h) hS0 (fun w' hS' => ?_) ?_; rotate_left; (focus (have rd0 := hS'.cell bcell (by simp); clear hS'; go_simp; try with_reducible rfl)); simp only [Act.put, List.getElem_toArray, List.getElem_cons_zero, List.getElem_cons_succ, List.setIfInBounds_toArray, List.set_cons_zero, List.set_cons_succ])
      | (refine along_skip rfl (by rfl) (by rfl) hS0 ?_; simp only [Act.put, List.getElem_toArray, List.getElem_cons_zero, List.getElem_cons_succ, List.setIfInBounds_toArray, List.set_cons_zero, List.set_cons_succ])
    refine along_done ?_
    have HC2 := Lib.hid (HC.out.trans hS0 (by simp))
    have HROW2 := Lib.hid (HROW.out.chg hS0 (by simp))
    have bcell := hS0.cell bcell (by simp)
    have HBS2 := Lib.hid (Nat.le_trans HBS.out hS0.size)
    clear hS0
    generalize wr.drew = wq at *
    go_wp2_with (at_builtin; refine wl_push rfl _ _ rfl (B := w.heap.size) (v := .slice oo _ oc) rfl rfl HROW2.out IY HBS2.out (by omega) rfl ?_; intro v6 w6 r6 c6 f6; have R6 := Lib.hid r6; have C6 := Lib.hid c6; clear r6 c6 f6)
    go_roundw
    case rel => exact ⟨a.length, k + 1, M ++ [y], by go_num, by go_num, by omega, by omega, by simp; omega, R6.out, HMY, Lib.hid (by simp), HC2.out.trans C6.out (fun j hj => Or.inr (by rw [HROW2.out.foot] at hj; exact (HROW2.out.low j hj).1))⟩
    case measure => simp [intOf]; omega
   ·obtain rfl : k = b.length := by omega
    have bk2 : decide ((b.length : Int) < (b.length : Int)) = false := decide_eq_false (by omega)
    clear hc
    have HNE := Lib.hid (fun (h : b ≠ []) (q : M = []) => (by have := (HE.out q).2; exact h (List.length_eq_zero_iff.1 this) : False))
    go_wp2
    go_ret
    exact ⟨_, M, rfl, HROW.out, HM.out, HNE.out, hml, HC.out⟩
end Go.Proofs.YtfgbkpbakignhaaGreat
/- A plan as it is built in memory: a variable of two lists of lists of the call's own. No condition beyond what each law says. -/
namespace Go.Proofs.YtfgbkpbakignhaaGreat
open Go.RowKit Go.Maps

structure PlanVar (w : World) (pb B T : Nat) (t s : List (List Int)) : Prop where
 ex : ∃ o1 v1 o2 v2, w.heap[pb]? = some (.cells #[o1, o2] 30 (0, 0)) ∧ RowsOwn w B o1 v1 t ∧ RowsOwn w B o2 v2 s ∧ (o1.ownBlock = none ∨ o1.ownBlock ≠ o2.ownBlock) ∧
  (∀ k b, k < v1.length → (v1.getD k undef).ownBlock = some b → b < T) ∧ (∀ k b, k < v2.length → (v2.getD k undef).ownBlock = some b → b < T)
 small : ∀ l ∈ t ++ s, (∀ x ∈ l, I64 x) ∧ l.length < 4294967296

theorem PlanVar.made (w : World) (B T : Nat) : PlanVar (w.alloc (.cells #[.slice none 0 0, .slice none 0 0] 30)) w.heap.size B T [] [] :=
 ⟨⟨_, [], _, [], heap_alloc_new w _, RowsOwn.nil _ _, RowsOwn.nil _ _, Or.inl rfl, by simp, by simp⟩, by simp⟩

theorem row_below {w : World} {B : Nat} {ov : Value} {vs : List Value} {ll : List (List Int)} (h : RowsOwn w B ov vs ll) : ∀ k b, k < vs.length → (vs.getD k undef).ownBlock = some b → b < w.heap.size := fun k _b hk hb => owns_lt (h.rows k hk) hb

theorem PlanVar.up {w : World} {pb B T T' : Nat} {t s : List (List Int)} (h : PlanVar w pb B T t s) (hT : w.heap.size ≤ T') : PlanVar w pb B T' t s := by
 obtain ⟨⟨o1, v1, o2, v2, h1, h2, h3, h4, -, -⟩, h7⟩ := h
 exact ⟨⟨o1, v1, o2, v2, h1, h2, h3, h4, fun k b hk hb => Nat.lt_of_lt_of_le (row_below h2 k b hk hb) hT, fun k b hk hb => Nat.lt_of_lt_of_le (row_below h3 k b hk hb) hT⟩, h7⟩

theorem owns_kind {w : World} {B : Nat} {e : TypeId} {sz : Nat} {v : Value} {n : Nat} {xs : List Value} (h : w.ownsRow B e sz v n xs) {b : Nat} (hb : v.ownBlock = some b) : ∃ cs, w.heap[b]? = some (.cells cs e (0, 0)) := by
 rcases h.2 with ⟨rfl, _⟩ | ⟨g, c, cur, rfl, _, hg, _⟩
 ·cases hb
 ·simp only [Value.ownBlock, Option.some.injEq] at hb
  subst hb
  exact ⟨_, hg⟩

theorem PlanVar.keep {w w' : World} {pb B T : Nat} {t s : List (List Int)} {own : List Nat} (h : PlanVar w pb B T t s) (hc : Chg own w w') (ho : ∀ j ∈ own, j ≠ pb ∧ ∀ cs u r, w.heap[j]? = some (.cells cs u r) → u ≠ 25 ∧ u ≠ 3) : PlanVar w' pb B T t s := by
 obtain ⟨⟨o1, v1, o2, v2, h1, h2, h3, h4, h5, h6⟩, h7⟩ := h
 have hr : ∀ {ov : Value} {vs : List Value} {ll : List (List Int)}, RowsOwn w B ov vs ll → RowsOwn w' B ov vs ll := by
  intro ov vs ll hr
  refine hr.chg hc (fun b hb hm => ?_) (fun k b hk hb hm => ?_)
  ·obtain ⟨cs, hh⟩ := owns_kind hr.out hb
   exact ((ho _ hm).2 _ _ _ hh).1 rfl
  ·obtain ⟨cs, hh⟩ := owns_kind (hr.rows k hk) hb
   exact ((ho _ hm).2 _ _ _ hh).2 rfl
 exact ⟨⟨o1, v1, o2, v2, hc.heap h1 (fun hm => (ho _ hm).1 rfl), hr h2, hr h3, h4, h5, h6⟩, h7⟩
theorem PlanVar.fresh {w w' : World} {pb B T : Nat} {t s : List (List Int)} (h : PlanVar w pb B T t s) (hc : Chg [] w w') : PlanVar w' pb B T t s := h.keep hc (by simp)

theorem PlanVar.low {w w' : World} {pb B T : Nat} {t s : List (List Int)} {own : List Nat} (h : PlanVar w pb B T t s) (hc : Chg own w w') (ho : ∀ j ∈ own, j < B ∧ j ≠ pb) : PlanVar w' pb B T t s := by
 obtain ⟨⟨o1, v1, o2, v2, h1, h2, h3, h4, h5, h6⟩, h7⟩ := h
 exact ⟨⟨o1, v1, o2, v2, hc.heap h1 (fun hm => (ho _ hm).2 rfl), h2.below hc fun j hj => (ho j hj).1, h3.below hc fun j hj => (ho j hj).1, h4, h5, h6⟩, h7⟩

theorem PlanVar.cells {w : World} {pb B T : Nat} {t s : List (List Int)} (h : PlanVar w pb B T t s) : ∃ a1 c1 a2 c2, w.cell? ⟨pb, 0, none⟩ = some (.slice a1 t.length c1) ∧ w.cell? ⟨pb, 1, none⟩ = some (.slice a2 s.length c2) := by
 obtain ⟨⟨o1, v1, o2, v2, h1, h2, h3, -⟩, -⟩ := h
 obtain ⟨a1, c1, rfl⟩ := owns_shape h2.out
 obtain ⟨a2, c2, rfl⟩ := owns_shape h3.out
 exact ⟨a1, c1, a2, c2, by rw [← h2.len]; exact (cell_of_row _ _ 0 _ _ _ h1).trans rfl, by rw [← h3.len]; exact (cell_of_row _ _ 1 _ _ _ h1).trans rfl⟩
theorem PlanVar.lt {w : World} {pb B T : Nat} {t s : List (List Int)} (h : PlanVar w pb B T t s) : pb < w.heap.size := by
 obtain ⟨⟨o1, v1, o2, v2, h1, -⟩, -⟩ := h
 exact lt_of_block h1
theorem PlanVar.free {w : World} {pb B T : Nat} {t s : List (List Int)} (h : PlanVar w pb B T t s) (i : Nat) : w.frozen? ⟨pb, i, none⟩ = false := by
 obtain ⟨⟨o1, v1, o2, v2, h1, -⟩, -⟩ := h
 exact free_at h1 i

theorem PlanVar.read {w : World} {pb B T : Nat} {t s : List (List Int)} (h : PlanVar w pb B T t s) : ∃ a1 c1 a2 c2, w.cell? ⟨pb, 0, none⟩ = some (.slice a1 t.length c1) ∧ w.cell? ⟨pb, 1, none⟩ = some (.slice a2 s.length c2) ∧ PlAt w (.agg #[.slice a1 t.length c1, .slice a2 s.length c2]) t s := by
 obtain ⟨⟨o1, v1, o2, v2, h1, h2, h3, -⟩, h7⟩ := h
 obtain ⟨a1, c1, rfl⟩ := owns_shape h2.out
 obtain ⟨a2, c2, rfl⟩ := owns_shape h3.out
 have r1 := h2.read fun l hl => h7 l (List.mem_append.2 (Or.inl hl))
 have r2 := h3.read fun l hl => h7 l (List.mem_append.2 (Or.inr hl))
 have e1 := h2.len
 have e2 := h3.len
 rw [e1] at r1 h1
 rw [e2] at r2 h1
 exact ⟨a1, c1, a2, c2, (cell_of_row _ _ 0 _ _ _ h1).trans rfl, (cell_of_row _ _ 1 _ _ _ h1).trans rfl, _, _, rfl, r1, r2⟩

end Go.Proofs.YtfgbkpbakignhaaGreat
/- plan.Clean: its contract. Conditions: a plan that lies in memory and reads so, of a bounded size. -/
namespace Go.Proofs.YtfgbkpbakignhaaGreat
open Go.RowKit Go.Maps

theorem RowsAt.rowc {w : World} {tno : Option Addr} {n tc : Nat} {ll : List (List Int)} (h : RowsAt w (.slice tno n tc) ll) {k : Nat} (hk : k < ll.length) : ∃ b off u, tno = some ⟨b, off, none⟩ ∧ w.cell? ⟨b, off + k, none⟩ = some u ∧ CapOk u ∧ IntsAt w u (ll.getD k []) := by
 obtain ⟨ao, cap, e, -, h2⟩ := h
 simp only [Value.slice.injEq] at e
 obtain ⟨rfl, rfl, rfl⟩ := e
 obtain ⟨b, off, u, rfl, h3, h4, h5⟩ := h2 k hk
 exact ⟨b, off, u, rfl, h3, h4, h5⟩

namespace Plain
end Plain

end Go.Proofs.YtfgbkpbakignhaaGreat
