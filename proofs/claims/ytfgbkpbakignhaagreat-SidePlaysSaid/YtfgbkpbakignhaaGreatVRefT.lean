/- ref04: the contract of Darts. Conditions: a right part that lies in memory and reads so, of a bounded size. -/
import Derived.Test.YtfgbkpbakignhaaGreatVWake
import Derived.Test.YtfgbkpbakignhaaGreatVSetsC
import Derived.Test.YtfgbkpbakignhaaGreatVWhole
namespace Go.Proofs.YtfgbkpbakignhaaGreat
open Go.RowKit Go.Maps

set_option maxRecDepth 100000 in
set_option maxHeartbeats 4000000 in
theorem refDarts_any (vg vp : Value) (g : Plain.Gr) (p : Plain.Pt) (v : Int) (w : World) (hE : p.e.length ≤ 1000000) (hr : p.err g = 0) (hg : GrAt w vg g) (hp : PtAt w vp p) :
  Calls Tryz.prog 71 #[vg, vp, .int .i64 v] w fun e w' => ∃ ov, e = .returned ov ∧ RowAt w' w.heap.size ov (Plain.dartsAt g p v) ∧ Chg [] w w' := by
 have HRE := Lib.hid (Plain.Pt.err_ok hr).2.2.1
 have HGE := Lib.hid (Plain.Gr.err_ok (Plain.Pt.err_ok hr).1)
 have hdl := Plain.darts_length p
 have HDA := Lib.hid (Plain.dartsTo_all g p v)
 rw [hdl] at HDA
 have HDL := Lib.hid hdl
 have HD0 := Lib.hid (Plain.dartsTo_zero g p v)
 clear hdl
 have HG := Lib.hid hg
 have HP := Lib.hid hp
 obtain ⟨eo, cap, rfl, hn, hm, hsm, hcell⟩ := hg
 obtain ⟨v1, v2, rfl, hv, he⟩ := hp
 obtain ⟨ao, ac, rfl, has, ham, hacell⟩ := hv
 obtain ⟨bo, bc, rfl, hbs, hbm, hbcell⟩ := he
 have HAC := Lib.hid hacell
 have HBC := Lib.hid hbcell
 have HAS := Lib.hid has
 have HBS := Lib.hid hbs
 obtain ⟨-, -, hc1⟩ := box_two w #[.int .i64 g.n, .slice eo g.e.length cap] #[.slice ao p.v.length ac, .slice bo p.e.length bc] 24 27
 have HC1 := Lib.hid hc1
 have HBXS := Lib.hid (fun w2 h => two_boxes w (g := g) (p := p) (eo := eo) (ao := ao) (bo := bo) (cap := cap) (ac := ac) (bc := bc) (w2 := w2) h)
 clear hcell hacell hbcell hsm has hbs hn hc1
 obtain ⟨x0, x1, y0, y1, hsz⟩ := HBXS.out _ (Chg.refl _ _)
 clear hr
 go_enter Tryz.func71, Tryz.ntmps71
 go_wp2
 obtain ⟨w1, hw1⟩ : ∃ w1, ((w.alloc (.cells #[.int .i64 g.n, .slice eo g.e.length cap] 24)).alloc (.cells #[.slice ao p.v.length ac, .slice bo p.e.length bc] 27)) = w1 := ⟨_, rfl⟩
 rw [hw1] at HC1 HBXS ⊢
 clear hw1 x0 x1 y0 y1 hsz
 have HB1 := Lib.hid HC1.out.size
 go_loopw [7, 8] (fun ov c wr => ∃ k : Nat, k ≤ p.e.length ∧ c = .int .i64 k ∧ RowAt wr w1.heap.size ov (Plain.dartsTo g p v (2 * k)) ∧ Chg [] w1 wr) (fun _ c _ => p.e.length - (intOf c).toNat)
 case atStart => exact ⟨0, Nat.zero_le _, rfl, by rw [show 2 * 0 = 0 from rfl, HD0.out]; exact rowNil' _ _, Chg.refl _ _⟩
 case round =>
  obtain ⟨k, hk, rfl, hrow, hc⟩ := hrel
  have HROW := Lib.hid hrow
  have HC := Lib.hid hc
  obtain ⟨oo, oc, rfl⟩ := hrow.shape
  obtain ⟨x0, x1, y0, y1, hsz⟩ := HBXS.out wr hc
  by_cases hlt : k < p.e.length
  ·obtain ⟨bb, boff, rfl, hbc⟩ := HBC.out (by intro e; rw [e] at hlt; simp at hlt)
   have HCK := Lib.hid (HC1.out.cell (hbc k hlt) (by simp))
   have hre := Plain.rises_at HRE.out hlt
   obtain ⟨ei, hei⟩ : ∃ ei : Nat, p.e.getD k 0 = (ei : Int) := ⟨(p.e.getD k 0).toNat, by omega⟩
   have HNX := Lib.hid (fun s (hs : s < 2) => (show Plain.dartsTo g p v (2 * k + s + 1) = if g.tail ((2 * ei + s : Nat) : Int) = v then Plain.dartsTo g p v (2 * k + s) ++ [((2 * ei + s : Nat) : Int)] else Plain.dartsTo g p v (2 * k + s) by
    rw [Plain.dartsTo_next (by rw [HDL.out]; omega), Plain.darts_getD hlt s hs, hei]
    rw [show (2 * (ei : Int) + (s : Int)) = ((2 * ei + s : Nat) : Int) by omega]))
   rw [hei] at HCK hre
   have hei2 : ei < g.e.length := by omega
   have hglen : g.e.length < 4294967296 := by have := HGE.out.2.2.1; have := HGE.out.1; omega
   have hgl2 : g.e.length ≤ 1024 := by have := HGE.out.2.2.1; have := HGE.out.1; omega
   have w2e : IntKind.i64.wrap (2 * (ei : Int)) = 2 * (ei : Int) := IntWalk.i64_in _ (by omega)
   clear hbc hre hrow hc
   go_wp2
   go_loopw [7, 9] (fun ov c wi => ∃ s : Nat, s ≤ 2 ∧ c = .int .i64 s ∧ RowAt wi w1.heap.size ov (Plain.dartsTo g p v (2 * k + s)) ∧ Chg [] w1 wi) (fun _ c _ => 2 - (intOf c).toNat)
   case atStart => exact ⟨0, by omega, rfl, HROW.out, HC.out⟩
   case round =>
    rename World => wi
    obtain ⟨s, hs, rfl, hrow, hc⟩ := hrel
    have HROW := Lib.hid hrow
    have HC := Lib.hid hc
    obtain ⟨oo, oc, rfl⟩ := hrow.shape
    obtain ⟨x0, x1, y0, y1, hsz⟩ := HBXS.out wi hc
    have ck := hc.cell HCK.out (by simp)
    clear hrow hc
    by_cases hs2 : s < 2
    ·have HN := Lib.hid (HNX.out s hs2)
     have wad : IntKind.i64.wrap (2 * (ei : Int) + (s : Int)) = ((2 * ei + s : Nat) : Int) := by rw [IntWalk.i64_in _ (by omega)]; omega
     have hdlen := Plain.dartsTo_len g p v (2 * k + s)
     have HID := Lib.hid (show I64 ((2 * ei + s : Nat) : Int) from I64.mk (by omega) (by omega))
     obtain ⟨d, hd⟩ : ∃ d, 2 * ei + s = d := ⟨_, rfl⟩
     rw [hd] at HN wad HID
     have hd2 : d / 2 < g.e.length := by omega
     clear hd
     go_wp2
     have hS0 : Chg [] wi wi.drew := (Chg.refl [] wi).drew
     refine wp_region_way (Chg [] wi) [0, 1, 2, 3, 4, 5, 6, 7, 8, 10, 11] (Way.line [0, 1, 2, 3, 4, 5, 6, 7, 8, 10, 9, 11] .done) (by kernel_rfl) (by kernel_rfl) ?_
     simp only [Way.line]
     repeat
      first
       | (refine along_off rfl (by rfl) (by rfl) (fun _ _ _ h => h) hS0 ?_; simp only [Act.put, List.getElem_toArray, List.getElem_cons_zero, List.getElem_cons_succ, List.setIfInBounds_toArray, List.set_cons_zero, List.set_cons_succ])
       | (refine along_read (v := ?_) rfl (by rfl) (by rfl) (fun _ _ _ h => h) hS0 (fun w' hS' => ?_) ?_; rotate_left; (focus (have rd0 := hS'.cell x0 (by simp); have rd1 := hS'.cell x1 (by simp); have rd2 := hS'.cell y0 (by simp); have rd3 := hS'.cell y1 (by simp); have rd4 := hS'.cell ck (by simp); clear hS'; go_simp; try with_reducible rfl)); simp only [Act.put, List.getElem_toArray, List.getElem_cons_zero, List.getElem_cons_succ, List.setIfInBounds_toArray, List.set_cons_zero, List.set_cons_succ])
       | (refine along_skip rfl (by rfl) (by rfl) hS0 ?_; simp only [Act.put, List.getElem_toArray, List.getElem_cons_zero, List.getElem_cons_succ, List.setIfInBounds_toArray, List.set_cons_zero, List.set_cons_succ])
     refine along_op rfl (by rfl) (by rfl) (fun K hK => ?_)
     go_simp
     refine (tail_any _ g d _ hd2 hglen (HG.out.fresh (HC1.out.trans (HC.out.trans hS0 (by simp)) (by simp)))).mono ?_
     rintro e w3 ⟨rfl, hcx⟩
     have hS1 := hS0.trans hcx (by simp)
     clear hS0 hcx
     have hS0 := hS1
     clear hS1
     refine hK.out _ _ (fun _ => hS0) ?_
     clear hK K
     try simp only [Act.put, List.getElem_toArray, List.getElem_cons_zero, List.getElem_cons_succ, List.setIfInBounds_toArray, List.set_cons_zero, List.set_cons_succ]
     repeat
      first
       | (refine along_off rfl (by rfl) (by rfl) (fun _ _ _ h => h) hS0 ?_; simp only [Act.put, List.getElem_toArray, List.getElem_cons_zero, List.getElem_cons_succ, List.setIfInBounds_toArray, List.set_cons_zero, List.set_cons_succ])
       | (refine along_read (v := ?_) rfl (by rfl) (by rfl) (fun _ _ _ h => h) hS0 (fun w' hS' => ?_) ?_; rotate_left; (focus (have rd0 := hS'.cell x0 (by simp); have rd1 := hS'.cell x1 (by simp); have rd2 := hS'.cell y0 (by simp); have rd3 := hS'.cell y1 (by simp); have rd4 := hS'.cell ck (by simp); clear hS'; go_simp; try with_reducible rfl)); simp only [Act.put, List.getElem_toArray, List.getElem_cons_zero, List.getElem_cons_succ, List.setIfInBounds_toArray, List.set_cons_zero, List.set_cons_succ])
       | (refine along_skip rfl (by rfl) (by rfl) hS0 ?_; simp only [Act.put, List.getElem_toArray, List.getElem_cons_zero, List.getElem_cons_succ, List.setIfInBounds_toArray, List.set_cons_zero, List.set_cons_succ])
     refine along_done ?_
     have HC3 := Lib.hid (HC.out.trans hS0 (by simp))
     have HROW3 := Lib.hid (HROW.out.chg hS0 (by simp))
     clear x0 x1 y0 y1 hsz ck hS0
     obtain ⟨x0, x1, y0, y1, hsz⟩ := HBXS.out w3 HC3.out
     have ck := HC3.out.cell HCK.out (by simp)
     by_cases ht : g.tail (d : Int) = v
     ·have HE := Lib.hid (HN.out.trans (if_pos ht))
      have b1 : (g.tail (d : Int) == v) = true := by rw [beq_iff_eq]; exact ht
      have HB3 := Lib.hid (show w1.heap.size ≤ w3.heap.size from HC3.out.size)
      clear ht
      go_wp2_with (at_builtin; refine wl_push rfl _ _ rfl (B := w1.heap.size) (v := .slice oo _ oc) rfl rfl HROW3.out HID.out HB3.out (by omega) rfl ?_; intro v6 w6 r6 c6 f6; have R6 := Lib.hid r6; have C6 := Lib.hid c6; clear r6 c6 f6)
      go_roundw
      case rel => exact ⟨s + 1, by omega, by go_num, by rw [← Nat.add_assoc, HE.out]; exact R6.out, HC3.out.trans C6.out (fun j hj => Or.inr (by rw [HROW3.out.foot] at hj; exact (HROW3.out.low j hj).1))⟩
      case measure => simp [intOf]; omega
     ·have HE := Lib.hid (HN.out.trans (if_neg ht))
      have b1 : (g.tail (d : Int) == v) = false := by rw [beq_eq_false_iff_ne]; exact ht
      clear ht
      go_wp2
      go_roundw
      case rel => exact ⟨s + 1, by omega, by go_num, by rw [← Nat.add_assoc, HE.out]; exact HROW3.out, HC3.out⟩
      case measure => simp [intOf]; omega
    ·have e : s = 2 := by omega
     subst e
     clear ck
     go_wp2
     go_roundw
     case rel => exact ⟨k + 1, by omega, by go_num, HROW.out, HC.out⟩
     case measure => simp [intOf]; omega
  ·have e : k = p.e.length := by omega
   subst e
   have HR := Lib.hid (HROW.out.base HB1.out)
   rw [HDA.out] at HR ⊢
   have HCF := Lib.hid (HC1.out.trans HC.out (by simp))
   clear hrow hc x0 x1
   obtain ⟨rn, hrn⟩ : ∃ rn, (Plain.dartsAt g p v).length = rn := ⟨_, rfl⟩
   rw [hrn] at HR ⊢
   clear hrn
   go_wp2
   go_ret
   exact ⟨_, rfl, HR.out, HCF.out⟩
end Go.Proofs.YtfgbkpbakignhaaGreat
