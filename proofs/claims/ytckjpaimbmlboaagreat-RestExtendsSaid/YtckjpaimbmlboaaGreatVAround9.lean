/- ref09.Around (its things), ref10.Vertex, ref10.Edge: contracts. Conditions: a drawing, a cycle that lie in memory and read so, of a bounded size. -/
import Derived.Test.YtckjpaimbmlboaaGreatVOr9
import Derived.Test.YtckjpaimbmlboaaGreatVRel
namespace Go.Proofs.YtckjpaimbmlboaaGreat
open Go.RowKit Go.Maps
namespace Plain
theorem left_marks {g : Gr} {p : Pt} {turn : List (List Int)} {W : List Face} (ll : List (List Int)) (hpe : p.err g = 0) (hW : WalksOk g p turn W) {f : Face} (hf : f ∈ W) {y : Int} (hy : y ∈ marks f) : (leftOf ll W y).isSome = true := by
 obtain ⟨i, hi, hfi⟩ := List.getElem_of_mem hf
 have hp8 := places8_getD hi
 rw [show W.getD i (0, []) = f by simp [List.getD, hi, hfi]] at hp8
 unfold leftOf
 rw [regionAt_hit (places_nodup hpe hW) (by rw [places8_len]; exact hi) (by rw [hp8]; exact hy)]
 rfl
theorem turn_none {g : Gr} {p : Pt} {turn : List (List Int)} (ht : TurnsOk g p turn) {v : Int} (h0 : 0 ≤ v) (hv : v < g.n) (h : dartsAt g p v = []) : turnAt turn v = [] := by
 cases e : turnAt turn v with
 | nil => rfl
 | cons d l =>
  have := (ht.mem v h0 hv d).1 (by rw [e]; simp)
  have := mem_dartsAt.2 this
  rw [h] at this
  cases this
theorem left_lone {g : Gr} {p : Pt} {turn same : List (List Int)} (hz : planErr g p turn same = 0) {v : Int} (hv : v ∈ p.v) (h : dartsAt g p v = []) : (leftOf (regionsOf g p turn same) (walksOf g p turn) (-1 - v)).isSome = true := by
 obtain ⟨hpe, hto⟩ := turnErr_zero (flatErr_zero (planErr_zero hz).1).1
 have hW := walks_ok hpe hto
 have hvr := (Pt.ok_of_err hpe).vr v hv
 obtain ⟨F, e, -⟩ := hW.split
 refine left_marks _ hpe hW (f := (-1 - v, [])) ?_ (by rw [marks_nil rfl]; simp)
 rw [e]
 refine List.mem_append.2 (Or.inl (List.mem_map.2 ⟨v, List.mem_filter.2 ⟨List.mem_reverse.2 hv, ?_⟩, rfl⟩))
 rw [turn_none hto hvr.1 hvr.2 h]; rfl
def aroundAt (g : Gr) (p : Pt) (L : Int → Option Int) (v r : Int) : Prop := (∃ d ∈ dartsAt g p v, r = lf L d) ∨ (dartsAt g p v = [] ∧ r = lf L (-1 - v))
end Plain
set_option maxRecDepth 100000 in
set_option maxHeartbeats 4000000 in
theorem refAround_any (vg vp vx : Value) (g : Plain.Gr) (p : Plain.Pt) (turn same : List (List Int)) (v : Int) (w : World) (hpl : p.e.length ≤ 1000) (hpv : p.v.length ≤ 1000) (hrl : ∀ v, (Plain.turnAt turn v).length < 4294967296) (hsl : same.length ≤ 10000) (hz : Plain.planErr g p turn same = 0) (hv : v ∈ p.v) (hg : GrAt w vg g) (hp : PtAt w vp p) (hx : PlAt w vx turn same) :
  Calls Tryz.prog 19 #[vg, vp, vx, .int .i64 v] w fun e w' => ∃ ov M, e = .returned ov ∧ RowAt w' w.heap.size ov M ∧ 0 < M.length ∧ (∀ r ∈ M, Plain.aroundAt g p (Plain.leftOf (Plain.regionsOf g p turn same) (Plain.walksOf g p turn)) v r) ∧ M.length ≤ 1000000 ∧ Chg [] w w' := by
 have HPZ := lh hz
 have HRL := lh hrl
 obtain ⟨hpe, hto⟩ := Plain.turnErr_zero (Plain.flatErr_zero (Plain.planErr_zero hz).1).1
 have HPE := lh hpe
 have hvr := (Plain.Pt.ok_of_err hpe).vr v hv
 have hgn := (Plain.Gr.err_ok (Plain.Pt.err_ok hpe).1).2.1
 have IV : I64 v := I64.mk (by omega) (by omega)
 have wv : IntKind.i64.wrap (-1 - v) = -1 - v := IntWalk.i64_in _ (by omega)
 have HLL := lh (fun h => Plain.left_lone (turn := turn) (same := same) hz hv h)
 have HLD := lh (fun d (hd : d ∈ Plain.dartsAt g p v) => Plain.left_dart (turn := turn) (same := same) hz (Plain.mem_dartsAt.1 hd).1)
 have HDN := lh (fun d (hd : d ∈ Plain.dartsAt g p v) => Plain.Pt.dart_nat hpe (Plain.mem_dartsAt.1 hd).1)
 have HDL := lh (show (Plain.dartsAt g p v).length ≤ 2000 from by
  have h1 := List.length_filter_le (fun d => decide (g.tail d = v)) p.darts
  have h2 := Plain.darts_length p
  unfold Plain.dartsAt
  omega)
 have HLW := lh (fun d => Plain.lf_low (W := Plain.walksOf g p turn) (Plain.regs_len hpl hpv hz) d)
 clear hz hrl hpe hto
 have HG := lh hg
 have HP := lh hp
 have HX := lh hx
 obtain ⟨eo, cap, rfl, hn, hm, hsm, hcell⟩ := hg
 obtain ⟨v1, v2, rfl, hv, he⟩ := hp
 obtain ⟨ao, ac, rfl, has, ham, hacell⟩ := hv
 obtain ⟨bo, bc, rfl, hbs, hbm, hbcell⟩ := he
 have HAC := lh hacell
 have HBC := lh hbcell
 obtain ⟨t1, t2, rfl, ht, hs⟩ := hx
 have HT := lh ht
 have HS := lh hs
 obtain ⟨tno, tc, rfl, htm, -⟩ := ht
 obtain ⟨so, sc, rfl, hsm2, hsc⟩ := hs
 obtain ⟨-, -, hc1⟩ := box_two w #[.int .i64 g.n, .slice eo g.e.length cap] #[.slice ao p.v.length ac, .slice bo p.e.length bc] 24 27
 obtain ⟨-, hc3⟩ := box_three w #[.int .i64 g.n, .slice eo g.e.length cap] #[.slice ao p.v.length ac, .slice bo p.e.length bc] #[.slice tno turn.length tc, .slice so same.length sc] 24 27 30
 have HC1 := lh (hc1.trans hc3 (by simp))
 have HBXS := lh (fun w2 h => three_boxes w (g := g) (p := p) (turn := turn) (same := same) (eo := eo) (ao := ao) (bo := bo) (tno := tno) (so := so) (cap := cap) (ac := ac) (bc := bc) (tc := tc) (sc := sc) (w2 := w2) h)
 clear hcell hacell hbcell hsm hbs has hn hc1 hc3 hsc
 obtain ⟨x0, x1, y0, y1, z0, z1, hsz⟩ := HBXS.out _ (Chg.refl _ _)
 go_enter Tryz.func19, Tryz.ntmps19
 go_wp2_with fail
 refine (refDarts_any _ _ g p v _ (by omega) HPE.out (HG.out.fresh HC1.out) (HP.out.fresh HC1.out)).mono ?_
 rintro e w2 ⟨dv, rfl, hdr, hc2⟩
 obtain ⟨w1, hw1⟩ : ∃ w1, (((w.alloc (.cells #[.int .i64 g.n, .slice eo g.e.length cap] 24)).alloc (.cells #[.slice ao p.v.length ac, .slice bo p.e.length bc] 27)).alloc (.cells #[.slice tno turn.length tc, .slice so same.length sc] 30)) = w1 := ⟨_, rfl⟩
 rw [hw1] at HC1 HBXS hc2 hdr
 clear hw1
 have HC2 := lh hc2
 have HW2 := lh (HC1.out.trans hc2 (by simp))
 have HBX := lh (fun wx (hx : Chg [] w2 wx) => HBXS.out wx (HC2.out.trans hx (by simp)))
 have HDR := lh hdr.ints
 obtain ⟨dO, dc, rfl⟩ := hdr.shape
 obtain ⟨L, hL⟩ : ∃ L, Plain.leftOf (Plain.regionsOf g p turn same) (Plain.walksOf g p turn) = L := ⟨_, rfl⟩
 have HLE := lh hL
 rw [hL] at HLW
 obtain ⟨D, hD⟩ : ∃ D, Plain.dartsAt g p v = D := ⟨_, rfl⟩
 have HDE := lh hD
 have hdl := HDL.out
 rw [hD] at HLL HLD HDN HDR hdl ⊢
 clear hc2 hdr hL hD
 by_cases h0 : D.length = 0
 ·have hD0 : D = [] := List.length_eq_zero_iff.1 h0
  subst hD0
  have HL0 := lh (HLL.out rfl)
  have hlb := HLW.out (-1 - v)
  obtain ⟨x0, x1, y0, y1, z0, z1, hsz⟩ := HBX.out _ (Chg.refl _ _)
  obtain ⟨r, hr⟩ : ∃ r, Plain.lf L (-1 - v) = r := ⟨_, rfl⟩
  rw [hr] at hlb
  have HRR := lh hr
  have IR : I64 r := I64.mk (by omega) (by omega)
  clear hr h0
  go_wp2_with fail
  refine (refLeft_any _ _ _ g p turn same (-1 - v) _ hpl hpv HRL.out hsl HPZ.out HL0.out (HG.out.fresh HW2.out) (HP.out.fresh HW2.out) (HX.out.fresh HW2.out)).mono ?_
  rintro e w3 ⟨rfl, hc3⟩
  rw [HLE.out, HRR.out]
  have HC3 := lh (HW2.out.trans hc3 (by simp))
  have HROW := lh (row_lit1 (w := w3) (B := w.heap.size) HC3.out.size IR)
  have HC4 := lh (HC3.out.alloc (.cells #[.int .i64 r] 3))
  clear x0 x1 y0 y1 z0 z1 hsz hc3
  go_wp2
  go_ret
  exact ⟨_, [r], rfl, HROW.out, by simp, by intro s hs; rw [List.mem_singleton.1 hs, HLE.out]; exact Or.inr ⟨HDE.out, HRR.out.symm⟩, by simp, HC4.out⟩
 have hlb : ((D.length : Int) == 0) = false := by rw [beq_eq_false_iff_ne]; omega
 go_wp2
 go_loopw [9, 11] (fun lv c wr => ∃ (i : Nat) (M : List Int), c = .int .i64 i ∧ i ≤ D.length ∧ M.length ≤ i ∧ RowAt wr w2.heap.size lv M ∧ Hid (∀ r ∈ M, ∃ d ∈ D, r = Plain.lf L d) ∧ Hid (0 < i → 0 < M.length) ∧ Chg [] w2 wr) (fun _ c _ => D.length - (intOf c).toNat)
 case atStart => exact ⟨0, [], rfl, Nat.zero_le _, Nat.le_refl _, rowNil' _ _, lh (by simp), lh (by omega), Chg.refl _ _⟩
 case round =>
  obtain ⟨i, M, rfl, hi, hml, hrow, HM, HP0, hc⟩ := hrel
  have HROW := lh hrow
  have HC := lh hc
  have HCW := lh (HW2.out.trans hc (by simp))
  obtain ⟨oo, oc, rfl⟩ := hrow.shape
  obtain ⟨x0, x1, y0, y1, z0, z1, hsz⟩ := HBX.out _ hc
  clear hrow
  by_cases hlt : i < D.length
  ·obtain ⟨rb, roff, rfl, rc⟩ := IntsAt.cellAt HDR.out hlt
   have rcell := hc.cell rc (by simp)
   have hdm := Plain.getD_mem hlt
   obtain ⟨d, hd⟩ : ∃ d, D.getD i 0 = d := ⟨_, rfl⟩
   rw [hd] at rcell hdm
   have HLDD := lh (HLD.out d hdm)
   have hlb2 := HLW.out d
   obtain ⟨r, hr⟩ : ∃ r, Plain.lf L d = r := ⟨_, rfl⟩
   rw [hr] at hlb2
   have HRR := lh hr
   have HDM := lh hdm
   have IR : I64 r := I64.mk (by omega) (by omega)
   clear rc hdm hd hr hc
   go_wp2
   have hS0 : Chg [] wr wr.drew := (Chg.refl [] wr).drew
   refine wp_region_way (Chg [] wr) [0, 1, 2, 3, 4, 5, 6, 7] (Way.line [0, 1, 2, 3, 4, 5, 6, 7, 8, 9, 10, 11] .done) (by kernel_rfl) (by kernel_rfl) ?_
   simp only [Way.line]
   repeat
    first
     | (refine along_off rfl (by rfl) (by rfl) (fun _ _ _ h => h) hS0 ?_; simp only [Act.put, Z1, Z2, Z3, Z4, Z5, Z6])
     | (refine along_read (v := ?_) rfl (by rfl) (by rfl) (fun _ _ _ h => h) hS0 (fun w' hS' => ?_) ?_; rotate_left; (focus (have rd0 := hS'.cell x0 (by simp); have rd1 := hS'.cell x1 (by simp); have rd2 := hS'.cell y0 (by simp); have rd3 := hS'.cell y1 (by simp); have rd4 := hS'.cell z0 (by simp); have rd5 := hS'.cell z1 (by simp); have rd6 := hS'.cell rcell (by simp); clear hS'; go_simp; try with_reducible rfl)); simp only [Act.put, Z1, Z2, Z3, Z4, Z5, Z6])
     | (refine along_skip rfl (by rfl) (by rfl) hS0 ?_; simp only [Act.put, Z1, Z2, Z3, Z4, Z5, Z6])
   refine along_op rfl (by rfl) (by rfl) (fun K hK => ?_)
   go_simp
   refine (refLeft_any _ _ _ g p turn same d _ hpl hpv HRL.out hsl HPZ.out HLDD.out (HG.out.fresh (HCW.out.trans hS0 (by simp))) (HP.out.fresh (HCW.out.trans hS0 (by simp))) (HX.out.fresh (HCW.out.trans hS0 (by simp)))).mono ?_
   rintro e w3 ⟨rfl, hcx⟩
   have hS1 := hS0.trans hcx (by simp)
   clear hS0 hcx
   have hS0 := hS1
   clear hS1
   refine hK.out _ _ (fun _ => hS0) ?_
   clear hK K
   try simp only [Act.put, Z1, Z2, Z3, Z4, Z5, Z6]
   rw [HLE.out, HRR.out]
   refine along_op rfl (by rfl) (by rfl) (fun K hK => ?_)
   go_simp
   have HI1 := lh (lit_ints w3 IR)
   have hS1 := hS0.alloc (.cells #[.int .i64 r] 3)
   refine hK.out _ _ (fun _ => hS1) ?_
   clear hK K hS0
   have hS0 := hS1
   clear hS1
   try simp only [Act.put, Z1, Z2, Z3, Z4, Z5, Z6]
   generalize (w3.alloc (.cells #[.int .i64 r] 3)) = w4 at *
   generalize w3.heap.size = lb at *
   have HR4 := lh (HROW.out.chg hS0 (by simp)).ints
   refine along_op rfl (by rfl) (by rfl) (fun K hK => ?_)
   go_simp
   refine (refOr_any _ _ M [r] _ (by omega) (by simp) HR4.out HI1.out).mono ?_
   rintro e w5 ⟨ov, M2, rfl, hr5, hm5, hn5, hl5, hcx⟩
   have HR5 := lh (hr5.base (B := w2.heap.size) (Nat.le_trans HC.out.size hS0.size))
   have HM5 := lh (show ∀ s ∈ M2, ∃ d ∈ D, s = Plain.lf L d from fun s hs => (hm5 s hs).elim (HM.out s) fun q => ⟨d, HDM.out, by rw [List.mem_singleton.1 q, HRR.out]⟩)
   have HP5 := lh (show 0 < i + 1 → 0 < M2.length from fun _ => List.length_pos_iff.2 (hn5 (by simp)))
   have hl6 : M2.length ≤ i + 1 := by simp at hl5; omega
   have hS1 := hS0.trans hcx (by simp)
   clear hS0 hcx hr5 hm5 hn5 hl5
   refine hK.out _ _ (fun _ => hS1) ?_
   clear hK K
   try simp only [Act.put, Z1, Z2, Z3, Z4, Z5, Z6]
   refine along_op rfl (by rfl) (by rfl) (fun K hK => ?_)
   go_simp
   refine hK.out _ _ (fun _ => hS1) ?_
   clear hK K
   try simp only [Act.put, Z1, Z2, Z3, Z4, Z5, Z6]
   refine along_done ?_
   have HC5 := lh (HC.out.trans hS1 (by simp))
   clear x0 x1 y0 y1 z0 z1 hsz rcell hS1
   go_wp2
   go_roundw
   case rel => exact ⟨i + 1, M2, by go_num, by omega, hl6, HR5.out, HM5, HP5, HC5.out⟩
   case measure => simp [intOf]; omega
  have e : i = D.length := by omega
  subst e
  have HLN := lh (HP0.out (by omega))
  have HB := lh (show w.heap.size ≤ w2.heap.size from HW2.out.size)
  clear x0 x1 y0 y1 z0 z1 hsz hc
  go_wp2
  go_ret
  exact ⟨_, M, rfl, HROW.out.base HB.out, HLN.out, fun r hr => by obtain ⟨d, hd, q⟩ := HM.out r hr; rw [HLE.out]; exact Or.inl ⟨d, by rw [HDE.out]; exact hd, q⟩, by omega, HCW.out⟩
end Go.Proofs.YtckjpaimbmlboaaGreat
