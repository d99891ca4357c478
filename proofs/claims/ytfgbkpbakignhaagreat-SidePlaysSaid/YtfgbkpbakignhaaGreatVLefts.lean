/- ref10.Lefts: its contract: the regions that are held together with the one to the left of a cycle's first dart. Conditions: a drawing and a cycle that lie in memory and read so, of a bounded size. -/
import Derived.Test.YtfgbkpbakignhaaGreatVLeft9
import Derived.Test.YtfgbkpbakignhaaGreatVSmall10
import Derived.Test.YtfgbkpbakignhaaGreatVRefT
import Derived.Test.YtfgbkpbakignhaaGreatVAllS
namespace Go.Proofs.YtfgbkpbakignhaaGreat
open Go.RowKit Go.Maps

namespace Plain
def nearAt (L : Int → Option Int) (M : List Int) (j : Nat) (e : Int) : Prop := (lf L (2 * e) = M.getD j 0 → lf L (2 * e + 1) ∈ M) ∧ (lf L (2 * e + 1) = M.getD j 0 → lf L (2 * e) ∈ M)
structure LeftsAt (L : Int → Option Int) (p : Pt) (cy : List Int) (M : List Int) (i k : Nat) : Prop where
 head : sideHead L cy ∈ M
 nodup : M.Nodup
 low : ∀ r ∈ M, 0 ≤ r ∧ r ≤ 10000
 rel : ∀ r ∈ M, sideRel L p cy r (sideHead L cy)
 done : ∀ j, j < i → ∀ e ∈ p.e, e ∉ cy.map (· / 2) → nearAt L M j e
 now : ∀ q, q < k → p.e.getD q 0 ∉ cy.map (· / 2) → nearAt L M i (p.e.getD q 0)
theorem LeftsAt.start {L : Int → Option Int} {p : Pt} {cy : List Int} (h : 0 ≤ sideHead L cy ∧ sideHead L cy ≤ 10000) : LeftsAt L p cy [sideHead L cy] 0 0 :=
 ⟨by simp, by simp, by simpa using h, by intro r hr; rw [List.mem_singleton.1 hr]; exact St.rel_refl _ _, by omega, by omega⟩
theorem nearAt_push {L : Int → Option Int} {M : List Int} {j : Nat} {e : Int} (x : Int) (hj : j < M.length) (h : nearAt L M j e) : nearAt L (M ++ [x]) j e := by
 have g : (M ++ [x]).getD j 0 = M.getD j 0 := by simp [List.getD, List.getElem?_append_left hj]
 unfold nearAt at h ⊢
 rw [g]
 exact ⟨fun q => List.mem_append.2 (Or.inl (h.1 q)), fun q => List.mem_append.2 (Or.inl (h.2 q))⟩
theorem LeftsAt.push {L : Int → Option Int} {p : Pt} {cy M : List Int} {i k : Nat} {x : Int} (h : LeftsAt L p cy M i k) (hi : i < M.length) (hx : x ∉ M) (hl : 0 ≤ x ∧ x ≤ 10000) (hr : sideRel L p cy x (sideHead L cy)) : LeftsAt L p cy (M ++ [x]) i k := by
 refine ⟨List.mem_append.2 (Or.inl h.head), ?_, fun r hr' => ?_, fun r hr' => ?_, fun j hj e he hn => nearAt_push x (by omega) (h.done j hj e he hn), fun q hq hn => nearAt_push x hi (h.now q hq hn)⟩
 ·rw [List.nodup_append]
  exact ⟨h.nodup, by simp, fun a ha b hb e => by rw [List.mem_singleton.1 hb] at e; exact hx (e ▸ ha)⟩
 ·rcases List.mem_append.1 hr' with q | q
  ·exact h.low r q
  ·rw [List.mem_singleton.1 q]; exact hl
 ·rcases List.mem_append.1 hr' with q | q
  ·exact h.rel r q
  ·rw [List.mem_singleton.1 q]; exact hr
theorem LeftsAt.next {L : Int → Option Int} {p : Pt} {cy M : List Int} {i k : Nat} (h : LeftsAt L p cy M i k) (hn : p.e.getD k 0 ∉ cy.map (· / 2) → nearAt L M i (p.e.getD k 0)) : LeftsAt L p cy M i (k + 1) :=
 ⟨h.head, h.nodup, h.low, h.rel, h.done, fun q hq hc => by
  by_cases e : q = k
  ·rw [e] at hc ⊢; exact hn hc
  ·exact h.now q (by omega) hc⟩
theorem LeftsAt.row {L : Int → Option Int} {p : Pt} {cy M : List Int} {i : Nat} (h : LeftsAt L p cy M i p.e.length) : LeftsAt L p cy M (i + 1) 0 :=
 ⟨h.head, h.nodup, h.low, h.rel, fun j hj e he hn => by
  by_cases q : j = i
  ·obtain ⟨t, ht, rfl⟩ := mem_getD he
   rw [q]; exact h.now t ht hn
  ·exact h.done j (by omega) e he hn, by omega⟩
theorem LeftsAt.len {L : Int → Option Int} {p : Pt} {cy M : List Int} {i k : Nat} (h : LeftsAt L p cy M i k) : M.length ≤ 10001 := by
 have := len_le_of_sub h.nodup (m := upTo 10001) fun x hx => mem_upTo.2 (by have := h.low x hx; omega)
 rwa [show (upTo 10001).length = 10001 by unfold upTo; rw [List.length_map, List.length_range]] at this
theorem LeftsAt.all {L : Int → Option Int} {p : Pt} {cy M : List Int} (h : LeftsAt L p cy M M.length 0) (r : Int) : r ∈ M ↔ sideRel L p cy r (sideHead L cy) := by
 refine ⟨h.rel r, fun hr => ?_⟩
 have := sideRel_least (R := fun x y => x ∈ M ↔ y ∈ M) (fun _ => Iff.rfl) (fun _ _ h => h.symm) (fun _ _ _ a b => a.trans b) (fun e he hn => ⟨fun hm => by
  obtain ⟨j, hj, e1⟩ := mem_getD hm
  exact (h.done j hj e he hn).1 e1.symm, fun hm => by
  obtain ⟨j, hj, e1⟩ := mem_getD hm
  exact (h.done j hj e he hn).2 e1.symm⟩) hr
 exact this.2 h.head
theorem lf_low {ll : List (List Int)} {W : List Face} (h : ll.length ≤ 10000) (d : Int) : 0 ≤ lf (leftOf ll W) d ∧ lf (leftOf ll W) d ≤ 10000 := by
 unfold lf leftOf
 cases regionAt (places8 W) d with
 | none => simp
 | some k =>
  have := numOf_small ll (W.getD k (0, [])).1
  simp only [Option.map_some, Option.getD_some]
  omega
theorem regs_len {g : Gr} {p : Pt} {turn same : List (List Int)} (hpl : p.e.length ≤ 1000) (hpv : p.v.length ≤ 1000) (hz : planErr g p turn same = 0) : (regionsOf g p turn same).length ≤ 10000 := by
 obtain ⟨hpe, hto⟩ := turnErr_zero (flatErr_zero (planErr_zero hz).1).1
 have hW := walks_ok hpe hto
 rw [← (regs_ref (parted hz hW)).eq (parted hz hW)]
 have := regTo_len (walksOf g p turn) same (walksOf g p turn).length
 have := hW.len
 omega
theorem left_dart {g : Gr} {p : Pt} {turn same : List (List Int)} (hz : planErr g p turn same = 0) {d : Int} (hd : d ∈ p.darts) : (leftOf (regionsOf g p turn same) (walksOf g p turn) d).isSome = true := by
 obtain ⟨hpe, hto⟩ := turnErr_zero (flatErr_zero (planErr_zero hz).1).1
 exact (left_next _ hpe (walks_ok hpe hto) hd).2
end Plain

set_option maxRecDepth 100000 in
set_option maxHeartbeats 8000000 in
theorem refLefts_any (vg vp vx vc : Value) (g : Plain.Gr) (p : Plain.Pt) (turn same : List (List Int)) (cy : List Int) (w : World) (hpl : p.e.length ≤ 1000) (hpv : p.v.length ≤ 1000) (hrl : ∀ v, (Plain.turnAt turn v).length < 4294967296) (hsl : same.length ≤ 10000) (hz : Plain.planErr g p turn same = 0) (hcl : cy.length ≤ 1000000) (hcy : Plain.cycOk g p cy = true) (hg : GrAt w vg g) (hp : PtAt w vp p) (hx : PlAt w vx turn same) (hc : IntsAt w vc cy) :
  Calls Tryz.prog 38 #[vg, vp, vx, vc] w fun e w' => ∃ ov M, e = .returned ov ∧ RowAt w' w.heap.size ov M ∧ (∀ r, r ∈ M ↔ Plain.sideRel (Plain.leftOf (Plain.regionsOf g p turn same) (Plain.walksOf g p turn)) p cy r (Plain.sideHead (Plain.leftOf (Plain.regionsOf g p turn same) (Plain.walksOf g p turn)) cy)) ∧ M.length ≤ 10001 ∧ Chg [] w w' := by
 have HPZ := Lib.hid hz
 have HRL := Lib.hid hrl
 have HCC := Lib.hid hc
 obtain ⟨hpe, hcp, -, -⟩ := Plain.cyc_split hcy
 have HPE := Lib.hid hpe
 have HDM := Lib.hid (fun d (hd : d ∈ cy) => (show ∃ n : Nat, d = n ∧ n < 2048 from by
  obtain ⟨n, e1, -, e3⟩ := Plain.Pt.dart_nat hpe (Plain.cyc_mem hcy hd)
  exact ⟨n, e1, e3⟩))
 have HLD := Lib.hid (fun d (hd : d ∈ p.darts) => Plain.left_dart (same := same) (turn := turn) hz hd)
 have HCM := Lib.hid (fun d (hd : d ∈ cy) => Plain.cyc_mem hcy hd)
 have HLW := Lib.hid (fun d => Plain.lf_low (W := Plain.walksOf g p turn) (Plain.regs_len hpl hpv hz) d)
 obtain ⟨co, cc, rfl, -, -, -⟩ := hc
 clear hz hrl hpe hcy
 have HG := Lib.hid hg
 have HP := Lib.hid hp
 have HX := Lib.hid hx
 obtain ⟨eo, cap, rfl, hn, hm, hsm, hcell⟩ := hg
 obtain ⟨v1, v2, rfl, hv, he⟩ := hp
 obtain ⟨ao, ac, rfl, has, ham, hacell⟩ := hv
 obtain ⟨bo, bc, rfl, hbs, hbm, hbcell⟩ := he
 have HAC := Lib.hid hacell
 have HBC := Lib.hid hbcell
 obtain ⟨t1, t2, rfl, ht, hs⟩ := hx
 have HT := Lib.hid ht
 have HS := Lib.hid hs
 obtain ⟨tno, tc, rfl, htm, -⟩ := ht
 obtain ⟨so, sc, rfl, hsm2, hsc⟩ := hs
 obtain ⟨-, -, hc1⟩ := box_two w #[.int .i64 g.n, .slice eo g.e.length cap] #[.slice ao p.v.length ac, .slice bo p.e.length bc] 24 27
 obtain ⟨-, hc3⟩ := box_three w #[.int .i64 g.n, .slice eo g.e.length cap] #[.slice ao p.v.length ac, .slice bo p.e.length bc] #[.slice tno turn.length tc, .slice so same.length sc] 24 27 30
 have HC1 := Lib.hid (hc1.trans hc3 (by simp))
 have HBXS := Lib.hid (fun w2 h => three_boxes w (g := g) (p := p) (turn := turn) (same := same) (eo := eo) (ao := ao) (bo := bo) (tno := tno) (so := so) (cap := cap) (ac := ac) (bc := bc) (tc := tc) (sc := sc) (w2 := w2) h)
 clear hcell hacell hbcell hsm hbs has hn hc1 hc3 hsc
 have HPEI := Lib.hid (show IntsAt w (.slice bo p.e.length bc) p.e by obtain ⟨v1, v2, e, -, he⟩ := HP.out; cases e; exact he)
 obtain ⟨x0, x1, y0, y1, z0, z1, hsz⟩ := HBXS.out _ (Chg.refl _ _)
 obtain ⟨rb, roff, rfl, rc⟩ := IntsAt.cellAt HCC.out hcp
 have rcell := HC1.out.cell rc (by simp)
 rw [Nat.add_zero] at rcell
 obtain ⟨d0, hd0⟩ : ∃ d0, cy.getD 0 0 = d0 := ⟨_, rfl⟩
 have hdm := HCM.out _ (Plain.getD_mem hcp)
 rw [hd0] at rcell hdm
 have HLD0 := Lib.hid (HLD.out _ hdm)
 obtain ⟨L, hL⟩ : ∃ L, Plain.leftOf (Plain.regionsOf g p turn same) (Plain.walksOf g p turn) = L := ⟨_, rfl⟩
 have HLE := Lib.hid hL
 have HD0 := Lib.hid hd0
 have HHD := Lib.hid (show Plain.lf L d0 = Plain.sideHead L cy by unfold Plain.sideHead; rw [hd0])
 rw [hL] at HLW
 have hhl := HLW.out d0
 rw [HHD.out] at hhl
 obtain ⟨hd, hhd⟩ : ∃ hd, Plain.sideHead L cy = hd := ⟨_, rfl⟩
 have HHE := Lib.hid hhd
 rw [hhd] at hhl
 have IH : I64 hd := I64.mk (by omega) (by omega)
 clear rc hdm hd0 hL hhd
 go_enter Tryz.func38, Tryz.ntmps38
 go_wp2
 obtain ⟨w1, hw1⟩ : ∃ w1, (((w.alloc (.cells #[.int .i64 g.n, .slice eo g.e.length cap] 24)).alloc (.cells #[.slice ao p.v.length ac, .slice bo p.e.length bc] 27)).alloc (.cells #[.slice tno turn.length tc, .slice so same.length sc] 30)) = w1 := ⟨_, rfl⟩
 rw [hw1] at HC1 HBXS x0 x1 y0 y1 z0 z1 hsz rcell ⊢
 clear hw1
 have hS0 : Chg [] w1 w1.drew := (Chg.refl [] w1).drew
 refine wp_region_way (Chg [] w1) [0, 1, 2, 3, 4, 5] (Way.line [0, 1, 2, 3, 4, 5, 6, 7, 8] .done) (by kernel_rfl) (by kernel_rfl) ?_
 simp only [Way.line]
 repeat
  first
   | (refine along_off rfl (by rfl) (by rfl) (fun _ _ _ h => h) hS0 ?_; simp only [Act.put, List.getElem_toArray, List.getElem_cons_zero, List.getElem_cons_succ, List.setIfInBounds_toArray, List.set_cons_zero, List.set_cons_succ])
   | (refine along_read (v := ?_) rfl (by rfl) (by rfl) (fun _ _ _ h => h) hS0 (fun w' hS' => ?_) ?_; rotate_left; (focus (have rd0 := hS'.cell x0 (by simp); have rd1 := hS'.cell x1 (by simp); have rd2 := hS'.cell y0 (by simp); have rd3 := hS'.cell y1 (by simp); have rd4 := hS'.cell z0 (by simp); have rd5 := hS'.cell z1 (by simp); have rd6 := hS'.cell rcell (by simp); clear hS'; go_simp; try with_reducible rfl)); simp only [Act.put, List.getElem_toArray, List.getElem_cons_zero, List.getElem_cons_succ, List.setIfInBounds_toArray, List.set_cons_zero, List.set_cons_succ])
   | (refine along_skip rfl (by rfl) (by rfl) hS0 ?_; simp only [Act.put, List.getElem_toArray, List.getElem_cons_zero, List.getElem_cons_succ, List.setIfInBounds_toArray, List.set_cons_zero, List.set_cons_succ])
 refine along_op rfl (by rfl) (by rfl) (fun K hK => ?_)
 go_simp
 refine (refLeft_any _ _ _ g p turn same d0 _ hpl hpv HRL.out hsl HPZ.out HLD0.out (HG.out.fresh (HC1.out.trans hS0 (by simp))) (HP.out.fresh (HC1.out.trans hS0 (by simp))) (HX.out.fresh (HC1.out.trans hS0 (by simp)))).mono ?_
 rintro e w2 ⟨rfl, hcx⟩
 have hS1 := hS0.trans hcx (by simp)
 clear hS0 hcx
 have hS0 := hS1
 clear hS1
 refine hK.out _ _ (fun _ => hS0) ?_
 clear hK K
 try simp only [Act.put, List.getElem_toArray, List.getElem_cons_zero, List.getElem_cons_succ, List.setIfInBounds_toArray, List.set_cons_zero, List.set_cons_succ]
 rw [HLE.out, HHD.out, HHE.out]
 refine along_op rfl (by rfl) (by rfl) (fun K hK => ?_)
 go_simp
 have HROW0 := Lib.hid (row_lit1 (w := w2) (B := w1.heap.size) hS0.size IH)
 have hS1 := hS0.alloc (.cells #[.int .i64 hd] 3)
 refine hK.out _ _ (fun _ => hS1) ?_
 clear hK K hS0
 try simp only [Act.put, List.getElem_toArray, List.getElem_cons_zero, List.getElem_cons_succ, List.setIfInBounds_toArray, List.set_cons_zero, List.set_cons_succ]
 generalize (w2.alloc (.cells #[.int .i64 hd] 3)) = w3 at *
 generalize w2.heap.size = mb at *
 refine along_op rfl (by rfl) (by rfl) (fun K hK => ?_)
 go_simp
 refine hK.out _ _ (fun _ => hS1) ?_
 clear hK K
 try simp only [Act.put, List.getElem_toArray, List.getElem_cons_zero, List.getElem_cons_succ, List.setIfInBounds_toArray, List.set_cons_zero, List.set_cons_succ]
 refine along_done ?_
 have HS1 := Lib.hid hS1
 have HST := Lib.hid (show Plain.LeftsAt L p cy [hd] 0 0 by rw [← HHE.out]; exact Plain.LeftsAt.start (by rw [HHE.out]; exact hhl))
 clear x0 x1 y0 y1 z0 z1 hsz rcell hS1
 go_wp2
 go_loopw [9, 10] (fun lv c wr => ∃ (i : Nat) (M : List Int), c = .int .i64 i ∧ i ≤ M.length ∧ RowAt wr w1.heap.size lv M ∧ Hid (Plain.LeftsAt L p cy M i 0) ∧ Chg [] w1 wr) (fun _ c _ => 20000 - (intOf c).toNat)
 case atStart => exact ⟨0, [hd], rfl, Nat.zero_le _, HROW0.out, HST, HS1.out⟩
 case round =>
  obtain ⟨i, M, rfl, hi, hrow, HA, hc⟩ := hrel
  have HROW := Lib.hid hrow
  have HC := Lib.hid hc
  have hml := HA.out.len
  obtain ⟨oo, oc, rfl⟩ := hrow.shape
  clear hrow hc
  by_cases hlt : i < M.length
  ·go_wp2
   go_loopw [9, 11] (fun lv c wi => ∃ (k : Nat) (M : List Int), c = .int .i64 k ∧ k ≤ p.e.length ∧ i < M.length ∧ RowAt wi w1.heap.size lv M ∧ Hid (Plain.LeftsAt L p cy M i k) ∧ Chg [] w1 wi) (fun _ c _ => p.e.length - (intOf c).toNat)
   case atStart => exact ⟨0, M, rfl, Nat.zero_le _, hlt, HROW.out, HA, HC.out⟩
   case round =>
    rename World => wi
    clear HROW HC HA hml hlt hi
    obtain ⟨k, M, rfl, hk, hi, hrow, HA, hc⟩ := hrel
    have HROW := Lib.hid hrow
    have HC := Lib.hid hc
    have hml := HA.out.len
    have HWI := Lib.hid (HC1.out.trans hc (by simp))
    obtain ⟨oo, oc, rfl⟩ := hrow.shape
    obtain ⟨x0, x1, y0, y1, z0, z1, hsz⟩ := HBXS.out wi hc
    clear hrow hc
    by_cases hlt : k < p.e.length
    ·obtain ⟨eb, eoff, rfl, ec⟩ := IntsAt.cellAt HPEI.out hlt
     have ecell := HWI.out.cell ec (by simp)
     have hem := Plain.getD_mem hlt
     have her := Plain.Pt.edge_in HPE.out hem
     have hgl := (Plain.Gr.err_ok (Plain.Pt.err_ok HPE.out).1).2.2.1
     have hgn := (Plain.Gr.err_ok (Plain.Pt.err_ok HPE.out).1).1
     obtain ⟨n, hn⟩ : ∃ n : Nat, p.e.getD k 0 = (n : Int) := ⟨(p.e.getD k 0).toNat, by omega⟩
     have HKN := Lib.hid hn
     rw [hn] at ecell hem her
     have hn2 : n < 2048 := by omega
     have HRD0 := Lib.hid (HLD.out (2 * (n : Int)) (Plain.mem_darts.2 (by rw [show (2 * (n : Int)) / 2 = n by omega]; exact hem)))
     have HRD1 := Lib.hid (HLD.out (2 * (n : Int) + 1) (Plain.mem_darts.2 (by rw [show (2 * (n : Int) + 1) / 2 = n by omega]; exact hem)))
     have HEM := Lib.hid hem
     have w2n : IntKind.i64.wrap (2 * (n : Int)) = 2 * (n : Int) := IntWalk.i64_in _ (by omega)
     have w2n1 : IntKind.i64.wrap (2 * (n : Int) + 1) = 2 * (n : Int) + 1 := IntWalk.i64_in _ (by omega)
     clear ec hem her hn hgl hgn
     go_wp2_with fail
     refine (refOn_any _ cy n _ hcl HDM.out (HCC.out.fresh HWI.out)).mono ?_
     rintro e w4 ⟨rfl, hc4⟩
     have HC4 := Lib.hid (HC.out.trans hc4 (by simp))
     have HW4 := Lib.hid (HWI.out.trans hc4 (by simp))
     have HROW4 := Lib.hid (HROW.out.chg hc4 (by simp))
     have ecell := hc4.cell ecell (by simp)
     clear x0 x1 y0 y1 z0 z1 hsz hc4
     by_cases hon : (n : Int) ∈ cy.map (· / 2)
     ·have HAN := Lib.hid (HA.out.next (fun h => absurd (by rw [HKN.out]; exact hon) h))
      rw [decide_eq_true hon]
      clear hon ecell
      go_wp2
      go_roundw
      case rel => exact ⟨k + 1, M, by go_num, by omega, hi, HROW4.out, HAN, HC4.out⟩
      case measure => simp [intOf]; omega
     ·have HRE := Lib.hid (Plain.sideRel_edge (L := L) (cy := cy) HEM.out hon)
      rw [decide_eq_false hon]
      have HAN := Lib.hid (show ∀ M : List Int, Plain.LeftsAt L p cy M i k → Plain.nearAt L M i n → Plain.LeftsAt L p cy M i (k + 1) from fun M h h1 => h.next (fun _ => by rw [HKN.out]; exact h1))
      obtain ⟨x0, x1, y0, y1, z0, z1, hsz⟩ := HBXS.out w4 HC4.out
      have hla := HLW.out (2 * (n : Int))
      have hlb := HLW.out (2 * (n : Int) + 1)
      obtain ⟨a, ha⟩ : ∃ a, Plain.lf L (2 * (n : Int)) = a := ⟨_, rfl⟩
      obtain ⟨b, hb⟩ : ∃ b, Plain.lf L (2 * (n : Int) + 1) = b := ⟨_, rfl⟩
      rw [ha, hb] at HRE
      rw [ha] at hla
      rw [hb] at hlb
      have HAA := Lib.hid ha
      have HBB := Lib.hid hb
      have IA : I64 a := I64.mk (by omega) (by omega)
      have IB : I64 b := I64.mk (by omega) (by omega)
      have HNR := Lib.hid (fun (M : List Int) (m : Int) (hm : M.getD i 0 = m) (h1 : a = m → b ∈ M) (h2 : b = m → a ∈ M) => (show Plain.nearAt L M i n by unfold Plain.nearAt; rw [ha, hb, hm]; exact ⟨h1, h2⟩))
      have HMI := Lib.hid (Plain.getD_mem hi)
      obtain ⟨m, hm⟩ : ∃ m, M.getD i 0 = m := ⟨_, rfl⟩
      have HM := Lib.hid hm
      rw [hm] at HMI
      have HRA := Lib.hid (fun (h : a = m) => (show Plain.sideRel L p cy b (Plain.sideHead L cy) from St.rel_trans (St.rel_symm HRE.out) (HA.out.rel a (by rw [h]; exact HMI.out))))
      have HRB := Lib.hid (fun (h : b = m) => (show Plain.sideRel L p cy a (Plain.sideHead L cy) from St.rel_trans HRE.out (HA.out.rel b (by rw [h]; exact HMI.out))))
      clear hon ha hb hm
      go_wp2
      have hS0 : Chg [] w4 w4.drew := (Chg.refl [] w4).drew
      refine wp_region_way (Chg [] w4) [0, 1, 2, 3, 4, 5, 6, 7, 8, 10, 11, 12, 13, 14, 15, 16, 17, 18, 19, 21, 22] (Way.line [0, 1, 2, 3, 4, 5, 6, 7, 8, 10, 11, 12, 13, 14, 15, 16, 17, 18, 19, 9, 20, 21, 22] .done) (by kernel_rfl) (by kernel_rfl) ?_
      simp only [Way.line]
      repeat
       first
        | (refine along_off rfl (by rfl) (by rfl) (fun _ _ _ h => h) hS0 ?_; simp only [Act.put, List.getElem_toArray, List.getElem_cons_zero, List.getElem_cons_succ, List.setIfInBounds_toArray, List.set_cons_zero, List.set_cons_succ])
        | (refine along_read (v := ?_) rfl (by rfl) (by rfl) (fun _ _ _ h => h) hS0 (fun w' hS' => ?_) ?_; rotate_left; (focus (have rd0 := hS'.cell x0 (by simp); have rd1 := hS'.cell x1 (by simp); have rd2 := hS'.cell y0 (by simp); have rd3 := hS'.cell y1 (by simp); have rd4 := hS'.cell z0 (by simp); have rd5 := hS'.cell z1 (by simp); have rd6 := hS'.cell ecell (by simp); clear hS'; go_simp; try with_reducible rfl)); simp only [Act.put, List.getElem_toArray, List.getElem_cons_zero, List.getElem_cons_succ, List.setIfInBounds_toArray, List.set_cons_zero, List.set_cons_succ])
        | (refine along_skip rfl (by rfl) (by rfl) hS0 ?_; simp only [Act.put, List.getElem_toArray, List.getElem_cons_zero, List.getElem_cons_succ, List.setIfInBounds_toArray, List.set_cons_zero, List.set_cons_succ])
      refine along_op rfl (by rfl) (by rfl) (fun K hK => ?_)
      go_simp
      refine (refLeft_any _ _ _ g p turn same (2 * (n : Int)) _ hpl hpv HRL.out hsl HPZ.out HRD0.out (HG.out.fresh (HW4.out.trans hS0 (by simp))) (HP.out.fresh (HW4.out.trans hS0 (by simp))) (HX.out.fresh (HW4.out.trans hS0 (by simp)))).mono ?_
      rintro e w5 ⟨rfl, hcx⟩
      have hS1 := hS0.trans hcx (by simp)
      clear hS0 hcx
      have hS0 := hS1
      clear hS1
      refine hK.out _ _ (fun _ => hS0) ?_
      clear hK K
      try simp only [Act.put, List.getElem_toArray, List.getElem_cons_zero, List.getElem_cons_succ, List.setIfInBounds_toArray, List.set_cons_zero, List.set_cons_succ]
      rw [HLE.out, HAA.out]
      refine along_op rfl (by rfl) (by rfl) (fun K hK => ?_)
      go_simp
      refine (refLeft_any _ _ _ g p turn same (2 * (n : Int) + 1) _ hpl hpv HRL.out hsl HPZ.out HRD1.out (HG.out.fresh (HW4.out.trans hS0 (by simp))) (HP.out.fresh (HW4.out.trans hS0 (by simp))) (HX.out.fresh (HW4.out.trans hS0 (by simp)))).mono ?_
      rintro e w6 ⟨rfl, hcx⟩
      have hS1 := hS0.trans hcx (by simp)
      clear hS0 hcx
      have hS0 := hS1
      clear hS1
      refine hK.out _ _ (fun _ => hS0) ?_
      clear hK K
      try simp only [Act.put, List.getElem_toArray, List.getElem_cons_zero, List.getElem_cons_succ, List.setIfInBounds_toArray, List.set_cons_zero, List.set_cons_succ]
      rw [HLE.out, HBB.out]
      repeat
       first
        | (refine along_off rfl (by rfl) (by rfl) (fun _ _ _ h => h) hS0 ?_; simp only [Act.put, List.getElem_toArray, List.getElem_cons_zero, List.getElem_cons_succ, List.setIfInBounds_toArray, List.set_cons_zero, List.set_cons_succ])
        | (refine along_read (v := ?_) rfl (by rfl) (by rfl) (fun _ _ _ h => h) hS0 (fun w' hS' => ?_) ?_; rotate_left; (focus (have rd0 := hS'.cell x0 (by simp); clear hS'; go_simp; try with_reducible rfl)); simp only [Act.put, List.getElem_toArray, List.getElem_cons_zero, List.getElem_cons_succ, List.setIfInBounds_toArray, List.set_cons_zero, List.set_cons_succ])
        | (refine along_skip rfl (by rfl) (by rfl) hS0 ?_; simp only [Act.put, List.getElem_toArray, List.getElem_cons_zero, List.getElem_cons_succ, List.setIfInBounds_toArray, List.set_cons_zero, List.set_cons_succ])
      refine along_done ?_
      have HC6 := Lib.hid (HC4.out.trans hS0 (by simp))
      have HROW6 := Lib.hid (HROW4.out.chg hS0 (by simp))
      have HB6 := Lib.hid (show w1.heap.size ≤ w6.heap.size from HC6.out.size)
      clear x0 x1 y0 y1 z0 z1 hsz ecell hS0
      obtain ⟨mg, rfl, hmc⟩ := HROW6.out.some (by omega)
      have mcell := hmc i hi
      rw [HM.out] at mcell
      clear hmc
      by_cases q1 : a = m
      ·have b1 : (a == m) = true := by rw [beq_iff_eq]; exact q1
       go_wp2_with fail
       refine (in_any _ M b _ HROW6.out.ints).mono ?_
       rintro e w7 ⟨rfl, hc7⟩
       have HC7 := Lib.hid (HC6.out.trans hc7 (by simp))
       have HROW7 := Lib.hid (HROW6.out.chg hc7 (by simp))
       have mcell := hc7.cell mcell (by simp)
       have HB7 := Lib.hid (show w1.heap.size ≤ w7.heap.size from Nat.le_trans HB6.out hc7.size)
       clear hc7
       by_cases hin : b ∈ M
       ·rw [decide_eq_true hin]
        have HAE := Lib.hid (HAN.out _ HA.out (HNR.out M m HM.out (fun _ => hin) (fun _ => by rw [q1]; exact HMI.out)))
        clear hin
        by_cases q2 : b = m
        ·have b2 : (b == m) = true := by rw [beq_iff_eq]; exact q2
         have HAM := Lib.hid (show a ∈ M by rw [q1]; exact HMI.out)
         clear q1 q2
         go_wp2_with fail
         refine (in_any _ M a _ HROW7.out.ints).mono ?_
         rintro e w8 ⟨rfl, hc8⟩
         rw [decide_eq_true HAM.out]
         have HC8 := Lib.hid (HC7.out.trans hc8 (by simp))
         have HROW8 := Lib.hid (HROW7.out.chg hc8 (by simp))
         clear hc8 mcell
         go_wp2
         go_roundw
         case rel => exact ⟨k + 1, M, by go_num, by omega, hi, HROW8.out, HAE, HC8.out⟩
         case measure => simp [intOf]; omega
        ·have b2 : (b == m) = false := by rw [beq_eq_false_iff_ne]; exact q2
         clear q1 q2
         go_wp2
         go_roundw
         case rel => exact ⟨k + 1, M, by go_num, by omega, hi, HROW7.out, HAE, HC7.out⟩
         case measure => simp [intOf]; omega
       ·rw [decide_eq_false hin]
        have q2 : b ≠ m := fun h => hin (by rw [h]; exact HMI.out)
        have b2 : (b == m) = false := by rw [beq_eq_false_iff_ne]; exact q2
        obtain ⟨M2, hM2⟩ : ∃ M2, M ++ [b] = M2 := ⟨_, rfl⟩
        have HG2 := Lib.hid (show M2.getD i 0 = m by rw [← hM2, ← HM.out]; simp [List.getD, List.getElem?_append_left hi])
        have HL2 := Lib.hid (show M2.length = M.length + 1 by rw [← hM2]; simp)
        have HA2 := Lib.hid (show Plain.LeftsAt L p cy M2 i k by rw [← hM2]; exact HA.out.push hi hin hlb (HRA.out q1))
        have HAE := Lib.hid (HAN.out _ HA2.out (HNR.out M2 m HG2.out (fun _ => by rw [← hM2]; simp) (fun h => absurd h q2)))
        have HME := Lib.hid hM2
        clear hM2 q1 q2 hin
        go_wp2_with (at_builtin; refine wl_push rfl _ _ rfl (B := w1.heap.size) (v := .slice (some ⟨mg, 0, none⟩) _ oc) rfl rfl HROW7.out IB HB7.out (by omega) rfl ?_; intro v8 w8 r8 c8 f8; rw [HME.out] at r8; obtain ⟨o8, k8, e8⟩ := r8.shape; subst e8; have hl2 := HL2.out; obtain ⟨g8, e9, hc8⟩ := r8.some (Nat.lt_of_lt_of_eq (Nat.succ_pos _) hl2.symm); subst e9; have mcell2 := hc8 i (Nat.lt_of_lt_of_eq (Nat.lt_succ_of_lt hi) hl2.symm); rw [HG2.out] at mcell2; have R8 := Lib.hid r8; have C8 := Lib.hid c8; clear r8 c8 f8 hc8)
        go_roundw
        case rel => exact ⟨k + 1, M2, by go_num, by omega, by omega, by have h := R8.out; rw [HL2.out] at h; exact h, HAE, HC7.out.trans C8.out (fun j hj => Or.inr (by rw [HROW7.out.foot] at hj; exact (HROW7.out.low j hj).1))⟩
        case measure => simp [intOf]; omega
      ·have b1 : (a == m) = false := by rw [beq_eq_false_iff_ne]; exact q1
       by_cases q2 : b = m
       ·have b2 : (b == m) = true := by rw [beq_iff_eq]; exact q2
        go_wp2_with fail
        refine (in_any _ M a _ HROW6.out.ints).mono ?_
        rintro e w7 ⟨rfl, hc7⟩
        have HC7 := Lib.hid (HC6.out.trans hc7 (by simp))
        have HROW7 := Lib.hid (HROW6.out.chg hc7 (by simp))
        have HB7 := Lib.hid (show w1.heap.size ≤ w7.heap.size from Nat.le_trans HB6.out hc7.size)
        clear hc7 mcell
        by_cases hin : a ∈ M
        ·rw [decide_eq_true hin]
         have HAE := Lib.hid (HAN.out _ HA.out (HNR.out M m HM.out (fun h => absurd h q1) (fun _ => hin)))
         clear hin q1 q2
         go_wp2
         go_roundw
         case rel => exact ⟨k + 1, M, by go_num, by omega, hi, HROW7.out, HAE, HC7.out⟩
         case measure => simp [intOf]; omega
        ·rw [decide_eq_false hin]
         obtain ⟨M2, hM2⟩ : ∃ M2, M ++ [a] = M2 := ⟨_, rfl⟩
         have HG2 := Lib.hid (show M2.getD i 0 = m by rw [← hM2, ← HM.out]; simp [List.getD, List.getElem?_append_left hi])
         have HL2 := Lib.hid (show M2.length = M.length + 1 by rw [← hM2]; simp)
         have HA2 := Lib.hid (show Plain.LeftsAt L p cy M2 i k by rw [← hM2]; exact HA.out.push hi hin hla (HRB.out q2))
         have HAE := Lib.hid (HAN.out _ HA2.out (HNR.out M2 m HG2.out (fun h => absurd h q1) (fun _ => by rw [← hM2]; simp)))
         have HME := Lib.hid hM2
         clear hM2 q1 q2 hin
         go_wp2_with (at_builtin; refine wl_push rfl _ _ rfl (B := w1.heap.size) (v := .slice (some ⟨mg, 0, none⟩) _ oc) rfl rfl HROW7.out IA HB7.out (by omega) rfl ?_; intro v8 w8 r8 c8 f8; rw [HME.out] at r8; have R8 := Lib.hid r8; have C8 := Lib.hid c8; clear r8 c8 f8)
         go_roundw
         case rel => exact ⟨k + 1, M2, by go_num, by omega, by have := HL2.out; omega, R8.out, HAE, HC7.out.trans C8.out (fun j hj => Or.inr (by rw [HROW7.out.foot] at hj; exact (HROW7.out.low j hj).1))⟩
         case measure => simp [intOf]; omega
       ·have b2 : (b == m) = false := by rw [beq_eq_false_iff_ne]; exact q2
        have HAE := Lib.hid (HAN.out _ HA.out (HNR.out M m HM.out (fun h => absurd h q1) (fun h => absurd h q2)))
        clear q1 q2
        go_wp2
        go_roundw
        case rel => exact ⟨k + 1, M, by go_num, by omega, hi, HROW6.out, HAE, HC6.out⟩
        case measure => simp [intOf]; omega
    ·have e : k = p.e.length := by omega
     subst e
     have HAR := Lib.hid HA.out.row
     clear x0 x1 y0 z0 z1 hsz
     go_wp2
     go_roundw
     case rel => exact ⟨i + 1, M, by go_num, by omega, HROW.out, HAR, HC.out⟩
     case measure => simp [intOf]; omega
  ·have e : i = M.length := by omega
   subst e
   have HALL := Lib.hid HA.out.all
   have HCF := Lib.hid (HC1.out.trans HC.out (by simp))
   go_wp2
   go_ret
   exact ⟨_, M, rfl, HROW.out.base HC1.out.size, by rw [HLE.out]; exact HALL.out, hml, HCF.out⟩
end Go.Proofs.YtfgbkpbakignhaaGreat
/- ref09.Around (its things), ref10.Vertex, ref10.Edge: contracts. Conditions: a drawing, a cycle that lie in memory and read so, of a bounded size. -/
namespace Go.Proofs.YtfgbkpbakignhaaGreat
open Go.RowKit Go.Maps

namespace Plain
theorem left_marks {g : Gr} {p : Pt} {turn : List (List Int)} {W : List Face} (ll : List (List Int)) (hpe : p.err g = 0) (hW : WalksOk g p turn W) {f : Face} (hf : f ∈ W) {y : Int} (hy : y ∈ marks f) : (leftOf ll W y).isSome = true := by
 obtain ⟨i, hi, hfi⟩ := List.getElem_of_mem hf
 have hp8 := places8_getD hi
 rw [show W.getD i (0, []) = f by simp [List.getD, hi, hfi]] at hp8
 unfold leftOf
 rw [regionAt_hit (places_nodup hpe hW) (by rw [places8_len]; exact hi) (by rw [hp8]; exact hy)]
 rfl
theorem turn_none {g : Gr} {p : Pt} {turn : List (List Int)} (ht : TurnsOk g p turn) {v : Int} (h0 : 0 ≤ v) (hv : v < g.n) (h : dartsAt g p v = []) : turnAt turn v = [] := by
 cases e : turnAt turn v with
 | nil => rfl
 | cons d l =>
  have := (ht.mem v h0 hv d).1 (by rw [e]; simp)
  have := mem_dartsAt.2 this
  rw [h] at this
  cases this
theorem left_lone {g : Gr} {p : Pt} {turn same : List (List Int)} (hz : planErr g p turn same = 0) {v : Int} (hv : v ∈ p.v) (h : dartsAt g p v = []) : (leftOf (regionsOf g p turn same) (walksOf g p turn) (-1 - v)).isSome = true := by
 obtain ⟨hpe, hto⟩ := turnErr_zero (flatErr_zero (planErr_zero hz).1).1
 have hW := walks_ok hpe hto
 have hvr := (Pt.ok_of_err hpe).vr v hv
 obtain ⟨F, e, -⟩ := hW.split
 refine left_marks _ hpe hW (f := (-1 - v, [])) ?_ (by rw [marks_nil rfl]; simp)
 rw [e]
 refine List.mem_append.2 (Or.inl (List.mem_map.2 ⟨v, List.mem_filter.2 ⟨List.mem_reverse.2 hv, ?_⟩, rfl⟩))
 rw [turn_none hto hvr.1 hvr.2 h]; rfl
def aroundAt (g : Gr) (p : Pt) (L : Int → Option Int) (v r : Int) : Prop := (∃ d ∈ dartsAt g p v, r = lf L d) ∨ (dartsAt g p v = [] ∧ r = lf L (-1 - v))
theorem sideOf_no {L : Int → Option Int} {p : Pt} {cy : List Int} {y : Int} (h : (L y).isSome = true) : (sideOf L p cy y).getD 0 = sideNo L p cy (lf L y) := by
 unfold sideOf lf
 cases e : L y with
 | none => rw [e] at h; cases h
 | some v => rfl
theorem vert_on {g : Gr} {p : Pt} {turn same : List (List Int)} {cy : List Int} {v : Int} (h : v ∈ cy.map g.tail) : vertV g p turn same cy v = 0 := by
 unfold vertV
 split
 ·unfold allV von
  rw [List.take_length, if_pos h]; rfl
 ·rfl
theorem vert_side {g : Gr} {p : Pt} {turn same : List (List Int)} {cy : List Int} (h : sideIs g p turn same cy = true) {v r : Int} (hv : v ∈ p.v) (hn : v ∉ cy.map g.tail) (hr : aroundAt g p (leftOf (regionsOf g p turn same) (walksOf g p turn)) v r) : vertV g p turn same cy v = sideNo (leftOf (regionsOf g p turn same) (walksOf g p turn)) p cy r := by
 obtain ⟨hc, hz⟩ := Bool.and_eq_true_iff.1 h
 have hz := of_decide_eq_true hz
 obtain ⟨hpe, ht⟩ := turnErr_zero (flatErr_zero (planErr_zero hz).1).1
 have hvr := (Pt.ok_of_err hpe).vr v hv
 have hW := walks_ok hpe ht
 unfold vertV allV von vside
 rw [if_pos h, List.take_length, if_neg hn, List.take_length, if_pos hv]
 simp only [Option.getD_some]
 unfold sideAt
 rcases hr with ⟨d, hd, rfl⟩ | ⟨hd, rfl⟩
 ·obtain ⟨hd1, hd2⟩ := mem_dartsAt.1 hd
  rw [side_around hpe ht hW hvr.1 hvr.2 (fun x _ e q => hn (by rw [← e]; exact cyc_ends hc q)) hd1 hd2]
  exact sideOf_no (left_dart hz hd1)
 ·have he : seat turn v = -1 - v := by
   unfold seat
   rw [turn_none ht hvr.1 hvr.2 hd, if_neg (by simp)]
  rw [he]
  exact sideOf_no (left_lone hz hv hd)
theorem edge_on {g : Gr} {p : Pt} {turn same : List (List Int)} {cy : List Int} {e : Int} (h : e ∈ cy.map (· / 2)) : edgeV g p turn same cy e = 0 := by
 unfold edgeV
 split
 ·unfold allE eon
  rw [List.take_length, if_pos h]; rfl
 ·rfl
theorem edge_side {g : Gr} {p : Pt} {turn same : List (List Int)} {cy : List Int} (h : sideIs g p turn same cy = true) {e : Int} (he : e ∈ p.e) (hn : e ∉ cy.map (· / 2)) : edgeV g p turn same cy e = sideNo (leftOf (regionsOf g p turn same) (walksOf g p turn)) p cy (lf (leftOf (regionsOf g p turn same) (walksOf g p turn)) (2 * e)) := by
 have hz := of_decide_eq_true (Bool.and_eq_true_iff.1 h).2
 unfold edgeV allE eon eside
 rw [if_pos h, List.take_length, if_neg hn, List.take_length, if_pos he]
 simp only [Option.getD_some]
 unfold sideAt
 exact sideOf_no (left_dart hz (mem_darts.2 (by rw [show (2 * e) / 2 = e by omega]; exact he)))
theorem sideNo_in {L : Int → Option Int} {p : Pt} {cy : List Int} {r : Int} (h : sideRel L p cy r (sideHead L cy)) : sideNo L p cy r = 1 := if_pos ((sideNo_iff L p cy r).2 h)
theorem sideNo_out {L : Int → Option Int} {p : Pt} {cy : List Int} {r : Int} (h : ¬ sideRel L p cy r (sideHead L cy)) : sideNo L p cy r = 2 := if_neg fun q => h ((sideNo_iff L p cy r).1 q)
end Plain

set_option maxRecDepth 100000 in
set_option maxHeartbeats 4000000 in
theorem refAround_any (vg vp vx : Value) (g : Plain.Gr) (p : Plain.Pt) (turn same : List (List Int)) (v : Int) (w : World) (hpl : p.e.length ≤ 1000) (hpv : p.v.length ≤ 1000) (hrl : ∀ v, (Plain.turnAt turn v).length < 4294967296) (hsl : same.length ≤ 10000) (hz : Plain.planErr g p turn same = 0) (hv : v ∈ p.v) (hg : GrAt w vg g) (hp : PtAt w vp p) (hx : PlAt w vx turn same) :
  Calls Tryz.prog 39 #[vg, vp, vx, .int .i64 v] w fun e w' => ∃ ov M, e = .returned ov ∧ RowAt w' w.heap.size ov M ∧ 0 < M.length ∧ (∀ r ∈ M, Plain.aroundAt g p (Plain.leftOf (Plain.regionsOf g p turn same) (Plain.walksOf g p turn)) v r) ∧ M.length ≤ 1000000 ∧ Chg [] w w' := by
 have HPZ := Lib.hid hz
 have HRL := Lib.hid hrl
 obtain ⟨hpe, hto⟩ := Plain.turnErr_zero (Plain.flatErr_zero (Plain.planErr_zero hz).1).1
 have HPE := Lib.hid hpe
 have hvr := (Plain.Pt.ok_of_err hpe).vr v hv
 have hgn := (Plain.Gr.err_ok (Plain.Pt.err_ok hpe).1).2.1
 have IV : I64 v := I64.mk (by omega) (by omega)
 have wv : IntKind.i64.wrap (-1 - v) = -1 - v := IntWalk.i64_in _ (by omega)
 have HLL := Lib.hid (fun h => Plain.left_lone (turn := turn) (same := same) hz hv h)
 have HLD := Lib.hid (fun d (hd : d ∈ Plain.dartsAt g p v) => Plain.left_dart (turn := turn) (same := same) hz (Plain.mem_dartsAt.1 hd).1)
 have HDN := Lib.hid (fun d (hd : d ∈ Plain.dartsAt g p v) => Plain.Pt.dart_nat hpe (Plain.mem_dartsAt.1 hd).1)
 have HDL := Lib.hid (show (Plain.dartsAt g p v).length ≤ 2000 from by
  have h1 := List.length_filter_le (fun d => decide (g.tail d = v)) p.darts
  have h2 := Plain.darts_length p
  unfold Plain.dartsAt
  omega)
 have HLW := Lib.hid (fun d => Plain.lf_low (W := Plain.walksOf g p turn) (Plain.regs_len hpl hpv hz) d)
 clear hz hrl hpe hto
 have HG := Lib.hid hg
 have HP := Lib.hid hp
 have HX := Lib.hid hx
 obtain ⟨eo, cap, rfl, hn, hm, hsm, hcell⟩ := hg
 obtain ⟨v1, v2, rfl, hv, he⟩ := hp
 obtain ⟨ao, ac, rfl, has, ham, hacell⟩ := hv
 obtain ⟨bo, bc, rfl, hbs, hbm, hbcell⟩ := he
 have HAC := Lib.hid hacell
 have HBC := Lib.hid hbcell
 obtain ⟨t1, t2, rfl, ht, hs⟩ := hx
 have HT := Lib.hid ht
 have HS := Lib.hid hs
 obtain ⟨tno, tc, rfl, htm, -⟩ := ht
 obtain ⟨so, sc, rfl, hsm2, hsc⟩ := hs
 obtain ⟨-, -, hc1⟩ := box_two w #[.int .i64 g.n, .slice eo g.e.length cap] #[.slice ao p.v.length ac, .slice bo p.e.length bc] 24 27
 obtain ⟨-, hc3⟩ := box_three w #[.int .i64 g.n, .slice eo g.e.length cap] #[.slice ao p.v.length ac, .slice bo p.e.length bc] #[.slice tno turn.length tc, .slice so same.length sc] 24 27 30
 have HC1 := Lib.hid (hc1.trans hc3 (by simp))
 have HBXS := Lib.hid (fun w2 h => three_boxes w (g := g) (p := p) (turn := turn) (same := same) (eo := eo) (ao := ao) (bo := bo) (tno := tno) (so := so) (cap := cap) (ac := ac) (bc := bc) (tc := tc) (sc := sc) (w2 := w2) h)
 clear hcell hacell hbcell hsm hbs has hn hc1 hc3 hsc
 obtain ⟨x0, x1, y0, y1, z0, z1, hsz⟩ := HBXS.out _ (Chg.refl _ _)
 go_enter Tryz.func39, Tryz.ntmps39
 go_wp2_with fail
 refine (refDarts_any _ _ g p v _ (by omega) HPE.out (HG.out.fresh HC1.out) (HP.out.fresh HC1.out)).mono ?_
 rintro e w2 ⟨dv, rfl, hdr, hc2⟩
 obtain ⟨w1, hw1⟩ : ∃ w1, (((w.alloc (.cells #[.int .i64 g.n, .slice eo g.e.length cap] 24)).alloc (.cells #[.slice ao p.v.length ac, .slice bo p.e.length bc] 27)).alloc (.cells #[.slice tno turn.length tc, .slice so same.length sc] 30)) = w1 := ⟨_, rfl⟩
 rw [hw1] at HC1 HBXS hc2 hdr
 clear hw1
 have HC2 := Lib.hid hc2
 have HW2 := Lib.hid (HC1.out.trans hc2 (by simp))
 have HBX := Lib.hid (fun wx (hx : Chg [] w2 wx) => HBXS.out wx (HC2.out.trans hx (by simp)))
 have HDR := Lib.hid hdr.ints
 obtain ⟨dO, dc, rfl⟩ := hdr.shape
 obtain ⟨L, hL⟩ : ∃ L, Plain.leftOf (Plain.regionsOf g p turn same) (Plain.walksOf g p turn) = L := ⟨_, rfl⟩
 have HLE := Lib.hid hL
 rw [hL] at HLW
 obtain ⟨D, hD⟩ : ∃ D, Plain.dartsAt g p v = D := ⟨_, rfl⟩
 have HDE := Lib.hid hD
 have hdl := HDL.out
 rw [hD] at HLL HLD HDN HDR hdl ⊢
 clear hc2 hdr hL hD
 by_cases h0 : D.length = 0
 ·have hD0 : D = [] := List.length_eq_zero_iff.1 h0
  subst hD0
  have HL0 := Lib.hid (HLL.out rfl)
  have hlb := HLW.out (-1 - v)
  obtain ⟨x0, x1, y0, y1, z0, z1, hsz⟩ := HBX.out _ (Chg.refl _ _)
  obtain ⟨r, hr⟩ : ∃ r, Plain.lf L (-1 - v) = r := ⟨_, rfl⟩
  rw [hr] at hlb
  have HRR := Lib.hid hr
  have IR : I64 r := I64.mk (by omega) (by omega)
  clear hr h0
  go_wp2_with fail
  refine (refLeft_any _ _ _ g p turn same (-1 - v) _ hpl hpv HRL.out hsl HPZ.out HL0.out (HG.out.fresh HW2.out) (HP.out.fresh HW2.out) (HX.out.fresh HW2.out)).mono ?_
  rintro e w3 ⟨rfl, hc3⟩
  rw [HLE.out, HRR.out]
  have HC3 := Lib.hid (HW2.out.trans hc3 (by simp))
  have HROW := Lib.hid (row_lit1 (w := w3) (B := w.heap.size) HC3.out.size IR)
  have HC4 := Lib.hid (HC3.out.alloc (.cells #[.int .i64 r] 3))
  clear x0 x1 y0 y1 z0 z1 hsz hc3
  go_wp2
  go_ret
  exact ⟨_, [r], rfl, HROW.out, by simp, by intro s hs; rw [List.mem_singleton.1 hs, HLE.out]; exact Or.inr ⟨HDE.out, HRR.out.symm⟩, by simp, HC4.out⟩
 ·have hlb : ((D.length : Int) == 0) = false := by rw [beq_eq_false_iff_ne]; omega
  go_wp2
  go_loopw [9, 11] (fun lv c wr => ∃ (i : Nat) (M : List Int), c = .int .i64 i ∧ i ≤ D.length ∧ M.length ≤ i ∧ RowAt wr w2.heap.size lv M ∧ Hid (∀ r ∈ M, ∃ d ∈ D, r = Plain.lf L d) ∧ Hid (0 < i → 0 < M.length) ∧ Chg [] w2 wr) (fun _ c _ => D.length - (intOf c).toNat)
  case atStart => exact ⟨0, [], rfl, Nat.zero_le _, Nat.le_refl _, rowNil' _ _, Lib.hid (by simp), Lib.hid (by omega), Chg.refl _ _⟩
  case round =>
   obtain ⟨i, M, rfl, hi, hml, hrow, HM, HP0, hc⟩ := hrel
   have HROW := Lib.hid hrow
   have HC := Lib.hid hc
   have HCW := Lib.hid (HW2.out.trans hc (by simp))
   obtain ⟨oo, oc, rfl⟩ := hrow.shape
   obtain ⟨x0, x1, y0, y1, z0, z1, hsz⟩ := HBX.out _ hc
   clear hrow
   by_cases hlt : i < D.length
   ·obtain ⟨rb, roff, rfl, rc⟩ := IntsAt.cellAt HDR.out hlt
    have rcell := hc.cell rc (by simp)
    have hdm := Plain.getD_mem hlt
    obtain ⟨d, hd⟩ : ∃ d, D.getD i 0 = d := ⟨_, rfl⟩
    rw [hd] at rcell hdm
    have HLDD := Lib.hid (HLD.out d hdm)
    have hlb2 := HLW.out d
    obtain ⟨r, hr⟩ : ∃ r, Plain.lf L d = r := ⟨_, rfl⟩
    rw [hr] at hlb2
    have HRR := Lib.hid hr
    have HDM := Lib.hid hdm
    have IR : I64 r := I64.mk (by omega) (by omega)
    clear rc hdm hd hr hc
    go_wp2
    have hS0 : Chg [] wr wr.drew := (Chg.refl [] wr).drew
    refine wp_region_way (Chg [] wr) [0, 1, 2, 3, 4, 5, 6, 7] (Way.line [0, 1, 2, 3, 4, 5, 6, 7, 8, 9, 10, 11] .done) (by kernel_rfl) (by kernel_rfl) ?_
    simp only [Way.line]
    repeat
     first
      | (refine along_off rfl (by rfl) (by rfl) (fun _ _ _ h => h) hS0 ?_; simp only [Act.put, List.getElem_toArray, List.getElem_cons_zero, List.getElem_cons_succ, List.setIfInBounds_toArray, List.set_cons_zero, List.set_cons_succ])
      | (refine along_read (v := ?_) rfl (by rfl) (by rfl) (fun _ _ _ h => h) hS0 (fun w' hS' => ?_) ?_; rotate_left; (focus (have rd0 := hS'.cell x0 (by simp); have rd1 := hS'.cell x1 (by simp); have rd2 := hS'.cell y0 (by simp); have rd3 := hS'.cell y1 (by simp); have rd4 := hS'.cell z0 (by simp); have rd5 := hS'.cell z1 (by simp); have rd6 := hS'.cell rcell (by simp); clear hS'; go_simp; try with_reducible rfl)); simp only [Act.put, List.getElem_toArray, List.getElem_cons_zero, List.getElem_cons_succ, List.setIfInBounds_toArray, List.set_cons_zero, List.set_cons_succ])
      | (refine along_skip rfl (by rfl) (by rfl) hS0 ?_; simp only [Act.put, List.getElem_toArray, List.getElem_cons_zero, List.getElem_cons_succ, List.setIfInBounds_toArray, List.set_cons_zero, List.set_cons_succ])
    refine along_op rfl (by rfl) (by rfl) (fun K hK => ?_)
    go_simp
    refine (refLeft_any _ _ _ g p turn same d _ hpl hpv HRL.out hsl HPZ.out HLDD.out (HG.out.fresh (HCW.out.trans hS0 (by simp))) (HP.out.fresh (HCW.out.trans hS0 (by simp))) (HX.out.fresh (HCW.out.trans hS0 (by simp)))).mono ?_
    rintro e w3 ⟨rfl, hcx⟩
    have hS1 := hS0.trans hcx (by simp)
    clear hS0 hcx
    have hS0 := hS1
    clear hS1
    refine hK.out _ _ (fun _ => hS0) ?_
    clear hK K
    try simp only [Act.put, List.getElem_toArray, List.getElem_cons_zero, List.getElem_cons_succ, List.setIfInBounds_toArray, List.set_cons_zero, List.set_cons_succ]
    rw [HLE.out, HRR.out]
    refine along_op rfl (by rfl) (by rfl) (fun K hK => ?_)
    go_simp
    have HI1 := Lib.hid (lit_ints w3 IR)
    have hS1 := hS0.alloc (.cells #[.int .i64 r] 3)
    refine hK.out _ _ (fun _ => hS1) ?_
    clear hK K hS0
    have hS0 := hS1
    clear hS1
    try simp only [Act.put, List.getElem_toArray, List.getElem_cons_zero, List.getElem_cons_succ, List.setIfInBounds_toArray, List.set_cons_zero, List.set_cons_succ]
    generalize (w3.alloc (.cells #[.int .i64 r] 3)) = w4 at *
    generalize w3.heap.size = lb at *
    have HR4 := Lib.hid (HROW.out.chg hS0 (by simp)).ints
    refine along_op rfl (by rfl) (by rfl) (fun K hK => ?_)
    go_simp
    refine (refOr_any _ _ M [r] _ (by omega) (by simp) HR4.out HI1.out).mono ?_
    rintro e w5 ⟨ov, M2, rfl, hr5, hm5, hn5, hl5, hcx⟩
    have HR5 := Lib.hid (hr5.base (B := w2.heap.size) (Nat.le_trans HC.out.size hS0.size))
    have HM5 := Lib.hid (show ∀ s ∈ M2, ∃ d ∈ D, s = Plain.lf L d from fun s hs => (hm5 s hs).elim (HM.out s) fun q => ⟨d, HDM.out, by rw [List.mem_singleton.1 q, HRR.out]⟩)
    have HP5 := Lib.hid (show 0 < i + 1 → 0 < M2.length from fun _ => List.length_pos_iff.2 (hn5 (by simp)))
    have hl6 : M2.length ≤ i + 1 := by simp at hl5; omega
    have hS1 := hS0.trans hcx (by simp)
    clear hS0 hcx hr5 hm5 hn5 hl5
    refine hK.out _ _ (fun _ => hS1) ?_
    clear hK K
    try simp only [Act.put, List.getElem_toArray, List.getElem_cons_zero, List.getElem_cons_succ, List.setIfInBounds_toArray, List.set_cons_zero, List.set_cons_succ]
    refine along_op rfl (by rfl) (by rfl) (fun K hK => ?_)
    go_simp
    refine hK.out _ _ (fun _ => hS1) ?_
    clear hK K
    try simp only [Act.put, List.getElem_toArray, List.getElem_cons_zero, List.getElem_cons_succ, List.setIfInBounds_toArray, List.set_cons_zero, List.set_cons_succ]
    refine along_done ?_
    have HC5 := Lib.hid (HC.out.trans hS1 (by simp))
    clear x0 x1 y0 y1 z0 z1 hsz rcell hS1
    go_wp2
    go_roundw
    case rel => exact ⟨i + 1, M2, by go_num, by omega, hl6, HR5.out, HM5, HP5, HC5.out⟩
    case measure => simp [intOf]; omega
   ·have e : i = D.length := by omega
    subst e
    have HLN := Lib.hid (HP0.out (by omega))
    have HB := Lib.hid (show w.heap.size ≤ w2.heap.size from HW2.out.size)
    clear x0 x1 y0 y1 z0 z1 hsz hc
    go_wp2
    go_ret
    exact ⟨_, M, rfl, HROW.out.base HB.out, HLN.out, fun r hr => by obtain ⟨d, hd, q⟩ := HM.out r hr; rw [HLE.out]; exact Or.inl ⟨d, by rw [HDE.out]; exact hd, q⟩, by omega, HCW.out⟩

set_option maxRecDepth 100000 in
set_option maxHeartbeats 4000000 in
theorem refVertex_any (vg vp vx vc : Value) (g : Plain.Gr) (p : Plain.Pt) (turn same : List (List Int)) (cy : List Int) (v : Int) (w : World) (hpl : p.e.length ≤ 1000) (hpv : p.v.length ≤ 1000) (hrl : ∀ v, (Plain.turnAt turn v).length < 4294967296) (hsl : same.length ≤ 10000) (hk : Plain.sideIs g p turn same cy = true) (hcl : cy.length ≤ 1000000) (hv : v ∈ p.v) (hg : GrAt w vg g) (hp : PtAt w vp p) (hx : PlAt w vx turn same) (hc : IntsAt w vc cy) :
  Calls Tryz.prog 14 #[vg, vp, vx, vc, .int .i64 v] w fun e w' => e = .returned (.int .i64 (Plain.vertV g p turn same cy v)) ∧ Chg [] w w' := by
 obtain ⟨hcy, hz⟩ := Bool.and_eq_true_iff.1 hk
 have hz := of_decide_eq_true hz
 have hpe := (Plain.cyc_split hcy).1
 have HK := Lib.hid hk
 have HCY := Lib.hid hcy
 have HPZ := Lib.hid hz
 have HRL := Lib.hid hrl
 have HV := Lib.hid hv
 have HDN := Lib.hid (fun d (hd : d ∈ cy) => Plain.Pt.dart_nat hpe (Plain.cyc_mem hcy hd))
 have HON := Lib.hid (fun h => Plain.vert_on (g := g) (p := p) (turn := turn) (same := same) (cy := cy) (v := v) h)
 have HSD := Lib.hid (fun r hn h => Plain.vert_side (r := r) hk hv hn h)
 have hgl : g.e.length < 4294967296 := by have := (Plain.Gr.err_ok (Plain.Pt.err_ok hpe).1).2.2.1; have := (Plain.Gr.err_ok (Plain.Pt.err_ok hpe).1).1; omega
 have HCC := Lib.hid hc
 obtain ⟨co, cc, rfl, -, -, -⟩ := hc
 clear hk hcy hz hpe hrl hv
 have HG := Lib.hid hg
 have HP := Lib.hid hp
 have HX := Lib.hid hx
 obtain ⟨eo, cap, rfl, hn, hm, hsm, hcell⟩ := hg
 obtain ⟨v1, v2, rfl, hv, he⟩ := hp
 obtain ⟨ao, ac, rfl, has, ham, hacell⟩ := hv
 obtain ⟨bo, bc, rfl, hbs, hbm, hbcell⟩ := he
 have HAC := Lib.hid hacell
 have HBC := Lib.hid hbcell
 obtain ⟨t1, t2, rfl, ht, hs⟩ := hx
 have HT := Lib.hid ht
 have HS := Lib.hid hs
 obtain ⟨tno, tc, rfl, htm, -⟩ := ht
 obtain ⟨so, sc, rfl, hsm2, hsc⟩ := hs
 obtain ⟨-, -, hc1⟩ := box_two w #[.int .i64 g.n, .slice eo g.e.length cap] #[.slice ao p.v.length ac, .slice bo p.e.length bc] 24 27
 obtain ⟨-, hc3⟩ := box_three w #[.int .i64 g.n, .slice eo g.e.length cap] #[.slice ao p.v.length ac, .slice bo p.e.length bc] #[.slice tno turn.length tc, .slice so same.length sc] 24 27 30
 have HC1 := Lib.hid (hc1.trans hc3 (by simp))
 have HBXS := Lib.hid (fun w2 h => three_boxes w (g := g) (p := p) (turn := turn) (same := same) (eo := eo) (ao := ao) (bo := bo) (tno := tno) (so := so) (cap := cap) (ac := ac) (bc := bc) (tc := tc) (sc := sc) (w2 := w2) h)
 clear hcell hacell hbcell hsm hbs has hn hc1 hc3 hsc
 go_enter Tryz.func14, Tryz.ntmps14
 go_wp2
 obtain ⟨w1, hw1⟩ : ∃ w1, (((w.alloc (.cells #[.int .i64 g.n, .slice eo g.e.length cap] 24)).alloc (.cells #[.slice ao p.v.length ac, .slice bo p.e.length bc] 27)).alloc (.cells #[.slice tno turn.length tc, .slice so same.length sc] 30)) = w1 := ⟨_, rfl⟩
 rw [hw1] at HC1 HBXS ⊢
 clear hw1
 go_loopw [11] (fun c wr => ∃ k : Nat, k ≤ cy.length ∧ c = .int .i64 k ∧ Hid (∀ i, i < k → g.tail (cy.getD i 0) ≠ v) ∧ Chg [] w1 wr) (fun c _ => cy.length - (intOf c).toNat)
 case atStart => exact ⟨0, Nat.zero_le _, rfl, Lib.hid (by omega), Chg.refl _ _⟩
 case round =>
  obtain ⟨k, hk, rfl, HN, hc⟩ := hrel
  have HC := Lib.hid hc
  have HCW := Lib.hid (HC1.out.trans hc (by simp))
  obtain ⟨x0, x1, y0, y1, z0, z1, hsz⟩ := HBXS.out _ hc
  clear hc
  by_cases hlt : k < cy.length
  ·obtain ⟨rb, roff, rfl, rc⟩ := IntsAt.cellAt HCC.out hlt
   have rcell := HCW.out.cell rc (by simp)
   have hdm := Plain.getD_mem hlt
   obtain ⟨n, e1, e2, e3⟩ := HDN.out _ hdm
   have HIN := Lib.hid (fun (q : g.tail (cy.getD k 0) = v) => (show v ∈ cy.map g.tail from List.mem_map.2 ⟨_, hdm, q⟩))
   have HNN := Lib.hid (fun (q : g.tail (cy.getD k 0) ≠ v) => (show ∀ i, i < k + 1 → g.tail (cy.getD i 0) ≠ v from fun i hi => by
    by_cases e : i = k
    ·rw [e]; exact q
    ·exact HN.out i (by omega)))
   rw [e1] at rcell HIN HNN
   obtain ⟨t, ht⟩ : ∃ t, g.tail (n : Int) = t := ⟨_, rfl⟩
   rw [ht] at HIN HNN
   have HTT := Lib.hid ht
   clear rc hdm e1 ht y0 y1 z0 z1 hsz
   go_wp2
   have hS0 : Chg [] wr wr.drew := (Chg.refl [] wr).drew
   refine wp_region_way (Chg [] wr) [0, 1, 2, 3, 4, 6, 7] (Way.line [0, 1, 2, 3, 4, 6, 5, 7] .done) (by kernel_rfl) (by kernel_rfl) ?_
   simp only [Way.line]
   repeat
    first
     | (refine along_off rfl (by rfl) (by rfl) (fun _ _ _ h => h) hS0 ?_; simp only [Act.put, List.getElem_toArray, List.getElem_cons_zero, List.getElem_cons_succ, List.setIfInBounds_toArray, List.set_cons_zero, List.set_cons_succ])
     | (refine along_read (v := ?_) rfl (by rfl) (by rfl) (fun _ _ _ h => h) hS0 (fun w' hS' => ?_) ?_; rotate_left; (focus (have rd0 := hS'.cell x0 (by simp); have rd1 := hS'.cell x1 (by simp); have rd2 := hS'.cell rcell (by simp); clear hS'; go_simp; try with_reducible rfl)); simp only [Act.put, List.getElem_toArray, List.getElem_cons_zero, List.getElem_cons_succ, List.setIfInBounds_toArray, List.set_cons_zero, List.set_cons_succ])
     | (refine along_skip rfl (by rfl) (by rfl) hS0 ?_; simp only [Act.put, List.getElem_toArray, List.getElem_cons_zero, List.getElem_cons_succ, List.setIfInBounds_toArray, List.set_cons_zero, List.set_cons_succ])
   refine along_op rfl (by rfl) (by rfl) (fun K hK => ?_)
   go_simp
   refine (tail_any _ g n _ e2 hgl (HG.out.fresh (HCW.out.trans hS0 (by simp)))).mono ?_
   rintro e w3 ⟨rfl, hcx⟩
   have hS1 := hS0.trans hcx (by simp)
   clear hS0 hcx
   have hS0 := hS1
   clear hS1
   refine hK.out _ _ (fun _ => hS0) ?_
   clear hK K
   try simp only [Act.put, List.getElem_toArray, List.getElem_cons_zero, List.getElem_cons_succ, List.setIfInBounds_toArray, List.set_cons_zero, List.set_cons_succ]
   rw [HTT.out]
   by_cases q : t = v
   ·have b1 : (t == v) = true := by rw [beq_iff_eq]; exact q
    have HZ := Lib.hid (HON.out (HIN.out q))
    clear q
    repeat
     first
      | (refine along_off rfl (by rfl) (by rfl) (fun _ _ _ h => h) hS0 ?_; simp only [Act.put, List.getElem_toArray, List.getElem_cons_zero, List.getElem_cons_succ, List.setIfInBounds_toArray, List.set_cons_zero, List.set_cons_succ])
      | (refine along_read (v := ?_) rfl (by rfl) (by rfl) (fun _ _ _ h => h) hS0 (fun w' hS' => ?_) ?_; rotate_left; (focus (have rd0 := hS'.cell x0 (by simp); clear hS'; go_simp; try with_reducible rfl)); simp only [Act.put, List.getElem_toArray, List.getElem_cons_zero, List.getElem_cons_succ, List.setIfInBounds_toArray, List.set_cons_zero, List.set_cons_succ])
      | (refine along_skip rfl (by rfl) (by rfl) hS0 ?_; simp only [Act.put, List.getElem_toArray, List.getElem_cons_zero, List.getElem_cons_succ, List.setIfInBounds_toArray, List.set_cons_zero, List.set_cons_succ])
    refine along_done ?_
    have HCF := Lib.hid (HCW.out.trans hS0 (by simp))
    clear x0 x1 rcell hS0
    go_wp2
    go_ret
    exact ⟨ret_int HZ.out.symm, HCF.out⟩
   ·have b1 : (t == v) = false := by rw [beq_eq_false_iff_ne]; exact q
    have HN1 := Lib.hid (HNN.out q)
    clear q
    repeat
     first
      | (refine along_off rfl (by rfl) (by rfl) (fun _ _ _ h => h) hS0 ?_; simp only [Act.put, List.getElem_toArray, List.getElem_cons_zero, List.getElem_cons_succ, List.setIfInBounds_toArray, List.set_cons_zero, List.set_cons_succ])
      | (refine along_read (v := ?_) rfl (by rfl) (by rfl) (fun _ _ _ h => h) hS0 (fun w' hS' => ?_) ?_; rotate_left; (focus (have rd0 := hS'.cell x0 (by simp); clear hS'; go_simp; try with_reducible rfl)); simp only [Act.put, List.getElem_toArray, List.getElem_cons_zero, List.getElem_cons_succ, List.setIfInBounds_toArray, List.set_cons_zero, List.set_cons_succ])
      | (refine along_skip rfl (by rfl) (by rfl) hS0 ?_; simp only [Act.put, List.getElem_toArray, List.getElem_cons_zero, List.getElem_cons_succ, List.setIfInBounds_toArray, List.set_cons_zero, List.set_cons_succ])
    refine along_done ?_
    have HC3 := Lib.hid (HC.out.trans hS0 (by simp))
    clear x0 x1 rcell hS0
    go_wp2
    go_roundw
    case rel => exact ⟨k + 1, by omega, by go_num, HN1, HC3.out⟩
    case measure => simp [intOf]; omega
  ·have e : k = cy.length := by omega
   subst e
   have HNI := Lib.hid (show v ∉ cy.map g.tail from fun h => by
    obtain ⟨d, hd, q⟩ := List.mem_map.1 h
    obtain ⟨i, hi, rfl⟩ := Plain.mem_getD hd
    exact HN.out i hi q)
   generalize wr = wz at *
   go_wp2
   have hS0 : Chg [] wz wz.drew := (Chg.refl [] wz).drew
   refine wp_region_way (Chg [] wz) [0, 1, 2, 3, 5, 6, 7, 8] (Way.line [0, 1, 2, 3, 5, 6, 7, 8, 4, 9, 10, 11, 12] .done) (by kernel_rfl) (by kernel_rfl) ?_
   simp only [Way.line]
   repeat
    first
     | (refine along_off rfl (by rfl) (by rfl) (fun _ _ _ h => h) hS0 ?_; simp only [Act.put, List.getElem_toArray, List.getElem_cons_zero, List.getElem_cons_succ, List.setIfInBounds_toArray, List.set_cons_zero, List.set_cons_succ])
     | (refine along_read (v := ?_) rfl (by rfl) (by rfl) (fun _ _ _ h => h) hS0 (fun w' hS' => ?_) ?_; rotate_left; (focus (have rd0 := hS'.cell x0 (by simp); have rd1 := hS'.cell x1 (by simp); have rd2 := hS'.cell y0 (by simp); have rd3 := hS'.cell y1 (by simp); have rd4 := hS'.cell z0 (by simp); have rd5 := hS'.cell z1 (by simp); clear hS'; go_simp; try with_reducible rfl)); simp only [Act.put, List.getElem_toArray, List.getElem_cons_zero, List.getElem_cons_succ, List.setIfInBounds_toArray, List.set_cons_zero, List.set_cons_succ])
     | (refine along_skip rfl (by rfl) (by rfl) hS0 ?_; simp only [Act.put, List.getElem_toArray, List.getElem_cons_zero, List.getElem_cons_succ, List.setIfInBounds_toArray, List.set_cons_zero, List.set_cons_succ])
   refine along_op rfl (by rfl) (by rfl) (fun K hK => ?_)
   go_simp
   refine (refLefts_any _ _ _ _ g p turn same cy _ hpl hpv HRL.out hsl HPZ.out hcl HCY.out (HG.out.fresh (HCW.out.trans hS0 (by simp))) (HP.out.fresh (HCW.out.trans hS0 (by simp))) (HX.out.fresh (HCW.out.trans hS0 (by simp))) (HCC.out.fresh (HCW.out.trans hS0 (by simp)))).mono ?_
   rintro e w3 ⟨lv, M, rfl, hlr, hlm, hll, hcx⟩
   have HLR := Lib.hid hlr.ints
   have HLM := Lib.hid hlm
   have hS1 := hS0.trans hcx (by simp)
   clear hS0 hcx hlr hlm
   refine hK.out _ _ (fun _ => hS1) ?_
   clear hK K
   try simp only [Act.put, List.getElem_toArray, List.getElem_cons_zero, List.getElem_cons_succ, List.setIfInBounds_toArray, List.set_cons_zero, List.set_cons_succ]
   refine along_op rfl (by rfl) (by rfl) (fun K hK => ?_)
   go_simp
   refine (refAround_any _ _ _ g p turn same v _ hpl hpv HRL.out hsl HPZ.out HV.out (HG.out.fresh (HCW.out.trans hS1 (by simp))) (HP.out.fresh (HCW.out.trans hS1 (by simp))) (HX.out.fresh (HCW.out.trans hS1 (by simp)))).mono ?_
   rintro e w4 ⟨av, A, rfl, har, ha0, ham, hal, hcx⟩
   obtain ⟨ao2, ac2, rfl⟩ := har.shape
   obtain ⟨ab2, rfl, hac⟩ := har.some ha0
   have acell := hac 0 ha0
   have HRA := Lib.hid (HSD.out _ HNI.out (ham _ (Plain.getD_mem ha0)))
   obtain ⟨r, hr⟩ : ∃ r, A.getD 0 0 = r := ⟨_, rfl⟩
   rw [hr] at acell HRA
   have HRM := Lib.hid (HLM.out r)
   have HL4 := Lib.hid (HLR.out.fresh hcx)
   have hS2 := hS1.trans hcx (by simp)
   refine hK.out _ _ (fun _ => hS2) ?_
   clear hK K har ham hac hr hS1 hcx
   try simp only [Act.put, List.getElem_toArray, List.getElem_cons_zero, List.getElem_cons_succ, List.setIfInBounds_toArray, List.set_cons_zero, List.set_cons_succ]
   refine along_op rfl (by rfl) (by rfl) (fun K hK => ?_)
   go_simp
   refine hK.out _ _ (fun _ => hS2) ?_
   clear hK K
   try simp only [Act.put, List.getElem_toArray, List.getElem_cons_zero, List.getElem_cons_succ, List.setIfInBounds_toArray, List.set_cons_zero, List.set_cons_succ]
   refine along_op rfl (by rfl) (by rfl) (fun K hK => ?_)
   go_simp
   refine hK.out _ _ (fun _ => hS2) ?_
   clear hK K acell
   try simp only [Act.put, List.getElem_toArray, List.getElem_cons_zero, List.getElem_cons_succ, List.setIfInBounds_toArray, List.set_cons_zero, List.set_cons_succ]
   refine along_op rfl (by rfl) (by rfl) (fun K hK => ?_)
   go_simp
   refine (in_any _ M r _ HL4.out).mono ?_
   rintro e w5 ⟨rfl, hcx⟩
   have hS3 := hS2.trans hcx (by simp)
   refine hK.out _ _ (fun _ => hS3) ?_
   clear hK K hS2 hcx
   try simp only [Act.put, List.getElem_toArray, List.getElem_cons_zero, List.getElem_cons_succ, List.setIfInBounds_toArray, List.set_cons_zero, List.set_cons_succ]
   refine along_done ?_
   have HCF := Lib.hid (HCW.out.trans hS3 (by simp))
   clear x0 x1 y0 y1 z0 z1 hsz hS3
   by_cases hin : r ∈ M
   ·have HZ := Lib.hid (HRA.out.trans (Plain.sideNo_in (HRM.out.1 hin)))
    rw [decide_eq_true hin]
    clear hin
    go_wp2
    go_ret
    exact ⟨ret_int HZ.out.symm, HCF.out⟩
   ·have HZ := Lib.hid (HRA.out.trans (Plain.sideNo_out fun h => hin (HRM.out.2 h)))
    rw [decide_eq_false hin]
    clear hin
    go_wp2
    go_ret
    exact ⟨ret_int HZ.out.symm, HCF.out⟩

set_option maxRecDepth 100000 in
set_option maxHeartbeats 4000000 in
theorem refEdge_any (vg vp vx vc : Value) (g : Plain.Gr) (p : Plain.Pt) (turn same : List (List Int)) (cy : List Int) (e : Int) (w : World) (hpl : p.e.length ≤ 1000) (hpv : p.v.length ≤ 1000) (hrl : ∀ v, (Plain.turnAt turn v).length < 4294967296) (hsl : same.length ≤ 10000) (hk : Plain.sideIs g p turn same cy = true) (hcl : cy.length ≤ 1000000) (he : e ∈ p.e) (hg : GrAt w vg g) (hp : PtAt w vp p) (hx : PlAt w vx turn same) (hc : IntsAt w vc cy) :
  Calls Tryz.prog 15 #[vg, vp, vx, vc, .int .i64 e] w fun r w' => r = .returned (.int .i64 (Plain.edgeV g p turn same cy e)) ∧ Chg [] w w' := by
 obtain ⟨hcy, hz⟩ := Bool.and_eq_true_iff.1 hk
 have hz := of_decide_eq_true hz
 have hpe := (Plain.cyc_split hcy).1
 have HCY := Lib.hid hcy
 have HPZ := Lib.hid hz
 have HRL := Lib.hid hrl
 have HDN := Lib.hid (fun d (hd : d ∈ cy) => (show ∃ n : Nat, d = n ∧ n < 2048 from by
  obtain ⟨n, e1, -, e3⟩ := Plain.Pt.dart_nat hpe (Plain.cyc_mem hcy hd)
  exact ⟨n, e1, e3⟩))
 have HON := Lib.hid (fun h => Plain.edge_on (g := g) (p := p) (turn := turn) (same := same) (cy := cy) (e := e) h)
 have HSD := Lib.hid (fun hn => Plain.edge_side hk he hn)
 have HLD := Lib.hid (Plain.left_dart (turn := turn) (same := same) hz (d := 2 * e) (Plain.mem_darts.2 (by rw [show (2 * e) / 2 = e by omega]; exact he)))
 have her := Plain.Pt.edge_in hpe he
 have hgl := (Plain.Gr.err_ok (Plain.Pt.err_ok hpe).1).2.2.1
 have hgn := (Plain.Gr.err_ok (Plain.Pt.err_ok hpe).1).1
 have w2e : IntKind.i64.wrap (2 * e) = 2 * e := IntWalk.i64_in _ (by omega)
 have HCC := Lib.hid hc
 obtain ⟨co, cc, rfl, -, -, -⟩ := hc
 clear hk hcy hz hpe hrl he her hgl hgn
 have HG := Lib.hid hg
 have HP := Lib.hid hp
 have HX := Lib.hid hx
 obtain ⟨eo, cap, rfl, hn, hm, hsm, hcell⟩ := hg
 obtain ⟨v1, v2, rfl, hv, he⟩ := hp
 obtain ⟨ao, ac, rfl, has, ham, hacell⟩ := hv
 obtain ⟨bo, bc, rfl, hbs, hbm, hbcell⟩ := he
 have HAC := Lib.hid hacell
 have HBC := Lib.hid hbcell
 obtain ⟨t1, t2, rfl, ht, hs⟩ := hx
 have HT := Lib.hid ht
 have HS := Lib.hid hs
 obtain ⟨tno, tc, rfl, htm, -⟩ := ht
 obtain ⟨so, sc, rfl, hsm2, hsc⟩ := hs
 obtain ⟨-, -, hc1⟩ := box_two w #[.int .i64 g.n, .slice eo g.e.length cap] #[.slice ao p.v.length ac, .slice bo p.e.length bc] 24 27
 obtain ⟨-, hc3⟩ := box_three w #[.int .i64 g.n, .slice eo g.e.length cap] #[.slice ao p.v.length ac, .slice bo p.e.length bc] #[.slice tno turn.length tc, .slice so same.length sc] 24 27 30
 have HC1 := Lib.hid (hc1.trans hc3 (by simp))
 have HBXS := Lib.hid (fun w2 h => three_boxes w (g := g) (p := p) (turn := turn) (same := same) (eo := eo) (ao := ao) (bo := bo) (tno := tno) (so := so) (cap := cap) (ac := ac) (bc := bc) (tc := tc) (sc := sc) (w2 := w2) h)
 clear hcell hacell hbcell hsm hbs has hn hc1 hc3 hsc
 go_enter Tryz.func15, Tryz.ntmps15
 go_wp2_with fail
 refine (refOn_any _ cy e _ hcl HDN.out (HCC.out.fresh HC1.out)).mono ?_
 rintro r w2 ⟨rfl, hc2⟩
 obtain ⟨w1, hw1⟩ : ∃ w1, (((w.alloc (.cells #[.int .i64 g.n, .slice eo g.e.length cap] 24)).alloc (.cells #[.slice ao p.v.length ac, .slice bo p.e.length bc] 27)).alloc (.cells #[.slice tno turn.length tc, .slice so same.length sc] 30)) = w1 := ⟨_, rfl⟩
 rw [hw1] at HC1 HBXS hc2
 clear hw1
 have HC2 := Lib.hid hc2
 have HW2 := Lib.hid (HC1.out.trans hc2 (by simp))
 by_cases hon : e ∈ cy.map (· / 2)
 ·have HZ := Lib.hid (HON.out hon)
  rw [decide_eq_true hon]
  clear hon hc2
  go_wp2
  go_ret
  exact ⟨ret_int HZ.out.symm, HW2.out⟩
 ·have HS3 := Lib.hid (HSD.out hon)
  rw [decide_eq_false hon]
  obtain ⟨x0, x1, y0, y1, z0, z1, hsz⟩ := HBXS.out _ hc2
  clear hon hc2
  go_wp2
  have hS0 : Chg [] w2 w2.drew := (Chg.refl [] w2).drew
  refine wp_region_way (Chg [] w2) [0, 1, 2, 3, 5, 6, 7, 8, 9] (Way.line [0, 1, 2, 3, 5, 6, 7, 8, 9, 4, 10, 11] .done) (by kernel_rfl) (by kernel_rfl) ?_
  simp only [Way.line]
  repeat
   first
    | (refine along_off rfl (by rfl) (by rfl) (fun _ _ _ h => h) hS0 ?_; simp only [Act.put, List.getElem_toArray, List.getElem_cons_zero, List.getElem_cons_succ, List.setIfInBounds_toArray, List.set_cons_zero, List.set_cons_succ])
    | (refine along_read (v := ?_) rfl (by rfl) (by rfl) (fun _ _ _ h => h) hS0 (fun w' hS' => ?_) ?_; rotate_left; (focus (have rd0 := hS'.cell x0 (by simp); have rd1 := hS'.cell x1 (by simp); have rd2 := hS'.cell y0 (by simp); have rd3 := hS'.cell y1 (by simp); have rd4 := hS'.cell z0 (by simp); have rd5 := hS'.cell z1 (by simp); clear hS'; go_simp; try with_reducible rfl)); simp only [Act.put, List.getElem_toArray, List.getElem_cons_zero, List.getElem_cons_succ, List.setIfInBounds_toArray, List.set_cons_zero, List.set_cons_succ])
    | (refine along_skip rfl (by rfl) (by rfl) hS0 ?_; simp only [Act.put, List.getElem_toArray, List.getElem_cons_zero, List.getElem_cons_succ, List.setIfInBounds_toArray, List.set_cons_zero, List.set_cons_succ])
  refine along_op rfl (by rfl) (by rfl) (fun K hK => ?_)
  go_simp
  refine (refLefts_any _ _ _ _ g p turn same cy _ hpl hpv HRL.out hsl HPZ.out hcl HCY.out (HG.out.fresh (HW2.out.trans hS0 (by simp))) (HP.out.fresh (HW2.out.trans hS0 (by simp))) (HX.out.fresh (HW2.out.trans hS0 (by simp))) (HCC.out.fresh (HW2.out.trans hS0 (by simp)))).mono ?_
  rintro r w3 ⟨lv, M, rfl, hlr, hlm, hll, hcx⟩
  have HLR := Lib.hid hlr.ints
  have HLM := Lib.hid hlm
  have hS1 := hS0.trans hcx (by simp)
  clear hS0 hcx hlr hlm
  refine hK.out _ _ (fun _ => hS1) ?_
  clear hK K
  try simp only [Act.put, List.getElem_toArray, List.getElem_cons_zero, List.getElem_cons_succ, List.setIfInBounds_toArray, List.set_cons_zero, List.set_cons_succ]
  refine along_op rfl (by rfl) (by rfl) (fun K hK => ?_)
  go_simp
  refine (refLeft_any _ _ _ g p turn same (2 * e) _ hpl hpv HRL.out hsl HPZ.out HLD.out (HG.out.fresh (HW2.out.trans hS1 (by simp))) (HP.out.fresh (HW2.out.trans hS1 (by simp))) (HX.out.fresh (HW2.out.trans hS1 (by simp)))).mono ?_
  rintro r w4 ⟨rfl, hcx⟩
  have HL4 := Lib.hid (HLR.out.fresh hcx)
  have hS2 := hS1.trans hcx (by simp)
  refine hK.out _ _ (fun _ => hS2) ?_
  clear hK K hS1 hcx
  obtain ⟨z, hzz⟩ : ∃ z, Plain.lf (Plain.leftOf (Plain.regionsOf g p turn same) (Plain.walksOf g p turn)) (2 * e) = z := ⟨_, rfl⟩
  rw [hzz] at HS3 ⊢
  have HRM := Lib.hid (HLM.out z)
  clear hzz
  try simp only [Act.put, List.getElem_toArray, List.getElem_cons_zero, List.getElem_cons_succ, List.setIfInBounds_toArray, List.set_cons_zero, List.set_cons_succ]
  refine along_op rfl (by rfl) (by rfl) (fun K hK => ?_)
  go_simp
  refine (in_any _ M z _ HL4.out).mono ?_
  rintro r w5 ⟨rfl, hcx⟩
  have hS3 := hS2.trans hcx (by simp)
  refine hK.out _ _ (fun _ => hS3) ?_
  clear hK K hS2 hcx
  try simp only [Act.put, List.getElem_toArray, List.getElem_cons_zero, List.getElem_cons_succ, List.setIfInBounds_toArray, List.set_cons_zero, List.set_cons_succ]
  refine along_done ?_
  have HCF := Lib.hid (HW2.out.trans hS3 (by simp))
  clear x0 x1 y0 y1 z0 z1 hsz hS3
  by_cases hin : z ∈ M
  ·have HZ := Lib.hid (HS3.out.trans (Plain.sideNo_in (HRM.out.1 hin)))
   rw [decide_eq_true hin]
   clear hin
   go_wp2
   go_ret
   exact ⟨ret_int HZ.out.symm, HCF.out⟩
  ·have HZ := Lib.hid (HS3.out.trans (Plain.sideNo_out fun h => hin (HRM.out.2 h)))
   rw [decide_eq_false hin]
   clear hin
   go_wp2
   go_ret
   exact ⟨ret_int HZ.out.symm, HCF.out⟩
end Go.Proofs.YtfgbkpbakignhaaGreat
