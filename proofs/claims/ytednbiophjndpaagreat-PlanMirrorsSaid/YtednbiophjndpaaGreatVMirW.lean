/- plan.Mirror: its contract. Conditions: a graph, a part, a plan that lie in memory and read so, of a bounded size. -/
import Derived.Test.YtednbiophjndpaaGreatVMirK
namespace Go.Proofs.YtednbiophjndpaaGreat
open Go.RowKit Go.Maps
namespace Plain
theorem walk_nat {g : Gr} {p : Pt} {turn : List (List Int)} {W : List Face} (hpe : p.err g = 0) (ht : TurnsOk g p turn) (hW : WalksOk g p turn W) {f : Face} (hf : f ∈ W) : (∀ d ∈ f.2, ∃ n : Nat, d = n ∧ n < 2048) ∧ -4096 < f.1 ∧ f.1 < 4096 := by
 have h := Pt.ok_of_err hpe
 have hg := Gr.err_ok (Pt.err_ok hpe).1
 have hd : ∀ d ∈ f.2, ∃ n : Nat, d = n ∧ n < 2048 := fun d hd => by
  obtain ⟨n, e1, -, e3⟩ := Pt.dart_nat hpe (walk_const h ht hW.faces (Stretch.all h).closed hf hd).1
  exact ⟨n, e1, e3⟩
 refine ⟨hd, ?_⟩
 match e : f.2 with
 | [] =>
  obtain ⟨v, hv, -, e1⟩ := lone_of hW.faces hf e
  have := h.vr v hv
  omega
 | d :: l =>
  have hk := hW.faces.key f hf d l e
  obtain ⟨n, e1, e2⟩ := hd d (by rw [e]; simp)
  omega
theorem leastTo_small {k0 : Int} {l : List Int} (h0 : -4096 < k0 ∧ k0 < 4096) (h : ∀ d ∈ l, ∃ n : Nat, d = n ∧ n < 2048) : ∀ j, j ≤ l.length → -4096 < leastTo k0 l j ∧ leastTo k0 l j < 4096
 | 0, _ => h0
 | j + 1, hj => by
  have ih := leastTo_small h0 h j (by omega)
  obtain ⟨n, e, hn⟩ := h _ (getD_mem (l := l) (n := j) (by omega))
  have e2 : leastTo k0 l (j + 1) = if j = 0 ∨ twin (l.getD j 0) < leastTo k0 l j then twin (l.getD j 0) else leastTo k0 l j := rfl
  have ht : -4096 < twin (l.getD j 0) ∧ twin (l.getD j 0) < 4096 := by
   rw [e]; unfold twin; split <;> omega
  rw [e2]
  split
  ·exact ht
  exact ih
theorem mirList_len (W : List Face) (l : List Int) : (mirList W l).length = l.length := by
 unfold mirList
 rw [(List.mergeSort_perm _ _).length_eq, List.length_map]
end Plain
set_option maxRecDepth 100000 in
set_option maxHeartbeats 16000000 in
theorem mirror_low (vg vp vx : Value) (g : Plain.Gr) (p : Plain.Pt) (turn same : List (List Int)) (w : World) (hpl : p.e.length ≤ 10000) (hpv : p.v.length ≤ 10000) (hTL : turn.length < 1000000000) (hS : Plain.sumLen turn turn.length < 2147483648) (hsl : same.length ≤ 10000) (hsr : ∀ i, (same.getD i []).length ≤ 10000) (hg : GrAt w vg g) (hp : PtAt w vp p) (hx : PlAt w vx turn same) :
  Calls Tryz.prog 13 #[vg, vp, vx] w fun e w' => ∃ ov, e = .returned (.tuple #[ov, .int .i64 (Plain.planErr g p turn same)]) ∧ (Plain.planErr g p turn same ≠ 0 → ov = .agg #[.slice none 0 0, .slice none 0 0]) ∧
   (Plain.planErr g p turn same = 0 → ∀ own wx, Chg own w' wx → (∀ j ∈ own, j < w.heap.size) → PlAt wx ov (Plain.mirTurn turn) (Plain.mirSame g p turn same)) ∧ Chg [] w w' := by
 have HS1 := Lib.hid hS
 have HSR := Lib.hid hsr
 have HG := Lib.hid hg
 have HP := Lib.hid hp
 have HX := Lib.hid hx
 obtain ⟨eo, cap, rfl, hn, hm, hsm, hcell⟩ := hg
 obtain ⟨v1, v2, rfl, hv, he⟩ := hp
 obtain ⟨ao, ac, rfl, has, ham, hacell⟩ := hv
 obtain ⟨bo, bc, rfl, hbs, hbm, hbcell⟩ := he
 have HAC := Lib.hid hacell
 have HBC := Lib.hid hbcell
 obtain ⟨t1, t2, rfl, ht, hs⟩ := hx
 have HT := Lib.hid ht
 have HS := Lib.hid hs
 obtain ⟨tno, tc, rfl, htm, -⟩ := ht
 obtain ⟨so, sc, rfl, hsm2, hsc⟩ := hs
 obtain ⟨-, -, hc1⟩ := box_two w #[.int .i64 g.n, .slice eo g.e.length cap] #[.slice ao p.v.length ac, .slice bo p.e.length bc] 24 27
 obtain ⟨-, hc3⟩ := box_three w #[.int .i64 g.n, .slice eo g.e.length cap] #[.slice ao p.v.length ac, .slice bo p.e.length bc] #[.slice tno turn.length tc, .slice so same.length sc] 24 27 30
 have HC1 := Lib.hid (hc1.trans hc3 (by simp))
 have HBXS := Lib.hid (fun w2 h => three_boxes w (g := g) (p := p) (turn := turn) (same := same) (eo := eo) (ao := ao) (bo := bo) (tno := tno) (so := so) (cap := cap) (ac := ac) (bc := bc) (tc := tc) (sc := sc) (w2 := w2) h)
 clear hcell hacell hbcell hsm hbs has hn hc1 hc3 hsc
 have hra : Chg [] (((w.alloc (.cells #[.int .i64 g.n, .slice eo g.e.length cap] 24)).alloc (.cells #[.slice ao p.v.length ac, .slice bo p.e.length bc] 27)).alloc (.cells #[.slice tno turn.length tc, .slice so same.length sc] 30)) ((((w.alloc (.cells #[.int .i64 g.n, .slice eo g.e.length cap] 24)).alloc (.cells #[.slice ao p.v.length ac, .slice bo p.e.length bc] 27)).alloc (.cells #[.slice tno turn.length tc, .slice so same.length sc] 30)).alloc (.cells #[.slice none 0 0, .slice none 0 0] 30)) := (Chg.refl [] _).alloc _
 have hrh := heap_alloc_new (((w.alloc (.cells #[.int .i64 g.n, .slice eo g.e.length cap] 24)).alloc (.cells #[.slice ao p.v.length ac, .slice bo p.e.length bc] 27)).alloc (.cells #[.slice tno turn.length tc, .slice so same.length sc] 30)) (.cells #[.slice none 0 0, .slice none 0 0] 30)
 rw [show (((w.alloc (.cells #[.int .i64 g.n, .slice eo g.e.length cap] 24)).alloc (.cells #[.slice ao p.v.length ac, .slice bo p.e.length bc] 27)).alloc (.cells #[.slice tno turn.length tc, .slice so same.length sc] 30)).heap.size = w.heap.size + 3 by simp] at hrh
 have hsz1 : ((((w.alloc (.cells #[.int .i64 g.n, .slice eo g.e.length cap] 24)).alloc (.cells #[.slice ao p.v.length ac, .slice bo p.e.length bc] 27)).alloc (.cells #[.slice tno turn.length tc, .slice so same.length sc] 30)).alloc (.cells #[.slice none 0 0, .slice none 0 0] 30)).heap.size = w.heap.size + 4 := by simp
 have HRA := Lib.hid hra
 have HRH := Lib.hid hrh
 have HSZ1 := Lib.hid hsz1
 have HCW1 := Lib.hid (HC1.out.trans hra (by simp))
 obtain ⟨x0, x1, y0, y1, z0, z1, hsz⟩ := HBXS.out _ hra
 clear hra hrh hsz1
 go_enter Tryz.func13, Tryz.ntmps13
 go_wp2_with fail
 generalize ((((w.alloc (.cells #[.int .i64 g.n, .slice eo g.e.length cap] 24)).alloc (.cells #[.slice ao p.v.length ac, .slice bo p.e.length bc] 27)).alloc (.cells #[.slice tno turn.length tc, .slice so same.length sc] 30)).alloc (.cells #[.slice none 0 0, .slice none 0 0] 30)) = w1 at *
 have HBX := Lib.hid (fun w2 (h : Chg [] w1 w2) => HBXS.out w2 (HRA.out.trans h (by simp)))
 have HRES := Lib.hid (fun w2 (h : Chg [] w1 w2) => h.heap HRH.out (by simp))
 have HW := Lib.hid (fun w2 (h : Chg [] w1 w2) => HCW1.out.trans h (by simp))
 clear HBXS HRA HRH HCW1 HC1 x0 x1 y0 y1 z0 z1 hsz
 refine (right_any _ _ _ g p turn same _ (by omega) (by omega) (by omega) HS1.out (by omega) HSR.out (HG.out.fresh (HW.out _ (Chg.refl _ _))) (HP.out.fresh (HW.out _ (Chg.refl _ _))) (HX.out.fresh (HW.out _ (Chg.refl _ _)))).mono ?_
 rintro e w2 ⟨rfl, hc2⟩
 have HC2 := Lib.hid hc2
 have hr8 := HRES.out _ hc2
 have HR8 := Lib.hid hr8
 have r0 := (cell_of_row _ _ 0 _ _ _ hr8).trans (show _ = some (Value.slice none 0 0) from rfl)
 have r1 := (cell_of_row _ _ 1 _ _ _ hr8).trans (show _ = some (Value.slice none 0 0) from rfl)
 have f0 := free_at hr8 0
 have f1 := free_at hr8 1
 clear hr8 hc2
 by_cases hz : Plain.planErr g p turn same = 0
 ·have HZ := Lib.hid hz
  obtain ⟨hpe, hto⟩ := Plain.zero_ok hz
  have HPE := Lib.hid hpe
  have HTO := Lib.hid hto
  have HWL := Lib.hid (Plain.walks_ok hpe hto)
  obtain ⟨x0, x1, y0, y1, z0, z1, hsz⟩ := HBX.out _ HC2.out
  have hpvm := PlanVar.made w2 (w2.heap.size + 1) (w2.heap.size + 1)
  have hcb := (Chg.refl [] w2).alloc (.cells #[.slice none 0 0, .slice none 0 0] 30)
  have HSB := Lib.hid (show (w2.alloc (.cells #[.slice none 0 0, .slice none 0 0] 30)).heap.size = w2.heap.size + 1 by simp)
  have HPV0 := Lib.hid hpvm
  have HCA := Lib.hid hcb
  have HS24 := Lib.hid (show w.heap.size + 4 ≤ w2.heap.size by rw [← HSZ1.out]; exact HC2.out.size)
  obtain ⟨FF, hFF⟩ : ∃ FF : List Int → List Int, (fun l : List Int => Plain.first l.reverse) = FF := ⟨_, rfl⟩
  have HFF := Lib.hid (show ∀ l, FF l = Plain.first l.reverse from fun l => by rw [← hFF])
  have HRT := Lib.hid (show turn.map FF = Plain.mirTurn turn by unfold Plain.mirTurn; rw [← hFF])
  have HKM := Lib.hid (fun (k : Nat) (hk : k < turn.length) => Plain.map_take_snoc (f := FF) hk)
  have z0n := fun o => cellNew z0 o
  rw [hz]
  clear hz hpe hto x0 x1 y0 y1 z1 hsz hpvm hcb hFF r0 r1 f0 f1
  go_wp2
  clear z0n z0
  obtain ⟨pb, hpb⟩ : ∃ b, w2.heap.size = b := ⟨_, rfl⟩
  rw [hpb] at HPV0 HSB HS24 ⊢
  have HPB := Lib.hid hpb
  clear hpb
  generalize w2.alloc (.cells #[.slice none 0 0, .slice none 0 0] 30) = w3 at *
  have HC3 := Lib.hid (HC2.out.trans HCA.out (by simp))
  go_loopw [35] (fun c wr => ∃ k : Nat, k ≤ turn.length ∧ c = .int .i64 k ∧ PlanVar wr pb (pb + 1) wr.heap.size ((turn.take k).map FF) [] ∧ Chg [pb] w3 wr) (fun c _ => turn.length - (intOf c).toNat)
  case atStart => exact ⟨0, Nat.zero_le _, rfl, by simpa [HSB.out] using HPV0.out, Chg.refl _ _⟩
  case round =>
   obtain ⟨k, hk, rfl, hpv, hc⟩ := hrel
   have HV := Lib.hid hpv
   have HC := Lib.hid hc
   have HC1R := Lib.hid (show Chg [] w1 wr from HC3.out.trans hc (fun j hj => Or.inr (by simp at hj; have := HPB.out; have := HC2.out.size; omega)))
   clear hpv hc
   by_cases hlt : k < turn.length
   ·obtain ⟨tb, toff, u, rfl, tcell, -, hrow⟩ := (HT.out.fresh (HW.out _ HC1R.out)).rowc hlt
    have HMS := Lib.hid (HKM.out k hlt)
    have hml : ((turn.take k).map FF).length < 1000000000 := by simp; omega
    have hTl : (turn.getD k []).length < 1000000000 := by
     have h1 := Plain.sumLen_mono turn (show k + 1 ≤ turn.length by omega)
     have h2 := Nat.le_trans (Nat.le_add_left (turn.getD k []).length (Plain.sumLen turn k)) h1
     have h3 := Plain.sumLen_flat turn turn.length (Nat.le_refl _)
     rw [List.take_length, HTO.out.flat_len (Plain.Pt.ok_of_err HPE.out)] at h3
     omega
    obtain ⟨T, hT⟩ : ∃ T, turn.getD k [] = T := ⟨_, rfl⟩
    rw [hT] at hrow hTl HMS
    have HROW := Lib.hid hrow
    have HFT := Lib.hid (HFF.out T)
    obtain ⟨uo, uc, rfl, -⟩ := hrow
    obtain ⟨L0, hL0⟩ : ∃ L0, (turn.take k).map FF = L0 := ⟨_, rfl⟩
    rw [hL0] at HV HMS hml
    obtain ⟨a1, c1, a2, c2, p0, -⟩ := HV.out.cells
    have HP0 := Lib.hid p0
    have HBW := Lib.hid (show pb + 1 ≤ wr.heap.size by have h2 := HC.out.size; have h3 := HSB.out; omega)
    clear hT hL0
    go_wp2
    have hS0 : Chg [] wr wr.drew := (Chg.refl [] wr).drew
    refine wp_region_way (Chg [] wr) [0, 1, 2] (Way.line [0, 1, 2, 3, 4, 5, 6, 7, 8] .done) (by kernel_rfl) (by kernel_rfl) ?_
    simp only [Way.line]
    repeat
     first
      | (refine along_off rfl (by rfl) (by rfl) (fun _ _ _ h => h) hS0 ?_; simp only [Act.put, Z1, Z2, Z3, Z4, Z5, Z6])
      | (refine along_read (v := ?_) rfl (by rfl) (by rfl) (fun _ _ _ h => h) hS0 (fun w' hS' => ?_) ?_; rotate_left; (focus (have rd0 := hS'.cell p0 (by simp); have rd1 := hS'.cell tcell (by simp); clear hS'; go_simp; try with_reducible rfl)); simp only [Act.put, Z1, Z2, Z3, Z4, Z5, Z6])
      | (refine along_skip rfl (by rfl) (by rfl) hS0 ?_; simp only [Act.put, Z1, Z2, Z3, Z4, Z5, Z6])
    refine along_op rfl (by rfl) (by rfl) (fun K hK => ?_)
    go_simp
    refine (about_any _ T _ hTl (HROW.out.fresh hS0)).mono ?_
    rintro e w4 ⟨v', rfl, hrv, hcx⟩
    have hS1 := hS0.trans hcx (by simp)
    clear hS0 hcx
    have hS0 := hS1
    clear hS1
    refine hK.out _ _ (fun _ => hS0) ?_
    clear hK K
    try simp only [Act.put, Z1, Z2, Z3, Z4, Z5, Z6]
    have HRV := Lib.hid hrv
    have HV4 := Lib.hid ((HV.out.fresh hS0).up (Nat.le_refl w4.heap.size))
    have HB4 := Lib.hid (show pb + 1 ≤ w4.heap.size by have h1 := hS0.size; have h2 := HBW.out; omega)
    have P04 := Lib.hid (hS0.cell p0 (by simp))
    have HS4 := Lib.hid hS0
    clear hrv
    refine along_op rfl (by rfl) (by rfl) (fun K hK => ?_)
    go_simp
    refine (first_any _ T.reverse _ (by rw [List.length_reverse]; omega) (CapOk.row HRV.out) (HRV.out.ints)).mono ?_
    rintro e w5 ⟨v2, rfl, hrv2, hcx⟩
    have hS1 := hS0.trans hcx (by simp)
    clear hS0 hcx
    have hS0 := hS1
    clear hS1
    refine hK.out _ _ (fun _ => hS0) ?_
    clear hK K
    try simp only [Act.put, Z1, Z2, Z3, Z4, Z5, Z6]
    obtain ⟨vo2, vc2, rfl⟩ := hrv2.shape
    have HRV2 := Lib.hid hrv2
    have HV5 := Lib.hid ((HV.out.up (show wr.heap.size ≤ w4.heap.size from HS4.out.size)).fresh hS0)
    have HS5 := Lib.hid hS0
    have P05 := Lib.hid (hS0.cell HP0.out (by simp))
    refine along_op rfl (by rfl) (by rfl) (fun K hK => ?_)
    go_simp
    refine hK.out _ _ (fun _ => hS0.alloc _) ?_
    clear hK K hrv2
    try simp only [Act.put, Z1, Z2, Z3, Z4, Z5, Z6]
    obtain ⟨g5, q5, w6, hr5, hf5, ⟨u5, hu5⟩, hv5, own5, hc5, ho5⟩ := HV5.out.push0 (by have := HS5.out.size; have := HBW.out; omega) HRV2.out HB4.out hml (Or.inl rfl) P05.out 28
    have HV6 := Lib.hid hv5
    have HC6 := Lib.hid hc5
    have HO6 := Lib.hid ho5
    clear hv5 hc5 ho5
    refine along_op rfl (by rfl) (by rfl) (fun K hK => ?_)
    simp only [List.getElem_toArray, List.getElem_cons_zero, List.getElem_cons_succ]
    refine wp_apprun (.tmp 40) (.tmp 44) 28 rfl rfl rfl hr5 ?_
    refine hK.out _ _ (fun h => absurd h (Bool.eq_false_iff.1 (by kernel_rfl))) ?_
    clear hK K hr5
    try simp only [Act.put, List.setIfInBounds_toArray, List.set_cons_zero, List.set_cons_succ]
    refine along_op rfl (by rfl) (by rfl) (fun K hK => ?_)
    go_simp
    refine hK.out _ _ (fun h => absurd h (Bool.eq_false_iff.1 (by kernel_rfl))) ?_
    clear hK K
    try simp only [Act.put, Z1, Z2, Z3, Z4, Z5, Z6]
    refine along_op rfl (by rfl) (by rfl) (fun K hK => ?_)
    go_simp
    refine hK.out _ _ (fun h => absurd h (Bool.eq_false_iff.1 (by kernel_rfl))) ?_
    clear hK K hu5 hf5 p0 tcell hS0
    try simp only [Act.put, Z1, Z2, Z3, Z4, Z5, Z6]
    refine along_done ?_
    generalize (w6.setCell ⟨pb, 0, none⟩ (.slice (some ⟨g5, 0, none⟩) (L0.length + 1) q5)) = w7 at *
    have HC7 := Lib.hid (show Chg [pb] w3 w7 from HC.out.trans ((HS5.out.mono (by simp)).trans HC6.out (fun j hj => Or.inl hj) : Chg own5 wr w7) (fun j hj => (HO6.out j hj).imp (fun e => by simp [e]) (fun h => by have := HSB.out; omega)))
    go_wp2
    go_roundw
    case rel => exact ⟨k + 1, by omega, by go_num, by rw [HMS.out, HFT.out]; exact HV6.out.up (Nat.le_refl _), HC7.out⟩
    case measure => simp [intOf]; omega
   have e : k = turn.length := by omega
   subst e
   rw [List.take_length, HRT.out] at HV
   obtain ⟨TT, hTT⟩ : ∃ TT, Plain.mirTurn turn = TT := ⟨_, rfl⟩
   have HTT := Lib.hid hTT
   rw [hTT] at HV
   clear hlt hTT hk
   rename World => wa
   obtain ⟨x0, x1, y0, y1, z0, z1, hsz⟩ := HBX.out _ HC1R.out
   have hmm := @run_makeMap Tryz.prog
   have x0n := fun o => cellNew x0 o
   have x1n := fun o => cellNew x1 o
   have y0n := fun o => cellNew y0 o
   have y1n := fun o => cellNew y1 o
   have z0n := fun o => cellNew z0 o
   have HCM := Lib.hid ((Chg.refl [] wa).alloc (.map #[] 0))
   have HOM := Lib.hid (IMap.made wa)
   have HC1M := Lib.hid (HC1R.out.trans HCM.out (by simp))
   go_wp2_with fail
   refine (walks_any _ _ _ g p turn _ (by omega) (by omega) (by omega) HS1.out (HG.out.fresh (HW.out _ HC1M.out)) (HP.out.fresh (HW.out _ HC1M.out)) (HT.out.fresh (HW.out _ HC1M.out))).mono ?_
   rintro e w5 ⟨ovw, rfl, -, hw2, hc5⟩
   have HTE := Lib.hid (Plain.turnErr_ok HPE.out HTO.out)
   obtain ⟨W, xw, hwk, hnw⟩ := hw2 HTE.out
   have HWE := Lib.hid (hwk.eq HPE.out)
   have HWK := Lib.hid hwk
   have HNW := Lib.hid hnw
   have HKEYS := Lib.hid (Plain.walks_keys HPE.out hwk)
   obtain ⟨wo, wcap, rfl⟩ := hnw.shape
   have hwl := hwk.len
   have HC5 := Lib.hid (HCM.out.trans hc5 (by simp))
   have HOM5 := Lib.hid (HOM.out.chg hc5 (by simp))
   obtain ⟨kb, hkb⟩ : ∃ b, wa.heap.size = b := ⟨_, rfl⟩
   have HKB := Lib.hid hkb
   have HKPB := Lib.hid (show pb + 1 ≤ kb by rw [← hkb]; have h2 := HC.out.size; have h3 := HSB.out; omega)
   have HVW := Lib.hid ((HV.out.fresh HC5.out).up (Nat.le_refl w5.heap.size))
   have HK5 := Lib.hid (show kb < w5.heap.size from by rw [← hkb]; have := HCM.out.size; have := HOM5.out.lt; omega)
   rw [HTE.out]
   rw [hkb] at HOM5 ⊢
   clear hmm x0 x1 y0 y1 z0 z1 x0n x1n y0n y1n z0n hw2 hwk hnw hc5 hkb hsz
   go_wp2
   go_loopw [59] (fun c wr => ∃ k : Nat, k ≤ W.length ∧ c = .int .i64 k ∧ (∃ n, n ≤ k * 100000 ∧ IMap wr kb n (Plain.kmAt (W.take k))) ∧ Chg [kb] w5 wr) (fun c _ => W.length - (intOf c).toNat)
   case atStart => exact ⟨0, Nat.zero_le _, rfl, ⟨_, Nat.le_refl _, HOM5.out⟩, Chg.refl _ _⟩
   case round =>
    obtain ⟨k, hk, rfl, ⟨mn, hmn, hom⟩, hcq⟩ := hrel
    have HCQ := Lib.hid hcq
    have HMK := Lib.hid hom
    clear hom hcq
    by_cases hlt : k < W.length
    ·obtain ⟨wg, wc', da, dc, hwe, hf1, hf2, hfr⟩ := nest_face (HNW.out.other HCQ.out (fun j hj cs t r hh => by simp at hj; subst hj; exact absurd rfl (HOM5.out.ne hh))) rfl hlt
     simp only [Value.slice.injEq] at hwe
     obtain ⟨rfl, -, rfl⟩ := hwe
     have hmem : W.getD k (0, []) ∈ W := by simp [List.getD, hlt]
     have HSTEP := Lib.hid (Plain.kmAt_step HKEYS.out hlt)
     obtain ⟨hnat, hk1, hk2⟩ := Plain.walk_nat HPE.out HTO.out HWK.out hmem
     have hwlen := Plain.face_len HPE.out HWK.out hmem
     have HFR := Lib.hid hfr
     have HRK := Lib.hid (fun b (hb : b ∈ (Value.slice da (W.getD k (0, [])).2.length dc).ownBlock.toList) (e : b ∈ [kb]) => by
      obtain ⟨cs, r, hh⟩ := row_kind HFR.out b (by rw [HFR.out.foot]; exact hb)
      simp at e
      exact HMK.out.ne hh e)
     have HKWR := Lib.hid (show kb < wr.heap.size from HMK.out.lt)
     obtain ⟨fc, hfc⟩ : ∃ fc, W.getD k (0, []) = fc := ⟨_, rfl⟩
     rw [hfc] at hf1 hf2 HSTEP hnat hk1 hk2 hwlen HFR HRK
     obtain ⟨key, ds⟩ := fc
     dsimp only at hf1 hf2 HSTEP hnat hk1 hk2 hwlen HFR HRK
     have HNAT := Lib.hid hnat
     have IK : I64 key := I64.mk (by omega) (by omega)
     have hmx : mn < maxLen := by unfold maxLen; omega
     have HBW := Lib.hid ((Chg.refl [] wr).alloc (.cells #[.int .i64 key, .slice da ds.length dc] 84))
     have b0 := (cell_of_row _ _ 0 _ _ _ (heap_alloc_new wr (.cells #[.int .i64 key, .slice da ds.length dc] 84))).trans (show _ = some (Value.int .i64 key) from rfl)
     have b1 := (cell_of_row _ _ 1 _ _ _ (heap_alloc_new wr (.cells #[.int .i64 key, .slice da ds.length dc] 84))).trans (show _ = some (Value.slice da ds.length dc) from rfl)
     have HMB := Lib.hid (HMK.out.chg HBW.out (by simp))
     clear hfr hmem hfc hnat
     go_upto_region 15 with fail
     clear hf1 hf2
     obtain ⟨wb, hwb⟩ : ∃ b, wr.heap.size = b := ⟨_, rfl⟩
     generalize (wr.alloc (.cells #[.int .i64 key, .slice da ds.length dc] 84)) = wq at *
     rw [hwb] at b0 b1 HKWR ⊢
     have hnb : wb ∉ [kb] := by have := HKWR.out; simp; omega
     have HNB := Lib.hid hnb
     have HB0 := Lib.hid b0
     have HB1 := Lib.hid b1
     clear hwb
     go_wp2_with (at_mapUpdate; refine wp_store _ rfl _ _ _ rfl HMB.out hmx rfl IK IK rfl rfl ?_; intro w6 m6 g6; have M6 := Lib.hid m6; have C6 := Lib.hid ((Chg.refl [kb] wq).grown g6 (fun j hj => by cases hj; exact Or.inl (by simp))); have d1 := C6.out.cell b1 hnb; clear m6 g6)
     clear d1 b0 b1
     go_loopw [71] (fun c wi => ∃ j : Nat, j ≤ ds.length ∧ c = .int .i64 j ∧ (∃ n, n ≤ k * 100000 + j + 1 ∧ IMap wi kb n (fun y => if y = key then some (Plain.leastTo key ds j) else Plain.kmAt (W.take k) y)) ∧ Chg [kb] wq wi) (fun c _ => ds.length - (intOf c).toNat)
     case atStart => exact ⟨0, Nat.zero_le _, rfl, ⟨_, by omega, M6.out⟩, C6.out⟩
     case round =>
      rename World => wi
      obtain ⟨j, hj, rfl, ⟨jn, hjn, hom⟩, hci⟩ := hrel
      have HMI := Lib.hid hom
      have HCI := Lib.hid hci
      have HQI := Lib.hid (show Chg [kb] wr wi from (HBW.out.mono (by simp)).trans hci (fun j hj => Or.inl hj))
      clear hom hci
      by_cases hlj : j < ds.length
      ·obtain ⟨dg, rfl, hcell⟩ := (HFR.out.chg HQI.out HRK.out).some (by omega)
       have cj := hcell j hlj
       obtain ⟨dn, edn, hdn⟩ := HNAT.out _ (Plain.getD_mem hlj)
       have bt := bits_twin dn (by omega)
       have d0 := HCI.out.cell HB0.out HNB.out
       have hls := Plain.leastTo_small ⟨hk1, hk2⟩ HNAT.out j (by omega)
       have htw : -4096 < Plain.twin (dn : Int) ∧ Plain.twin (dn : Int) < 4096 := by unfold Plain.twin; split <;> omega
       have HST := Lib.hid (show Plain.leastTo key ds (j + 1) = if j = 0 ∨ Plain.twin (ds.getD j 0) < Plain.leastTo key ds j then Plain.twin (ds.getD j 0) else Plain.leastTo key ds j from rfl)
       rw [edn] at cj HST
       obtain ⟨tw, htw2⟩ : ∃ x, Plain.twin (dn : Int) = x := ⟨_, rfl⟩
       rw [htw2] at bt htw HST
       have IT : I64 tw := I64.mk (by omega) (by omega)
       have hmx2 : jn < maxLen := by unfold maxLen; omega
       obtain ⟨lt, hlt2⟩ : ∃ x, Plain.leastTo key ds j = x := ⟨_, rfl⟩
       rw [hlt2] at HMI HST hls
       have HSET := Lib.hid (show ∀ x : Int, (fun y => if y = key then some x else (fun y => if y = key then some lt else Plain.kmAt (W.take k) y) y) = fun y => if y = key then some x else Plain.kmAt (W.take k) y from fun x => by
        funext y
        by_cases q : y = key
        ·rw [if_pos q, if_pos q]
        rw [if_neg q, if_neg q]; exact if_neg q)
       clear hcell edn htw2 hlt2
       by_cases h0 : j = 0
       ·subst h0
        have HNX := Lib.hid (HST.out.trans (if_pos (Or.inl rfl)))
        go_wp2_with (at_mapUpdate; refine wp_store _ rfl _ _ _ rfl HMI.out hmx2 rfl IK IT rfl rfl ?_; intro w7 m7 g7; have M7 := Lib.hid m7; have C7 := Lib.hid ((Chg.refl [kb] wi).grown g7 (fun j hj => by cases hj; exact Or.inl (by simp))); clear m7 g7)
        go_roundw
        case rel => exact ⟨1, by omega, by go_num, ⟨jn + 1, by omega, by rw [HNX.out, ← HSET.out]; exact M7.out⟩, HCI.out.trans C7.out (fun j hj => Or.inl hj)⟩
        case measure => simp [intOf]; omega
       have hj0 : ((j : Int) == 0) = false := by simpa using h0
       have hrun : (Instr.lookup 79 (.map (some kb)) (.int .i64 key) false).run Tryz.prog wi = .ok (.int .i64 lt) wi := by
        have := HMI.out.look_run IK
        simpa using this
       by_cases h1 : tw < lt
       ·have b1 : decide (tw < lt) = true := decide_eq_true h1
        have HNX := Lib.hid (HST.out.trans (if_pos (Or.inr h1)))
        clear h1
        go_wp2_with (at_mapUpdate; refine wp_store _ rfl _ _ _ rfl HMI.out hmx2 rfl IK IT rfl rfl ?_; intro w7 m7 g7; have M7 := Lib.hid m7; have C7 := Lib.hid ((Chg.refl [kb] wi).grown g7 (fun j hj => by cases hj; exact Or.inl (by simp))); clear m7 g7)
        go_roundw
        case rel => exact ⟨j + 1, by omega, by go_num, ⟨jn + 1, by omega, by rw [HNX.out, ← HSET.out]; exact M7.out⟩, HCI.out.trans C7.out (fun j hj => Or.inl hj)⟩
        case measure => simp [intOf]; omega
       have b1 : decide (tw < lt) = false := decide_eq_false h1
       have HNX := Lib.hid (HST.out.trans (if_neg (fun h => h.elim h0 h1)))
       clear h1
       go_wp2
       go_roundw
       case rel => exact ⟨j + 1, by omega, by go_num, ⟨jn, by omega, by rw [HNX.out]; exact HMI.out⟩, HCI.out⟩
       case measure => simp [intOf]; omega
      have e : j = ds.length := by omega
      subst e
      have HF := Lib.hid (show (fun y => if y = key then some (Plain.leastTo key ds ds.length) else Plain.kmAt (W.take k) y) = Plain.kmAt (W.take (k + 1)) from HSTEP.out)
      clear hlj
      go_wp2
      go_roundw
      case rel => exact ⟨k + 1, by omega, by go_num, ⟨jn, by omega, by rw [← HF.out]; exact HMI.out⟩, HCQ.out.trans HQI.out (fun j hj => Or.inl hj)⟩
      case measure => simp [intOf]; omega
    have e : k = W.length := by omega
    subst e
    rw [List.take_length] at HMK
    clear hlt hk
    rename World => wm
    have HSR9 := Lib.hid (fun i => Nat.lt_of_le_of_lt (HSR.out i) (by decide : 10000 < 1000000000))
    have HKN := Lib.hid (show ∀ cs t r, wm.heap[kb]? ≠ some (.cells cs t r) from fun cs t r hh => HMK.out.ne hh rfl)
    have HC5M := Lib.hid (show Chg [kb] wa wm from (HC5.out.mono (by simp)).trans HCQ.out (fun j hj => Or.inl hj))
    have HVM := Lib.hid ((HVW.out.mix HCQ.out (fun j hj => by
     simp at hj
     have := HKPB.out
     exact ⟨by omega, Or.inr (fun cs t r hh => HOM5.out.ne hh hj)⟩)).up (Nat.le_refl wm.heap.size))
    have HCAM := Lib.hid (show Chg [] wa wm from (Chg.refl [] wa).trans HC5M.out (fun j hj => Or.inr (by simp at hj; have := HKB.out; omega)))
    have HC1W := Lib.hid (HC1R.out.trans HCAM.out (by simp))
    have HCPB := Lib.hid (HC.out.trans HCAM.out (by simp))
    obtain ⟨KM, hKM⟩ : ∃ KM : Int → Int, (fun y => (Plain.kmAt W y).getD 0) = KM := ⟨_, rfl⟩
    have HKMV := Lib.hid (show ∀ y, (Plain.kmAt W y).getD 0 = KM y from fun y => by rw [← hKM])
    have HML := Lib.hid (show ∀ l, Plain.mirList W l = (l.map KM).mergeSort fun x y => decide (x ≤ y) from fun l => by unfold Plain.mirList; rw [← hKM])
    have HKI := Lib.hid (show ∀ y, -4096 < KM y ∧ KM y < 4096 from fun y => by
     rw [← HKMV.out]
     unfold Plain.kmAt
     cases e : W.find? (fun f => decide (f.1 = y)) with
     | none => exact ⟨by decide, by decide⟩
     | some f =>
      have hf := List.mem_of_find?_eq_some e
      obtain ⟨a, b, c⟩ := Plain.walk_nat HPE.out HTO.out HWK.out hf
      exact Plain.leastTo_small ⟨b, c⟩ a _ (Nat.le_refl _))
    obtain ⟨x0, x1, y0, y1, z0, z1, hsz⟩ := HBX.out _ HC1W.out
    clear hKM x0 x1 y0 y1 z0 hsz
    go_wp2
    clear z1
    go_loopw [97] (fun c wr => ∃ k : Nat, k ≤ same.length ∧ c = .int .i64 k ∧ PlanVar wr pb (pb + 1) wr.heap.size TT ((same.take k).map (Plain.mirList W)) ∧ IMap wr kb mn (Plain.kmAt W) ∧ Chg [pb] w3 wr) (fun c _ => same.length - (intOf c).toNat)
    case atStart => exact ⟨0, Nat.zero_le _, rfl, by simpa using HVM.out, HMK.out, HCPB.out⟩
    case round =>
     obtain ⟨k, hk, rfl, hpv, him, hc⟩ := hrel
     have HVR := Lib.hid hpv
     have HIM := Lib.hid him
     have HCR := Lib.hid hc
     have HC1X := Lib.hid (show Chg [] w1 wr from HC3.out.trans hc (fun j hj => Or.inr (by simp at hj; have := HPB.out; have := HC2.out.size; omega)))
     clear hpv him hc
     by_cases hlt : k < same.length
     ·obtain ⟨tb, toff, u, rfl, tcell, -, hrow⟩ := (HS.out.fresh (HW.out _ HC1X.out)).rowc hlt
      have hTl := HSR.out k
      have HMS := Lib.hid (show (same.take (k + 1)).map (Plain.mirList W) = (same.take k).map (Plain.mirList W) ++ [Plain.mirList W (same.getD k [])] by rw [List.take_succ_eq_append_getElem hlt, List.map_append, show same.getD k [] = same[k] by simp [List.getD, hlt]]; rfl)
      have hml : ((same.take k).map (Plain.mirList W)).length < 1000000000 := by simp; omega
      have HBR := Lib.hid (show pb + 1 ≤ wr.heap.size by have h2 := HCR.out.size; have h3 := HSB.out; omega)
      obtain ⟨T, hT⟩ : ∃ T, same.getD k [] = T := ⟨_, rfl⟩
      rw [hT] at hrow hTl HMS
      have HROW := Lib.hid hrow
      obtain ⟨uo, uc, rfl, hI, -⟩ := hrow
      have HTI := Lib.hid hI
      obtain ⟨L0, hL0⟩ : ∃ L0, (same.take k).map (Plain.mirList W) = L0 := ⟨_, rfl⟩
      rw [hL0] at HVR HMS hml
      clear hT hL0 hI
      go_wp2
      clear tcell
      go_loopw [21, 103] (fun mv c wi => ∃ j : Nat, j ≤ T.length ∧ c = .int .i64 j ∧ RowAt wi wr.heap.size mv ((T.take j).map KM) ∧ Chg [] wr wi) (fun _ c _ => T.length - (intOf c).toNat)
      case atStart => exact ⟨0, Nat.zero_le _, rfl, rowNil' _ _, Chg.refl _ _⟩
      case round =>
       rename World => wi
       obtain ⟨j, hj, rfl, hmr, hci⟩ := hrel
       have HMR := Lib.hid hmr
       have HCI := Lib.hid hci
       have HBI := Lib.hid (show wr.heap.size ≤ wi.heap.size from hci.size)
       obtain ⟨oo, oc, rfl⟩ := hmr.shape
       have hkl : ((T.take j).map KM).length ≤ j := by simp; omega
       clear hmr hci
       by_cases hlj : j < T.length
       ·obtain ⟨rb, roff, rfl, rc⟩ := IntsAt.cellAt (HROW.out.fresh HCI.out) hlj
        have HNX := Lib.hid (show (T.take (j + 1)).map KM = (T.take j).map KM ++ [KM (T.getD j 0)] by rw [List.take_succ_eq_append_getElem hlj, List.map_append, show T.getD j 0 = T[j] by simp [List.getD, hlj]]; rfl)
        have IX : I64 (T.getD j 0) := HTI.out _ (Plain.getD_mem hlj)
        obtain ⟨x, hx⟩ : ∃ x, T.getD j 0 = x := ⟨_, rfl⟩
        rw [hx] at rc HNX IX
        have hkx := HKI.out x
        have hrun : (Instr.lookup 79 (.map (some kb)) (.int .i64 x) false).run Tryz.prog wi = .ok (.int .i64 (KM x)) wi := by
         have := (HIM.out.chg HCI.out (by simp)).look_run IX
         rw [HKMV.out] at this
         exact this
        obtain ⟨y, hy⟩ : ∃ y, KM x = y := ⟨_, rfl⟩
        rw [hy] at hrun HNX hkx
        have IY : I64 y := I64.mk (by omega) (by omega)
        obtain ⟨M, hM⟩ : ∃ M, (T.take j).map KM = M := ⟨_, rfl⟩
        rw [hM] at HNX HMR hkl ⊢
        have hml2 : M.length < 4294967290 := by omega
        clear hx hy hM
        go_wp2_with (at_builtin; refine wl_push rfl _ _ rfl (B := wr.heap.size) (v := .slice oo _ oc) rfl rfl HMR.out IY HBI.out hml2 rfl ?_; intro v6 w6 r6 c6 f6; have R6 := Lib.hid r6; have C6 := Lib.hid c6; clear r6 c6 f6)
        go_roundw
        case rel => exact ⟨j + 1, by omega, by go_num, by rw [HNX.out]; exact R6.out, HCI.out.trans C6.out (fun b hb => Or.inr (by rw [HMR.out.foot] at hb; exact (HMR.out.low b hb).1))⟩
        case measure => simp [intOf]; omega
       have e : j = T.length := by omega
       subst e
       rw [List.take_length] at HMR hkl ⊢
       have HMT := Lib.hid (HML.out T)
       obtain ⟨M, hM⟩ : ∃ M, T.map KM = M := ⟨_, rfl⟩
       rw [hM] at HMR hkl HMT ⊢
       clear hlj hM
       go_wp2_with fail
       refine (sortI_any _ M _ _ (by omega) HMR.out).mono ?_
       rintro e w7 ⟨rfl, hr7, hc7⟩
       have hsl2 : (M.mergeSort fun x y => decide (x ≤ y)).length = M.length := (List.mergeSort_perm _ _).length_eq
       rw [← HMT.out] at hr7 hsl2
       have HC17 := Lib.hid (show Chg [] wr w7 from HCI.out.trans hc7 (fun b hb => Or.inr (HMR.out.low b hb).1))
       obtain ⟨S, hS2⟩ : ∃ S, Plain.mirList W T = S := ⟨_, rfl⟩
       rw [hS2] at hr7 hsl2 HMS
       rw [← hsl2] at hr7 ⊢
       have HR7 := Lib.hid hr7
       have HV7 := Lib.hid (HVR.out.fresh HC17.out)
       have HB7 := Lib.hid (show pb + 1 ≤ w7.heap.size by have h1 := HC17.out.size; have h2 := HBR.out; omega)
       obtain ⟨a1, c1, a2, c2, -, p1⟩ := HV7.out.cells
       have P1 := Lib.hid p1
       clear hr7 hc7 hS2 hsl2 hkl
       obtain ⟨g5, q5, w8, hr5, hf5, ⟨u5, hu5⟩, hv5, own5, hc5, ho5⟩ := HV7.out.push1 HB7.out HR7.out HBR.out hml (Or.inl rfl) P1.out 28
       have HV8 := Lib.hid hv5
       have HC8 := Lib.hid hc5
       have HO8 := Lib.hid ho5
       clear hv5 hc5 ho5
       go_wp2_with (at_builtin; refine wl_apprun rfl _ _ 28 rfl rfl rfl hr5 ?_)
       clear hf5 hu5 hr5 p1
       generalize (w8.setCell ⟨pb, 1, none⟩ (.slice (some ⟨g5, 0, none⟩) (L0.length + 1) q5)) = w9 at *
       have hkno : kb ∉ own5 := fun hm => (HO8.out kb hm).elim (fun e => by have := HKPB.out; omega) (fun ⟨_, cs, r, hh⟩ => (HIM.out.chg HC17.out (by simp)).ne hh rfl)
       have HIM9 := Lib.hid ((HIM.out.chg HC17.out (by simp)).chg HC8.out hkno)
       have HC9 := Lib.hid (show Chg [pb] w3 w9 from HCR.out.trans ((HC17.out.mono (by simp)).trans HC8.out (fun j hj => Or.inl hj) : Chg own5 wr w9) (fun j hj => (HO8.out j hj).imp (fun e => by simp [e]) (fun h => by have := HSB.out; omega)))
       clear hkno
       go_roundw
       case rel => exact ⟨k + 1, by omega, by go_num, by rw [HMS.out]; exact HV8.out.up (Nat.le_refl _), HIM9.out, HC9.out⟩
       case measure => simp [intOf]; omega
     have e : k = same.length := by omega
     subst e
     rw [List.take_length] at HVR
     have HTW := Lib.hid (fun l (hl : l ∈ same) => (Plain.parted HZ.out HWL.out).two l hl)
     obtain ⟨a1, c1, a2, c2, p0, p1⟩ := HVR.out.cells
     rw [List.length_map] at p1
     clear hlt hk
     go_wp2_with fail
     refine (HVR.out.orders (fun l hl e => by
      obtain ⟨m, hm, rfl⟩ := List.mem_map.1 hl
      have h1 := HTW.out m hm
      have h2 := Plain.mirList_len W m
      rw [e] at h2
      simp at h2
      omega) (by rw [List.length_map]; omega) p1).mono ?_
     rintro e w7 ⟨rfl, s', hv7, hperm, hsort, own7, hc7, ho7⟩
     have HSE := Lib.hid (show s' = Plain.mirSame g p turn same from Plain.mir_lists HZ.out (by rw [← HWE.out]; exact hperm) hsort)
     have HV7 := Lib.hid hv7
     have HC17 := Lib.hid (show Chg [] w1 w7 from (HC1X.out.trans (hc7 : Chg own7 wr w7) (fun j hj => Or.inr (by have := ho7 j hj; have := HPB.out; have := HC2.out.size; omega))))
     obtain ⟨a1', c1', a2', c2', q0, q1⟩ := hv7.cells
     have Q0 := Lib.hid q0
     have Q1 := Lib.hid q1
     have hr8 := HRES.out _ HC17.out
     have HR9 := Lib.hid hr8
     have r0 := (cell_of_row _ _ 0 _ _ _ hr8).trans (show _ = some (Value.slice none 0 0) from rfl)
     have r1 := (cell_of_row _ _ 1 _ _ _ hr8).trans (show _ = some (Value.slice none 0 0) from rfl)
     have f0 := free_at hr8 0
     have f1 := free_at hr8 1
     clear p0 p1 hv7 hperm hsort hc7 ho7 hr8
     go_wp2
     obtain ⟨o0, o1, o2⟩ := out_store HR9.out (.slice a1' TT.length c1') (.slice a2' s'.length c2')
     have hwv : w.heap.size + 4 ≤ pb := HS24.out
     have hvl := HV7.out.low o2 (fun j hj => by have : j = w.heap.size + 3 := (by simpa using hj); omega)
     have p00 := o2.cell Q0.out (by simp; omega)
     have p11 := o2.cell Q1.out (by simp; omega)
     have hfin := fun own wx (hcx : Chg own _ wx) (hlw : ∀ j ∈ own, j < w.heap.size) => (hvl.low hcx (fun j hj => by have := hlw j hj; omega)).readAt (hcx.cell p00 (fun hm => absurd (show pb < w.heap.size from hlw _ hm) (by omega))) (hcx.cell p11 (fun hm => absurd (show pb < w.heap.size from hlw _ hm) (by omega)))
     refine bodyPost_ret (v := .tuple #[.agg #[.slice a1' TT.length c1', .slice a2' s'.length c2'], .int .i64 0]) (by simp [results, Tryz.results13, go_sem, o0, o1]) rfl ?_
     exact ⟨_, by rw [HZ.out], fun h => absurd HZ.out h, fun _ own wx h1 h2 => by rw [HTT.out, ← HSE.out]; exact hfin own wx h1 h2, (HW.out _ HC17.out).trans o2 (fun j hj => Or.inr (by simp at hj; omega))⟩
 obtain ⟨er, her⟩ : ∃ er, Plain.planErr g p turn same = er := ⟨_, rfl⟩
 have HER := Lib.hid her
 have hb : (er != 0) = true := by rw [← her]; simpa using hz
 have HNE := Lib.hid hz
 rw [her]
 clear hz her
 go_wp2
 obtain ⟨o0, o1, o2⟩ := out_store HR8.out (.slice none 0 0) (.slice none 0 0)
 refine bodyPost_ret (v := .tuple #[.agg #[.slice none 0 0, .slice none 0 0], .int .i64 er]) (by simp [results, Tryz.results13, go_sem, o0, o1]) rfl ?_
 exact ⟨_, by rw [HER.out], fun _ => rfl, fun h => absurd h HNE.out, (HW.out _ HC2.out).trans o2 (fun j hj => Or.inr (by simp at hj; omega))⟩
end Go.Proofs.YtednbiophjndpaaGreat
