/- ref07.Key, ref09.Left: their contracts. Conditions: walks, a drawing that lie in memory and read so, of a bounded size. -/
import Derived.Test.YtfgbkpbakignhaaGreatVRegs8
import Derived.Test.YtfgbkpbakignhaaGreatVCycS
import Derived.Test.YtfgbkpbakignhaaGreatVRefF
import Derived.Test.YtfgbkpbakignhaaGreatVRefQ
import Derived.Test.YtfgbkpbakignhaaGreatVAllP
namespace Go.Proofs.YtfgbkpbakignhaaGreat
open Go.RowKit Go.Maps

namespace Plain
theorem key_marks {g : Gr} {p : Pt} {turn : List (List Int)} {W : List Face} (hpe : p.err g = 0) (hW : WalksOk g p turn W) {f : Face} (hf : f ∈ W) (d : Int) : (f.1 = d ∨ d ∈ f.2) ↔ d ∈ marks f := by
 rcases face_cases hpe hW hf with ⟨h1, -, -, -⟩ | ⟨n, l, h1, h2, -⟩
 ·rw [marks_nil h1, h1]
  simp only [List.not_mem_nil, or_false, List.mem_singleton]
  exact eq_comm
 ·rw [marks_some (by rw [h2]; simp), h1, h2]
  simp only [List.mem_cons]
  exact ⟨fun h => h.elim (fun e => Or.inl e.symm) id, Or.inr⟩
def keyOf8 (W : List Face) (d : Int) : Int := ((regionAt (places8 W) d).map fun (k : Nat) => (W.getD k (0, [])).1).getD 0
theorem keyOf8_hit {W : List Face} {d : Int} {k : Nat} (h : regionAt (places8 W) d = some k) : keyOf8 W d = (W.getD k (0, [])).1 := by unfold keyOf8; rw [h]; rfl
theorem regsOf_is {g : Gr} {p : Pt} {turn same : List (List Int)} (h : Parted g p turn same) : IsRegs g p turn same (regionsOf g p turn same) := by
 rw [← (regs_ref h).eq h]
 exact regs_ref h
theorem left_num {g : Gr} {p : Pt} {turn same : List (List Int)} (h : Parted g p turn same) {d : Int} (hd : (leftOf (regionsOf g p turn same) (walksOf g p turn) d).isSome = true) :
  ∃ i : Nat, i < (regionsOf g p turn same).length ∧ keyOf8 (walksOf g p turn) d ∈ (regionsOf g p turn same).getD i [] ∧ lf (leftOf (regionsOf g p turn same) (walksOf g p turn)) d = i ∧ (∀ j, j < i → keyOf8 (walksOf g p turn) d ∉ (regionsOf g p turn same).getD j []) ∧ (regionAt (places8 (walksOf g p turn)) d).isSome = true := by
 have hr := regsOf_is h
 have hflat := (hr.perm.flatten).trans h.all
 generalize regionsOf g p turn same = ll at *
 have hnd : ll.flatten.Nodup := hflat.nodup_iff.2 h.keysNodup
 unfold lf
 unfold leftOf at hd ⊢
 cases e : regionAt (places8 (walksOf g p turn)) d with
 | none => rw [e] at hd; cases hd
 | some k =>
  rw [keyOf8_hit e]
  have hk := (regionAt_lt e).1
  rw [places8_len] at hk
  have hm : ((walksOf g p turn).getD k (0, [])).1 ∈ ll.flatten := hflat.mem_iff.2 (List.mem_map.2 ⟨_, by simp [List.getD, hk], rfl⟩)
  simp only [Option.map_some, Option.getD_some]
  unfold numOf
  cases e2 : regionAt ll ((walksOf g p turn).getD k (0, [])).1 with
  | none => exact absurd hm (regionAt_none.1 e2)
  | some i =>
   obtain ⟨h1, h2⟩ := regionAt_lt e2
   refine ⟨i, h1, h2, rfl, fun j hj hin => ?_, rfl⟩
   have := regionAt_hit hnd (by omega) hin
   rw [e2] at this
   have := Option.some.inj this
   omega
end Plain

set_option maxRecDepth 100000 in
set_option maxHeartbeats 4000000 in
theorem refKey_any (ov : Value) (W : List Plain.Face) (xs : List Value) (d : Int) (B : Nat) (w : World) (hl : W.length < 1000000000) (hm : ∀ f ∈ W, (f.1 = d ∨ d ∈ f.2) ↔ d ∈ Plain.marks f) (hn : (Plain.places8 W).flatten.Nodup) (h : Nest w B 66 2 ov W.length xs (faceCells W)) :
  Calls Tryz.prog 79 #[ov, .int .i64 d] w fun e w' => e = .returned (.tuple #[.int .i64 (Plain.keyOf8 W d), .bool (Plain.regionAt (Plain.places8 W) d).isSome]) ∧ Chg [] w w' := by
 have HN := Lib.hid h
 have HM := Lib.hid hm
 have HND := Lib.hid hn
 obtain ⟨oo, oc, rfl⟩ := h.shape
 clear h hm hn
 go_enter Tryz.func79, Tryz.ntmps79
 go_wp2
 go_loopw [6] (fun c wr => ∃ k : Nat, k ≤ W.length ∧ c = .int .i64 k ∧ Hid (∀ i, i < k → d ∉ Plain.marks (W.getD i (0, []))) ∧ Chg [] w wr) (fun c _ => W.length - (intOf c).toNat)
 case atStart => exact ⟨0, Nat.zero_le _, rfl, Lib.hid (by omega), Chg.refl _ _⟩
 case round =>
  obtain ⟨k, hk, rfl, hno, hc⟩ := hrel
  have HC := Lib.hid hc
  by_cases hlt : k < W.length
  ·obtain ⟨wg, wcc, fa, fc, ewo, m0, m1, ur⟩ := nest_face HN.out rfl hlt
   simp only [Value.slice.injEq] at ewo
   obtain ⟨rfl, -, rfl⟩ := ewo
   have f0 := hc.cell m0 (by simp)
   have f1 := hc.cell m1 (by simp)
   have UR := Lib.hid (ur.ints.fresh hc)
   have hfm : W.getD k (0, []) ∈ W := by simp [List.getD, hlt]
   have hmk := HM.out _ hfm
   have HHIT := Lib.hid (fun (h : d ∈ Plain.marks (W.getD k (0, []))) => (show Plain.regionAt (Plain.places8 W) d = some k from Plain.regionAt_hit HND.out (by rw [Plain.places8_len]; exact hlt) (by rw [Plain.places8_getD hlt]; exact h)))
   have HNO := Lib.hid (fun (h : d ∉ Plain.marks (W.getD k (0, []))) i (hi : i < k + 1) => show d ∉ Plain.marks (W.getD i (0, [])) from by
    by_cases e : i = k
    ·rw [e]; exact h
    ·exact hno.out i (by omega))
   have HKO := Lib.hid (fun h => Plain.keyOf8_hit (W := W) (d := d) (k := k) h)
   obtain ⟨f, hf⟩ : ∃ f, W.getD k (0, []) = f := ⟨_, rfl⟩
   rw [hf] at f0 f1 UR hmk HHIT HNO HKO
   have HMK := Lib.hid hmk
   clear m0 m1 ur hc hf hfm hmk
   by_cases q : f.1 = d
   ·have b1 : (f.1 == d) = true := by rw [beq_iff_eq]; exact q
    have HE := Lib.hid (HHIT.out (HMK.out.1 (Or.inl q)))
    have HKE := Lib.hid (HKO.out HE.out)
    clear q
    go_wp2
    exact bodyPost_ret (v := .tuple #[.int .i64 f.1, .bool true]) (by simp [results, Tryz.results79, go_sem]) rfl ⟨by rw [HKE.out, HE.out]; rfl, HC.out⟩
   ·have b1 : (f.1 == d) = false := by rw [beq_eq_false_iff_ne]; exact q
    go_wp2_with fail
    refine (in_any _ f.2 d _ UR.out).mono ?_
    rintro e w2 ⟨rfl, hc2⟩
    have HC2 := Lib.hid (HC.out.trans hc2 (by simp))
    have f0 := hc2.cell f0 (by simp)
    clear f1 hc2
    by_cases hin : d ∈ f.2
    ·have HE := Lib.hid (HHIT.out (HMK.out.1 (Or.inr hin)))
     have HKE := Lib.hid (HKO.out HE.out)
     rw [decide_eq_true hin]
     clear hin q b1
     go_wp2
     exact bodyPost_ret (v := .tuple #[.int .i64 f.1, .bool true]) (by simp [results, Tryz.results79, go_sem]) rfl ⟨by rw [HKE.out, HE.out]; rfl, HC2.out⟩
    ·have HE := Lib.hid (HNO.out fun h => (HMK.out.2 h).elim q hin)
     rw [decide_eq_false hin]
     clear hin q b1
     go_wp2
     go_roundw
     case rel => exact ⟨k + 1, by omega, by go_num, HE, HC2.out⟩
     case measure => simp [intOf]; omega
  ·have e : k = W.length := by omega
   subst e
   have HE := Lib.hid (show Plain.regionAt (Plain.places8 W) d = none from Plain.regionAt_none.2 fun h => by
    obtain ⟨l, hl, hdl⟩ := List.mem_flatten.1 h
    obtain ⟨f, hf, rfl⟩ := List.mem_map.1 hl
    obtain ⟨i, hi, rfl⟩ := List.getElem_of_mem hf
    exact hno.out i hi (by simpa [List.getD, hi] using hdl))
   have HKE := Lib.hid (show Plain.keyOf8 W d = 0 by unfold Plain.keyOf8; rw [HE.out]; rfl)
   clear hc
   go_wp2
   exact bodyPost_ret (v := .tuple #[.int .i64 0, .bool false]) (by simp [results, Tryz.results79, go_sem]) rfl ⟨by rw [HKE.out, HE.out]; rfl, HC.out⟩

set_option maxRecDepth 100000 in
set_option maxHeartbeats 4000000 in
theorem refLeft_any (vg vp vx : Value) (g : Plain.Gr) (p : Plain.Pt) (turn same : List (List Int)) (d : Int) (w : World) (hpl : p.e.length ≤ 1000) (hpv : p.v.length ≤ 1000) (hrl : ∀ v, (Plain.turnAt turn v).length < 4294967296) (hsl : same.length ≤ 10000) (hz : Plain.planErr g p turn same = 0) (hd : (Plain.leftOf (Plain.regionsOf g p turn same) (Plain.walksOf g p turn) d).isSome = true) (hg : GrAt w vg g) (hp : PtAt w vp p) (hx : PlAt w vx turn same) :
  Calls Tryz.prog 41 #[vg, vp, vx, .int .i64 d] w fun e w' => e = .returned (.int .i64 (Plain.lf (Plain.leftOf (Plain.regionsOf g p turn same) (Plain.walksOf g p turn)) d)) ∧ Chg [] w w' := by
 have hte := (Plain.flatErr_zero (Plain.planErr_zero hz).1).1
 obtain ⟨hpe, hto⟩ := Plain.turnErr_zero hte
 have hW := Plain.walks_ok hpe hto
 have hpt := Plain.parted hz hW
 have HPZ := Lib.hid hz
 have HPE := Lib.hid hpe
 have HTO := Lib.hid hto
 have HRL := Lib.hid hrl
 have HLN := Lib.hid (Plain.left_num hpt hd)
 have HMK := Lib.hid (fun f (hf : f ∈ Plain.walksOf g p turn) => Plain.key_marks hpe hW hf d)
 have HPN := Lib.hid (Plain.places_nodup hpe hW)
 have hwl := hW.len
 have hrg : (Plain.regionsOf g p turn same).length ≤ 10000 := by
  rw [← (Plain.regs_ref hpt).eq hpt]
  have := Plain.regTo_len (Plain.walksOf g p turn) same (Plain.walksOf g p turn).length
  omega
 have HRG := Lib.hid hrg
 clear hte hpe hto hW hpt hrl hz hd hrg
 have HG := Lib.hid hg
 have HP := Lib.hid hp
 have HX := Lib.hid hx
 obtain ⟨eo, cap, rfl, hn, hm, hsm, hcell⟩ := hg
 obtain ⟨v1, v2, rfl, hv, he⟩ := hp
 obtain ⟨ao, ac, rfl, has, ham, hacell⟩ := hv
 obtain ⟨bo, bc, rfl, hbs, hbm, hbcell⟩ := he
 have HAC := Lib.hid hacell
 have HBC := Lib.hid hbcell
 obtain ⟨t1, t2, rfl, ht, hs⟩ := hx
 have HT := Lib.hid ht
 have HS := Lib.hid hs
 obtain ⟨tno, tc, rfl, htm, -⟩ := ht
 obtain ⟨so, sc, rfl, hsm2, hsc⟩ := hs
 obtain ⟨-, -, hc1⟩ := box_two w #[.int .i64 g.n, .slice eo g.e.length cap] #[.slice ao p.v.length ac, .slice bo p.e.length bc] 24 27
 obtain ⟨-, hc3⟩ := box_three w #[.int .i64 g.n, .slice eo g.e.length cap] #[.slice ao p.v.length ac, .slice bo p.e.length bc] #[.slice tno turn.length tc, .slice so same.length sc] 24 27 30
 have HC1 := Lib.hid (hc1.trans hc3 (by simp))
 have HBXS := Lib.hid (fun w2 h => three_boxes w (g := g) (p := p) (turn := turn) (same := same) (eo := eo) (ao := ao) (bo := bo) (tno := tno) (so := so) (cap := cap) (ac := ac) (bc := bc) (tc := tc) (sc := sc) (w2 := w2) h)
 clear hcell hacell hbcell hsm hbs has hn hc1 hc3 hsc
 obtain ⟨x0, x1, y0, y1, z0, z1, hsz⟩ := HBXS.out _ (Chg.refl _ _)
 go_enter Tryz.func41, Tryz.ntmps41
 go_wp2_with fail
 refine (refWalks_any _ _ _ g p turn _ (by omega) (by omega) HPE.out HTO.out HRL.out (HG.out.fresh HC1.out) (HP.out.fresh HC1.out) (HT.out.fresh HC1.out)).mono ?_
 rintro e w2 ⟨wv, wx, rfl, hnw, hc2⟩
 obtain ⟨w1, hw1⟩ : ∃ w1, (((w.alloc (.cells #[.int .i64 g.n, .slice eo g.e.length cap] 24)).alloc (.cells #[.slice ao p.v.length ac, .slice bo p.e.length bc] 27)).alloc (.cells #[.slice tno turn.length tc, .slice so same.length sc] 30)) = w1 := ⟨_, rfl⟩
 rw [hw1] at HC1 HBXS hc2 hnw
 clear hw1
 have HNW := Lib.hid hnw
 have HC2 := Lib.hid hc2
 have HW2 := Lib.hid (HC1.out.trans HC2.out (by simp))
 have HBX := Lib.hid (fun wx (hx : Chg [] w2 wx) => HBXS.out wx (HC2.out.trans hx (by simp)))
 clear x0 x1 y0 y1 z0 z1 hsz hc2 hnw
 go_wp2_with fail
 refine (refKey_any _ (Plain.walksOf g p turn) _ d _ _ (by omega) HMK.out HPN.out HNW.out).mono ?_
 rintro e w3 ⟨rfl, hc3⟩
 have HC3 := Lib.hid hc3
 have HW3 := Lib.hid (HW2.out.trans hc3 (by simp))
 obtain ⟨x0, x1, y0, y1, z0, z1, hsz⟩ := HBX.out _ hc3
 obtain ⟨i0, hi0, hin0, hlf, hfirst, his⟩ := HLN.out
 rw [his]
 have HIN := Lib.hid hin0
 have HFI := Lib.hid hfirst
 have HLF := Lib.hid hlf
 obtain ⟨key, hkey⟩ : ∃ key, Plain.keyOf8 (Plain.walksOf g p turn) d = key := ⟨_, rfl⟩
 rw [hkey] at HIN HFI ⊢
 clear hc3 hin0 hfirst hlf his hkey HLN
 go_wp2_with fail
 refine (refRegions8_any _ _ _ g p turn same _ (by omega) (by omega) HRL.out hsl HPZ.out (HG.out.fresh HW3.out) (HP.out.fresh HW3.out) (HX.out.fresh HW3.out)).mono ?_
 rintro e w4 ⟨rv, rfl, hrr, hc4⟩
 have HRR := Lib.hid hrr
 have HW4 := Lib.hid (HW3.out.trans hc4 (by simp))
 obtain ⟨ll, hll⟩ : ∃ ll, Plain.regionsOf g p turn same = ll := ⟨_, rfl⟩
 have hrg := HRG.out
 rw [hll] at HRR HIN HFI hi0 hrg hrr HLF
 have HLE := Lib.hid hll
 obtain ⟨ro, rc, rfl, -, -⟩ := hrr
 clear x0 x1 y0 y1 z0 z1 hsz hc4 hll
 go_wp2
 go_loopw [13] (fun c wr => ∃ k : Nat, k ≤ ll.length ∧ c = .int .i64 k ∧ k ≤ i0 ∧ Chg [] w4 wr) (fun c _ => ll.length - (intOf c).toNat)
 case atStart => exact ⟨0, Nat.zero_le _, rfl, Nat.zero_le _, Chg.refl _ _⟩
 case round =>
  obtain ⟨k, hk, rfl, hki, hc⟩ := hrel
  have HC := Lib.hid hc
  have hlt : k < ll.length := by omega
  obtain ⟨tb, toff, uo, uc, rfl, tcell, hrow⟩ := (HRR.out.fresh hc).row hlt
  have HKI := Lib.hid (fun (e : k = i0) => (show key ∈ ll.getD k [] by rw [e]; exact HIN.out))
  have HKO := Lib.hid (fun (e : k ≠ i0) => (show key ∉ ll.getD k [] from HFI.out k (by omega)))
  obtain ⟨T, hT⟩ : ∃ T, ll.getD k [] = T := ⟨_, rfl⟩
  rw [hT] at tcell hrow HKI HKO
  have HROW := Lib.hid hrow
  have HLK := Lib.hid (fun (e : k = i0) => (show Plain.lf (Plain.leftOf (Plain.regionsOf g p turn same) (Plain.walksOf g p turn)) d = k from by rw [HLE.out, HLF.out, e]))
  clear hrow hc hT
  by_cases e : k = i0
  ·have HKE := Lib.hid (HKI.out e)
   have HRV := Lib.hid (HLK.out e)
   clear e
   go_wp2_with fail
   refine (in_any _ T key _ HROW.out).mono ?_
   rintro e w5 ⟨rfl, hc5⟩
   rw [decide_eq_true HKE.out]
   have HC5 := Lib.hid ((HW4.out.trans HC.out (by simp)).trans hc5 (by simp))
   clear hc5 tcell
   go_wp2
   go_ret
   exact ⟨ret_int HRV.out.symm, HC5.out⟩
  ·have HKE := Lib.hid (HKO.out e)
   have hk2 : k + 1 ≤ i0 := by omega
   clear e
   go_wp2_with fail
   refine (in_any _ T key _ HROW.out).mono ?_
   rintro e w5 ⟨rfl, hc5⟩
   rw [decide_eq_false HKE.out]
   have HC5 := Lib.hid (HC.out.trans hc5 (by simp))
   clear hc5 tcell
   go_wp2
   go_roundw
   case rel => exact ⟨k + 1, by omega, by go_num, hk2, HC5.out⟩
   case measure => simp [intOf]; omega
end Go.Proofs.YtfgbkpbakignhaaGreat
/- ref04.Head, ref10.on, ref10.Cycle: their contracts. Conditions: a graph, a part, a list of ints that lie in memory and read so, of a bounded size. -/
namespace Go.Proofs.YtfgbkpbakignhaaGreat
open Go.RowKit Go.Maps

namespace Plain
theorem befAt_next {cy : List Int} {i : Nat} (hi : i < cy.length) : befAt cy ((i + 1) % cy.length) = cy.getD i 0 := by
 by_cases h : i + 1 < cy.length
 ·rw [Nat.mod_eq_of_lt h]; exact befAt_succ cy i
 ·have e : i + 1 = cy.length := by omega
  rw [e, Nat.mod_self, befAt_zero, ← e]; rfl
theorem cyc_ref_ok {g : Gr} {p : Pt} {cy : List Int} (h0 : p.err g = 0) (h1 : 0 < cy.length) (h2 : ∀ k, k < cy.length → dartAt p cy k = true) (hh : ∀ i, i < cy.length → g.head (cy.getD i 0) = g.tail (cy.getD ((i + 1) % cy.length) 0))
  (hn : ∀ i, i < cy.length → ∀ k, k < i → cy.getD k 0 / 2 ≠ cy.getD i 0 / 2 ∧ g.tail (cy.getD k 0) ≠ g.tail (cy.getD i 0)) : cycOk g p cy = true := by
 refine cyc_ok h0 h1 h2 fun k hk => ?_
 unfold cycAt
 rw [lastAt_none.2 fun i hi => (hn k hk i hi).2, lastAt_none.2 fun i hi => (hn k hk i hi).1]
 have : g.head (befAt cy k) = g.tail (cy.getD k 0) := by
  by_cases e : k = 0
  ·subst e
   have := hh (cy.length - 1) (by omega)
   rwa [show cy.length - 1 + 1 = cy.length by omega, Nat.mod_self] at this
  ·have := hh (k - 1) (by omega)
   rw [show k - 1 + 1 = k by omega, Nat.mod_eq_of_lt hk] at this
   have hb := befAt_succ cy (k - 1)
   rw [show k - 1 + 1 = k by omega] at hb
   rw [hb]; exact this
 rw [decide_eq_true this]
 rfl
theorem cyc_ref_head {g : Gr} {p : Pt} {cy : List Int} {i : Nat} (hi : i < cy.length) (h : g.head (cy.getD i 0) ≠ g.tail (cy.getD ((i + 1) % cy.length) 0)) : cycOk g p cy = false := by
 refine cyc_at (Nat.mod_lt (i + 1) (by omega : 0 < cy.length)) ?_
 unfold cycAt
 rw [befAt_next hi, decide_eq_false h, Bool.and_false]
theorem cyc_ref_new {g : Gr} {p : Pt} {cy : List Int} {i k : Nat} (hi : i < cy.length) (hk : k < i) (h : cy.getD k 0 / 2 = cy.getD i 0 / 2 ∨ g.tail (cy.getD k 0) = g.tail (cy.getD i 0)) : cycOk g p cy = false := by
 refine cyc_at hi ?_
 unfold cycAt
 rcases h with h | h
 ·have : (lastAt (· / 2) cy i (cy.getD i 0 / 2)).isSome = true := by
   rw [Option.isSome_iff_ne_none]
   exact fun q => lastAt_none.1 q k hk h
  rw [this, Bool.or_true, Bool.not_true, Bool.false_and]
 ·have : (lastAt g.tail cy i (g.tail (cy.getD i 0))).isSome = true := by
   rw [Option.isSome_iff_ne_none]
   exact fun q => lastAt_none.1 q k hk h
  rw [this, Bool.true_or, Bool.not_true, Bool.false_and]
end Plain

set_option maxRecDepth 100000 in
theorem refHead_any (v : Value) (g : Plain.Gr) (d : Nat) (w : World) (hd : d / 2 < g.e.length) (hm : g.e.length < 4294967296) (h : GrAt w v g) :
  Calls Tryz.prog 27 #[v, .int .i64 d] w fun e w' => e = .returned (.int .i64 (g.head d)) ∧ Chg [] w w' := by
 have HG := Lib.hid h
 obtain ⟨eo, cap, rfl, -, -, -, -⟩ := h
 have HC1 := Lib.hid ((Chg.refl [] w).alloc (.cells #[.int .i64 g.n, .slice eo g.e.length cap] 24))
 have x0 := (cell_of_row _ _ 0 _ _ _ (heap_alloc_new w (.cells #[.int .i64 g.n, .slice eo g.e.length cap] 24))).trans (show _ = some (Value.int .i64 g.n) from rfl)
 have x1 := (cell_of_row _ _ 1 _ _ _ (heap_alloc_new w (.cells #[.int .i64 g.n, .slice eo g.e.length cap] 24))).trans (show _ = some (Value.slice eo g.e.length cap) from rfl)
 obtain ⟨td, htd, htq⟩ : ∃ td : Nat, Plain.twin d = td ∧ td / 2 = d / 2 := by
  refine ⟨(Plain.twin d).toNat, ?_, ?_⟩ <;> (unfold Plain.twin; split <;> omega)
 have HTD := Lib.hid htd
 have HHD := Lib.hid (show g.tail (td : Int) = g.head d by rw [← htd, Plain.tail_twin])
 have htl : td / 2 < g.e.length := by omega
 have hdb : d < 4611686018427387904 := by omega
 clear htd htq
 go_enter Tryz.func27, Tryz.ntmps27
 go_wp2
 generalize (w.alloc (.cells #[.int .i64 g.n, .slice eo g.e.length cap] 24)) = w1 at *
 have hS0 : Chg [] w1 w1.drew := (Chg.refl [] w1).drew
 refine wp_region_way (Chg [] w1) [0, 1] (Way.line [0, 1, 2, 3, 4] .done) (by kernel_rfl) (by kernel_rfl) ?_
 simp only [Way.line]
 repeat
  first
   | (refine along_off rfl (by rfl) (by rfl) (fun _ _ _ h => h) hS0 ?_; simp only [Act.put, List.getElem_toArray, List.getElem_cons_zero, List.getElem_cons_succ, List.setIfInBounds_toArray, List.set_cons_zero, List.set_cons_succ])
   | (refine along_read (v := ?_) rfl (by rfl) (by rfl) (fun _ _ _ h => h) hS0 (fun w' hS' => ?_) ?_; rotate_left; (focus (have rd0 := hS'.cell x0 (by simp); have rd1 := hS'.cell x1 (by simp); clear hS'; go_simp; try with_reducible rfl)); simp only [Act.put, List.getElem_toArray, List.getElem_cons_zero, List.getElem_cons_succ, List.setIfInBounds_toArray, List.set_cons_zero, List.set_cons_succ])
   | (refine along_skip rfl (by rfl) (by rfl) hS0 ?_; simp only [Act.put, List.getElem_toArray, List.getElem_cons_zero, List.getElem_cons_succ, List.setIfInBounds_toArray, List.set_cons_zero, List.set_cons_succ])
 refine along_op rfl (by rfl) (by rfl) (fun K hK => ?_)
 go_simp
 refine (twin_any d _ hdb).mono ?_
 rintro e w2 ⟨rfl, rfl⟩
 refine hK.out _ _ (fun _ => hS0) ?_
 clear hK K
 rw [HTD.out]
 try simp only [Act.put, List.getElem_toArray, List.getElem_cons_zero, List.getElem_cons_succ, List.setIfInBounds_toArray, List.set_cons_zero, List.set_cons_succ]
 refine along_op rfl (by rfl) (by rfl) (fun K hK => ?_)
 go_simp
 refine (tail_any _ g td _ htl hm ((HG.out.fresh HC1.out).fresh hS0)).mono ?_
 rintro e w3 ⟨rfl, hcx⟩
 have hS1 := hS0.trans hcx (by simp)
 clear hS0 hcx
 have hS0 := hS1
 clear hS1
 refine hK.out _ _ (fun _ => hS0) ?_
 clear hK K
 try simp only [Act.put, List.getElem_toArray, List.getElem_cons_zero, List.getElem_cons_succ, List.setIfInBounds_toArray, List.set_cons_zero, List.set_cons_succ]
 rw [HHD.out]
 refine along_op rfl (by rfl) (by rfl) (fun K hK => ?_)
 go_simp
 refine hK.out _ _ (fun _ => hS0) ?_
 clear hK K
 try simp only [Act.put, List.getElem_toArray, List.getElem_cons_zero, List.getElem_cons_succ, List.setIfInBounds_toArray, List.set_cons_zero, List.set_cons_succ]
 refine along_done ?_
 have HCF := Lib.hid (HC1.out.trans hS0 (by simp))
 clear x0 x1 hS0
 go_wp2
 go_ret
 exact ⟨rfl, HCF.out⟩

set_option maxRecDepth 100000 in
theorem refOn_any (vc : Value) (cy : List Int) (e : Int) (w : World) (hcl : cy.length ≤ 1000000) (hd : ∀ d ∈ cy, ∃ n : Nat, d = n ∧ n < 2048) (hc : IntsAt w vc cy) :
  Calls Tryz.prog 40 #[vc, .int .i64 e] w fun r w' => r = .returned (.bool (decide (e ∈ cy.map (· / 2)))) ∧ Chg [] w w' := by
 have HCC := Lib.hid hc
 have HD := Lib.hid hd
 obtain ⟨co, cc, rfl, -, -, -⟩ := hc
 clear hd
 go_enter Tryz.func40, Tryz.ntmps40
 go_wp2
 go_loopw [5] (fun c wr => ∃ k : Nat, k ≤ cy.length ∧ c = .int .i64 k ∧ Hid (∀ i, i < k → cy.getD i 0 / 2 ≠ e) ∧ Chg [] w wr) (fun c _ => cy.length - (intOf c).toNat)
 case atStart => exact ⟨0, Nat.zero_le _, rfl, Lib.hid (by omega), Chg.refl _ _⟩
 case round =>
  obtain ⟨k, hk, rfl, hno, hc⟩ := hrel
  have HC := Lib.hid hc
  by_cases hlt : k < cy.length
  ·obtain ⟨rb, roff, rfl, rc⟩ := IntsAt.cellAt HCC.out hlt
   have rcell := hc.cell rc (by simp)
   have hm := Plain.getD_mem hlt
   obtain ⟨n, e1, e2⟩ := HD.out _ hm
   have HIN := Lib.hid (fun (q : cy.getD k 0 / 2 = e) => (show e ∈ cy.map (· / 2) from List.mem_map.2 ⟨_, hm, q⟩))
   have HNO := Lib.hid (fun (q : cy.getD k 0 / 2 ≠ e) i (hi : i < k + 1) => show cy.getD i 0 / 2 ≠ e from by
    by_cases h : i = k
    ·rw [h]; exact q
    ·exact hno.out i (by omega))
   rw [e1] at rcell HIN HNO
   have q1 : Int.tdiv (n : Int) 2 = ((n / 2 : Nat) : Int) := by rw [Int.tdiv_eq_ediv_of_nonneg (by omega)]; rfl
   rw [show (n : Int) / 2 = ((n / 2 : Nat) : Int) from rfl] at HIN HNO
   obtain ⟨ee, hee⟩ : ∃ ee, n / 2 = ee := ⟨_, rfl⟩
   rw [hee] at HIN HNO q1
   have we : IntKind.i64.wrap (ee : Int) = ee := IntWalk.i64_in _ (by omega)
   clear rc hm e1 hc hee
   by_cases q : (ee : Int) = e
   ·have HI := Lib.hid (HIN.out q)
    have b1 : ((ee : Int) == e) = true := by rw [beq_iff_eq]; exact q
    clear q
    go_wp2
    go_ret
    exact ⟨ret_bool (show true = _ from (decide_eq_true HI.out).symm), HC.out⟩
   ·have HN := Lib.hid (HNO.out q)
    have b1 : ((ee : Int) == e) = false := by rw [beq_eq_false_iff_ne]; exact q
    clear q
    go_wp2
    go_roundw
    case rel => exact ⟨k + 1, by omega, by go_num, HN, HC.out⟩
    case measure => simp [intOf]; omega
  ·have h : k = cy.length := by omega
   subst h
   have HN := Lib.hid (show e ∉ cy.map (· / 2) from fun h => by
    obtain ⟨d, hd, q⟩ := List.mem_map.1 h
    obtain ⟨i, hi, rfl⟩ := Plain.mem_getD hd
    exact hno.out i hi q)
   clear hc
   go_wp2
   go_ret
   exact ⟨ret_bool (show false = _ from (decide_eq_false HN.out).symm), HC.out⟩

set_option maxRecDepth 100000 in
set_option maxHeartbeats 8000000 in
theorem refCycle_any (vg vp vc : Value) (g : Plain.Gr) (p : Plain.Pt) (cy : List Int) (w : World) (hpl : p.e.length ≤ 10000) (hpv : p.v.length ≤ 10000) (hgl : g.e.length ≤ 10000) (hcl : cy.length ≤ 1000000) (hg : GrAt w vg g) (hp : PtAt w vp p) (hc : IntsAt w vc cy) :
  Calls Tryz.prog 10 #[vg, vp, vc] w fun e w' => e = .returned (.bool (Plain.cycOk g p cy)) ∧ Chg [] w w' := by
 have HCC := Lib.hid hc
 obtain ⟨co, cc, rfl, hci, hcm, -⟩ := hc
 have HCI := Lib.hid hci
 clear hci hcm
 have HG := Lib.hid hg
 have HP := Lib.hid hp
 obtain ⟨eo, cap, rfl, hn, hm, hsm, hcell⟩ := hg
 obtain ⟨v1, v2, rfl, hv, he⟩ := hp
 obtain ⟨ao, ac, rfl, has, ham, hacell⟩ := hv
 obtain ⟨bo, bc, rfl, hbs, hbm, hbcell⟩ := he
 have HAC := Lib.hid hacell
 have HBC := Lib.hid hbcell
 have HAS := Lib.hid has
 have HBS := Lib.hid hbs
 obtain ⟨-, -, hc1⟩ := box_two w #[.int .i64 g.n, .slice eo g.e.length cap] #[.slice ao p.v.length ac, .slice bo p.e.length bc] 24 27
 have HC1 := Lib.hid hc1
 have HBXS := Lib.hid (fun w2 h => two_boxes w (g := g) (p := p) (eo := eo) (ao := ao) (bo := bo) (cap := cap) (ac := ac) (bc := bc) (w2 := w2) h)
 clear hcell hacell hbcell hsm has hbs hn hc1
 have HPEI := Lib.hid (show IntsAt w (.slice bo p.e.length bc) p.e from ⟨bo, bc, rfl, HBS.out, hbm, HBC.out⟩)
 obtain ⟨x0, x1, y0, y1, hsz⟩ := HBXS.out _ (Chg.refl _ _)
 go_enter Tryz.func10, Tryz.ntmps10
 go_wp2_with fail
 refine (refPart_any _ _ g p _ (by omega) (by omega) (by omega) (HG.out.fresh HC1.out) (HP.out.fresh HC1.out)).mono ?_
 rintro e w2 ⟨rfl, hc2⟩
 obtain ⟨w1, hw1⟩ : ∃ w1, ((w.alloc (.cells #[.int .i64 g.n, .slice eo g.e.length cap] 24)).alloc (.cells #[.slice ao p.v.length ac, .slice bo p.e.length bc] 27)) = w1 := ⟨_, rfl⟩
 rw [hw1] at HC1 HBXS hc2
 clear hw1 x0 x1 y0 y1 hsz
 have HC2 := Lib.hid hc2
 have HW2 := Lib.hid (HC1.out.trans hc2 (by simp))
 have HBX := Lib.hid (fun wx (hx : Chg [] w2 wx) => HBXS.out wx (HC2.out.trans hx (by simp)))
 clear hc2
 by_cases hz : p.err g = 0
 ·have HPE := Lib.hid hz
  rw [hz]
  by_cases hn : cy.length = 0
  ·have e : cy = [] := List.length_eq_zero_iff.1 hn
   subst e
   clear hn hz
   go_wp2
   go_ret
   exact ⟨ret_bool Plain.cyc_nil.symm, HW2.out⟩
  ·have hlb : ((cy.length : Int) == 0) = false := by rw [beq_eq_false_iff_ne]; omega
   have hn0 : 0 < cy.length := by omega
   clear hz hn
   go_wp2
   go_loopw [7] (fun c wr => ∃ k : Nat, k ≤ cy.length ∧ c = .int .i64 k ∧ Hid (∀ i, i < k → Plain.dartAt p cy i = true) ∧ Chg [] w2 wr) (fun c _ => cy.length - (intOf c).toNat)
   case atStart => exact ⟨0, Nat.zero_le _, rfl, Lib.hid (fun i hi => absurd hi (Nat.not_lt_zero i)), Chg.refl _ _⟩
   case round =>
    obtain ⟨k, hk, rfl, HD, hc⟩ := hrel
    have HC := Lib.hid hc
    obtain ⟨x0, x1, y0, y1, hsz⟩ := HBX.out _ hc
    have HCW := Lib.hid (HW2.out.trans hc (by simp))
    clear hc
    by_cases hlt : k < cy.length
    ·obtain ⟨rb, roff, rfl, rc⟩ := IntsAt.cellAt HCC.out hlt
     have rcell := HCW.out.cell rc (by simp)
     have IY := HCI.out (cy.getD k 0) (Plain.getD_mem hlt)
     obtain ⟨d, hd⟩ : ∃ d, cy.getD k 0 = d := ⟨_, rfl⟩
     rw [hd] at rcell IY
     have HDE := Lib.hid hd
     clear rc hd
     by_cases hneg : d < 0
     ·have HF := Lib.hid (Plain.cyc_dart (g := g) (p := p) hlt (by unfold Plain.dartAt; rw [HDE.out, decide_eq_false]; omega))
      have hb : decide (d < 0) = true := decide_eq_true hneg
      go_wp2
      have hS0 : Chg [] wr wr.drew := (Chg.refl [] wr).drew
      refine wp_region_way (Chg [] wr) [0, 1, 2, 3, 4, 5, 6, 7, 8, 9, 10, 11, 12, 13, 14, 15, 16, 17, 18, 19, 20, 21, 22, 23, 25, 26] (Way.line [0, 1, 2, 3, 4, 5, 6, 7, 8, 9, 10, 11, 12, 13, 14, 15, 16, 17, 18, 19, 20, 21, 22, 23, 24, 25, 26] .done) (by kernel_rfl) (by kernel_rfl) ?_
      simp only [Way.line]
      repeat
       first
        | (refine along_off rfl (by rfl) (by rfl) (fun _ _ _ h => h) hS0 ?_; simp only [Act.put, List.getElem_toArray, List.getElem_cons_zero, List.getElem_cons_succ, List.setIfInBounds_toArray, List.set_cons_zero, List.set_cons_succ])
        | (refine along_read (v := ?_) rfl (by rfl) (by rfl) (fun _ _ _ h => h) hS0 (fun w' hS' => ?_) ?_; rotate_left; (focus (have rd0 := hS'.cell x1 (by simp); have rd1 := hS'.cell y1 (by simp); have rd2 := hS'.cell rcell (by simp); clear hS'; go_simp; try with_reducible rfl)); simp only [Act.put, List.getElem_toArray, List.getElem_cons_zero, List.getElem_cons_succ, List.setIfInBounds_toArray, List.set_cons_zero, List.set_cons_succ])
        | (refine along_skip rfl (by rfl) (by rfl) hS0 ?_; simp only [Act.put, List.getElem_toArray, List.getElem_cons_zero, List.getElem_cons_succ, List.setIfInBounds_toArray, List.set_cons_zero, List.set_cons_succ])
      refine along_done ?_
      have HCF := Lib.hid (HCW.out.trans hS0 (by simp))
      clear x0 x1 y0 y1 hsz rcell hS0
      go_wp2
      go_ret
      exact ⟨ret_bool HF.out.symm, HCF.out⟩
     ·have hb : decide (d < 0) = false := decide_eq_false hneg
      obtain ⟨q, hq⟩ : ∃ q, Int.tdiv d 2 = q := ⟨_, rfl⟩
      have HQ := Lib.hid (show d / 2 = q by rw [← hq, Int.tdiv_eq_ediv_of_nonneg (by omega)])
      have wq : IntKind.i64.wrap q = q := IntWalk.i64_in _ (by have := HQ.out; have := IY.bounds; omega)
      by_cases hge : (g.e.length : Int) ≤ q
      ·have hb2 : decide (q ≥ (g.e.length : Int)) = true := decide_eq_true hge
       have HF := Lib.hid (Plain.cyc_dart (g := g) (p := p) hlt (by unfold Plain.dartAt; rw [HDE.out, HQ.out]; exact decide_eq_false fun h => by have := (Plain.Pt.edge_in HPE.out h.2).2; omega))
       go_wp2
       have hS0 : Chg [] wr wr.drew := (Chg.refl [] wr).drew
       refine wp_region_way (Chg [] wr) [0, 1, 2, 3, 4, 5, 6, 7, 8, 9, 10, 11, 12, 13, 14, 15, 16, 17, 18, 19, 20, 21, 22, 23, 25, 26] (Way.line [0, 1, 2, 3, 4, 5, 6, 7, 8, 9, 10, 11, 12, 13, 14, 15, 16, 17, 18, 19, 20, 21, 22, 23, 24, 25, 26] .done) (by kernel_rfl) (by kernel_rfl) ?_
       simp only [Way.line]
       repeat
        first
         | (refine along_off rfl (by rfl) (by rfl) (fun _ _ _ h => h) hS0 ?_; simp only [Act.put, List.getElem_toArray, List.getElem_cons_zero, List.getElem_cons_succ, List.setIfInBounds_toArray, List.set_cons_zero, List.set_cons_succ])
         | (refine along_read (v := ?_) rfl (by rfl) (by rfl) (fun _ _ _ h => h) hS0 (fun w' hS' => ?_) ?_; rotate_left; (focus (have rd0 := hS'.cell x1 (by simp); have rd1 := hS'.cell y1 (by simp); have rd2 := hS'.cell rcell (by simp); clear hS'; go_simp; try with_reducible rfl)); simp only [Act.put, List.getElem_toArray, List.getElem_cons_zero, List.getElem_cons_succ, List.setIfInBounds_toArray, List.set_cons_zero, List.set_cons_succ])
         | (refine along_skip rfl (by rfl) (by rfl) hS0 ?_; simp only [Act.put, List.getElem_toArray, List.getElem_cons_zero, List.getElem_cons_succ, List.setIfInBounds_toArray, List.set_cons_zero, List.set_cons_succ])
       refine along_done ?_
       have HCF := Lib.hid (HCW.out.trans hS0 (by simp))
       clear x0 x1 y0 y1 hsz rcell hS0
       go_wp2
       go_ret
       exact ⟨ret_bool HF.out.symm, HCF.out⟩
      ·have hb2 : decide (q ≥ (g.e.length : Int)) = false := decide_eq_false hge
       go_wp2
       have hS0 : Chg [] wr wr.drew := (Chg.refl [] wr).drew
       refine wp_region_way (Chg [] wr) [0, 1, 2, 3, 4, 5, 6, 7, 8, 9, 10, 11, 12, 13, 14, 15, 16, 17, 18, 19, 20, 21, 22, 23, 25, 26] (Way.line [0, 1, 2, 3, 4, 5, 6, 7, 8, 9, 10, 11, 12, 13, 14, 15, 16, 17, 18, 19, 20, 21, 22, 23, 24, 25, 26] .done) (by kernel_rfl) (by kernel_rfl) ?_
       simp only [Way.line]
       repeat
        first
         | (refine along_off rfl (by rfl) (by rfl) (fun _ _ _ h => h) hS0 ?_; simp only [Act.put, List.getElem_toArray, List.getElem_cons_zero, List.getElem_cons_succ, List.setIfInBounds_toArray, List.set_cons_zero, List.set_cons_succ])
         | (refine along_read (v := ?_) rfl (by rfl) (by rfl) (fun _ _ _ h => h) hS0 (fun w' hS' => ?_) ?_; rotate_left; (focus (have rd0 := hS'.cell x1 (by simp); have rd1 := hS'.cell y1 (by simp); have rd2 := hS'.cell rcell (by simp); clear hS'; go_simp; try with_reducible rfl)); simp only [Act.put, List.getElem_toArray, List.getElem_cons_zero, List.getElem_cons_succ, List.setIfInBounds_toArray, List.set_cons_zero, List.set_cons_succ])
         | (refine along_skip rfl (by rfl) (by rfl) hS0 ?_; simp only [Act.put, List.getElem_toArray, List.getElem_cons_zero, List.getElem_cons_succ, List.setIfInBounds_toArray, List.set_cons_zero, List.set_cons_succ])
       refine along_op rfl (by rfl) (by rfl) (fun K hK => ?_)
       go_simp
       refine (in_any _ p.e q _ (HPEI.out.fresh (HCW.out.trans hS0 (by simp)))).mono ?_
       rintro e w3 ⟨rfl, hcx⟩
       have hS1 := hS0.trans hcx (by simp)
       clear hS0 hcx
       have hS0 := hS1
       clear hS1
       refine hK.out _ _ (fun _ => hS0) ?_
       clear hK K
       try simp only [Act.put, List.getElem_toArray, List.getElem_cons_zero, List.getElem_cons_succ, List.setIfInBounds_toArray, List.set_cons_zero, List.set_cons_succ]
       by_cases hin : q ∈ p.e
       ·rw [decide_eq_true hin]
        have HDN := Lib.hid (show ∀ i, i < k + 1 → Plain.dartAt p cy i = true from fun i hi => by
         by_cases hik : i < k
         ·exact HD.out i hik
         ·have : i = k := by omega
          subst this
          unfold Plain.dartAt
          rw [HDE.out, HQ.out]
          exact decide_eq_true ⟨by omega, hin⟩)
        clear hin
        repeat
         first
          | (refine along_off rfl (by rfl) (by rfl) (fun _ _ _ h => h) hS0 ?_; simp only [Act.put, List.getElem_toArray, List.getElem_cons_zero, List.getElem_cons_succ, List.setIfInBounds_toArray, List.set_cons_zero, List.set_cons_succ])
          | (refine along_read (v := ?_) rfl (by rfl) (by rfl) (fun _ _ _ h => h) hS0 (fun w' hS' => ?_) ?_; rotate_left; (focus (have rd0 := hS'.cell x1 (by simp); clear hS'; go_simp; try with_reducible rfl)); simp only [Act.put, List.getElem_toArray, List.getElem_cons_zero, List.getElem_cons_succ, List.setIfInBounds_toArray, List.set_cons_zero, List.set_cons_succ])
          | (refine along_skip rfl (by rfl) (by rfl) hS0 ?_; simp only [Act.put, List.getElem_toArray, List.getElem_cons_zero, List.getElem_cons_succ, List.setIfInBounds_toArray, List.set_cons_zero, List.set_cons_succ])
        refine along_done ?_
        have HC3 := Lib.hid (HC.out.trans hS0 (by simp))
        clear x0 x1 y0 y1 hsz rcell hS0
        go_wp2
        go_roundw
        case rel => exact ⟨k + 1, by omega, by go_num, HDN, HC3.out⟩
        case measure => simp [intOf]; omega
       ·have HF := Lib.hid (Plain.cyc_dart (g := g) (p := p) hlt (by unfold Plain.dartAt; rw [HDE.out, HQ.out]; exact decide_eq_false fun h => hin h.2))
        rw [decide_eq_false hin]
        clear hin
        repeat
         first
          | (refine along_off rfl (by rfl) (by rfl) (fun _ _ _ h => h) hS0 ?_; simp only [Act.put, List.getElem_toArray, List.getElem_cons_zero, List.getElem_cons_succ, List.setIfInBounds_toArray, List.set_cons_zero, List.set_cons_succ])
          | (refine along_read (v := ?_) rfl (by rfl) (by rfl) (fun _ _ _ h => h) hS0 (fun w' hS' => ?_) ?_; rotate_left; (focus (have rd0 := hS'.cell x1 (by simp); clear hS'; go_simp; try with_reducible rfl)); simp only [Act.put, List.getElem_toArray, List.getElem_cons_zero, List.getElem_cons_succ, List.setIfInBounds_toArray, List.set_cons_zero, List.set_cons_succ])
          | (refine along_skip rfl (by rfl) (by rfl) hS0 ?_; simp only [Act.put, List.getElem_toArray, List.getElem_cons_zero, List.getElem_cons_succ, List.setIfInBounds_toArray, List.set_cons_zero, List.set_cons_succ])
        refine along_done ?_
        have HCF := Lib.hid (HCW.out.trans hS0 (by simp))
        clear x0 x1 y0 y1 hsz rcell hS0
        go_wp2
        go_ret
        exact ⟨ret_bool HF.out.symm, HCF.out⟩
    ·have e : k = cy.length := by omega
     subst e
     clear x0 x1 y0 y1 hsz
     have HDN := Lib.hid (fun d hd => by
      obtain ⟨i, hi, rfl⟩ := Plain.mem_getD hd
      have h1 := HD.out i hi
      unfold Plain.dartAt at h1
      have h2 := of_decide_eq_true h1
      have hm := Plain.mem_darts.2 h2.2
      obtain ⟨n, e1, e2, e3⟩ := Plain.Pt.dart_nat HPE.out hm
      exact ⟨n, e1, e2, e3⟩ : ∀ d ∈ cy, ∃ n : Nat, d = n ∧ n / 2 < g.e.length ∧ n < 2048)
     generalize wr = wz at *
     have hgl2 : g.e.length < 4294967296 := by omega
     go_wp2
     go_loopw [8] (fun c wr => ∃ k : Nat, k ≤ cy.length ∧ c = .int .i64 k ∧ Hid (∀ i, i < k → g.head (cy.getD i 0) = g.tail (cy.getD ((i + 1) % cy.length) 0)) ∧ Hid (∀ i, i < k → ∀ j, j < i → cy.getD j 0 / 2 ≠ cy.getD i 0 / 2 ∧ g.tail (cy.getD j 0) ≠ g.tail (cy.getD i 0)) ∧ Chg [] wz wr) (fun c _ => cy.length - (intOf c).toNat)
     case atStart => exact ⟨0, Nat.zero_le _, rfl, Lib.hid (by omega), Lib.hid (by omega), Chg.refl _ _⟩
     case round =>
      obtain ⟨k, hk, rfl, HH, HN, hc⟩ := hrel
      have HCK := Lib.hid hc
      have HZK := Lib.hid (HC.out.trans hc (by simp))
      have HWK := Lib.hid (HCW.out.trans hc (by simp))
      obtain ⟨x0, x1, y0, y1, hsz⟩ := HBX.out _ HZK.out
      clear hc y0 y1 hsz
      by_cases hlt : k < cy.length
      ·obtain ⟨rb, roff, rfl, rc⟩ := IntsAt.cellAt HCC.out hlt
       have rcell := HWK.out.cell rc (by simp)
       obtain ⟨n, e1, e2, e3⟩ := HDN.out _ (Plain.getD_mem hlt)
       have HXH := Lib.hid (fun h => Plain.cyc_ref_head (g := g) (p := p) (cy := cy) hlt h)
       have HXN := Lib.hid (fun (j : Nat) (hj : j < k) h => Plain.cyc_ref_new (g := g) (p := p) (cy := cy) hlt hj h)
       have HHN := Lib.hid (fun (h : g.head (cy.getD k 0) = g.tail (cy.getD ((k + 1) % cy.length) 0)) => (show ∀ i, i < k + 1 → g.head (cy.getD i 0) = g.tail (cy.getD ((i + 1) % cy.length) 0) from fun i hi => by
        by_cases q : i = k
        ·rw [q]; exact h
        ·exact HH.out i (by omega)))
       have HNN := Lib.hid (fun (h : ∀ j, j < k → cy.getD j 0 / 2 ≠ cy.getD k 0 / 2 ∧ g.tail (cy.getD j 0) ≠ g.tail (cy.getD k 0)) => (show ∀ i, i < k + 1 → ∀ j, j < i → cy.getD j 0 / 2 ≠ cy.getD i 0 / 2 ∧ g.tail (cy.getD j 0) ≠ g.tail (cy.getD i 0) from fun i hi j hj => by
        by_cases q : i = k
        ·rw [q] at hj ⊢; exact h j hj
        ·exact HN.out i (by omega) j hj))
       have wk : IntKind.i64.wrap ((k : Int) + 1) = (k : Int) + 1 := IntWalk.i64_in _ (by omega)
       obtain ⟨nx, hnx⟩ : ∃ nx, (k + 1) % cy.length = nx := ⟨_, rfl⟩
       have hnl : nx < cy.length := by rw [← hnx]; exact Nat.mod_lt _ hn0
       have hrem : Int.tmod ((k : Int) + 1) (cy.length : Int) = (nx : Int) := by rw [← hnx, Int.tmod_eq_emod_of_nonneg (by omega)]; rfl
       have wnx : IntKind.i64.wrap (nx : Int) = nx := IntWalk.i64_in _ (by omega)
       obtain ⟨rb', roff', erb, rc2⟩ := IntsAt.cellAt HCC.out hnl
       simp only [Option.some.injEq, Addr.mk.injEq, and_true] at erb
       obtain ⟨rfl, rfl⟩ := erb
       have rcell2 := HWK.out.cell rc2 (by simp)
       obtain ⟨m, f1, f2, f3⟩ := HDN.out _ (Plain.getD_mem hnl)
       rw [hnx] at HXH HHN
       rw [f1] at rcell2 HXH HHN
       have HK1 := Lib.hid e1
       rw [e1] at rcell HXH HXN HHN HNN
       have HGR := Lib.hid (HG.out.fresh HWK.out)
       obtain ⟨h, hh⟩ : ∃ h, g.head (n : Int) = h := ⟨_, rfl⟩
       obtain ⟨t, ht⟩ : ∃ t, g.tail (m : Int) = t := ⟨_, rfl⟩
       rw [hh, ht] at HXH HHN
       have HHH := Lib.hid hh
       have HTT := Lib.hid ht
       clear rc rc2 e1 f1 hnx hh ht
       go_wp2
       have hS0 : Chg [] wr wr.drew := (Chg.refl [] wr).drew
       refine wp_region_way (Chg [] wr) [0, 1, 2, 3, 4, 6, 7, 9] (Way.line [0, 1, 2, 3, 4, 6, 7, 5, 8, 9] .done) (by kernel_rfl) (by kernel_rfl) ?_
       simp only [Way.line]
       repeat
        first
         | (refine along_off rfl (by rfl) (by rfl) (fun _ _ _ h => h) hS0 ?_; simp only [Act.put, List.getElem_toArray, List.getElem_cons_zero, List.getElem_cons_succ, List.setIfInBounds_toArray, List.set_cons_zero, List.set_cons_succ])
         | (refine along_read (v := ?_) rfl (by rfl) (by rfl) (fun _ _ _ h => h) hS0 (fun w' hS' => ?_) ?_; rotate_left; (focus (have rd0 := hS'.cell x0 (by simp); have rd1 := hS'.cell x1 (by simp); have rd2 := hS'.cell rcell (by simp); clear hS'; go_simp; try with_reducible rfl)); simp only [Act.put, List.getElem_toArray, List.getElem_cons_zero, List.getElem_cons_succ, List.setIfInBounds_toArray, List.set_cons_zero, List.set_cons_succ])
         | (refine along_skip rfl (by rfl) (by rfl) hS0 ?_; simp only [Act.put, List.getElem_toArray, List.getElem_cons_zero, List.getElem_cons_succ, List.setIfInBounds_toArray, List.set_cons_zero, List.set_cons_succ])
       refine along_op rfl (by rfl) (by rfl) (fun K hK => ?_)
       go_simp
       refine (refHead_any _ g n _ e2 hgl2 (HGR.out.fresh hS0)).mono ?_
       rintro e w3 ⟨rfl, hcx⟩
       have hS1 := hS0.trans hcx (by simp)
       clear hS0 hcx
       have hS0 := hS1
       clear hS1
       refine hK.out _ _ (fun _ => hS0) ?_
       clear hK K
       try simp only [Act.put, List.getElem_toArray, List.getElem_cons_zero, List.getElem_cons_succ, List.setIfInBounds_toArray, List.set_cons_zero, List.set_cons_succ]
       rw [HHH.out]
       refine along_op rfl (by rfl) (by rfl) (fun K hK => ?_)
       go_simp
       refine (tail_any _ g m _ f2 hgl2 (HGR.out.fresh hS0)).mono ?_
       rintro e w4 ⟨rfl, hcx⟩
       have hS1 := hS0.trans hcx (by simp)
       clear hS0 hcx
       have hS0 := hS1
       clear hS1
       refine hK.out _ _ (fun _ => hS0) ?_
       clear hK K
       try simp only [Act.put, List.getElem_toArray, List.getElem_cons_zero, List.getElem_cons_succ, List.setIfInBounds_toArray, List.set_cons_zero, List.set_cons_succ]
       rw [HTT.out]
       by_cases hht : h = t
       ·subst hht
        have HHD := Lib.hid (HHN.out rfl)
        have bht : (h != h) = false := by simp
        repeat
         first
          | (refine along_off rfl (by rfl) (by rfl) (fun _ _ _ h => h) hS0 ?_; simp only [Act.put, List.getElem_toArray, List.getElem_cons_zero, List.getElem_cons_succ, List.setIfInBounds_toArray, List.set_cons_zero, List.set_cons_succ])
          | (refine along_read (v := ?_) rfl (by rfl) (by rfl) (fun _ _ _ h => h) hS0 (fun w' hS' => ?_) ?_; rotate_left; (focus (have rd0 := hS'.cell x0 (by simp); clear hS'; go_simp; try with_reducible rfl)); simp only [Act.put, List.getElem_toArray, List.getElem_cons_zero, List.getElem_cons_succ, List.setIfInBounds_toArray, List.set_cons_zero, List.set_cons_succ])
          | (refine along_skip rfl (by rfl) (by rfl) hS0 ?_; simp only [Act.put, List.getElem_toArray, List.getElem_cons_zero, List.getElem_cons_succ, List.setIfInBounds_toArray, List.set_cons_zero, List.set_cons_succ])
        refine along_done ?_
        have HC4 := Lib.hid (HCK.out.trans hS0 (by simp))
        clear x0 x1 rcell rcell2 hS0
        go_wp2
        go_loopw [10] (fun c wi => ∃ j : Nat, j ≤ k ∧ c = .int .i64 j ∧ Hid (∀ i, i < j → cy.getD i 0 / 2 ≠ (n : Int) / 2 ∧ g.tail (cy.getD i 0) ≠ g.tail n) ∧ Chg [] wz wi) (fun c _ => k - (intOf c).toNat)
        case atStart => exact ⟨0, Nat.zero_le _, rfl, Lib.hid (by omega), HC4.out⟩
        case round =>
         rename World => wi
         obtain ⟨j, hj, rfl, HJ, hc⟩ := hrel
         have HCJ := Lib.hid hc
         have HWJ := Lib.hid (HCW.out.trans hc (by simp))
         obtain ⟨x0, x1, y0, y1, hsz⟩ := HBX.out _ (HC.out.trans hc (by simp))
         clear hc y0 y1 hsz
         by_cases hjl : j < k
         ·obtain ⟨rb1, roff1, erb, rc⟩ := IntsAt.cellAt HCC.out hlt
          simp only [Option.some.injEq, Addr.mk.injEq, and_true] at erb
          obtain ⟨rfl, rfl⟩ := erb
          have rcell := HWJ.out.cell rc (by simp)
          rw [HK1.out] at rcell
          have hjc : j < cy.length := by omega
          obtain ⟨rb2, roff2, erb, rc2⟩ := IntsAt.cellAt HCC.out hjc
          simp only [Option.some.injEq, Addr.mk.injEq, and_true] at erb
          obtain ⟨rfl, rfl⟩ := erb
          have rcell2 := HWJ.out.cell rc2 (by simp)
          obtain ⟨u, g1, g2, g3⟩ := HDN.out _ (Plain.getD_mem hjc)
          have HXJ := Lib.hid (HXN.out j hjl)
          have HJN := Lib.hid (fun (h : cy.getD j 0 / 2 ≠ (n : Int) / 2 ∧ g.tail (cy.getD j 0) ≠ g.tail n) => (show ∀ i, i < j + 1 → cy.getD i 0 / 2 ≠ (n : Int) / 2 ∧ g.tail (cy.getD i 0) ≠ g.tail n from fun i hi => by
           by_cases q : i = j
           ·rw [q]; exact h
           ·exact HJ.out i (by omega)))
          rw [g1] at rcell2 HXJ HJN
          have q1 : Int.tdiv (n : Int) 2 = ((n / 2 : Nat) : Int) := by rw [Int.tdiv_eq_ediv_of_nonneg (by omega)]; rfl
          have q2 : Int.tdiv (u : Int) 2 = ((u / 2 : Nat) : Int) := by rw [Int.tdiv_eq_ediv_of_nonneg (by omega)]; rfl
          rw [show (n : Int) / 2 = ((n / 2 : Nat) : Int) from rfl, show (u : Int) / 2 = ((u / 2 : Nat) : Int) from rfl] at HXJ HJN
          obtain ⟨en, hen⟩ : ∃ en, n / 2 = en := ⟨_, rfl⟩
          obtain ⟨eu, heu⟩ : ∃ eu, u / 2 = eu := ⟨_, rfl⟩
          have HEN := Lib.hid hen
          have HEU := Lib.hid heu
          rw [hen] at HXJ HJN q1
          rw [heu] at HXJ HJN q2
          have wn : IntKind.i64.wrap (en : Int) = en := IntWalk.i64_in _ (by omega)
          have wu : IntKind.i64.wrap (eu : Int) = eu := IntWalk.i64_in _ (by omega)
          obtain ⟨tn, htn⟩ : ∃ tn, g.tail (n : Int) = tn := ⟨_, rfl⟩
          obtain ⟨tu, htu⟩ : ∃ tu, g.tail (u : Int) = tu := ⟨_, rfl⟩
          rw [htn, htu] at HXJ HJN
          have HTN := Lib.hid htn
          have HTU := Lib.hid htu
          have HNX := Lib.hid (show n / 2 < g.e.length from e2)
          have HGJ := Lib.hid (HG.out.fresh HWJ.out)
          clear rc rc2 g1 hen heu htn htu
          by_cases hee : (eu : Int) = (en : Int)
          ·have HF := Lib.hid (HXJ.out (Or.inl hee))
           have b1 : ((eu : Int) == (en : Int)) = true := by rw [beq_iff_eq]; exact hee
           clear hee
           go_wp2
           have hS0 : Chg [] wi wi.drew := (Chg.refl [] wi).drew
           refine wp_region_way (Chg [] wi) [0, 1, 2, 3, 4, 5, 6, 7, 8, 9, 10, 11, 12, 13, 14, 15, 16, 18, 19, 20, 21, 22, 24, 25] (Way.line [0, 1, 2, 3, 4, 5, 6, 7, 8, 9, 10, 11, 12, 13, 14, 15, 16, 18, 19, 20, 21, 22, 17, 23, 24, 25] .done) (by kernel_rfl) (by kernel_rfl) ?_
           simp only [Way.line]
           repeat
            first
             | (refine along_off rfl (by rfl) (by rfl) (fun _ _ _ h => h) hS0 ?_; simp only [Act.put, List.getElem_toArray, List.getElem_cons_zero, List.getElem_cons_succ, List.setIfInBounds_toArray, List.set_cons_zero, List.set_cons_succ])
             | (refine along_read (v := ?_) rfl (by rfl) (by rfl) (fun _ _ _ h => h) hS0 (fun w' hS' => ?_) ?_; rotate_left; (focus (have rd0 := hS'.cell x0 (by simp); have rd1 := hS'.cell x1 (by simp); have rd2 := hS'.cell rcell (by simp); have rd3 := hS'.cell rcell2 (by simp); clear hS'; go_simp; try with_reducible rfl)); simp only [Act.put, List.getElem_toArray, List.getElem_cons_zero, List.getElem_cons_succ, List.setIfInBounds_toArray, List.set_cons_zero, List.set_cons_succ])
             | (refine along_skip rfl (by rfl) (by rfl) hS0 ?_; simp only [Act.put, List.getElem_toArray, List.getElem_cons_zero, List.getElem_cons_succ, List.setIfInBounds_toArray, List.set_cons_zero, List.set_cons_succ])
           refine along_done ?_
           have HCF := Lib.hid (HWJ.out.trans hS0 (by simp))
           clear x0 x1 rcell rcell2 hS0
           go_wp2
           go_ret
           exact ⟨ret_bool HF.out.symm, HCF.out⟩
          ·have b1 : ((eu : Int) == (en : Int)) = false := by rw [beq_eq_false_iff_ne]; exact hee
           go_wp2
           have hS0 : Chg [] wi wi.drew := (Chg.refl [] wi).drew
           refine wp_region_way (Chg [] wi) [0, 1, 2, 3, 4, 5, 6, 7, 8, 9, 10, 11, 12, 13, 14, 15, 16, 18, 19, 20, 21, 22, 24, 25] (Way.line [0, 1, 2, 3, 4, 5, 6, 7, 8, 9, 10, 11, 12, 13, 14, 15, 16, 18, 19, 20, 21, 22, 17, 23, 24, 25] .done) (by kernel_rfl) (by kernel_rfl) ?_
           simp only [Way.line]
           repeat
            first
             | (refine along_off rfl (by rfl) (by rfl) (fun _ _ _ h => h) hS0 ?_; simp only [Act.put, List.getElem_toArray, List.getElem_cons_zero, List.getElem_cons_succ, List.setIfInBounds_toArray, List.set_cons_zero, List.set_cons_succ])
             | (refine along_read (v := ?_) rfl (by rfl) (by rfl) (fun _ _ _ h => h) hS0 (fun w' hS' => ?_) ?_; rotate_left; (focus (have rd0 := hS'.cell x0 (by simp); have rd1 := hS'.cell x1 (by simp); have rd2 := hS'.cell rcell (by simp); have rd3 := hS'.cell rcell2 (by simp); clear hS'; go_simp; try with_reducible rfl)); simp only [Act.put, List.getElem_toArray, List.getElem_cons_zero, List.getElem_cons_succ, List.setIfInBounds_toArray, List.set_cons_zero, List.set_cons_succ])
             | (refine along_skip rfl (by rfl) (by rfl) hS0 ?_; simp only [Act.put, List.getElem_toArray, List.getElem_cons_zero, List.getElem_cons_succ, List.setIfInBounds_toArray, List.set_cons_zero, List.set_cons_succ])
           refine along_op rfl (by rfl) (by rfl) (fun K hK => ?_)
           go_simp
           refine (tail_any _ g u _ g2 hgl2 (HGJ.out.fresh hS0)).mono ?_
           rintro e w5 ⟨rfl, hcx⟩
           have hS1 := hS0.trans hcx (by simp)
           clear hS0 hcx
           have hS0 := hS1
           clear hS1
           refine hK.out _ _ (fun _ => hS0) ?_
           clear hK K
           try simp only [Act.put, List.getElem_toArray, List.getElem_cons_zero, List.getElem_cons_succ, List.setIfInBounds_toArray, List.set_cons_zero, List.set_cons_succ]
           rw [HTU.out]
           refine along_op rfl (by rfl) (by rfl) (fun K hK => ?_)
           go_simp
           refine (tail_any _ g n _ HNX.out hgl2 (HGJ.out.fresh hS0)).mono ?_
           rintro e w6 ⟨rfl, hcx⟩
           have hS1 := hS0.trans hcx (by simp)
           clear hS0 hcx
           have hS0 := hS1
           clear hS1
           refine hK.out _ _ (fun _ => hS0) ?_
           clear hK K
           try simp only [Act.put, List.getElem_toArray, List.getElem_cons_zero, List.getElem_cons_succ, List.setIfInBounds_toArray, List.set_cons_zero, List.set_cons_succ]
           rw [HTN.out]
           by_cases htt : tu = tn
           ·have HF := Lib.hid (HXJ.out (Or.inr htt))
            have b2 : (tu == tn) = true := by rw [beq_iff_eq]; exact htt
            clear htt
            repeat
             first
              | (refine along_off rfl (by rfl) (by rfl) (fun _ _ _ h => h) hS0 ?_; simp only [Act.put, List.getElem_toArray, List.getElem_cons_zero, List.getElem_cons_succ, List.setIfInBounds_toArray, List.set_cons_zero, List.set_cons_succ])
              | (refine along_read (v := ?_) rfl (by rfl) (by rfl) (fun _ _ _ h => h) hS0 (fun w' hS' => ?_) ?_; rotate_left; (focus (have rd0 := hS'.cell x0 (by simp); clear hS'; go_simp; try with_reducible rfl)); simp only [Act.put, List.getElem_toArray, List.getElem_cons_zero, List.getElem_cons_succ, List.setIfInBounds_toArray, List.set_cons_zero, List.set_cons_succ])
              | (refine along_skip rfl (by rfl) (by rfl) hS0 ?_; simp only [Act.put, List.getElem_toArray, List.getElem_cons_zero, List.getElem_cons_succ, List.setIfInBounds_toArray, List.set_cons_zero, List.set_cons_succ])
            refine along_done ?_
            have HCF := Lib.hid (HWJ.out.trans hS0 (by simp))
            clear x0 x1 rcell rcell2 hS0
            go_wp2
            go_ret
            exact ⟨ret_bool HF.out.symm, HCF.out⟩
           ·have b2 : (tu == tn) = false := by rw [beq_eq_false_iff_ne]; exact htt
            have HJ1 := Lib.hid (HJN.out ⟨hee, htt⟩)
            clear htt
            repeat
             first
              | (refine along_off rfl (by rfl) (by rfl) (fun _ _ _ h => h) hS0 ?_; simp only [Act.put, List.getElem_toArray, List.getElem_cons_zero, List.getElem_cons_succ, List.setIfInBounds_toArray, List.set_cons_zero, List.set_cons_succ])
              | (refine along_read (v := ?_) rfl (by rfl) (by rfl) (fun _ _ _ h => h) hS0 (fun w' hS' => ?_) ?_; rotate_left; (focus (have rd0 := hS'.cell x0 (by simp); clear hS'; go_simp; try with_reducible rfl)); simp only [Act.put, List.getElem_toArray, List.getElem_cons_zero, List.getElem_cons_succ, List.setIfInBounds_toArray, List.set_cons_zero, List.set_cons_succ])
              | (refine along_skip rfl (by rfl) (by rfl) hS0 ?_; simp only [Act.put, List.getElem_toArray, List.getElem_cons_zero, List.getElem_cons_succ, List.setIfInBounds_toArray, List.set_cons_zero, List.set_cons_succ])
            refine along_done ?_
            have HC6 := Lib.hid (HCJ.out.trans hS0 (by simp))
            clear x0 x1 rcell rcell2 hS0 hee
            go_wp2
            go_roundw
            case rel => exact ⟨j + 1, by omega, by go_num, by rw [HTN.out, show (n : Int) / 2 = ((n / 2 : Nat) : Int) from rfl, HEN.out]; exact HJ1, HC6.out⟩
            case measure => simp [intOf]; omega
         ·have e : j = k := by omega
          subst e
          have HNE := Lib.hid (HNN.out HJ.out)
          clear x0 x1
          go_wp2
          go_roundw
          case rel => exact ⟨j + 1, by omega, by go_num, HHD, HNE, HCJ.out⟩
          case measure => simp [intOf]; omega
       ·have HF := Lib.hid (HXH.out hht)
        have bht : (h != t) = true := by simp only [bne_iff_ne]; exact hht
        clear hht
        repeat
         first
          | (refine along_off rfl (by rfl) (by rfl) (fun _ _ _ h => h) hS0 ?_; simp only [Act.put, List.getElem_toArray, List.getElem_cons_zero, List.getElem_cons_succ, List.setIfInBounds_toArray, List.set_cons_zero, List.set_cons_succ])
          | (refine along_read (v := ?_) rfl (by rfl) (by rfl) (fun _ _ _ h => h) hS0 (fun w' hS' => ?_) ?_; rotate_left; (focus (have rd0 := hS'.cell x0 (by simp); clear hS'; go_simp; try with_reducible rfl)); simp only [Act.put, List.getElem_toArray, List.getElem_cons_zero, List.getElem_cons_succ, List.setIfInBounds_toArray, List.set_cons_zero, List.set_cons_succ])
          | (refine along_skip rfl (by rfl) (by rfl) hS0 ?_; simp only [Act.put, List.getElem_toArray, List.getElem_cons_zero, List.getElem_cons_succ, List.setIfInBounds_toArray, List.set_cons_zero, List.set_cons_succ])
        refine along_done ?_
        have HCF := Lib.hid (HWK.out.trans hS0 (by simp))
        clear x0 x1 rcell rcell2 hS0
        go_wp2
        go_ret
        exact ⟨ret_bool HF.out.symm, HCF.out⟩
      ·have e : k = cy.length := by omega
       subst e
       have HF := Lib.hid (Plain.cyc_ref_ok (cy := cy) HPE.out hn0 HD.out HH.out HN.out)
       clear x0 x1
       go_wp2
       go_ret
       exact ⟨ret_bool HF.out.symm, HWK.out⟩
 ·have hzb : ((p.err g) != 0) = true := by simp [hz]
  have hzc : ((p.err g) == 0) = false := by simp [hz]
  have HF := Lib.hid (Plain.cyc_err (cy := cy) hz)
  obtain ⟨er, her⟩ : ∃ er, p.err g = er := ⟨_, rfl⟩
  rw [her] at hzb hzc hz ⊢
  clear her
  go_wp2
  go_ret
  exact ⟨ret_bool HF.out.symm, HW2.out⟩
end Go.Proofs.YtfgbkpbakignhaaGreat
