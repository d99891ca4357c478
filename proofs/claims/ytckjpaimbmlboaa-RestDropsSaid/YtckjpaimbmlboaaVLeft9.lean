/- ref07.Key, ref09.Left: their contracts. Conditions: walks, a drawing that lie in memory and read so, of a bounded size. -/
import Derived.Test.YtckjpaimbmlboaaVRegs8
import Derived.Test.YtckjpaimbmlboaaVCycP
import Derived.Test.YtckjpaimbmlboaaVRef8P
import Derived.Test.YtckjpaimbmlboaaVAwake8
import Derived.Test.YtckjpaimbmlboaaVSidesS
import Derived.Test.YtckjpaimbmlboaaVEuler
import Derived.Test.YtckjpaimbmlboaaVAllS
namespace Go.Proofs.Ytckjpaimbmlboaa
open Go.RowKit Go.Maps

namespace Plain
theorem key_marks {g : Gr} {p : Pt} {turn : List (List Int)} {W : List Face} (hpe : p.err g = 0) (hW : WalksOk g p turn W) {f : Face} (hf : f ∈ W) (d : Int) : (f.1 = d ∨ d ∈ f.2) ↔ d ∈ marks f := by
 rcases face_cases hpe hW hf with ⟨h1, -, -, -⟩ | ⟨n, l, h1, h2, -⟩
 ·rw [marks_nil h1, h1]
  simp only [List.not_mem_nil, or_false, List.mem_singleton]
  exact eq_comm
 ·rw [marks_some (by rw [h2]; simp), h1, h2]
  simp only [List.mem_cons]
  exact ⟨fun h => h.elim (fun e => Or.inl e.symm) id, Or.inr⟩
def keyOf8 (W : List Face) (d : Int) : Int := ((regionAt (places8 W) d).map fun (k : Nat) => (W.getD k (0, [])).1).getD 0
theorem keyOf8_hit {W : List Face} {d : Int} {k : Nat} (h : regionAt (places8 W) d = some k) : keyOf8 W d = (W.getD k (0, [])).1 := by unfold keyOf8; rw [h]; rfl
theorem regsOf_is {g : Gr} {p : Pt} {turn same : List (List Int)} (h : Parted g p turn same) : IsRegs g p turn same (regionsOf g p turn same) := by
 rw [← (regs_ref h).eq h]
 exact regs_ref h
theorem left_num {g : Gr} {p : Pt} {turn same : List (List Int)} (h : Parted g p turn same) {d : Int} (hd : (leftOf (regionsOf g p turn same) (walksOf g p turn) d).isSome = true) :
  ∃ i : Nat, i < (regionsOf g p turn same).length ∧ keyOf8 (walksOf g p turn) d ∈ (regionsOf g p turn same).getD i [] ∧ lf (leftOf (regionsOf g p turn same) (walksOf g p turn)) d = i ∧ (∀ j, j < i → keyOf8 (walksOf g p turn) d ∉ (regionsOf g p turn same).getD j []) ∧ (regionAt (places8 (walksOf g p turn)) d).isSome = true := by
 have hr := regsOf_is h
 have hflat := (hr.perm.flatten).trans h.all
 generalize regionsOf g p turn same = ll at *
 have hnd : ll.flatten.Nodup := hflat.nodup_iff.2 h.keysNodup
 unfold lf
 unfold leftOf at hd ⊢
 cases e : regionAt (places8 (walksOf g p turn)) d with
 | none => rw [e] at hd; cases hd
 | some k =>
  rw [keyOf8_hit e]
  have hk := (regionAt_lt e).1
  rw [places8_len] at hk
  have hm : ((walksOf g p turn).getD k (0, [])).1 ∈ ll.flatten := hflat.mem_iff.2 (List.mem_map.2 ⟨_, by simp [List.getD, hk], rfl⟩)
  simp only [Option.map_some, Option.getD_some]
  unfold numOf
  cases e2 : regionAt ll ((walksOf g p turn).getD k (0, [])).1 with
  | none => exact absurd hm (regionAt_none.1 e2)
  | some i =>
   obtain ⟨h1, h2⟩ := regionAt_lt e2
   refine ⟨i, h1, h2, rfl, fun j hj hin => ?_, rfl⟩
   have := regionAt_hit hnd (by omega) hin
   rw [e2] at this
   have := Option.some.inj this
   omega
end Plain

set_option maxRecDepth 100000 in
set_option maxHeartbeats 4000000 in
theorem refKey_any (ov : Value) (W : List Plain.Face) (xs : List Value) (d : Int) (B : Nat) (w : World) (hl : W.length < 1000000000) (hm : ∀ f ∈ W, (f.1 = d ∨ d ∈ f.2) ↔ d ∈ Plain.marks f) (hn : (Plain.places8 W).flatten.Nodup) (h : Nest w B 121 2 ov W.length xs (faceCells W)) :
  Calls Try.prog 63 #[ov, .int .i64 d] w fun e w' => e = .returned (.tuple #[.int .i64 (Plain.keyOf8 W d), .bool (Plain.regionAt (Plain.places8 W) d).isSome]) ∧ Chg [] w w' := by
 have HN := Lib.hid h
 have HM := Lib.hid hm
 have HND := Lib.hid hn
 obtain ⟨oo, oc, rfl⟩ := h.shape
 clear h hm hn
 go_enter Try.func63, Try.ntmps63
 go_wp2
 go_loopw [6] (fun c wr => ∃ k : Nat, k ≤ W.length ∧ c = .int .i64 k ∧ Hid (∀ i, i < k → d ∉ Plain.marks (W.getD i (0, []))) ∧ Chg [] w wr) (fun c _ => W.length - (intOf c).toNat)
 case atStart => exact ⟨0, Nat.zero_le _, rfl, Lib.hid (by omega), Chg.refl _ _⟩
 case round =>
  obtain ⟨k, hk, rfl, hno, hc⟩ := hrel
  have HC := Lib.hid hc
  by_cases hlt : k < W.length
  ·obtain ⟨wg, wcc, fa, fc, ewo, m0, m1, ur⟩ := nest_face HN.out rfl hlt
   simp only [Value.slice.injEq] at ewo
   obtain ⟨rfl, -, rfl⟩ := ewo
   have f0 := hc.cell m0 (by simp)
   have f1 := hc.cell m1 (by simp)
   have UR := Lib.hid (ur.ints.fresh hc)
   have hfm : W.getD k (0, []) ∈ W := by simp [List.getD, hlt]
   have hmk := HM.out _ hfm
   have HHIT := Lib.hid (fun (h : d ∈ Plain.marks (W.getD k (0, []))) => (show Plain.regionAt (Plain.places8 W) d = some k from Plain.regionAt_hit HND.out (by rw [Plain.places8_len]; exact hlt) (by rw [Plain.places8_getD hlt]; exact h)))
   have HNO := Lib.hid (fun (h : d ∉ Plain.marks (W.getD k (0, []))) i (hi : i < k + 1) => show d ∉ Plain.marks (W.getD i (0, [])) from by
    by_cases e : i = k
    ·rw [e]; exact h
    ·exact hno.out i (by omega))
   have HKO := Lib.hid (fun h => Plain.keyOf8_hit (W := W) (d := d) (k := k) h)
   obtain ⟨f, hf⟩ : ∃ f, W.getD k (0, []) = f := ⟨_, rfl⟩
   rw [hf] at f0 f1 UR hmk HHIT HNO HKO
   have HMK := Lib.hid hmk
   clear m0 m1 ur hc hf hfm hmk
   by_cases q : f.1 = d
   ·have b1 : (f.1 == d) = true := by rw [beq_iff_eq]; exact q
    have HE := Lib.hid (HHIT.out (HMK.out.1 (Or.inl q)))
    have HKE := Lib.hid (HKO.out HE.out)
    clear q
    go_wp2
    exact bodyPost_ret (v := .tuple #[.int .i64 f.1, .bool true]) (by simp [results, Try.results63, go_sem]) rfl ⟨by rw [HKE.out, HE.out]; rfl, HC.out⟩
   ·have b1 : (f.1 == d) = false := by rw [beq_eq_false_iff_ne]; exact q
    go_wp2_with fail
    refine (in_any _ f.2 d _ UR.out).mono ?_
    rintro e w2 ⟨rfl, hc2⟩
    have HC2 := Lib.hid (HC.out.trans hc2 (by simp))
    have f0 := hc2.cell f0 (by simp)
    clear f1 hc2
    by_cases hin : d ∈ f.2
    ·have HE := Lib.hid (HHIT.out (HMK.out.1 (Or.inr hin)))
     have HKE := Lib.hid (HKO.out HE.out)
     rw [decide_eq_true hin]
     clear hin q b1
     go_wp2
     exact bodyPost_ret (v := .tuple #[.int .i64 f.1, .bool true]) (by simp [results, Try.results63, go_sem]) rfl ⟨by rw [HKE.out, HE.out]; rfl, HC2.out⟩
    ·have HE := Lib.hid (HNO.out fun h => (HMK.out.2 h).elim q hin)
     rw [decide_eq_false hin]
     clear hin q b1
     go_wp2
     go_roundw
     case rel => exact ⟨k + 1, by omega, by go_num, HE, HC2.out⟩
     case measure => simp [intOf]; omega
  ·have e : k = W.length := by omega
   subst e
   have HE := Lib.hid (show Plain.regionAt (Plain.places8 W) d = none from Plain.regionAt_none.2 fun h => by
    obtain ⟨l, hl, hdl⟩ := List.mem_flatten.1 h
    obtain ⟨f, hf, rfl⟩ := List.mem_map.1 hl
    obtain ⟨i, hi, rfl⟩ := List.getElem_of_mem hf
    exact hno.out i hi (by simpa [List.getD, hi] using hdl))
   have HKE := Lib.hid (show Plain.keyOf8 W d = 0 by unfold Plain.keyOf8; rw [HE.out]; rfl)
   clear hc
   go_wp2
   exact bodyPost_ret (v := .tuple #[.int .i64 0, .bool false]) (by simp [results, Try.results63, go_sem]) rfl ⟨by rw [HKE.out, HE.out]; rfl, HC.out⟩

set_option maxRecDepth 100000 in
set_option maxHeartbeats 4000000 in
theorem refLeft_any (vg vp vx : Value) (g : Plain.Gr) (p : Plain.Pt) (turn same : List (List Int)) (d : Int) (w : World) (hpl : p.e.length ≤ 1000) (hpv : p.v.length ≤ 1000) (hrl : ∀ v, (Plain.turnAt turn v).length < 4294967296) (hsl : same.length ≤ 10000) (hz : Plain.planErr g p turn same = 0) (hd : (Plain.leftOf (Plain.regionsOf g p turn same) (Plain.walksOf g p turn) d).isSome = true) (hg : GrAt w vg g) (hp : PtAt w vp p) (hx : PlAt w vx turn same) :
  Calls Try.prog 26 #[vg, vp, vx, .int .i64 d] w fun e w' => e = .returned (.int .i64 (Plain.lf (Plain.leftOf (Plain.regionsOf g p turn same) (Plain.walksOf g p turn)) d)) ∧ Chg [] w w' := by
 have hte := (Plain.flatErr_zero (Plain.planErr_zero hz).1).1
 obtain ⟨hpe, hto⟩ := Plain.turnErr_zero hte
 have hW := Plain.walks_ok hpe hto
 have hpt := Plain.parted hz hW
 have HPZ := Lib.hid hz
 have HPE := Lib.hid hpe
 have HTO := Lib.hid hto
 have HRL := Lib.hid hrl
 have HLN := Lib.hid (Plain.left_num hpt hd)
 have HMK := Lib.hid (fun f (hf : f ∈ Plain.walksOf g p turn) => Plain.key_marks hpe hW hf d)
 have HPN := Lib.hid (Plain.places_nodup hpe hW)
 have hwl := hW.len
 have hrg : (Plain.regionsOf g p turn same).length ≤ 10000 := by
  rw [← (Plain.regs_ref hpt).eq hpt]
  have := Plain.regTo_len (Plain.walksOf g p turn) same (Plain.walksOf g p turn).length
  omega
 have HRG := Lib.hid hrg
 clear hte hpe hto hW hpt hrl hz hd hrg
 have HG := Lib.hid hg
 have HP := Lib.hid hp
 have HX := Lib.hid hx
 obtain ⟨eo, cap, rfl, hn, hm, hsm, hcell⟩ := hg
 obtain ⟨v1, v2, rfl, hv, he⟩ := hp
 obtain ⟨ao, ac, rfl, has, ham, hacell⟩ := hv
 obtain ⟨bo, bc, rfl, hbs, hbm, hbcell⟩ := he
 have HAC := Lib.hid hacell
 have HBC := Lib.hid hbcell
 obtain ⟨t1, t2, rfl, ht, hs⟩ := hx
 have HT := Lib.hid ht
 have HS := Lib.hid hs
 obtain ⟨tno, tc, rfl, htm, -⟩ := ht
 obtain ⟨so, sc, rfl, hsm2, hsc⟩ := hs
 obtain ⟨-, -, hc1⟩ := box_two w #[.int .i64 g.n, .slice eo g.e.length cap] #[.slice ao p.v.length ac, .slice bo p.e.length bc] 24 27
 obtain ⟨-, hc3⟩ := box_three w #[.int .i64 g.n, .slice eo g.e.length cap] #[.slice ao p.v.length ac, .slice bo p.e.length bc] #[.slice tno turn.length tc, .slice so same.length sc] 24 27 30
 have HC1 := Lib.hid (hc1.trans hc3 (by simp))
 have HBXS := Lib.hid (fun w2 h => three_boxes w (g := g) (p := p) (turn := turn) (same := same) (eo := eo) (ao := ao) (bo := bo) (tno := tno) (so := so) (cap := cap) (ac := ac) (bc := bc) (tc := tc) (sc := sc) (w2 := w2) h)
 clear hcell hacell hbcell hsm hbs has hn hc1 hc3 hsc
 obtain ⟨x0, x1, y0, y1, z0, z1, hsz⟩ := HBXS.out _ (Chg.refl _ _)
 go_enter Try.func26, Try.ntmps26
 go_wp2_with fail
 refine (refWalks_any _ _ _ g p turn _ (by omega) (by omega) HPE.out HTO.out HRL.out (HG.out.fresh HC1.out) (HP.out.fresh HC1.out) (HT.out.fresh HC1.out)).mono ?_
 rintro e w2 ⟨wv, wx, rfl, hnw, hc2⟩
 obtain ⟨w1, hw1⟩ : ∃ w1, (((w.alloc (.cells #[.int .i64 g.n, .slice eo g.e.length cap] 24)).alloc (.cells #[.slice ao p.v.length ac, .slice bo p.e.length bc] 27)).alloc (.cells #[.slice tno turn.length tc, .slice so same.length sc] 30)) = w1 := ⟨_, rfl⟩
 rw [hw1] at HC1 HBXS hc2 hnw
 clear hw1
 have HNW := Lib.hid hnw
 have HC2 := Lib.hid hc2
 have HW2 := Lib.hid (HC1.out.trans HC2.out (by simp))
 have HBX := Lib.hid (fun wx (hx : Chg [] w2 wx) => HBXS.out wx (HC2.out.trans hx (by simp)))
 clear x0 x1 y0 y1 z0 z1 hsz hc2 hnw
 go_wp2_with fail
 refine (refKey_any _ (Plain.walksOf g p turn) _ d _ _ (by omega) HMK.out HPN.out HNW.out).mono ?_
 rintro e w3 ⟨rfl, hc3⟩
 have HC3 := Lib.hid hc3
 have HW3 := Lib.hid (HW2.out.trans hc3 (by simp))
 obtain ⟨x0, x1, y0, y1, z0, z1, hsz⟩ := HBX.out _ hc3
 obtain ⟨i0, hi0, hin0, hlf, hfirst, his⟩ := HLN.out
 rw [his]
 have HIN := Lib.hid hin0
 have HFI := Lib.hid hfirst
 have HLF := Lib.hid hlf
 obtain ⟨key, hkey⟩ : ∃ key, Plain.keyOf8 (Plain.walksOf g p turn) d = key := ⟨_, rfl⟩
 rw [hkey] at HIN HFI ⊢
 clear hc3 hin0 hfirst hlf his hkey HLN
 go_wp2_with fail
 refine (refRegions8_any _ _ _ g p turn same _ (by omega) (by omega) HRL.out hsl HPZ.out (HG.out.fresh HW3.out) (HP.out.fresh HW3.out) (HX.out.fresh HW3.out)).mono ?_
 rintro e w4 ⟨rv, rfl, hrr, hc4⟩
 have HRR := Lib.hid hrr
 have HW4 := Lib.hid (HW3.out.trans hc4 (by simp))
 obtain ⟨ll, hll⟩ : ∃ ll, Plain.regionsOf g p turn same = ll := ⟨_, rfl⟩
 have hrg := HRG.out
 rw [hll] at HRR HIN HFI hi0 hrg hrr HLF
 have HLE := Lib.hid hll
 obtain ⟨ro, rc, rfl, -, -⟩ := hrr
 clear x0 x1 y0 y1 z0 z1 hsz hc4 hll
 go_wp2
 go_loopw [13] (fun c wr => ∃ k : Nat, k ≤ ll.length ∧ c = .int .i64 k ∧ k ≤ i0 ∧ Chg [] w4 wr) (fun c _ => ll.length - (intOf c).toNat)
 case atStart => exact ⟨0, Nat.zero_le _, rfl, Nat.zero_le _, Chg.refl _ _⟩
 case round =>
  obtain ⟨k, hk, rfl, hki, hc⟩ := hrel
  have HC := Lib.hid hc
  have hlt : k < ll.length := by omega
  obtain ⟨tb, toff, uo, uc, rfl, tcell, hrow⟩ := (HRR.out.fresh hc).row hlt
  have HKI := Lib.hid (fun (e : k = i0) => (show key ∈ ll.getD k [] by rw [e]; exact HIN.out))
  have HKO := Lib.hid (fun (e : k ≠ i0) => (show key ∉ ll.getD k [] from HFI.out k (by omega)))
  obtain ⟨T, hT⟩ : ∃ T, ll.getD k [] = T := ⟨_, rfl⟩
  rw [hT] at tcell hrow HKI HKO
  have HROW := Lib.hid hrow
  have HLK := Lib.hid (fun (e : k = i0) => (show Plain.lf (Plain.leftOf (Plain.regionsOf g p turn same) (Plain.walksOf g p turn)) d = k from by rw [HLE.out, HLF.out, e]))
  clear hrow hc hT
  by_cases e : k = i0
  ·have HKE := Lib.hid (HKI.out e)
   have HRV := Lib.hid (HLK.out e)
   clear e
   go_wp2_with fail
   refine (in_any _ T key _ HROW.out).mono ?_
   rintro e w5 ⟨rfl, hc5⟩
   rw [decide_eq_true HKE.out]
   have HC5 := Lib.hid ((HW4.out.trans HC.out (by simp)).trans hc5 (by simp))
   clear hc5 tcell
   go_wp2
   go_ret
   exact ⟨ret_int HRV.out.symm, HC5.out⟩
  ·have HKE := Lib.hid (HKO.out e)
   have hk2 : k + 1 ≤ i0 := by omega
   clear e
   go_wp2_with fail
   refine (in_any _ T key _ HROW.out).mono ?_
   rintro e w5 ⟨rfl, hc5⟩
   rw [decide_eq_false HKE.out]
   have HC5 := Lib.hid (HC.out.trans hc5 (by simp))
   clear hc5 tcell
   go_wp2
   go_roundw
   case rel => exact ⟨k + 1, by omega, by go_num, hk2, HC5.out⟩
   case measure => simp [intOf]; omega
end Go.Proofs.Ytckjpaimbmlboaa
/- ref04.Head, ref10.on, ref10.Cycle: their contracts. Conditions: a graph, a part, a list of ints that lie in memory and read so, of a bounded size. -/
namespace Go.Proofs.Ytckjpaimbmlboaa
open Go.RowKit Go.Maps

namespace Plain
end Plain

end Go.Proofs.Ytckjpaimbmlboaa
/- ref10.Lefts: its contract: the regions that are held together with the one to the left of a cycle's first dart. Conditions: a drawing and a cycle that lie in memory and read so, of a bounded size. -/
namespace Go.Proofs.Ytckjpaimbmlboaa
open Go.RowKit Go.Maps

namespace Plain
def nearAt (L : Int → Option Int) (M : List Int) (j : Nat) (e : Int) : Prop := (lf L (2 * e) = M.getD j 0 → lf L (2 * e + 1) ∈ M) ∧ (lf L (2 * e + 1) = M.getD j 0 → lf L (2 * e) ∈ M)
structure LeftsAt (L : Int → Option Int) (p : Pt) (cy : List Int) (M : List Int) (i k : Nat) : Prop where
 head : sideHead L cy ∈ M
 nodup : M.Nodup
 low : ∀ r ∈ M, 0 ≤ r ∧ r ≤ 10000
 rel : ∀ r ∈ M, sideRel L p cy r (sideHead L cy)
 done : ∀ j, j < i → ∀ e ∈ p.e, e ∉ cy.map (· / 2) → nearAt L M j e
 now : ∀ q, q < k → p.e.getD q 0 ∉ cy.map (· / 2) → nearAt L M i (p.e.getD q 0)
theorem regs_len {g : Gr} {p : Pt} {turn same : List (List Int)} (hpl : p.e.length ≤ 1000) (hpv : p.v.length ≤ 1000) (hz : planErr g p turn same = 0) : (regionsOf g p turn same).length ≤ 10000 := by
 obtain ⟨hpe, hto⟩ := turnErr_zero (flatErr_zero (planErr_zero hz).1).1
 have hW := walks_ok hpe hto
 rw [← (regs_ref (parted hz hW)).eq (parted hz hW)]
 have := regTo_len (walksOf g p turn) same (walksOf g p turn).length
 have := hW.len
 omega
theorem left_dart {g : Gr} {p : Pt} {turn same : List (List Int)} (hz : planErr g p turn same = 0) {d : Int} (hd : d ∈ p.darts) : (leftOf (regionsOf g p turn same) (walksOf g p turn) d).isSome = true := by
 obtain ⟨hpe, hto⟩ := turnErr_zero (flatErr_zero (planErr_zero hz).1).1
 exact (left_next _ hpe (walks_ok hpe hto) hd).2
end Plain

end Go.Proofs.Ytckjpaimbmlboaa
/- ref04.Or (its things), ref09.Around (its things): contracts. Conditions: lists, a drawing that lie in memory and read so, of a bounded size. -/
namespace Go.Proofs.Ytckjpaimbmlboaa
open Go.RowKit Go.Maps

end Go.Proofs.Ytckjpaimbmlboaa
/- ref09.Around (its things), ref10.Vertex, ref10.Edge: contracts. Conditions: a drawing, a cycle that lie in memory and read so, of a bounded size. -/
namespace Go.Proofs.Ytckjpaimbmlboaa
open Go.RowKit Go.Maps

namespace Plain
theorem left_marks {g : Gr} {p : Pt} {turn : List (List Int)} {W : List Face} (ll : List (List Int)) (hpe : p.err g = 0) (hW : WalksOk g p turn W) {f : Face} (hf : f ∈ W) {y : Int} (hy : y ∈ marks f) : (leftOf ll W y).isSome = true := by
 obtain ⟨i, hi, hfi⟩ := List.getElem_of_mem hf
 have hp8 := places8_getD hi
 rw [show W.getD i (0, []) = f by simp [List.getD, hi, hfi]] at hp8
 unfold leftOf
 rw [regionAt_hit (places_nodup hpe hW) (by rw [places8_len]; exact hi) (by rw [hp8]; exact hy)]
 rfl
theorem turn_none {g : Gr} {p : Pt} {turn : List (List Int)} (ht : TurnsOk g p turn) {v : Int} (h0 : 0 ≤ v) (hv : v < g.n) (h : dartsAt g p v = []) : turnAt turn v = [] := by
 cases e : turnAt turn v with
 | nil => rfl
 | cons d l =>
  have := (ht.mem v h0 hv d).1 (by rw [e]; simp)
  have := mem_dartsAt.2 this
  rw [h] at this
  cases this
theorem left_lone {g : Gr} {p : Pt} {turn same : List (List Int)} (hz : planErr g p turn same = 0) {v : Int} (hv : v ∈ p.v) (h : dartsAt g p v = []) : (leftOf (regionsOf g p turn same) (walksOf g p turn) (-1 - v)).isSome = true := by
 obtain ⟨hpe, hto⟩ := turnErr_zero (flatErr_zero (planErr_zero hz).1).1
 have hW := walks_ok hpe hto
 have hvr := (Pt.ok_of_err hpe).vr v hv
 obtain ⟨F, e, -⟩ := hW.split
 refine left_marks _ hpe hW (f := (-1 - v, [])) ?_ (by rw [marks_nil rfl]; simp)
 rw [e]
 refine List.mem_append.2 (Or.inl (List.mem_map.2 ⟨v, List.mem_filter.2 ⟨List.mem_reverse.2 hv, ?_⟩, rfl⟩))
 rw [turn_none hto hvr.1 hvr.2 h]; rfl
end Plain

end Go.Proofs.Ytckjpaimbmlboaa
