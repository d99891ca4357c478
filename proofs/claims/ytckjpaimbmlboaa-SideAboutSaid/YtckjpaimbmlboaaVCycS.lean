/- side.Cycle: its contract. Conditions: a graph, a part, a list of ints that lie in memory and read so, of a bounded size. -/
import Derived.Test.YtckjpaimbmlboaaVLookR
import Derived.Test.YtckjpaimbmlboaaVLookS
namespace Go.Proofs.Ytckjpaimbmlboaa
open Go.RowKit Go.Maps
theorem I64.bounds {x : Int} (h : I64 x) : -9223372036854775808 ≤ x ∧ x ≤ 9223372036854775807 := by
 unfold I64 at h
 simp [Lit.wf, IntKind.min, IntKind.max, IntKind.signed, IntKind.bits] at h
 omega
set_option maxRecDepth 100000 in
set_option maxHeartbeats 8000000 in
theorem cycle_any (vg vp vc : Value) (g : Plain.Gr) (p : Plain.Pt) (cy : List Int) (w : World) (hpl : p.e.length ≤ 10000) (hpv : p.v.length ≤ 10000) (hcl : cy.length ≤ 1000000) (hg : GrAt w vg g) (hp : PtAt w vp p) (hc : IntsAt w vc cy) :
  Calls Try.prog 18 #[vg, vp, vc] w fun e w' => e = .returned (.bool (Plain.cycOk g p cy)) ∧ Chg [] w w' := by
 have HCC := Lib.hid hc
 obtain ⟨co, cc, rfl, hci, hcm, -⟩ := hc
 have HCI := Lib.hid hci
 clear hci hcm
 have HG := Lib.hid hg
 have HP := Lib.hid hp
 obtain ⟨eo, cap, rfl, hn, hm, hsm, hcell⟩ := hg
 obtain ⟨v1, v2, rfl, hv, he⟩ := hp
 obtain ⟨ao, ac, rfl, has, ham, hacell⟩ := hv
 obtain ⟨bo, bc, rfl, hbs, hbm, hbcell⟩ := he
 have HAC := Lib.hid hacell
 have HBC := Lib.hid hbcell
 have HAS := Lib.hid has
 have HBS := Lib.hid hbs
 obtain ⟨-, -, hc1⟩ := box_two w #[.int .i64 g.n, .slice eo g.e.length cap] #[.slice ao p.v.length ac, .slice bo p.e.length bc] 24 27
 have HC1 := Lib.hid hc1
 have HBXS := Lib.hid (fun w2 h => two_boxes w (g := g) (p := p) (eo := eo) (ao := ao) (bo := bo) (cap := cap) (ac := ac) (bc := bc) (w2 := w2) h)
 clear hcell hacell hbcell hsm has hbs hn hc1
 have HPEI := Lib.hid (show IntsAt w (.slice bo p.e.length bc) p.e from ⟨bo, bc, rfl, HBS.out, hbm, HBC.out⟩)
 obtain ⟨x0, x1, y0, y1, hsz⟩ := HBXS.out _ (Chg.refl _ _)
 go_enter Try.func18, Try.ntmps18
 go_wp2_with fail
 refine (rightPart_any _ _ g p _ (by omega) (HG.out.fresh HC1.out) (HP.out.fresh HC1.out)).mono ?_
 rintro e w2 ⟨rfl, hc2⟩
 obtain ⟨w1, hw1⟩ : ∃ w1, ((w.alloc (.cells #[.int .i64 g.n, .slice eo g.e.length cap] 24)).alloc (.cells #[.slice ao p.v.length ac, .slice bo p.e.length bc] 27)) = w1 := ⟨_, rfl⟩
 rw [hw1] at HC1 HBXS hc2
 clear hw1 x0 x1 y0 y1 hsz
 have HC2 := Lib.hid hc2
 have HW2 := Lib.hid (HC1.out.trans hc2 (by simp))
 have HBX := Lib.hid (fun wx (hx : Chg [] w2 wx) => HBXS.out wx (HC2.out.trans hx (by simp)))
 clear hc2
 by_cases hz : p.err g = 0
 ·have HPE := Lib.hid hz
  have HES := Lib.hid (Plain.rises_pair (Plain.Pt.err_ok hz).2.2.1)
  rw [hz]
  by_cases hn : cy.length = 0
  ·have e : cy = [] := List.length_eq_zero_iff.1 hn
   subst e
   clear hn hz
   go_wp2
   go_ret
   exact ⟨ret_bool Plain.cyc_nil.symm, HW2.out⟩
  have hlb : ((cy.length : Int) == 0) = false := by rw [beq_eq_false_iff_ne]; omega
  have hn0 : 0 < cy.length := by omega
  clear hz hn
  go_wp2
  go_loopw [30] (fun c wr => ∃ k : Nat, k ≤ cy.length ∧ c = .int .i64 k ∧ Hid (∀ i, i < k → Plain.dartAt p cy i = true) ∧ Chg [] w2 wr) (fun c _ => cy.length - (intOf c).toNat)
  case atStart => exact ⟨0, Nat.zero_le _, rfl, Lib.hid (fun i hi => absurd hi (Nat.not_lt_zero i)), Chg.refl _ _⟩
  case round =>
   obtain ⟨k, hk, rfl, HD, hc⟩ := hrel
   have HC := Lib.hid hc
   obtain ⟨x0, x1, y0, y1, hsz⟩ := HBX.out _ hc
   have HCW := Lib.hid (HW2.out.trans hc (by simp))
   clear hc
   by_cases hlt : k < cy.length
   ·obtain ⟨rb, roff, rfl, rc⟩ := IntsAt.cellAt HCC.out hlt
    have rcell := HCW.out.cell rc (by simp)
    have IY := HCI.out (cy.getD k 0) (Plain.getD_mem hlt)
    obtain ⟨d, hd⟩ : ∃ d, cy.getD k 0 = d := ⟨_, rfl⟩
    rw [hd] at rcell IY
    have HDE := Lib.hid hd
    clear rc hd
    by_cases hneg : d < 0
    ·have HF := Lib.hid (Plain.cyc_dart (g := g) (p := p) hlt (by unfold Plain.dartAt; rw [HDE.out, decide_eq_false]; omega))
     have hb : decide (d < 0) = true := decide_eq_true hneg
     go_wp2
     go_ret
     exact ⟨ret_bool HF.out.symm, HCW.out⟩
    have hb : decide (d < 0) = false := decide_eq_false hneg
    obtain ⟨q, hq⟩ : ∃ q, Int.tdiv d 2 = q := ⟨_, rfl⟩
    have HQ := Lib.hid (show d / 2 = q by rw [← hq, Int.tdiv_eq_ediv_of_nonneg (by omega)])
    have wq : IntKind.i64.wrap q = q := IntWalk.i64_in _ (by have := HQ.out; have := IY.bounds; omega)
    go_wp2_with fail
    refine (has_any _ p.e q _ HES.out (by omega) (HPEI.out.fresh HCW.out)).mono ?_
    rintro e w3 ⟨rfl, hc3⟩
    have HC3 := Lib.hid (HC.out.trans hc3 (by simp))
    have HCX := Lib.hid (HCW.out.trans hc3 (by simp))
    clear hc3 x0 x1 y0 y1 hsz rcell
    by_cases hin : q ∈ p.e
    ·rw [decide_eq_true hin]
     have HDN := Lib.hid (show ∀ i, i < k + 1 → Plain.dartAt p cy i = true from fun i hi => by
      by_cases hik : i < k
      ·exact HD.out i hik
      have : i = k := by omega
      subst this
      unfold Plain.dartAt
      rw [HDE.out, HQ.out]
      exact decide_eq_true ⟨by omega, hin⟩)
     clear hin
     go_wp2
     go_roundw
     case rel => exact ⟨k + 1, by omega, by go_num, HDN, HC3.out⟩
     case measure => simp [intOf]; omega
    have HF := Lib.hid (Plain.cyc_dart (g := g) (p := p) hlt (by unfold Plain.dartAt; rw [HDE.out, HQ.out]; exact decide_eq_false fun h => hin h.2))
    rw [decide_eq_false hin]
    clear hin
    go_wp2
    go_ret
    exact ⟨ret_bool HF.out.symm, HCX.out⟩
   have e : k = cy.length := by omega
   subst e
   clear x0 x1 y0 y1
   have HDN := Lib.hid (fun d hd => by
    obtain ⟨i, hi, rfl⟩ := Plain.mem_getD hd
    have h1 := HD.out i hi
    unfold Plain.dartAt at h1
    have h2 := of_decide_eq_true h1
    have hm := Plain.mem_darts.2 h2.2
    obtain ⟨n, e1, e2, e3⟩ := Plain.Pt.dart_nat HPE.out hm
    have hpo := Plain.Pt.ok_of_err HPE.out
    have hge := Plain.Gr.err_ok (Plain.Pt.err_ok HPE.out).1
    have h3 := hpo.vr _ (hpo.tail_mem hm).1
    obtain ⟨m, e4, e5, e6⟩ := Plain.Pt.dart_nat HPE.out (Plain.twin_mem hm)
    refine ⟨n, m, e1, e2, e3, ?_, ?_, e5, I64.mk (by omega) (by omega)⟩
    ·rw [← e1]; exact e4
    rw [← e4, Plain.tail_twin] : ∀ d ∈ cy, ∃ n m : Nat, d = n ∧ n / 2 < g.e.length ∧ n < 2048 ∧ Plain.twin n = m ∧ g.tail m = g.head d ∧ m / 2 < g.e.length ∧ I64 (g.tail d))
   have hgl : g.e.length < 4294967296 := by have := Plain.Gr.err_ok (Plain.Pt.err_ok HPE.out).1; omega
   have hll : cy.length - 1 < cy.length := by omega
   obtain ⟨rb, roff, rfl, rc⟩ := IntsAt.cellAt HCC.out hll
   have wl : IntKind.i64.wrap ((cy.length : Int) - 1) = ((cy.length - 1 : Nat) : Int) := by rw [IntWalk.i64_in _ (by omega)]; omega
   generalize wr = wz at *
   have HCN := Lib.hid (((Chg.refl [] wz).alloc (.map #[] 0)).alloc (.map #[] 0))
   have hmm := @run_makeMap Try.prog
   have HA0 := Lib.hid ((IMap.made wz).alloc (.map #[] 0))
   have HU0 := Lib.hid (IMap.made (wz.alloc (.map #[] 0)))
   have HC2S := Lib.hid (show w2.heap.size ≤ wz.heap.size from HC.out.size)
   have HAW := Lib.hid (show w.heap.size ≤ wz.heap.size from HCW.out.size)
   have rcell := (HCW.out.trans HCN.out (by simp)).cell rc (by simp)
   obtain ⟨la, hla⟩ : ∃ la, cy.getD (cy.length - 1) 0 = la := ⟨_, rfl⟩
   rw [hla] at rcell
   have HLA := Lib.hid (show Plain.befAt cy 0 = la from hla)
   clear rc hla
   go_wp2
   obtain ⟨ab, hab⟩ : ∃ ab, wz.heap.size = ab := ⟨_, rfl⟩
   obtain ⟨ub, hub⟩ : ∃ ub, (wz.alloc (.map #[] 0)).heap.size = ub := ⟨_, rfl⟩
   have HUB := Lib.hid (show ub = ab + 1 by rw [← hub, ← hab]; simp)
   rw [hab] at HA0 HAW HC2S
   rw [hub] at HU0
   simp only [hab, hub] at *
   have HW5 := Lib.hid (HCW.out.trans HCN.out (by simp))
   have HZ := Lib.hid (HC.out.trans HCN.out (by simp))
   generalize (wz.alloc (.map #[] 0)).alloc (.map #[] 0) = w5 at *
   clear hab hub hmm rcell
   obtain rfl := HUB.out
   go_loopw [11, 55] (fun lv c wr => ∃ k : Nat, k ≤ cy.length ∧ c = .int .i64 k ∧ lv = .int .i64 (Plain.befAt cy k) ∧ IMap wr ab k (Plain.lastAt g.tail cy k) ∧ IMap wr (ab + 1) k (Plain.lastAt (· / 2) cy k) ∧ Hid (∀ i, i < k → Plain.cycAt g cy i = true) ∧ Chg [ab, ab + 1] w5 wr) (fun _ c _ => cy.length - (intOf c).toNat)
   case atStart => exact ⟨0, Nat.zero_le _, rfl, by rw [HLA.out], HA0.out, HU0.out, Lib.hid (fun i hi => absurd hi (Nat.not_lt_zero i)), Chg.refl _ _⟩
   case round =>
    obtain ⟨k, hk, rfl, rfl, hma, hmu, HR, hc⟩ := hrel
    have HMA := Lib.hid hma
    have HMU := Lib.hid hmu
    have HCK := Lib.hid hc
    have hown : ∀ j ∈ [ab, ab + 1], j ∈ ([] : List Nat) ∨ w.heap.size ≤ j := fun j hj => Or.inr (by simp at hj; have := HUB.out; have := HAW.out; omega)
    have HWR := Lib.hid (HW5.out.trans hc hown)
    have HZK := Lib.hid (HZ.out.trans hc (fun j hj => Or.inr (by simp at hj; have := HUB.out; have := HC2S.out; omega)))
    obtain ⟨x0, x1, y0, y1, hsz⟩ := HBX.out _ HZK.out
    clear hma hmu hc hown y0 y1 hsz
    by_cases hlt : k < cy.length
    ·obtain ⟨rb', roff', erb, rc⟩ := IntsAt.cellAt HCC.out hlt
     simp only [Option.some.injEq, Addr.mk.injEq, and_true] at erb
     obtain ⟨rfl, rfl⟩ := erb
     have rcell := HWR.out.cell rc (by simp)
     obtain ⟨n, m, e1, e2, e3, e4, e5, e6, e7⟩ := HDN.out _ (Plain.getD_mem hlt)
     have hbm : Plain.befAt cy k ∈ cy := by
      unfold Plain.befAt
      split
      ·exact Plain.getD_mem (by omega)
      exact Plain.getD_mem (by omega)
     obtain ⟨n', m', f1, f2, f3, f4, f5, f6, f7⟩ := HDN.out _ hbm
     have HCA := Lib.hid (show Plain.cycAt g cy k = (!((Plain.lastAt g.tail cy k (g.tail n)).isSome || (Plain.lastAt (· / 2) cy k ((n / 2 : Nat) : Int)).isSome) && decide (g.tail m' = g.tail n)) by
      unfold Plain.cycAt
      rw [f5, e1]
      rfl)
     have HBN := Lib.hid (show Plain.befAt cy (k + 1) = (n : Int) by rw [Plain.befAt_succ]; exact e1)
     have HA1 := Lib.hid (show (fun y => if y = g.tail n then some (k : Int) else Plain.lastAt g.tail cy k y) = Plain.lastAt g.tail cy (k + 1) by rw [Plain.lastAt_succ, e1])
     have HU1 := Lib.hid (show (fun y => if y = ((n / 2 : Nat) : Int) then some (k : Int) else Plain.lastAt (· / 2) cy k y) = Plain.lastAt (· / 2) cy (k + 1) by rw [Plain.lastAt_succ, e1]; rfl)
     rw [e1] at rcell e7
     rw [f1]
     have hx := bits_twin n' (by omega)
     rw [f4] at hx
     have q1 : Int.tdiv (n : Int) 2 = ((n / 2 : Nat) : Int) := by rw [Int.tdiv_eq_ediv_of_nonneg (by omega)]; rfl
     obtain ⟨ee, hee⟩ : ∃ ee, n / 2 = ee := ⟨_, rfl⟩
     rw [hee] at HCA HU1 q1
     obtain ⟨b, hb⟩ : ∃ b, g.tail (n : Int) = b := ⟨_, rfl⟩
     obtain ⟨a, ha⟩ : ∃ a, g.tail (m' : Int) = a := ⟨_, rfl⟩
     rw [hb] at HCA HA1 e7
     rw [ha] at HCA
     have HB := Lib.hid hb
     have HA := Lib.hid ha
     have HEE := Lib.hid hee
     have IE : I64 (ee : Int) := I64.mk (by omega) (by omega)
     have we : IntKind.i64.wrap (ee : Int) = ee := IntWalk.i64_in _ (by omega)
     have IK : I64 (k : Int) := I64.mk (by omega) (by omega)
     obtain ⟨t1, ht1⟩ : ∃ t, (Plain.lastAt g.tail cy k b).isSome = t := ⟨_, rfl⟩
     obtain ⟨t2, ht2⟩ : ∃ t, (Plain.lastAt (· / 2) cy k (ee : Int)).isSome = t := ⟨_, rfl⟩
     rw [ht1, ht2] at HCA
     obtain ⟨u1, hu1⟩ : ∃ u, (Plain.lastAt g.tail cy k b).getD 0 = u := ⟨_, rfl⟩
     obtain ⟨u2, hu2⟩ : ∃ u, (Plain.lastAt (· / 2) cy k (ee : Int)).getD 0 = u := ⟨_, rfl⟩
     have HV1 := Lib.hid hu1
     have HV2 := Lib.hid hu2
     clear hu1 hu2
     have HT1 := Lib.hid ht1
     have HT2 := Lib.hid ht2
     have HX := Lib.hid hx
     have hk1 : k < maxLen := by unfold maxLen; omega
     have HGR := Lib.hid (HG.out.fresh HWR.out)
     clear ht1 ht2 hb ha hee e1 e4 e5 e6 f1 f3 f4 f5 f7 hbm rc HDN hx
     go_wp2_with fail
     refine (leavesS_any _ g n _ e2 hgl HGR.out).mono ?_
     rintro e wa ⟨rfl, hca⟩
     rw [HB.out]
     have HCAA := Lib.hid hca
     have HMA2 := Lib.hid (HMA.out.chg hca (by simp))
     have HMU2 := Lib.hid (HMU.out.chg hca (by simp))
     have x0 := hca.cell x0 (by simp)
     have x1 := hca.cell x1 (by simp)
     have HWA := Lib.hid (HWR.out.trans hca (by simp))
     have HCKA := Lib.hid (HCK.out.trans hca (by simp))
     clear rcell hca
     cases t1 with
     | true =>
      have HF := Lib.hid (Plain.cyc_at (g := g) (p := p) hlt (by rw [HCA.out]; simp))
      go_wp2_with (at_lookup; first
       | refine wp_look_any _ rfl _ _ rfl HMA2.out rfl e7 rfl HV1 HT1 ?_
       | refine wp_look_any _ rfl _ _ rfl HMU2.out rfl IE rfl HV2 HT2 ?_)
      go_ret
      exact ⟨ret_bool HF.out.symm, HWA.out⟩
     | false =>
      cases t2 with
      | true =>
       have HF := Lib.hid (Plain.cyc_at (g := g) (p := p) hlt (by rw [HCA.out]; simp))
       go_wp2_with (at_lookup; first
        | refine wp_look_any _ rfl _ _ rfl HMA2.out rfl e7 rfl HV1 HT1 ?_
        | refine wp_look_any _ rfl _ _ rfl HMU2.out rfl IE rfl HV2 HT2 ?_)
       go_ret
       exact ⟨ret_bool HF.out.symm, HWA.out⟩
      | false =>
       rw [Bool.or_false, Bool.not_false, Bool.true_and] at HCA
       go_wp2_with (first
        | (at_lookup; first
         | refine wp_look_any _ rfl _ _ rfl HMA2.out rfl e7 rfl HV1 HT1 ?_
         | refine wp_look_any _ rfl _ _ rfl HMU2.out rfl IE rfl HV2 HT2 ?_)
        | fail)
       rw [HX.out]
       refine (leavesS_any _ g m' _ f6 hgl (HGR.out.fresh HCAA.out)).mono ?_
       rintro e wb ⟨rfl, hcb⟩
       rw [HA.out]
       have HMA3 := Lib.hid (HMA2.out.chg hcb (by simp))
       have HMU3 := Lib.hid (HMU2.out.chg hcb (by simp))
       have HWB := Lib.hid (HWA.out.trans hcb (by simp))
       have HCKB := Lib.hid (HCKA.out.trans hcb (by simp))
       clear hcb x0 x1
       by_cases hab : a = b
       ·subst hab
        rw [decide_eq_true rfl] at HCA
        have HRN := Lib.hid (show ∀ i, i < k + 1 → Plain.cycAt g cy i = true from fun i hi => by
         by_cases hik : i < k
         ·exact HR.out i hik
         have : i = k := by omega
         subst this
         exact HCA.out)
        go_wp2_with (at_mapUpdate; first
         | (refine wp_store _ rfl _ _ _ rfl HMA3.out hk1 rfl e7 IK rfl rfl ?_; intro w6 m6 g6; have M6 := Lib.hid m6; have G6 := Lib.hid g6; have U6 := Lib.hid (HMU3.out.kept g6 (by simp)); clear m6 g6)
         | (refine wp_store _ rfl _ _ _ rfl U6.out hk1 rfl IE IK rfl rfl ?_; intro w7 m7 g7; have M7 := Lib.hid m7; have G7 := Lib.hid g7; have A7 := Lib.hid (M6.out.kept g7 (by simp)); clear m7 g7))
        go_roundw
        case rel => exact ⟨k + 1, by omega, by go_num, by rw [HBN.out], by rw [← HA1.out]; exact A7.out, by rw [← HU1.out]; exact M7.out, HRN, (HCKB.out.grown G6.out (fun j hj => by cases hj; exact Or.inl (by simp))).grown G7.out (fun j hj => by cases hj; exact Or.inl (by simp))⟩
        case measure => simp [intOf]; omega
       have HF := Lib.hid (Plain.cyc_at (g := g) (p := p) hlt (by rw [HCA.out]; exact decide_eq_false hab))
       have hb1 : (a != b) = true := by simp [hab]
       have hb2 : (a == b) = false := by simp [hab]
       go_wp2
       go_ret
       exact ⟨ret_bool HF.out.symm, HWB.out⟩
    have e : k = cy.length := by omega
    subst e
    have HF := Lib.hid (Plain.cyc_ok (cy := cy) HPE.out hn0 (fun i hi => HD.out i hi) (fun i hi => HR.out i hi))
    clear x0 x1
    go_wp2
    go_ret
    exact ⟨ret_bool HF.out.symm, HWR.out⟩
 have hzb : ((p.err g) != 0) = true := by simp [hz]
 have hzc : ((p.err g) == 0) = false := by simp [hz]
 have HF := Lib.hid (Plain.cyc_err (cy := cy) hz)
 obtain ⟨er, her⟩ : ∃ er, p.err g = er := ⟨_, rfl⟩
 rw [her] at hzb hzc hz ⊢
 clear her
 go_wp2
 go_ret
 exact ⟨ret_bool HF.out.symm, HW2.out⟩
end Go.Proofs.Ytckjpaimbmlboaa
namespace Go.Proofs.Ytckjpaimbmlboaa.Plain
def lf (L : Int → Option Int) (d : Int) : Int := (L d).getD 0
def sideJoin (L : Int → Option Int) (p : Pt) (cy : List Int) : Nat → St
 | 0 => ⟨[], []⟩
 | k + 1 => if p.e.getD k 0 ∈ cy.map (· / 2) then sideJoin L p cy k else (sideJoin L p cy k).join (lf L (2 * p.e.getD k 0)) (lf L (2 * p.e.getD k 0 + 1))
def sideAdd (L : Int → Option Int) (p : Pt) (cy : List Int) : Nat → St
 | 0 => sideJoin L p cy p.e.length
 | k + 1 => ((sideAdd L p cy k).put (lf L (cy.getD k 0))).put (lf L (twin (cy.getD k 0)))
def sideHead (L : Int → Option Int) (cy : List Int) : Int := lf L (cy.getD 0 0)
def sideNo (L : Int → Option Int) (p : Pt) (cy : List Int) (r : Int) : Int := if r = sideHead L cy ∨ (sideAdd L p cy cy.length).same r (sideHead L cy) = true then 1 else 2
def sideOf (L : Int → Option Int) (p : Pt) (cy : List Int) (y : Int) : Option Int := (L y).map (sideNo L p cy)
theorem sideJoin_on {L : Int → Option Int} {p : Pt} {cy : List Int} {k : Nat} (h : p.e.getD k 0 ∈ cy.map (· / 2)) : sideJoin L p cy (k + 1) = sideJoin L p cy k := if_pos h
theorem sideJoin_off {L : Int → Option Int} {p : Pt} {cy : List Int} {k : Nat} (h : p.e.getD k 0 ∉ cy.map (· / 2)) : sideJoin L p cy (k + 1) = (sideJoin L p cy k).join (lf L (2 * p.e.getD k 0)) (lf L (2 * p.e.getD k 0 + 1)) := if_neg h
theorem sideAdd_succ (L : Int → Option Int) (p : Pt) (cy : List Int) (k : Nat) : sideAdd L p cy (k + 1) = ((sideAdd L p cy k).put (lf L (cy.getD k 0))).put (lf L (twin (cy.getD k 0))) := rfl
theorem join_len (s : St) (x y : Int) : (s.join x y).all.length ≤ s.all.length + 2 := by
 rw [St.join_eq]
 have h1 := (s.len_put x).2
 have h2 := ((s.put x).len_put y).2
 show ((s.put x).put y).all.length ≤ _
 omega
theorem sideJoin_len (L : Int → Option Int) (p : Pt) (cy : List Int) (k : Nat) : (sideJoin L p cy k).all.length ≤ 2 * k := by
 induction k with
 | zero => simp [sideJoin]
 | succ k ih =>
  by_cases h : p.e.getD k 0 ∈ cy.map (· / 2)
  ·rw [sideJoin_on h]; omega
  rw [sideJoin_off h]
  have := join_len (sideJoin L p cy k) (lf L (2 * p.e.getD k 0)) (lf L (2 * p.e.getD k 0 + 1))
  omega
theorem sideAdd_len (L : Int → Option Int) (p : Pt) (cy : List Int) (k : Nat) : (sideAdd L p cy k).all.length ≤ 2 * p.e.length + 2 * k := by
 induction k with
 | zero => have := sideJoin_len L p cy p.e.length; simpa [sideAdd] using this
 | succ k ih =>
  rw [sideAdd_succ]
  have h1 := ((sideAdd L p cy k).len_put (lf L (cy.getD k 0))).2
  have h2 := (((sideAdd L p cy k).put (lf L (cy.getD k 0))).len_put (lf L (twin (cy.getD k 0)))).2
  omega
theorem lastAt_mem {cy : List Int} {e : Int} : (lastAt (· / 2) cy cy.length e).isSome = decide (e ∈ cy.map (· / 2)) := by
 by_cases h : e ∈ cy.map (· / 2)
 ·rw [decide_eq_true h]
  cases hl : lastAt (· / 2) cy cy.length e with
  | some _ => rfl
  | none =>
   obtain ⟨d, hd, e1⟩ := List.mem_map.1 h
   obtain ⟨i, hi, rfl⟩ := mem_getD hd
   exact absurd e1 (lastAt_none.1 hl i hi)
 rw [decide_eq_false h, lastAt_none.2 fun i hi q => h (List.mem_map.2 ⟨_, getD_mem hi, q⟩)]
 rfl
theorem numOf_i64 {L : Int → Option Int} (h : ∀ y v, L y = some v → 0 ≤ v ∧ v < 1000000000) (y : Int) : 0 ≤ lf L y ∧ lf L y < 1000000000 := by
 unfold lf
 cases e : L y with
 | none => exact ⟨by simp, by simp⟩
 | some v => exact h y v e
theorem leftOf_small {ll : List (List Int)} (W : List Face) (hl : ll.length ≤ 30000) (y v : Int) (h : leftOf ll W y = some v) : 0 ≤ v ∧ v < 1000000000 := by
 unfold leftOf at h
 cases e : regionAt (places8 W) y with
 | none => rw [e] at h; cases h
 | some k =>
  rw [e] at h
  simp only [Option.map_some, Option.some.injEq] at h
  have := numOf_small ll (W.getD k (0, [])).1
  omega
theorem cyc_darts {g : Gr} {p : Pt} {cy : List Int} (h : cycOk g p cy = true) : p.err g = 0 ∧ 0 < cy.length ∧ ∀ d ∈ cy, ∃ n m : Nat, d = n ∧ n / 2 < g.e.length ∧ n < 2048 ∧ Plain.twin n = m ∧ m < 2048 := by
 unfold cycOk at h
 rw [Bool.and_eq_true, Bool.and_eq_true, Bool.and_eq_true] at h
 obtain ⟨⟨⟨h0, h1⟩, h2⟩, -⟩ := h
 have he := of_decide_eq_true h0
 refine ⟨he, ?_, fun d hd => ?_⟩
 ·cases cy with
  | nil => cases h1
  | cons a l => simp
 obtain ⟨i, hi, rfl⟩ := mem_getD hd
 have h3 := List.all_eq_true.1 h2 i (List.mem_range.2 hi)
 unfold dartAt at h3
 have hm := mem_darts.2 (of_decide_eq_true h3).2
 obtain ⟨n, e1, e2, e3⟩ := Pt.dart_nat he hm
 obtain ⟨m, e4, e5, e6⟩ := Pt.dart_nat he (twin_mem hm)
 exact ⟨n, m, e1, e2, e3, by rw [← e1]; exact e4, e6⟩
end Go.Proofs.Ytckjpaimbmlboaa.Plain
