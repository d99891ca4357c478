/- side.All: its contract. Conditions: a graph, a part, a plan, a list of ints that lie in memory and read so, of a bounded size. -/
import Derived.Test.YtckjpaimbmlboaaVSidesS
import Derived.Test.YtckjpaimbmlboaaVAllP
namespace Go.Proofs.Ytckjpaimbmlboaa
open Go.RowKit Go.Maps
namespace Plain
noncomputable def sideIs (g : Gr) (p : Pt) (turn same : List (List Int)) (cy : List Int) : Bool := cycOk g p cy && decide (planErr g p turn same = 0)
noncomputable def sideAt (g : Gr) (p : Pt) (turn same : List (List Int)) (cy : List Int) : Int → Option Int := sideOf (leftOf (regionsOf g p turn same) (walksOf g p turn)) p cy
theorem sideAt_le (g : Gr) (p : Pt) (turn same : List (List Int)) (cy : List Int) (y : Int) : 0 ≤ (sideAt g p turn same cy y).getD 0 ∧ (sideAt g p turn same cy y).getD 0 ≤ 2 := by
 unfold sideAt sideOf
 cases leftOf (regionsOf g p turn same) (walksOf g p turn) y with
 | none => simp
 | some r =>
  simp only [Option.map_some, Option.getD_some]
  unfold sideNo
  split <;> omega
noncomputable def allV (g : Gr) (p : Pt) (turn same : List (List Int)) (cy : List Int) : Int → Option Int := von g (vside (sideAt g p turn same cy) turn p p.v.length) cy cy.length
noncomputable def allE (g : Gr) (p : Pt) (turn same : List (List Int)) (cy : List Int) : Int → Option Int := eon (eside (sideAt g p turn same cy) p p.e.length) cy cy.length
theorem von_some {g : Gr} {S : Int → Option Int} {turn : List (List Int)} {p : Pt} {cy : List Int} {y : Int} (hy : y ∈ p.v) (k : Nat) : (von g (vside S turn p p.v.length) cy k y).isSome = true := by
 unfold von vside
 rw [List.take_length]
 split
 ·rfl
 first | rfl | (rw [if_pos hy]; rfl)
theorem eon_some {S : Int → Option Int} {p : Pt} {cy : List Int} {y : Int} (hy : y ∈ p.e) (k : Nat) : (eon (eside S p p.e.length) cy k y).isSome = true := by
 unfold eon eside
 rw [List.take_length]
 split
 ·rfl
 first | rfl | (rw [if_pos hy]; rfl)
end Plain
set_option maxRecDepth 100000 in
set_option maxHeartbeats 8000000 in
theorem all_any (vg vp vx vc : Value) (g : Plain.Gr) (p : Plain.Pt) (turn same : List (List Int)) (cy : List Int) (w : World) (hpl : p.e.length ≤ 10000) (hpv : p.v.length ≤ 10000) (hTL : turn.length < 2147483648) (hS : Plain.sumLen turn turn.length < 2147483648) (hsl : same.length ≤ 10000) (hsr : ∀ i, (same.getD i []).length ≤ 10000) (hcl : cy.length ≤ 1000000) (hg : GrAt w vg g) (hp : PtAt w vp p) (hx : PlAt w vx turn same) (hcy : IntsAt w vc cy) :
  Calls Try.prog 51 #[vg, vp, vx, vc] w fun e w' => ∃ mv me, e = .returned (.tuple #[mv, me, .bool (Plain.sideIs g p turn same cy)]) ∧ (Plain.sideIs g p turn same cy = false → mv = .map none ∧ me = .map none) ∧
   (Plain.sideIs g p turn same cy = true → ∃ a b, mv = .map (some a) ∧ me = .map (some b) ∧ NMap w' a p.v.length (Plain.allV g p turn same cy) ∧ NMap w' b p.e.length (Plain.allE g p turn same cy)) ∧ Chg [] w w' := by
 have HS1 := Lib.hid hS
 have HSR := Lib.hid hsr
 have HCC := Lib.hid hcy
 obtain ⟨co, cc, rfl, hci, hcm, -⟩ := hcy
 clear hS hsr hci hcm
 have HG := Lib.hid hg
 have HP := Lib.hid hp
 have HX := Lib.hid hx
 obtain ⟨eo, cap, rfl, hn, hm, hsm, hcell⟩ := hg
 obtain ⟨v1, v2, rfl, hv, he⟩ := hp
 obtain ⟨ao, ac, rfl, has, ham, hacell⟩ := hv
 obtain ⟨bo, bc, rfl, hbs, hbm, hbcell⟩ := he
 have HAC := Lib.hid hacell
 have HBC := Lib.hid hbcell
 obtain ⟨t1, t2, rfl, ht, hs⟩ := hx
 have HT := Lib.hid ht
 have HS := Lib.hid hs
 obtain ⟨tno, tc, rfl, htm, -⟩ := ht
 obtain ⟨so, sc, rfl, hsm2, hsc⟩ := hs
 obtain ⟨-, -, hc1⟩ := box_two w #[.int .i64 g.n, .slice eo g.e.length cap] #[.slice ao p.v.length ac, .slice bo p.e.length bc] 24 27
 obtain ⟨-, hc3⟩ := box_three w #[.int .i64 g.n, .slice eo g.e.length cap] #[.slice ao p.v.length ac, .slice bo p.e.length bc] #[.slice tno turn.length tc, .slice so same.length sc] 24 27 30
 have HC1 := Lib.hid (hc1.trans hc3 (by simp))
 have HBXS := Lib.hid (fun w2 h => three_boxes w (g := g) (p := p) (turn := turn) (same := same) (eo := eo) (ao := ao) (bo := bo) (tno := tno) (so := so) (cap := cap) (ac := ac) (bc := bc) (tc := tc) (sc := sc) (w2 := w2) h)
 clear hcell hacell hbcell hsm hbs has hn hc1 hc3 hsc
 have HPEI := Lib.hid (show IntsAt w (.slice bo p.e.length bc) p.e by obtain ⟨v1, v2, e, -, he⟩ := HP.out; cases e; exact he)
 have HPVI := Lib.hid (show IntsAt w (.slice ao p.v.length ac) p.v by obtain ⟨v1, v2, e, hv, -⟩ := HP.out; cases e; exact hv)
 obtain ⟨x0, x1, y0, y1, z0, z1, hsz⟩ := HBXS.out _ (Chg.refl _ _)
 go_enter Try.func51, Try.ntmps51
 go_wp2_with fail
 refine (sides_any _ _ _ _ g p turn same cy _ hpl hpv hTL HS1.out hsl HSR.out hcl (HG.out.fresh HC1.out) (HP.out.fresh HC1.out) (HX.out.fresh HC1.out) (HCC.out.fresh HC1.out)).mono ?_
 rintro e w2 ⟨sv, rfl, hno, hyes, hc2⟩
 obtain ⟨w1, hw1⟩ : ∃ w1, (((w.alloc (.cells #[.int .i64 g.n, .slice eo g.e.length cap] 24)).alloc (.cells #[.slice ao p.v.length ac, .slice bo p.e.length bc] 27)).alloc (.cells #[.slice tno turn.length tc, .slice so same.length sc] 30)) = w1 := ⟨_, rfl⟩
 rw [hw1] at HC1 HBXS hc2
 clear hw1
 have HC2 := Lib.hid hc2
 have HW2 := Lib.hid (HC1.out.trans HC2.out (by simp))
 have HBX := Lib.hid (fun wx (hx : Chg [] w2 wx) => HBXS.out wx (HC2.out.trans hx (by simp)))
 clear x0 x1 y0 y1 z0 z1 hsz hc2
 by_cases hk : Plain.sideIs g p turn same cy = true
 ·have hk2 := Bool.and_eq_true_iff.1 hk
  obtain ⟨sb, rfl, hsb, hsm⟩ := hyes hk2.1 (of_decide_eq_true hk2.2)
  rw [show (Plain.cycOk g p cy && decide (Plain.planErr g p turn same = 0)) = true from hk]
  have HSM := Lib.hid (show IMap w2 sb 4000000000000 (Plain.sideAt g p turn same cy) from hsm)
  have HK := Lib.hid hk
  have HDN := Lib.hid (Plain.cyc_darts hk2.1)
  have HPZ := Lib.hid (of_decide_eq_true hk2.2)
  have hmm := @run_makeMap Try.prog
  have HCN := Lib.hid (((Chg.refl [] w2).alloc (.map #[] 0)).alloc (.map #[] 0))
  have HA0 := Lib.hid ((NMap.made w2).chg ((Chg.refl [] _).alloc (.map #[] 0)) (by simp))
  have HB0 := Lib.hid (NMap.made (w2.alloc (.map #[] 0)))
  have HSZ := Lib.hid (show sb < w2.heap.size from HSM.out.lt)
  obtain ⟨x0, x1, y0, y1, z0, z1, hsz⟩ := HBX.out _ HCN.out
  clear hk hk2 hno hyes hsm hsb x0 x1 y1 z0 z1 hsz
  have HNB := Lib.hid (show w.heap.size ≤ w2.heap.size from HW2.out.size)
  go_wp2
  obtain ⟨vb, hvb⟩ : ∃ vb, w2.heap.size = vb := ⟨_, rfl⟩
  obtain ⟨eb, heb⟩ : ∃ eb, (w2.alloc (.map #[] 0)).heap.size = eb := ⟨_, rfl⟩
  have HEB := Lib.hid (show eb = vb + 1 by rw [← heb, ← hvb]; simp)
  have HVE := Lib.hid (show w2.heap.size = vb from hvb)
  rw [hvb] at HA0 HSZ HNB
  rw [heb] at HB0
  simp only [hvb]
  generalize (w2.alloc (.map #[] 0)).alloc (.map #[] 0) = w4 at *
  clear hvb heb hmm y0
  obtain rfl := HEB.out
  obtain ⟨S, hS0⟩ : ∃ S, Plain.sideAt g p turn same cy = S := ⟨_, rfl⟩
  have HSE := Lib.hid hS0
  have HS3 := Lib.hid (fun y => Plain.sideAt_le g p turn same cy y)
  rw [hS0] at HSM HS3
  clear hS0
  have HSM4 := Lib.hid (HSM.out.chg HCN.out (by simp))
  have HTO := Lib.hid (Plain.turnErr_zero (Plain.flatErr_zero (Plain.planErr_zero HPZ.out).1).1).2
  have HOK := Lib.hid (Plain.Pt.ok_of_err HDN.out.1)
  have HW4 := Lib.hid (HW2.out.trans HCN.out (by simp))
  have HV0 := Lib.hid (Plain.vside_zero S turn p)
  have HGN := Lib.hid (Plain.Gr.err_ok (Plain.Pt.err_ok HDN.out.1).1)
  go_loopw [38] (fun c wr => ∃ k : Nat, k ≤ p.v.length ∧ c = .int .i64 k ∧ NMap wr vb k (Plain.vside S turn p k) ∧ Chg [vb] w4 wr) (fun c _ => p.v.length - (intOf c).toNat)
  case atStart => exact ⟨0, Nat.zero_le _, rfl, by rw [HV0.out]; exact HA0.out, Chg.refl _ _⟩
  case round =>
   obtain ⟨k, hk, rfl, hm, hc⟩ := hrel
   have HM := Lib.hid hm
   have HC := Lib.hid hc
   have HC2K := Lib.hid (HCN.out.trans hc (fun j hj => Or.inr (by simp at hj; have := HVE.out; omega)))
   have HWK := Lib.hid (HW2.out.trans HC2K.out (by simp))
   obtain ⟨x0, x1, y0, y1, z0, z1, hsz⟩ := HBX.out _ HC2K.out
   clear hm hc x0 x1 y0 y1 z1 hsz
   by_cases hlt : k < p.v.length
   ·obtain ⟨rb, roff, rfl, rc⟩ := IntsAt.cellAt HPVI.out hlt
    have rcell := HWK.out.cell rc (by simp)
    have hvm : p.v.getD k 0 ∈ p.v := Plain.getD_mem hlt
    have hvr := HOK.out.vr _ hvm
    have htl := HTO.out.len
    obtain ⟨n, hn⟩ : ∃ n : Nat, p.v.getD k 0 = (n : Int) := ⟨(p.v.getD k 0).toNat, by omega⟩
    have HNX := Lib.hid (Plain.vside_succ (S := S) (turn := turn) hlt)
    have HNW := Lib.hid (Plain.vside_new (S := S) (turn := turn) HOK.out.vn hlt)
    rw [hn] at rcell hvr HNX HNW
    have hnt : n < turn.length := by omega
    obtain ⟨tb, toff, uo, uc, rfl, tcell, hrow⟩ := (HT.out.fresh HWK.out).row hnt
    have HTA := Lib.hid (show Plain.turnAt turn (n : Int) = turn.getD n [] from rfl)
    obtain ⟨T, hT⟩ : ∃ T, turn.getD n [] = T := ⟨_, rfl⟩
    rw [hT] at tcell hrow HTA
    have HROW := Lib.hid hrow
    have HSK := Lib.hid (HSM4.out.chg HC.out (by have := HSZ.out; simp; omega))
    have IN : I64 (n : Int) := I64.mk (by omega) (by omega)
    have hk1 : k < maxLen := by unfold maxLen; omega
    clear rc hvm hvr htl hn hT hrow
    by_cases hl : 0 < T.length
    ·obtain ⟨qb, qoff, rfl, qc⟩ := IntsAt.cellAt HROW.out hl
     have bl : decide ((T.length : Int) > 0) = true := decide_eq_true (by omega)
     have IY : I64 (T.getD 0 0) := by obtain ⟨_, _, -, h, -, -⟩ := HROW.out; exact h _ (Plain.getD_mem hl)
     have HST := Lib.hid (show Plain.seat turn (n : Int) = T.getD 0 0 by unfold Plain.seat; rw [HTA.out, if_pos hl])
     have h3 := HS3.out (T.getD 0 0)
     obtain ⟨y, hy⟩ : ∃ y, T.getD 0 0 = y := ⟨_, rfl⟩
     rw [hy] at qc IY HST h3
     obtain ⟨r, hr⟩ : ∃ r, (S y).getD 0 = r := ⟨_, rfl⟩
     rw [hr] at h3
     have HR := Lib.hid hr
     have IR : I64 r := I64.mk (by omega) (by omega)
     rw [HST.out, hr] at HNX
     rw [Nat.add_zero] at qc
     clear hy hr h3
     go_wp2_with (first
      | (at_lookup; refine wp_look _ rfl _ _ rfl HSK.out rfl IY rfl HR ?_)
      | (at_mapUpdate; refine wp_nstore _ rfl _ _ _ rfl HM.out hk1 rfl IN IR HNW.out rfl rfl ?_; intro w6 m6 g6; have M6 := Lib.hid m6; have G6 := Lib.hid g6; clear m6 g6))
     go_roundw
     case rel => exact ⟨k + 1, by omega, by go_num, by rw [← HNX.out]; exact M6.out, HC.out.trans G6.out (fun j hj => Or.inl hj)⟩
     case measure => simp [intOf]; omega
    have bl : decide ((T.length : Int) > 0) = false := decide_eq_false (by omega)
    have HST := Lib.hid (show Plain.seat turn (n : Int) = -1 - (n : Int) by unfold Plain.seat; rw [HTA.out, if_neg hl])
    have wn : IntKind.i64.wrap (-1 - (n : Int)) = -1 - (n : Int) := IntWalk.i64_in _ (by omega)
    have IY : I64 (-1 - (n : Int)) := I64.mk (by omega) (by omega)
    have h3 := HS3.out (-1 - (n : Int))
    obtain ⟨r, hr⟩ : ∃ r, (S (-1 - (n : Int))).getD 0 = r := ⟨_, rfl⟩
    rw [hr] at h3
    have HR := Lib.hid hr
    have IR : I64 r := I64.mk (by omega) (by omega)
    rw [HST.out, hr] at HNX
    clear hr h3
    go_wp2_with (first
     | (at_lookup; refine wp_look _ rfl _ _ rfl HSK.out rfl IY rfl HR ?_)
     | (at_mapUpdate; refine wp_nstore _ rfl _ _ _ rfl HM.out hk1 rfl IN IR HNW.out rfl rfl ?_; intro w6 m6 g6; have M6 := Lib.hid m6; have G6 := Lib.hid g6; clear m6 g6))
    go_roundw
    case rel => exact ⟨k + 1, by omega, by go_num, by rw [← HNX.out]; exact M6.out, HC.out.trans G6.out (fun j hj => Or.inl hj)⟩
    case measure => simp [intOf]; omega
   have e : k = p.v.length := by omega
   subst e
   clear z0
   have HSZ5 := Lib.hid (HSM4.out.chg HC.out (by have := HSZ.out; simp; omega))
   have HE5 := Lib.hid (HB0.out.chg HC.out (by simp))
   have HE0 := Lib.hid (Plain.eside_zero S p)
   obtain ⟨x0, x1, y0, y1, z0, z1, hsz⟩ := HBX.out _ HC2K.out
   clear x0 x1 y0 z0 z1 hsz
   generalize wr = w5 at *
   obtain ⟨V, hV⟩ : ∃ V, Plain.vside S turn p p.v.length = V := ⟨_, rfl⟩
   have HVV := Lib.hid hV
   rw [hV] at HM
   clear hV hlt hk
   go_wp2
   go_loopw [64] (fun c wr => ∃ k : Nat, k ≤ p.e.length ∧ c = .int .i64 k ∧ NMap wr (vb + 1) k (Plain.eside S p k) ∧ Chg [vb + 1] w5 wr) (fun c _ => p.e.length - (intOf c).toNat)
   case atStart => exact ⟨0, Nat.zero_le _, rfl, by rw [HE0.out]; exact HE5.out, Chg.refl _ _⟩
   case round =>
    obtain ⟨k, hk, rfl, hm, hc⟩ := hrel
    have HME := Lib.hid hm
    have HCE := Lib.hid hc
    have HC2E := Lib.hid (HC2K.out.trans hc (fun j hj => Or.inr (by simp at hj; have := HVE.out; omega)))
    have HWE := Lib.hid (HW2.out.trans HC2E.out (by simp))
    clear hm hc
    by_cases hlt : k < p.e.length
    ·obtain ⟨rb, roff, rfl, rc⟩ := IntsAt.cellAt HPEI.out hlt
     have rcell := HWE.out.cell rc (by simp)
     have her := Plain.Pt.edge_in HDN.out.1 (Plain.getD_mem hlt)
     have hgn := HGN.out
     obtain ⟨n, hn⟩ : ∃ n : Nat, p.e.getD k 0 = (n : Int) := ⟨(p.e.getD k 0).toNat, by omega⟩
     have HNX := Lib.hid (Plain.eside_succ (S := S) hlt)
     have HNW := Lib.hid (Plain.eside_new (S := S) HOK.out.en hlt)
     rw [hn] at rcell her HNX HNW
     have hn2 : n < 4294967296 := by omega
     have wn : IntKind.i64.wrap (2 * (n : Int)) = 2 * (n : Int) := IntWalk.i64_in _ (by omega)
     have IN : I64 (n : Int) := I64.mk (by omega) (by omega)
     have IY : I64 (2 * (n : Int)) := I64.mk (by omega) (by omega)
     have HSK := Lib.hid (HSZ5.out.chg HCE.out (by have := HSZ.out; simp; omega))
     have hk1 : k < maxLen := by unfold maxLen; omega
     have h3 := HS3.out (2 * (n : Int))
     obtain ⟨r, hr⟩ : ∃ r, (S (2 * (n : Int))).getD 0 = r := ⟨_, rfl⟩
     rw [hr] at h3 HNX
     have HR := Lib.hid hr
     have IR : I64 r := I64.mk (by omega) (by omega)
     clear rc hn her hgn hr h3
     go_wp2_with (first
      | (at_lookup; refine wp_look _ rfl _ _ rfl HSK.out rfl IY rfl HR ?_)
      | (at_mapUpdate; refine wp_nstore _ rfl _ _ _ rfl HME.out hk1 rfl IN IR HNW.out rfl rfl ?_; intro w6 m6 g6; have M6 := Lib.hid m6; have G6 := Lib.hid g6; clear m6 g6))
     go_roundw
     case rel => exact ⟨k + 1, by omega, by go_num, by rw [← HNX.out]; exact M6.out, HCE.out.trans G6.out (fun j hj => Or.inl hj)⟩
     case measure => simp [intOf]; omega
    have e : k = p.e.length := by omega
    subst e
    have HM6 := Lib.hid (HM.out.chg HCE.out (by simp))
    obtain ⟨E, hE⟩ : ∃ E, Plain.eside S p p.e.length = E := ⟨_, rfl⟩
    have HEE := Lib.hid hE
    rw [hE] at HME
    have HVS := Lib.hid (show ∀ y ∈ p.v, ∀ k, (Plain.von g V cy k y).isSome = true from fun y hy k => by rw [← HVV.out]; exact Plain.von_some hy k)
    have HES := Lib.hid (show ∀ y ∈ p.e, ∀ k, (Plain.eon E cy k y).isSome = true from fun y hy k => by rw [← HEE.out]; exact Plain.eon_some hy k)
    have HVO := Lib.hid (Plain.von_zero g V cy)
    have HEO := Lib.hid (Plain.eon_zero E cy)
    have HKC := Lib.hid (Bool.and_eq_true_iff.1 HK.out).1
    generalize wr = w6 at *
    clear hE hlt hk
    go_wp2
    go_loopw [77] (fun c wr => ∃ k : Nat, k ≤ cy.length ∧ c = .int .i64 k ∧ NMap wr vb p.v.length (Plain.von g V cy k) ∧ NMap wr (vb + 1) p.e.length (Plain.eon E cy k) ∧ Chg [vb, vb + 1] w6 wr) (fun c _ => cy.length - (intOf c).toNat)
    case atStart => exact ⟨0, Nat.zero_le _, rfl, by rw [HVO.out]; exact HM6.out, by rw [HEO.out]; exact HME.out, Chg.refl _ _⟩
    case round =>
     obtain ⟨k, hk, rfl, hmv, hme, hc⟩ := hrel
     have HMV := Lib.hid hmv
     have HMX := Lib.hid hme
     have HC3 := Lib.hid hc
     have HC23 := Lib.hid (HC2E.out.trans hc (fun j hj => Or.inr (by simp at hj; have := HVE.out; omega)))
     have HW3 := Lib.hid (HW2.out.trans HC23.out (by simp))
     obtain ⟨x0, x1, y0, y1, z0, z1, hsz⟩ := HBX.out _ HC23.out
     clear hmv hme hc y0 y1 z0 z1 hsz
     by_cases hlt : k < cy.length
     ·obtain ⟨rb, roff, rfl, rc⟩ := IntsAt.cellAt HCC.out hlt
      have rcell := HW3.out.cell rc (by simp)
      obtain ⟨n, m, e1, e2, e3, e4, e5⟩ := HDN.out.2.2 _ (Plain.getD_mem hlt)
      have hdm := Plain.cyc_mem HKC.out (Plain.getD_mem hlt)
      have htv := (HOK.out.tail_mem hdm).1
      have hev := Plain.mem_darts.1 hdm
      have htr := HOK.out.vr _ htv
      have HA1 := Lib.hid (Plain.von_succ (g := g) (V := V) hlt)
      have HU1 := Lib.hid (Plain.eon_succ (E := E) hlt)
      rw [e1] at rcell htv hev htr HA1 HU1
      rw [show (n : Int) / 2 = ((n / 2 : Nat) : Int) from rfl] at hev HU1
      have HFV := Lib.hid (HVS.out _ htv k)
      have HFE := Lib.hid (HES.out _ hev k)
      have hgn := HGN.out
      have hgl : g.e.length < 4294967296 := by omega
      have q1 : Int.tdiv (n : Int) 2 = ((n / 2 : Nat) : Int) := by rw [Int.tdiv_eq_ediv_of_nonneg (by omega)]; rfl
      have HGR := Lib.hid (HG.out.fresh HW3.out)
      have IT : I64 (g.tail (n : Int)) := I64.mk (by omega) (by omega)
      obtain ⟨t, ht⟩ : ∃ t, g.tail (n : Int) = t := ⟨_, rfl⟩
      have HTL := Lib.hid ht
      rw [ht] at HA1 HFV IT
      obtain ⟨ee, hee⟩ : ∃ ee, n / 2 = ee := ⟨_, rfl⟩
      have HEQ := Lib.hid hee
      rw [hee] at HU1 HFE q1
      have IE : I64 (ee : Int) := I64.mk (by omega) (by omega)
      have we : IntKind.i64.wrap (ee : Int) = ee := IntWalk.i64_in _ (by omega)
      have I0 : I64 0 := I64.mk (by omega) (by omega)
      have hv1 : p.v.length < maxLen := by unfold maxLen; omega
      have he1 : p.e.length < maxLen := by unfold maxLen; omega
      clear rc hdm htv hev htr hgn ht hee e1 e4 e5
      go_wp2_with fail
      refine (leavesS_any _ g n _ e2 hgl HGR.out).mono ?_
      rintro e wa ⟨rfl, hca⟩
      rw [HTL.out]
      have HMV2 := Lib.hid (HMV.out.chg hca (by simp))
      have HMX2 := Lib.hid (HMX.out.chg hca (by simp))
      have HC3A := Lib.hid (HC3.out.trans hca (by simp))
      clear hca x0 x1 rcell
      go_wp2_with (at_mapUpdate; first
       | (refine wp_nset _ rfl _ _ _ rfl HMV2.out hv1 rfl IT I0 HFV.out rfl rfl ?_; intro w7 m7 g7; have M7 := Lib.hid m7; have G7 := Lib.hid g7; have X7 := Lib.hid (HMX2.out.chg g7 (by simp)); clear m7 g7)
       | (refine wp_nset _ rfl _ _ _ rfl X7.out he1 rfl IE I0 HFE.out rfl rfl ?_; intro w8 m8 g8; have M8 := Lib.hid m8; have G8 := Lib.hid g8; have V8 := Lib.hid (M7.out.chg g8 (by simp)); clear m8 g8))
      go_roundw
      case rel => exact ⟨k + 1, by omega, by go_num, by rw [← HA1.out]; exact V8.out, by rw [← HU1.out]; exact M8.out, (HC3A.out.trans G7.out (fun j hj => Or.inl (by simp at hj; simp [hj]))).trans G8.out (fun j hj => Or.inl (by simp at hj; simp [hj]))⟩
      case measure => simp [intOf]; omega
     have e : k = cy.length := by omega
     subst e
     clear x0 x1
     go_wp2
     exact bodyPost_ret (v := .tuple #[.map (some vb), .map (some (vb + 1)), .bool true]) (by simp [results, Try.results51, go_sem]) rfl ⟨_, _, by rw [HK.out], fun h => absurd (HK.out.symm.trans h) (by decide), fun _ => ⟨vb, vb + 1, rfl, rfl, by unfold Plain.allV; rw [HSE.out, HVV.out]; exact HMV.out, by unfold Plain.allE; rw [HSE.out, HEE.out]; exact HMX.out⟩, HW3.out⟩
 have hkf : Plain.sideIs g p turn same cy = false := by simpa using hk
 have hsv := hno (fun h => hk (by unfold Plain.sideIs; rw [h.1, decide_eq_true h.2]; rfl))
 subst hsv
 have HF := Lib.hid hkf
 rw [show (Plain.cycOk g p cy && decide (Plain.planErr g p turn same = 0)) = false from hkf]
 clear hkf hk hno hyes
 go_wp2
 exact bodyPost_ret (v := .tuple #[.map none, .map none, .bool false]) (by simp [results, Try.results51, go_sem]) rfl ⟨_, _, by rw [HF.out], fun _ => ⟨rfl, rfl⟩, fun h => absurd (HF.out.symm.trans h) (by decide), HW2.out⟩
namespace Plain
noncomputable def vertV (g : Gr) (p : Pt) (turn same : List (List Int)) (cy : List Int) (v : Int) : Int := if sideIs g p turn same cy = true then (allV g p turn same cy v).getD 0 else 0
noncomputable def vertOk (g : Gr) (p : Pt) (turn same : List (List Int)) (cy : List Int) (v : Int) : Bool := sideIs g p turn same cy && (allV g p turn same cy v).isSome
noncomputable def edgeV (g : Gr) (p : Pt) (turn same : List (List Int)) (cy : List Int) (v : Int) : Int := if sideIs g p turn same cy = true then (allE g p turn same cy v).getD 0 else 0
noncomputable def edgeOk (g : Gr) (p : Pt) (turn same : List (List Int)) (cy : List Int) (v : Int) : Bool := sideIs g p turn same cy && (allE g p turn same cy v).isSome
end Plain
theorem wp_look_nil (w : World) {ops : Array Oper} {rest : List Oper} {o : Oper} {a : Act} {Q : Exit → Act → World → Prop} (hg : o.guard = none) (m x : Operand) (hop : o.op = Op.lookup 60 m x true) (hm : a.eval m = .map none)
  {k : Int} (hk : I64 k) (hx : a.eval x = .int .i64 k) (hK : wpList Try.prog ops Q rest (a.put o.dst (.tuple #[.int .i64 0, .bool false])) w) : wpList Try.prog ops Q (o :: rest) a w := by
 refine wpList_plain hg fun K' hK' => ?_
 have h := Maps.look_nil (w := w) true keyedInt Try.underlying60 (zeroInt w) (keyOf_int_mk Try.underlying3 hk)
 unfold Oper.wp
 simp [execOp, hop, hm, hx, h, Result.andThen]
 exact hK' _ _ hK
set_option maxRecDepth 100000 in
set_option maxHeartbeats 4000000 in
theorem vertex_any (vg vp vx vc : Value) (g : Plain.Gr) (p : Plain.Pt) (turn same : List (List Int)) (cy : List Int) (v : Int) (w : World) (hpl : p.e.length ≤ 10000) (hpv : p.v.length ≤ 10000) (hTL : turn.length < 2147483648) (hS : Plain.sumLen turn turn.length < 2147483648) (hsl : same.length ≤ 10000) (hsr : ∀ i, (same.getD i []).length ≤ 10000) (hcl : cy.length ≤ 1000000) (iv : I64 v) (hg : GrAt w vg g) (hp : PtAt w vp p) (hx : PlAt w vx turn same) (hcy : IntsAt w vc cy) :
  Calls Try.prog 19 #[vg, vp, vx, vc, .int .i64 v] w fun e w' => e = .returned (.tuple #[.int .i64 (Plain.vertV g p turn same cy v), .bool (Plain.vertOk g p turn same cy v)]) ∧ Chg [] w w' := by
 have HS1 := Lib.hid hS
 have HSR := Lib.hid hsr
 have HCC := Lib.hid hcy
 obtain ⟨co, cc, rfl, hci, hcm, -⟩ := hcy
 clear hS hsr hci hcm
 have HG := Lib.hid hg
 have HP := Lib.hid hp
 have HX := Lib.hid hx
 obtain ⟨eo, cap, rfl, hn, hm, hsm, hcell⟩ := hg
 obtain ⟨v1, v2, rfl, hv, he⟩ := hp
 obtain ⟨ao, ac, rfl, has, ham, hacell⟩ := hv
 obtain ⟨bo, bc, rfl, hbs, hbm, hbcell⟩ := he
 have HAC := Lib.hid hacell
 have HBC := Lib.hid hbcell
 obtain ⟨t1, t2, rfl, ht, hs⟩ := hx
 have HT := Lib.hid ht
 have HS := Lib.hid hs
 obtain ⟨tno, tc, rfl, htm, -⟩ := ht
 obtain ⟨so, sc, rfl, hsm2, hsc⟩ := hs
 obtain ⟨-, -, hc1⟩ := box_two w #[.int .i64 g.n, .slice eo g.e.length cap] #[.slice ao p.v.length ac, .slice bo p.e.length bc] 24 27
 obtain ⟨-, hc3⟩ := box_three w #[.int .i64 g.n, .slice eo g.e.length cap] #[.slice ao p.v.length ac, .slice bo p.e.length bc] #[.slice tno turn.length tc, .slice so same.length sc] 24 27 30
 have HC1 := Lib.hid (hc1.trans hc3 (by simp))
 have HBXS := Lib.hid (fun w2 h => three_boxes w (g := g) (p := p) (turn := turn) (same := same) (eo := eo) (ao := ao) (bo := bo) (tno := tno) (so := so) (cap := cap) (ac := ac) (bc := bc) (tc := tc) (sc := sc) (w2 := w2) h)
 clear hcell hacell hbcell hsm hbs has hn hc1 hc3 hsc
 obtain ⟨x0, x1, y0, y1, z0, z1, hsz⟩ := HBXS.out _ (Chg.refl _ _)
 go_enter Try.func19, Try.ntmps19
 go_wp2_with fail
 refine (all_any _ _ _ _ g p turn same cy _ hpl hpv hTL HS1.out hsl HSR.out hcl (HG.out.fresh HC1.out) (HP.out.fresh HC1.out) (HX.out.fresh HC1.out) (HCC.out.fresh HC1.out)).mono ?_
 rintro e w2 ⟨mv, me, rfl, hno, hyes, hc2⟩
 have HW2 := Lib.hid (HC1.out.trans hc2 (by simp))
 clear x0 x1 y0 y1 z0 z1 hsz hc2
 by_cases hk : Plain.sideIs g p turn same cy = true
 ·obtain ⟨a, b, rfl, rfl, hma, -⟩ := hyes hk
  have HMA := Lib.hid hma.imap
  have HV := Lib.hid (show Plain.vertV g p turn same cy v = (Plain.allV g p turn same cy v).getD 0 from if_pos hk)
  have HO := Lib.hid (show Plain.vertOk g p turn same cy v = (Plain.allV g p turn same cy v).isSome by unfold Plain.vertOk; rw [hk]; rfl)
  obtain ⟨u, hu⟩ : ∃ u, (Plain.allV g p turn same cy v).getD 0 = u := ⟨_, rfl⟩
  obtain ⟨t, ht⟩ : ∃ t, (Plain.allV g p turn same cy v).isSome = t := ⟨_, rfl⟩
  rw [hu] at HV
  rw [ht] at HO
  have HU := Lib.hid hu
  have HT1 := Lib.hid ht
  rw [hk]
  clear hno hyes hma hk hu ht
  go_wp2_with (at_lookup; refine wp_look_any _ rfl _ _ rfl HMA.out rfl iv rfl HU HT1 ?_)
  exact bodyPost_ret (v := .tuple #[.int .i64 u, .bool t]) (by simp [results, Try.results19, go_sem]) rfl ⟨by rw [HV.out, HO.out], HW2.out⟩
 have hkf : Plain.sideIs g p turn same cy = false := by simpa using hk
 obtain ⟨rfl, rfl⟩ := hno hkf
 have HV := Lib.hid (show Plain.vertV g p turn same cy v = 0 from if_neg hk)
 have HO := Lib.hid (show Plain.vertOk g p turn same cy v = false by unfold Plain.vertOk; rw [hkf]; rfl)
 rw [hkf]
 clear hno hyes hk hkf
 go_wp2_with (at_lookup; refine wp_look_nil _ rfl _ _ rfl rfl iv rfl ?_)
 exact bodyPost_ret (v := .tuple #[.int .i64 0, .bool false]) (by simp [results, Try.results19, go_sem]) rfl ⟨by rw [HV.out, HO.out], HW2.out⟩
set_option maxRecDepth 100000 in
set_option maxHeartbeats 4000000 in
theorem edge_any (vg vp vx vc : Value) (g : Plain.Gr) (p : Plain.Pt) (turn same : List (List Int)) (cy : List Int) (v : Int) (w : World) (hpl : p.e.length ≤ 10000) (hpv : p.v.length ≤ 10000) (hTL : turn.length < 2147483648) (hS : Plain.sumLen turn turn.length < 2147483648) (hsl : same.length ≤ 10000) (hsr : ∀ i, (same.getD i []).length ≤ 10000) (hcl : cy.length ≤ 1000000) (iv : I64 v) (hg : GrAt w vg g) (hp : PtAt w vp p) (hx : PlAt w vx turn same) (hcy : IntsAt w vc cy) :
  Calls Try.prog 21 #[vg, vp, vx, vc, .int .i64 v] w fun e w' => e = .returned (.tuple #[.int .i64 (Plain.edgeV g p turn same cy v), .bool (Plain.edgeOk g p turn same cy v)]) ∧ Chg [] w w' := by
 have HS1 := Lib.hid hS
 have HSR := Lib.hid hsr
 have HCC := Lib.hid hcy
 obtain ⟨co, cc, rfl, hci, hcm, -⟩ := hcy
 clear hS hsr hci hcm
 have HG := Lib.hid hg
 have HP := Lib.hid hp
 have HX := Lib.hid hx
 obtain ⟨eo, cap, rfl, hn, hm, hsm, hcell⟩ := hg
 obtain ⟨v1, v2, rfl, hv, he⟩ := hp
 obtain ⟨ao, ac, rfl, has, ham, hacell⟩ := hv
 obtain ⟨bo, bc, rfl, hbs, hbm, hbcell⟩ := he
 have HAC := Lib.hid hacell
 have HBC := Lib.hid hbcell
 obtain ⟨t1, t2, rfl, ht, hs⟩ := hx
 have HT := Lib.hid ht
 have HS := Lib.hid hs
 obtain ⟨tno, tc, rfl, htm, -⟩ := ht
 obtain ⟨so, sc, rfl, hsm2, hsc⟩ := hs
 obtain ⟨-, -, hc1⟩ := box_two w #[.int .i64 g.n, .slice eo g.e.length cap] #[.slice ao p.v.length ac, .slice bo p.e.length bc] 24 27
 obtain ⟨-, hc3⟩ := box_three w #[.int .i64 g.n, .slice eo g.e.length cap] #[.slice ao p.v.length ac, .slice bo p.e.length bc] #[.slice tno turn.length tc, .slice so same.length sc] 24 27 30
 have HC1 := Lib.hid (hc1.trans hc3 (by simp))
 have HBXS := Lib.hid (fun w2 h => three_boxes w (g := g) (p := p) (turn := turn) (same := same) (eo := eo) (ao := ao) (bo := bo) (tno := tno) (so := so) (cap := cap) (ac := ac) (bc := bc) (tc := tc) (sc := sc) (w2 := w2) h)
 clear hcell hacell hbcell hsm hbs has hn hc1 hc3 hsc
 obtain ⟨x0, x1, y0, y1, z0, z1, hsz⟩ := HBXS.out _ (Chg.refl _ _)
 go_enter Try.func21, Try.ntmps21
 go_wp2_with fail
 refine (all_any _ _ _ _ g p turn same cy _ hpl hpv hTL HS1.out hsl HSR.out hcl (HG.out.fresh HC1.out) (HP.out.fresh HC1.out) (HX.out.fresh HC1.out) (HCC.out.fresh HC1.out)).mono ?_
 rintro e w2 ⟨mv, me, rfl, hno, hyes, hc2⟩
 have HW2 := Lib.hid (HC1.out.trans hc2 (by simp))
 clear x0 x1 y0 y1 z0 z1 hsz hc2
 by_cases hk : Plain.sideIs g p turn same cy = true
 ·obtain ⟨a, b, rfl, rfl, -, hma⟩ := hyes hk
  have HMA := Lib.hid hma.imap
  have HV := Lib.hid (show Plain.edgeV g p turn same cy v = (Plain.allE g p turn same cy v).getD 0 from if_pos hk)
  have HO := Lib.hid (show Plain.edgeOk g p turn same cy v = (Plain.allE g p turn same cy v).isSome by unfold Plain.edgeOk; rw [hk]; rfl)
  obtain ⟨u, hu⟩ : ∃ u, (Plain.allE g p turn same cy v).getD 0 = u := ⟨_, rfl⟩
  obtain ⟨t, ht⟩ : ∃ t, (Plain.allE g p turn same cy v).isSome = t := ⟨_, rfl⟩
  rw [hu] at HV
  rw [ht] at HO
  have HU := Lib.hid hu
  have HT1 := Lib.hid ht
  rw [hk]
  clear hno hyes hma hk hu ht
  go_wp2_with (at_lookup; refine wp_look_any _ rfl _ _ rfl HMA.out rfl iv rfl HU HT1 ?_)
  exact bodyPost_ret (v := .tuple #[.int .i64 u, .bool t]) (by simp [results, Try.results21, go_sem]) rfl ⟨by rw [HV.out, HO.out], HW2.out⟩
 have hkf : Plain.sideIs g p turn same cy = false := by simpa using hk
 obtain ⟨rfl, rfl⟩ := hno hkf
 have HV := Lib.hid (show Plain.edgeV g p turn same cy v = 0 from if_neg hk)
 have HO := Lib.hid (show Plain.edgeOk g p turn same cy v = false by unfold Plain.edgeOk; rw [hkf]; rfl)
 rw [hkf]
 clear hno hyes hk hkf
 go_wp2_with (at_lookup; refine wp_look_nil _ rfl _ _ rfl rfl iv rfl ?_)
 exact bodyPost_ret (v := .tuple #[.int .i64 0, .bool false]) (by simp [results, Try.results21, go_sem]) rfl ⟨by rw [HV.out, HO.out], HW2.out⟩
theorem alloc_at (w : World) (o : Obj) (n : Nat) (h : w.heap.size = n) : (w.alloc o).heap[n]? = some o ∧ (w.alloc o).heap.size = n + 1 ∧ ∀ (b : Nat) (o' : Obj), w.heap[b]? = some o' → (w.alloc o).heap[b]? = some o' := by
 subst h
 exact ⟨heap_alloc_new w o, by simp, fun b o' hb => ((Chg.refl [] w).alloc o).heap hb (by simp)⟩
theorem ints_two {w : World} {b : Nat} {x y : Int} (h : w.heap[b]? = some (.cells #[.int .i64 x, .int .i64 y] 3)) (hx : I64 x) (hy : I64 y) : IntsAt w (.slice (some ⟨b, 0, none⟩) 2 2) [x, y] := by
 refine ⟨_, 2, rfl, by simp [hx, hy], by simp, fun _ => ⟨b, 0, rfl, fun i hi => ?_⟩⟩
 simp at hi
 rw [cell_of_row _ _ _ _ _ _ h]
 rcases i with _ | _ | i
 ·rfl
 ·rfl
 omega
theorem ints_three {w : World} {b : Nat} {x y z : Int} (h : w.heap[b]? = some (.cells #[.int .i64 x, .int .i64 y, .int .i64 z] 3)) (hx : I64 x) (hy : I64 y) (hz : I64 z) : IntsAt w (.slice (some ⟨b, 0, none⟩) 3 3) [x, y, z] := by
 refine ⟨_, 3, rfl, by simp [hx, hy, hz], by simp, fun _ => ⟨b, 0, rfl, fun i hi => ?_⟩⟩
 simp at hi
 rw [cell_of_row _ _ _ _ _ _ h]
 rcases i with _ | _ | _ | i
 ·rfl
 ·rfl
 ·rfl
 omega
theorem lit_three (w : World) {x y z : Int} (hx : I64 x) (hy : I64 y) (hz : I64 z) : IntsAt (w.alloc (.cells #[.int .i64 x, .int .i64 y, .int .i64 z] 3)) (.slice (some ⟨w.heap.size, 0, none⟩) 3 3) [x, y, z] := ints_three (heap_alloc_new w _) hx hy hz
theorem capOk (b n : Nat) (h : n ≤ 100) : CapOk (.slice (some ⟨b, 0, none⟩) n n) := ⟨_, n, n, rfl, Nat.le_refl _, by omega⟩
theorem gr_tri {w : World} {b : Nat} (h : w.heap[b]? = some (.cells #[.int .i64 0, .int .i64 1, .int .i64 1, .int .i64 2, .int .i64 2, .int .i64 0] 79)) : GrAt w (.agg #[.int .i64 4, .slice (some ⟨b, 0, none⟩) 3 3]) Plain.g1 := by
 have hc := fun i => cell_of_row w b i _ _ _ h
 refine ⟨_, 3, rfl, I64.mk (by decide) (by decide), by decide, fun i hi => ?_, fun i hi => ⟨b, 0, rfl, ?_⟩⟩
 ·have hi : i < 3 := hi
  rcases (show i = 0 ∨ i = 1 ∨ i = 2 by omega) with rfl | rfl | rfl
  ·exact ⟨I64.mk (by decide) (by decide), I64.mk (by decide) (by decide)⟩
  ·exact ⟨I64.mk (by decide) (by decide), I64.mk (by decide) (by decide)⟩
  exact ⟨I64.mk (by decide) (by decide), I64.mk (by decide) (by decide)⟩
 have hi : i < 3 := hi
 rcases (show i = 0 ∨ i = 1 ∨ i = 2 by omega) with rfl | rfl | rfl
 ·exact ⟨(hc 0).trans rfl, (hc 1).trans rfl⟩
 ·exact ⟨(hc 2).trans rfl, (hc 3).trans rfl⟩
 exact ⟨(hc 4).trans rfl, (hc 5).trans rfl⟩
theorem pl_tri {w : World} {b0 b1 b2 b3 b4 b5 : Nat} {k : Int} (hk : I64 k) (h0 : w.heap[b0]? = some (.cells #[.int .i64 0, .int .i64 5] 3)) (h1 : w.heap[b1]? = some (.cells #[.int .i64 1, .int .i64 2] 3)) (h2 : w.heap[b2]? = some (.cells #[.int .i64 3, .int .i64 4] 3))
  (h3 : w.heap[b3]? = some (.cells #[.slice (some ⟨b0, 0, none⟩) 2 2, .slice (some ⟨b1, 0, none⟩) 2 2, .slice (some ⟨b2, 0, none⟩) 2 2, .slice none 0 0] 25)) (h4 : w.heap[b4]? = some (.cells #[.int .i64 (-4), .int .i64 k] 3)) (h5 : w.heap[b5]? = some (.cells #[.slice (some ⟨b4, 0, none⟩) 2 2] 25)) :
  PlAt w (.agg #[.slice (some ⟨b3, 0, none⟩) 4 4, .slice (some ⟨b5, 0, none⟩) 1 1]) Plain.t1 [[-4, k]] := by
 have i0 : ∀ x : Int, -100 ≤ x → x ≤ 100 → I64 x := fun x a b => I64.mk (by omega) (by omega)
 have hc3 := fun i => cell_of_row w b3 i _ _ _ h3
 have hc5 := fun i => cell_of_row w b5 i _ _ _ h5
 refine ⟨_, _, rfl, ⟨_, 4, rfl, by decide, fun i hi => ?_⟩, ⟨_, 1, rfl, by simp, fun i hi => ?_⟩⟩
 ·have hi : i < 4 := hi
  rcases (show i = 0 ∨ i = 1 ∨ i = 2 ∨ i = 3 by omega) with rfl | rfl | rfl | rfl
  ·exact ⟨b3, 0, _, rfl, (hc3 0).trans rfl, capOk _ _ (by decide), ints_two h0 (i0 _ (by decide) (by decide)) (i0 _ (by decide) (by decide))⟩
  ·exact ⟨b3, 0, _, rfl, (hc3 1).trans rfl, capOk _ _ (by decide), ints_two h1 (i0 _ (by decide) (by decide)) (i0 _ (by decide) (by decide))⟩
  ·exact ⟨b3, 0, _, rfl, (hc3 2).trans rfl, capOk _ _ (by decide), ints_two h2 (i0 _ (by decide) (by decide)) (i0 _ (by decide) (by decide))⟩
  exact ⟨b3, 0, _, rfl, (hc3 3).trans rfl, ⟨none, 0, 0, rfl, by decide, by decide⟩, IntsAt.nil _⟩
 have hi : i < 1 := by simpa using hi
 obtain rfl : i = 0 := by omega
 exact ⟨b5, 0, _, rfl, (hc5 0).trans rfl, capOk _ _ (by decide), ints_two h4 (i0 _ (by decide) (by decide)) hk⟩
end Go.Proofs.Ytckjpaimbmlboaa
