/- side.sides: its contract. Conditions: a graph, a part, a plan, a list of ints that lie in memory and read so, of a bounded size. -/
import Derived.Test.YtckjpaimbmlboaaVCycS
namespace Go.Proofs.Ytckjpaimbmlboaa
open Go.RowKit Go.Maps
theorem Own.chg' {w wr : World} {pb : Nat} {s : St} (h : Own w pb s wr) : Chg [] w wr := by obtain ⟨own, -, h2, -⟩ := h; exact h2
theorem own_joins {w wr : World} {pb : Nat} {s : St} {x y : Int} (hx : I64 x) (hy : I64 y) (hn : s.all.length < 17179869184) (h : Own w pb s wr) :
  Calls Try.prog 42 #[.pointer (some ⟨pb, 0, none⟩), .int .i64 x, .int .i64 y] wr fun e w' => e = .returned (.bool (s.joins x y)) ∧ Own w pb (s.join x y) w' := by
 obtain ⟨own, h1, h2, h3⟩ := h
 exact (join_any pb own s x y wr hx hy hn h1).mono fun e w' q => ⟨q.1, Own.turn h2 h3 q.2⟩
def SNow (a : World) (pb sb r : Nat) (s : St) (w : World) : Prop := ∃ own, SetsObj w pb own s ∧ (∀ j ∈ own, a.heap.size ≤ j ∧ j ≠ sb ∧ j ≠ r) ∧ a.heap.size ≤ sb ∧ sb < w.heap.size ∧ r < w.heap.size
theorem SNow.chg {a w w' : World} {pb sb r : Nat} {s : St} {l : List Nat} (h : SNow a pb sb r s w) (hc : Chg l w w') (hl : ∀ j ∈ l, j = sb ∨ j = r) : SNow a pb sb r s w' := by
 obtain ⟨own, h1, h2, h5, h3, h4⟩ := h
 have := hc.size
 exact ⟨own, h1.chg hc (fun b hb q => (hl b q).elim (h2 b hb).2.1 (h2 b hb).2.2), h2, h5, by omega, by omega⟩
theorem SNow.same {a w : World} {pb sb r : Nat} {s : St} {x y : Int} (hx : I64 x) (hy : I64 y) (h : SNow a pb sb r s w) :
  Calls Try.prog 107 #[.pointer (some ⟨pb, 0, none⟩), .int .i64 x, .int .i64 y] w fun e w' => e = .returned (.bool (s.same x y)) ∧ SNow a pb sb r s w' ∧ ∃ l, Chg l w w' ∧ ∀ j ∈ l, a.heap.size ≤ j ∧ j ≠ sb ∧ j ≠ r := by
 obtain ⟨own, h1, h2, h5, h3, h4⟩ := h
 refine (same_any pb own s x y w hx hy h1).mono ?_
 rintro e w' ⟨he, own2, k1, k2, k3⟩
 have := k2.size
 refine ⟨he, ⟨own2, k1, fun j hj => ?_, h5, by omega, by omega⟩, own, k2, h2⟩
 rcases k3 j hj with q | q
 ·exact h2 j q
 exact ⟨by omega, by omega, by omega⟩
theorem ranges_chg {w w' : World} {b r n : Nat} {D : DataW Unit} {left : Lit → Bool} {cnt : Nat} {l : List Nat} (h : w.ranges Try.prog 3 (plainElem Try.prog 3) b r n D left cnt) (hc : Chg l w w') (hb : b ∉ l) (hr : r ∉ l) : w'.ranges Try.prog 3 (plainElem Try.prog 3) b r n D left cnt := by
 obtain ⟨es, clock, since, seen, c0, h1, F, hs, hD, h2, rest⟩ := h
 exact ⟨es, clock, since, seen, c0, hc.heap h1 hb, F, hs, hD, hc.heap h2 hr, rest⟩
theorem IMap.ext {w : World} {b n : Nat} {f g : Int → Option Int} (h : IMap w b n f) (e : ∀ y, I64 y → f y = g y) : IMap w b n g := by
 obtain ⟨D, h1, h2⟩ := h
 exact ⟨D, h1, fun y hy => by rw [← e y hy]; exact h2 y hy⟩
set_option maxRecDepth 100000 in
set_option maxHeartbeats 8000000 in
theorem sides_any (vg vp vx vc : Value) (g : Plain.Gr) (p : Plain.Pt) (turn same : List (List Int)) (cy : List Int) (w : World) (hpl : p.e.length ≤ 10000) (hpv : p.v.length ≤ 10000) (hTL : turn.length < 2147483648) (hS : Plain.sumLen turn turn.length < 2147483648) (hsl : same.length ≤ 10000) (hsr : ∀ i, (same.getD i []).length ≤ 10000) (hcl : cy.length ≤ 1000000) (hg : GrAt w vg g) (hp : PtAt w vp p) (hx : PlAt w vx turn same) (hcy : IntsAt w vc cy) :
  Calls Try.prog 82 #[vg, vp, vx, vc] w fun e w' => ∃ mv, e = .returned (.tuple #[mv, .bool (Plain.cycOk g p cy && decide (Plain.planErr g p turn same = 0))]) ∧ (¬ (Plain.cycOk g p cy = true ∧ Plain.planErr g p turn same = 0) → mv = .map none) ∧
   (Plain.cycOk g p cy = true → Plain.planErr g p turn same = 0 → ∃ sb, mv = .map (some sb) ∧ w.heap.size ≤ sb ∧ IMap w' sb 4000000000000 (Plain.sideOf (Plain.leftOf (Plain.regionsOf g p turn same) (Plain.walksOf g p turn)) p cy)) ∧ Chg [] w w' := by
 have HS1 := Lib.hid hS
 have HSR := Lib.hid hsr
 have HCC := Lib.hid hcy
 obtain ⟨co, cc, rfl, hci, hcm, -⟩ := hcy
 have HCI := Lib.hid hci
 clear hS hsr hci hcm
 have HG := Lib.hid hg
 have HP := Lib.hid hp
 have HX := Lib.hid hx
 obtain ⟨eo, cap, rfl, hn, hm, hsm, hcell⟩ := hg
 obtain ⟨v1, v2, rfl, hv, he⟩ := hp
 obtain ⟨ao, ac, rfl, has, ham, hacell⟩ := hv
 obtain ⟨bo, bc, rfl, hbs, hbm, hbcell⟩ := he
 have HAC := Lib.hid hacell
 have HBC := Lib.hid hbcell
 obtain ⟨t1, t2, rfl, ht, hs⟩ := hx
 have HT := Lib.hid ht
 have HS := Lib.hid hs
 obtain ⟨tno, tc, rfl, htm, -⟩ := ht
 obtain ⟨so, sc, rfl, hsm2, hsc⟩ := hs
 obtain ⟨-, -, hc1⟩ := box_two w #[.int .i64 g.n, .slice eo g.e.length cap] #[.slice ao p.v.length ac, .slice bo p.e.length bc] 24 27
 obtain ⟨-, hc3⟩ := box_three w #[.int .i64 g.n, .slice eo g.e.length cap] #[.slice ao p.v.length ac, .slice bo p.e.length bc] #[.slice tno turn.length tc, .slice so same.length sc] 24 27 30
 have HC1 := Lib.hid (hc1.trans hc3 (by simp))
 have HBXS := Lib.hid (fun w2 h => three_boxes w (g := g) (p := p) (turn := turn) (same := same) (eo := eo) (ao := ao) (bo := bo) (tno := tno) (so := so) (cap := cap) (ac := ac) (bc := bc) (tc := tc) (sc := sc) (w2 := w2) h)
 clear hcell hacell hbcell hsm hbs has hn hc1 hc3 hsc
 have HPEI := Lib.hid (show IntsAt w (.slice bo p.e.length bc) p.e by obtain ⟨v1, v2, e, -, he⟩ := HP.out; cases e; exact he)
 obtain ⟨x0, x1, y0, y1, z0, z1, hsz⟩ := HBXS.out _ (Chg.refl _ _)
 go_enter Try.func82, Try.ntmps82
 go_wp2_with fail
 refine (cycle_any _ _ _ g p cy _ hpl hpv hcl (HG.out.fresh HC1.out) (HP.out.fresh HC1.out) (HCC.out.fresh HC1.out)).mono ?_
 rintro e w2 ⟨rfl, hc2⟩
 obtain ⟨w1, hw1⟩ : ∃ w1, (((w.alloc (.cells #[.int .i64 g.n, .slice eo g.e.length cap] 24)).alloc (.cells #[.slice ao p.v.length ac, .slice bo p.e.length bc] 27)).alloc (.cells #[.slice tno turn.length tc, .slice so same.length sc] 30)) = w1 := ⟨_, rfl⟩
 rw [hw1] at HC1 HBXS hc2
 clear hw1
 have HC2 := Lib.hid hc2
 have HW2 := Lib.hid (HC1.out.trans HC2.out (by simp))
 have HBX := Lib.hid (fun wx (hx : Chg [] w2 wx) => HBXS.out wx (HC2.out.trans hx (by simp)))
 clear x0 x1 y0 y1 z0 z1 hsz hc2
 by_cases hcy : Plain.cycOk g p cy = true
 ·obtain ⟨x0, x1, y0, y1, z0, z1, hsz⟩ := HBX.out w2 (Chg.refl _ _)
  rw [hcy]
  have HCO := Lib.hid hcy
  clear hcy
  go_wp2_with fail
  refine (lookS_any _ _ _ g p turn same _ hpl hpv hTL HS1.out hsl HSR.out (HG.out.fresh HW2.out) (HP.out.fresh HW2.out) (HX.out.fresh HW2.out)).mono ?_
  rintro e w3 ⟨mv, rfl, hno, hyes, hc3⟩
  have HW3 := Lib.hid (HW2.out.trans hc3 (by simp))
  have HBX3 := Lib.hid (fun wx (hx : Chg [] w3 wx) => HBX.out wx (hc3.trans hx (by simp)))
  have HSZ2 := Lib.hid (show w.heap.size ≤ w2.heap.size from HW2.out.size)
  clear x0 x1 y0 y1 z0 z1 hsz hc3
  by_cases hz : Plain.planErr g p turn same = 0
  ·obtain ⟨lb, rfl, hlb, hlm⟩ := hyes hz
   obtain ⟨hlm, hrl⟩ := hlm
   rw [decide_eq_true hz]
   have HL3 := Lib.hid hlm
   have HLB := Lib.hid (show w.heap.size ≤ lb by have := HSZ2.out; omega)
   have HPZ := Lib.hid hz
   have HLV := Lib.hid (Plain.leftOf_small (Plain.walksOf g p turn) hrl)
   have hmm := @run_makeMap Try.prog
   obtain ⟨L, hLe⟩ : ∃ L, Plain.leftOf (Plain.regionsOf g p turn same) (Plain.walksOf g p turn) = L := ⟨_, rfl⟩
   have HLE := Lib.hid hLe
   rw [hLe] at HL3 HLV
   clear hlm hrl hno hyes hz hlb hLe
   go_wp2
   clear hmm
   have HM0 := Lib.hid (IMap.made w3)
   have HC4 := Lib.hid ((Chg.refl [] w3).alloc (.map #[] 0))
   have HNB := Lib.hid (show w.heap.size ≤ w3.heap.size from HW3.out.size)
   obtain ⟨nb, hnb⟩ : ∃ nb, w3.heap.size = nb := ⟨_, rfl⟩
   rw [hnb] at HM0 HNB ⊢
   have HNBE := Lib.hid hnb
   have HL4 := Lib.hid (HL3.out.chg HC4.out (by simp))
   clear hnb
   generalize w3.alloc (.map #[] 0) = w4 at *
   have HDN := Lib.hid (Plain.cyc_darts HCO.out)
   go_loopw [43] (fun c wr => ∃ k : Nat, k ≤ cy.length ∧ c = .int .i64 k ∧ IMap wr nb k (Plain.lastAt (· / 2) cy k) ∧ Chg [nb] w4 wr) (fun c _ => cy.length - (intOf c).toNat)
   case atStart => exact ⟨0, Nat.zero_le _, rfl, HM0.out, Chg.refl _ _⟩
   case round =>
    obtain ⟨k, hk, rfl, hm, hc⟩ := hrel
    have HM := Lib.hid hm
    have HC := Lib.hid hc
    have hw4 : Chg [] w w4 := HW3.out.trans HC4.out (by simp)
    have HCW := Lib.hid (hw4.trans hc (fun j hj => Or.inr (by simp at hj; have := HNB.out; omega)))
    have HC3 := Lib.hid (HC4.out.trans hc (fun j hj => Or.inr (by simp at hj; have := HNBE.out; omega)))
    clear hm hc hw4
    by_cases hlt : k < cy.length
    ·obtain ⟨rb, roff, rfl, rc⟩ := IntsAt.cellAt HCC.out hlt
     have rcell := HCW.out.cell rc (by simp)
     obtain ⟨n, m, e1, e2, e3, e4, e5⟩ := HDN.out.2.2 _ (Plain.getD_mem hlt)
     have HU1 := Lib.hid (show (fun y => if y = ((n / 2 : Nat) : Int) then some (k : Int) else Plain.lastAt (· / 2) cy k y) = Plain.lastAt (· / 2) cy (k + 1) by rw [Plain.lastAt_succ, e1]; rfl)
     rw [e1] at rcell
     have q1 : Int.tdiv (n : Int) 2 = ((n / 2 : Nat) : Int) := by rw [Int.tdiv_eq_ediv_of_nonneg (by omega)]; rfl
     obtain ⟨ee, hee⟩ : ∃ ee, n / 2 = ee := ⟨_, rfl⟩
     rw [hee] at HU1 q1
     have IE : I64 (ee : Int) := I64.mk (by omega) (by omega)
     have we : IntKind.i64.wrap (ee : Int) = ee := IntWalk.i64_in _ (by omega)
     have IK : I64 (k : Int) := I64.mk (by omega) (by omega)
     have hk1 : k < maxLen := by unfold maxLen; omega
     clear rc e1 e4 hee
     go_wp2_with (at_mapUpdate; refine wp_store _ rfl _ _ _ rfl HM.out hk1 rfl IE IK rfl rfl ?_; intro w6 m6 g6; have M6 := Lib.hid m6; have G6 := Lib.hid g6; clear m6 g6)
     go_roundw
     case rel => exact ⟨k + 1, by omega, by go_num, by rw [← HU1.out]; exact M6.out, HC.out.grown G6.out (fun j hj => by cases hj; exact Or.inl (by simp))⟩
     case measure => simp [intOf]; omega
    have e : k = cy.length := by omega
    subst e
    have HLN := Lib.hid (show lb ≠ nb by have := HL3.out.lt; have := HNBE.out; omega)
    have HLZ := Lib.hid (HL4.out.chg HC.out (by simpa using HLN.out))
    have HLBW := Lib.hid (show lb < wr.heap.size from HLZ.out.lt)
    generalize wr = w5 at *
    have hnil0 : ([] : List Int).length < 4294967296 := by simp
    clear hk hlt
    go_wp2_with fail
    refine (new_any _ [] _ hnil0 (IntsAt.nil _)).mono ?_
    rintro e w6 ⟨pb, own, rfl, hso, hc6, hown⟩
    have HOW6 := Lib.hid (show Own w5 pb (Plain.sideJoin L p cy 0) w6 from ⟨own, hso, hc6, hown⟩)
    obtain ⟨x0, x1, y0, y1, z0, z1, hsz⟩ := HBX3.out _ (HC3.out.trans hc6 (by simp))
    clear hso hc6 hown x0 x1 y0 z0 z1 hsz
    go_wp2
    go_loopw [57] (fun c wr => ∃ k : Nat, k ≤ p.e.length ∧ c = .int .i64 k ∧ Own w5 pb (Plain.sideJoin L p cy k) wr) (fun c _ => p.e.length - (intOf c).toNat)
    case atStart => exact ⟨0, Nat.zero_le _, rfl, HOW6.out⟩
    case round =>
     obtain ⟨k, hk, rfl, how⟩ := hrel
     have HOK := Lib.hid how
     have HCK := Lib.hid how.chg'
     clear how
     by_cases hlt : k < p.e.length
     ·have HMK := Lib.hid (HM.out.chg HCK.out (by simp))
      have HLK := Lib.hid (HLZ.out.chg HCK.out (by simp))
      obtain ⟨rb', roff', rfl, rc⟩ := IntsAt.cellAt HPEI.out hlt
      have rcell := (HCW.out.trans HCK.out (by simp)).cell rc (by simp)
      have hei := Plain.Pt.edge_in HDN.out.1 (Plain.getD_mem hlt)
      have hge := Plain.Gr.err_ok (Plain.Pt.err_ok HDN.out.1).1
      have hjl := Plain.sideJoin_len L p cy k
      have hsl3 : (Plain.sideJoin L p cy k).all.length < 17179869184 := by omega
      have HON := Lib.hid (Plain.sideJoin_on (L := L) (p := p) (cy := cy) (k := k))
      have HOF := Lib.hid (Plain.sideJoin_off (L := L) (p := p) (cy := cy) (k := k))
      obtain ⟨ed, hed⟩ : ∃ ed : Nat, p.e.getD k 0 = ed := ⟨(p.e.getD k 0).toNat, by omega⟩
      rw [hed] at rcell hei HON HOF
      have IE : I64 (ed : Int) := I64.mk (by omega) (by omega)
      have I2 : I64 (2 * (ed : Int)) := I64.mk (by omega) (by omega)
      have I3 : I64 (2 * (ed : Int) + 1) := I64.mk (by omega) (by omega)
      have we2 : IntKind.i64.wrap (2 * (ed : Int)) = 2 * (ed : Int) := IntWalk.i64_in _ (by omega)
      have we3 : IntKind.i64.wrap (2 * (ed : Int) + 1) = 2 * (ed : Int) + 1 := IntWalk.i64_in _ (by omega)
      have hla := Plain.numOf_i64 HLV.out (2 * (ed : Int))
      have hlb2 := Plain.numOf_i64 HLV.out (2 * (ed : Int) + 1)
      have HMEM := Lib.hid (Plain.lastAt_mem (cy := cy) (e := (ed : Int)))
      obtain ⟨ra, hra⟩ : ∃ r, Plain.lf L (2 * (ed : Int)) = r := ⟨_, rfl⟩
      obtain ⟨rz, hrz⟩ : ∃ r, Plain.lf L (2 * (ed : Int) + 1) = r := ⟨_, rfl⟩
      have HRA := Lib.hid (show (L (2 * (ed : Int))).getD 0 = ra from hra)
      have HRZ := Lib.hid (show (L (2 * (ed : Int) + 1)).getD 0 = rz from hrz)
      rw [hra, hrz] at HOF
      rw [hra] at hla
      rw [hrz] at hlb2
      have IA : I64 ra := I64.mk (by omega) (by omega)
      have IZ : I64 rz := I64.mk (by omega) (by omega)
      obtain ⟨u1, hu1⟩ : ∃ u, (Plain.lastAt (· / 2) cy cy.length (ed : Int)).getD 0 = u := ⟨_, rfl⟩
      have HV1 := Lib.hid hu1
      clear rc hei hge hjl hed hla hlb2 hra hrz hu1
      by_cases hon : (ed : Int) ∈ cy.map (· / 2)
      ·have HT1 := Lib.hid (HMEM.out.trans (decide_eq_true hon))
       have HN := Lib.hid (HON.out hon)
       clear hon
       go_wp2_with (at_lookup; refine wp_look_any _ rfl _ _ rfl HMK.out rfl IE rfl HV1 HT1 ?_)
       go_roundw
       case rel => exact ⟨k + 1, by omega, by go_num, by rw [HN.out]; exact HOK.out⟩
       case measure => simp [intOf]; omega
      have HT1 := Lib.hid (HMEM.out.trans (decide_eq_false hon))
      have HN := Lib.hid (HOF.out hon)
      clear hon
      go_wp2_with (first
       | (at_lookup; first
        | refine wp_look_any _ rfl _ _ rfl HMK.out rfl IE rfl HV1 HT1 ?_
        | refine wp_look _ rfl _ _ rfl HLK.out rfl I2 rfl HRA ?_
        | refine wp_look _ rfl _ _ rfl HLK.out rfl I3 rfl HRZ ?_)
       | fail)
      refine (own_joins IA IZ hsl3 HOK.out).mono ?_
      rintro e w7 ⟨rfl, h7⟩
      have H7 := Lib.hid h7
      clear h7
      go_wp2
      go_roundw
      case rel => exact ⟨k + 1, by omega, by go_num, by rw [HN.out]; exact H7.out⟩
      case measure => simp [intOf]; omega
     have e : k = p.e.length := by omega
     subst e
     clear hk hlt
     have HOA := Lib.hid (show Own w5 pb (Plain.sideAdd L p cy 0) wr from HOK.out)
     generalize wr = wy at *
     go_wp2
     go_loopw [83] (fun c wr => ∃ k : Nat, k ≤ cy.length ∧ c = .int .i64 k ∧ Own w5 pb (Plain.sideAdd L p cy k) wr) (fun c _ => cy.length - (intOf c).toNat)
     case atStart => exact ⟨0, Nat.zero_le _, rfl, HOA.out⟩
     case round =>
      obtain ⟨k, hk, rfl, how⟩ := hrel
      have HOB := Lib.hid how
      have HCB := Lib.hid how.chg'
      clear how
      by_cases hlt : k < cy.length
      ·obtain ⟨rb, roff, rfl, rc⟩ := IntsAt.cellAt HCC.out hlt
       have rcell := (HCW.out.trans HCB.out (by simp)).cell rc (by simp)
       have HLK := Lib.hid (HLZ.out.chg HCB.out (by simp))
       obtain ⟨n, m, e1, e2, e3, e4, e5⟩ := HDN.out.2.2 _ (Plain.getD_mem hlt)
       have HNX := Lib.hid (Plain.sideAdd_succ L p cy k)
       have hjl := Plain.sideAdd_len L p cy k
       rw [e1, e4] at HNX
       rw [e1] at rcell
       have IN : I64 (n : Int) := I64.mk (by omega) (by omega)
       have IM : I64 (m : Int) := I64.mk (by omega) (by omega)
       have hx := bits_twin n (by omega)
       rw [e4] at hx
       have HX := Lib.hid hx
       have hla := Plain.numOf_i64 HLV.out (n : Int)
       have hlb2 := Plain.numOf_i64 HLV.out (m : Int)
       obtain ⟨ra, hra⟩ : ∃ r, Plain.lf L (n : Int) = r := ⟨_, rfl⟩
       obtain ⟨rz, hrz⟩ : ∃ r, Plain.lf L (m : Int) = r := ⟨_, rfl⟩
       have HRA := Lib.hid (show (L (n : Int)).getD 0 = ra from hra)
       have HRZ := Lib.hid (show (L (m : Int)).getD 0 = rz from hrz)
       rw [hra, hrz] at HNX
       rw [hra] at hla
       rw [hrz] at hlb2
       have IA : I64 ra := I64.mk (by omega) (by omega)
       have IZ : I64 rz := I64.mk (by omega) (by omega)
       have hl1 : (Plain.sideAdd L p cy k).all.length < 34359738368 := by omega
       have hl2 : ((Plain.sideAdd L p cy k).put ra).all.length < 34359738368 := by have := ((Plain.sideAdd L p cy k).len_put ra).2; omega
       clear rc e1 e4 hx hla hlb2 hra hrz hjl
       go_wp2_with (first
        | (at_lookup; refine wp_look _ rfl _ _ rfl HLK.out rfl IN rfl HRA ?_)
        | fail)
       refine (own_add IA hl1 HOB.out).mono ?_
       rintro e w7 ⟨rfl, h7⟩
       have H7 := Lib.hid h7
       have HLK7 := Lib.hid (HLZ.out.chg h7.chg' (by simp))
       have rcell7 := (HCW.out.trans h7.chg' (by simp))
       clear h7 rcell rcell7
       go_wp2_with (first
        | (at_lookup; refine wp_look _ rfl _ _ rfl HLK7.out rfl IM (congrArg (Value.int .i64) HX.out) HRZ ?_)
        | fail)
       refine (own_add IZ hl2 H7.out).mono ?_
       rintro e w8 ⟨rfl, h8⟩
       have H8 := Lib.hid h8
       clear h8
       go_wp2
       go_roundw
       case rel => exact ⟨k + 1, by omega, by go_num, by rw [HNX.out]; exact H8.out⟩
       case measure => simp [intOf]; omega
      have e : k = cy.length := by omega
      subst e
      clear hk hlt
      have h0 := HDN.out.2.1
      obtain ⟨rb, roff, rfl, rc⟩ := IntsAt.cellAt HCC.out h0
      have rcell := (HCW.out.trans HCB.out (by simp)).cell rc (by simp)
      obtain ⟨n, m, e1, e2, e3, e4, e5⟩ := HDN.out.2.2 _ (Plain.getD_mem h0)
      have HLK := Lib.hid (HLZ.out.chg HCB.out (by simp))
      have hla := Plain.numOf_i64 HLV.out (n : Int)
      have HHD := Lib.hid (show Plain.sideHead L cy = Plain.lf L (n : Int) by unfold Plain.sideHead; rw [e1])
      rw [e1] at rcell
      have IN : I64 (n : Int) := I64.mk (by omega) (by omega)
      obtain ⟨hd, hhd⟩ : ∃ r, Plain.lf L (n : Int) = r := ⟨_, rfl⟩
      have HRA := Lib.hid (show (L (n : Int)).getD 0 = hd from hhd)
      rw [hhd] at hla HHD
      have IH : I64 hd := I64.mk (by omega) (by omega)
      generalize wr = wz at *
      have hmm := @run_makeMap Try.prog
      obtain ⟨D, hown, hDm⟩ := HLK.out.alloc (.map #[] 0)
      have HDM := Lib.hid hDm
      have hszd := hown.size_le
      have hn0 : 0 + 0 < cy.length := by omega
      rw [Nat.add_zero] at rcell
      clear rc e1 e4 hla hhd hDm
      go_wp2_with (first
       | (at_lookup; refine wp_look _ rfl _ _ rfl HLK.out rfl IN rfl HRA ?_)
       | (at_range; refine wpList_range_own _ rfl _ 60 rfl 3 3 keyedInt Try.underlying60 _ lb 1000000000000 D rfl hown ?_; intro w9 hrg0 hg0 hs0))
      go_frame
      have HSN := Lib.hid (show SNow w5 pb wz.heap.size (wz.heap.size + 1) (Plain.sideAdd L p cy cy.length) w9 by
       obtain ⟨own, k1, k2, k3⟩ := HOB.out
       have hc9 : Chg [] wz w9 := ((Chg.refl [] wz).alloc _).grown hg0 (fun j hj => by cases hj)
       have hs9 : w9.heap.size = wz.heap.size + 2 := by rw [hs0]; simp
       refine ⟨own, k1.chg hc9 (by simp), fun j hj => ⟨k3 j hj, ?_, ?_⟩, k2.size, by omega, by omega⟩
       ·have := k1.lt j hj; omega
       have := k1.lt j hj; omega)
      have HM9 := Lib.hid ((IMap.made wz).kept hg0 (by simp))
      have hrgs : (wz.alloc (.map #[] 0)).heap.size = wz.heap.size + 1 := by simp
      rw [hrgs] at hrg0 ⊢
      have HSB := Lib.hid (show w5.heap.size ≤ wz.heap.size from HCB.out.size)
      have HC9 := Lib.hid (show Chg [] w5 w9 from (HCB.out.trans ((Chg.refl [] wz).alloc (.map #[] 0)) (by simp)).grown hg0 (fun j hj => by cases hj))
      have HLBZ := Lib.hid (show lb < wz.heap.size from HLK.out.lt)
      obtain ⟨sb, hsb⟩ : ∃ sb, wz.heap.size = sb := ⟨_, rfl⟩
      rw [hsb] at HSN HM9 HSB HLBZ hrg0 ⊢
      clear hg0 hs0 hown hrgs hmm hsb rcell
      have HRG0 := Lib.hid hrg0
      go_loopw [24] (fun _ wi => ∃ (left : Lit → Bool) (cnt : Nat) (f' : Int → Option Int) (n' : Nat), wi.ranges Try.prog 3 (plainElem Try.prog 3) lb (sb + 1) 1000000000000 D left cnt ∧ IMap wi sb n' f' ∧ n' + 2 * cnt ≤ 2000000000000 ∧ Hid (∀ z, left z = true → Maps.has D z = true) ∧ Hid (∀ y, I64 y → ((L y ≠ none → left (.int .i64 y) = false → f' y = Plain.sideOf L p cy y) ∧ (L y = none ∨ left (.int .i64 y) = true → f' y = none))) ∧ SNow w5 pb sb (sb + 1) (Plain.sideAdd L p cy cy.length) wi ∧ Chg [] w5 wi) (fun _ wi => wi.rangeLeft lb (sb + 1))
      case atStart => exact ⟨_, _, _, _, hrg0, HM9.out, by omega, Lib.hid (fun z h => h), Lib.hid (fun y iy => ⟨fun h1 h2 => by
       rw [(HDM.out y iy).1] at h2
       exact absurd (by simpa using h2) h1, fun _ => rfl⟩), HSN.out, HC9.out⟩
      case round =>
       obtain ⟨left, cnt, f', n', hrg, hm', hcn, hlh, hff, hsn, hch⟩ := hrel
       have HM' := Lib.hid hm'
       have HSN' := Lib.hid hsn
       have HCH := Lib.hid hch
       clear hm' hsn hch
       go_wp2_with (at_next; refine wpList_next_ranges_ii _ rfl _ rfl 3 3 .i64 .i64 keyedInt Try.underlying3 Try.underlying3 lb (sb + 1) 1000000000000 _ _ _ rfl hrg ?_ ?_)
       ·intro hc0 hl0
        have HMF := Lib.hid (show IMap wr sb 4000000000000 (Plain.sideOf L p cy) from (HM'.out.mono (by omega)).ext (fun y iy => by
         by_cases e : L y = none
         ·rw [((hff.out y iy).2 (Or.inl e))]; unfold Plain.sideOf; rw [e]; rfl
         exact (hff.out y iy).1 e (hl0 _)))
        have HWF := Lib.hid (HCW.out.trans HCH.out (by simp))
        have HWS := Lib.hid (show w.heap.size ≤ sb by have := HSB.out; have := HCW.out.size; omega)
        clear hrg hlh hff hl0 hc0
        go_wp2
        exact bodyPost_ret (v := .tuple #[.map (some sb), .bool true]) (by simp [results, Try.results82, go_sem]) rfl ⟨_, by rw [HCO.out, decide_eq_true HPZ.out]; rfl, fun h => absurd ⟨HCO.out, HPZ.out⟩ h, fun _ _ => ⟨sb, rfl, HWS.out, by rw [HLE.out]; exact HMF.out⟩, HWF.out⟩
       intro x c w7 cnt1 hwx hwc hlx hat hrg1 hlt1 hg1 hs1 hen
       have hxs : (L x).isSome = true := by have := hlh.out _ hlx; rw [(HDM.out x hwx).1] at this; exact this
       have hcx : (L x).getD 0 = c := by have h1 := (HDM.out x hwx).2; rw [hat] at h1; simpa using h1.symm
       have HSO := Lib.hid (show Plain.sideOf L p cy x = some (Plain.sideNo L p cy c) by
        unfold Plain.sideOf
        cases e : L x with
        | none => rw [e] at hxs; cases hxs
        | some v => rw [e] at hcx; rw [← hcx]; rfl)
       have hne : L x ≠ none := by intro e; rw [e] at hxs; cases hxs
       have HFF := Lib.hid (fun (f2 : Int → Option Int) (h1 : f2 x = Plain.sideOf L p cy x) (h2 : ∀ y, y ≠ x → f2 y = f' y) => (show ∀ y, I64 y → ((L y ≠ none → (left (.int .i64 y) && !(Lit.int .i64 y).sameKey (.int .i64 x)) = false → f2 y = Plain.sideOf L p cy y) ∧ (L y = none ∨ (left (.int .i64 y) && !(Lit.int .i64 y).sameKey (.int .i64 x)) = true → f2 y = none)) from fun y iy => by
        rw [litSame]
        by_cases e : y = x
        ·subst e
         exact ⟨fun _ _ => h1, fun h => by rcases h with h | h; exact absurd h hne; simp at h⟩
        rw [h2 y e]
        simp only [e, decide_false, Bool.not_false, Bool.and_true]
        exact hff.out y iy))
       have HLH := Lib.hid (fun z (hz : (left z && !z.sameKey (.int .i64 x)) = true) => hlh.out z (by simp at hz; exact hz.1))
       have hc7 : Chg [sb + 1] wr w7 := (Chg.refl _ wr).grown hg1 (fun j hj => by cases hj; exact Or.inl (by simp))
       have HM7 := Lib.hid (HM'.out.kept hg1 (by intro e; have := Option.some.inj e; omega))
       have HS7 := Lib.hid (HSN'.out.chg hc7 (fun j hj => Or.inr (by simpa using hj)))
       have HC7 := Lib.hid (HCH.out.trans hc7 (fun j hj => Or.inr (by simp at hj; have := HSB.out; omega)))
       have HRG1 := Lib.hid hrg1
       have HRE := Lib.hid hrg.left_eq
       have hn1 : n' < maxLen := by unfold maxLen; omega
       have hn2 : n' + 1 < maxLen := by unfold maxLen; omega
       have I1 : I64 1 := I64.mk (by omega) (by omega)
       have I2 : I64 2 := I64.mk (by omega) (by omega)
       clear hxs hcx hne hc7 hlh hff hlx hat hg1 hs1 hrg1 hrg
       by_cases hce : c = hd
       ·subst hce
        have HNO := Lib.hid (show Plain.sideOf L p cy x = some 1 by rw [HSO.out]; unfold Plain.sideNo; rw [if_pos (Or.inl (by rw [HHD.out]))])
        go_wp2_with (at_mapUpdate; first
         | (refine wp_store _ rfl _ _ _ rfl HM7.out hn1 rfl hwx I2 rfl rfl ?_; intro w8 m8 g8; have M8 := Lib.hid m8; have G8 := Lib.hid g8; clear m8 g8; go_frame)
         | (refine wp_store _ rfl _ _ _ rfl M8.out hn2 rfl hwx I1 rfl rfl ?_; intro w9' m9 g9; have M9 := Lib.hid m9; have G9 := Lib.hid g9; clear m9 g9; go_frame))
        have hc89 : Chg [sb] w7 w9' := ((Chg.refl [sb] w7).grown G8.out (fun j hj => by cases hj; exact Or.inl (by simp))).grown G9.out (fun j hj => by cases hj; exact Or.inl (by simp))
        have hrg9 := ranges_chg HRG1.out hc89 (by have := HLBZ.out; simp; omega) (by simp)
        go_roundw
        case rel => exact ⟨_, cnt1, _, n' + 1 + 1, hrg9, M9.out, by omega, HLH, Lib.hid (HFF.out _ (by rw [if_pos rfl]; exact HNO.out.symm) (fun y hy => by rw [if_neg hy, if_neg hy])), HS7.out.chg hc89 (fun j hj => Or.inl (by simpa using hj)), HC7.out.trans hc89 (fun j hj => Or.inr (by simp at hj; have := HSB.out; omega))⟩
        case measure => rw [hrg9.left_eq, HRE.out]; exact hlt1
       have hb1 : (c == hd) = false := by simp [hce]
       have HCE := Lib.hid hce
       clear hce
       go_wp2_with (first
        | (at_mapUpdate; refine wp_store _ rfl _ _ _ rfl HM7.out hn1 rfl hwx I2 rfl rfl ?_; intro w8 m8 g8; have M8 := Lib.hid m8; have G8 := Lib.hid g8; clear m8 g8; go_frame)
        | fail)
       have HC8 := Lib.hid (show Chg [sb] w7 w8 from (Chg.refl [sb] w7).grown G8.out (fun j hj => by cases hj; exact Or.inl (by simp)))
       have HS8 := Lib.hid (HS7.out.chg HC8.out (fun j hj => Or.inl (by simpa using hj)))
       refine (HS8.out.same hwc IH).mono ?_
       rintro e w10 ⟨rfl, hsn10, l, hcl, hll⟩
       have HS10 := Lib.hid hsn10
       have HCL := Lib.hid hcl
       have HLL := Lib.hid hll
       have HM10 := Lib.hid (M8.out.chg hcl (fun h => (hll _ h).2.1 rfl))
       have HR10 := Lib.hid (ranges_chg (ranges_chg HRG1.out HC8.out (by have := HLBZ.out; simp; omega) (by simp)) hcl (fun h => by have := (hll _ h).1; have := HLBW.out; omega) (fun h => (hll _ h).2.2 rfl))
       have HC10 := Lib.hid ((HC7.out.trans HC8.out (fun j hj => Or.inr (by simp at hj; have := HSB.out; omega))).trans hcl (fun j hj => Or.inr (hll j hj).1))
       clear hsn10 hcl hll
       have HNN := Lib.hid (show Plain.sideNo L p cy c = if (Plain.sideAdd L p cy cy.length).same c hd = true then 1 else 2 by
        unfold Plain.sideNo
        rw [HHD.out]
        by_cases q : (Plain.sideAdd L p cy cy.length).same c hd = true
        ·rw [if_pos (Or.inr q), if_pos q]
        rw [if_neg (fun h => h.elim HCE.out q), if_neg q])
       cases hsame : (Plain.sideAdd L p cy cy.length).same c hd with
       | true =>
        have HNO := Lib.hid (show Plain.sideOf L p cy x = some 1 by rw [HSO.out, HNN.out, hsame]; rfl)
        clear hsame
        go_wp2_with (at_mapUpdate; refine wp_store _ rfl _ _ _ rfl HM10.out hn2 rfl hwx I1 rfl rfl ?_; intro w9' m9 g9; have M9 := Lib.hid m9; have G9 := Lib.hid g9; clear m9 g9; go_frame)
        have hc9 : Chg [sb] w10 w9' := (Chg.refl [sb] w10).grown G9.out (fun j hj => by cases hj; exact Or.inl (by simp))
        have hrg9 := ranges_chg HR10.out hc9 (by have := HLBZ.out; simp; omega) (by simp)
        go_roundw
        case rel => exact ⟨_, cnt1, _, n' + 1 + 1, hrg9, M9.out, by omega, HLH, Lib.hid (HFF.out _ (by rw [if_pos rfl]; exact HNO.out.symm) (fun y hy => by rw [if_neg hy, if_neg hy])), HS10.out.chg hc9 (fun j hj => Or.inl (by simpa using hj)), HC10.out.trans hc9 (fun j hj => Or.inr (by simp at hj; have := HSB.out; omega))⟩
        case measure => rw [hrg9.left_eq, HRE.out]; exact hlt1
       | false =>
        have HNO := Lib.hid (show Plain.sideOf L p cy x = some 2 by rw [HSO.out, HNN.out, hsame]; rfl)
        clear hsame
        go_wp2
        go_roundw
        case rel => exact ⟨_, cnt1, _, n' + 1, HR10.out, HM10.out, by omega, HLH, Lib.hid (HFF.out _ (by rw [if_pos rfl]; exact HNO.out.symm) (fun y hy => by rw [if_neg hy])), HS10.out, HC10.out⟩
        case measure => rw [HR10.out.left_eq, HRE.out]; exact hlt1
  have hmv := hno hz
  subst hmv
  rw [decide_eq_false hz]
  have HZ := Lib.hid hz
  clear hz hno hyes
  go_wp2
  exact bodyPost_ret (v := .tuple #[.map none, .bool false]) (by simp [results, Try.results82, go_sem]) rfl ⟨_, by rw [decide_eq_false HZ.out, Bool.and_false], fun _ => rfl, fun _ h => absurd h HZ.out, HW3.out⟩
 have hcf : Plain.cycOk g p cy = false := by simpa using hcy
 rw [hcf]
 have HF := Lib.hid hcf
 clear hcf hcy
 go_wp2
 exact bodyPost_ret (v := .tuple #[.map none, .bool false]) (by simp [results, Try.results82, go_sem]) rfl ⟨_, by rw [HF.out, Bool.false_and], fun _ => rfl, fun h => absurd (HF.out.symm.trans h) (by decide), HW2.out⟩
end Go.Proofs.Ytckjpaimbmlboaa
