/- law 10's small. Conditions: a graph, a part, a plan, a list of ints that lie in memory and read so. -/
import Derived.Test.YtfgbkpbakignhaaVSmall
import Derived.Test.YtfgbkpbakignhaaVRegions
import Derived.Test.YtfgbkpbakignhaaVWake
import Derived.Test.YtfgbkpbakignhaaVAwkT
import Derived.Test.YtfgbkpbakignhaaVSeq
import Derived.ProofKit
import Derived.OpenShut
import Derived.ChangeOld
import Derived.Deep.Strs
import Derived.Lib.SmallJoins
namespace Go.Proofs.Ytfgbkpbakignhaa
open Go.RowKit Go.Maps

set_option maxRecDepth 100000 in
set_option maxHeartbeats 4000000 in
theorem small10_any (vg vp vx vc : Value) (g : Plain.Gr) (p : Plain.Pt) (turn same : List (List Int)) (cy : List Int) (w : World) (hg : GrAt w vg g) (hp : PtAt w vp p) (hx : PlAt w vx turn same) (hcy : IntsAt w vc cy) :
    Calls Try.prog 7 #[vg, vp, vx, vc] w fun e w' => e = .returned (.bool (Plain.small8 g p turn same && decide (cy.length ≤ 60))) ∧ Chg [] w w' := by
  obtain ⟨co, cc, rfl, hci, hcm, -⟩ := hcy
  clear hci
  have HG := Lib.hid hg
  have HP := Lib.hid hp
  have HX := Lib.hid hx
  obtain ⟨eo, cap, rfl, hn, hm, hsm, hcell⟩ := hg
  obtain ⟨v1, v2, rfl, hv, he⟩ := hp
  obtain ⟨ao, ac, rfl, has, ham, hacell⟩ := hv
  obtain ⟨bo, bc, rfl, hbs, hbm, hbcell⟩ := he
  have HAC := Lib.hid hacell
  have HBC := Lib.hid hbcell
  obtain ⟨t1, t2, rfl, ht, hs⟩ := hx
  have HT := Lib.hid ht
  have HS := Lib.hid hs
  obtain ⟨tno, tc, rfl, htm, -⟩ := ht
  obtain ⟨so, sc, rfl, hsm2, hsc⟩ := hs
  obtain ⟨-, -, hc1⟩ := box_two w #[.int .i64 g.n, .slice eo g.e.length cap] #[.slice ao p.v.length ac, .slice bo p.e.length bc] 24 27
  obtain ⟨-, hc3⟩ := box_three w #[.int .i64 g.n, .slice eo g.e.length cap] #[.slice ao p.v.length ac, .slice bo p.e.length bc] #[.slice tno turn.length tc, .slice so same.length sc] 24 27 30
  have HC1 := Lib.hid (hc1.trans hc3 (by simp))
  have HBXS := Lib.hid (fun w2 h => three_boxes w (g := g) (p := p) (turn := turn) (same := same) (eo := eo) (ao := ao) (bo := bo) (tno := tno) (so := so) (cap := cap) (ac := ac) (bc := bc) (tc := tc) (sc := sc) (w2 := w2) h)
  clear hcell hacell hbcell hsm hbs has hn hc1 hc3 hsc
  obtain ⟨x0, x1, y0, y1, z0, z1, hsz⟩ := HBXS.out _ (Chg.refl _ _)
  go_enter Try.func7, Try.ntmps7
  go_wp2_with fail
  refine (small8_any _ _ _ g p turn same _ (HG.out.fresh HC1.out) (HP.out.fresh HC1.out) (HX.out.fresh HC1.out)).mono ?_
  rintro e w2 ⟨rfl, hc2⟩
  have HC2 := Lib.hid (HC1.out.trans hc2 (by simp))
  clear x0 x1 y0 y1 z0 z1 hsz hc2
  cases hb : Plain.small8 g p turn same with
  | false =>
    rw [show bit false = 0 from rfl]
    have HB := Lib.hid hb
    clear hb
    go_wp2
    go_ret
    exact ⟨ret_bool (show false = _ by rw [HB.out]; rfl), HC2.out⟩
  | true =>
    rw [show bit true = 1 from rfl]
    have HB := Lib.hid hb
    clear hb
    by_cases hl : cy.length ≤ 60
    · have bl : decide ((cy.length : Int) ≤ 60) = true := decide_eq_true (by omega)
      have HE := Lib.hid (show decide (cy.length ≤ 60) = true from decide_eq_true hl)
      clear hl
      go_wp2
      go_ret
      exact ⟨ret_bool (show true = _ by rw [HB.out, HE.out]; rfl), HC2.out⟩
    · have bl : decide ((cy.length : Int) ≤ 60) = false := decide_eq_false (by omega)
      have HE := Lib.hid (show decide (cy.length ≤ 60) = false from decide_eq_false hl)
      clear hl
      go_wp2
      go_ret
      exact ⟨ret_bool (show false = _ by rw [HB.out, HE.out]; rfl), HC2.out⟩
end Go.Proofs.Ytfgbkpbakignhaa
/- the law SideAlls: the walk. Conditions: a graph, a part, a plan, a list of ints that lie in memory and read so. -/
namespace Go.Proofs.Ytfgbkpbakignhaa
open Go.RowKit Go.Maps

namespace Plain
theorem allV_in {g : Gr} {p : Pt} {turn same : List (List Int)} {cy : List Int} {v : Int} (hv : v ∈ p.v) : (allV g p turn same cy v).isSome = true := von_some hv _
theorem allE_in {g : Gr} {p : Pt} {turn same : List (List Int)} {cy : List Int} {v : Int} (hv : v ∈ p.e) : (allE g p turn same cy v).isSome = true := eon_some hv _
end Plain

set_option maxRecDepth 100000 in
set_option maxHeartbeats 8000000 in
theorem sideAlls_any (vg vp vx vc : Value) (g : Plain.Gr) (p : Plain.Pt) (turn same : List (List Int)) (cy : List Int) (w : World) (hg : GrAt w vg g) (hp : PtAt w vp p) (hx : PlAt w vx turn same) (hcy : IntsAt w vc cy) :
    Calls Try.prog 3 #[vg, vp, vx, vc] w fun e w' => e = .returned (.bool true) ∧ Chg [] w w' := by
  have HCC := Lib.hid hcy
  obtain ⟨co, cc, rfl, hci, hcm, -⟩ := hcy
  clear hci
  have HG := Lib.hid hg
  have HP := Lib.hid hp
  have HX := Lib.hid hx
  obtain ⟨eo, cap, rfl, hn, hm, hsm, hcell⟩ := hg
  obtain ⟨v1, v2, rfl, hv, he⟩ := hp
  obtain ⟨ao, ac, rfl, has, ham, hacell⟩ := hv
  obtain ⟨bo, bc, rfl, hbs, hbm, hbcell⟩ := he
  have HAC := Lib.hid hacell
  have HBC := Lib.hid hbcell
  obtain ⟨t1, t2, rfl, ht, hs⟩ := hx
  have HT := Lib.hid ht
  have HS := Lib.hid hs
  obtain ⟨tno, tc, rfl, htm, -⟩ := ht
  obtain ⟨so, sc, rfl, hsm2, hsc⟩ := hs
  obtain ⟨-, -, hc1⟩ := box_two w #[.int .i64 g.n, .slice eo g.e.length cap] #[.slice ao p.v.length ac, .slice bo p.e.length bc] 24 27
  obtain ⟨-, hc3⟩ := box_three w #[.int .i64 g.n, .slice eo g.e.length cap] #[.slice ao p.v.length ac, .slice bo p.e.length bc] #[.slice tno turn.length tc, .slice so same.length sc] 24 27 30
  have HC1 := Lib.hid (hc1.trans hc3 (by simp))
  have HBXS := Lib.hid (fun w2 h => three_boxes w (g := g) (p := p) (turn := turn) (same := same) (eo := eo) (ao := ao) (bo := bo) (tno := tno) (so := so) (cap := cap) (ac := ac) (bc := bc) (tc := tc) (sc := sc) (w2 := w2) h)
  clear hcell hacell hbcell hsm hbs has hn hc1 hc3 hsc
  have HPEI := Lib.hid (show IntsAt w (.slice bo p.e.length bc) p.e by obtain ⟨v1, v2, e, -, he⟩ := HP.out; cases e; exact he)
  have HPVI := Lib.hid (show IntsAt w (.slice ao p.v.length ac) p.v by obtain ⟨v1, v2, e, hv, -⟩ := HP.out; cases e; exact hv)
  go_enter Try.func3, Try.ntmps3
  go_wp2_with fail
  refine (awake10_any _).mono ?_
  rintro e w2 ⟨rfl, hc2⟩
  obtain ⟨x0, x1, y0, y1, z0, z1, hsz⟩ := HBXS.out w2 hc2
  have HC2 := Lib.hid (HC1.out.trans hc2 (by simp))
  have HC2B := Lib.hid hc2
  clear hc2
  go_wp2_with fail
  refine (small10_any _ _ _ _ g p turn same cy _ (HG.out.fresh HC2.out) (HP.out.fresh HC2.out) (HX.out.fresh HC2.out) (HCC.out.fresh HC2.out)).mono ?_
  rintro e w3 ⟨rfl, hc3⟩
  have HC3 := Lib.hid (HC2.out.trans hc3 (by simp))
  have HC3B := Lib.hid (HC2B.out.trans hc3 (by simp))
  clear x0 x1 y0 y1 z0 z1 hsz hc3
  by_cases hb : (Plain.small8 g p turn same && decide (cy.length ≤ 60)) = true
  · obtain ⟨hb8, hb60⟩ := Bool.and_eq_true_iff.1 hb
    obtain ⟨b1, b2, b3, b4, b5, b6⟩ := Plain.small8_is hb8
    have b60 := of_decide_eq_true hb60
    have HB4 := Lib.hid b4
    have HB6 := Lib.hid (fun i => Nat.le_trans (b6 i) (by omega : 60 ≤ 10000))
    rw [hb]
    obtain ⟨x0, x1, y0, y1, z0, z1, hsz⟩ := HBXS.out w3 HC3B.out
    clear hb hb8 hb60 b4 b6
    go_wp2_with fail
    refine (all_any _ _ _ _ g p turn same cy _ (by omega) (by omega) (by omega) (by have := HB4.out; omega) (by omega) HB6.out (by omega) (HG.out.fresh HC3.out) (HP.out.fresh HC3.out) (HX.out.fresh HC3.out) (HCC.out.fresh HC3.out)).mono ?_
    rintro e w4 ⟨mv, me, rfl, hno, hyes, hc4⟩
    have HC4 := Lib.hid (HC3.out.trans hc4 (by simp))
    have HC4B := Lib.hid (HC3B.out.trans hc4 (by simp))
    clear x0 x1 y0 y1 z0 z1 hsz hc4
    by_cases hk : Plain.sideIs g p turn same cy = true
    · obtain ⟨a, b, rfl, rfl, hma, hmb⟩ := hyes hk
      have HMA := Lib.hid hma
      have HMB := Lib.hid hmb
      have HK := Lib.hid hk
      rw [hk]
      clear hno hyes hma hmb hk
      go_wp2
      go_loopw [12] (fun c wr => ∃ k : Nat, k ≤ p.v.length ∧ c = .int .i64 k ∧ Chg [] w4 wr) (fun c _ => p.v.length - (intOf c).toNat)
      case atStart => exact ⟨0, Nat.zero_le _, rfl, Chg.refl _ _⟩
      case round =>
        obtain ⟨k, hk, rfl, hc⟩ := hrel
        have HC := Lib.hid hc
        have HCW := Lib.hid (HC4.out.trans hc (by simp))
        obtain ⟨x0, x1, y0, y1, z0, z1, hsz⟩ := HBXS.out wr (HC4B.out.trans hc (by simp))
        clear hc
        by_cases hlt : k < p.v.length
        · obtain ⟨rb, roff, rfl, rc⟩ := IntsAt.cellAt HPVI.out hlt
          have rcell := HCW.out.cell rc (by simp)
          have hvm := Plain.getD_mem hlt
          have IV : I64 (p.v.getD k 0) := by obtain ⟨_, _, -, h, -, -⟩ := HPVI.out; exact h _ hvm
          have HIN := Lib.hid (Plain.allV_in (g := g) (turn := turn) (same := same) (cy := cy) hvm)
          obtain ⟨v, hv⟩ : ∃ v, p.v.getD k 0 = v := ⟨_, rfl⟩
          rw [hv] at rcell IV HIN
          have HVV := Lib.hid (show Plain.vertV g p turn same cy v = (Plain.allV g p turn same cy v).getD 0 from if_pos HK.out)
          have HVO := Lib.hid (show Plain.vertOk g p turn same cy v = true by unfold Plain.vertOk; rw [HK.out, HIN.out]; rfl)
          obtain ⟨u, hu⟩ : ∃ u, (Plain.allV g p turn same cy v).getD 0 = u := ⟨_, rfl⟩
          rw [hu] at HVV
          have HU := Lib.hid hu
          have buu : (u != u) = false := by simp
          clear rc hvm hv hu hsz
          go_wp2
          have hS0 : Chg [] wr wr.drew := (Chg.refl [] wr).drew
          refine wp_region_way (Chg [] wr) [0, 1, 2, 3, 4, 5, 6, 7, 8, 10, 11, 12, 13, 14] (Way.line [0, 1, 2, 3, 4, 5, 6, 7, 8, 9, 10, 11, 12, 13, 14] .done) (by kernel_rfl) (by kernel_rfl) ?_
          simp only [Way.line]
          repeat
            first
              | (refine along_off rfl (by rfl) (by rfl) (fun _ _ _ h => h) hS0 ?_; simp only [Act.put, List.getElem_toArray, List.getElem_cons_zero, List.getElem_cons_succ, List.setIfInBounds_toArray, List.set_cons_zero, List.set_cons_succ])
              | (refine along_read (v := ?_) rfl (by rfl) (by rfl) (fun _ _ _ h => h) hS0 (fun w' hS' => ?_) ?_; rotate_left; (focus (have rd0 := hS'.cell x0 (by simp); have rd1 := hS'.cell x1 (by simp); have rd2 := hS'.cell y0 (by simp); have rd3 := hS'.cell y1 (by simp); have rd4 := hS'.cell z0 (by simp); have rd5 := hS'.cell z1 (by simp); have rd6 := hS'.cell rcell (by simp); clear hS'; go_simp; try with_reducible rfl)); simp only [Act.put, List.getElem_toArray, List.getElem_cons_zero, List.getElem_cons_succ, List.setIfInBounds_toArray, List.set_cons_zero, List.set_cons_succ])
              | (refine along_skip rfl (by rfl) (by rfl) hS0 ?_; simp only [Act.put, List.getElem_toArray, List.getElem_cons_zero, List.getElem_cons_succ, List.setIfInBounds_toArray, List.set_cons_zero, List.set_cons_succ])
          refine along_op rfl (by rfl) (by rfl) (fun K hK => ?_)
          go_simp
          refine (vertex_any _ _ _ _ g p turn same cy v _ (by omega) (by omega) (by omega) (by have := HB4.out; omega) (by omega) HB6.out (by omega) IV (HG.out.fresh (HCW.out.trans hS0 (by simp))) (HP.out.fresh (HCW.out.trans hS0 (by simp))) (HX.out.fresh (HCW.out.trans hS0 (by simp))) (HCC.out.fresh (HCW.out.trans hS0 (by simp)))).mono ?_
          rintro e w5 ⟨rfl, hcx⟩
          have hS1 := hS0.trans hcx (by simp)
          clear hS0 hcx
          have hS0 := hS1
          clear hS1
          refine hK.out _ _ (fun _ => hS0) ?_
          clear hK K
          try simp only [Act.put, List.getElem_toArray, List.getElem_cons_zero, List.getElem_cons_succ, List.setIfInBounds_toArray, List.set_cons_zero, List.set_cons_succ]
          rw [HVV.out, HVO.out]
          repeat
            first
              | (refine along_off rfl (by rfl) (by rfl) (fun _ _ _ h => h) hS0 ?_; simp only [Act.put, List.getElem_toArray, List.getElem_cons_zero, List.getElem_cons_succ, List.setIfInBounds_toArray, List.set_cons_zero, List.set_cons_succ])
              | (refine along_read (v := ?_) rfl (by rfl) (by rfl) (fun _ _ _ h => h) hS0 (fun w' hS' => ?_) ?_; rotate_left; (focus (have rd0 := hS'.cell y0 (by simp); clear hS'; go_simp; try with_reducible rfl)); simp only [Act.put, List.getElem_toArray, List.getElem_cons_zero, List.getElem_cons_succ, List.setIfInBounds_toArray, List.set_cons_zero, List.set_cons_succ])
              | (refine along_skip rfl (by rfl) (by rfl) hS0 ?_; simp only [Act.put, List.getElem_toArray, List.getElem_cons_zero, List.getElem_cons_succ, List.setIfInBounds_toArray, List.set_cons_zero, List.set_cons_succ])
          refine along_done ?_
          have HC5 := Lib.hid (HC.out.trans hS0 (by simp))
          have HMA5 := Lib.hid (HMA.out.imap.chg HC5.out (by simp))
          have y0 := hS0.cell y0 (by simp)
          have rcell := hS0.cell rcell (by simp)
          clear hS0 x0 x1 y1 z0 z1
          go_wp2_with (at_lookup; refine wp_look_any _ rfl _ _ rfl HMA5.out rfl IV rfl HU HIN ?_)
          go_roundw
          case rel => exact ⟨k + 1, by omega, by go_num, HC5.out⟩
          case measure => simp [intOf]; omega
        · have e : k = p.v.length := by omega
          subst e
          clear x0 x1 y1 z0 z1 hsz
          generalize wr = wz at *
          go_wp2
          go_loopw [17] (fun c wr => ∃ k : Nat, k ≤ p.e.length ∧ c = .int .i64 k ∧ Chg [] wz wr) (fun c _ => p.e.length - (intOf c).toNat)
          case atStart => exact ⟨0, Nat.zero_le _, rfl, Chg.refl _ _⟩
          case round =>
            obtain ⟨k, hk, rfl, hc2⟩ := hrel
            have HCZ := Lib.hid (HC.out.trans hc2 (by simp))
            have HCE := Lib.hid (HCW.out.trans hc2 (by simp))
            obtain ⟨x0, x1, y0, y1, z0, z1, hsz⟩ := HBXS.out wr (HC4B.out.trans HCZ.out (by simp))
            have HC2Z := Lib.hid hc2
            clear hc2
            by_cases hlt : k < p.e.length
            · obtain ⟨rb, roff, rfl, rc⟩ := IntsAt.cellAt HPEI.out hlt
              have rcell := HCE.out.cell rc (by simp)
              have hvm := Plain.getD_mem hlt
              have IV : I64 (p.e.getD k 0) := by obtain ⟨_, _, -, h, -, -⟩ := HPEI.out; exact h _ hvm
              have HIN := Lib.hid (Plain.allE_in (g := g) (turn := turn) (same := same) (cy := cy) hvm)
              obtain ⟨v, hv⟩ : ∃ v, p.e.getD k 0 = v := ⟨_, rfl⟩
              rw [hv] at rcell IV HIN
              have HVV := Lib.hid (show Plain.edgeV g p turn same cy v = (Plain.allE g p turn same cy v).getD 0 from if_pos HK.out)
              have HVO := Lib.hid (show Plain.edgeOk g p turn same cy v = true by unfold Plain.edgeOk; rw [HK.out, HIN.out]; rfl)
              obtain ⟨u, hu⟩ : ∃ u, (Plain.allE g p turn same cy v).getD 0 = u := ⟨_, rfl⟩
              rw [hu] at HVV
              have HU := Lib.hid hu
              have buu : (u != u) = false := by simp
              clear rc hvm hv hu hsz
              go_wp2
              have hS0 : Chg [] wr wr.drew := (Chg.refl [] wr).drew
              refine wp_region_way (Chg [] wr) [0, 1, 2, 3, 4, 5, 6, 7, 8, 10, 11, 12, 13, 14] (Way.line [0, 1, 2, 3, 4, 5, 6, 7, 8, 9, 10, 11, 12, 13, 14] .done) (by kernel_rfl) (by kernel_rfl) ?_
              simp only [Way.line]
              repeat
                first
                  | (refine along_off rfl (by rfl) (by rfl) (fun _ _ _ h => h) hS0 ?_; simp only [Act.put, List.getElem_toArray, List.getElem_cons_zero, List.getElem_cons_succ, List.setIfInBounds_toArray, List.set_cons_zero, List.set_cons_succ])
                  | (refine along_read (v := ?_) rfl (by rfl) (by rfl) (fun _ _ _ h => h) hS0 (fun w' hS' => ?_) ?_; rotate_left; (focus (have rd0 := hS'.cell x0 (by simp); have rd1 := hS'.cell x1 (by simp); have rd2 := hS'.cell y0 (by simp); have rd3 := hS'.cell y1 (by simp); have rd4 := hS'.cell z0 (by simp); have rd5 := hS'.cell z1 (by simp); have rd6 := hS'.cell rcell (by simp); clear hS'; go_simp; try with_reducible rfl)); simp only [Act.put, List.getElem_toArray, List.getElem_cons_zero, List.getElem_cons_succ, List.setIfInBounds_toArray, List.set_cons_zero, List.set_cons_succ])
                  | (refine along_skip rfl (by rfl) (by rfl) hS0 ?_; simp only [Act.put, List.getElem_toArray, List.getElem_cons_zero, List.getElem_cons_succ, List.setIfInBounds_toArray, List.set_cons_zero, List.set_cons_succ])
              refine along_op rfl (by rfl) (by rfl) (fun K hK => ?_)
              go_simp
              refine (edge_any _ _ _ _ g p turn same cy v _ (by omega) (by omega) (by omega) (by have := HB4.out; omega) (by omega) HB6.out (by omega) IV (HG.out.fresh (HCE.out.trans hS0 (by simp))) (HP.out.fresh (HCE.out.trans hS0 (by simp))) (HX.out.fresh (HCE.out.trans hS0 (by simp))) (HCC.out.fresh (HCE.out.trans hS0 (by simp)))).mono ?_
              rintro e w5 ⟨rfl, hcx⟩
              have hS1 := hS0.trans hcx (by simp)
              clear hS0 hcx
              have hS0 := hS1
              clear hS1
              refine hK.out _ _ (fun _ => hS0) ?_
              clear hK K
              try simp only [Act.put, List.getElem_toArray, List.getElem_cons_zero, List.getElem_cons_succ, List.setIfInBounds_toArray, List.set_cons_zero, List.set_cons_succ]
              rw [HVV.out, HVO.out]
              repeat
                first
                  | (refine along_off rfl (by rfl) (by rfl) (fun _ _ _ h => h) hS0 ?_; simp only [Act.put, List.getElem_toArray, List.getElem_cons_zero, List.getElem_cons_succ, List.setIfInBounds_toArray, List.set_cons_zero, List.set_cons_succ])
                  | (refine along_read (v := ?_) rfl (by rfl) (by rfl) (fun _ _ _ h => h) hS0 (fun w' hS' => ?_) ?_; rotate_left; (focus (have rd0 := hS'.cell y1 (by simp); clear hS'; go_simp; try with_reducible rfl)); simp only [Act.put, List.getElem_toArray, List.getElem_cons_zero, List.getElem_cons_succ, List.setIfInBounds_toArray, List.set_cons_zero, List.set_cons_succ])
                  | (refine along_skip rfl (by rfl) (by rfl) hS0 ?_; simp only [Act.put, List.getElem_toArray, List.getElem_cons_zero, List.getElem_cons_succ, List.setIfInBounds_toArray, List.set_cons_zero, List.set_cons_succ])
              refine along_done ?_
              have HC5 := Lib.hid (HCZ.out.trans hS0 (by simp))
              have HC6 := Lib.hid (HC2Z.out.trans hS0 (by simp))
              have HMB5 := Lib.hid (HMB.out.imap.chg HC5.out (by simp))
              have y1 := hS0.cell y1 (by simp)
              have rcell := hS0.cell rcell (by simp)
              clear hS0 x0 x1 y0 z0 z1
              go_wp2_with (at_lookup; refine wp_look_any _ rfl _ _ rfl HMB5.out rfl IV rfl HU HIN ?_)
              go_roundw
              case rel => exact ⟨k + 1, by omega, by go_num, HC6.out⟩
              case measure => simp [intOf]; omega
            · have e : k = p.e.length := by omega
              subst e
              have HMA6 := Lib.hid (HMA.out.chg HCZ.out (by simp))
              have HMB6 := Lib.hid (HMB.out.chg HCZ.out (by simp))
              have hnv := HMA6.out.len
              have hne := HMB6.out.len
              clear x0 x1 z0 z1 hsz
              go_wp2
              go_ret
              exact ⟨rfl, HCE.out⟩
    · have hkf : Plain.sideIs g p turn same cy = false := by simpa using hk
      obtain ⟨rfl, rfl⟩ := hno hkf
      have HKF := Lib.hid hkf
      rw [hkf]
      obtain ⟨x0, x1, y0, y1, z0, z1, hsz⟩ := HBXS.out w4 HC4B.out
      clear hno hyes hk hkf
      go_wp2_with fail
      refine (cycle_any _ _ _ g p cy _ (by omega) (by omega) (by omega) (HG.out.fresh HC4.out) (HP.out.fresh HC4.out) (HCC.out.fresh HC4.out)).mono ?_
      rintro e w5 ⟨rfl, hc5⟩
      have HC5 := Lib.hid (HC4.out.trans hc5 (by simp))
      have HC5B := Lib.hid (HC4B.out.trans hc5 (by simp))
      clear x0 x1 y0 y1 z0 z1 hsz hc5
      cases hcy : Plain.cycOk g p cy with
      | false =>
        clear hcy
        go_wp2
        go_ret
        exact ⟨rfl, HC5.out⟩
      | true =>
        have hnz : Plain.planErr g p turn same ≠ 0 := fun h => by
          have := HKF.out
          unfold Plain.sideIs at this
          rw [hcy, decide_eq_true h] at this
          cases this
        obtain ⟨x0, x1, y0, y1, z0, z1, hsz⟩ := HBXS.out w5 HC5B.out
        clear hcy
        go_wp2_with fail
        refine (right_any _ _ _ g p turn same _ (by omega) (by omega) (by omega) (by have := HB4.out; omega) (by omega) HB6.out (HG.out.fresh HC5.out) (HP.out.fresh HC5.out) (HX.out.fresh HC5.out)).mono ?_
        rintro e w6 ⟨rfl, hc6⟩
        have HC6 := Lib.hid (HC5.out.trans hc6 (by simp))
        have hnb : (Plain.planErr g p turn same != 0) = true := by simp only [bne_iff_ne]; exact hnz
        obtain ⟨er, her⟩ : ∃ er, Plain.planErr g p turn same = er := ⟨_, rfl⟩
        rw [her] at hnb ⊢
        clear x0 x1 y0 y1 z0 z1 hsz hc6 hnz her
        go_wp2
        go_ret
        exact ⟨rfl, HC6.out⟩
  · have hbf : (Plain.small8 g p turn same && decide (cy.length ≤ 60)) = false := by simpa using hb
    rw [hbf]
    clear hb hbf
    go_wp2_with fail
    refine (awake10_any _).mono ?_
    rintro e w4 ⟨rfl, hc4⟩
    have HC4 := Lib.hid (HC3.out.trans hc4 (by simp))
    clear hc4
    go_wp2
    go_ret
    exact ⟨rfl, HC4.out⟩
end Go.Proofs.Ytfgbkpbakignhaa
/- From what comes in, as it is read, to the plain words of this seat: a graph, a part, a plan. -/
namespace Go.Proofs.Ytfgbkpbakignhaa
open Go.ChangeShapes Go.WideShapes Go.ChangeAt Go.RowKit Go.Deep Go.Joins

section
variable {H : Type} {enc : TypeId × Value → H} {w : World} {base : Nat} {held : Bool}

theorem cellsInt : Try.prog.cellsOf 3 = 1 := by kernel_rfl
theorem cellsRow : Try.prog.cellsOf 25 = 1 := by kernel_rfl
theorem cellsEdge : Try.prog.cellsOf 42 = 2 := by kernel_rfl

/-- A []int that came in. -/
theorem ints_open {fuel : Nat} {u : Value} {x : DataW H × List MemPlace} (h : DataW.trod enc Try.prog w base (fun _ => true) held fuel 25 [u] = some x) : ∃ l, IntsAt w u l ∧ CapOk u := by
  rcases open_ints Try.underlying25 Try.underlying3 cellsInt h with ⟨hcs, _⟩ | ⟨a, len', cap', zs, hcs, _, hl, hm, hz, _, hcell, hwz⟩
  · simp at hcs
    subst hcs
    exact ⟨[], IntsAt.nil w, none, 0, 0, rfl, by decide, by decide⟩
  · simp at hcs
    subst hcs
    have hz' : zs.length = cap' := by simpa using hz
    have hlen : (zs.take len').length = len' := by simp; omega
    unfold maxLen at hm
    refine ⟨zs.take len', ⟨some a, cap', by rw [hlen], fun y hy => hwz y (List.mem_of_mem_take hy), by rw [hlen]; omega, fun hne => ?_⟩, some a, len', cap', rfl, hl, by omega⟩
    obtain ⟨b, off, rfl, hc⟩ := ints_at hcell (by
      rcases Nat.eq_zero_or_pos zs.length with q | q
      · rw [List.length_eq_zero_iff.1 q] at hne; simp at hne
      · exact q)
    refine ⟨b, off, rfl, fun i hi => ?_⟩
    rw [hlen] at hi
    rw [hc i (by omega)]
    simp [List.getD, hi]

/-- A [][]int that came in. -/
theorem rows_open {fuel : Nat} {u : Value} {x : DataW H × List MemPlace} (h : DataW.trod enc Try.prog w base (fun _ => true) held fuel 28 [u] = some x) : ∃ ll, RowsAt w u ll := by
  rcases open_slice Try.underlying28 h with ⟨hcs, _⟩ | ⟨a, len', cap', m, n, D, Pl, hcs, _, hl, hm, hmm, _, hx⟩
  · simp at hcs
    subst hcs
    exact ⟨[], none, 0, rfl, by decide, fun i hi => absurd hi (by simp)⟩
  · simp at hcs
    subst hcs
    simp only [if_true] at hmm
    subst hmm
    have each : ∀ i, i < m → ∃ l : List Int, ∃ u, w.cell? (a.add (i * 1)) = some u ∧ IntsAt w u l ∧ CapOk u := by
      intro i hi
      obtain ⟨cs', hc, ht⟩ := hx i hi
      rw [cellsRow] at hc
      obtain ⟨_, hlen, hat⟩ := World.cells?_some hc
      match cs', hlen with
      | [c0], _ =>
        obtain ⟨l, h1, h2⟩ := ints_open ht
        refine ⟨l, c0, ?_, h1, h2⟩
        have := hat 0 (by omega); rw [add_add] at this; simpa using this
    obtain ⟨f, hf⟩ := choose_lt each
    unfold maxLen at hm
    refine ⟨(List.range len').map f, some a, m, by simp, by simp; omega, fun i hi => ?_⟩
    have hi : i < len' := by simpa using hi
    obtain ⟨u, k0, k1, k2⟩ := hf i (by omega)
    obtain ⟨b, off, spot⟩ := a
    have hs : spot = none := by
      obtain ⟨u0, z0, -⟩ := hf 0 (by omega)
      have := World.cell?_spot z0
      simpa [Addr.add] using this
    subst hs
    refine ⟨b, off, u, rfl, ?_, k2, by simpa [List.getD, hi] using k1⟩
    have := k0
    rw [add_plain] at this
    simpa using this

set_option maxRecDepth 100000 in
/-- An api.Graph that came in. -/
theorem gr_open {r : Reach} {b0 : Nat} {v : Value} {d : DataW H} {p : List MemPlace} (hv : Value.okWide Try.prog w r b0 24 v) (h : DataW.Trod enc Try.prog w base (fun _ => true) held 24 v d p) : ∃ g, GrAt w v g := by
  obtain ⟨c0, c1, y0, y1, n, rfl, -, -, h0, h1⟩ := open_agg2 Try.underlying24 (by kernel_rfl) (by kernel_rfl) hv h
  obtain ⟨N, e0, _, w0⟩ := DataW.trod_int Try.underlying3 h0
  simp at e0
  subst e0
  rcases open_slice Try.underlying22 h1 with ⟨hcs, _⟩ | ⟨a, len', cap', m, n', D, Pl, hcs, _, hl, hm, hmm, _, hx⟩
  · simp at hcs
    subst hcs
    exact ⟨⟨N, []⟩, none, 0, rfl, w0, Nat.zero_le _, fun i hi => absurd hi (by simp), fun i hi => absurd hi (by simp)⟩
  · simp at hcs
    subst hcs
    simp only [if_true] at hmm
    subst hmm
    have each : ∀ i, i < m → ∃ y : Int × Int, (I64 y.1 ∧ I64 y.2) ∧ w.cell? (a.add (i * 2)) = some (.int .i64 y.1) ∧ w.cell? (a.add (i * 2 + 1)) = some (.int .i64 y.2) := by
      intro i hi
      obtain ⟨cs', hc, ht⟩ := hx i hi
      rw [cellsEdge] at hc
      obtain ⟨_, hlen, hat⟩ := World.cells?_some hc
      obtain ⟨y0, y1, n', _, _, k0, k1⟩ := trod_struct2 Try.underlying42 ht
      match cs', hlen with
      | [c0, c1], _ =>
        simp only [cellsInt, List.drop_zero, List.drop_succ_cons, List.take_succ_cons, List.take_zero] at k0 k1
        obtain ⟨x0, e0, _, q0⟩ := DataW.trod_int Try.underlying3 k0
        obtain ⟨x1, e1, _, q1⟩ := DataW.trod_int Try.underlying3 k1
        simp at e0 e1
        subst e0 e1
        refine ⟨(x0, x1), ⟨q0, q1⟩, ?_, ?_⟩
        · have := hat 0 (by omega); rw [add_add] at this; simpa using this
        · have := hat 1 (by omega); rw [add_add] at this; simpa using this
    obtain ⟨f, hf⟩ := choose_lt each
    unfold maxLen at hm
    have hg : ∀ i, i < len' → ((List.range len').map f).getD i (0, 0) = f i := fun i hi => by simp [List.getD, hi]
    refine ⟨⟨N, (List.range len').map f⟩, some a, m, by simp, w0, by simp; omega, fun i hi => ?_, fun i hi => ?_⟩
    · have hi : i < len' := by simpa using hi
      show I64 (((List.range len').map f).getD i (0, 0)).1 ∧ I64 (((List.range len').map f).getD i (0, 0)).2
      rw [hg i hi]
      exact (hf i (by omega)).1
    · have hi : i < len' := by simpa using hi
      obtain ⟨_, k0, k1⟩ := hf i (by omega)
      obtain ⟨b, off, spot⟩ := a
      have hs : spot = none := by
        have := World.cell?_spot (hf 0 (by omega)).2.1
        simpa [Addr.add] using this
      subst hs
      refine ⟨b, off, rfl, ?_, ?_⟩
      · show _ = some (Value.int .i64 (((List.range len').map f).getD i (0, 0)).1)
        rw [hg i hi, ← add_plain]; exact k0
      · show _ = some (Value.int .i64 (((List.range len').map f).getD i (0, 0)).2)
        rw [hg i hi, Nat.add_assoc, ← add_plain]; exact k1

set_option maxRecDepth 100000 in
/-- An api.Part that came in. -/
theorem pt_open {r : Reach} {b0 : Nat} {v : Value} {d : DataW H} {p : List MemPlace} (hv : Value.okWide Try.prog w r b0 27 v) (h : DataW.Trod enc Try.prog w base (fun _ => true) held 27 v d p) : ∃ g, PtAt w v g := by
  obtain ⟨c0, c1, y0, y1, n, rfl, -, -, h0, h1⟩ := open_agg2 Try.underlying27 (by kernel_rfl) (by kernel_rfl) hv h
  obtain ⟨l0, k0, -⟩ := ints_open h0
  obtain ⟨l1, k1, -⟩ := ints_open h1
  exact ⟨⟨l0, l1⟩, c0, c1, rfl, k0, k1⟩

set_option maxRecDepth 100000 in
/-- An api.Plan that came in. -/
theorem pl_open {r : Reach} {b0 : Nat} {v : Value} {d : DataW H} {p : List MemPlace} (hv : Value.okWide Try.prog w r b0 30 v) (h : DataW.Trod enc Try.prog w base (fun _ => true) held 30 v d p) : ∃ turn same, PlAt w v turn same := by
  obtain ⟨c0, c1, y0, y1, n, rfl, -, -, h0, h1⟩ := open_agg2 Try.underlying30 (by kernel_rfl) (by kernel_rfl) hv h
  obtain ⟨l0, k0⟩ := rows_open h0
  obtain ⟨l1, k1⟩ := rows_open h1
  exact ⟨l0, l1, c0, c1, rfl, k0, k1⟩
end
end Go.Proofs.Ytfgbkpbakignhaa
