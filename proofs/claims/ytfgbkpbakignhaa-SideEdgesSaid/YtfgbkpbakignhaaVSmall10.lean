/- law 10's small. Conditions: a graph, a part, a plan, a list of ints that lie in memory and read so. -/
import Derived.Test.YtfgbkpbakignhaaVSmall
import Derived.Test.YtfgbkpbakignhaaVRegions
import Derived.Test.YtfgbkpbakignhaaVWake
import Derived.Test.YtfgbkpbakignhaaVAwkT
import Derived.Test.YtfgbkpbakignhaaVSeq
import Derived.ProofKit
import Derived.OpenShut
import Derived.ChangeOld
import Derived.Deep.Strs
import Derived.Lib.SmallJoins
namespace Go.Proofs.Ytfgbkpbakignhaa
open Go.RowKit Go.Maps

set_option maxRecDepth 100000 in
set_option maxHeartbeats 4000000 in
theorem small10_any (vg vp vx vc : Value) (g : Plain.Gr) (p : Plain.Pt) (turn same : List (List Int)) (cy : List Int) (w : World) (hg : GrAt w vg g) (hp : PtAt w vp p) (hx : PlAt w vx turn same) (hcy : IntsAt w vc cy) :
    Calls Try.prog 7 #[vg, vp, vx, vc] w fun e w' => e = .returned (.bool (Plain.small8 g p turn same && decide (cy.length ≤ 60))) ∧ Chg [] w w' := by
  obtain ⟨co, cc, rfl, hci, hcm, -⟩ := hcy
  clear hci
  have HG := Lib.hid hg
  have HP := Lib.hid hp
  have HX := Lib.hid hx
  obtain ⟨eo, cap, rfl, hn, hm, hsm, hcell⟩ := hg
  obtain ⟨v1, v2, rfl, hv, he⟩ := hp
  obtain ⟨ao, ac, rfl, has, ham, hacell⟩ := hv
  obtain ⟨bo, bc, rfl, hbs, hbm, hbcell⟩ := he
  have HAC := Lib.hid hacell
  have HBC := Lib.hid hbcell
  obtain ⟨t1, t2, rfl, ht, hs⟩ := hx
  have HT := Lib.hid ht
  have HS := Lib.hid hs
  obtain ⟨tno, tc, rfl, htm, -⟩ := ht
  obtain ⟨so, sc, rfl, hsm2, hsc⟩ := hs
  obtain ⟨-, -, hc1⟩ := box_two w #[.int .i64 g.n, .slice eo g.e.length cap] #[.slice ao p.v.length ac, .slice bo p.e.length bc] 24 27
  obtain ⟨-, hc3⟩ := box_three w #[.int .i64 g.n, .slice eo g.e.length cap] #[.slice ao p.v.length ac, .slice bo p.e.length bc] #[.slice tno turn.length tc, .slice so same.length sc] 24 27 30
  have HC1 := Lib.hid (hc1.trans hc3 (by simp))
  have HBXS := Lib.hid (fun w2 h => three_boxes w (g := g) (p := p) (turn := turn) (same := same) (eo := eo) (ao := ao) (bo := bo) (tno := tno) (so := so) (cap := cap) (ac := ac) (bc := bc) (tc := tc) (sc := sc) (w2 := w2) h)
  clear hcell hacell hbcell hsm hbs has hn hc1 hc3 hsc
  obtain ⟨x0, x1, y0, y1, z0, z1, hsz⟩ := HBXS.out _ (Chg.refl _ _)
  go_enter Try.func7, Try.ntmps7
  go_wp2_with fail
  refine (small8_any _ _ _ g p turn same _ (HG.out.fresh HC1.out) (HP.out.fresh HC1.out) (HX.out.fresh HC1.out)).mono ?_
  rintro e w2 ⟨rfl, hc2⟩
  have HC2 := Lib.hid (HC1.out.trans hc2 (by simp))
  clear x0 x1 y0 y1 z0 z1 hsz hc2
  cases hb : Plain.small8 g p turn same with
  | false =>
    rw [show bit false = 0 from rfl]
    have HB := Lib.hid hb
    clear hb
    go_wp2
    go_ret
    exact ⟨ret_bool (show false = _ by rw [HB.out]; rfl), HC2.out⟩
  | true =>
    rw [show bit true = 1 from rfl]
    have HB := Lib.hid hb
    clear hb
    by_cases hl : cy.length ≤ 60
    · have bl : decide ((cy.length : Int) ≤ 60) = true := decide_eq_true (by omega)
      have HE := Lib.hid (show decide (cy.length ≤ 60) = true from decide_eq_true hl)
      clear hl
      go_wp2
      go_ret
      exact ⟨ret_bool (show true = _ by rw [HB.out, HE.out]; rfl), HC2.out⟩
    · have bl : decide ((cy.length : Int) ≤ 60) = false := decide_eq_false (by omega)
      have HE := Lib.hid (show decide (cy.length ≤ 60) = false from decide_eq_false hl)
      clear hl
      go_wp2
      go_ret
      exact ⟨ret_bool (show false = _ by rw [HB.out, HE.out]; rfl), HC2.out⟩
end Go.Proofs.Ytfgbkpbakignhaa
/- the law SideEdges: the walk. Conditions: a graph, a part, a plan, a list of ints that lie in memory and read so. -/
namespace Go.Proofs.Ytfgbkpbakignhaa
open Go.RowKit Go.Maps

namespace Plain
theorem tail_odd1 (g : Gr) (e : Int) : g.tail (2 * e + 1) = (g.at e).2 := by
  unfold Gr.tail
  rw [if_neg (by omega), show (2 * e + 1 : Int) / 2 = e by omega]
theorem walksOf_ok {g : Gr} {p : Pt} {turn : List (List Int)} (hpe : p.err g = 0) (ht : TurnsOk g p turn) : WalksOk g p turn (walksOf g p turn) := by
  rw [← mins_walks hpe ht]
  exact (mins_trk (Pt.ok_of_err hpe) (rises_pair (Pt.err_ok hpe).2.2.1) ht).walks (Pt.ok_of_err hpe)
theorem vert_ok {g : Gr} {p : Pt} {turn same : List (List Int)} {cy : List Int} (h : sideIs g p turn same cy = true) {d : Int} (hd : d ∈ p.darts) : vertOk g p turn same cy (g.tail d) = true := by
  have hpo := Pt.ok_of_err (cyc_split (Bool.and_eq_true_iff.1 h).1).1
  unfold vertOk
  rw [h, show (allV g p turn same cy (g.tail d)).isSome = true from von_some (hpo.tail_mem hd).1 _]
  rfl
/-- AN EDGE WITH AN END ON A SIDE IS ON IT. -/
theorem side_end {g : Gr} {p : Pt} {turn same : List (List Int)} {cy : List Int} (h : sideIs g p turn same cy = true) {d : Int} (hd : d ∈ p.darts) (hv : vertV g p turn same cy (g.tail d) ≠ 0) : vertOk g p turn same cy (g.tail d) = true ∧ vertV g p turn same cy (g.tail d) = edgeV g p turn same cy (d / 2) := by
  obtain ⟨hc, hz⟩ := Bool.and_eq_true_iff.1 h
  have hz := of_decide_eq_true hz
  obtain ⟨hpe, ht⟩ := turnErr_zero (flatErr_zero (planErr_zero hz).1).1
  have hpo := Pt.ok_of_err hpe
  have htv := (hpo.tail_mem hd).1
  have hvr := hpo.vr _ htv
  have hW : WalksOk g p turn (walksOf g p turn) := walksOf_ok hpe ht
  refine ⟨by unfold vertOk; rw [h, show (allV g p turn same cy (g.tail d)).isSome = true from von_some htv _]; rfl, ?_⟩
  unfold vertV at hv ⊢
  unfold edgeV
  rw [if_pos h] at hv ⊢
  rw [if_pos h]
  unfold allV von at hv ⊢
  unfold allE eon
  rw [List.take_length] at hv ⊢
  have hn : g.tail d ∉ cy.map g.tail := fun q => hv (by rw [if_pos q]; rfl)
  have hne : ∀ x ∈ p.darts, g.tail x = g.tail d → x / 2 ∉ cy.map (· / 2) := fun x _ e q => hn (by rw [← e]; exact cyc_ends hc q)
  rw [if_neg hn, if_neg (hne d hd rfl)]
  unfold vside eside
  rw [List.take_length, List.take_length, if_pos htv, if_pos (mem_darts.1 hd)]
  simp only [Option.getD_some]
  unfold sideAt
  rw [side_around hpe ht hW hvr.1 hvr.2 hne hd rfl]
  rcases twin_cases d with ⟨e1, -⟩ | ⟨e1, e2⟩
  · exact congrArg (fun x => (sideOf (leftOf (regionsOf g p turn same) (walksOf g p turn)) p cy x).getD 0) e1
  · rw [← e2, side_twin hd (hne d hd rfl) (left_next _ hpe hW hd).2 (left_next _ hpe hW (twin_mem hd)).2]
end Plain

theorem GrAt.edge {w : World} {n : Int} {eo : Option Addr} {len cap : Nat} {g : Plain.Gr} (h : GrAt w (.agg #[.int .i64 n, .slice eo len cap]) g) {i : Nat} (hi : i < g.e.length) : ∃ b off, eo = some ⟨b, off, none⟩ ∧ w.cell? ⟨b, off + i * 2, none⟩ = some (.int .i64 (g.ends i).1) ∧ w.cell? ⟨b, off + i * 2 + 1, none⟩ = some (.int .i64 (g.ends i).2) := by
  obtain ⟨eo', cap', e, -, -, -, h⟩ := h
  have e' : eo = eo' := by
    have := congrArg (fun v => match v with | Value.agg a => (match a[1]? with | some (Value.slice x _ _) => x | _ => none) | _ => none) e
    simpa using this
  subst e'
  exact h i hi

set_option maxRecDepth 100000 in
set_option maxHeartbeats 8000000 in
theorem sideEdges_any (vg vp vx vc : Value) (g : Plain.Gr) (p : Plain.Pt) (turn same : List (List Int)) (cy : List Int) (w : World) (hg : GrAt w vg g) (hp : PtAt w vp p) (hx : PlAt w vx turn same) (hcy : IntsAt w vc cy) :
    Calls Try.prog 4 #[vg, vp, vx, vc] w fun e w' => e = .returned (.bool true) ∧ Chg [] w w' := by
  have HCC := Lib.hid hcy
  obtain ⟨co, cc, rfl, hci, hcm, -⟩ := hcy
  clear hci
  have HG := Lib.hid hg
  have HP := Lib.hid hp
  have HX := Lib.hid hx
  obtain ⟨eo, cap, rfl, hn, hm, hsm, hcell⟩ := hg
  obtain ⟨v1, v2, rfl, hv, he⟩ := hp
  obtain ⟨ao, ac, rfl, has, ham, hacell⟩ := hv
  obtain ⟨bo, bc, rfl, hbs, hbm, hbcell⟩ := he
  have HAC := Lib.hid hacell
  have HBC := Lib.hid hbcell
  obtain ⟨t1, t2, rfl, ht, hs⟩ := hx
  have HT := Lib.hid ht
  have HS := Lib.hid hs
  obtain ⟨tno, tc, rfl, htm, -⟩ := ht
  obtain ⟨so, sc, rfl, hsm2, hsc⟩ := hs
  obtain ⟨-, -, hc1⟩ := box_two w #[.int .i64 g.n, .slice eo g.e.length cap] #[.slice ao p.v.length ac, .slice bo p.e.length bc] 24 27
  obtain ⟨-, hc3⟩ := box_three w #[.int .i64 g.n, .slice eo g.e.length cap] #[.slice ao p.v.length ac, .slice bo p.e.length bc] #[.slice tno turn.length tc, .slice so same.length sc] 24 27 30
  have HC1 := Lib.hid (hc1.trans hc3 (by simp))
  have HBXS := Lib.hid (fun w2 h => three_boxes w (g := g) (p := p) (turn := turn) (same := same) (eo := eo) (ao := ao) (bo := bo) (tno := tno) (so := so) (cap := cap) (ac := ac) (bc := bc) (tc := tc) (sc := sc) (w2 := w2) h)
  clear hcell hacell hbcell hsm hbs has hn hc1 hc3 hsc
  have HPEI := Lib.hid (show IntsAt w (.slice bo p.e.length bc) p.e by obtain ⟨v1, v2, e, -, he⟩ := HP.out; cases e; exact he)
  go_enter Try.func4, Try.ntmps4
  go_wp2_with fail
  refine (awake10_any _).mono ?_
  rintro e w2 ⟨rfl, hc2⟩
  obtain ⟨x0, x1, y0, y1, z0, z1, hsz⟩ := HBXS.out w2 hc2
  have HC2 := Lib.hid (HC1.out.trans hc2 (by simp))
  have HC2B := Lib.hid hc2
  clear hc2
  go_wp2_with fail
  refine (small10_any _ _ _ _ g p turn same cy _ (HG.out.fresh HC2.out) (HP.out.fresh HC2.out) (HX.out.fresh HC2.out) (HCC.out.fresh HC2.out)).mono ?_
  rintro e w3 ⟨rfl, hc3⟩
  have HC3 := Lib.hid (HC2.out.trans hc3 (by simp))
  have HC3B := Lib.hid (HC2B.out.trans hc3 (by simp))
  clear x0 x1 y0 y1 z0 z1 hsz hc3
  by_cases hb : (Plain.small8 g p turn same && decide (cy.length ≤ 60)) = true
  · obtain ⟨hb8, hb60⟩ := Bool.and_eq_true_iff.1 hb
    obtain ⟨b1, b2, b3, b4, b5, b6⟩ := Plain.small8_is hb8
    have b60 := of_decide_eq_true hb60
    have HB4 := Lib.hid b4
    have HB6 := Lib.hid (fun i => Nat.le_trans (b6 i) (by omega : 60 ≤ 10000))
    rw [hb]
    obtain ⟨x0, x1, y0, y1, z0, z1, hsz⟩ := HBXS.out w3 HC3B.out
    clear hb hb8 hb60 b4 b6
    go_wp2_with fail
    refine (cycle_any _ _ _ g p cy _ (by omega) (by omega) (by omega) (HG.out.fresh HC3.out) (HP.out.fresh HC3.out) (HCC.out.fresh HC3.out)).mono ?_
    rintro e w4 ⟨rfl, hc4⟩
    have HC4 := Lib.hid (HC3.out.trans hc4 (by simp))
    have HC4B := Lib.hid (HC3B.out.trans hc4 (by simp))
    clear x0 x1 y0 y1 z0 z1 hsz hc4
    by_cases hcy : Plain.cycOk g p cy = true
    · rw [hcy]
      obtain ⟨x0, x1, y0, y1, z0, z1, hsz⟩ := HBXS.out w4 HC4B.out
      have HCY := Lib.hid hcy
      clear hcy
      go_wp2_with fail
      refine (right_any _ _ _ g p turn same _ (by omega) (by omega) (by omega) (by have := HB4.out; omega) (by omega) HB6.out (HG.out.fresh HC4.out) (HP.out.fresh HC4.out) (HX.out.fresh HC4.out)).mono ?_
      rintro e w5 ⟨rfl, hc5⟩
      have HC5 := Lib.hid (HC4.out.trans hc5 (by simp))
      have HC5B := Lib.hid (HC4B.out.trans hc5 (by simp))
      clear x0 x1 y0 y1 z0 z1 hsz hc5
      by_cases hz : Plain.planErr g p turn same = 0
      · have HK := Lib.hid (show Plain.sideIs g p turn same cy = true by unfold Plain.sideIs; rw [HCY.out, decide_eq_true hz]; rfl)
        have HPE := Lib.hid (Plain.cyc_split HCY.out).1
        rw [hz]
        clear hz
        go_wp2
        go_loopw [9] (fun c wr => ∃ k : Nat, k ≤ p.e.length ∧ c = .int .i64 k ∧ Chg [] w5 wr) (fun c _ => p.e.length - (intOf c).toNat)
        case atStart => exact ⟨0, Nat.zero_le _, rfl, Chg.refl _ _⟩
        case round =>
          obtain ⟨k, hk, rfl, hc⟩ := hrel
          have HC := Lib.hid hc
          have HCW := Lib.hid (HC5.out.trans hc (by simp))
          obtain ⟨x0, x1, y0, y1, z0, z1, hsz⟩ := HBXS.out wr (HC5B.out.trans hc (by simp))
          clear hc
          by_cases hlt : k < p.e.length
          · obtain ⟨rb, roff, rfl, rc⟩ := IntsAt.cellAt HPEI.out hlt
            have rcell := HCW.out.cell rc (by simp)
            have hvm := Plain.getD_mem hlt
            have her := Plain.Pt.edge_in HPE.out hvm
            obtain ⟨n, hn⟩ : ∃ n : Nat, p.e.getD k 0 = (n : Int) := ⟨(p.e.getD k 0).toNat, by omega⟩
            rw [hn] at rcell hvm her
            have hng : n < g.e.length := by omega
            have hge := (Plain.Gr.err_ok (Plain.Pt.err_ok HPE.out).1).2.2.2 n hng
            have hgn := (Plain.Gr.err_ok (Plain.Pt.err_ok HPE.out).1).2.1
            have hgl := (Plain.Gr.err_ok (Plain.Pt.err_ok HPE.out).1).2.2.1
            obtain ⟨gb, goff, rfl, gc0, gc1⟩ := GrAt.edge (HG.out.fresh HCW.out) hng
            have hd0 : 2 * (n : Int) ∈ p.darts := Plain.mem_darts.2 (by rw [show (2 * (n : Int)) / 2 = n by omega]; exact hvm)
            have hd1 : 2 * (n : Int) + 1 ∈ p.darts := Plain.mem_darts.2 (by rw [show (2 * (n : Int) + 1) / 2 = n by omega]; exact hvm)
            have ht0 : g.tail (2 * (n : Int)) = (g.ends n).1 := (Plain.tail_even g n).1
            have ht1 : g.tail (2 * (n : Int) + 1) = (g.ends n).2 := Plain.tail_odd1 g n
            have hs0 : Plain.vertOk g p turn same cy (g.ends n).1 = true ∧ (Plain.vertV g p turn same cy (g.ends n).1 = 0 ∨ Plain.vertV g p turn same cy (g.ends n).1 = Plain.edgeV g p turn same cy n) := by
              rw [← ht0]
              refine ⟨Plain.vert_ok HK.out hd0, Classical.or_iff_not_imp_left.2 fun h => ?_⟩
              have := (Plain.side_end HK.out hd0 h).2
              rwa [show (2 * (n : Int)) / 2 = n by omega] at this
            have hs1 : Plain.vertOk g p turn same cy (g.ends n).2 = true ∧ (Plain.vertV g p turn same cy (g.ends n).2 = 0 ∨ Plain.vertV g p turn same cy (g.ends n).2 = Plain.edgeV g p turn same cy n) := by
              rw [← ht1]
              refine ⟨Plain.vert_ok HK.out hd1, Classical.or_iff_not_imp_left.2 fun h => ?_⟩
              have := (Plain.side_end HK.out hd1 h).2
              rwa [show (2 * (n : Int) + 1) / 2 = n by omega] at this
            have HEO := Lib.hid (show Plain.edgeOk g p turn same cy (n : Int) = true by unfold Plain.edgeOk; rw [HK.out, show (Plain.allE g p turn same cy (n : Int)).isSome = true from Plain.eon_some hvm _]; rfl)
            have IN : I64 (n : Int) := I64.mk (by omega) (by omega)
            obtain ⟨A, hA⟩ : ∃ A, (g.ends n).1 = A := ⟨_, rfl⟩
            obtain ⟨B, hB⟩ : ∃ B, (g.ends n).2 = B := ⟨_, rfl⟩
            rw [hA] at gc0 hs0 hge
            rw [hB] at gc1 hs1 hge
            have IA : I64 A := I64.mk (by omega) (by omega)
            have IB : I64 B := I64.mk (by omega) (by omega)
            obtain ⟨c, hcc⟩ : ∃ c, Plain.edgeV g p turn same cy (n : Int) = c := ⟨_, rfl⟩
            obtain ⟨a, ha⟩ : ∃ a, Plain.vertV g p turn same cy A = a := ⟨_, rfl⟩
            obtain ⟨b, hb⟩ : ∃ b, Plain.vertV g p turn same cy B = b := ⟨_, rfl⟩
            rw [hcc, ha] at hs0
            rw [hcc, hb] at hs1
            have HAV := Lib.hid ha
            have HBV := Lib.hid hb
            have HCV := Lib.hid hcc
            have HAO := Lib.hid hs0.1
            have HBO := Lib.hid hs1.1
            have HA := Lib.hid hs0.2
            have HBB := Lib.hid hs1.2
            clear rc hvm her hn hge hgn hgl hd0 hd1 ht0 ht1 hs0 hs1 hA hB hcc ha hb hsz
            go_wp2
            have hS0 : Chg [] wr wr.drew := (Chg.refl [] wr).drew
            refine wp_region_way (Chg [] wr) [0, 1, 2, 3, 4, 5, 6, 7, 8, 9, 10, 11, 12, 13, 15, 16, 17, 18, 19] (Way.line [0, 1, 2, 3, 4, 5, 6, 7, 8, 9, 10, 11, 12, 13, 14, 15, 16, 17, 18, 19] .done) (by kernel_rfl) (by kernel_rfl) ?_
            simp only [Way.line]
            repeat
              first
                | (refine along_off rfl (by rfl) (by rfl) (fun _ _ _ h => h) hS0 ?_; simp only [Act.put, List.getElem_toArray, List.getElem_cons_zero, List.getElem_cons_succ, List.setIfInBounds_toArray, List.set_cons_zero, List.set_cons_succ])
                | (refine along_read (v := ?_) rfl (by rfl) (by rfl) (fun _ _ _ h => h) hS0 (fun w' hS' => ?_) ?_; rotate_left; (focus (have rd0 := hS'.cell x0 (by simp); have rd1 := hS'.cell x1 (by simp); have rd2 := hS'.cell y0 (by simp); have rd3 := hS'.cell y1 (by simp); have rd4 := hS'.cell z0 (by simp); have rd5 := hS'.cell z1 (by simp); have rd6 := hS'.cell rcell (by simp); have rd7 := hS'.cell gc0 (by simp); have rd8 := hS'.cell gc1 (by simp); clear hS'; go_simp; try with_reducible rfl)); simp only [Act.put, List.getElem_toArray, List.getElem_cons_zero, List.getElem_cons_succ, List.setIfInBounds_toArray, List.set_cons_zero, List.set_cons_succ])
                | (refine along_skip rfl (by rfl) (by rfl) hS0 ?_; simp only [Act.put, List.getElem_toArray, List.getElem_cons_zero, List.getElem_cons_succ, List.setIfInBounds_toArray, List.set_cons_zero, List.set_cons_succ])
            refine along_op rfl (by rfl) (by rfl) (fun K hK => ?_)
            go_simp
            refine (vertex_any _ _ _ _ g p turn same cy A _ (by omega) (by omega) (by omega) (by have := HB4.out; omega) (by omega) HB6.out (by omega) IA (HG.out.fresh (HCW.out.trans hS0 (by simp))) (HP.out.fresh (HCW.out.trans hS0 (by simp))) (HX.out.fresh (HCW.out.trans hS0 (by simp))) (HCC.out.fresh (HCW.out.trans hS0 (by simp)))).mono ?_
            rintro e w6 ⟨rfl, hcx⟩
            have hS1 := hS0.trans hcx (by simp)
            clear hS0 hcx
            have hS0 := hS1
            clear hS1
            refine hK.out _ _ (fun _ => hS0) ?_
            clear hK K
            try simp only [Act.put, List.getElem_toArray, List.getElem_cons_zero, List.getElem_cons_succ, List.setIfInBounds_toArray, List.set_cons_zero, List.set_cons_succ]
            rw [HAV.out, HAO.out]
            repeat
              first
                | (refine along_off rfl (by rfl) (by rfl) (fun _ _ _ h => h) hS0 ?_; simp only [Act.put, List.getElem_toArray, List.getElem_cons_zero, List.getElem_cons_succ, List.setIfInBounds_toArray, List.set_cons_zero, List.set_cons_succ])
                | (refine along_read (v := ?_) rfl (by rfl) (by rfl) (fun _ _ _ h => h) hS0 (fun w' hS' => ?_) ?_; rotate_left; (focus (have rd0 := hS'.cell y0 (by simp); clear hS'; go_simp; try with_reducible rfl)); simp only [Act.put, List.getElem_toArray, List.getElem_cons_zero, List.getElem_cons_succ, List.setIfInBounds_toArray, List.set_cons_zero, List.set_cons_succ])
                | (refine along_skip rfl (by rfl) (by rfl) hS0 ?_; simp only [Act.put, List.getElem_toArray, List.getElem_cons_zero, List.getElem_cons_succ, List.setIfInBounds_toArray, List.set_cons_zero, List.set_cons_succ])
            refine along_done ?_
            have HC6 := Lib.hid (HC.out.trans hS0 (by simp))
            have HCW6 := Lib.hid (HCW.out.trans hS0 (by simp))
            have x0 := hS0.cell x0 (by simp)
            have x1 := hS0.cell x1 (by simp)
            have y0 := hS0.cell y0 (by simp)
            have y1 := hS0.cell y1 (by simp)
            have z0 := hS0.cell z0 (by simp)
            have z1 := hS0.cell z1 (by simp)
            have rcell := hS0.cell rcell (by simp)
            have gc0 := hS0.cell gc0 (by simp)
            have gc1 := hS0.cell gc1 (by simp)
            clear hS0
            go_wp2
            have hS0 : Chg [] w6 w6.drew := (Chg.refl [] w6).drew
            refine wp_region_way (Chg [] w6) [0, 1, 2, 3, 4, 5, 6, 7, 8, 9, 10, 11, 12, 13, 15, 16, 17, 18, 19] (Way.line [0, 1, 2, 3, 4, 5, 6, 7, 8, 9, 10, 11, 12, 13, 14, 15, 16, 17, 18, 19] .done) (by kernel_rfl) (by kernel_rfl) ?_
            simp only [Way.line]
            repeat
              first
                | (refine along_off rfl (by rfl) (by rfl) (fun _ _ _ h => h) hS0 ?_; simp only [Act.put, List.getElem_toArray, List.getElem_cons_zero, List.getElem_cons_succ, List.setIfInBounds_toArray, List.set_cons_zero, List.set_cons_succ])
                | (refine along_read (v := ?_) rfl (by rfl) (by rfl) (fun _ _ _ h => h) hS0 (fun w' hS' => ?_) ?_; rotate_left; (focus (have rd0 := hS'.cell x0 (by simp); have rd1 := hS'.cell x1 (by simp); have rd2 := hS'.cell y0 (by simp); have rd3 := hS'.cell y1 (by simp); have rd4 := hS'.cell z0 (by simp); have rd5 := hS'.cell z1 (by simp); have rd6 := hS'.cell rcell (by simp); have rd7 := hS'.cell gc0 (by simp); have rd8 := hS'.cell gc1 (by simp); clear hS'; go_simp; try with_reducible rfl)); simp only [Act.put, List.getElem_toArray, List.getElem_cons_zero, List.getElem_cons_succ, List.setIfInBounds_toArray, List.set_cons_zero, List.set_cons_succ])
                | (refine along_skip rfl (by rfl) (by rfl) hS0 ?_; simp only [Act.put, List.getElem_toArray, List.getElem_cons_zero, List.getElem_cons_succ, List.setIfInBounds_toArray, List.set_cons_zero, List.set_cons_succ])
            refine along_op rfl (by rfl) (by rfl) (fun K hK => ?_)
            go_simp
            refine (vertex_any _ _ _ _ g p turn same cy B _ (by omega) (by omega) (by omega) (by have := HB4.out; omega) (by omega) HB6.out (by omega) IB (HG.out.fresh (HCW6.out.trans hS0 (by simp))) (HP.out.fresh (HCW6.out.trans hS0 (by simp))) (HX.out.fresh (HCW6.out.trans hS0 (by simp))) (HCC.out.fresh (HCW6.out.trans hS0 (by simp)))).mono ?_
            rintro e w7 ⟨rfl, hcx⟩
            have hS1 := hS0.trans hcx (by simp)
            clear hS0 hcx
            have hS0 := hS1
            clear hS1
            refine hK.out _ _ (fun _ => hS0) ?_
            clear hK K
            try simp only [Act.put, List.getElem_toArray, List.getElem_cons_zero, List.getElem_cons_succ, List.setIfInBounds_toArray, List.set_cons_zero, List.set_cons_succ]
            rw [HBV.out, HBO.out]
            repeat
              first
                | (refine along_off rfl (by rfl) (by rfl) (fun _ _ _ h => h) hS0 ?_; simp only [Act.put, List.getElem_toArray, List.getElem_cons_zero, List.getElem_cons_succ, List.setIfInBounds_toArray, List.set_cons_zero, List.set_cons_succ])
                | (refine along_read (v := ?_) rfl (by rfl) (by rfl) (fun _ _ _ h => h) hS0 (fun w' hS' => ?_) ?_; rotate_left; (focus (have rd0 := hS'.cell y0 (by simp); clear hS'; go_simp; try with_reducible rfl)); simp only [Act.put, List.getElem_toArray, List.getElem_cons_zero, List.getElem_cons_succ, List.setIfInBounds_toArray, List.set_cons_zero, List.set_cons_succ])
                | (refine along_skip rfl (by rfl) (by rfl) hS0 ?_; simp only [Act.put, List.getElem_toArray, List.getElem_cons_zero, List.getElem_cons_succ, List.setIfInBounds_toArray, List.set_cons_zero, List.set_cons_succ])
            refine along_done ?_
            have HC7 := Lib.hid (HC6.out.trans hS0 (by simp))
            have HCW7 := Lib.hid (HCW6.out.trans hS0 (by simp))
            have x0 := hS0.cell x0 (by simp)
            have x1 := hS0.cell x1 (by simp)
            have y0 := hS0.cell y0 (by simp)
            have y1 := hS0.cell y1 (by simp)
            have z0 := hS0.cell z0 (by simp)
            have z1 := hS0.cell z1 (by simp)
            have rcell := hS0.cell rcell (by simp)
            clear hS0 gc0 gc1
            go_wp2
            have hS0 : Chg [] w7 w7.drew := (Chg.refl [] w7).drew
            refine wp_region_way (Chg [] w7) [0, 1, 2, 3, 4, 5, 6, 7, 8, 10, 11, 12, 13, 14] (Way.line [0, 1, 2, 3, 4, 5, 6, 7, 8, 9, 10, 11, 12, 13, 14] .done) (by kernel_rfl) (by kernel_rfl) ?_
            simp only [Way.line]
            repeat
              first
                | (refine along_off rfl (by rfl) (by rfl) (fun _ _ _ h => h) hS0 ?_; simp only [Act.put, List.getElem_toArray, List.getElem_cons_zero, List.getElem_cons_succ, List.setIfInBounds_toArray, List.set_cons_zero, List.set_cons_succ])
                | (refine along_read (v := ?_) rfl (by rfl) (by rfl) (fun _ _ _ h => h) hS0 (fun w' hS' => ?_) ?_; rotate_left; (focus (have rd0 := hS'.cell x0 (by simp); have rd1 := hS'.cell x1 (by simp); have rd2 := hS'.cell y0 (by simp); have rd3 := hS'.cell y1 (by simp); have rd4 := hS'.cell z0 (by simp); have rd5 := hS'.cell z1 (by simp); have rd6 := hS'.cell rcell (by simp); clear hS'; go_simp; try with_reducible rfl)); simp only [Act.put, List.getElem_toArray, List.getElem_cons_zero, List.getElem_cons_succ, List.setIfInBounds_toArray, List.set_cons_zero, List.set_cons_succ])
                | (refine along_skip rfl (by rfl) (by rfl) hS0 ?_; simp only [Act.put, List.getElem_toArray, List.getElem_cons_zero, List.getElem_cons_succ, List.setIfInBounds_toArray, List.set_cons_zero, List.set_cons_succ])
            refine along_op rfl (by rfl) (by rfl) (fun K hK => ?_)
            go_simp
            refine (edge_any _ _ _ _ g p turn same cy n _ (by omega) (by omega) (by omega) (by have := HB4.out; omega) (by omega) HB6.out (by omega) IN (HG.out.fresh (HCW7.out.trans hS0 (by simp))) (HP.out.fresh (HCW7.out.trans hS0 (by simp))) (HX.out.fresh (HCW7.out.trans hS0 (by simp))) (HCC.out.fresh (HCW7.out.trans hS0 (by simp)))).mono ?_
            rintro e w8 ⟨rfl, hcx⟩
            have hS1 := hS0.trans hcx (by simp)
            clear hS0 hcx
            have hS0 := hS1
            clear hS1
            refine hK.out _ _ (fun _ => hS0) ?_
            clear hK K
            try simp only [Act.put, List.getElem_toArray, List.getElem_cons_zero, List.getElem_cons_succ, List.setIfInBounds_toArray, List.set_cons_zero, List.set_cons_succ]
            rw [HCV.out, HEO.out]
            repeat
              first
                | (refine along_off rfl (by rfl) (by rfl) (fun _ _ _ h => h) hS0 ?_; simp only [Act.put, List.getElem_toArray, List.getElem_cons_zero, List.getElem_cons_succ, List.setIfInBounds_toArray, List.set_cons_zero, List.set_cons_succ])
                | (refine along_read (v := ?_) rfl (by rfl) (by rfl) (fun _ _ _ h => h) hS0 (fun w' hS' => ?_) ?_; rotate_left; (focus (have rd0 := hS'.cell y0 (by simp); clear hS'; go_simp; try with_reducible rfl)); simp only [Act.put, List.getElem_toArray, List.getElem_cons_zero, List.getElem_cons_succ, List.setIfInBounds_toArray, List.set_cons_zero, List.set_cons_succ])
                | (refine along_skip rfl (by rfl) (by rfl) hS0 ?_; simp only [Act.put, List.getElem_toArray, List.getElem_cons_zero, List.getElem_cons_succ, List.setIfInBounds_toArray, List.set_cons_zero, List.set_cons_succ])
            refine along_done ?_
            have HC8 := Lib.hid (HC7.out.trans hS0 (by simp))
            clear hS0 x0 x1 y0 y1 z0 z1 rcell
            by_cases hc0 : c = 0
            · obtain rfl : a = 0 := HA.out.elim id fun h => h.trans hc0
              obtain rfl : b = 0 := HBB.out.elim id fun h => h.trans hc0
              subst hc0
              go_wp2
              go_roundw
              case rel => exact ⟨k + 1, by omega, by go_num, HC8.out⟩
              case measure => simp [intOf]; omega
            · have n1 : (c != 0) = true := by simpa using hc0
              have n2 : (c == 0) = false := by simpa using hc0
              have n3 : (c != c) = false := by simp
              rcases HA.out with rfl | rfl
              · rcases HBB.out with rfl | rfl
                · go_wp2
                  go_roundw
                  case rel => exact ⟨k + 1, by omega, by go_num, HC8.out⟩
                  case measure => simp [intOf]; omega
                · go_wp2
                  go_roundw
                  case rel => exact ⟨k + 1, by omega, by go_num, HC8.out⟩
                  case measure => simp [intOf]; omega
              · rcases HBB.out with rfl | rfl
                · go_wp2
                  go_roundw
                  case rel => exact ⟨k + 1, by omega, by go_num, HC8.out⟩
                  case measure => simp [intOf]; omega
                · go_wp2
                  go_roundw
                  case rel => exact ⟨k + 1, by omega, by go_num, HC8.out⟩
                  case measure => simp [intOf]; omega
          · have e : k = p.e.length := by omega
            subst e
            clear x0 x1 z0 z1 y0 hsz
            go_wp2
            go_ret
            exact ⟨rfl, HCW.out⟩
      · have hnb : (Plain.planErr g p turn same != 0) = true := by simp only [bne_iff_ne]; exact hz
        have hnc : (Plain.planErr g p turn same == 0) = false := by rw [beq_eq_false_iff_ne]; exact hz
        obtain ⟨er, her⟩ : ∃ er, Plain.planErr g p turn same = er := ⟨_, rfl⟩
        rw [her] at hnb hnc ⊢
        clear her hz
        go_wp2_with fail
        refine (awake10_any _).mono ?_
        rintro e w6 ⟨rfl, hc6⟩
        have HC6 := Lib.hid (HC5.out.trans hc6 (by simp))
        clear hc6
        go_wp2
        go_ret
        exact ⟨rfl, HC6.out⟩
    · have hcf : Plain.cycOk g p cy = false := by simpa using hcy
      rw [hcf]
      clear hcy hcf
      go_wp2_with fail
      refine (awake10_any _).mono ?_
      rintro e w6 ⟨rfl, hc6⟩
      have HC6 := Lib.hid (HC4.out.trans hc6 (by simp))
      clear hc6
      go_wp2
      go_ret
      exact ⟨rfl, HC6.out⟩
  · have hbf : (Plain.small8 g p turn same && decide (cy.length ≤ 60)) = false := by simpa using hb
    rw [hbf]
    clear hb hbf
    go_wp2_with fail
    refine (awake10_any _).mono ?_
    rintro e w4 ⟨rfl, hc4⟩
    have HC4 := Lib.hid (HC3.out.trans hc4 (by simp))
    clear hc4
    go_wp2
    go_ret
    exact ⟨rfl, HC4.out⟩
end Go.Proofs.Ytfgbkpbakignhaa
/- From what comes in, as it is read, to the plain words of this seat: a graph, a part, a plan. -/
namespace Go.Proofs.Ytfgbkpbakignhaa
open Go.ChangeShapes Go.WideShapes Go.ChangeAt Go.RowKit Go.Deep Go.Joins

section
variable {H : Type} {enc : TypeId × Value → H} {w : World} {base : Nat} {held : Bool}

theorem cellsInt : Try.prog.cellsOf 3 = 1 := by kernel_rfl
theorem cellsRow : Try.prog.cellsOf 25 = 1 := by kernel_rfl
theorem cellsEdge : Try.prog.cellsOf 42 = 2 := by kernel_rfl

/-- A []int that came in. -/
theorem ints_open {fuel : Nat} {u : Value} {x : DataW H × List MemPlace} (h : DataW.trod enc Try.prog w base (fun _ => true) held fuel 25 [u] = some x) : ∃ l, IntsAt w u l ∧ CapOk u := by
  rcases open_ints Try.underlying25 Try.underlying3 cellsInt h with ⟨hcs, _⟩ | ⟨a, len', cap', zs, hcs, _, hl, hm, hz, _, hcell, hwz⟩
  · simp at hcs
    subst hcs
    exact ⟨[], IntsAt.nil w, none, 0, 0, rfl, by decide, by decide⟩
  · simp at hcs
    subst hcs
    have hz' : zs.length = cap' := by simpa using hz
    have hlen : (zs.take len').length = len' := by simp; omega
    unfold maxLen at hm
    refine ⟨zs.take len', ⟨some a, cap', by rw [hlen], fun y hy => hwz y (List.mem_of_mem_take hy), by rw [hlen]; omega, fun hne => ?_⟩, some a, len', cap', rfl, hl, by omega⟩
    obtain ⟨b, off, rfl, hc⟩ := ints_at hcell (by
      rcases Nat.eq_zero_or_pos zs.length with q | q
      · rw [List.length_eq_zero_iff.1 q] at hne; simp at hne
      · exact q)
    refine ⟨b, off, rfl, fun i hi => ?_⟩
    rw [hlen] at hi
    rw [hc i (by omega)]
    simp [List.getD, hi]

/-- A [][]int that came in. -/
theorem rows_open {fuel : Nat} {u : Value} {x : DataW H × List MemPlace} (h : DataW.trod enc Try.prog w base (fun _ => true) held fuel 28 [u] = some x) : ∃ ll, RowsAt w u ll := by
  rcases open_slice Try.underlying28 h with ⟨hcs, _⟩ | ⟨a, len', cap', m, n, D, Pl, hcs, _, hl, hm, hmm, _, hx⟩
  · simp at hcs
    subst hcs
    exact ⟨[], none, 0, rfl, by decide, fun i hi => absurd hi (by simp)⟩
  · simp at hcs
    subst hcs
    simp only [if_true] at hmm
    subst hmm
    have each : ∀ i, i < m → ∃ l : List Int, ∃ u, w.cell? (a.add (i * 1)) = some u ∧ IntsAt w u l ∧ CapOk u := by
      intro i hi
      obtain ⟨cs', hc, ht⟩ := hx i hi
      rw [cellsRow] at hc
      obtain ⟨_, hlen, hat⟩ := World.cells?_some hc
      match cs', hlen with
      | [c0], _ =>
        obtain ⟨l, h1, h2⟩ := ints_open ht
        refine ⟨l, c0, ?_, h1, h2⟩
        have := hat 0 (by omega); rw [add_add] at this; simpa using this
    obtain ⟨f, hf⟩ := choose_lt each
    unfold maxLen at hm
    refine ⟨(List.range len').map f, some a, m, by simp, by simp; omega, fun i hi => ?_⟩
    have hi : i < len' := by simpa using hi
    obtain ⟨u, k0, k1, k2⟩ := hf i (by omega)
    obtain ⟨b, off, spot⟩ := a
    have hs : spot = none := by
      obtain ⟨u0, z0, -⟩ := hf 0 (by omega)
      have := World.cell?_spot z0
      simpa [Addr.add] using this
    subst hs
    refine ⟨b, off, u, rfl, ?_, k2, by simpa [List.getD, hi] using k1⟩
    have := k0
    rw [add_plain] at this
    simpa using this

set_option maxRecDepth 100000 in
/-- An api.Graph that came in. -/
theorem gr_open {r : Reach} {b0 : Nat} {v : Value} {d : DataW H} {p : List MemPlace} (hv : Value.okWide Try.prog w r b0 24 v) (h : DataW.Trod enc Try.prog w base (fun _ => true) held 24 v d p) : ∃ g, GrAt w v g := by
  obtain ⟨c0, c1, y0, y1, n, rfl, -, -, h0, h1⟩ := open_agg2 Try.underlying24 (by kernel_rfl) (by kernel_rfl) hv h
  obtain ⟨N, e0, _, w0⟩ := DataW.trod_int Try.underlying3 h0
  simp at e0
  subst e0
  rcases open_slice Try.underlying22 h1 with ⟨hcs, _⟩ | ⟨a, len', cap', m, n', D, Pl, hcs, _, hl, hm, hmm, _, hx⟩
  · simp at hcs
    subst hcs
    exact ⟨⟨N, []⟩, none, 0, rfl, w0, Nat.zero_le _, fun i hi => absurd hi (by simp), fun i hi => absurd hi (by simp)⟩
  · simp at hcs
    subst hcs
    simp only [if_true] at hmm
    subst hmm
    have each : ∀ i, i < m → ∃ y : Int × Int, (I64 y.1 ∧ I64 y.2) ∧ w.cell? (a.add (i * 2)) = some (.int .i64 y.1) ∧ w.cell? (a.add (i * 2 + 1)) = some (.int .i64 y.2) := by
      intro i hi
      obtain ⟨cs', hc, ht⟩ := hx i hi
      rw [cellsEdge] at hc
      obtain ⟨_, hlen, hat⟩ := World.cells?_some hc
      obtain ⟨y0, y1, n', _, _, k0, k1⟩ := trod_struct2 Try.underlying42 ht
      match cs', hlen with
      | [c0, c1], _ =>
        simp only [cellsInt, List.drop_zero, List.drop_succ_cons, List.take_succ_cons, List.take_zero] at k0 k1
        obtain ⟨x0, e0, _, q0⟩ := DataW.trod_int Try.underlying3 k0
        obtain ⟨x1, e1, _, q1⟩ := DataW.trod_int Try.underlying3 k1
        simp at e0 e1
        subst e0 e1
        refine ⟨(x0, x1), ⟨q0, q1⟩, ?_, ?_⟩
        · have := hat 0 (by omega); rw [add_add] at this; simpa using this
        · have := hat 1 (by omega); rw [add_add] at this; simpa using this
    obtain ⟨f, hf⟩ := choose_lt each
    unfold maxLen at hm
    have hg : ∀ i, i < len' → ((List.range len').map f).getD i (0, 0) = f i := fun i hi => by simp [List.getD, hi]
    refine ⟨⟨N, (List.range len').map f⟩, some a, m, by simp, w0, by simp; omega, fun i hi => ?_, fun i hi => ?_⟩
    · have hi : i < len' := by simpa using hi
      show I64 (((List.range len').map f).getD i (0, 0)).1 ∧ I64 (((List.range len').map f).getD i (0, 0)).2
      rw [hg i hi]
      exact (hf i (by omega)).1
    · have hi : i < len' := by simpa using hi
      obtain ⟨_, k0, k1⟩ := hf i (by omega)
      obtain ⟨b, off, spot⟩ := a
      have hs : spot = none := by
        have := World.cell?_spot (hf 0 (by omega)).2.1
        simpa [Addr.add] using this
      subst hs
      refine ⟨b, off, rfl, ?_, ?_⟩
      · show _ = some (Value.int .i64 (((List.range len').map f).getD i (0, 0)).1)
        rw [hg i hi, ← add_plain]; exact k0
      · show _ = some (Value.int .i64 (((List.range len').map f).getD i (0, 0)).2)
        rw [hg i hi, Nat.add_assoc, ← add_plain]; exact k1

set_option maxRecDepth 100000 in
/-- An api.Part that came in. -/
theorem pt_open {r : Reach} {b0 : Nat} {v : Value} {d : DataW H} {p : List MemPlace} (hv : Value.okWide Try.prog w r b0 27 v) (h : DataW.Trod enc Try.prog w base (fun _ => true) held 27 v d p) : ∃ g, PtAt w v g := by
  obtain ⟨c0, c1, y0, y1, n, rfl, -, -, h0, h1⟩ := open_agg2 Try.underlying27 (by kernel_rfl) (by kernel_rfl) hv h
  obtain ⟨l0, k0, -⟩ := ints_open h0
  obtain ⟨l1, k1, -⟩ := ints_open h1
  exact ⟨⟨l0, l1⟩, c0, c1, rfl, k0, k1⟩

set_option maxRecDepth 100000 in
/-- An api.Plan that came in. -/
theorem pl_open {r : Reach} {b0 : Nat} {v : Value} {d : DataW H} {p : List MemPlace} (hv : Value.okWide Try.prog w r b0 30 v) (h : DataW.Trod enc Try.prog w base (fun _ => true) held 30 v d p) : ∃ turn same, PlAt w v turn same := by
  obtain ⟨c0, c1, y0, y1, n, rfl, -, -, h0, h1⟩ := open_agg2 Try.underlying30 (by kernel_rfl) (by kernel_rfl) hv h
  obtain ⟨l0, k0⟩ := rows_open h0
  obtain ⟨l1, k1⟩ := rows_open h1
  exact ⟨l0, l1, c0, c1, rfl, k0, k1⟩
end
end Go.Proofs.Ytfgbkpbakignhaa
