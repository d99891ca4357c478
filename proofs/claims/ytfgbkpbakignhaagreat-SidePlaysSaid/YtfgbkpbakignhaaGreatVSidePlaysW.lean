/- the law SidePlays: the walk. Conditions: a graph, a part, a plan, a list of ints that lie in memory and read so; two ints. -/
import Derived.Test.YtfgbkpbakignhaaGreatVAwkT
import Derived.Test.YtfgbkpbakignhaaGreatVSmall10
import Derived.Test.YtfgbkpbakignhaaGreatVLefts
import Derived.Test.YtfgbkpbakignhaaGreatVRef8W
import Derived.Test.YtfgbkpbakignhaaGreatVSmall
import Derived.ProofKit
import Derived.OpenShut
import Derived.ChangeOld
import Derived.Deep.Strs
import Derived.Lib.SmallJoins
namespace Go.Proofs.YtfgbkpbakignhaaGreat
open Go.RowKit Go.Maps

namespace Plain
theorem vert_in {g : Gr} {p : Pt} {turn same : List (List Int)} {cy : List Int} (h : sideIs g p turn same cy = true) {v : Int} (hv : v ∈ p.v) : vertOk g p turn same cy v = true := by
 unfold vertOk
 rw [h, show (allV g p turn same cy v).isSome = true from von_some hv _]; rfl
theorem vert_out {g : Gr} {p : Pt} {turn same : List (List Int)} {cy : List Int} (h : sideIs g p turn same cy = true) {v : Int} (hv : v ∉ p.v) : vertOk g p turn same cy v = false ∧ vertV g p turn same cy v = 0 := by
 have hcy := (Bool.and_eq_true_iff.1 h).1
 have hpo := Pt.ok_of_err (cyc_split hcy).1
 have e : allV g p turn same cy v = none := by
  unfold allV von vside
  rw [List.take_length, List.take_length, if_neg (fun q => by
   obtain ⟨d, hd, rfl⟩ := List.mem_map.1 q
   exact hv (hpo.tail_mem (cyc_mem hcy hd)).1), if_neg hv]
 unfold vertOk vertV
 rw [e, h, if_pos rfl]
 exact ⟨rfl, rfl⟩
theorem edge_in' {g : Gr} {p : Pt} {turn same : List (List Int)} {cy : List Int} (h : sideIs g p turn same cy = true) {v : Int} (hv : v ∈ p.e) : edgeOk g p turn same cy v = true := by
 unfold edgeOk
 rw [h, show (allE g p turn same cy v).isSome = true from eon_some hv _]; rfl
theorem edge_out {g : Gr} {p : Pt} {turn same : List (List Int)} {cy : List Int} (h : sideIs g p turn same cy = true) {v : Int} (hv : v ∉ p.e) : edgeOk g p turn same cy v = false ∧ edgeV g p turn same cy v = 0 := by
 have hcy := (Bool.and_eq_true_iff.1 h).1
 have e : allE g p turn same cy v = none := by
  unfold allE eon eside
  rw [List.take_length, List.take_length, if_neg (fun q => by
   obtain ⟨d, hd, rfl⟩ := List.mem_map.1 q
   exact hv (mem_darts.1 (cyc_mem hcy hd))), if_neg hv]
 unfold edgeOk edgeV
 rw [e, h, if_pos rfl]
 exact ⟨rfl, rfl⟩
theorem side_no {g : Gr} {p : Pt} {turn same : List (List Int)} {cy : List Int} (h : sideIs g p turn same cy = false) (v : Int) : vertOk g p turn same cy v = false ∧ vertV g p turn same cy v = 0 ∧ edgeOk g p turn same cy v = false ∧ edgeV g p turn same cy v = 0 := by
 unfold vertOk vertV edgeOk edgeV
 rw [h]
 exact ⟨rfl, rfl, rfl, rfl⟩
theorem small8_edges {g : Gr} {p : Pt} {turn same : List (List Int)} (h : small8 g p turn same = true) : g.e.length ≤ 60 := by
 unfold small8 small6 small4 at h
 simp only [Bool.and_eq_true] at h
 obtain ⟨⟨⟨⟨h4, h5⟩, h6⟩, h7⟩, h8⟩ := h
 exact of_decide_eq_true h4.1.1.1
end Plain

set_option maxRecDepth 100000 in
set_option maxHeartbeats 8000000 in
theorem sidePlays_any (vg vp vx vc : Value) (g : Plain.Gr) (p : Plain.Pt) (turn same : List (List Int)) (cy : List Int) (v e : Int) (w : World) (hg : GrAt w vg g) (hp : PtAt w vp p) (hx : PlAt w vx turn same) (hcy : IntsAt w vc cy) (iv : I64 v) (ie : I64 e) :
  Calls Tryz.prog 3 #[vg, vp, vx, vc, .int .i64 v, .int .i64 e] w fun r w' => r = .returned (.bool true) ∧ Chg [] w w' := by
 have HCC := Lib.hid hcy
 obtain ⟨co, cc, rfl, hci, hcm, -⟩ := hcy
 clear hci
 have HG := Lib.hid hg
 have HP := Lib.hid hp
 have HX := Lib.hid hx
 obtain ⟨eo, cap, rfl, hn, hm, hsm, hcell⟩ := hg
 obtain ⟨v1, v2, rfl, hv, he⟩ := hp
 obtain ⟨ao, ac, rfl, has, ham, hacell⟩ := hv
 obtain ⟨bo, bc, rfl, hbs, hbm, hbcell⟩ := he
 have HAC := Lib.hid hacell
 have HBC := Lib.hid hbcell
 obtain ⟨t1, t2, rfl, ht, hs⟩ := hx
 have HT := Lib.hid ht
 have HS := Lib.hid hs
 obtain ⟨tno, tc, rfl, htm, -⟩ := ht
 obtain ⟨so, sc, rfl, hsm2, hsc⟩ := hs
 obtain ⟨-, -, hc1⟩ := box_two w #[.int .i64 g.n, .slice eo g.e.length cap] #[.slice ao p.v.length ac, .slice bo p.e.length bc] 24 27
 obtain ⟨-, hc3⟩ := box_three w #[.int .i64 g.n, .slice eo g.e.length cap] #[.slice ao p.v.length ac, .slice bo p.e.length bc] #[.slice tno turn.length tc, .slice so same.length sc] 24 27 30
 have HC1 := Lib.hid (hc1.trans hc3 (by simp))
 have HBXS := Lib.hid (fun w2 h => three_boxes w (g := g) (p := p) (turn := turn) (same := same) (eo := eo) (ao := ao) (bo := bo) (tno := tno) (so := so) (cap := cap) (ac := ac) (bc := bc) (tc := tc) (sc := sc) (w2 := w2) h)
 clear hcell hacell hbcell hsm hbs has hn hc1 hc3 hsc
 have HPEI := Lib.hid (show IntsAt w (.slice bo p.e.length bc) p.e by obtain ⟨v1, v2, e, -, he⟩ := HP.out; cases e; exact he)
 have HPVI := Lib.hid (show IntsAt w (.slice ao p.v.length ac) p.v by obtain ⟨v1, v2, e, hv, -⟩ := HP.out; cases e; exact hv)
 go_enter Tryz.func3, Tryz.ntmps3
 go_wp2_with fail
 refine (awake10_any _).mono ?_
 rintro r w2 ⟨rfl, hc2⟩
 obtain ⟨x0, x1, y0, y1, z0, z1, hsz⟩ := HBXS.out w2 hc2
 have HC2 := Lib.hid (HC1.out.trans hc2 (by simp))
 have HC2B := Lib.hid hc2
 clear hc2
 go_wp2_with fail
 refine (small10_any _ _ _ _ g p turn same cy _ (HG.out.fresh HC2.out) (HP.out.fresh HC2.out) (HX.out.fresh HC2.out) (HCC.out.fresh HC2.out)).mono ?_
 rintro r w3 ⟨rfl, hc3⟩
 have HC3 := Lib.hid (HC2.out.trans hc3 (by simp))
 have HC3B := Lib.hid (HC2B.out.trans hc3 (by simp))
 clear x0 x1 y0 y1 z0 z1 hsz hc3
 by_cases hb : (Plain.small8 g p turn same && decide (cy.length ≤ 60)) = true
 ·obtain ⟨hb8, hb60⟩ := Bool.and_eq_true_iff.1 hb
  obtain ⟨b1, b2, b3, b4, b5, b6⟩ := Plain.small8_is hb8
  have b7 := Plain.small8_edges hb8
  have b60 := of_decide_eq_true hb60
  have HB4 := Lib.hid b4
  have HB6 := Lib.hid (fun i => Nat.le_trans (b6 i) (by omega : 60 ≤ 10000))
  have HRL := Lib.hid (fun v => Nat.lt_of_le_of_lt (Plain.small8_rows hb8 v) (by decide : 200 < 4294967296))
  rw [hb]
  obtain ⟨x0, x1, y0, y1, z0, z1, hsz⟩ := HBXS.out w3 HC3B.out
  clear hb hb8 hb60 b4 b6
  go_wp2_with fail
  refine (vertex_any _ _ _ _ g p turn same cy v _ (by omega) (by omega) (by omega) (by have := HB4.out; omega) (by omega) HB6.out (by omega) iv (HG.out.fresh HC3.out) (HP.out.fresh HC3.out) (HX.out.fresh HC3.out) (HCC.out.fresh HC3.out)).mono ?_
  rintro r w4 ⟨rfl, hcx⟩
  have HC4 := Lib.hid (HC3.out.trans hcx (by simp))
  have HC4B := Lib.hid (HC3B.out.trans hcx (by simp))
  clear x0 x1 y0 y1 z0 z1 hsz hcx
  obtain ⟨x0, x1, y0, y1, z0, z1, hsz⟩ := HBXS.out w4 HC4B.out
  obtain ⟨a, ha⟩ : ∃ a, Plain.vertV g p turn same cy v = a := ⟨_, rfl⟩
  obtain ⟨ok, hok⟩ : ∃ ok, Plain.vertOk g p turn same cy v = ok := ⟨_, rfl⟩
  rw [ha, hok]
  have HAV := Lib.hid ha
  have HAO := Lib.hid hok
  clear ha hok
  go_wp2_with fail
  refine (edge_any _ _ _ _ g p turn same cy e _ (by omega) (by omega) (by omega) (by have := HB4.out; omega) (by omega) HB6.out (by omega) ie (HG.out.fresh HC4.out) (HP.out.fresh HC4.out) (HX.out.fresh HC4.out) (HCC.out.fresh HC4.out)).mono ?_
  rintro r w5 ⟨rfl, hcx⟩
  have HC5 := Lib.hid (HC4.out.trans hcx (by simp))
  have HC5B := Lib.hid (HC4B.out.trans hcx (by simp))
  clear x0 x1 y0 y1 z0 z1 hsz hcx
  obtain ⟨x0, x1, y0, y1, z0, z1, hsz⟩ := HBXS.out w5 HC5B.out
  obtain ⟨b, hb⟩ : ∃ b, Plain.edgeV g p turn same cy e = b := ⟨_, rfl⟩
  obtain ⟨is, his⟩ : ∃ is, Plain.edgeOk g p turn same cy e = is := ⟨_, rfl⟩
  rw [hb, his]
  have HBV := Lib.hid hb
  have HBO := Lib.hid his
  clear hb his
  go_wp2_with fail
  refine (refCycle_any _ _ _ g p cy _ (by omega) (by omega) (by omega) (by omega) (HG.out.fresh HC5.out) (HP.out.fresh HC5.out) (HCC.out.fresh HC5.out)).mono ?_
  rintro r w6 ⟨rfl, hcx⟩
  have HC6 := Lib.hid (HC5.out.trans hcx (by simp))
  have HC6B := Lib.hid (HC5B.out.trans hcx (by simp))
  clear x0 x1 y0 y1 z0 z1 hsz hcx
  obtain ⟨x0, x1, y0, y1, z0, z1, hsz⟩ := HBXS.out w6 HC6B.out
  go_wp2_with fail
  refine (cycle_any _ _ _ g p cy _ (by omega) (by omega) (by omega) (HG.out.fresh HC6.out) (HP.out.fresh HC6.out) (HCC.out.fresh HC6.out)).mono ?_
  rintro r w7 ⟨rfl, hcx⟩
  have HC7 := Lib.hid (HC6.out.trans hcx (by simp))
  have HC7B := Lib.hid (HC6B.out.trans hcx (by simp))
  clear x0 x1 y0 y1 z0 z1 hsz hcx
  obtain ⟨x0, x1, y0, y1, z0, z1, hsz⟩ := HBXS.out w7 HC7B.out
  have HNO := Lib.hid (fun (h : Plain.sideIs g p turn same cy = false) => (show ok = false ∧ a = 0 ∧ is = false ∧ b = 0 from by
   have h1 := Plain.side_no h v
   have h2 := Plain.side_no h e
   rw [HAO.out, HAV.out] at h1
   rw [HBO.out, HBV.out] at h2
   exact ⟨h1.1, h1.2.1, h2.2.2.1, h2.2.2.2⟩))
  by_cases hcy : Plain.cycOk g p cy = true
  ·rw [hcy]
   have HCY := Lib.hid hcy
   clear hcy
   go_wp2_with fail
   refine (refRight8_any _ _ _ g p turn same _ (by omega) (by omega) (by omega) HRL.out (by omega) HB6.out (HG.out.fresh HC7.out) (HP.out.fresh HC7.out) (HX.out.fresh HC7.out)).mono ?_
   rintro r w8 ⟨rfl, hcx⟩
   have HC8 := Lib.hid (HC7.out.trans hcx (by simp))
   have HC8B := Lib.hid (HC7B.out.trans hcx (by simp))
   clear x0 x1 y0 y1 z0 z1 hsz hcx
   obtain ⟨x0, x1, y0, y1, z0, z1, hsz⟩ := HBXS.out w8 HC8B.out
   by_cases hz : Plain.planErr g p turn same = 0
   ·have HK := Lib.hid (show Plain.sideIs g p turn same cy = true by unfold Plain.sideIs; rw [HCY.out, decide_eq_true hz]; rfl)
    rw [hz]
    clear hz
    by_cases hv : v ∈ p.v
    ·have HVIN := Lib.hid hv
     have hok : ok = true := HAO.out.symm.trans (Plain.vert_in HK.out hv)
     subst hok
     clear hv
     by_cases he : e ∈ p.e
     ·have HEIN := Lib.hid he
      have his : is = true := HBO.out.symm.trans (Plain.edge_in' HK.out he)
      subst his
      clear he
      go_wp2_with fail
      refine (in_any _ p.v v _ (HPVI.out.fresh HC8.out)).mono ?_
      rintro r w9 ⟨rfl, hcx⟩
      have HC9 := Lib.hid (HC8.out.trans hcx (by simp))
      have HC9B := Lib.hid (HC8B.out.trans hcx (by simp))
      clear x0 x1 y0 y1 z0 z1 hsz hcx
      obtain ⟨x0, x1, y0, y1, z0, z1, hsz⟩ := HBXS.out w9 HC9B.out
      rw [decide_eq_true HVIN.out]
      go_wp2_with fail
      refine (in_any _ p.e e _ (HPEI.out.fresh HC9.out)).mono ?_
      rintro r w10 ⟨rfl, hcx⟩
      have HC10 := Lib.hid (HC9.out.trans hcx (by simp))
      have HC10B := Lib.hid (HC9B.out.trans hcx (by simp))
      clear x0 x1 y0 y1 z0 z1 hsz hcx
      obtain ⟨x0, x1, y0, y1, z0, z1, hsz⟩ := HBXS.out w10 HC10B.out
      rw [decide_eq_true HEIN.out]
      have baa : (a == a) = true := by simp
      go_wp2_with fail
      refine (refVertex_any _ _ _ _ g p turn same cy v _ (by omega) (by omega) HRL.out (by omega) HK.out (by omega) HVIN.out (HG.out.fresh HC10.out) (HP.out.fresh HC10.out) (HX.out.fresh HC10.out) (HCC.out.fresh HC10.out)).mono ?_
      rintro r w11 ⟨rfl, hcx⟩
      have HC11 := Lib.hid (HC10.out.trans hcx (by simp))
      have HC11B := Lib.hid (HC10B.out.trans hcx (by simp))
      clear x0 x1 y0 y1 z0 z1 hsz hcx
      obtain ⟨x0, x1, y0, y1, z0, z1, hsz⟩ := HBXS.out w11 HC11B.out
      rw [HAV.out]
      have bbb : (b == b) = true := by simp
      go_wp2_with fail
      refine (refEdge_any _ _ _ _ g p turn same cy e _ (by omega) (by omega) HRL.out (by omega) HK.out (by omega) HEIN.out (HG.out.fresh HC11.out) (HP.out.fresh HC11.out) (HX.out.fresh HC11.out) (HCC.out.fresh HC11.out)).mono ?_
      rintro r w12 ⟨rfl, hcx⟩
      have HC12 := Lib.hid (HC11.out.trans hcx (by simp))
      have HC12B := Lib.hid (HC11B.out.trans hcx (by simp))
      clear x0 x1 y0 y1 z0 z1 hsz hcx
      obtain ⟨x0, x1, y0, y1, z0, z1, hsz⟩ := HBXS.out w12 HC12B.out
      rw [HBV.out]
      clear x0 x1 y0 y1 z0 z1 hsz
      go_wp2
      go_ret
      exact ⟨rfl, HC12.out⟩
     ·have HEIN := Lib.hid he
      have heo := Plain.edge_out HK.out he
      have his : is = false := HBO.out.symm.trans heo.1
      have hb0 : b = 0 := HBV.out.symm.trans heo.2
      subst his hb0
      clear he heo
      go_wp2_with fail
      refine (in_any _ p.v v _ (HPVI.out.fresh HC8.out)).mono ?_
      rintro r w9 ⟨rfl, hcx⟩
      have HC9 := Lib.hid (HC8.out.trans hcx (by simp))
      have HC9B := Lib.hid (HC8B.out.trans hcx (by simp))
      clear x0 x1 y0 y1 z0 z1 hsz hcx
      obtain ⟨x0, x1, y0, y1, z0, z1, hsz⟩ := HBXS.out w9 HC9B.out
      rw [decide_eq_true HVIN.out]
      go_wp2_with fail
      refine (in_any _ p.e e _ (HPEI.out.fresh HC9.out)).mono ?_
      rintro r w10 ⟨rfl, hcx⟩
      have HC10 := Lib.hid (HC9.out.trans hcx (by simp))
      have HC10B := Lib.hid (HC9B.out.trans hcx (by simp))
      clear x0 x1 y0 y1 z0 z1 hsz hcx
      obtain ⟨x0, x1, y0, y1, z0, z1, hsz⟩ := HBXS.out w10 HC10B.out
      rw [decide_eq_false HEIN.out]
      have baa : (a == a) = true := by simp
      go_wp2_with fail
      refine (refVertex_any _ _ _ _ g p turn same cy v _ (by omega) (by omega) HRL.out (by omega) HK.out (by omega) HVIN.out (HG.out.fresh HC10.out) (HP.out.fresh HC10.out) (HX.out.fresh HC10.out) (HCC.out.fresh HC10.out)).mono ?_
      rintro r w11 ⟨rfl, hcx⟩
      have HC11 := Lib.hid (HC10.out.trans hcx (by simp))
      have HC11B := Lib.hid (HC10B.out.trans hcx (by simp))
      clear x0 x1 y0 y1 z0 z1 hsz hcx
      obtain ⟨x0, x1, y0, y1, z0, z1, hsz⟩ := HBXS.out w11 HC11B.out
      rw [HAV.out]
      clear x0 x1 y0 y1 z0 z1 hsz
      go_wp2
      go_ret
      exact ⟨rfl, HC11.out⟩
    ·have HVIN := Lib.hid hv
     have hvo := Plain.vert_out HK.out hv
     have hok : ok = false := HAO.out.symm.trans hvo.1
     have ha0 : a = 0 := HAV.out.symm.trans hvo.2
     subst hok ha0
     clear hv hvo
     by_cases he : e ∈ p.e
     ·have HEIN := Lib.hid he
      have his : is = true := HBO.out.symm.trans (Plain.edge_in' HK.out he)
      subst his
      clear he
      go_wp2_with fail
      refine (in_any _ p.v v _ (HPVI.out.fresh HC8.out)).mono ?_
      rintro r w9 ⟨rfl, hcx⟩
      have HC9 := Lib.hid (HC8.out.trans hcx (by simp))
      have HC9B := Lib.hid (HC8B.out.trans hcx (by simp))
      clear x0 x1 y0 y1 z0 z1 hsz hcx
      obtain ⟨x0, x1, y0, y1, z0, z1, hsz⟩ := HBXS.out w9 HC9B.out
      rw [decide_eq_false HVIN.out]
      go_wp2_with fail
      refine (in_any _ p.e e _ (HPEI.out.fresh HC9.out)).mono ?_
      rintro r w10 ⟨rfl, hcx⟩
      have HC10 := Lib.hid (HC9.out.trans hcx (by simp))
      have HC10B := Lib.hid (HC9B.out.trans hcx (by simp))
      clear x0 x1 y0 y1 z0 z1 hsz hcx
      obtain ⟨x0, x1, y0, y1, z0, z1, hsz⟩ := HBXS.out w10 HC10B.out
      rw [decide_eq_true HEIN.out]
      have bbb : (b == b) = true := by simp
      go_wp2_with fail
      refine (refEdge_any _ _ _ _ g p turn same cy e _ (by omega) (by omega) HRL.out (by omega) HK.out (by omega) HEIN.out (HG.out.fresh HC10.out) (HP.out.fresh HC10.out) (HX.out.fresh HC10.out) (HCC.out.fresh HC10.out)).mono ?_
      rintro r w11 ⟨rfl, hcx⟩
      have HC11 := Lib.hid (HC10.out.trans hcx (by simp))
      have HC11B := Lib.hid (HC10B.out.trans hcx (by simp))
      clear x0 x1 y0 y1 z0 z1 hsz hcx
      obtain ⟨x0, x1, y0, y1, z0, z1, hsz⟩ := HBXS.out w11 HC11B.out
      rw [HBV.out]
      clear x0 x1 y0 y1 z0 z1 hsz
      go_wp2
      go_ret
      exact ⟨rfl, HC11.out⟩
     ·have HEIN := Lib.hid he
      have heo := Plain.edge_out HK.out he
      have his : is = false := HBO.out.symm.trans heo.1
      have hb0 : b = 0 := HBV.out.symm.trans heo.2
      subst his hb0
      clear he heo
      go_wp2_with fail
      refine (in_any _ p.v v _ (HPVI.out.fresh HC8.out)).mono ?_
      rintro r w9 ⟨rfl, hcx⟩
      have HC9 := Lib.hid (HC8.out.trans hcx (by simp))
      have HC9B := Lib.hid (HC8B.out.trans hcx (by simp))
      clear x0 x1 y0 y1 z0 z1 hsz hcx
      obtain ⟨x0, x1, y0, y1, z0, z1, hsz⟩ := HBXS.out w9 HC9B.out
      rw [decide_eq_false HVIN.out]
      go_wp2_with fail
      refine (in_any _ p.e e _ (HPEI.out.fresh HC9.out)).mono ?_
      rintro r w10 ⟨rfl, hcx⟩
      have HC10 := Lib.hid (HC9.out.trans hcx (by simp))
      have HC10B := Lib.hid (HC9B.out.trans hcx (by simp))
      clear x0 x1 y0 y1 z0 z1 hsz hcx
      obtain ⟨x0, x1, y0, y1, z0, z1, hsz⟩ := HBXS.out w10 HC10B.out
      rw [decide_eq_false HEIN.out]
      clear x0 x1 y0 y1 z0 z1 hsz
      go_wp2
      go_ret
      exact ⟨rfl, HC10.out⟩
   ·have hsf : Plain.sideIs g p turn same cy = false := by unfold Plain.sideIs; rw [HCY.out, decide_eq_false hz]; rfl
    obtain ⟨rfl, rfl, rfl, rfl⟩ := HNO.out hsf
    have hnb : (Plain.planErr g p turn same != 0) = true := by simp only [bne_iff_ne]; exact hz
    obtain ⟨er, her⟩ : ∃ er, Plain.planErr g p turn same = er := ⟨_, rfl⟩
    rw [her] at hnb ⊢
    clear x0 x1 y0 y1 z0 z1 hsz hz her hsf
    go_wp2
    go_ret
    exact ⟨rfl, HC8.out⟩
  ·have hcf : Plain.cycOk g p cy = false := by simpa using hcy
   obtain ⟨rfl, rfl, rfl, rfl⟩ := HNO.out (by unfold Plain.sideIs; rw [hcf]; rfl)
   rw [hcf]
   clear x0 x1 y0 y1 z0 z1 hsz hcy hcf
   go_wp2
   go_ret
   exact ⟨rfl, HC7.out⟩
 ·have hbf : (Plain.small8 g p turn same && decide (cy.length ≤ 60)) = false := by simpa using hb
  rw [hbf]
  clear hb hbf
  go_wp2_with fail
  refine (awake10_any _).mono ?_
  rintro r w4 ⟨rfl, hc4⟩
  have HC4 := Lib.hid (HC3.out.trans hc4 (by simp))
  clear hc4
  go_wp2
  go_ret
  exact ⟨rfl, HC4.out⟩
end Go.Proofs.YtfgbkpbakignhaaGreat
/- From what comes in, as it is read, to the plain words of this seat: a graph, a part, a plan. -/
namespace Go.Proofs.YtfgbkpbakignhaaGreat
open Go.ChangeShapes Go.WideShapes Go.ChangeAt Go.RowKit Go.Deep Go.Joins

section
variable {H : Type} {enc : TypeId × Value → H} {w : World} {base : Nat} {held : Bool}

theorem cellsInt : Tryz.prog.cellsOf 3 = 1 := by kernel_rfl
theorem cellsRow : Tryz.prog.cellsOf 25 = 1 := by kernel_rfl
theorem cellsEdge : Tryz.prog.cellsOf 49 = 2 := by kernel_rfl

theorem ints_open {fuel : Nat} {u : Value} {x : DataW H × List MemPlace} (h : DataW.trod enc Tryz.prog w base (fun _ => true) held fuel 25 [u] = some x) : ∃ l, IntsAt w u l ∧ CapOk u := by
 rcases open_ints Tryz.underlying25 Tryz.underlying3 cellsInt h with ⟨hcs, _⟩ | ⟨a, len', cap', zs, hcs, _, hl, hm, hz, _, hcell, hwz⟩
 ·simp at hcs
  subst hcs
  exact ⟨[], IntsAt.nil w, none, 0, 0, rfl, by decide, by decide⟩
 ·simp at hcs
  subst hcs
  have hz' : zs.length = cap' := by simpa using hz
  have hlen : (zs.take len').length = len' := by simp; omega
  unfold maxLen at hm
  refine ⟨zs.take len', ⟨some a, cap', by rw [hlen], fun y hy => hwz y (List.mem_of_mem_take hy), by rw [hlen]; omega, fun hne => ?_⟩, some a, len', cap', rfl, hl, by omega⟩
  obtain ⟨b, off, rfl, hc⟩ := ints_at hcell (by
   rcases Nat.eq_zero_or_pos zs.length with q | q
   ·rw [List.length_eq_zero_iff.1 q] at hne; simp at hne
   ·exact q)
  refine ⟨b, off, rfl, fun i hi => ?_⟩
  rw [hlen] at hi
  rw [hc i (by omega)]
  simp [List.getD, hi]

theorem rows_open {fuel : Nat} {u : Value} {x : DataW H × List MemPlace} (h : DataW.trod enc Tryz.prog w base (fun _ => true) held fuel 28 [u] = some x) : ∃ ll, RowsAt w u ll := by
 rcases open_slice Tryz.underlying28 h with ⟨hcs, _⟩ | ⟨a, len', cap', m, n, D, Pl, hcs, _, hl, hm, hmm, _, hx⟩
 ·simp at hcs
  subst hcs
  exact ⟨[], none, 0, rfl, by decide, fun i hi => absurd hi (by simp)⟩
 ·simp at hcs
  subst hcs
  simp only [if_true] at hmm
  subst hmm
  have each : ∀ i, i < m → ∃ l : List Int, ∃ u, w.cell? (a.add (i * 1)) = some u ∧ IntsAt w u l ∧ CapOk u := by
   intro i hi
   obtain ⟨cs', hc, ht⟩ := hx i hi
   rw [cellsRow] at hc
   obtain ⟨_, hlen, hat⟩ := World.cells?_some hc
   match cs', hlen with
   | [c0], _ =>
    obtain ⟨l, h1, h2⟩ := ints_open ht
    refine ⟨l, c0, ?_, h1, h2⟩
    have := hat 0 (by omega); rw [add_add] at this; simpa using this
  obtain ⟨f, hf⟩ := choose_lt each
  unfold maxLen at hm
  refine ⟨(List.range len').map f, some a, m, by simp, by simp; omega, fun i hi => ?_⟩
  have hi : i < len' := by simpa using hi
  obtain ⟨u, k0, k1, k2⟩ := hf i (by omega)
  obtain ⟨b, off, spot⟩ := a
  have hs : spot = none := by
   obtain ⟨u0, z0, -⟩ := hf 0 (by omega)
   have := World.cell?_spot z0
   simpa [Addr.add] using this
  subst hs
  refine ⟨b, off, u, rfl, ?_, k2, by simpa [List.getD, hi] using k1⟩
  have := k0
  rw [add_plain] at this
  simpa using this

set_option maxRecDepth 100000 in
theorem gr_open {r : Reach} {b0 : Nat} {v : Value} {d : DataW H} {p : List MemPlace} (hv : Value.okWide Tryz.prog w r b0 24 v) (h : DataW.Trod enc Tryz.prog w base (fun _ => true) held 24 v d p) : ∃ g, GrAt w v g := by
 obtain ⟨c0, c1, y0, y1, n, rfl, -, -, h0, h1⟩ := open_agg2 Tryz.underlying24 (by kernel_rfl) (by kernel_rfl) hv h
 obtain ⟨N, e0, _, w0⟩ := DataW.trod_int Tryz.underlying3 h0
 simp at e0
 subst e0
 rcases open_slice Tryz.underlying22 h1 with ⟨hcs, _⟩ | ⟨a, len', cap', m, n', D, Pl, hcs, _, hl, hm, hmm, _, hx⟩
 ·simp at hcs
  subst hcs
  exact ⟨⟨N, []⟩, none, 0, rfl, w0, Nat.zero_le _, fun i hi => absurd hi (by simp), fun i hi => absurd hi (by simp)⟩
 ·simp at hcs
  subst hcs
  simp only [if_true] at hmm
  subst hmm
  have each : ∀ i, i < m → ∃ y : Int × Int, (I64 y.1 ∧ I64 y.2) ∧ w.cell? (a.add (i * 2)) = some (.int .i64 y.1) ∧ w.cell? (a.add (i * 2 + 1)) = some (.int .i64 y.2) := by
   intro i hi
   obtain ⟨cs', hc, ht⟩ := hx i hi
   rw [cellsEdge] at hc
   obtain ⟨_, hlen, hat⟩ := World.cells?_some hc
   obtain ⟨y0, y1, n', _, _, k0, k1⟩ := trod_struct2 Tryz.underlying49 ht
   match cs', hlen with
   | [c0, c1], _ =>
    simp only [cellsInt, List.drop_zero, List.drop_succ_cons, List.take_succ_cons, List.take_zero] at k0 k1
    obtain ⟨x0, e0, _, q0⟩ := DataW.trod_int Tryz.underlying3 k0
    obtain ⟨x1, e1, _, q1⟩ := DataW.trod_int Tryz.underlying3 k1
    simp at e0 e1
    subst e0 e1
    refine ⟨(x0, x1), ⟨q0, q1⟩, ?_, ?_⟩
    ·have := hat 0 (by omega); rw [add_add] at this; simpa using this
    ·have := hat 1 (by omega); rw [add_add] at this; simpa using this
  obtain ⟨f, hf⟩ := choose_lt each
  unfold maxLen at hm
  have hg : ∀ i, i < len' → ((List.range len').map f).getD i (0, 0) = f i := fun i hi => by simp [List.getD, hi]
  refine ⟨⟨N, (List.range len').map f⟩, some a, m, by simp, w0, by simp; omega, fun i hi => ?_, fun i hi => ?_⟩
  ·have hi : i < len' := by simpa using hi
   show I64 (((List.range len').map f).getD i (0, 0)).1 ∧ I64 (((List.range len').map f).getD i (0, 0)).2
   rw [hg i hi]
   exact (hf i (by omega)).1
  ·have hi : i < len' := by simpa using hi
   obtain ⟨_, k0, k1⟩ := hf i (by omega)
   obtain ⟨b, off, spot⟩ := a
   have hs : spot = none := by
    have := World.cell?_spot (hf 0 (by omega)).2.1
    simpa [Addr.add] using this
   subst hs
   refine ⟨b, off, rfl, ?_, ?_⟩
   ·show _ = some (Value.int .i64 (((List.range len').map f).getD i (0, 0)).1)
    rw [hg i hi, ← add_plain]; exact k0
   ·show _ = some (Value.int .i64 (((List.range len').map f).getD i (0, 0)).2)
    rw [hg i hi, Nat.add_assoc, ← add_plain]; exact k1

set_option maxRecDepth 100000 in
theorem pt_open {r : Reach} {b0 : Nat} {v : Value} {d : DataW H} {p : List MemPlace} (hv : Value.okWide Tryz.prog w r b0 27 v) (h : DataW.Trod enc Tryz.prog w base (fun _ => true) held 27 v d p) : ∃ g, PtAt w v g := by
 obtain ⟨c0, c1, y0, y1, n, rfl, -, -, h0, h1⟩ := open_agg2 Tryz.underlying27 (by kernel_rfl) (by kernel_rfl) hv h
 obtain ⟨l0, k0, -⟩ := ints_open h0
 obtain ⟨l1, k1, -⟩ := ints_open h1
 exact ⟨⟨l0, l1⟩, c0, c1, rfl, k0, k1⟩

set_option maxRecDepth 100000 in
theorem pl_open {r : Reach} {b0 : Nat} {v : Value} {d : DataW H} {p : List MemPlace} (hv : Value.okWide Tryz.prog w r b0 30 v) (h : DataW.Trod enc Tryz.prog w base (fun _ => true) held 30 v d p) : ∃ turn same, PlAt w v turn same := by
 obtain ⟨c0, c1, y0, y1, n, rfl, -, -, h0, h1⟩ := open_agg2 Tryz.underlying30 (by kernel_rfl) (by kernel_rfl) hv h
 obtain ⟨l0, k0⟩ := rows_open h0
 obtain ⟨l1, k1⟩ := rows_open h1
 exact ⟨l0, l1, c0, c1, rfl, k0, k1⟩
end
end Go.Proofs.YtfgbkpbakignhaaGreat
