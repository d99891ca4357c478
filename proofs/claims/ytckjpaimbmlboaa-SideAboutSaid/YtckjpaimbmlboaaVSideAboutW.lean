/- the law SideAbout: the walk. Conditions: a graph, a part, a plan, a list of ints that lie in memory and read so. -/
import Derived.Test.YtckjpaimbmlboaaVPlanMirrorW
namespace Go.Proofs.Ytckjpaimbmlboaa
open Go.RowKit Go.Maps
namespace Plain
theorem abt_law {g : Gr} {p : Pt} {turn same : List (List Int)} {cy : List Int} (hz : planErr g p turn same = 0) (h : cycOk g p cy = true) (v : Int) :
  vertOk g p turn same (abt cy) v = vertOk g p turn same cy v ∧ vertOk g p (mirTurn turn) (mirSame g p turn same) cy v = vertOk g p turn same cy v ∧
  (vertOk g p turn same cy v = true → (vertV g p turn same cy v + vertV g p turn same (abt cy) v = 3 ∨ vertV g p turn same cy v + vertV g p turn same (abt cy) v = 0) ∧ vertV g p (mirTurn turn) (mirSame g p turn same) cy v = vertV g p turn same (abt cy) v) := by
 have i1 : sideIs g p turn same cy = true := by unfold sideIs; rw [h, decide_eq_true hz]; rfl
 have i2 : sideIs g p turn same (abt cy) = true := by unfold sideIs; rw [abt_cyc h, decide_eq_true hz]; rfl
 have i3 : sideIs g p (mirTurn turn) (mirSame g p turn same) cy = true := by unfold sideIs; rw [h, decide_eq_true (mir_right hz)]; rfl
 unfold vertOk vertV
 rw [i1, i2, i3, if_pos rfl, if_pos rfl, if_pos rfl]
 exact abt_vert hz h v
theorem abt_lawE {g : Gr} {p : Pt} {turn same : List (List Int)} {cy : List Int} (hz : planErr g p turn same = 0) (h : cycOk g p cy = true) (v : Int) :
  edgeOk g p turn same (abt cy) v = edgeOk g p turn same cy v ∧ edgeOk g p (mirTurn turn) (mirSame g p turn same) cy v = edgeOk g p turn same cy v ∧
  (edgeOk g p turn same cy v = true → (edgeV g p turn same cy v + edgeV g p turn same (abt cy) v = 3 ∨ edgeV g p turn same cy v + edgeV g p turn same (abt cy) v = 0) ∧ edgeV g p (mirTurn turn) (mirSame g p turn same) cy v = edgeV g p turn same (abt cy) v) := by
 have i1 : sideIs g p turn same cy = true := by unfold sideIs; rw [h, decide_eq_true hz]; rfl
 have i2 : sideIs g p turn same (abt cy) = true := by unfold sideIs; rw [abt_cyc h, decide_eq_true hz]; rfl
 have i3 : sideIs g p (mirTurn turn) (mirSame g p turn same) cy = true := by unfold sideIs; rw [h, decide_eq_true (mir_right hz)]; rfl
 unfold edgeOk edgeV
 rw [i1, i2, i3, if_pos rfl, if_pos rfl, if_pos rfl]
 exact abt_edge hz h v
theorem vert_no {g : Gr} {p : Pt} {turn same : List (List Int)} (hz : ¬ planErr g p turn same = 0) (cy : List Int) (v : Int) : vertOk g p turn same cy v = false := by
 unfold vertOk sideIs
 rw [decide_eq_false hz]; simp
end Plain
set_option maxRecDepth 100000 in
set_option maxHeartbeats 8000000 in
theorem sideAbout_any (vg vp vx vc : Value) (g : Plain.Gr) (p : Plain.Pt) (turn same : List (List Int)) (cy : List Int) (v e : Int) (w : World) (hg : GrAt w vg g) (hp : PtAt w vp p) (hx : PlAt w vx turn same) (hcy : IntsAt w vc cy) (iv : I64 v) (ie : I64 e) :
  Calls Try.prog 4 #[vg, vp, vx, vc, .int .i64 v, .int .i64 e] w fun e w' => e = .returned (.bool true) ∧ Chg [] w w' := by
 have HCC := Lib.hid hcy
 obtain ⟨co, cc, rfl, hci, hcm, -⟩ := hcy
 clear hci hcm
 have HG := Lib.hid hg
 have HP := Lib.hid hp
 have HX := Lib.hid hx
 obtain ⟨eo, cap, rfl, hn, hm, hsm, hcell⟩ := hg
 obtain ⟨v1, v2, rfl, hv, he⟩ := hp
 obtain ⟨ao, ac, rfl, has, ham, hacell⟩ := hv
 obtain ⟨bo, bc, rfl, hbs, hbm, hbcell⟩ := he
 have HAC := Lib.hid hacell
 have HBC := Lib.hid hbcell
 obtain ⟨t1, t2, rfl, ht, hs⟩ := hx
 have HT := Lib.hid ht
 have HS := Lib.hid hs
 obtain ⟨tno, tc, rfl, htm, -⟩ := ht
 obtain ⟨so, sc, rfl, hsm2, hsc⟩ := hs
 obtain ⟨-, -, hc1⟩ := box_two w #[.int .i64 g.n, .slice eo g.e.length cap] #[.slice ao p.v.length ac, .slice bo p.e.length bc] 24 27
 obtain ⟨-, hc3⟩ := box_three w #[.int .i64 g.n, .slice eo g.e.length cap] #[.slice ao p.v.length ac, .slice bo p.e.length bc] #[.slice tno turn.length tc, .slice so same.length sc] 24 27 30
 have HC1 := Lib.hid (hc1.trans hc3 (by simp))
 have HBXS := Lib.hid (fun w2 h => three_boxes w (g := g) (p := p) (turn := turn) (same := same) (eo := eo) (ao := ao) (bo := bo) (tno := tno) (so := so) (cap := cap) (ac := ac) (bc := bc) (tc := tc) (sc := sc) (w2 := w2) h)
 clear hcell hacell hbcell hsm hbs has hn hc1 hc3 hsc
 go_enter Try.func4, Try.ntmps4
 go_wp2_with fail
 refine (awake10_any _).mono ?_
 rintro e1 w2 ⟨rfl, hc2⟩
 obtain ⟨x0, x1, y0, y1, z0, z1, hsz⟩ := HBXS.out w2 hc2
 have HC2 := Lib.hid (HC1.out.trans hc2 (by simp))
 have HC2B := Lib.hid hc2
 clear hc2
 go_wp2_with fail
 refine (small10_any _ _ _ _ g p turn same cy _ (HG.out.fresh HC2.out) (HP.out.fresh HC2.out) (HX.out.fresh HC2.out) (HCC.out.fresh HC2.out)).mono ?_
 rintro e1 w3 ⟨rfl, hc3⟩
 have HC3 := Lib.hid (HC2.out.trans hc3 (by simp))
 have HC3B := Lib.hid (HC2B.out.trans hc3 (by simp))
 clear x0 x1 y0 y1 z0 z1 hsz hc3
 by_cases hb : (Plain.small8 g p turn same && decide (cy.length ≤ 60)) = true
 ·obtain ⟨hb8, hb60⟩ := Bool.and_eq_true_iff.1 hb
  obtain ⟨b1, b2, b3, b4, b5, b6⟩ := Plain.small8_is hb8
  have b60 := of_decide_eq_true hb60
  have HB4 := Lib.hid b4
  have HB6 := Lib.hid (fun i => Nat.le_trans (b6 i) (by omega : 60 ≤ 10000))
  have HROWS := Lib.hid (Plain.small8_four hb8).2
  rw [hb]
  obtain ⟨x0, x1, y0, y1, z0, z1, hsz⟩ := HBXS.out w3 HC3B.out
  clear hb hb8 hb60 b4 b6
  go_wp2_with fail
  refine (cycle_any _ _ _ g p cy _ (by omega) (by omega) (by omega) (HG.out.fresh HC3.out) (HP.out.fresh HC3.out) (HCC.out.fresh HC3.out)).mono ?_
  rintro e1 w4 ⟨rfl, hc4⟩
  have HC4 := Lib.hid (HC3.out.trans hc4 (by simp))
  have HC4B := Lib.hid (HC3B.out.trans hc4 (by simp))
  clear x0 x1 y0 y1 z0 z1 hsz hc4
  by_cases hcy : Plain.cycOk g p cy = true
  ·rw [hcy]
   have HCY := Lib.hid hcy
   have HCD := Lib.hid (show ∀ d ∈ cy, ∃ n : Nat, d = n ∧ n < 2048 from fun d hd => by obtain ⟨n, m, h1, h2, h3, h4, h5⟩ := (Plain.cyc_darts HCY.out).2.2 d hd; exact ⟨n, h1, h3⟩)
   clear hcy
   obtain ⟨x0, x1, y0, y1, z0, z1, hsz⟩ := HBXS.out w4 HC4B.out
   go_wp2_with fail
   refine (vertex_any _ _ _ _ g p turn same cy v _ (by omega) (by omega) (by omega) (by have := HB4.out; omega) (by omega) HB6.out (by omega) iv (HG.out.fresh HC4.out) (HP.out.fresh HC4.out) (HX.out.fresh HC4.out) (HCC.out.fresh HC4.out)).mono ?_
   rintro e1 w5 ⟨rfl, hc5⟩
   have HC5 := Lib.hid (HC4.out.trans hc5 (by simp))
   have HC5B := Lib.hid (HC4B.out.trans hc5 (by simp))
   clear x0 x1 y0 y1 z0 z1 hsz
   obtain ⟨x0, x1, y0, y1, z0, z1, hsz⟩ := HBXS.out w5 HC5B.out
   go_wp2
   have hS0 : Chg [] w5 w5.drew := (Chg.refl [] w5).drew
   refine wp_region_way (Chg [] w5) [0, 1, 2, 3, 5, 7, 8, 9, 10, 11] (Way.line [0, 1, 2, 3, 5, 4, 6, 7, 8, 9, 10, 11] .done) (by kernel_rfl) (by kernel_rfl) ?_
   simp only [Way.line]
   repeat
    first
     | (refine along_off rfl (by rfl) (by rfl) (fun _ _ _ h => h) hS0 ?_; simp only [Act.put, Z1, Z2, Z3, Z4, Z5, Z6])
     | (refine along_read (v := ?_) rfl (by rfl) (by rfl) (fun _ _ _ h => h) hS0 (fun w' hS' => ?_) ?_; rotate_left; (focus (have rd0 := hS'.cell x0 (by simp); have rd1 := hS'.cell x1 (by simp); have rd2 := hS'.cell y0 (by simp); have rd3 := hS'.cell y1 (by simp); have rd4 := hS'.cell z0 (by simp); have rd5 := hS'.cell z1 (by simp); clear hS'; go_simp; try with_reducible rfl)); simp only [Act.put, Z1, Z2, Z3, Z4, Z5, Z6])
     | (refine along_skip rfl (by rfl) (by rfl) hS0 ?_; simp only [Act.put, Z1, Z2, Z3, Z4, Z5, Z6])
   refine along_op rfl (by rfl) (by rfl) (fun K hK => ?_)
   go_simp
   refine (about10_any _ cy _ (by omega) HCD.out (HCC.out.fresh (HC5.out.trans hS0 (by simp)))).mono ?_
   rintro e w5a ⟨abv, rfl, hrow, hcx⟩
   have hS1 := hS0.trans hcx (by simp)
   clear hS0 hcx
   have hS0 := hS1
   clear hS1
   refine hK.out _ _ (fun _ => hS0) ?_
   clear hK K
   try simp only [Act.put, Z1, Z2, Z3, Z4, Z5, Z6]
   have Hab := Lib.hid hrow.ints
   clear hrow
   refine along_op rfl (by rfl) (by rfl) (fun K hK => ?_)
   go_simp
   refine (vertex_any _ _ _ _ g p turn same (Plain.abt cy) v _ (by omega) (by omega) (by omega) (by have := HB4.out; omega) (by omega) HB6.out (by rw [Plain.abt_len]; omega) iv (HG.out.fresh (HC5.out.trans hS0 (by simp))) (HP.out.fresh (HC5.out.trans hS0 (by simp))) (HX.out.fresh (HC5.out.trans hS0 (by simp))) Hab.out).mono ?_
   rintro e w7 ⟨rfl, hcx⟩
   have hS1 := hS0.trans hcx (by simp)
   clear hS0 hcx
   have hS0 := hS1
   clear hS1
   refine hK.out _ _ (fun _ => hS0) ?_
   clear hK K
   try simp only [Act.put, Z1, Z2, Z3, Z4, Z5, Z6]
   repeat
    first
     | (refine along_off rfl (by rfl) (by rfl) (fun _ _ _ h => h) hS0 ?_; simp only [Act.put, Z1, Z2, Z3, Z4, Z5, Z6])
     | (refine along_read (v := ?_) rfl (by rfl) (by rfl) (fun _ _ _ h => h) hS0 (fun w' hS' => ?_) ?_; rotate_left; (focus (have rd0 := hS'.cell y0 (by simp); clear hS'; go_simp; try with_reducible rfl)); simp only [Act.put, Z1, Z2, Z3, Z4, Z5, Z6])
     | (refine along_skip rfl (by rfl) (by rfl) hS0 ?_; simp only [Act.put, Z1, Z2, Z3, Z4, Z5, Z6])
   refine along_done ?_
   have hc7 := hS0
   have HC7 := Lib.hid (HC5.out.trans hS0 (by simp))
   have HC7B := Lib.hid (HC5B.out.trans hS0 (by simp))
   clear x0 x1 y0 y1 z0 z1 hsz hS0
   obtain ⟨x0, x1, y0, y1, z0, z1, hsz⟩ := HBXS.out w7 HC7B.out
   go_wp2_with fail
   refine (mirror_any _ _ _ g p turn same _ (by omega) (by omega) (by omega) (by have := HB4.out; omega) (by omega) HB6.out (HG.out.fresh HC7.out) (HP.out.fresh HC7.out) (HX.out.fresh HC7.out)).mono ?_
   rintro e1 w8 ⟨ov, rfl, hno, hyes, hc8⟩
   have HC8 := Lib.hid (HC7.out.trans hc8 (by simp))
   have HC8B := Lib.hid (HC7B.out.trans hc8 (by simp))
   clear x0 x1 y0 y1 z0 z1 hsz
   by_cases hz : Plain.planErr g p turn same = 0
   ·have HPL := Lib.hid (hyes hz)
    obtain ⟨u1, u2, rfl, ⟨o1, k1, rfl, -⟩, ⟨o2, k2, rfl, -⟩⟩ := hyes hz
    obtain ⟨t1, t2, t3, t4, t5⟩ := Plain.mir_sizes hz b1 b2 b3 HROWS.out
    have HT5 := Lib.hid t5
    have HLV := Lib.hid (Plain.abt_law hz HCY.out v)
    have HLE := Lib.hid (Plain.abt_lawE hz HCY.out e)
    obtain ⟨A1, hA1⟩ : ∃ x, Plain.mirTurn turn = x := ⟨_, rfl⟩
    obtain ⟨A2, hA2⟩ : ∃ x, Plain.mirSame g p turn same = x := ⟨_, rfl⟩
    rw [hA1] at t1 t3 HPL HLV HLE
    rw [hA2] at t4 HT5 HPL HLV HLE
    rw [hA1, hA2, hz]
    have hset : Chg [] w8 (w8.alloc (.cells #[.slice o1 A1.length k1, .slice o2 A2.length k2] 30)) := (Chg.refl [] w8).alloc _
    have hheap := heap_alloc_new w8 (.cells #[.slice o1 A1.length k1, .slice o2 A2.length k2] 30)
    have HF0 := Lib.hid ((cell_of_row _ _ 0 _ _ _ hheap).trans (show _ = some (Value.slice o1 A1.length k1) from rfl))
    have HF1 := Lib.hid ((cell_of_row _ _ 1 _ _ _ hheap).trans (show _ = some (Value.slice o2 A2.length k2) from rfl))
    have HC9 := Lib.hid (HC8.out.trans hset (by simp))
    have HC9B := Lib.hid (HC8B.out.trans hset (by simp))
    have HC89 := Lib.hid hset
    obtain ⟨x0, x1, y0, y1, z0, z1, hsz⟩ := HBXS.out _ HC9B.out
    clear hno hyes hz hset hheap t2 t5 hA1 hA2 hc5 hc7 hc8
    go_wp2_with fail
    generalize (w8.alloc (.cells #[.slice o1 A1.length k1, .slice o2 A2.length k2] 30)) = w9 at *
    generalize w8.heap.size = xb at *
    refine (vertex_any _ _ _ _ g p A1 A2 cy v _ (by omega) (by omega) (by omega) (by omega) (by omega) (fun i => Nat.le_trans (HT5.out i) (by decide)) (by omega) iv (HG.out.fresh HC9.out) (HP.out.fresh HC9.out) (HPL.out.fresh HC89.out) (HCC.out.fresh HC9.out)).mono ?_
    rintro e1 w10 ⟨rfl, hc10⟩
    have HC10 := Lib.hid (HC9.out.trans hc10 (by simp))
    have HC10B := Lib.hid (HC9B.out.trans hc10 (by simp))
    have HC910 := Lib.hid hc10
    have HC810 := Lib.hid (HC89.out.trans hc10 (by simp))
    clear x0 x1 y0 y1 z0 z1 hsz
    rw [HLV.out.1, HLV.out.2.1]
    clear hc10
    obtain ⟨O, hO⟩ : ∃ O, Plain.vertOk g p turn same cy v = O := ⟨_, rfl⟩
    obtain ⟨A, hA⟩ : ∃ A, Plain.vertV g p turn same cy v = A := ⟨_, rfl⟩
    obtain ⟨B, hB⟩ : ∃ B, Plain.vertV g p turn same (Plain.abt cy) v = B := ⟨_, rfl⟩
    obtain ⟨C, hC⟩ : ∃ C, Plain.vertV g p A1 A2 cy v = C := ⟨_, rfl⟩
    have HV3 := Lib.hid HLV.out.2.2
    rw [hO, hA, hB, hC] at HV3
    rw [hO, hA, hB, hC]
    clear hO hA hB hC HLV
    obtain ⟨x0, x1, y0, y1, z0, z1, hsz⟩ := HBXS.out w10 HC10B.out
    have hkey : ∀ (O : Bool), True := fun _ => trivial
    clear hkey
    cases O with
    | false =>
     clear HV3
     go_wp2_with fail
     refine (edge_any _ _ _ _ g p turn same cy e _ (by omega) (by omega) (by omega) (by have := HB4.out; omega) (by omega) HB6.out (by omega) ie (HG.out.fresh HC10.out) (HP.out.fresh HC10.out) (HX.out.fresh HC10.out) (HCC.out.fresh HC10.out)).mono ?_
     rintro e1 w11 ⟨rfl, hc11⟩
     have HC11 := Lib.hid (HC10.out.trans hc11 (by simp))
     have HC11B := Lib.hid (HC10B.out.trans hc11 (by simp))
     clear x0 x1 y0 y1 z0 z1 hsz
     have HC811 := Lib.hid (HC810.out.trans hc11 (by simp))
     have HC911 := Lib.hid (HC910.out.trans hc11 (by simp))
     obtain ⟨x0, x1, y0, y1, z0, z1, hsz⟩ := HBXS.out w11 HC11B.out
     go_wp2
     have hS0 : Chg [] w11 w11.drew := (Chg.refl [] w11).drew
     refine wp_region_way (Chg [] w11) [0, 1, 2, 3, 5, 7, 8, 9, 10, 11] (Way.line [0, 1, 2, 3, 5, 4, 6, 7, 8, 9, 10, 11] .done) (by kernel_rfl) (by kernel_rfl) ?_
     simp only [Way.line]
     repeat
      first
       | (refine along_off rfl (by rfl) (by rfl) (fun _ _ _ h => h) hS0 ?_; simp only [Act.put, Z1, Z2, Z3, Z4, Z5, Z6])
       | (refine along_read (v := ?_) rfl (by rfl) (by rfl) (fun _ _ _ h => h) hS0 (fun w' hS' => ?_) ?_; rotate_left; (focus (have rd0 := hS'.cell x0 (by simp); have rd1 := hS'.cell x1 (by simp); have rd2 := hS'.cell y0 (by simp); have rd3 := hS'.cell y1 (by simp); have rd4 := hS'.cell z0 (by simp); have rd5 := hS'.cell z1 (by simp); clear hS'; go_simp; try with_reducible rfl)); simp only [Act.put, Z1, Z2, Z3, Z4, Z5, Z6])
       | (refine along_skip rfl (by rfl) (by rfl) hS0 ?_; simp only [Act.put, Z1, Z2, Z3, Z4, Z5, Z6])
     refine along_op rfl (by rfl) (by rfl) (fun K hK => ?_)
     go_simp
     refine (about10_any _ cy _ (by omega) HCD.out (HCC.out.fresh (HC11.out.trans hS0 (by simp)))).mono ?_
     rintro e w11a ⟨acv, rfl, hrow, hcx⟩
     have hS1 := hS0.trans hcx (by simp)
     clear hS0 hcx
     have hS0 := hS1
     clear hS1
     refine hK.out _ _ (fun _ => hS0) ?_
     clear hK K
     try simp only [Act.put, Z1, Z2, Z3, Z4, Z5, Z6]
     have Hac := Lib.hid hrow.ints
     clear hrow
     refine along_op rfl (by rfl) (by rfl) (fun K hK => ?_)
     go_simp
     refine (edge_any _ _ _ _ g p turn same (Plain.abt cy) e _ (by omega) (by omega) (by omega) (by have := HB4.out; omega) (by omega) HB6.out (by rw [Plain.abt_len]; omega) ie (HG.out.fresh (HC11.out.trans hS0 (by simp))) (HP.out.fresh (HC11.out.trans hS0 (by simp))) (HX.out.fresh (HC11.out.trans hS0 (by simp))) Hac.out).mono ?_
     rintro e w13 ⟨rfl, hcx⟩
     have hS1 := hS0.trans hcx (by simp)
     clear hS0 hcx
     have hS0 := hS1
     clear hS1
     refine hK.out _ _ (fun _ => hS0) ?_
     clear hK K
     try simp only [Act.put, Z1, Z2, Z3, Z4, Z5, Z6]
     repeat
      first
       | (refine along_off rfl (by rfl) (by rfl) (fun _ _ _ h => h) hS0 ?_; simp only [Act.put, Z1, Z2, Z3, Z4, Z5, Z6])
       | (refine along_read (v := ?_) rfl (by rfl) (by rfl) (fun _ _ _ h => h) hS0 (fun w' hS' => ?_) ?_; rotate_left; (focus (have rd0 := hS'.cell y0 (by simp); clear hS'; go_simp; try with_reducible rfl)); simp only [Act.put, Z1, Z2, Z3, Z4, Z5, Z6])
       | (refine along_skip rfl (by rfl) (by rfl) hS0 ?_; simp only [Act.put, Z1, Z2, Z3, Z4, Z5, Z6])
     refine along_done ?_
     have hc13 := hS0
     have HC13 := Lib.hid (HC11.out.trans hS0 (by simp))
     have HC13B := Lib.hid (HC11B.out.trans hS0 (by simp))
     clear x0 x1 y0 y1 z0 z1 hsz hS0
     have HC813 := Lib.hid (HC811.out.trans hc13 (by simp))
     have HC913 := Lib.hid (HC911.out.trans hc13 (by simp))
     obtain ⟨x0, x1, y0, y1, z0, z1, hsz⟩ := HBXS.out w13 HC13B.out
     have m0 := HC913.out.cell HF0.out (by simp)
     have m1 := HC913.out.cell HF1.out (by simp)
     clear hc11 hc13
     go_wp2_with fail
     refine (edge_any _ _ _ _ g p A1 A2 cy e _ (by omega) (by omega) (by omega) (by omega) (by omega) (fun i => Nat.le_trans (HT5.out i) (by decide)) (by omega) ie (HG.out.fresh HC13.out) (HP.out.fresh HC13.out) (HPL.out.fresh HC813.out) (HCC.out.fresh HC13.out)).mono ?_
     rintro e1 w14 ⟨rfl, hc14⟩
     have HC14 := Lib.hid (HC13.out.trans hc14 (by simp))
     have HC14B := Lib.hid (HC13B.out.trans hc14 (by simp))
     have HC814 := Lib.hid (HC813.out.trans hc14 (by simp))
     clear x0 x1 y0 y1 z0 z1 hsz
     rw [HLE.out.1, HLE.out.2.1]
     clear hc14 m0 m1
     obtain ⟨P, hP⟩ : ∃ P, Plain.edgeOk g p turn same cy e = P := ⟨_, rfl⟩
     obtain ⟨D, hD⟩ : ∃ D, Plain.edgeV g p turn same cy e = D := ⟨_, rfl⟩
     obtain ⟨E, hE⟩ : ∃ E, Plain.edgeV g p turn same (Plain.abt cy) e = E := ⟨_, rfl⟩
     obtain ⟨F, hF⟩ : ∃ F, Plain.edgeV g p A1 A2 cy e = F := ⟨_, rfl⟩
     have HE3 := Lib.hid HLE.out.2.2
     rw [hP, hD, hE, hF] at HE3
     rw [hP, hD, hE, hF]
     clear hP hD hE hF HLE
     cases P with
     | false =>
      clear HE3
      go_wp2
      go_ret
      exact ⟨rfl, HC14.out⟩
     | true =>
      obtain ⟨hs, rfl⟩ := HE3.out rfl
      rcases hs with hs | hs
      ·have w1 : IntKind.i64.wrap (D + F) = 3 := by rw [hs]; rfl
       have n1 : (F == F) = true := by simp
       clear hs HE3
       go_wp2
       go_ret
       exact ⟨rfl, HC14.out⟩
      have w1 : IntKind.i64.wrap (D + F) = 0 := by rw [hs]; rfl
      have n1 : (F == F) = true := by simp
      clear hs HE3
      go_wp2
      go_ret
      exact ⟨rfl, HC14.out⟩
    | true =>
     obtain ⟨hs, rfl⟩ := HV3.out rfl
     rcases hs with hs | hs
     ·have w1 : IntKind.i64.wrap (A + C) = 3 := by rw [hs]; rfl
      have n1 : (C != C) = false := by simp
      clear hs HV3
      go_wp2_with fail
      refine (edge_any _ _ _ _ g p turn same cy e _ (by omega) (by omega) (by omega) (by have := HB4.out; omega) (by omega) HB6.out (by omega) ie (HG.out.fresh HC10.out) (HP.out.fresh HC10.out) (HX.out.fresh HC10.out) (HCC.out.fresh HC10.out)).mono ?_
      rintro e1 w11 ⟨rfl, hc11⟩
      have HC11 := Lib.hid (HC10.out.trans hc11 (by simp))
      have HC11B := Lib.hid (HC10B.out.trans hc11 (by simp))
      clear x0 x1 y0 y1 z0 z1 hsz
      have HC811 := Lib.hid (HC810.out.trans hc11 (by simp))
      have HC911 := Lib.hid (HC910.out.trans hc11 (by simp))
      obtain ⟨x0, x1, y0, y1, z0, z1, hsz⟩ := HBXS.out w11 HC11B.out
      go_wp2
      have hS0 : Chg [] w11 w11.drew := (Chg.refl [] w11).drew
      refine wp_region_way (Chg [] w11) [0, 1, 2, 3, 5, 7, 8, 9, 10, 11] (Way.line [0, 1, 2, 3, 5, 4, 6, 7, 8, 9, 10, 11] .done) (by kernel_rfl) (by kernel_rfl) ?_
      simp only [Way.line]
      repeat
       first
        | (refine along_off rfl (by rfl) (by rfl) (fun _ _ _ h => h) hS0 ?_; simp only [Act.put, Z1, Z2, Z3, Z4, Z5, Z6])
        | (refine along_read (v := ?_) rfl (by rfl) (by rfl) (fun _ _ _ h => h) hS0 (fun w' hS' => ?_) ?_; rotate_left; (focus (have rd0 := hS'.cell x0 (by simp); have rd1 := hS'.cell x1 (by simp); have rd2 := hS'.cell y0 (by simp); have rd3 := hS'.cell y1 (by simp); have rd4 := hS'.cell z0 (by simp); have rd5 := hS'.cell z1 (by simp); clear hS'; go_simp; try with_reducible rfl)); simp only [Act.put, Z1, Z2, Z3, Z4, Z5, Z6])
        | (refine along_skip rfl (by rfl) (by rfl) hS0 ?_; simp only [Act.put, Z1, Z2, Z3, Z4, Z5, Z6])
      refine along_op rfl (by rfl) (by rfl) (fun K hK => ?_)
      go_simp
      refine (about10_any _ cy _ (by omega) HCD.out (HCC.out.fresh (HC11.out.trans hS0 (by simp)))).mono ?_
      rintro e w11a ⟨acv, rfl, hrow, hcx⟩
      have hS1 := hS0.trans hcx (by simp)
      clear hS0 hcx
      have hS0 := hS1
      clear hS1
      refine hK.out _ _ (fun _ => hS0) ?_
      clear hK K
      try simp only [Act.put, Z1, Z2, Z3, Z4, Z5, Z6]
      have Hac := Lib.hid hrow.ints
      clear hrow
      refine along_op rfl (by rfl) (by rfl) (fun K hK => ?_)
      go_simp
      refine (edge_any _ _ _ _ g p turn same (Plain.abt cy) e _ (by omega) (by omega) (by omega) (by have := HB4.out; omega) (by omega) HB6.out (by rw [Plain.abt_len]; omega) ie (HG.out.fresh (HC11.out.trans hS0 (by simp))) (HP.out.fresh (HC11.out.trans hS0 (by simp))) (HX.out.fresh (HC11.out.trans hS0 (by simp))) Hac.out).mono ?_
      rintro e w13 ⟨rfl, hcx⟩
      have hS1 := hS0.trans hcx (by simp)
      clear hS0 hcx
      have hS0 := hS1
      clear hS1
      refine hK.out _ _ (fun _ => hS0) ?_
      clear hK K
      try simp only [Act.put, Z1, Z2, Z3, Z4, Z5, Z6]
      repeat
       first
        | (refine along_off rfl (by rfl) (by rfl) (fun _ _ _ h => h) hS0 ?_; simp only [Act.put, Z1, Z2, Z3, Z4, Z5, Z6])
        | (refine along_read (v := ?_) rfl (by rfl) (by rfl) (fun _ _ _ h => h) hS0 (fun w' hS' => ?_) ?_; rotate_left; (focus (have rd0 := hS'.cell y0 (by simp); clear hS'; go_simp; try with_reducible rfl)); simp only [Act.put, Z1, Z2, Z3, Z4, Z5, Z6])
        | (refine along_skip rfl (by rfl) (by rfl) hS0 ?_; simp only [Act.put, Z1, Z2, Z3, Z4, Z5, Z6])
      refine along_done ?_
      have hc13 := hS0
      have HC13 := Lib.hid (HC11.out.trans hS0 (by simp))
      have HC13B := Lib.hid (HC11B.out.trans hS0 (by simp))
      clear x0 x1 y0 y1 z0 z1 hsz hS0
      have HC813 := Lib.hid (HC811.out.trans hc13 (by simp))
      have HC913 := Lib.hid (HC911.out.trans hc13 (by simp))
      obtain ⟨x0, x1, y0, y1, z0, z1, hsz⟩ := HBXS.out w13 HC13B.out
      have m0 := HC913.out.cell HF0.out (by simp)
      have m1 := HC913.out.cell HF1.out (by simp)
      clear hc11 hc13
      go_wp2_with fail
      refine (edge_any _ _ _ _ g p A1 A2 cy e _ (by omega) (by omega) (by omega) (by omega) (by omega) (fun i => Nat.le_trans (HT5.out i) (by decide)) (by omega) ie (HG.out.fresh HC13.out) (HP.out.fresh HC13.out) (HPL.out.fresh HC813.out) (HCC.out.fresh HC13.out)).mono ?_
      rintro e1 w14 ⟨rfl, hc14⟩
      have HC14 := Lib.hid (HC13.out.trans hc14 (by simp))
      have HC14B := Lib.hid (HC13B.out.trans hc14 (by simp))
      have HC814 := Lib.hid (HC813.out.trans hc14 (by simp))
      clear x0 x1 y0 y1 z0 z1 hsz
      rw [HLE.out.1, HLE.out.2.1]
      clear hc14 m0 m1
      obtain ⟨P, hP⟩ : ∃ P, Plain.edgeOk g p turn same cy e = P := ⟨_, rfl⟩
      obtain ⟨D, hD⟩ : ∃ D, Plain.edgeV g p turn same cy e = D := ⟨_, rfl⟩
      obtain ⟨E, hE⟩ : ∃ E, Plain.edgeV g p turn same (Plain.abt cy) e = E := ⟨_, rfl⟩
      obtain ⟨F, hF⟩ : ∃ F, Plain.edgeV g p A1 A2 cy e = F := ⟨_, rfl⟩
      have HE3 := Lib.hid HLE.out.2.2
      rw [hP, hD, hE, hF] at HE3
      rw [hP, hD, hE, hF]
      clear hP hD hE hF HLE
      cases P with
      | false =>
       clear HE3
       go_wp2
       go_ret
       exact ⟨rfl, HC14.out⟩
      | true =>
       obtain ⟨hs, rfl⟩ := HE3.out rfl
       rcases hs with hs | hs
       ·have w1 : IntKind.i64.wrap (D + F) = 3 := by rw [hs]; rfl
        have n1 : (F == F) = true := by simp
        clear hs HE3
        go_wp2
        go_ret
        exact ⟨rfl, HC14.out⟩
       have w1 : IntKind.i64.wrap (D + F) = 0 := by rw [hs]; rfl
       have n1 : (F == F) = true := by simp
       clear hs HE3
       go_wp2
       go_ret
       exact ⟨rfl, HC14.out⟩
     have w1 : IntKind.i64.wrap (A + C) = 0 := by rw [hs]; rfl
     have n1 : (C != C) = false := by simp
     clear hs HV3
     go_wp2_with fail
     refine (edge_any _ _ _ _ g p turn same cy e _ (by omega) (by omega) (by omega) (by have := HB4.out; omega) (by omega) HB6.out (by omega) ie (HG.out.fresh HC10.out) (HP.out.fresh HC10.out) (HX.out.fresh HC10.out) (HCC.out.fresh HC10.out)).mono ?_
     rintro e1 w11 ⟨rfl, hc11⟩
     have HC11 := Lib.hid (HC10.out.trans hc11 (by simp))
     have HC11B := Lib.hid (HC10B.out.trans hc11 (by simp))
     clear x0 x1 y0 y1 z0 z1 hsz
     have HC811 := Lib.hid (HC810.out.trans hc11 (by simp))
     have HC911 := Lib.hid (HC910.out.trans hc11 (by simp))
     obtain ⟨x0, x1, y0, y1, z0, z1, hsz⟩ := HBXS.out w11 HC11B.out
     go_wp2
     have hS0 : Chg [] w11 w11.drew := (Chg.refl [] w11).drew
     refine wp_region_way (Chg [] w11) [0, 1, 2, 3, 5, 7, 8, 9, 10, 11] (Way.line [0, 1, 2, 3, 5, 4, 6, 7, 8, 9, 10, 11] .done) (by kernel_rfl) (by kernel_rfl) ?_
     simp only [Way.line]
     repeat
      first
       | (refine along_off rfl (by rfl) (by rfl) (fun _ _ _ h => h) hS0 ?_; simp only [Act.put, Z1, Z2, Z3, Z4, Z5, Z6])
       | (refine along_read (v := ?_) rfl (by rfl) (by rfl) (fun _ _ _ h => h) hS0 (fun w' hS' => ?_) ?_; rotate_left; (focus (have rd0 := hS'.cell x0 (by simp); have rd1 := hS'.cell x1 (by simp); have rd2 := hS'.cell y0 (by simp); have rd3 := hS'.cell y1 (by simp); have rd4 := hS'.cell z0 (by simp); have rd5 := hS'.cell z1 (by simp); clear hS'; go_simp; try with_reducible rfl)); simp only [Act.put, Z1, Z2, Z3, Z4, Z5, Z6])
       | (refine along_skip rfl (by rfl) (by rfl) hS0 ?_; simp only [Act.put, Z1, Z2, Z3, Z4, Z5, Z6])
     refine along_op rfl (by rfl) (by rfl) (fun K hK => ?_)
     go_simp
     refine (about10_any _ cy _ (by omega) HCD.out (HCC.out.fresh (HC11.out.trans hS0 (by simp)))).mono ?_
     rintro e w11a ⟨acv, rfl, hrow, hcx⟩
     have hS1 := hS0.trans hcx (by simp)
     clear hS0 hcx
     have hS0 := hS1
     clear hS1
     refine hK.out _ _ (fun _ => hS0) ?_
     clear hK K
     try simp only [Act.put, Z1, Z2, Z3, Z4, Z5, Z6]
     have Hac := Lib.hid hrow.ints
     clear hrow
     refine along_op rfl (by rfl) (by rfl) (fun K hK => ?_)
     go_simp
     refine (edge_any _ _ _ _ g p turn same (Plain.abt cy) e _ (by omega) (by omega) (by omega) (by have := HB4.out; omega) (by omega) HB6.out (by rw [Plain.abt_len]; omega) ie (HG.out.fresh (HC11.out.trans hS0 (by simp))) (HP.out.fresh (HC11.out.trans hS0 (by simp))) (HX.out.fresh (HC11.out.trans hS0 (by simp))) Hac.out).mono ?_
     rintro e w13 ⟨rfl, hcx⟩
     have hS1 := hS0.trans hcx (by simp)
     clear hS0 hcx
     have hS0 := hS1
     clear hS1
     refine hK.out _ _ (fun _ => hS0) ?_
     clear hK K
     try simp only [Act.put, Z1, Z2, Z3, Z4, Z5, Z6]
     repeat
      first
       | (refine along_off rfl (by rfl) (by rfl) (fun _ _ _ h => h) hS0 ?_; simp only [Act.put, Z1, Z2, Z3, Z4, Z5, Z6])
       | (refine along_read (v := ?_) rfl (by rfl) (by rfl) (fun _ _ _ h => h) hS0 (fun w' hS' => ?_) ?_; rotate_left; (focus (have rd0 := hS'.cell y0 (by simp); clear hS'; go_simp; try with_reducible rfl)); simp only [Act.put, Z1, Z2, Z3, Z4, Z5, Z6])
       | (refine along_skip rfl (by rfl) (by rfl) hS0 ?_; simp only [Act.put, Z1, Z2, Z3, Z4, Z5, Z6])
     refine along_done ?_
     have hc13 := hS0
     have HC13 := Lib.hid (HC11.out.trans hS0 (by simp))
     have HC13B := Lib.hid (HC11B.out.trans hS0 (by simp))
     clear x0 x1 y0 y1 z0 z1 hsz hS0
     have HC813 := Lib.hid (HC811.out.trans hc13 (by simp))
     have HC913 := Lib.hid (HC911.out.trans hc13 (by simp))
     obtain ⟨x0, x1, y0, y1, z0, z1, hsz⟩ := HBXS.out w13 HC13B.out
     have m0 := HC913.out.cell HF0.out (by simp)
     have m1 := HC913.out.cell HF1.out (by simp)
     clear hc11 hc13
     go_wp2_with fail
     refine (edge_any _ _ _ _ g p A1 A2 cy e _ (by omega) (by omega) (by omega) (by omega) (by omega) (fun i => Nat.le_trans (HT5.out i) (by decide)) (by omega) ie (HG.out.fresh HC13.out) (HP.out.fresh HC13.out) (HPL.out.fresh HC813.out) (HCC.out.fresh HC13.out)).mono ?_
     rintro e1 w14 ⟨rfl, hc14⟩
     have HC14 := Lib.hid (HC13.out.trans hc14 (by simp))
     have HC14B := Lib.hid (HC13B.out.trans hc14 (by simp))
     have HC814 := Lib.hid (HC813.out.trans hc14 (by simp))
     clear x0 x1 y0 y1 z0 z1 hsz
     rw [HLE.out.1, HLE.out.2.1]
     clear hc14 m0 m1
     obtain ⟨P, hP⟩ : ∃ P, Plain.edgeOk g p turn same cy e = P := ⟨_, rfl⟩
     obtain ⟨D, hD⟩ : ∃ D, Plain.edgeV g p turn same cy e = D := ⟨_, rfl⟩
     obtain ⟨E, hE⟩ : ∃ E, Plain.edgeV g p turn same (Plain.abt cy) e = E := ⟨_, rfl⟩
     obtain ⟨F, hF⟩ : ∃ F, Plain.edgeV g p A1 A2 cy e = F := ⟨_, rfl⟩
     have HE3 := Lib.hid HLE.out.2.2
     rw [hP, hD, hE, hF] at HE3
     rw [hP, hD, hE, hF]
     clear hP hD hE hF HLE
     cases P with
     | false =>
      clear HE3
      go_wp2
      go_ret
      exact ⟨rfl, HC14.out⟩
     | true =>
      obtain ⟨hs, rfl⟩ := HE3.out rfl
      rcases hs with hs | hs
      ·have w1 : IntKind.i64.wrap (D + F) = 3 := by rw [hs]; rfl
       have n1 : (F == F) = true := by simp
       clear hs HE3
       go_wp2
       go_ret
       exact ⟨rfl, HC14.out⟩
      have w1 : IntKind.i64.wrap (D + F) = 0 := by rw [hs]; rfl
      have n1 : (F == F) = true := by simp
      clear hs HE3
      go_wp2
      go_ret
      exact ⟨rfl, HC14.out⟩
   have HNV := Lib.hid (Plain.vert_no hz cy v)
   have HNA := Lib.hid (Plain.vert_no hz (Plain.abt cy) v)
   have hov := hno hz
   subst hov
   obtain ⟨er, her⟩ : ∃ er, Plain.planErr g p turn same = er := ⟨_, rfl⟩
   have hb : (er != 0) = true := by rw [← her]; simpa using hz
   obtain ⟨x0, x1, y0, y1, z0, z1, hsz⟩ := HBXS.out w8 HC8B.out
   rw [her, HNV.out, HNA.out]
   clear hno hyes hz her hc5 hc7 hc8
   go_wp2
   go_ret
   exact ⟨rfl, HC8.out.trans ((Chg.refl [] w8).alloc _) (by simp)⟩
  have hcf : Plain.cycOk g p cy = false := by simpa using hcy
  rw [hcf]
  clear hcy hcf
  go_wp2_with fail
  refine (awake10_any _).mono ?_
  rintro e1 w6 ⟨rfl, hc6⟩
  have HC6 := Lib.hid (HC4.out.trans hc6 (by simp))
  clear hc6
  go_wp2
  go_ret
  exact ⟨rfl, HC6.out⟩
 have hbf : (Plain.small8 g p turn same && decide (cy.length ≤ 60)) = false := by simpa using hb
 rw [hbf]
 clear hb hbf
 go_wp2_with fail
 refine (awake10_any _).mono ?_
 rintro e1 w4 ⟨rfl, hc4⟩
 have HC4 := Lib.hid (HC3.out.trans hc4 (by simp))
 clear hc4
 go_wp2
 go_ret
 exact ⟨rfl, HC4.out⟩
end Go.Proofs.Ytckjpaimbmlboaa
