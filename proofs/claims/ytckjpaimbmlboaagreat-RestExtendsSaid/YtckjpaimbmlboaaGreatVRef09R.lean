/- the document's Right of law 09: its contract. Conditions: a graph, two parts, a plan that lie in memory and read so, of a bounded size. -/
import Derived.Test.YtckjpaimbmlboaaGreatVRef09
import Derived.Test.YtckjpaimbmlboaaGreatVRestS
namespace Go.Proofs.YtckjpaimbmlboaaGreat
open Go.RowKit Go.Maps
set_option maxRecDepth 100000 in
set_option maxHeartbeats 8000000 in
theorem refRight9_any (vg vp vx vq : Value) (g : Plain.Gr) (p q : Plain.Pt) (turn same : List (List Int)) (w : World) (hpl : p.e.length ≤ 1000) (hpv : p.v.length ≤ 1000) (hql : q.e.length ≤ 1000) (hqv : q.v.length ≤ 1000) (hgl : g.e.length < 4294967296) (hrl : ∀ v, (Plain.turnAt turn v).length < 4294967296) (hsl : same.length ≤ 10000) (hsr : ∀ i, (same.getD i []).length ≤ 10000) (hg : GrAt w vg g) (hp : PtAt w vp p) (hx : PlAt w vx turn same) (hq : PtAt w vq q) :
  Calls Tryz.prog 10 #[vg, vp, vx, vq] w fun e w' => e = .returned (.int .i64 (Plain.restErr g p q turn same)) ∧ Chg [] w w' := by
 have HRL := lh hrl
 have HSR := lh hsr
 have HQ := lh hq
 clear hrl hsr
 have HG := lh hg
 have HP := lh hp
 have HX := lh hx
 obtain ⟨eo, cap, rfl, hn, hm, hsm, hcell⟩ := hg
 obtain ⟨v1, v2, rfl, hv, he⟩ := hp
 obtain ⟨ao, ac, rfl, has, ham, hacell⟩ := hv
 obtain ⟨bo, bc, rfl, hbs, hbm, hbcell⟩ := he
 have HAC := lh hacell
 have HBC := lh hbcell
 obtain ⟨t1, t2, rfl, ht, hs⟩ := hx
 have HT := lh ht
 have HS := lh hs
 obtain ⟨tno, tc, rfl, htm, -⟩ := ht
 obtain ⟨so, sc, rfl, hsm2, hsc⟩ := hs
 obtain ⟨-, -, hc1⟩ := box_two w #[.int .i64 g.n, .slice eo g.e.length cap] #[.slice ao p.v.length ac, .slice bo p.e.length bc] 24 27
 obtain ⟨-, hc3⟩ := box_three w #[.int .i64 g.n, .slice eo g.e.length cap] #[.slice ao p.v.length ac, .slice bo p.e.length bc] #[.slice tno turn.length tc, .slice so same.length sc] 24 27 30
 have HC1 := lh (hc1.trans hc3 (by simp))
 have HBXS := lh (fun w2 h => three_boxes w (g := g) (p := p) (turn := turn) (same := same) (eo := eo) (ao := ao) (bo := bo) (tno := tno) (so := so) (cap := cap) (ac := ac) (bc := bc) (tc := tc) (sc := sc) (w2 := w2) h)
 clear hcell hacell hbcell hsm hbs has hn hc1 hc3 hsc
 obtain ⟨v3, v4, rfl, hqv1, hqe1⟩ := hq
 have HQV := lh hqv1
 have HQEI := lh hqe1
 obtain ⟨co, cc, rfl, -, -, -⟩ := hqv1
 obtain ⟨fo, fc, rfl, -, -, -⟩ := hqe1
 have HPV := lh (show IntsAt w (.slice ao p.v.length ac) p.v by obtain ⟨v1, v2, e, h, -⟩ := HP.out; cases e; exact h)
 have HPEI := lh (show IntsAt w (.slice bo p.e.length bc) p.e by obtain ⟨v1, v2, e, -, h⟩ := HP.out; cases e; exact h)
 have hcq := (Chg.refl [] (((w.alloc (.cells #[.int .i64 g.n, .slice eo g.e.length cap] 24)).alloc (.cells #[.slice ao p.v.length ac, .slice bo p.e.length bc] 27)).alloc (.cells #[.slice tno turn.length tc, .slice so same.length sc] 30))).alloc (.cells #[.slice co q.v.length cc, .slice fo q.e.length fc] 27)
 have hnq := heap_alloc_new (((w.alloc (.cells #[.int .i64 g.n, .slice eo g.e.length cap] 24)).alloc (.cells #[.slice ao p.v.length ac, .slice bo p.e.length bc] 27)).alloc (.cells #[.slice tno turn.length tc, .slice so same.length sc] 30)) (.cells #[.slice co q.v.length cc, .slice fo q.e.length fc] 27)
 obtain ⟨x0, x1, y0, y1, z0, z1, hsz⟩ := HBXS.out _ hcq
 have hs3 : (((w.alloc (.cells #[.int .i64 g.n, .slice eo g.e.length cap] 24)).alloc (.cells #[.slice ao p.v.length ac, .slice bo p.e.length bc] 27)).alloc (.cells #[.slice tno turn.length tc, .slice so same.length sc] 30)).heap.size = w.heap.size + 3 := by simp
 rw [hs3] at hnq
 have HQ0 := lh ((cell_of_row _ _ 0 _ _ _ hnq).trans (show _ = some (Value.slice co q.v.length cc) from rfl))
 have HQ1 := lh ((cell_of_row _ _ 1 _ _ _ hnq).trans (show _ = some (Value.slice fo q.e.length fc) from rfl))
 have HCQ := lh hcq
 have HCW := lh (HC1.out.trans hcq (by simp))
 clear hcq hnq hs3
 go_enter Tryz.func10, Tryz.ntmps10
 go_wp2_with fail
 refine (refRight8_any _ _ _ g p turn same _ hpl hpv hgl HRL.out hsl HSR.out (HG.out.fresh HCW.out) (HP.out.fresh HCW.out) (HX.out.fresh HCW.out)).mono ?_
 rintro e w2 ⟨rfl, hc2⟩
 have HC2 := lh (HCW.out.trans hc2 (by simp))
 have q0 := hc2.cell HQ0.out (by simp)
 have q1 := hc2.cell HQ1.out (by simp)
 clear x0 x1 y0 y1 z0 z1 hsz
 obtain ⟨x0, x1, y0, y1, z0, z1, hsz⟩ := HBXS.out _ (HCQ.out.trans hc2 (by simp))
 clear hc2
 by_cases hz : Plain.planErr g p turn same = 0
 ·have HZ := lh hz
  rw [hz]
  clear hz
  go_wp2
  have hS0 : Chg [] w2 w2.drew := (Chg.refl [] w2).drew
  refine wp_region_way (Chg [] w2) [0, 1, 3, 4, 5, 6, 7, 8, 10, 11, 12, 13, 14, 15, 16, 17, 18, 19, 20, 22, 23, 24, 25, 26, 27] (Way.line [0, 1, 2, 3, 4, 5, 6, 7, 8, 11, 12, 13, 9, 10, 14, 15, 16, 17, 18, 19, 20, 23, 24, 25, 21, 22, 26, 27] .done) (by kernel_rfl) (by kernel_rfl) ?_
  simp only [Way.line]
  repeat
   first
    | (refine along_off rfl (by rfl) (by rfl) (fun _ _ _ h => h) hS0 ?_; simp only [Act.put, Z1, Z2, Z3, Z4, Z5, Z6])
    | (refine along_read (v := ?_) rfl (by rfl) (by rfl) (fun _ _ _ h => h) hS0 (fun w' hS' => ?_) ?_; rotate_left; (focus (have rd0 := hS'.cell x0 (by simp); have rd1 := hS'.cell x1 (by simp); have rd2 := hS'.cell y0 (by simp); have rd3 := hS'.cell y1 (by simp); have rd4 := hS'.cell q0 (by simp); have rd5 := hS'.cell q1 (by simp); clear hS'; go_simp; try with_reducible rfl)); simp only [Act.put, Z1, Z2, Z3, Z4, Z5, Z6])
    | (refine along_skip rfl (by rfl) (by rfl) hS0 ?_; simp only [Act.put, Z1, Z2, Z3, Z4, Z5, Z6])
  refine along_op rfl (by rfl) (by rfl) (fun K hK => ?_)
  go_simp
  refine (refPart_any _ _ g q _ (by omega) (by omega) hgl (HG.out.fresh (HC2.out.trans hS0 (by simp))) (HQ.out.fresh (HC2.out.trans hS0 (by simp)))).mono ?_
  rintro e w3 ⟨rfl, hcx⟩
  have hS1 := hS0.trans hcx (by simp)
  clear hS0 hcx
  have hS0 := hS1
  clear hS1
  refine hK.out _ _ (fun _ => hS0) ?_
  clear hK K
  try simp only [Act.put, Z1, Z2, Z3, Z4, Z5, Z6]
  by_cases hqe : q.err g = 0
  ·have HE := lh hqe
   rw [hqe]
   clear hqe
   repeat
    first
     | (refine along_off rfl (by rfl) (by rfl) (fun _ _ _ h => h) hS0 ?_; simp only [Act.put, Z1, Z2, Z3, Z4, Z5, Z6])
     | (refine along_read (v := ?_) rfl (by rfl) (by rfl) (fun _ _ _ h => h) hS0 (fun w' hS' => ?_) ?_; rotate_left; (focus (have rd0 := hS'.cell x0 (by simp); have rd1 := hS'.cell x1 (by simp); have rd2 := hS'.cell y0 (by simp); have rd3 := hS'.cell y1 (by simp); have rd4 := hS'.cell q0 (by simp); have rd5 := hS'.cell q1 (by simp); clear hS'; go_simp; try with_reducible rfl)); simp only [Act.put, Z1, Z2, Z3, Z4, Z5, Z6])
     | (refine along_skip rfl (by rfl) (by rfl) hS0 ?_; simp only [Act.put, Z1, Z2, Z3, Z4, Z5, Z6])
   refine along_op rfl (by rfl) (by rfl) (fun K hK => ?_)
   go_simp
   refine (refAnd_any _ _ q.v p.v _ (by omega) (HQV.out.fresh (HC2.out.trans hS0 (by simp))) (HPV.out.fresh (HC2.out.trans hS0 (by simp)))).mono ?_
   rintro e w4 ⟨ov, rfl, hrw, hcx⟩
   have hS1 := hS0.trans hcx (by simp)
   clear hS0 hcx
   have hS0 := hS1
   clear hS1
   refine hK.out _ _ (fun _ => hS0) ?_
   clear hK K
   try simp only [Act.put, Z1, Z2, Z3, Z4, Z5, Z6]
   obtain ⟨oo, oc, rfl⟩ := hrw.shape
   have HIF := lh (Plain.andOf_all (b := p.v) (a := q.v))
   clear hrw
   by_cases hv : Plain.subB q.v p.v = true
   ·have HV := lh hv
    have hle := HIF.out.2 hv
    rw [hle]
    have b1 : ((q.v.length : Int) != (q.v.length : Int)) = false := by simp
    clear hv hle
    repeat
     first
      | (refine along_off rfl (by rfl) (by rfl) (fun _ _ _ h => h) hS0 ?_; simp only [Act.put, Z1, Z2, Z3, Z4, Z5, Z6])
      | (refine along_read (v := ?_) rfl (by rfl) (by rfl) (fun _ _ _ h => h) hS0 (fun w' hS' => ?_) ?_; rotate_left; (focus (have rd0 := hS'.cell x0 (by simp); have rd1 := hS'.cell x1 (by simp); have rd2 := hS'.cell y0 (by simp); have rd3 := hS'.cell y1 (by simp); have rd4 := hS'.cell q0 (by simp); have rd5 := hS'.cell q1 (by simp); clear hS'; go_simp; try with_reducible rfl)); simp only [Act.put, Z1, Z2, Z3, Z4, Z5, Z6])
      | (refine along_skip rfl (by rfl) (by rfl) hS0 ?_; simp only [Act.put, Z1, Z2, Z3, Z4, Z5, Z6])
    refine along_op rfl (by rfl) (by rfl) (fun K hK => ?_)
    go_simp
    refine (refAnd_any _ _ q.e p.e _ (by omega) (HQEI.out.fresh (HC2.out.trans hS0 (by simp))) (HPEI.out.fresh (HC2.out.trans hS0 (by simp)))).mono ?_
    rintro e w5 ⟨ov, rfl, hrw, hcx⟩
    have hS1 := hS0.trans hcx (by simp)
    clear hS0 hcx
    have hS0 := hS1
    clear hS1
    refine hK.out _ _ (fun _ => hS0) ?_
    clear hK K
    try simp only [Act.put, Z1, Z2, Z3, Z4, Z5, Z6]
    obtain ⟨oo2, oc2, rfl⟩ := hrw.shape
    have HIF2 := lh (Plain.andOf_all (b := p.e) (a := q.e))
    clear hrw
    by_cases he : Plain.subB q.e p.e = true
    ·have hle := HIF2.out.2 he
     rw [hle]
     have HR := lh (restErr_zero HZ.out HE.out HV.out he)
     have b2 : ((q.e.length : Int) != (q.e.length : Int)) = false := by simp
     clear he hle
     repeat
      first
       | (refine along_off rfl (by rfl) (by rfl) (fun _ _ _ h => h) hS0 ?_; simp only [Act.put, Z1, Z2, Z3, Z4, Z5, Z6])
       | (refine along_read (v := ?_) rfl (by rfl) (by rfl) (fun _ _ _ h => h) hS0 (fun w' hS' => ?_) ?_; rotate_left; (focus (have rd0 := hS'.cell x0 (by simp); have rd1 := hS'.cell x1 (by simp); have rd2 := hS'.cell y0 (by simp); have rd3 := hS'.cell y1 (by simp); have rd4 := hS'.cell q0 (by simp); have rd5 := hS'.cell q1 (by simp); clear hS'; go_simp; try with_reducible rfl)); simp only [Act.put, Z1, Z2, Z3, Z4, Z5, Z6])
       | (refine along_skip rfl (by rfl) (by rfl) hS0 ?_; simp only [Act.put, Z1, Z2, Z3, Z4, Z5, Z6])
     refine along_done ?_
     have HCF := lh (HC2.out.trans hS0 (by simp))
     clear x0 x1 y0 y1 z0 z1 q0 q1 hsz hS0
     go_wp2
     go_ret
     exact ⟨ret_int HR.out.symm, HCF.out⟩
    have hle : (Plain.andOf p.e q.e).length ≠ q.e.length := fun h => he (HIF2.out.1 h)
    have HR := lh (restErr_four (p := p) (q := q) HZ.out (fun h => he h.2.2))
    obtain ⟨m, hm⟩ : ∃ m, (Plain.andOf p.e q.e).length = m := ⟨_, rfl⟩
    rw [hm] at hle ⊢
    have b2 : ((m : Int) != (q.e.length : Int)) = true := bne_iff_ne.2 (by omega)
    clear he hle hm
    repeat
     first
      | (refine along_off rfl (by rfl) (by rfl) (fun _ _ _ h => h) hS0 ?_; simp only [Act.put, Z1, Z2, Z3, Z4, Z5, Z6])
      | (refine along_read (v := ?_) rfl (by rfl) (by rfl) (fun _ _ _ h => h) hS0 (fun w' hS' => ?_) ?_; rotate_left; (focus (have rd0 := hS'.cell x0 (by simp); have rd1 := hS'.cell x1 (by simp); have rd2 := hS'.cell y0 (by simp); have rd3 := hS'.cell y1 (by simp); have rd4 := hS'.cell q0 (by simp); have rd5 := hS'.cell q1 (by simp); clear hS'; go_simp; try with_reducible rfl)); simp only [Act.put, Z1, Z2, Z3, Z4, Z5, Z6])
      | (refine along_skip rfl (by rfl) (by rfl) hS0 ?_; simp only [Act.put, Z1, Z2, Z3, Z4, Z5, Z6])
    refine along_done ?_
    have HCF := lh (HC2.out.trans hS0 (by simp))
    clear x0 x1 y0 y1 z0 z1 q0 q1 hsz hS0
    go_wp2
    go_ret
    exact ⟨ret_int HR.out.symm, HCF.out⟩
   have hle : (Plain.andOf p.v q.v).length ≠ q.v.length := fun h => hv (HIF.out.1 h)
   have HR := lh (restErr_four (p := p) (q := q) HZ.out (fun h => hv h.2.1))
   obtain ⟨m, hm⟩ : ∃ m, (Plain.andOf p.v q.v).length = m := ⟨_, rfl⟩
   rw [hm] at hle ⊢
   have b1 : ((m : Int) != (q.v.length : Int)) = true := bne_iff_ne.2 (by omega)
   clear hv hle hm
   repeat
    first
     | (refine along_off rfl (by rfl) (by rfl) (fun _ _ _ h => h) hS0 ?_; simp only [Act.put, Z1, Z2, Z3, Z4, Z5, Z6])
     | (refine along_read (v := ?_) rfl (by rfl) (by rfl) (fun _ _ _ h => h) hS0 (fun w' hS' => ?_) ?_; rotate_left; (focus (have rd0 := hS'.cell x0 (by simp); have rd1 := hS'.cell x1 (by simp); have rd2 := hS'.cell y0 (by simp); have rd3 := hS'.cell y1 (by simp); have rd4 := hS'.cell q0 (by simp); have rd5 := hS'.cell q1 (by simp); clear hS'; go_simp; try with_reducible rfl)); simp only [Act.put, Z1, Z2, Z3, Z4, Z5, Z6])
     | (refine along_skip rfl (by rfl) (by rfl) hS0 ?_; simp only [Act.put, Z1, Z2, Z3, Z4, Z5, Z6])
   refine along_done ?_
   have HCF := lh (HC2.out.trans hS0 (by simp))
   clear x0 x1 y0 y1 z0 z1 q0 q1 hsz hS0
   go_wp2
   go_ret
   exact ⟨ret_int HR.out.symm, HCF.out⟩
  have HR := lh (restErr_four (p := p) (q := q) HZ.out (fun h => hqe h.1))
  have b1 : (q.err g != 0) = true := by simpa using hqe
  clear hqe
  repeat
   first
    | (refine along_off rfl (by rfl) (by rfl) (fun _ _ _ h => h) hS0 ?_; simp only [Act.put, Z1, Z2, Z3, Z4, Z5, Z6])
    | (refine along_read (v := ?_) rfl (by rfl) (by rfl) (fun _ _ _ h => h) hS0 (fun w' hS' => ?_) ?_; rotate_left; (focus (have rd0 := hS'.cell x0 (by simp); have rd1 := hS'.cell x1 (by simp); have rd2 := hS'.cell y0 (by simp); have rd3 := hS'.cell y1 (by simp); have rd4 := hS'.cell q0 (by simp); have rd5 := hS'.cell q1 (by simp); clear hS'; go_simp; try with_reducible rfl)); simp only [Act.put, Z1, Z2, Z3, Z4, Z5, Z6])
    | (refine along_skip rfl (by rfl) (by rfl) hS0 ?_; simp only [Act.put, Z1, Z2, Z3, Z4, Z5, Z6])
  refine along_done ?_
  have HCF := lh (HC2.out.trans hS0 (by simp))
  clear x0 x1 y0 y1 z0 z1 q0 q1 hsz hS0
  go_wp2
  go_ret
  exact ⟨ret_int HR.out.symm, HCF.out⟩
 have HR := lh (restErr_plan (q := q) hz)
 have b1 : (Plain.planErr g p turn same != 0) = true := by simpa using hz
 clear hz x0 x1 y0 y1 z0 z1 q0 q1 hsz
 go_wp2
 go_ret
 exact ⟨ret_int HR.out.symm, HC2.out⟩
end Go.Proofs.YtckjpaimbmlboaaGreat
