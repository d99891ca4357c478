/- the law PlanLone: the walk. Conditions: a graph, a part, turns that lie in memory and read so. -/
import Derived.Test.YtpbljifejopecaaVAwake8
import Derived.Test.YtpbljifejopecaaVFirstP
import Derived.Test.YtpbljifejopecaaVRef1
import Derived.Test.YtpbljifejopecaaVRefS
namespace Go.Proofs.Ytpbljifejopecaa
open Go.RowKit Go.Maps

namespace Plain
theorem small6_is {g : Gr} {p : Pt} {turn : List (List Int)} (h : small6 g p turn = true) : g.e.length ≤ 60 ∧ p.v.length ≤ 60 ∧ p.e.length ≤ 60 ∧ turn.length ≤ 100 ∧ ∀ i, (turn.getD i []).length ≤ 200 := by
  unfold small6 small4 at h
  simp only [Bool.and_eq_true] at h
  obtain ⟨⟨⟨⟨⟨h1, h2⟩, h3⟩, h4⟩, h5⟩, h6⟩ := h
  exact ⟨of_decide_eq_true h1, of_decide_eq_true h2, of_decide_eq_true h3, of_decide_eq_true h5, getD_le (all_le h6)⟩
theorem first_row (turn : List (List Int)) (i : Nat) : ((turn.map first).getD i []).length = (turn.getD i []).length := by
  unfold List.getD
  rw [List.getElem?_map]
  cases turn[i]? with
  | none => rfl
  | some l => exact (first_perm l).length_eq
end Plain

set_option maxRecDepth 100000 in
set_option maxHeartbeats 8000000 in
theorem planLone_any (vg vp vt : Value) (g : Plain.Gr) (p : Plain.Pt) (turn : List (List Int)) (w : World) (hg : GrAt w vg g) (hp : PtAt w vp p) (ht : RowsAt w vt turn) :
    Calls Try.prog 3 #[vg, vp, vt] w fun e w' => e = .returned (.bool true) ∧ Chg [] w w' := by
  have HT := Lib.hid ht
  have HG := Lib.hid hg
  have HP := Lib.hid hp
  obtain ⟨eo, cap, rfl, hn, hm, hsm, hcell⟩ := hg
  obtain ⟨v1, v2, rfl, hv, he⟩ := hp
  obtain ⟨ao, ac, rfl, has, ham, hacell⟩ := hv
  obtain ⟨bo, bc, rfl, hbs, hbm, hbcell⟩ := he
  have HAC := Lib.hid hacell
  have HBC := Lib.hid hbcell
  have HAS := Lib.hid has
  have HBS := Lib.hid hbs
  obtain ⟨-, -, hc1⟩ := box_two w #[.int .i64 g.n, .slice eo g.e.length cap] #[.slice ao p.v.length ac, .slice bo p.e.length bc] 24 27
  have HC1 := Lib.hid hc1
  have HBXS := Lib.hid (fun w2 h => two_boxes w (g := g) (p := p) (eo := eo) (ao := ao) (bo := bo) (cap := cap) (ac := ac) (bc := bc) (w2 := w2) h)
  clear hcell hacell hbcell hsm has hbs hn hc1
  obtain ⟨tno, tc, rfl, htm, -⟩ := ht
  go_enter Try.func3, Try.ntmps3
  go_wp2_with fail
  refine (awake8_any _).mono ?_
  rintro e w2 ⟨rfl, hc2⟩
  obtain ⟨x0, x1, y0, y1, hsz⟩ := HBXS.out w2 hc2
  have HC2 := Lib.hid (HC1.out.trans hc2 (by simp))
  have HC2B := Lib.hid hc2
  clear hc2
  go_wp2_with fail
  refine (small6_any _ _ _ g p turn _ (HG.out.fresh HC2.out) (HP.out.fresh HC2.out) (HT.out.fresh HC2.out)).mono ?_
  rintro e w3 ⟨rfl, hc3⟩
  have HC3 := Lib.hid (HC2.out.trans hc3 (by simp))
  have HC3B := Lib.hid (HC2B.out.trans hc3 (by simp))
  clear x0 x1 y0 y1 hsz hc3
  cases hb : Plain.small6 g p turn with
  | false =>
    rw [show bit false = 0 from rfl]
    clear hb
    go_wp2_with fail
    refine (awake8_any _).mono ?_
    rintro e w4 ⟨rfl, hc4⟩
    have HC4 := Lib.hid (HC3.out.trans hc4 (by simp))
    clear hc4
    go_wp2
    go_ret
    exact ⟨rfl, HC4.out⟩
  | true =>
    obtain ⟨b1, b2, b3, b4, b5⟩ := Plain.small6_is hb
    have HRL := Lib.hid (fun v => Nat.lt_of_le_of_lt (b5 (Int.toNat v)) (by decide : 200 < 4294967296))
    have HB5 := Lib.hid b5
    have HSL := Lib.hid (Plain.sumLen_le b5 turn.length)
    rw [show bit true = 1 from rfl]
    obtain ⟨x0, x1, y0, y1, hsz⟩ := HBXS.out w3 HC3B.out
    clear hb b5
    go_wp2_with fail
    refine (lone_any _ _ _ g p turn _ (by omega) (by omega) (by omega) (by have := HSL.out; omega) (fun i => by have := HB5.out i; omega) (HG.out.fresh HC3.out) (HP.out.fresh HC3.out) (HT.out.fresh HC3.out)).mono ?_
    rintro e w4 ⟨vy, rfl, hbad, hok, hc4⟩
    have HC4 := Lib.hid (HC3.out.trans hc4 (by simp))
    have HC4B := Lib.hid (HC3B.out.trans hc4 (by simp))
    clear x0 x1 y0 y1 hsz hc4
    by_cases hz : Plain.loneErr g p turn = 0
    · obtain ⟨o1, k1, o2, k2, rfl, hpl⟩ := hok hz
      have hfe : Plain.flatErr g p turn = 0 := by
        unfold Plain.loneErr at hz
        split at hz
        · rename_i q; exact absurd hz q
        · rename_i q; exact Classical.byContradiction q
      have hrt : (Plain.roots g p).length ≤ 1 := by
        unfold Plain.loneErr at hz
        rw [if_neg (by simp [hfe])] at hz
        split at hz
        · assumption
        · cases hz
      have HPZ := Lib.hid (Plain.lone_plan hz)
      have HFE := Lib.hid hfe
      have HTE := Lib.hid (Plain.flatErr_zero hfe).1
      have hset : Chg [] w4 (w4.alloc (.cells #[.slice o1 turn.length k1, .slice o2 0 k2] 32)) := (Chg.refl [] w4).alloc _
      have hheap := heap_alloc_new w4 (.cells #[.slice o1 turn.length k1, .slice o2 0 k2] 32)
      have HF0 := Lib.hid ((cell_of_row _ _ 0 _ _ _ hheap).trans (show _ = some (Value.slice o1 turn.length k1) from rfl))
      have HF1 := Lib.hid ((cell_of_row _ _ 1 _ _ _ hheap).trans (show _ = some (Value.slice o2 0 k2) from rfl))
      have HPL := Lib.hid hpl
      have HCS := Lib.hid hset
      obtain ⟨x0, x1, y0, y1, hsz⟩ := HBXS.out _ (HC4B.out.trans hset (by simp))
      rw [hz]
      clear hbad hok hz hfe hset hheap hpl
      go_wp2_with fail
      generalize (w4.alloc (.cells #[.slice o1 turn.length k1, .slice o2 0 k2] 32)) = w5 at *
      generalize w4.heap.size = xb at *
      have HC5 := Lib.hid (HC4.out.trans HCS.out (by simp))
      have HC5B := Lib.hid (HC4B.out.trans HCS.out (by simp))
      refine (refTurn_any _ _ _ g p turn _ (by omega) (by omega) (by omega) (HG.out.fresh HC5.out) (HP.out.fresh HC5.out) (HT.out.fresh HC5.out)).mono ?_
      rintro e w6 ⟨rfl, hc6⟩
      rw [HTE.out]
      have HC6 := Lib.hid (HC5.out.trans hc6 (by simp))
      have HC56 := Lib.hid hc6
      clear x0 x1 y0 y1 hsz hc6
      obtain ⟨x0, x1, y0, y1, hsz⟩ := HBXS.out w6 (HC5B.out.trans HC56.out (by simp))
      go_wp2_with fail
      refine (refSphere_any _ _ _ g p turn _ (by omega) (by omega) (by omega) HRL.out (HG.out.fresh HC6.out) (HP.out.fresh HC6.out) (HT.out.fresh HC6.out)).mono ?_
      rintro e w7 ⟨rfl, hc7⟩
      rw [decide_eq_true HFE.out]
      have HC7 := Lib.hid (HC6.out.trans hc7 (by simp))
      have HC57 := Lib.hid (HC56.out.trans hc7 (by simp))
      clear x0 x1 y0 y1 hsz hc7
      obtain ⟨x0, x1, y0, y1, hsz⟩ := HBXS.out w7 (HC5B.out.trans HC57.out (by simp))
      go_wp2_with fail
      refine (refPieces_any _ _ g p _ (by omega) (by omega) (Plain.turnErr_zero HTE.out).1 (HG.out.fresh HC7.out) (HP.out.fresh HC7.out)).mono ?_
      rintro e w8 ⟨po, pc, rfl, hc8⟩
      have HC8 := Lib.hid (HC7.out.trans hc8 (by simp))
      have HC58 := Lib.hid (HC57.out.trans hc8 (by simp))
      clear x0 x1 y0 y1 hsz hc8
      obtain ⟨x0, x1, y0, y1, hsz⟩ := HBXS.out w8 (HC5B.out.trans HC58.out (by simp))
      have m0 := HC58.out.cell HF0.out (by simp)
      have m1 := HC58.out.cell HF1.out (by simp)
      obtain ⟨rn, hrn⟩ : ∃ rn, (Plain.roots g p).length = rn := ⟨_, rfl⟩
      rw [hrn] at hrt ⊢
      have bl : decide ((rn : Int) > 1) = false := decide_eq_false (by omega)
      clear hrn
      go_wp2
      have hS0 : Chg [] w8 w8.drew := (Chg.refl [] w8).drew
      refine wp_region_way (Chg [] w8) [0, 1, 2, 3, 4, 5, 6, 7, 8, 9, 10, 11, 14, 15, 16, 17, 18, 20, 21] (Way.line [0, 1, 2, 3, 4, 5, 6, 7, 8, 9, 10, 11, 12, 13, 14, 15, 16, 17, 18, 19, 20, 21, 22] .done) (by kernel_rfl) (by kernel_rfl) ?_
      simp only [Way.line]
      repeat
        first
          | (refine along_off rfl (by rfl) (by rfl) (fun _ _ _ h => h) hS0 ?_; simp only [Act.put, List.getElem_toArray, List.getElem_cons_zero, List.getElem_cons_succ, List.setIfInBounds_toArray, List.set_cons_zero, List.set_cons_succ])
          | (refine along_read (v := ?_) rfl (by rfl) (by rfl) (fun _ _ _ h => h) hS0 (fun w' hS' => ?_) ?_; rotate_left; (focus (have rd0 := hS'.cell x0 (by simp); have rd1 := hS'.cell x1 (by simp); have rd2 := hS'.cell y0 (by simp); have rd3 := hS'.cell y1 (by simp); have rd4 := hS'.cell m0 (by simp); have rd5 := hS'.cell m1 (by simp); clear hS'; go_simp; try with_reducible rfl)); simp only [Act.put, List.getElem_toArray, List.getElem_cons_zero, List.getElem_cons_succ, List.setIfInBounds_toArray, List.set_cons_zero, List.set_cons_succ])
          | (refine along_skip rfl (by rfl) (by rfl) hS0 ?_; simp only [Act.put, List.getElem_toArray, List.getElem_cons_zero, List.getElem_cons_succ, List.setIfInBounds_toArray, List.set_cons_zero, List.set_cons_succ])
      have HTQ := Lib.hid (HT.out.fresh (HC8.out.trans hS0 (by simp)))
      refine along_op rfl (by rfl) (by rfl) (fun K hK => ?_)
      go_simp
      refine (refFirsts_any _ turn _ (by omega) (fun i => by have := HB5.out i; omega) HTQ.out).mono ?_
      rintro e w9 ⟨fv, fs, rfl, -, hrd, hcx⟩
      have hS1 := hS0.trans hcx (by simp)
      clear hS0 hcx
      have hS0 := hS1
      clear hS1
      obtain ⟨fo, fc, e1, -, -⟩ := id hrd
      subst e1
      rw [List.length_map] at hrd ⊢
      have HRD := Lib.hid hrd
      refine hK.out _ _ (fun _ => hS0) ?_
      clear hK K hrd
      try simp only [Act.put, List.getElem_toArray, List.getElem_cons_zero, List.getElem_cons_succ, List.setIfInBounds_toArray, List.set_cons_zero, List.set_cons_succ]
      have hpq := HPL.out.fresh (HCS.out.trans (HC58.out.trans hS0 (by simp)) (by simp))
      obtain ⟨u1, u2, e2, hq1, hq2⟩ := hpq
      obtain ⟨rfl, rfl⟩ : Value.slice o1 turn.length k1 = u1 ∧ Value.slice o2 0 k2 = u2 := by simpa using e2
      have HQ1 := Lib.hid hq1
      have HQ2 := Lib.hid hq2
      clear e2 hq1 hq2
      refine along_op rfl (by rfl) (by rfl) (fun K hK => ?_)
      go_simp
      refine (refEquals_any _ _ (turn.map Plain.first) (turn.map Plain.first) _ HQ1.out HRD.out).mono ?_
      rintro e w10 ⟨rfl, hcx⟩
      have hS1 := hS0.trans hcx (by simp)
      clear hS0 hcx
      have hS0 := hS1
      clear hS1
      refine hK.out _ _ (fun _ => hS0) ?_
      clear hK K
      try simp only
      repeat
        first
          | (refine along_off rfl (by rfl) (by rfl) (fun _ _ _ h => h) hS0 ?_; simp only [Act.put, List.getElem_toArray, List.getElem_cons_zero, List.getElem_cons_succ, List.setIfInBounds_toArray, List.set_cons_zero, List.set_cons_succ])
          | (refine along_read (v := ?_) rfl (by rfl) (by rfl) (fun _ _ _ h => h) hS0 (fun w' hS' => ?_) ?_; rotate_left; (focus (have rd0 := hS'.cell x0 (by simp); have rd1 := hS'.cell x1 (by simp); have rd2 := hS'.cell y0 (by simp); have rd3 := hS'.cell y1 (by simp); have rd4 := hS'.cell m0 (by simp); have rd5 := hS'.cell m1 (by simp); clear hS'; go_simp; try with_reducible rfl)); simp only [Act.put, List.getElem_toArray, List.getElem_cons_zero, List.getElem_cons_succ, List.setIfInBounds_toArray, List.set_cons_zero, List.set_cons_succ])
          | (refine along_skip rfl (by rfl) (by rfl) hS0 ?_; simp only [Act.put, List.getElem_toArray, List.getElem_cons_zero, List.getElem_cons_succ, List.setIfInBounds_toArray, List.set_cons_zero, List.set_cons_succ])
      have HPQ := Lib.hid (HPL.out.fresh (HCS.out.trans (HC58.out.trans hS0 (by simp)) (by simp)))
      refine along_op rfl (by rfl) (by rfl) (fun K hK => ?_)
      go_simp
      refine (right_any _ _ _ g p (turn.map Plain.first) [] _ (by omega) (by omega) (by rw [List.length_map]; omega) (by rw [List.length_map]; have := Plain.sumLen_le (T := turn.map Plain.first) (fun i => by rw [Plain.first_row]; exact HB5.out i) turn.length; omega) (by simp) (by simp) (HG.out.fresh (HC8.out.trans hS0 (by simp))) (HP.out.fresh (HC8.out.trans hS0 (by simp))) HPQ.out).mono ?_
      rintro e w11 ⟨rfl, hcx⟩
      have hS1 := hS0.trans hcx (by simp)
      clear hS0 hcx
      have hS0 := hS1
      clear hS1
      refine hK.out _ _ (fun _ => hS0) ?_
      clear hK K
      try simp only [Act.put, List.getElem_toArray, List.getElem_cons_zero, List.getElem_cons_succ, List.setIfInBounds_toArray, List.set_cons_zero, List.set_cons_succ]
      rw [HPZ.out]
      repeat
        first
          | (refine along_off rfl (by rfl) (by rfl) (fun _ _ _ h => h) hS0 ?_; simp only [Act.put, List.getElem_toArray, List.getElem_cons_zero, List.getElem_cons_succ, List.setIfInBounds_toArray, List.set_cons_zero, List.set_cons_succ])
          | (refine along_read (v := ?_) rfl (by rfl) (by rfl) (fun _ _ _ h => h) hS0 (fun w' hS' => ?_) ?_; rotate_left; (focus (have rd0 := hS'.cell x0 (by simp); have rd1 := hS'.cell x1 (by simp); clear hS'; go_simp; try with_reducible rfl)); simp only [Act.put, List.getElem_toArray, List.getElem_cons_zero, List.getElem_cons_succ, List.setIfInBounds_toArray, List.set_cons_zero, List.set_cons_succ])
          | (refine along_skip rfl (by rfl) (by rfl) hS0 ?_; simp only [Act.put, List.getElem_toArray, List.getElem_cons_zero, List.getElem_cons_succ, List.setIfInBounds_toArray, List.set_cons_zero, List.set_cons_succ])
      refine along_op rfl (by rfl) (by rfl) (fun K hK => ?_)
      go_simp
      refine hK.out _ _ (fun _ => hS0) ?_
      clear hK K
      try simp only [Act.put, List.getElem_toArray, List.getElem_cons_zero, List.getElem_cons_succ, List.setIfInBounds_toArray, List.set_cons_zero, List.set_cons_succ]
      refine along_done ?_
      have HCF := Lib.hid (HC8.out.trans hS0 (by simp))
      clear x0 x1 y0 y1 hsz m0 m1 hS0
      go_wp2
      go_ret
      exact ⟨rfl, HCF.out⟩
    · have hov := hbad hz
      subst hov
      have hset : Chg [] w4 (w4.alloc (.cells #[.slice none 0 0, .slice none 0 0] 32)) := (Chg.refl [] w4).alloc _
      have hheap := heap_alloc_new w4 (.cells #[.slice none 0 0, .slice none 0 0] 32)
      have HF0 := Lib.hid ((cell_of_row _ _ 0 _ _ _ hheap).trans (show _ = some (Value.slice none 0 0) from rfl))
      have HF1 := Lib.hid ((cell_of_row _ _ 1 _ _ _ hheap).trans (show _ = some (Value.slice none 0 0) from rfl))
      have HCS := Lib.hid hset
      have HNZ := Lib.hid hz
      obtain ⟨x0, x1, y0, y1, hsz⟩ := HBXS.out _ (HC4B.out.trans hset (by simp))
      obtain ⟨er, her⟩ : ∃ er, Plain.loneErr g p turn = er := ⟨_, rfl⟩
      have HER := Lib.hid her
      rw [her] at HNZ ⊢
      clear hbad hok hz hset hheap her
      go_wp2_with fail
      generalize (w4.alloc (.cells #[.slice none 0 0, .slice none 0 0] 32)) = w5 at *
      generalize w4.heap.size = xb at *
      have HC5 := Lib.hid (HC4.out.trans HCS.out (by simp))
      have HC5B := Lib.hid (HC4B.out.trans HCS.out (by simp))
      refine (refTurn_any _ _ _ g p turn _ (by omega) (by omega) (by omega) (HG.out.fresh HC5.out) (HP.out.fresh HC5.out) (HT.out.fresh HC5.out)).mono ?_
      rintro e w6 ⟨rfl, hc6⟩
      have HC6 := Lib.hid (HC5.out.trans hc6 (by simp))
      have HC56 := Lib.hid hc6
      clear x0 x1 y0 y1 hsz hc6
      obtain ⟨x0, x1, y0, y1, hsz⟩ := HBXS.out w6 (HC5B.out.trans HC56.out (by simp))
      by_cases hte : Plain.turnErr g p turn = 0
      · have HTE := Lib.hid hte
        rw [hte]
        clear hte
        go_wp2_with fail
        refine (refSphere_any _ _ _ g p turn _ (by omega) (by omega) (by omega) HRL.out (HG.out.fresh HC6.out) (HP.out.fresh HC6.out) (HT.out.fresh HC6.out)).mono ?_
        rintro e w7 ⟨rfl, hc7⟩
        have HC7 := Lib.hid (HC6.out.trans hc7 (by simp))
        have HC57 := Lib.hid (HC56.out.trans hc7 (by simp))
        clear x0 x1 y0 y1 hsz hc7
        obtain ⟨x0, x1, y0, y1, hsz⟩ := HBXS.out w7 (HC5B.out.trans HC57.out (by simp))
        have m0 := HC57.out.cell HF0.out (by simp)
        have m1 := HC57.out.cell HF1.out (by simp)
        by_cases hfe : Plain.flatErr g p turn = 0
        · rw [decide_eq_true hfe]
          have HRT := Lib.hid (show ¬ (Plain.roots g p).length ≤ 1 ∧ er = 10 by
            have h := HER.out
            unfold Plain.loneErr at h
            rw [if_neg (by simp [hfe])] at h
            split at h
            · exact absurd h.symm HNZ.out
            · rename_i q; exact ⟨q, h.symm⟩)
          obtain ⟨hrt, rfl⟩ := HRT.out
          clear hfe m0 m1
          go_wp2_with fail
          refine (refPieces_any _ _ g p _ (by omega) (by omega) (Plain.turnErr_zero HTE.out).1 (HG.out.fresh HC7.out) (HP.out.fresh HC7.out)).mono ?_
          rintro e w8 ⟨po, pc, rfl, hc8⟩
          have HC8 := Lib.hid (HC7.out.trans hc8 (by simp))
          have HC58 := Lib.hid (HC57.out.trans hc8 (by simp))
          clear x0 x1 y0 y1 hsz hc8
          have m0 := HC58.out.cell HF0.out (by simp)
          have m1 := HC58.out.cell HF1.out (by simp)
          obtain ⟨rn, hrn⟩ : ∃ rn, (Plain.roots g p).length = rn := ⟨_, rfl⟩
          rw [hrn] at hrt ⊢
          have bl : decide ((rn : Int) > 1) = true := decide_eq_true (by omega)
          clear hrn hrt
          go_wp2
          go_ret
          exact ⟨rfl, HC8.out⟩
        · rw [decide_eq_false hfe]
          have HE6 := Lib.hid (show er = 6 by
            have h := HER.out
            unfold Plain.loneErr at h
            rw [if_pos hfe, Plain.flatErr_bad HTE.out (fun q => hfe (Plain.flatErr_ok HTE.out q))] at h
            exact h.symm)
          obtain rfl := HE6.out
          clear hfe
          go_wp2
          go_ret
          exact ⟨rfl, HC7.out⟩
      · have HE6 := Lib.hid (show er = Plain.turnErr g p turn by
          have h := HER.out
          unfold Plain.loneErr at h
          rw [if_pos (by rw [Plain.flatErr_turn hte]; exact hte), Plain.flatErr_turn hte] at h
          exact h.symm)
        rw [← HE6.out]
        rw [← HE6.out] at hte
        have m0 := HC56.out.cell HF0.out (by simp)
        have m1 := HC56.out.cell HF1.out (by simp)
        have b1 : (er == 0) = false := by rw [beq_eq_false_iff_ne]; exact hte
        have b2 : (er != 0) = true := by simp only [bne_iff_ne]; exact hte
        have b3' : (er == er) = true := by simp
        clear hte
        go_wp2
        go_ret
        exact ⟨rfl, HC6.out⟩
end Go.Proofs.Ytpbljifejopecaa
