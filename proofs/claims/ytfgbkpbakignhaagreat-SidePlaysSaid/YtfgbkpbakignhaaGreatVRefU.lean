/- ref06: the contract of Right. Conditions: a graph, a part, turns that lie in memory and read so, of a bounded size. -/
import Derived.Test.YtfgbkpbakignhaaGreatVRefT
import Derived.Test.YtfgbkpbakignhaaGreatVRefF
import Derived.Test.YtfgbkpbakignhaaGreatVRefQ
namespace Go.Proofs.YtfgbkpbakignhaaGreat
open Go.RowKit Go.Maps

set_option maxRecDepth 100000 in
set_option maxHeartbeats 4000000 in
theorem refTurn_any (vg vp vt : Value) (g : Plain.Gr) (p : Plain.Pt) (turn : List (List Int)) (w : World) (hpl : p.e.length ≤ 1000000) (hpv : p.v.length ≤ 1000000) (hgl : g.e.length < 4294967296) (hg : GrAt w vg g) (hp : PtAt w vp p) (ht : RowsAt w vt turn) :
  Calls Tryz.prog 32 #[vg, vp, vt] w fun e w' => e = .returned (.int .i64 (Plain.turnErr g p turn)) ∧ Chg [] w w' := by
 have HT := Lib.hid ht
 have HG := Lib.hid hg
 have HP := Lib.hid hp
 obtain ⟨eo, cap, rfl, hn, hm, hsm, hcell⟩ := hg
 obtain ⟨v1, v2, rfl, hv, he⟩ := hp
 obtain ⟨ao, ac, rfl, has, ham, hacell⟩ := hv
 obtain ⟨bo, bc, rfl, hbs, hbm, hbcell⟩ := he
 have HAC := Lib.hid hacell
 have HBC := Lib.hid hbcell
 have HAS := Lib.hid has
 have HBS := Lib.hid hbs
 obtain ⟨-, -, hc1⟩ := box_two w #[.int .i64 g.n, .slice eo g.e.length cap] #[.slice ao p.v.length ac, .slice bo p.e.length bc] 24 27
 have HC1 := Lib.hid hc1
 have HBXS := Lib.hid (fun w2 h => two_boxes w (g := g) (p := p) (eo := eo) (ao := ao) (bo := bo) (cap := cap) (ac := ac) (bc := bc) (w2 := w2) h)
 clear hcell hacell hbcell hsm has hbs hn hc1
 obtain ⟨tno, tc, rfl, htm, -⟩ := ht
 obtain ⟨x0, x1, y0, y1, hsz⟩ := HBXS.out _ (Chg.refl _ _)
 go_enter Tryz.func32, Tryz.ntmps32
 go_wp2_with fail
 refine (refPart_any _ _ g p _ (by omega) (by omega) hgl (HG.out.fresh HC1.out) (HP.out.fresh HC1.out)).mono ?_
 rintro e w2 ⟨rfl, hc2⟩
 obtain ⟨w1, hw1⟩ : ∃ w1, ((w.alloc (.cells #[.int .i64 g.n, .slice eo g.e.length cap] 24)).alloc (.cells #[.slice ao p.v.length ac, .slice bo p.e.length bc] 27)) = w1 := ⟨_, rfl⟩
 rw [hw1] at HC1 HBXS hc2
 clear hw1 x0 x1 y0 y1 hsz
 have HC2 := Lib.hid hc2
 have HT1 := Lib.hid (HT.out.fresh HC1.out)
 obtain ⟨x0, x1, y0, y1, hsz⟩ := HBXS.out w2 hc2
 clear hc2
 by_cases hpe : p.err g = 0
 ·rw [hpe]
  have HPE := Lib.hid hpe
  have HPO := Lib.hid (Plain.Pt.ok_of_err hpe)
  have HGE := Lib.hid (Plain.Gr.err_ok (Plain.Pt.err_ok hpe).1)
  clear hpe
  by_cases hl : (turn.length : Int) = g.n
  ·have hgn : g.n ≤ 1024 := HGE.out.2.1
   have HL := Lib.hid hl
   have b1 : ((turn.length : Int) != g.n) = false := by rw [hl]; simp
   clear hl
   go_wp2
   go_loopw [8] (fun c wr => ∃ k : Nat, k ≤ turn.length ∧ c = .int .i64 k ∧ Hid (∀ i, i < k → Plain.rowOk g p turn (i : Nat)) ∧ Chg [] w1 wr) (fun c _ => turn.length - (intOf c).toNat)
   case atStart => exact ⟨0, Nat.zero_le _, rfl, Lib.hid (fun i hi => by omega), HC2.out⟩
   case round =>
    obtain ⟨k, hk, rfl, hall, hc⟩ := hrel
    have HC := Lib.hid hc
    obtain ⟨x0, x1, y0, y1, hsz⟩ := HBXS.out wr hc
    clear hc
    by_cases hlt : k < turn.length
    ·have bk : decide ((k : Int) < g.n) = true := decide_eq_true (by have := HL.out; omega)
     have HBAD := Lib.hid (fun h => Plain.turnErr_row (g := g) (p := p) (turn := turn) HPE.out (v := k) (by have := HL.out; omega) h)
     have HRI := Lib.hid (show Plain.rowOk g p turn (k : Nat) ↔ (Plain.dartsAt g p k).length = (turn.getD k []).length ∧ (turn.getD k []).Nodup ∧ ∀ d ∈ Plain.dartsAt g p k, d ∈ turn.getD k [] by unfold Plain.rowOk Plain.turnAt; rw [Int.toNat_natCast])
     obtain ⟨tb, toff, uo, uc, rfl, hcell, hrow⟩ := HT1.out.row hlt
     have HTC := Lib.hid hcell
     have HROW := Lib.hid hrow
     obtain ⟨T, hT⟩ : ∃ T, turn.getD k [] = T := ⟨_, rfl⟩
     rw [hT] at HRI HTC HROW
     clear hcell hrow hT
     go_wp2_with fail
     refine (refDarts_any _ _ g p k _ hpl HPE.out ((HG.out.fresh HC1.out).fresh HC.out) ((HP.out.fresh HC1.out).fresh HC.out)).mono ?_
     rintro e w3 ⟨ov, rfl, hov, hc3⟩
     obtain ⟨oo, oc, rfl⟩ := hov.shape
     have HOV := Lib.hid hov.ints
     have HC3 := Lib.hid (HC.out.trans hc3 (by simp))
     clear x0 x1 y0 y1 hsz hov hc3
     obtain ⟨x0, x1, y0, y1, hsz⟩ := HBXS.out w3 HC3.out
     have tcell := HC3.out.cell HTC.out (by simp)
     have hDl : (Plain.dartsAt g p k).length ≤ 2000000 := by
      rw [← Plain.dartsTo_all]
      have h1 := Plain.dartsTo_len g p k p.darts.length
      have h2 := Plain.darts_length p
      omega
     obtain ⟨D, hD⟩ : ∃ D, Plain.dartsAt g p k = D := ⟨_, rfl⟩
     rw [hD] at HRI HOV hDl ⊢
     clear hD
     by_cases h1 : (D.length : Int) = (T.length : Int)
     ·have b2 : ((D.length : Int) != (T.length : Int)) = false := by simp [h1]
      have H1 := Lib.hid h1
      clear h1
      go_wp2_with fail
      refine (right02_any _ T _ (HROW.out.fresh HC3.out)).mono ?_
      rintro e w4 ⟨rfl, hc4⟩
      have HC4 := Lib.hid (HC3.out.trans hc4 (by simp))
      have HC43 := Lib.hid hc4
      clear x0 x1 y0 y1 hsz tcell hc4
      by_cases h2 : T.Nodup
      ·rw [decide_eq_true h2]
       have H2 := Lib.hid h2
       clear h2
       go_wp2
       go_loopw [10] (fun c wi => ∃ i : Nat, i ≤ D.length ∧ c = .int .i64 i ∧ Hid (∀ d ∈ D.take i, d ∈ T) ∧ Chg [] w4 wi) (fun c _ => D.length - (intOf c).toNat)
       case atStart => exact ⟨0, Nat.zero_le _, rfl, Lib.hid (by simp), Chg.refl _ _⟩
       case round =>
        rename World => wi
        obtain ⟨i, hi, rfl, hin, hc5⟩ := hrel
        have HC5 := Lib.hid (HC4.out.trans hc5 (by simp))
        have HC45 := Lib.hid hc5
        by_cases hil : i < D.length
        ·obtain ⟨db, doff, rfl, hdc⟩ := IntsAt.cellAt (HOV.out.fresh (HC43.out.trans hc5 (by simp))) hil
         have tcell := HC5.out.cell HTC.out (by simp)
         have HTK := Lib.hid (Plain.take_snoc hil)
         have HMEM := Lib.hid ((show D.getD i 0 ∈ D by simp [List.getD, hil]))
         obtain ⟨z, hz⟩ : ∃ z, D.getD i 0 = z := ⟨_, rfl⟩
         rw [hz] at hdc HTK HMEM
         clear hz hc5
         go_wp2
         have hS0 : Chg [] wi wi.drew := (Chg.refl [] wi).drew
         refine wp_region_way (Chg [] wi) [0, 1, 2, 3, 4, 5, 6, 7, 9] (Way.line [0, 1, 2, 3, 4, 5, 6, 7, 8, 9] .done) (by kernel_rfl) (by kernel_rfl) ?_
         simp only [Way.line]
         repeat
          first
           | (refine along_off rfl (by rfl) (by rfl) (fun _ _ _ h => h) hS0 ?_; simp only [Act.put, List.getElem_toArray, List.getElem_cons_zero, List.getElem_cons_succ, List.setIfInBounds_toArray, List.set_cons_zero, List.set_cons_succ])
           | (refine along_read (v := ?_) rfl (by rfl) (by rfl) (fun _ _ _ h => h) hS0 (fun w' hS' => ?_) ?_; rotate_left; (focus (have rd0 := hS'.cell tcell (by simp); have rd1 := hS'.cell hdc (by simp); clear hS'; go_simp; try with_reducible rfl)); simp only [Act.put, List.getElem_toArray, List.getElem_cons_zero, List.getElem_cons_succ, List.setIfInBounds_toArray, List.set_cons_zero, List.set_cons_succ])
           | (refine along_skip rfl (by rfl) (by rfl) hS0 ?_; simp only [Act.put, List.getElem_toArray, List.getElem_cons_zero, List.getElem_cons_succ, List.setIfInBounds_toArray, List.set_cons_zero, List.set_cons_succ])
         refine along_op rfl (by rfl) (by rfl) (fun K hK => ?_)
         go_simp
         refine (in_any _ T z _ (HROW.out.fresh (HC5.out.trans hS0 (by simp)))).mono ?_
         rintro e w6 ⟨rfl, hcx⟩
         have hS1 := hS0.trans hcx (by simp)
         clear hS0 hcx
         have hS0 := hS1
         clear hS1
         refine hK.out _ _ (fun _ => hS0) ?_
         clear hK K
         try simp only [Act.put, List.getElem_toArray, List.getElem_cons_zero, List.getElem_cons_succ, List.setIfInBounds_toArray, List.set_cons_zero, List.set_cons_succ]
         repeat
          first
           | (refine along_off rfl (by rfl) (by rfl) (fun _ _ _ h => h) hS0 ?_; simp only [Act.put, List.getElem_toArray, List.getElem_cons_zero, List.getElem_cons_succ, List.setIfInBounds_toArray, List.set_cons_zero, List.set_cons_succ])
           | (refine along_read (v := ?_) rfl (by rfl) (by rfl) (fun _ _ _ h => h) hS0 (fun w' hS' => ?_) ?_; rotate_left; (focus (have rd0 := hS'.cell tcell (by simp); have rd1 := hS'.cell hdc (by simp); clear hS'; go_simp; try with_reducible rfl)); simp only [Act.put, List.getElem_toArray, List.getElem_cons_zero, List.getElem_cons_succ, List.setIfInBounds_toArray, List.set_cons_zero, List.set_cons_succ])
           | (refine along_skip rfl (by rfl) (by rfl) hS0 ?_; simp only [Act.put, List.getElem_toArray, List.getElem_cons_zero, List.getElem_cons_succ, List.setIfInBounds_toArray, List.set_cons_zero, List.set_cons_succ])
         refine along_done ?_
         have HC6 := Lib.hid (HC5.out.trans hS0 (by simp))
         have HC64 := Lib.hid ((show Chg [] w4 wi from HC45.out).trans hS0 (by simp))
         clear tcell hdc hS0
         by_cases hzT : z ∈ T
         ·rw [decide_eq_true hzT]
          have HN := Lib.hid (show ∀ d ∈ D.take (i + 1), d ∈ T from fun d hd => by
           rw [HTK.out, List.mem_append] at hd
           rcases hd with q | q
           ·exact hin.out d q
           ·rw [List.mem_singleton.1 q]; exact hzT)
          clear hzT
          go_wp2
          go_roundw
          case rel => exact ⟨i + 1, by omega, by go_num, HN, HC64.out⟩
          case measure => simp [intOf]; omega
         ·rw [decide_eq_false hzT]
          have HE := Lib.hid (HBAD.out fun h => hzT ((HRI.out.1 h).2.2 z HMEM.out))
          have HCF := Lib.hid (HC1.out.trans HC6.out (by simp))
          clear hzT
          go_wp2
          go_ret
          exact ⟨ret_int HE.out.symm, HCF.out⟩
        ·have e : i = D.length := by omega
         subst e
         have HN := Lib.hid (show ∀ i, i < k + 1 → Plain.rowOk g p turn (i : Nat) from fun i hi => by
          by_cases e : i = k
          ·rw [e]
           exact HRI.out.2 ⟨by have := H1.out; omega, H2.out, by have := hin.out; rwa [List.take_length] at this⟩
          ·exact hall.out i (by omega))
         clear hc5
         go_wp2
         go_roundw
         case rel => exact ⟨k + 1, by omega, by go_num, HN, HC5.out⟩
         case measure => simp [intOf]; omega
      ·rw [decide_eq_false h2]
       have HE := Lib.hid (HBAD.out fun h => h2 (HRI.out.1 h).2.1)
       have HCF := Lib.hid (HC1.out.trans HC4.out (by simp))
       clear h2
       go_wp2
       go_ret
       exact ⟨ret_int HE.out.symm, HCF.out⟩
     ·have b2 : ((D.length : Int) != (T.length : Int)) = true := by simp only [bne_iff_ne]; exact h1
      have HE := Lib.hid (HBAD.out fun h => h1 (by have := (HRI.out.1 h).1; omega))
      have HCF := Lib.hid (HC1.out.trans HC3.out (by simp))
      clear h1
      go_wp2
      go_ret
      exact ⟨ret_int HE.out.symm, HCF.out⟩
    ·have bk : decide ((k : Int) < g.n) = false := decide_eq_false (by have := HL.out; omega)
     have e : k = turn.length := by omega
     subst e
     have HE := Lib.hid (Plain.turnErr_ok HPE.out (Plain.turns_of_rows HPO.out HL.out fun v hv => hall.out v (by have := HL.out; omega)))
     have HCF := Lib.hid (HC1.out.trans HC.out (by simp))
     go_wp2
     go_ret
     exact ⟨ret_int HE.out.symm, HCF.out⟩
  ·have HE := Lib.hid (Plain.turnErr_len (turn := turn) HPE.out hl)
   have b1 : ((turn.length : Int) != g.n) = true := by simp only [bne_iff_ne]; exact hl
   have HCF := Lib.hid (HC1.out.trans HC2.out (by simp))
   clear hl
   go_wp2
   go_ret
   exact ⟨ret_int HE.out.symm, HCF.out⟩
 ·have HE := Lib.hid (Plain.turnErr_part (turn := turn) hpe)
  have b1 : ((p.err g) != 0) = true := by simp only [bne_iff_ne]; exact hpe
  have HCF := Lib.hid (HC1.out.trans HC2.out (by simp))
  clear hpe
  generalize p.err g = er at *
  go_wp2
  go_ret
  exact ⟨ret_int HE.out.symm, HCF.out⟩
end Go.Proofs.YtfgbkpbakignhaaGreat
