/- ref06: the contract of Right. Conditions: a graph, a part, turns that lie in memory and read so, of a bounded size. -/
import Derived.Test.YtednbiophjndpaaGreatVRefF
import Derived.Test.YtednbiophjndpaaGreatVRefQ
namespace Go.Proofs.YtednbiophjndpaaGreat
open Go.RowKit Go.Maps
set_option maxRecDepth 100000 in
set_option maxHeartbeats 4000000 in
theorem refTurn_any (vg vp vt : Value) (g : Plain.Gr) (p : Plain.Pt) (turn : List (List Int)) (w : World) (hpl : p.e.length ≤ 1000000) (hpv : p.v.length ≤ 1000000) (hgl : g.e.length < 4294967296) (hg : GrAt w vg g) (hp : PtAt w vp p) (ht : RowsAt w vt turn) :
  Calls Tryz.prog 61 #[vg, vp, vt] w fun e w' => e = .returned (.int .i64 (Plain.turnErr g p turn)) ∧ Chg [] w w' := by
 have HT := Lib.hid ht
 have HG := Lib.hid hg
 have HP := Lib.hid hp
 obtain ⟨eo, cap, rfl, hn, hm, hsm, hcell⟩ := hg
 obtain ⟨v1, v2, rfl, hv, he⟩ := hp
 obtain ⟨ao, ac, rfl, has, ham, hacell⟩ := hv
 obtain ⟨bo, bc, rfl, hbs, hbm, hbcell⟩ := he
 have HAC := Lib.hid hacell
 have HBC := Lib.hid hbcell
 have HAS := Lib.hid has
 have HBS := Lib.hid hbs
 obtain ⟨-, -, hc1⟩ := box_two w #[.int .i64 g.n, .slice eo g.e.length cap] #[.slice ao p.v.length ac, .slice bo p.e.length bc] 24 27
 have HC1 := Lib.hid hc1
 have HBXS := Lib.hid (fun w2 h => two_boxes w (g := g) (p := p) (eo := eo) (ao := ao) (bo := bo) (cap := cap) (ac := ac) (bc := bc) (w2 := w2) h)
 clear hcell hacell hbcell hsm has hbs hn hc1
 obtain ⟨tno, tc, rfl, htm, -⟩ := ht
 obtain ⟨x0, x1, y0, y1, hsz⟩ := HBXS.out _ (Chg.refl _ _)
 go_enter Tryz.func61, Tryz.ntmps61
 go_wp2_with fail
 refine (refPart_any _ _ g p _ (by omega) (by omega) hgl (HG.out.fresh HC1.out) (HP.out.fresh HC1.out)).mono ?_
 rintro e w2 ⟨rfl, hc2⟩
 obtain ⟨w1, hw1⟩ : ∃ w1, ((w.alloc (.cells #[.int .i64 g.n, .slice eo g.e.length cap] 24)).alloc (.cells #[.slice ao p.v.length ac, .slice bo p.e.length bc] 27)) = w1 := ⟨_, rfl⟩
 rw [hw1] at HC1 HBXS hc2
 clear hw1 x0 x1 y0 y1 hsz
 have HC2 := Lib.hid hc2
 have HT1 := Lib.hid (HT.out.fresh HC1.out)
 obtain ⟨x0, x1, y0, y1, hsz⟩ := HBXS.out w2 hc2
 clear hc2
 by_cases hpe : p.err g = 0
 ·rw [hpe]
  have HPE := Lib.hid hpe
  have HPO := Lib.hid (Plain.Pt.ok_of_err hpe)
  have HGE := Lib.hid (Plain.Gr.err_ok (Plain.Pt.err_ok hpe).1)
  clear hpe
  by_cases hl : (turn.length : Int) = g.n
  ·have hgn : g.n ≤ 1024 := HGE.out.2.1
   have HL := Lib.hid hl
   have b1 : ((turn.length : Int) != g.n) = false := by rw [hl]; simp
   clear hl
   go_wp2
   go_loopw [8] (fun c wr => ∃ k : Nat, k ≤ turn.length ∧ c = .int .i64 k ∧ Hid (∀ i, i < k → Plain.rowOk g p turn (i : Nat)) ∧ Chg [] w1 wr) (fun c _ => turn.length - (intOf c).toNat)
   case atStart => exact ⟨0, Nat.zero_le _, rfl, Lib.hid (fun i hi => by omega), HC2.out⟩
   case round =>
    obtain ⟨k, hk, rfl, hall, hc⟩ := hrel
    have HC := Lib.hid hc
    obtain ⟨x0, x1, y0, y1, hsz⟩ := HBXS.out wr hc
    clear hc
    by_cases hlt : k < turn.length
    ·have bk : decide ((k : Int) < g.n) = true := decide_eq_true (by have := HL.out; omega)
     have HBAD := Lib.hid (fun h => Plain.turnErr_row (g := g) (p := p) (turn := turn) HPE.out (v := k) (by have := HL.out; omega) h)
     have HRI := Lib.hid (show Plain.rowOk g p turn (k : Nat) ↔ (Plain.dartsAt g p k).length = (turn.getD k []).length ∧ (turn.getD k []).Nodup ∧ ∀ d ∈ Plain.dartsAt g p k, d ∈ turn.getD k [] by unfold Plain.rowOk Plain.turnAt; rw [Int.toNat_natCast])
     obtain ⟨tb, toff, uo, uc, rfl, hcell, hrow⟩ := HT1.out.row hlt
     have HTC := Lib.hid hcell
     have HROW := Lib.hid hrow
     obtain ⟨T, hT⟩ : ∃ T, turn.getD k [] = T := ⟨_, rfl⟩
     rw [hT] at HRI HTC HROW
     clear hcell hrow hT
     go_wp2_with fail
     refine (refDarts_any _ _ g p k _ hpl HPE.out ((HG.out.fresh HC1.out).fresh HC.out) ((HP.out.fresh HC1.out).fresh HC.out)).mono ?_
     rintro e w3 ⟨ov, rfl, hov, hc3⟩
     obtain ⟨oo, oc, rfl⟩ := hov.shape
     have HOV := Lib.hid hov.ints
     have HC3 := Lib.hid (HC.out.trans hc3 (by simp))
     clear x0 x1 y0 y1 hsz hov hc3
     obtain ⟨x0, x1, y0, y1, hsz⟩ := HBXS.out w3 HC3.out
     have tcell := HC3.out.cell HTC.out (by simp)
     have hDl : (Plain.dartsAt g p k).length ≤ 2000000 := by
      rw [← Plain.dartsTo_all]
      have h1 := Plain.dartsTo_len g p k p.darts.length
      have h2 := Plain.darts_length p
      omega
     obtain ⟨D, hD⟩ : ∃ D, Plain.dartsAt g p k = D := ⟨_, rfl⟩
     rw [hD] at HRI HOV hDl ⊢
     clear hD
     by_cases h1 : (D.length : Int) = (T.length : Int)
     ·have b2 : ((D.length : Int) != (T.length : Int)) = false := by simp [h1]
      have H1 := Lib.hid h1
      clear h1
      go_wp2_with fail
      refine (right02_any _ T _ (HROW.out.fresh HC3.out)).mono ?_
      rintro e w4 ⟨rfl, hc4⟩
      have HC4 := Lib.hid (HC3.out.trans hc4 (by simp))
      have HC43 := Lib.hid hc4
      clear x0 x1 y0 y1 hsz tcell hc4
      by_cases h2 : T.Nodup
      ·rw [decide_eq_true h2]
       have H2 := Lib.hid h2
       clear h2
       go_wp2
       go_loopw [10] (fun c wi => ∃ i : Nat, i ≤ D.length ∧ c = .int .i64 i ∧ Hid (∀ d ∈ D.take i, d ∈ T) ∧ Chg [] w4 wi) (fun c _ => D.length - (intOf c).toNat)
       case atStart => exact ⟨0, Nat.zero_le _, rfl, Lib.hid (by simp), Chg.refl _ _⟩
       case round =>
        rename World => wi
        obtain ⟨i, hi, rfl, hin, hc5⟩ := hrel
        have HC5 := Lib.hid (HC4.out.trans hc5 (by simp))
        have HC45 := Lib.hid hc5
        by_cases hil : i < D.length
        ·obtain ⟨db, doff, rfl, hdc⟩ := IntsAt.cellAt (HOV.out.fresh (HC43.out.trans hc5 (by simp))) hil
         have tcell := HC5.out.cell HTC.out (by simp)
         have HTK := Lib.hid (Plain.take_snoc hil)
         have HMEM := Lib.hid ((show D.getD i 0 ∈ D by simp [List.getD, hil]))
         obtain ⟨z, hz⟩ : ∃ z, D.getD i 0 = z := ⟨_, rfl⟩
         rw [hz] at hdc HTK HMEM
         clear hz hc5
         go_wp2
         have hS0 : Chg [] wi wi.drew := (Chg.refl [] wi).drew
         refine wp_region_way (Chg [] wi) [0, 1, 2, 3, 4, 5, 6, 7, 9] (Way.line [0, 1, 2, 3, 4, 5, 6, 7, 8, 9] .done) (by kernel_rfl) (by kernel_rfl) ?_
         simp only [Way.line]
         repeat
          first
           | (refine along_off rfl (by rfl) (by rfl) (fun _ _ _ h => h) hS0 ?_; simp only [Act.put, Z1, Z2, Z3, Z4, Z5, Z6])
           | (refine along_read (v := ?_) rfl (by rfl) (by rfl) (fun _ _ _ h => h) hS0 (fun w' hS' => ?_) ?_; rotate_left; (focus (have rd0 := hS'.cell tcell (by simp); have rd1 := hS'.cell hdc (by simp); clear hS'; go_simp; try with_reducible rfl)); simp only [Act.put, Z1, Z2, Z3, Z4, Z5, Z6])
           | (refine along_skip rfl (by rfl) (by rfl) hS0 ?_; simp only [Act.put, Z1, Z2, Z3, Z4, Z5, Z6])
         refine along_op rfl (by rfl) (by rfl) (fun K hK => ?_)
         go_simp
         refine (in_any _ T z _ (HROW.out.fresh (HC5.out.trans hS0 (by simp)))).mono ?_
         rintro e w6 ⟨rfl, hcx⟩
         have hS1 := hS0.trans hcx (by simp)
         clear hS0 hcx
         have hS0 := hS1
         clear hS1
         refine hK.out _ _ (fun _ => hS0) ?_
         clear hK K
         try simp only [Act.put, Z1, Z2, Z3, Z4, Z5, Z6]
         repeat
          first
           | (refine along_off rfl (by rfl) (by rfl) (fun _ _ _ h => h) hS0 ?_; simp only [Act.put, Z1, Z2, Z3, Z4, Z5, Z6])
           | (refine along_read (v := ?_) rfl (by rfl) (by rfl) (fun _ _ _ h => h) hS0 (fun w' hS' => ?_) ?_; rotate_left; (focus (have rd0 := hS'.cell tcell (by simp); have rd1 := hS'.cell hdc (by simp); clear hS'; go_simp; try with_reducible rfl)); simp only [Act.put, Z1, Z2, Z3, Z4, Z5, Z6])
           | (refine along_skip rfl (by rfl) (by rfl) hS0 ?_; simp only [Act.put, Z1, Z2, Z3, Z4, Z5, Z6])
         refine along_done ?_
         have HC6 := Lib.hid (HC5.out.trans hS0 (by simp))
         have HC64 := Lib.hid ((show Chg [] w4 wi from HC45.out).trans hS0 (by simp))
         clear tcell hdc hS0
         by_cases hzT : z ∈ T
         ·rw [decide_eq_true hzT]
          have HN := Lib.hid (show ∀ d ∈ D.take (i + 1), d ∈ T from fun d hd => by
           rw [HTK.out, List.mem_append] at hd
           rcases hd with q | q
           ·exact hin.out d q
           rw [List.mem_singleton.1 q]; exact hzT)
          clear hzT
          go_wp2
          go_roundw
          case rel => exact ⟨i + 1, by omega, by go_num, HN, HC64.out⟩
          case measure => simp [intOf]; omega
         rw [decide_eq_false hzT]
         have HE := Lib.hid (HBAD.out fun h => hzT ((HRI.out.1 h).2.2 z HMEM.out))
         have HCF := Lib.hid (HC1.out.trans HC6.out (by simp))
         clear hzT
         go_wp2
         go_ret
         exact ⟨ret_int HE.out.symm, HCF.out⟩
        have e : i = D.length := by omega
        subst e
        have HN := Lib.hid (show ∀ i, i < k + 1 → Plain.rowOk g p turn (i : Nat) from fun i hi => by
         by_cases e : i = k
         ·rw [e]
          exact HRI.out.2 ⟨by have := H1.out; omega, H2.out, by have := hin.out; rwa [List.take_length] at this⟩
         exact hall.out i (by omega))
        clear hc5
        go_wp2
        go_roundw
        case rel => exact ⟨k + 1, by omega, by go_num, HN, HC5.out⟩
        case measure => simp [intOf]; omega
      rw [decide_eq_false h2]
      have HE := Lib.hid (HBAD.out fun h => h2 (HRI.out.1 h).2.1)
      have HCF := Lib.hid (HC1.out.trans HC4.out (by simp))
      clear h2
      go_wp2
      go_ret
      exact ⟨ret_int HE.out.symm, HCF.out⟩
     have b2 : ((D.length : Int) != (T.length : Int)) = true := by simp only [bne_iff_ne]; exact h1
     have HE := Lib.hid (HBAD.out fun h => h1 (by have := (HRI.out.1 h).1; omega))
     have HCF := Lib.hid (HC1.out.trans HC3.out (by simp))
     clear h1
     go_wp2
     go_ret
     exact ⟨ret_int HE.out.symm, HCF.out⟩
    have bk : decide ((k : Int) < g.n) = false := decide_eq_false (by have := HL.out; omega)
    have e : k = turn.length := by omega
    subst e
    have HE := Lib.hid (Plain.turnErr_ok HPE.out (Plain.turns_of_rows HPO.out HL.out fun v hv => hall.out v (by have := HL.out; omega)))
    have HCF := Lib.hid (HC1.out.trans HC.out (by simp))
    go_wp2
    go_ret
    exact ⟨ret_int HE.out.symm, HCF.out⟩
  have HE := Lib.hid (Plain.turnErr_len (turn := turn) HPE.out hl)
  have b1 : ((turn.length : Int) != g.n) = true := by simp only [bne_iff_ne]; exact hl
  have HCF := Lib.hid (HC1.out.trans HC2.out (by simp))
  clear hl
  go_wp2
  go_ret
  exact ⟨ret_int HE.out.symm, HCF.out⟩
 have HE := Lib.hid (Plain.turnErr_part (turn := turn) hpe)
 have b1 : ((p.err g) != 0) = true := by simp only [bne_iff_ne]; exact hpe
 have HCF := Lib.hid (HC1.out.trans HC2.out (by simp))
 clear hpe
 generalize p.err g = er at *
 go_wp2
 go_ret
 exact ⟨ret_int HE.out.symm, HCF.out⟩
theorem twin_any (d : Nat) (w : World) (hd : d < 4611686018427387904) :
  Calls Tryz.prog 66 #[.int .i64 d] w fun e w' => e = .returned (.int .i64 (Plain.twin d)) ∧ w' = w := by
 rcases (show (∃ e, d = 2 * e) ∨ ∃ e, d = 2 * e + 1 from by rcases Nat.mod_two_eq_zero_or_one d with h | h; exact Or.inl ⟨d / 2, by omega⟩; exact Or.inr ⟨d / 2, by omega⟩) with ⟨e, rfl⟩ | ⟨e, rfl⟩
 ·obtain ⟨q1, q2⟩ := quo_even e
  have HE := Lib.hid (show Plain.twin ((2 * e : Nat) : Int) = ((2 * e : Nat) : Int) + 1 by unfold Plain.twin; rw [if_pos (by omega)])
  have w1 : IntKind.i64.wrap (((2 * e : Nat) : Int) + 1) = ((2 * e : Nat) : Int) + 1 := IntWalk.i64_in _ (by omega)
  generalize ((2 * e : Nat) : Int) = dd at *
  go_enter Tryz.func66, Tryz.ntmps66
  go_wp2
  go_ret
  exact ⟨ret_int HE.out.symm, rfl⟩
 obtain ⟨q1, q2⟩ := quo_odd e
 have HE := Lib.hid (show Plain.twin ((2 * e + 1 : Nat) : Int) = ((2 * e + 1 : Nat) : Int) - 1 by unfold Plain.twin; rw [if_neg (by omega)])
 have w1 : IntKind.i64.wrap (((2 * e + 1 : Nat) : Int) - 1) = ((2 * e + 1 : Nat) : Int) - 1 := IntWalk.i64_in _ (by omega)
 generalize ((2 * e + 1 : Nat) : Int) = dd at *
 go_enter Tryz.func66, Tryz.ntmps66
 go_wp2
 go_ret
 exact ⟨ret_int HE.out.symm, rfl⟩
set_option maxRecDepth 100000 in
set_option maxHeartbeats 2000000 in
theorem refStep_any (vg vt : Value) (g : Plain.Gr) (p : Plain.Pt) (turn : List (List Int)) (d : Nat) (w : World) (hd : (d : Int) ∈ p.darts) (hpe : p.err g = 0) (hto : Plain.TurnsOk g p turn) (hrl : ∀ v, (Plain.turnAt turn v).length < 4294967296) (hg : GrAt w vg g) (ht : RowsAt w vt turn) :
  Calls Tryz.prog 168 #[vg, vt, .int .i64 d, .int .i64 (-1)] w fun e w' => e = .returned (.int .i64 (Plain.before g turn d)) ∧ Chg [] w w' := by
 have hpo := Plain.Pt.ok_of_err hpe
 have hge := Plain.Gr.err_ok (Plain.Pt.err_ok hpe).1
 have htl := hpo.vr _ (hpo.tail_mem hd).1
 have hde := Plain.Pt.edge_in hpe (Plain.mem_darts.1 hd)
 have hd2 : d / 2 < g.e.length := by omega
 have hglen : g.e.length < 4294967296 := by omega
 have hin := (hto.mem _ htl.1 htl.2 d).2 ⟨hd, rfl⟩
 have hlen := hto.len
 have hbe : Plain.before g turn d = Plain.ahead (Plain.turnAt turn (g.tail d)) d := rfl
 have HG := Lib.hid hg
 have HT := Lib.hid ht
 obtain ⟨tno, tc, rfl, htm, -⟩ := ht
 obtain ⟨tv, htv⟩ : ∃ tv : Nat, g.tail d = tv := ⟨(g.tail d).toNat, by omega⟩
 rw [htv] at htl hin hbe
 have htvl : tv < turn.length := by omega
 obtain ⟨tb, toff, uo, uc, rfl, tcell, hrow⟩ := HT.out.row htvl
 have hta : Plain.turnAt turn (tv : Int) = turn.getD tv [] := by unfold Plain.turnAt; rw [Int.toNat_natCast]
 rw [hta] at hin hbe
 have hTl := hrl (tv : Int)
 rw [hta] at hTl
 have HROW := Lib.hid hrow
 generalize turn.getD tv [] = T at *
 have hix := List.idxOf_lt_length_iff.2 hin
 have HFI := Lib.hid (show Plain.findIx T d = (T.idxOf (d : Int) : Nat) from if_pos hin)
 have hBE := Lib.hid (show Plain.before g turn d = T.getD ((T.idxOf (d : Int) + T.length - 1) % T.length) 0 from hbe)
 generalize T.idxOf (d : Int) = ix at *
 have w1 : IntKind.i64.wrap ((ix : Int) + -1) = (ix : Int) + -1 := IntWalk.i64_in _ (by omega)
 have w2 : IntKind.i64.wrap ((ix : Int) + -1 + (T.length : Int)) = ((ix + T.length - 1 : Nat) : Int) := by rw [IntWalk.i64_in _ (by omega)]; omega
 obtain ⟨j, hj⟩ : ∃ j, (ix + T.length - 1) % T.length = j := ⟨_, rfl⟩
 have w3 : Int.tmod ((ix + T.length - 1 : Nat) : Int) (T.length : Int) = (j : Int) := by rw [Int.tmod_eq_emod_of_nonneg (by omega), ← hj]; omega
 have hjl : j < T.length := by rw [← hj]; exact Nat.mod_lt _ (by omega)
 have hl0 : ((T.length : Int) == 0) = false := by rw [beq_eq_false_iff_ne]; omega
 rw [hj] at hBE
 obtain ⟨eo, cap, rfl, -, -, -, -⟩ := hg
 have HC1 := Lib.hid ((Chg.refl [] w).alloc (.cells #[.int .i64 g.n, .slice eo g.e.length cap] 24))
 have tc1 := fun o => cellNew tcell o
 have HTV := Lib.hid htv
 clear hpo hge hin hlen hbe hta hrow htv hj hde hd hto hrl hpe
 go_enter Tryz.func168, Tryz.ntmps168
 go_wp2_with fail
 refine (tail_any _ g d _ hd2 hglen (HG.out.fresh HC1.out)).mono ?_
 rintro e w2' ⟨rfl, hc2⟩
 rw [HTV.out]
 have HC2 := Lib.hid (HC1.out.trans hc2 (by simp))
 have tcell2 := HC2.out.cell tcell (by simp)
 clear hc2 tc1 tcell
 go_wp2_with fail
 refine (find02_any _ T (d : Int) _ (HROW.out.fresh HC2.out)).mono ?_
 rintro e w3' ⟨rfl, hc3⟩
 rw [HFI.out]
 obtain ⟨rb, roff, rfl, hrc⟩ := IntsAt.cellAt HROW.out hjl
 have HC3 := Lib.hid (HC2.out.trans hc3 (by simp))
 have c3 := HC3.out.cell hrc (by simp)
 clear hc3 hrc tcell2
 go_wp2
 go_ret
 exact ⟨ret_int (by rw [hBE.out]; simp [List.getD, hjl]), HC3.out⟩
set_option maxRecDepth 100000 in
theorem refNext_any (vg vt : Value) (g : Plain.Gr) (p : Plain.Pt) (turn : List (List Int)) (d : Nat) (w : World) (hd : (d : Int) ∈ p.darts) (hpe : p.err g = 0) (hto : Plain.TurnsOk g p turn) (hrl : ∀ v, (Plain.turnAt turn v).length < 4294967296) (hg : GrAt w vg g) (ht : RowsAt w vt turn) :
  Calls Tryz.prog 117 #[vg, vt, .int .i64 d] w fun e w' => e = .returned (.int .i64 (Plain.nextDart g turn d)) ∧ Chg [] w w' := by
 have hpo := Plain.Pt.ok_of_err hpe
 have hge := Plain.Gr.err_ok (Plain.Pt.err_ok hpe).1
 have hde := Plain.Pt.edge_in hpe (Plain.mem_darts.1 hd)
 have hdb : d < 4611686018427387904 := by omega
 have htw := Plain.twin_mem hd
 have hte := Plain.Pt.edge_in hpe (Plain.mem_darts.1 htw)
 obtain ⟨td, htd⟩ : ∃ td : Nat, Plain.twin d = td := ⟨(Plain.twin d).toNat, by omega⟩
 have HND := Lib.hid (show Plain.nextDart g turn d = Plain.before g turn td by unfold Plain.nextDart; rw [htd])
 have HG := Lib.hid hg
 have HT := Lib.hid ht
 rw [htd] at htw
 have HTD := Lib.hid htd
 have HTW := Lib.hid htw
 have HTO := Lib.hid hto
 have HPE := Lib.hid hpe
 have HRL := Lib.hid hrl
 obtain ⟨eo, cap, rfl, -, -, -, -⟩ := hg
 obtain ⟨tno, tc, rfl, htm, -⟩ := ht
 have hb := heap_alloc_new w (.cells #[.int .i64 g.n, .slice eo g.e.length cap] 24)
 have x0 := (cell_of_row _ _ 0 _ _ _ hb).trans (show _ = some (Value.int .i64 g.n) from rfl)
 have x1 := (cell_of_row _ _ 1 _ _ _ hb).trans (show _ = some (Value.slice eo g.e.length cap) from rfl)
 have HC1 := Lib.hid ((Chg.refl [] w).alloc (.cells #[.int .i64 g.n, .slice eo g.e.length cap] 24))
 clear hpo hge hde hte htw htd hto hpe hrl hb
 go_enter Tryz.func117, Tryz.ntmps117
 go_wp2
 generalize (w.alloc (.cells #[.int .i64 g.n, .slice eo g.e.length cap] 24)) = w1 at *
 have hS0 : Chg [] w1 w1.drew := (Chg.refl [] w1).drew
 refine wp_region_way (Chg [] w1) [0, 1, 2] (Way.line [0, 1, 2, 3, 4, 5] .done) (by kernel_rfl) (by kernel_rfl) ?_
 simp only [Way.line]
 repeat
  first
   | (refine along_off rfl (by rfl) (by rfl) (fun _ _ _ h => h) hS0 ?_; simp only [Act.put, Z1, Z2, Z3, Z4, Z5, Z6])
   | (refine along_read (v := ?_) rfl (by rfl) (by rfl) (fun _ _ _ h => h) hS0 (fun w' hS' => ?_) ?_; rotate_left; (focus (have rd0 := hS'.cell x0 (by simp); have rd1 := hS'.cell x1 (by simp); clear hS'; go_simp; try with_reducible rfl)); simp only [Act.put, Z1, Z2, Z3, Z4, Z5, Z6])
   | (refine along_skip rfl (by rfl) (by rfl) hS0 ?_; simp only [Act.put, Z1, Z2, Z3, Z4, Z5, Z6])
 refine along_op rfl (by rfl) (by rfl) (fun K hK => ?_)
 go_simp
 refine (twin_any d _ hdb).mono ?_
 rintro e w2 ⟨rfl, rfl⟩
 refine hK.out _ _ (fun _ => hS0) ?_
 clear hK K
 rw [HTD.out]
 try simp only [Act.put, Z1, Z2, Z3, Z4, Z5, Z6]
 refine along_op rfl (by rfl) (by rfl) (fun K hK => ?_)
 go_simp
 refine (refStep_any _ _ g p turn td _ HTW.out HPE.out HTO.out HRL.out ((HG.out.fresh HC1.out).fresh hS0) ((HT.out.fresh HC1.out).fresh hS0)).mono ?_
 rintro e w3 ⟨rfl, hcx⟩
 have hS1 := hS0.trans hcx (by simp)
 clear hS0 hcx
 have hS0 := hS1
 clear hS1
 refine hK.out _ _ (fun _ => hS0) ?_
 clear hK K
 try simp only [Act.put, Z1, Z2, Z3, Z4, Z5, Z6]
 refine along_op rfl (by rfl) (by rfl) (fun K hK => ?_)
 go_simp
 refine hK.out _ _ (fun _ => hS0) ?_
 clear hK K
 try simp only [Act.put, Z1, Z2, Z3, Z4, Z5, Z6]
 refine along_done ?_
 have HCF := Lib.hid (HC1.out.trans hS0 (by simp))
 clear x0 x1 hS0
 go_wp2
 go_ret
 exact ⟨ret_int HND.out.symm, HCF.out⟩
end Go.Proofs.YtednbiophjndpaaGreat
