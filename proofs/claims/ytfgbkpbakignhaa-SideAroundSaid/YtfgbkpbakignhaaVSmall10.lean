/- law 10's small. Conditions: a graph, a part, a plan, a list of ints that lie in memory and read so. -/
import Derived.Test.YtfgbkpbakignhaaVSmall
import Derived.Test.YtfgbkpbakignhaaVRegions
import Derived.Test.YtfgbkpbakignhaaVMisc
import Derived.Test.YtfgbkpbakignhaaVArdS
import Derived.Test.YtfgbkpbakignhaaVVertS
import Derived.ProofKit
import Derived.OpenShut
import Derived.ChangeOld
import Derived.Deep.Strs
import Derived.Lib.SmallJoins
namespace Go.Proofs.Ytfgbkpbakignhaa
open Go.RowKit Go.Maps

set_option maxRecDepth 100000 in
set_option maxHeartbeats 4000000 in
theorem small10_any (vg vp vx vc : Value) (g : Plain.Gr) (p : Plain.Pt) (turn same : List (List Int)) (cy : List Int) (w : World) (hg : GrAt w vg g) (hp : PtAt w vp p) (hx : PlAt w vx turn same) (hcy : IntsAt w vc cy) :
    Calls Try.prog 7 #[vg, vp, vx, vc] w fun e w' => e = .returned (.bool (Plain.small8 g p turn same && decide (cy.length ≤ 60))) ∧ Chg [] w w' := by
  obtain ⟨co, cc, rfl, hci, hcm, -⟩ := hcy
  clear hci
  have HG := Lib.hid hg
  have HP := Lib.hid hp
  have HX := Lib.hid hx
  obtain ⟨eo, cap, rfl, hn, hm, hsm, hcell⟩ := hg
  obtain ⟨v1, v2, rfl, hv, he⟩ := hp
  obtain ⟨ao, ac, rfl, has, ham, hacell⟩ := hv
  obtain ⟨bo, bc, rfl, hbs, hbm, hbcell⟩ := he
  have HAC := Lib.hid hacell
  have HBC := Lib.hid hbcell
  obtain ⟨t1, t2, rfl, ht, hs⟩ := hx
  have HT := Lib.hid ht
  have HS := Lib.hid hs
  obtain ⟨tno, tc, rfl, htm, -⟩ := ht
  obtain ⟨so, sc, rfl, hsm2, hsc⟩ := hs
  obtain ⟨-, -, hc1⟩ := box_two w #[.int .i64 g.n, .slice eo g.e.length cap] #[.slice ao p.v.length ac, .slice bo p.e.length bc] 24 27
  obtain ⟨-, hc3⟩ := box_three w #[.int .i64 g.n, .slice eo g.e.length cap] #[.slice ao p.v.length ac, .slice bo p.e.length bc] #[.slice tno turn.length tc, .slice so same.length sc] 24 27 30
  have HC1 := Lib.hid (hc1.trans hc3 (by simp))
  have HBXS := Lib.hid (fun w2 h => three_boxes w (g := g) (p := p) (turn := turn) (same := same) (eo := eo) (ao := ao) (bo := bo) (tno := tno) (so := so) (cap := cap) (ac := ac) (bc := bc) (tc := tc) (sc := sc) (w2 := w2) h)
  clear hcell hacell hbcell hsm hbs has hn hc1 hc3 hsc
  obtain ⟨x0, x1, y0, y1, z0, z1, hsz⟩ := HBXS.out _ (Chg.refl _ _)
  go_enter Try.func7, Try.ntmps7
  go_wp2_with fail
  refine (small8_any _ _ _ g p turn same _ (HG.out.fresh HC1.out) (HP.out.fresh HC1.out) (HX.out.fresh HC1.out)).mono ?_
  rintro e w2 ⟨rfl, hc2⟩
  have HC2 := Lib.hid (HC1.out.trans hc2 (by simp))
  clear x0 x1 y0 y1 z0 z1 hsz hc2
  cases hb : Plain.small8 g p turn same with
  | false =>
    rw [show bit false = 0 from rfl]
    have HB := Lib.hid hb
    clear hb
    go_wp2
    go_ret
    exact ⟨ret_bool (show false = _ by rw [HB.out]; rfl), HC2.out⟩
  | true =>
    rw [show bit true = 1 from rfl]
    have HB := Lib.hid hb
    clear hb
    by_cases hl : cy.length ≤ 60
    · have bl : decide ((cy.length : Int) ≤ 60) = true := decide_eq_true (by omega)
      have HE := Lib.hid (show decide (cy.length ≤ 60) = true from decide_eq_true hl)
      clear hl
      go_wp2
      go_ret
      exact ⟨ret_bool (show true = _ by rw [HB.out, HE.out]; rfl), HC2.out⟩
    · have bl : decide ((cy.length : Int) ≤ 60) = false := decide_eq_false (by omega)
      have HE := Lib.hid (show decide (cy.length ≤ 60) = false from decide_eq_false hl)
      clear hl
      go_wp2
      go_ret
      exact ⟨ret_bool (show false = _ by rw [HB.out, HE.out]; rfl), HC2.out⟩
end Go.Proofs.Ytfgbkpbakignhaa
/- the law SideAround: the walk. Conditions: a graph, a part, a plan that lie in memory and read so. -/
namespace Go.Proofs.Ytfgbkpbakignhaa
open Go.RowKit Go.Maps

namespace Plain
theorem cycsTo_all {g : Gr} {W : List Face} {i : Nat} (hi : i < W.length) : ∃ r, cycsTo g W W.length = cycsTo g W i ++ (aroundOf g (W.getD i (0, [])).2 ++ r) := by
  refine ⟨(W.drop (i + 1)).flatMap fun f => aroundOf g f.2, ?_⟩
  rw [← List.append_assoc, ← cycsTo_succ hi]
  unfold cycsTo
  rw [List.take_length, ← List.flatMap_append, List.take_append_drop]
theorem cycsTo_at {g : Gr} {W : List Face} {i k : Nat} (hi : i < W.length) (hk : k < (aroundOf g (W.getD i (0, [])).2).length) : (cycsTo g W i).length + k < (cycsTo g W W.length).length ∧ (cycsTo g W W.length).getD ((cycsTo g W i).length + k) [] = (aroundOf g (W.getD i (0, [])).2).getD k [] := by
  obtain ⟨r, hr⟩ := cycsTo_all (g := g) hi
  rw [hr]
  refine ⟨by rw [List.length_append, List.length_append]; omega, ?_⟩
  rw [getD_app_ge (by omega), Nat.add_sub_cancel_left, getD_app_lt hk]
theorem cycsTo_mem {g : Gr} {W : List Face} {c : List Int} {i : Nat} (h : c ∈ cycsTo g W i) : ∃ f ∈ W, c ∈ aroundOf g f.2 := by
  unfold cycsTo at h
  obtain ⟨f, hf, hc⟩ := List.mem_flatMap.1 h
  exact ⟨f, List.mem_of_mem_take hf, hc⟩
/-- The cycles around a face of right turns. -/
theorem around_ok {g : Gr} {p : Pt} {turn : List (List Int)} (hpe : p.err g = 0) (ht : TurnsOk g p turn) {f : Face} (hf : f ∈ walksOf g p turn) : ∀ c ∈ aroundOf g f.2, cycOk g p c = true ∧ (∀ x ∈ c, x ∈ f.2) := by
  obtain ⟨h1, h2⟩ := face_linked hpe ht (walks_ok hpe ht) hf
  exact (around_cycles hpe h1 h2 f.2.length (Nat.le_refl _)).1
theorem cyc_len {g : Gr} {p : Pt} {c : List Int} (h : cycOk g p c = true) : c.length ≤ 2 * p.e.length := by
  obtain ⟨h0, h1, h2, h3⟩ := cyc_split h
  have hn : c.Nodup := by
    rw [List.nodup_iff_pairwise_ne, List.pairwise_iff_getElem]
    intro i j hi hj hij e
    have := h3 j hj
    unfold cycAt at this
    have hs : (lastAt g.tail c j (g.tail (c.getD j 0))).isSome = true := by
      rw [Option.isSome_iff_ne_none]
      intro q
      refine lastAt_none.1 q i hij ?_
      rw [show c.getD i 0 = c[i] by simp [List.getD, hi], show c.getD j 0 = c[j] by simp [List.getD, hj], e]
    rw [hs] at this
    simp at this
  have := len_le_of_sub hn (m := p.darts) fun x hx => cyc_mem h hx
  rwa [darts_length] at this
end Plain

set_option maxRecDepth 100000 in
set_option maxHeartbeats 8000000 in
theorem sideAround_any (vg vp vx : Value) (g : Plain.Gr) (p : Plain.Pt) (turn same : List (List Int)) (w : World) (hg : GrAt w vg g) (hp : PtAt w vp p) (hx : PlAt w vx turn same) :
    Calls Try.prog 5 #[vg, vp, vx] w fun e w' => e = .returned (.bool true) ∧ Chg [] w w' := by
  have HG := Lib.hid hg
  have HP := Lib.hid hp
  have HX := Lib.hid hx
  obtain ⟨eo, cap, rfl, hn, hm, hsm, hcell⟩ := hg
  obtain ⟨v1, v2, rfl, hv, he⟩ := hp
  obtain ⟨ao, ac, rfl, has, ham, hacell⟩ := hv
  obtain ⟨bo, bc, rfl, hbs, hbm, hbcell⟩ := he
  have HAC := Lib.hid hacell
  have HBC := Lib.hid hbcell
  obtain ⟨t1, t2, rfl, ht, hs⟩ := hx
  have HT := Lib.hid ht
  have HS := Lib.hid hs
  obtain ⟨tno, tc, rfl, htm, -⟩ := ht
  obtain ⟨so, sc, rfl, hsm2, hsc⟩ := hs
  obtain ⟨-, -, hc1⟩ := box_two w #[.int .i64 g.n, .slice eo g.e.length cap] #[.slice ao p.v.length ac, .slice bo p.e.length bc] 24 27
  obtain ⟨-, hc3⟩ := box_three w #[.int .i64 g.n, .slice eo g.e.length cap] #[.slice ao p.v.length ac, .slice bo p.e.length bc] #[.slice tno turn.length tc, .slice so same.length sc] 24 27 30
  have HC1 := Lib.hid (hc1.trans hc3 (by simp))
  have HBXS := Lib.hid (fun w2 h => three_boxes w (g := g) (p := p) (turn := turn) (same := same) (eo := eo) (ao := ao) (bo := bo) (tno := tno) (so := so) (cap := cap) (ac := ac) (bc := bc) (tc := tc) (sc := sc) (w2 := w2) h)
  clear hcell hacell hbcell hsm hbs has hn hc1 hc3 hsc
  go_enter Try.func5, Try.ntmps5
  go_wp2_with fail
  refine (awake10_any _).mono ?_
  rintro e w2 ⟨rfl, hc2⟩
  obtain ⟨x0, x1, y0, y1, z0, z1, hsz⟩ := HBXS.out w2 hc2
  have HC2 := Lib.hid (HC1.out.trans hc2 (by simp))
  have HC2B := Lib.hid hc2
  clear hc2
  go_wp2_with fail
  refine (small10_any _ _ _ _ g p turn same [] _ (HG.out.fresh HC2.out) (HP.out.fresh HC2.out) (HX.out.fresh HC2.out) (IntsAt.nil _)).mono ?_
  rintro e w3 ⟨rfl, hc3⟩
  have HC3 := Lib.hid (HC2.out.trans hc3 (by simp))
  have HC3B := Lib.hid (HC2B.out.trans hc3 (by simp))
  clear x0 x1 y0 y1 z0 z1 hsz hc3
  by_cases hb : (Plain.small8 g p turn same && decide (([] : List Int).length ≤ 60)) = true
  · obtain ⟨hb8, hb60⟩ := Bool.and_eq_true_iff.1 hb
    obtain ⟨b1, b2, b3, b4, b5, b6⟩ := Plain.small8_is hb8
    have HB4 := Lib.hid b4
    have HB6 := Lib.hid (fun i => Nat.le_trans (b6 i) (by omega : 60 ≤ 10000))
    rw [hb]
    obtain ⟨x0, x1, y0, y1, z0, z1, hsz⟩ := HBXS.out w3 HC3B.out
    clear hb hb8 hb60 b4 b6
    go_wp2_with fail
    refine (cycles_any _ _ _ g p turn same _ (by omega) (by omega) (by omega) (by have := HB4.out; omega) (by omega) HB6.out (HG.out.fresh HC3.out) (HP.out.fresh HC3.out) (HX.out.fresh HC3.out)).mono ?_
    rintro e w4 ⟨lv, rfl, hno, hyes, hc4⟩
    have HC4 := Lib.hid (HC3.out.trans hc4 (by simp))
    have HC4B := Lib.hid (HC3B.out.trans hc4 (by simp))
    clear x0 x1 y0 y1 z0 z1 hsz hc4
    by_cases hz : Plain.planErr g p turn same = 0
    · obtain ⟨vs, hro⟩ := hyes hz
      have hte := (Plain.flatErr_zero (Plain.planErr_zero hz).1).1
      obtain ⟨hpe, hto⟩ := Plain.turnErr_zero hte
      have hwk := Plain.walks_ok hpe hto
      have HTE := Lib.hid hte
      have HPE := Lib.hid hpe
      have HOK := Lib.hid (fun f hf => Plain.around_ok (f := f) hpe hto hf)
      have HGE := Lib.hid (Plain.Pt.err_ok hpe).1
      have HFD := Lib.hid (fun f hf => (Plain.face_linked (f := f) hpe hto hwk hf).1)
      have HFL := Lib.hid (fun f hf => Plain.face_len (f := f) hpe hwk hf)
      have hwl := hwk.len
      have HCR := Lib.hid (show ∀ c, Plain.cycOk g p c = true → (∀ x ∈ c, I64 x) ∧ c.length < 4294967296 from fun c hc => ⟨fun x hx => by
        obtain ⟨n, e, -, h⟩ := Plain.Pt.dart_nat hpe (Plain.cyc_mem hc hx)
        exact I64.mk (by omega) (by omega), by have := Plain.cyc_len hc; omega⟩)
      have HLR := Lib.hid (hro.read fun l hl => by
        obtain ⟨f, hf, hc⟩ := Plain.cycsTo_mem hl
        exact HCR.out l (HOK.out f hf l hc).1)
      have hll := Plain.cycsTo_len (g := g) (W := Plain.walksOf g p turn) (n := 120) (fun f hf => by have := HFL.out f hf; omega) _ (Nat.le_refl _)
      obtain ⟨x0, x1, y0, y1, z0, z1, hsz⟩ := HBXS.out w4 HC4B.out
      rw [hz]
      obtain ⟨lo, lc, rfl⟩ := owns_shape hro.out
      rw [hro.len] at HLR ⊢
      clear hno hyes hro hz hte hpe hto hwk
      go_wp2_with fail
      refine (walks_any _ _ _ g p turn _ (by omega) (by omega) (by omega) (by have := HB4.out; omega) (HG.out.fresh HC4.out) (HP.out.fresh HC4.out) (HT.out.fresh HC4.out)).mono ?_
      rintro e w5 ⟨ovw, rfl, -, hw2, hc5⟩
      obtain ⟨W0, xw, hwk, hnw⟩ := hw2 HTE.out
      have hwe := hwk.eq HPE.out
      subst hwe
      obtain ⟨wo, wcap, rfl⟩ := hnw.shape
      have HNW := Lib.hid hnw
      have HC5 := Lib.hid (HC4.out.trans hc5 (by simp))
      have HC5B := Lib.hid (HC4B.out.trans hc5 (by simp))
      have HL5 := Lib.hid (HLR.out.fresh hc5)
      rw [HTE.out]
      obtain ⟨W, hW⟩ : ∃ W, Plain.walksOf g p turn = W := ⟨_, rfl⟩
      rw [hW] at hwl HNW HFL HFD HOK HL5 hll ⊢
      have HAT := Lib.hid (fun i k hi hk => Plain.cycsTo_at (g := g) (W := W) (i := i) (k := k) hi hk)
      have HSU := Lib.hid (fun i hi => Plain.cycsTo_succ (g := g) (W := W) (i := i) hi)
      have HZ0 := Lib.hid (Plain.cycsTo_zero g W)
      obtain ⟨LL, hLL⟩ : ∃ LL, Plain.cycsTo g W W.length = LL := ⟨_, rfl⟩
      have HLLE := Lib.hid hLL
      rw [hLL] at HL5 HAT hll ⊢
      clear hnw hw2 hwk hc5 hW hLL HLR x0 x1 y0 y1 z0 z1 hsz
      go_wp2
      go_loopw [11, 12] (fun nv c wr => ∃ (i q : Nat), c = .int .i64 i ∧ nv = .int .i64 q ∧ i ≤ W.length ∧ q ≤ LL.length ∧ Hid (q = (Plain.cycsTo g W i).length) ∧ Chg [] w5 wr) (fun _ c _ => W.length - (intOf c).toNat)
      case atStart => exact ⟨0, 0, rfl, rfl, Nat.zero_le _, Nat.zero_le _, Lib.hid (by rw [HZ0.out]; rfl), Chg.refl _ _⟩
      case round =>
        obtain ⟨i, q, rfl, rfl, hi, hq, HQ, hc⟩ := hrel
        have HC := Lib.hid hc
        have HCW := Lib.hid (HC5.out.trans hc (by simp))
        obtain ⟨x0, x1, y0, y1, z0, z1, hsz⟩ := HBXS.out wr (HC5B.out.trans hc (by simp))
        by_cases hil : i < W.length
        · obtain ⟨wg, wcc, fa, fc, ewo, u0, u1, ur⟩ := nest_face HNW.out rfl hil
          simp only [Value.slice.injEq] at ewo
          obtain ⟨rfl, -, rfl⟩ := ewo
          have f0 := hc.cell u0 (by simp)
          have f1 := hc.cell u1 (by simp)
          have U1 := Lib.hid u1
          have hfm : W.getD i (0, []) ∈ W := by simp [List.getD, hil]
          have hfl := HFL.out _ hfm
          have HFX := Lib.hid (HFD.out _ hfm)
          have HFO := Lib.hid (HOK.out _ hfm)
          have HSI := Lib.hid (HSU.out i hil)
          have HAI := Lib.hid (fun k hk => HAT.out i k hil hk)
          have UR := Lib.hid ur.ints
          obtain ⟨f, hf⟩ : ∃ f, W.getD i (0, []) = f := ⟨_, rfl⟩
          rw [hf] at f0 f1 U1 HSI hfl HFX HFO HAI UR
          have HFY := Lib.hid (show ∀ d ∈ f.2, ∃ n : Nat, d = n ∧ n / 2 < g.e.length from fun d hd => by
            obtain ⟨n, h1, h2, -⟩ := Plain.Pt.dart_nat HPE.out (HFX.out d hd)
            exact ⟨n, h1, h2⟩)
          clear u0 u1 ur hfm hf hc y0 y1 z0 z1 hsz
          go_wp2
          have hS0 : Chg [] wr wr.drew := (Chg.refl [] wr).drew
          refine wp_region_way (Chg [] wr) [0, 1, 2, 3, 4, 6] (Way.line [0, 1, 2, 3, 4, 5, 6] .done) (by kernel_rfl) (by kernel_rfl) ?_
          simp only [Way.line]
          repeat
            first
              | (refine along_off rfl (by rfl) (by rfl) (fun _ _ _ h => h) hS0 ?_; simp only [Act.put, List.getElem_toArray, List.getElem_cons_zero, List.getElem_cons_succ, List.setIfInBounds_toArray, List.set_cons_zero, List.set_cons_succ])
              | (refine along_read (v := ?_) rfl (by rfl) (by rfl) (fun _ _ _ h => h) hS0 (fun w' hS' => ?_) ?_; rotate_left; (focus (have rd0 := hS'.cell x0 (by simp); have rd1 := hS'.cell x1 (by simp); have rd2 := hS'.cell f0 (by simp); have rd3 := hS'.cell f1 (by simp); clear hS'; go_simp; try with_reducible rfl)); simp only [Act.put, List.getElem_toArray, List.getElem_cons_zero, List.getElem_cons_succ, List.setIfInBounds_toArray, List.set_cons_zero, List.set_cons_succ])
              | (refine along_skip rfl (by rfl) (by rfl) hS0 ?_; simp only [Act.put, List.getElem_toArray, List.getElem_cons_zero, List.getElem_cons_succ, List.setIfInBounds_toArray, List.set_cons_zero, List.set_cons_succ])
          refine along_op rfl (by rfl) (by rfl) (fun K hK => ?_)
          go_simp
          refine (around_any _ _ g f.1 f.2 _ HGE.out HFY.out (by omega) (HG.out.fresh (HCW.out.trans hS0 (by simp))) (UR.out.fresh (HC.out.trans hS0 (by simp)))).mono ?_
          rintro e w6 ⟨mv, us, rfl, hro6, hcx⟩
          have hS1 := hS0.trans hcx (by simp)
          refine hK.out _ _ (fun _ => hS1) ?_
          clear hK K hS0 hcx
          try simp only [Act.put, List.getElem_toArray, List.getElem_cons_zero, List.getElem_cons_succ, List.setIfInBounds_toArray, List.set_cons_zero, List.set_cons_succ]
          have HMR := Lib.hid (hro6.read fun l hl => HCR.out l (HFO.out l hl).1)
          obtain ⟨mo, mc, rfl⟩ := owns_shape hro6.out
          rw [hro6.len] at HMR ⊢
          have hal : (Plain.aroundOf g f.2).length ≤ 120 := Nat.le_trans (Plain.arTo_len g f.2 _).2 (by omega)
          obtain ⟨A, hA⟩ : ∃ A, Plain.aroundOf g f.2 = A := ⟨_, rfl⟩
          rw [hA] at HSI HFO HAI HMR hal ⊢
          have hS0 := hS1
          clear hro6 hA hS1
          repeat
            first
              | (refine along_off rfl (by rfl) (by rfl) (fun _ _ _ h => h) hS0 ?_; simp only [Act.put, List.getElem_toArray, List.getElem_cons_zero, List.getElem_cons_succ, List.setIfInBounds_toArray, List.set_cons_zero, List.set_cons_succ])
              | (refine along_read (v := ?_) rfl (by rfl) (by rfl) (fun _ _ _ h => h) hS0 (fun w' hS' => ?_) ?_; rotate_left; (focus (have rd0 := hS'.cell x0 (by simp); clear hS'; go_simp; try with_reducible rfl)); simp only [Act.put, List.getElem_toArray, List.getElem_cons_zero, List.getElem_cons_succ, List.setIfInBounds_toArray, List.set_cons_zero, List.set_cons_succ])
              | (refine along_skip rfl (by rfl) (by rfl) hS0 ?_; simp only [Act.put, List.getElem_toArray, List.getElem_cons_zero, List.getElem_cons_succ, List.setIfInBounds_toArray, List.set_cons_zero, List.set_cons_succ])
          refine along_done ?_
          have HC6 := Lib.hid (HC.out.trans hS0 (by simp))
          clear x0 x1 f0 f1 hS0
          go_wp2
          go_loopw [11, 14] (fun nv c wi => ∃ (k q' : Nat), c = .int .i64 k ∧ nv = .int .i64 q' ∧ k ≤ A.length ∧ q' = q + k ∧ Chg [] w6 wi) (fun _ c _ => A.length - (intOf c).toNat)
          case atStart => exact ⟨0, q, rfl, rfl, Nat.zero_le _, rfl, Chg.refl _ _⟩
          case round =>
            rename World => wi
            obtain ⟨k, q', rfl, rfl, hk, hq', hc⟩ := hrel
            have HCI := Lib.hid hc
            have HC7 := Lib.hid (HC6.out.trans hc (by simp))
            have HCW7 := Lib.hid (HC5.out.trans HC7.out (by simp))
            obtain ⟨x0, x1, y0, y1, z0, z1, hsz⟩ := HBXS.out wi (HC5B.out.trans HC7.out (by simp))
            by_cases hkl : k < A.length
            · have hat := HAI.out k hkl
              rw [← HQ.out, ← hq'] at hat
              obtain ⟨hql, hgd⟩ := hat
              obtain ⟨mb, moff, muo, muc, rfl, mcell, mrow⟩ := (HMR.out.fresh hc).row hkl
              obtain ⟨lb, loff, luo, luc, rfl, lcell, lrow⟩ := (HL5.out.fresh HC7.out).row hql
              have hcm : A.getD k [] ∈ A := by simp [List.getD, hkl]
              have hfo := HFO.out _ hcm
              rw [hgd] at lcell lrow
              obtain ⟨T, hT⟩ : ∃ T, A.getD k [] = T := ⟨_, rfl⟩
              rw [hT] at mcell mrow lcell lrow hfo
              have HMRW := Lib.hid mrow
              have HLRW := Lib.hid lrow
              have HTO := Lib.hid hfo
              have htl := Plain.cyc_len hfo.1
              have bge : decide (LL.length ≤ q') = false := decide_eq_false (by omega)
              have hq0 : (0 : Int) ≤ (q' : Int) := by omega
              have hqi : (q' : Int) < (LL.length : Int) := by omega
              have HQK := Lib.hid hq'
              clear hgd mrow lrow hcm hfo hT hc z0 z1 hsz hq'
              go_wp2
              have hS0 : Chg [] wi wi.drew := (Chg.refl [] wi).drew
              refine wp_region_way (Chg [] wi) [0, 1, 2, 3, 4, 5, 6, 7, 8, 9, 10, 11, 12, 14, 15, 16, 17, 18, 19, 20, 21, 22, 24, 25] (Way.line [0, 1, 2, 3, 4, 5, 6, 7, 8, 9, 10, 11, 12, 13, 14, 15, 16, 17, 18, 19, 20, 21, 22, 23, 24, 25] .done) (by kernel_rfl) (by kernel_rfl) ?_
              simp only [Way.line]
              repeat
                first
                  | (refine along_off rfl (by rfl) (by rfl) (fun _ _ _ h => h) hS0 ?_; simp only [Act.put, List.getElem_toArray, List.getElem_cons_zero, List.getElem_cons_succ, List.setIfInBounds_toArray, List.set_cons_zero, List.set_cons_succ])
                  | (refine along_read (v := ?_) rfl (by rfl) (by rfl) (fun _ _ _ h => h) hS0 (fun w' hS' => ?_) ?_; rotate_left; (focus (have rd0 := hS'.cell x0 (by simp); have rd1 := hS'.cell x1 (by simp); have rd2 := hS'.cell y0 (by simp); have rd3 := hS'.cell y1 (by simp); have rd4 := hS'.cell mcell (by simp); have rd5 := hS'.cell lcell (by simp); clear hS'; go_simp; try with_reducible rfl)); simp only [Act.put, List.getElem_toArray, List.getElem_cons_zero, List.getElem_cons_succ, List.setIfInBounds_toArray, List.set_cons_zero, List.set_cons_succ])
                  | (refine along_skip rfl (by rfl) (by rfl) hS0 ?_; simp only [Act.put, List.getElem_toArray, List.getElem_cons_zero, List.getElem_cons_succ, List.setIfInBounds_toArray, List.set_cons_zero, List.set_cons_succ])
              refine along_op rfl (by rfl) (by rfl) (fun K hK => ?_)
              go_simp
              refine (equal_any _ _ T T _ (HLRW.out.fresh hS0) (HMRW.out.fresh hS0)).mono ?_
              rintro e w7 ⟨rfl, hcx⟩
              have hS1 := hS0.trans hcx (by simp)
              clear hS0 hcx
              have hS0 := hS1
              clear hS1
              refine hK.out _ _ (fun _ => hS0) ?_
              clear hK K
              try simp only
              try rw [decide_eq_true (rfl : T = T)]
              repeat
                first
                  | (refine along_off rfl (by rfl) (by rfl) (fun _ _ _ h => h) hS0 ?_; simp only [Act.put, List.getElem_toArray, List.getElem_cons_zero, List.getElem_cons_succ, List.setIfInBounds_toArray, List.set_cons_zero, List.set_cons_succ])
                  | (refine along_read (v := ?_) rfl (by rfl) (by rfl) (fun _ _ _ h => h) hS0 (fun w' hS' => ?_) ?_; rotate_left; (focus (have rd0 := hS'.cell x0 (by simp); have rd1 := hS'.cell x1 (by simp); have rd2 := hS'.cell y0 (by simp); have rd3 := hS'.cell y1 (by simp); have rd4 := hS'.cell mcell (by simp); have rd5 := hS'.cell lcell (by simp); clear hS'; go_simp; try with_reducible rfl)); simp only [Act.put, List.getElem_toArray, List.getElem_cons_zero, List.getElem_cons_succ, List.setIfInBounds_toArray, List.set_cons_zero, List.set_cons_succ])
                  | (refine along_skip rfl (by rfl) (by rfl) hS0 ?_; simp only [Act.put, List.getElem_toArray, List.getElem_cons_zero, List.getElem_cons_succ, List.setIfInBounds_toArray, List.set_cons_zero, List.set_cons_succ])
              refine along_op rfl (by rfl) (by rfl) (fun K hK => ?_)
              go_simp
              refine (cycle_any _ _ _ g p T _ (by omega) (by omega) (by omega) (HG.out.fresh (HCW7.out.trans hS0 (by simp))) (HP.out.fresh (HCW7.out.trans hS0 (by simp))) (HMRW.out.fresh hS0)).mono ?_
              rintro e w8 ⟨rfl, hcx⟩
              have hS1 := hS0.trans hcx (by simp)
              clear hS0 hcx
              have hS0 := hS1
              clear hS1
              refine hK.out _ _ (fun _ => hS0) ?_
              clear hK K
              try simp only [Act.put, List.getElem_toArray, List.getElem_cons_zero, List.getElem_cons_succ, List.setIfInBounds_toArray, List.set_cons_zero, List.set_cons_succ]
              rw [HTO.out.1]
              repeat
                first
                  | (refine along_off rfl (by rfl) (by rfl) (fun _ _ _ h => h) hS0 ?_; simp only [Act.put, List.getElem_toArray, List.getElem_cons_zero, List.getElem_cons_succ, List.setIfInBounds_toArray, List.set_cons_zero, List.set_cons_succ])
                  | (refine along_read (v := ?_) rfl (by rfl) (by rfl) (fun _ _ _ h => h) hS0 (fun w' hS' => ?_) ?_; rotate_left; (focus (have rd0 := hS'.cell x0 (by simp); clear hS'; go_simp; try with_reducible rfl)); simp only [Act.put, List.getElem_toArray, List.getElem_cons_zero, List.getElem_cons_succ, List.setIfInBounds_toArray, List.set_cons_zero, List.set_cons_succ])
                  | (refine along_skip rfl (by rfl) (by rfl) hS0 ?_; simp only [Act.put, List.getElem_toArray, List.getElem_cons_zero, List.getElem_cons_succ, List.setIfInBounds_toArray, List.set_cons_zero, List.set_cons_succ])
              refine along_done ?_
              have HC8 := Lib.hid hS0
              have HM8 := Lib.hid (HMRW.out.fresh hS0)
              have MC := Lib.hid (hS0.cell mcell (by simp))
              clear hS0 x0 x1 y0 y1 lcell mcell
              go_wp2
              go_loopw [15] (fun c wj => ∃ j : Nat, j ≤ T.length ∧ c = .int .i64 j ∧ Chg [] w8 wj) (fun c _ => T.length - (intOf c).toNat)
              case atStart => exact ⟨0, Nat.zero_le _, rfl, Chg.refl _ _⟩
              case round =>
                rename World => wj
                obtain ⟨j, hj, rfl, hc⟩ := hrel
                have HCJ := Lib.hid hc
                have mcell := hc.cell MC.out (by simp)
                by_cases hjl : j < T.length
                · obtain ⟨tb, toff, rfl, tc⟩ := IntsAt.cellAt HM8.out hjl
                  have tcell := hc.cell tc (by simp)
                  have HC5J := Lib.hid ((HC7.out.trans HC8.out (by simp)).trans hc (by simp))
                  have f1 := HC5J.out.cell U1.out (by simp)
                  have hin := HTO.out.2 _ (Plain.getD_mem hjl)
                  obtain ⟨x, hx⟩ : ∃ x, T.getD j 0 = x := ⟨_, rfl⟩
                  rw [hx] at tcell hin
                  have HIN := Lib.hid hin
                  clear tc hin hx hc
                  go_wp2
                  have hS0 : Chg [] wj wj.drew := (Chg.refl [] wj).drew
                  refine wp_region_way (Chg [] wj) [0, 1, 2, 3, 4, 5, 6, 7, 8, 9, 10, 11, 13] (Way.line [0, 1, 2, 3, 4, 5, 6, 7, 8, 9, 10, 11, 12, 13] .done) (by kernel_rfl) (by kernel_rfl) ?_
                  simp only [Way.line]
                  repeat
                    first
                      | (refine along_off rfl (by rfl) (by rfl) (fun _ _ _ h => h) hS0 ?_; simp only [Act.put, List.getElem_toArray, List.getElem_cons_zero, List.getElem_cons_succ, List.setIfInBounds_toArray, List.set_cons_zero, List.set_cons_succ])
                      | (refine along_read (v := ?_) rfl (by rfl) (by rfl) (fun _ _ _ h => h) hS0 (fun w' hS' => ?_) ?_; rotate_left; (focus (have rd0 := hS'.cell f1 (by simp); have rd1 := hS'.cell mcell (by simp); have rd2 := hS'.cell tcell (by simp); clear hS'; go_simp; try with_reducible rfl)); simp only [Act.put, List.getElem_toArray, List.getElem_cons_zero, List.getElem_cons_succ, List.setIfInBounds_toArray, List.set_cons_zero, List.set_cons_succ])
                      | (refine along_skip rfl (by rfl) (by rfl) hS0 ?_; simp only [Act.put, List.getElem_toArray, List.getElem_cons_zero, List.getElem_cons_succ, List.setIfInBounds_toArray, List.set_cons_zero, List.set_cons_succ])
                  refine along_op rfl (by rfl) (by rfl) (fun K hK => ?_)
                  go_simp
                  refine (in_any _ f.2 x _ (UR.out.fresh (HC5J.out.trans hS0 (by simp)))).mono ?_
                  rintro e w9 ⟨rfl, hcx⟩
                  have hS1 := hS0.trans hcx (by simp)
                  clear hS0 hcx
                  have hS0 := hS1
                  clear hS1
                  refine hK.out _ _ (fun _ => hS0) ?_
                  clear hK K
                  try simp only [Act.put, List.getElem_toArray, List.getElem_cons_zero, List.getElem_cons_succ, List.setIfInBounds_toArray, List.set_cons_zero, List.set_cons_succ]
                  rw [decide_eq_true HIN.out]
                  repeat
                    first
                      | (refine along_off rfl (by rfl) (by rfl) (fun _ _ _ h => h) hS0 ?_; simp only [Act.put, List.getElem_toArray, List.getElem_cons_zero, List.getElem_cons_succ, List.setIfInBounds_toArray, List.set_cons_zero, List.set_cons_succ])
                      | (refine along_read (v := ?_) rfl (by rfl) (by rfl) (fun _ _ _ h => h) hS0 (fun w' hS' => ?_) ?_; rotate_left; (focus (have rd0 := hS'.cell f1 (by simp); clear hS'; go_simp; try with_reducible rfl)); simp only [Act.put, List.getElem_toArray, List.getElem_cons_zero, List.getElem_cons_succ, List.setIfInBounds_toArray, List.set_cons_zero, List.set_cons_succ])
                      | (refine along_skip rfl (by rfl) (by rfl) hS0 ?_; simp only [Act.put, List.getElem_toArray, List.getElem_cons_zero, List.getElem_cons_succ, List.setIfInBounds_toArray, List.set_cons_zero, List.set_cons_succ])
                  refine along_done ?_
                  have HC9 := Lib.hid (HCJ.out.trans hS0 (by simp))
                  clear hS0 f1 mcell tcell
                  go_wp2
                  go_roundw
                  case rel => exact ⟨j + 1, by omega, by go_num, HC9.out⟩
                  case measure => simp [intOf]; omega
                · have e : j = T.length := by omega
                  subst e
                  have HC9 := Lib.hid ((HCI.out.trans HC8.out (by simp)).trans HCJ.out (by simp))
                  clear hc
                  go_wp2
                  go_roundw
                  case rel => exact ⟨k + 1, q' + 1, by go_num, by go_num, by omega, by have := HQK.out; omega, HC9.out⟩
                  case measure => simp [intOf]; omega
            · have e : k = A.length := by omega
              subst e
              have HQN := Lib.hid (show q' = (Plain.cycsTo g W (i + 1)).length by rw [HSI.out, List.length_append, ← HQ.out]; exact hq')
              have hqn : q' ≤ LL.length := by
                have h1 := HQN.out
                by_cases hi1 : i + 1 < W.length
                · obtain ⟨r, hr⟩ := Plain.cycsTo_all (g := g) hi1
                  rw [HLLE.out] at hr
                  rw [h1, hr, List.length_append]
                  omega
                · rw [h1, show i + 1 = W.length by omega, HLLE.out]
                  exact Nat.le_refl _
              clear x0 x1 y0 y1 z0 z1 hsz hc
              go_wp2
              go_roundw
              case rel => exact ⟨i + 1, q', by go_num, rfl, by omega, hqn, HQN, HC7.out⟩
              case measure => simp [intOf]; omega
        · have e : i = W.length := by omega
          subst e
          have hqe : q = LL.length := by rw [HQ.out, HLLE.out]
          subst hqe
          clear x0 x1 y0 y1 z0 z1 hsz hc
          go_wp2
          go_ret
          exact ⟨rfl, HCW.out⟩
    · have hlv := hno hz
      subst hlv
      have hnb : (Plain.planErr g p turn same != 0) = true := by simp only [bne_iff_ne]; exact hz
      obtain ⟨x0, x1, y0, y1, z0, z1, hsz⟩ := HBXS.out w4 HC4B.out
      obtain ⟨er, her⟩ : ∃ er, Plain.planErr g p turn same = er := ⟨_, rfl⟩
      have HER := Lib.hid her
      rw [her] at hnb ⊢
      have bee : (er == er) = true := by simp
      clear hno hyes hz her
      go_wp2_with fail
      refine (right_any _ _ _ g p turn same _ (by omega) (by omega) (by omega) (by have := HB4.out; omega) (by omega) HB6.out (HG.out.fresh HC4.out) (HP.out.fresh HC4.out) (HX.out.fresh HC4.out)).mono ?_
      rintro e w6 ⟨rfl, hc6⟩
      rw [HER.out]
      have HC6 := Lib.hid (HC4.out.trans hc6 (by simp))
      clear x0 x1 y0 y1 z0 z1 hsz hc6
      go_wp2
      go_ret
      exact ⟨rfl, HC6.out⟩
  · have hbf : (Plain.small8 g p turn same && decide (([] : List Int).length ≤ 60)) = false := by simpa using hb
    rw [hbf]
    clear hb hbf
    go_wp2_with fail
    refine (awake10_any _).mono ?_
    rintro e w4 ⟨rfl, hc4⟩
    have HC4 := Lib.hid (HC3.out.trans hc4 (by simp))
    clear hc4
    go_wp2
    go_ret
    exact ⟨rfl, HC4.out⟩
end Go.Proofs.Ytfgbkpbakignhaa
/- From what comes in, as it is read, to the plain words of this seat: a graph, a part, a plan. -/
namespace Go.Proofs.Ytfgbkpbakignhaa
open Go.ChangeShapes Go.WideShapes Go.ChangeAt Go.RowKit Go.Deep Go.Joins

section
variable {H : Type} {enc : TypeId × Value → H} {w : World} {base : Nat} {held : Bool}

theorem cellsInt : Try.prog.cellsOf 3 = 1 := by kernel_rfl
theorem cellsRow : Try.prog.cellsOf 25 = 1 := by kernel_rfl
theorem cellsEdge : Try.prog.cellsOf 42 = 2 := by kernel_rfl

/-- A []int that came in. -/
theorem ints_open {fuel : Nat} {u : Value} {x : DataW H × List MemPlace} (h : DataW.trod enc Try.prog w base (fun _ => true) held fuel 25 [u] = some x) : ∃ l, IntsAt w u l ∧ CapOk u := by
  rcases open_ints Try.underlying25 Try.underlying3 cellsInt h with ⟨hcs, _⟩ | ⟨a, len', cap', zs, hcs, _, hl, hm, hz, _, hcell, hwz⟩
  · simp at hcs
    subst hcs
    exact ⟨[], IntsAt.nil w, none, 0, 0, rfl, by decide, by decide⟩
  · simp at hcs
    subst hcs
    have hz' : zs.length = cap' := by simpa using hz
    have hlen : (zs.take len').length = len' := by simp; omega
    unfold maxLen at hm
    refine ⟨zs.take len', ⟨some a, cap', by rw [hlen], fun y hy => hwz y (List.mem_of_mem_take hy), by rw [hlen]; omega, fun hne => ?_⟩, some a, len', cap', rfl, hl, by omega⟩
    obtain ⟨b, off, rfl, hc⟩ := ints_at hcell (by
      rcases Nat.eq_zero_or_pos zs.length with q | q
      · rw [List.length_eq_zero_iff.1 q] at hne; simp at hne
      · exact q)
    refine ⟨b, off, rfl, fun i hi => ?_⟩
    rw [hlen] at hi
    rw [hc i (by omega)]
    simp [List.getD, hi]

/-- A [][]int that came in. -/
theorem rows_open {fuel : Nat} {u : Value} {x : DataW H × List MemPlace} (h : DataW.trod enc Try.prog w base (fun _ => true) held fuel 28 [u] = some x) : ∃ ll, RowsAt w u ll := by
  rcases open_slice Try.underlying28 h with ⟨hcs, _⟩ | ⟨a, len', cap', m, n, D, Pl, hcs, _, hl, hm, hmm, _, hx⟩
  · simp at hcs
    subst hcs
    exact ⟨[], none, 0, rfl, by decide, fun i hi => absurd hi (by simp)⟩
  · simp at hcs
    subst hcs
    simp only [if_true] at hmm
    subst hmm
    have each : ∀ i, i < m → ∃ l : List Int, ∃ u, w.cell? (a.add (i * 1)) = some u ∧ IntsAt w u l ∧ CapOk u := by
      intro i hi
      obtain ⟨cs', hc, ht⟩ := hx i hi
      rw [cellsRow] at hc
      obtain ⟨_, hlen, hat⟩ := World.cells?_some hc
      match cs', hlen with
      | [c0], _ =>
        obtain ⟨l, h1, h2⟩ := ints_open ht
        refine ⟨l, c0, ?_, h1, h2⟩
        have := hat 0 (by omega); rw [add_add] at this; simpa using this
    obtain ⟨f, hf⟩ := choose_lt each
    unfold maxLen at hm
    refine ⟨(List.range len').map f, some a, m, by simp, by simp; omega, fun i hi => ?_⟩
    have hi : i < len' := by simpa using hi
    obtain ⟨u, k0, k1, k2⟩ := hf i (by omega)
    obtain ⟨b, off, spot⟩ := a
    have hs : spot = none := by
      obtain ⟨u0, z0, -⟩ := hf 0 (by omega)
      have := World.cell?_spot z0
      simpa [Addr.add] using this
    subst hs
    refine ⟨b, off, u, rfl, ?_, k2, by simpa [List.getD, hi] using k1⟩
    have := k0
    rw [add_plain] at this
    simpa using this

set_option maxRecDepth 100000 in
/-- An api.Graph that came in. -/
theorem gr_open {r : Reach} {b0 : Nat} {v : Value} {d : DataW H} {p : List MemPlace} (hv : Value.okWide Try.prog w r b0 24 v) (h : DataW.Trod enc Try.prog w base (fun _ => true) held 24 v d p) : ∃ g, GrAt w v g := by
  obtain ⟨c0, c1, y0, y1, n, rfl, -, -, h0, h1⟩ := open_agg2 Try.underlying24 (by kernel_rfl) (by kernel_rfl) hv h
  obtain ⟨N, e0, _, w0⟩ := DataW.trod_int Try.underlying3 h0
  simp at e0
  subst e0
  rcases open_slice Try.underlying22 h1 with ⟨hcs, _⟩ | ⟨a, len', cap', m, n', D, Pl, hcs, _, hl, hm, hmm, _, hx⟩
  · simp at hcs
    subst hcs
    exact ⟨⟨N, []⟩, none, 0, rfl, w0, Nat.zero_le _, fun i hi => absurd hi (by simp), fun i hi => absurd hi (by simp)⟩
  · simp at hcs
    subst hcs
    simp only [if_true] at hmm
    subst hmm
    have each : ∀ i, i < m → ∃ y : Int × Int, (I64 y.1 ∧ I64 y.2) ∧ w.cell? (a.add (i * 2)) = some (.int .i64 y.1) ∧ w.cell? (a.add (i * 2 + 1)) = some (.int .i64 y.2) := by
      intro i hi
      obtain ⟨cs', hc, ht⟩ := hx i hi
      rw [cellsEdge] at hc
      obtain ⟨_, hlen, hat⟩ := World.cells?_some hc
      obtain ⟨y0, y1, n', _, _, k0, k1⟩ := trod_struct2 Try.underlying42 ht
      match cs', hlen with
      | [c0, c1], _ =>
        simp only [cellsInt, List.drop_zero, List.drop_succ_cons, List.take_succ_cons, List.take_zero] at k0 k1
        obtain ⟨x0, e0, _, q0⟩ := DataW.trod_int Try.underlying3 k0
        obtain ⟨x1, e1, _, q1⟩ := DataW.trod_int Try.underlying3 k1
        simp at e0 e1
        subst e0 e1
        refine ⟨(x0, x1), ⟨q0, q1⟩, ?_, ?_⟩
        · have := hat 0 (by omega); rw [add_add] at this; simpa using this
        · have := hat 1 (by omega); rw [add_add] at this; simpa using this
    obtain ⟨f, hf⟩ := choose_lt each
    unfold maxLen at hm
    have hg : ∀ i, i < len' → ((List.range len').map f).getD i (0, 0) = f i := fun i hi => by simp [List.getD, hi]
    refine ⟨⟨N, (List.range len').map f⟩, some a, m, by simp, w0, by simp; omega, fun i hi => ?_, fun i hi => ?_⟩
    · have hi : i < len' := by simpa using hi
      show I64 (((List.range len').map f).getD i (0, 0)).1 ∧ I64 (((List.range len').map f).getD i (0, 0)).2
      rw [hg i hi]
      exact (hf i (by omega)).1
    · have hi : i < len' := by simpa using hi
      obtain ⟨_, k0, k1⟩ := hf i (by omega)
      obtain ⟨b, off, spot⟩ := a
      have hs : spot = none := by
        have := World.cell?_spot (hf 0 (by omega)).2.1
        simpa [Addr.add] using this
      subst hs
      refine ⟨b, off, rfl, ?_, ?_⟩
      · show _ = some (Value.int .i64 (((List.range len').map f).getD i (0, 0)).1)
        rw [hg i hi, ← add_plain]; exact k0
      · show _ = some (Value.int .i64 (((List.range len').map f).getD i (0, 0)).2)
        rw [hg i hi, Nat.add_assoc, ← add_plain]; exact k1

set_option maxRecDepth 100000 in
/-- An api.Part that came in. -/
theorem pt_open {r : Reach} {b0 : Nat} {v : Value} {d : DataW H} {p : List MemPlace} (hv : Value.okWide Try.prog w r b0 27 v) (h : DataW.Trod enc Try.prog w base (fun _ => true) held 27 v d p) : ∃ g, PtAt w v g := by
  obtain ⟨c0, c1, y0, y1, n, rfl, -, -, h0, h1⟩ := open_agg2 Try.underlying27 (by kernel_rfl) (by kernel_rfl) hv h
  obtain ⟨l0, k0, -⟩ := ints_open h0
  obtain ⟨l1, k1, -⟩ := ints_open h1
  exact ⟨⟨l0, l1⟩, c0, c1, rfl, k0, k1⟩

set_option maxRecDepth 100000 in
/-- An api.Plan that came in. -/
theorem pl_open {r : Reach} {b0 : Nat} {v : Value} {d : DataW H} {p : List MemPlace} (hv : Value.okWide Try.prog w r b0 30 v) (h : DataW.Trod enc Try.prog w base (fun _ => true) held 30 v d p) : ∃ turn same, PlAt w v turn same := by
  obtain ⟨c0, c1, y0, y1, n, rfl, -, -, h0, h1⟩ := open_agg2 Try.underlying30 (by kernel_rfl) (by kernel_rfl) hv h
  obtain ⟨l0, k0⟩ := rows_open h0
  obtain ⟨l1, k1⟩ := rows_open h1
  exact ⟨l0, l1, c0, c1, rfl, k0, k1⟩
end
end Go.Proofs.Ytfgbkpbakignhaa
