/- the law PlanRights: the walk. Conditions: a graph, a part, a plan that lie in memory and read so. -/
import Derived.Test.YtpbljifejopecaaVPlanPartsW
import Derived.Test.YtpbljifejopecaaVRef8W
import Derived.Test.YtpbljifejopecaaVRegs8
import Derived.Test.YtpbljifejopecaaVRef1
namespace Go.Proofs.Ytpbljifejopecaa
open Go.RowKit Go.Maps

set_option maxRecDepth 100000 in
set_option maxHeartbeats 8000000 in
theorem planRights_any (vg vp vx : Value) (g : Plain.Gr) (p : Plain.Pt) (turn same : List (List Int)) (key : Int) (w : World) (hg : GrAt w vg g) (hp : PtAt w vp p) (hx : PlAt w vx turn same) :
    Calls Try.prog 4 #[vg, vp, vx, .int .i64 key] w fun e w' => e = .returned (.bool true) ∧ Chg [] w w' := by
  have HG := Lib.hid hg
  have HP := Lib.hid hp
  have HX := Lib.hid hx
  obtain ⟨eo, cap, rfl, hn, hm, hsm, hcell⟩ := hg
  obtain ⟨v1, v2, rfl, hv, he⟩ := hp
  obtain ⟨ao, ac, rfl, has, ham, hacell⟩ := hv
  obtain ⟨bo, bc, rfl, hbs, hbm, hbcell⟩ := he
  have HAC := Lib.hid hacell
  have HBC := Lib.hid hbcell
  obtain ⟨t1, t2, rfl, ht, hs⟩ := hx
  have HT := Lib.hid ht
  have HS := Lib.hid hs
  obtain ⟨tno, tc, rfl, htm, -⟩ := ht
  obtain ⟨so, sc, rfl, hsm2, hsc⟩ := hs
  obtain ⟨-, -, hc1⟩ := box_two w #[.int .i64 g.n, .slice eo g.e.length cap] #[.slice ao p.v.length ac, .slice bo p.e.length bc] 24 27
  obtain ⟨-, hc3⟩ := box_three w #[.int .i64 g.n, .slice eo g.e.length cap] #[.slice ao p.v.length ac, .slice bo p.e.length bc] #[.slice tno turn.length tc, .slice so same.length sc] 24 27 32
  have HC1 := Lib.hid (hc1.trans hc3 (by simp))
  have HBXS := Lib.hid (fun w2 h => three_boxes w (g := g) (p := p) (turn := turn) (same := same) (eo := eo) (ao := ao) (bo := bo) (tno := tno) (so := so) (cap := cap) (ac := ac) (bc := bc) (tc := tc) (sc := sc) (w2 := w2) h)
  clear hcell hacell hbcell hsm hbs has hn hc1 hc3 hsc
  go_enter Try.func4, Try.ntmps4
  go_wp2_with fail
  refine (awake8_any _).mono ?_
  rintro e w2 ⟨rfl, hc2⟩
  obtain ⟨x0, x1, y0, y1, z0, z1, hsz⟩ := HBXS.out w2 hc2
  have HC2 := Lib.hid (HC1.out.trans hc2 (by simp))
  have HC2B := Lib.hid hc2
  clear hc2
  go_wp2_with fail
  refine (small8_any _ _ _ g p turn same _ (HG.out.fresh HC2.out) (HP.out.fresh HC2.out) (HX.out.fresh HC2.out)).mono ?_
  rintro e w3 ⟨rfl, hc3⟩
  have HC3 := Lib.hid (HC2.out.trans hc3 (by simp))
  have HC3B := Lib.hid (HC2B.out.trans hc3 (by simp))
  clear x0 x1 y0 y1 z0 z1 hsz hc3
  cases hb : Plain.small8 g p turn same with
  | false =>
    rw [show bit false = 0 from rfl]
    clear hb
    go_wp2_with fail
    refine (awake8_any _).mono ?_
    rintro e w4 ⟨rfl, hc4⟩
    have HC4 := Lib.hid (HC3.out.trans hc4 (by simp))
    clear hc4
    go_wp2
    go_ret
    exact ⟨rfl, HC4.out⟩
  | true =>
    obtain ⟨b1, b2, b3, b4, b5, b6⟩ := Plain.small8_is hb
    have HRL := Lib.hid (fun v => Nat.lt_of_le_of_lt (Plain.small8_rows hb v) (by decide : 200 < 4294967296))
    have hgl : g.e.length ≤ 60 := by
      unfold Plain.small8 Plain.small6 Plain.small4 at hb
      simp only [Bool.and_eq_true, decide_eq_true_eq] at hb
      exact hb.1.1.1.1.1.1.1
    have HB4 := Lib.hid b4
    have HB6 := Lib.hid (fun i => Nat.le_trans (b6 i) (by omega : 60 ≤ 10000))
    rw [show bit true = 1 from rfl]
    obtain ⟨x0, x1, y0, y1, z0, z1, hsz⟩ := HBXS.out w3 HC3B.out
    clear hb b4 b6
    go_wp2_with fail
    refine (right_any _ _ _ g p turn same _ (by omega) (by omega) (by omega) (by have := HB4.out; omega) (by omega) HB6.out (HG.out.fresh HC3.out) (HP.out.fresh HC3.out) (HX.out.fresh HC3.out)).mono ?_
    rintro e w4 ⟨rfl, hc4⟩
    have HC4 := Lib.hid (HC3.out.trans hc4 (by simp))
    have HC4B := Lib.hid (HC3B.out.trans hc4 (by simp))
    clear x0 x1 y0 y1 z0 z1 hsz hc4
    obtain ⟨x0, x1, y0, y1, z0, z1, hsz⟩ := HBXS.out w4 HC4B.out
    go_wp2_with fail
    refine (regions_any _ _ _ g p turn same _ (by omega) (by omega) (by omega) (by have := HB4.out; omega) (by omega) HB6.out (HG.out.fresh HC4.out) (HP.out.fresh HC4.out) (HX.out.fresh HC4.out)).mono ?_
    rintro e w5 ⟨ov, rfl, herr, hres, hc5⟩
    have HC5 := Lib.hid (HC4.out.trans hc5 (by simp))
    have HC5B := Lib.hid (HC4B.out.trans hc5 (by simp))
    clear x0 x1 y0 y1 z0 z1 hsz hc5
    obtain ⟨x0, x1, y0, y1, z0, z1, hsz⟩ := HBXS.out w5 HC5B.out
    have HERR := Lib.hid herr
    have HRES := Lib.hid hres
    have hsh : ∃ a n c, ov = .slice a n c := by
      by_cases hz : Plain.planErr g p turn same = 0
      · obtain ⟨vs, ll, h1, -⟩ := hres hz
        obtain ⟨a, c, e⟩ := owns_shape h1.out
        exact ⟨a, _, c, e⟩
      · exact ⟨_, _, _, herr hz⟩
    obtain ⟨oa, on, oc, rfl⟩ := hsh
    clear herr hres
    go_wp2_with fail
    refine (region_any _ _ _ g p turn same key _ (by omega) (by omega) (by omega) (by have := HB4.out; omega) (by omega) HB6.out (HG.out.fresh HC5.out) (HP.out.fresh HC5.out) (HX.out.fresh HC5.out)).mono ?_
    rintro e w6 ⟨rfl, hc6⟩
    have HC6 := Lib.hid (HC5.out.trans hc6 (by simp))
    have HC6B := Lib.hid (HC5B.out.trans hc6 (by simp))
    have HC56 := Lib.hid hc6
    clear x0 x1 y0 y1 z0 z1 hsz hc6
    obtain ⟨x0, x1, y0, y1, z0, z1, hsz⟩ := HBXS.out w6 HC6B.out
    have HRR := Lib.hid (show Plain.regionRes g p turn same key = if Plain.planErr g p turn same ≠ 0 then (0, false) else match Plain.regionAt (Plain.regionsOf g p turn same) key with
      | some i => ((i : Int), true)
      | none => (0, false) from rfl)
    obtain ⟨⟨rx, rb⟩, hrr⟩ : ∃ rr, Plain.regionRes g p turn same key = rr := ⟨_, rfl⟩
    rw [hrr] at HRR ⊢
    clear hrr
    go_wp2_with fail
    refine (refRight8_any _ _ _ g p turn same _ (by omega) (by omega) (by omega) HRL.out (by omega) HB6.out (HG.out.fresh HC6.out) (HP.out.fresh HC6.out) (HX.out.fresh HC6.out)).mono ?_
    rintro e w7 ⟨rfl, hc7⟩
    have HC7 := Lib.hid (HC6.out.trans hc7 (by simp))
    have HC7B := Lib.hid (HC6B.out.trans hc7 (by simp))
    have HC57 := Lib.hid (HC56.out.trans hc7 (by simp))
    clear x0 x1 y0 y1 z0 z1 hsz hc7
    obtain ⟨x0, x1, y0, y1, z0, z1, hsz⟩ := HBXS.out w7 HC7B.out
    by_cases hz : Plain.planErr g p turn same = 0
    · obtain ⟨vs, ll, h1, h2, h3, h4⟩ := HRES.out hz
      have hpt := Plain.parted hz h4
      have hreg : Plain.IsRegs g p turn same ll := ⟨h2, h3⟩
      have hsm := Plain.regs_small hpt hreg
      have hwl := h4.len
      have hll : ll = Plain.regionsOf g p turn same := hreg.eq hpt
      have hrd := h1.read fun l hl => ⟨fun x hx => ((hsm l hl).1 x hx).1, by have := (hsm l hl).2; omega⟩
      rw [hll] at hrd
      have HRD := Lib.hid (hrd.fresh HC57.out)
      have HZ := Lib.hid hz
      rw [if_neg (by simp [hz])] at HRR
      have hRl : (Plain.regionsOf g p turn same).length ≤ 180 := by
        rw [← hll]
        have h5 : ∀ {s : List (List Int)}, (∀ l ∈ s, l ≠ []) → s.length ≤ s.flatten.length := by
          intro s
          induction s with
          | nil => simp
          | cons a s ih =>
            intro hs
            have := ih fun l hl => hs l (by simp [hl])
            have := List.length_pos_iff.2 (hs a (by simp))
            rw [List.flatten_cons, List.length_append, List.length_cons]
            omega
        have h6 := h5 fun l hl => hpt.ne l (h2.mem_iff.1 hl)
        have h7 := (h2.flatten.trans hpt.all).length_eq
        rw [List.length_map] at h7
        omega
      rw [hz]
      clear h1 h2 h3 h4 hpt hreg hsm hwl hrd hz hll
      go_wp2_with fail
      refine (refRegions8_any _ _ _ g p turn same _ (by omega) (by omega) HRL.out (by omega) HZ.out (HG.out.fresh HC7.out) (HP.out.fresh HC7.out) (HX.out.fresh HC7.out)).mono ?_
      rintro e w8 ⟨mv, rfl, hmr, hc8⟩
      obtain ⟨LL, hLL⟩ : ∃ LL, Plain.regionsOf g p turn same = LL := ⟨_, rfl⟩
      rw [hLL] at HRD HRR hRl hmr
      have HMR := Lib.hid hmr
      obtain ⟨mo, mc, rfl, -, -⟩ := id hmr
      have HC8 := Lib.hid (HC7.out.trans hc8 (by simp))
      have HRD8 := Lib.hid (HRD.out.fresh hc8)
      clear x0 x1 y0 y1 z0 z1 hsz hmr hc8 hLL
      go_wp2_with fail
      refine (refEquals_any _ _ LL LL _ HRD8.out HMR.out).mono ?_
      rintro e w9 ⟨rfl, hc9⟩
      have HC9 := Lib.hid (HC8.out.trans hc9 (by simp))
      have HMR9 := Lib.hid (HMR.out.fresh hc9)
      rw [decide_eq_true (rfl : LL = LL)]
      clear hc9
      go_wp2
      go_loopw [16] (fun c wr => ∃ k : Nat, k ≤ LL.length ∧ c = .int .i64 k ∧ Hid (∀ i, i < k → key ∉ LL.getD i []) ∧ Chg [] w9 wr) (fun c _ => LL.length - (intOf c).toNat)
      case atStart => exact ⟨0, Nat.zero_le _, rfl, Lib.hid (by omega), Chg.refl _ _⟩
      case round =>
        obtain ⟨k, hk, rfl, hno, hc⟩ := hrel
        have HC := Lib.hid hc
        by_cases hlt : k < LL.length
        · obtain ⟨tb, toff, uo, uc, rfl, tcell, hrow⟩ := (HMR9.out.fresh hc).row hlt
          have HROW := Lib.hid hrow
          have HHIT := Lib.hid (fun h => regionAt_take (key := key) hlt hno.out h)
          have HNO := Lib.hid (fun (h : key ∉ LL.getD k []) i (hi : i < k + 1) => show key ∉ LL.getD i [] from by
            by_cases e : i = k
            · rw [e]; exact h
            · exact hno.out i (by omega))
          obtain ⟨T, hT⟩ : ∃ T, LL.getD k [] = T := ⟨_, rfl⟩
          rw [hT] at tcell HROW HHIT HNO
          clear hrow hc hT
          go_wp2_with fail
          refine (in_any _ T key _ HROW.out).mono ?_
          rintro e w10 ⟨rfl, hc10⟩
          have HC10 := Lib.hid (HC.out.trans hc10 (by simp))
          have HCF := Lib.hid (HC9.out.trans HC10.out (by simp))
          clear hc10 tcell
          by_cases hin : key ∈ T
          · rw [decide_eq_true hin]
            have HE := Lib.hid (show (rx, rb) = ((k : Int), true) from by rw [HRR.out, HHIT.out hin])
            obtain ⟨rfl, rfl⟩ : rx = (k : Int) ∧ rb = true := by simpa using HE.out
            have bk : ((k : Int) == (k : Int)) = true := by simp
            clear hin
            go_wp2
            go_ret
            exact ⟨rfl, HCF.out⟩
          · rw [decide_eq_false hin]
            have HE := Lib.hid (HNO.out hin)
            clear hin
            go_wp2
            go_roundw
            case rel => exact ⟨k + 1, by omega, by go_num, HE, HC10.out⟩
            case measure => simp [intOf]; omega
        · have e : k = LL.length := by omega
          subst e
          have HE := Lib.hid (show (rx, rb) = ((0 : Int), false) from by rw [HRR.out, regionAt_no hno.out])
          obtain ⟨rfl, rfl⟩ : rx = 0 ∧ rb = false := by simpa using HE.out
          have HCF := Lib.hid (HC9.out.trans HC.out (by simp))
          clear hc
          go_wp2
          go_ret
          exact ⟨rfl, HCF.out⟩
    · have hov := HERR.out hz
      simp only [Value.slice.injEq] at hov
      obtain ⟨rfl, rfl, rfl⟩ := hov
      rw [if_pos hz] at HRR
      obtain ⟨rfl, rfl⟩ : rx = 0 ∧ rb = false := by simpa using HRR.out
      obtain ⟨er, her⟩ : ∃ er, Plain.planErr g p turn same = er := ⟨_, rfl⟩
      rw [her] at hz ⊢
      have be : (er != er) = false := by simp
      have bz : (er != 0) = true := by simp only [bne_iff_ne]; exact hz
      clear hz her
      go_wp2
      go_ret
      exact ⟨rfl, HC7.out⟩
end Go.Proofs.Ytpbljifejopecaa
