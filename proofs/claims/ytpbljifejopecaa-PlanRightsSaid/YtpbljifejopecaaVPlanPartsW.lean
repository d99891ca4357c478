/- the law PlanParts: the walk. Conditions: a graph, a part, a plan that lie in memory and read so. -/
import Derived.Test.YtpbljifejopecaaVAwake8
import Derived.Test.YtpbljifejopecaaVKit
import Derived.Test.YtpbljifejopecaaVRefP
import Derived.Test.YtpbljifejopecaaVRefW
namespace Go.Proofs.Ytpbljifejopecaa
open Go.RowKit Go.Maps

namespace Plain
theorem small8_rows {g : Gr} {p : Pt} {turn same : List (List Int)} (h : small8 g p turn same = true) : ∀ v, (turnAt turn v).length ≤ 200 := by
  unfold small8 small6 small4 at h
  simp only [Bool.and_eq_true] at h
  obtain ⟨⟨⟨⟨h4, h5⟩, h6⟩, h7⟩, h8⟩ := h
  exact fun v => getD_le (all_le h6) v.toNat
theorem seen_mem {ll : List (List Int)} {i j : Nat} (hi : i < ll.length) {x : Int} (hx : x ∈ seen ll i j) : x ∈ ll.flatten := by
  unfold seen at hx
  rcases List.mem_append.1 hx with q | q
  · obtain ⟨l, hl, hxl⟩ := List.mem_flatten.1 q
    exact List.mem_flatten.2 ⟨l, List.mem_of_mem_take hl, hxl⟩
  · exact List.mem_flatten.2 ⟨ll[i], List.getElem_mem hi, by have := List.mem_of_mem_take q; simpa [List.getD, hi] using this⟩
theorem seen_not {ll : List (List Int)} (hn : ll.flatten.Nodup) {i j : Nat} (hj : j < (ll.getD i []).length) : (ll.getD i []).getD j 0 ∉ seen ll i j := by
  obtain ⟨r, hr⟩ := seen_sub ll i (j + 1)
  rw [hr, seen_next hj] at hn
  have := (List.nodup_append.1 hn).1
  have := (List.nodup_append.1 this).2.2
  exact fun h => this _ h _ (by simp) rfl
theorem seen_le {ll : List (List Int)} (i j : Nat) : (seen ll i j).length ≤ ll.flatten.length := by
  obtain ⟨r, hr⟩ := seen_sub ll i j
  rw [hr, List.length_append]
  omega
end Plain

set_option maxRecDepth 100000 in
set_option maxHeartbeats 8000000 in
theorem planParts_any (vg vp vx : Value) (g : Plain.Gr) (p : Plain.Pt) (turn same : List (List Int)) (w : World) (hg : GrAt w vg g) (hp : PtAt w vp p) (hx : PlAt w vx turn same) :
    Calls Try.prog 5 #[vg, vp, vx] w fun e w' => e = .returned (.bool true) ∧ Chg [] w w' := by
  have HG := Lib.hid hg
  have HP := Lib.hid hp
  have HX := Lib.hid hx
  obtain ⟨eo, cap, rfl, hn, hm, hsm, hcell⟩ := hg
  obtain ⟨v1, v2, rfl, hv, he⟩ := hp
  obtain ⟨ao, ac, rfl, has, ham, hacell⟩ := hv
  obtain ⟨bo, bc, rfl, hbs, hbm, hbcell⟩ := he
  have HAC := Lib.hid hacell
  have HBC := Lib.hid hbcell
  obtain ⟨t1, t2, rfl, ht, hs⟩ := hx
  have HT := Lib.hid ht
  have HS := Lib.hid hs
  obtain ⟨tno, tc, rfl, htm, -⟩ := ht
  obtain ⟨so, sc, rfl, hsm2, hsc⟩ := hs
  obtain ⟨-, -, hc1⟩ := box_two w #[.int .i64 g.n, .slice eo g.e.length cap] #[.slice ao p.v.length ac, .slice bo p.e.length bc] 24 27
  obtain ⟨-, hc3⟩ := box_three w #[.int .i64 g.n, .slice eo g.e.length cap] #[.slice ao p.v.length ac, .slice bo p.e.length bc] #[.slice tno turn.length tc, .slice so same.length sc] 24 27 32
  have HC1 := Lib.hid (hc1.trans hc3 (by simp))
  have HBXS := Lib.hid (fun w2 h => three_boxes w (g := g) (p := p) (turn := turn) (same := same) (eo := eo) (ao := ao) (bo := bo) (tno := tno) (so := so) (cap := cap) (ac := ac) (bc := bc) (tc := tc) (sc := sc) (w2 := w2) h)
  clear hcell hacell hbcell hsm hbs has hn hc1 hc3 hsc
  go_enter Try.func5, Try.ntmps5
  go_wp2_with fail
  refine (awake8_any _).mono ?_
  rintro e w2 ⟨rfl, hc2⟩
  obtain ⟨x0, x1, y0, y1, z0, z1, hsz⟩ := HBXS.out w2 hc2
  have HC2 := Lib.hid (HC1.out.trans hc2 (by simp))
  have HC2B := Lib.hid hc2
  clear hc2
  go_wp2_with fail
  refine (small8_any _ _ _ g p turn same _ (HG.out.fresh HC2.out) (HP.out.fresh HC2.out) (HX.out.fresh HC2.out)).mono ?_
  rintro e w3 ⟨rfl, hc3⟩
  have HC3 := Lib.hid (HC2.out.trans hc3 (by simp))
  have HC3B := Lib.hid (HC2B.out.trans hc3 (by simp))
  clear x0 x1 y0 y1 z0 z1 hsz hc3
  cases hb : Plain.small8 g p turn same with
  | false =>
    rw [show bit false = 0 from rfl]
    clear hb
    go_wp2_with fail
    refine (awake8_any _).mono ?_
    rintro e w4 ⟨rfl, hc4⟩
    have HC4 := Lib.hid (HC3.out.trans hc4 (by simp))
    clear hc4
    go_wp2
    go_ret
    exact ⟨rfl, HC4.out⟩
  | true =>
    obtain ⟨b1, b2, b3, b4, b5, b6⟩ := Plain.small8_is hb
    have HRL := Lib.hid (fun v => Nat.lt_of_le_of_lt (Plain.small8_rows hb v) (by decide : 200 < 4294967296))
    have HB4 := Lib.hid b4
    have HB6 := Lib.hid (fun i => Nat.le_trans (b6 i) (by omega : 60 ≤ 10000))
    rw [show bit true = 1 from rfl]
    obtain ⟨x0, x1, y0, y1, z0, z1, hsz⟩ := HBXS.out w3 HC3B.out
    clear hb b4 b6
    go_wp2_with fail
    refine (regions_any _ _ _ g p turn same _ (by omega) (by omega) (by omega) (by have := HB4.out; omega) (by omega) HB6.out (HG.out.fresh HC3.out) (HP.out.fresh HC3.out) (HX.out.fresh HC3.out)).mono ?_
    rintro e w4 ⟨ov, rfl, herr, hres, hc4⟩
    have HC4 := Lib.hid (HC3.out.trans hc4 (by simp))
    have HC4B := Lib.hid (HC3B.out.trans hc4 (by simp))
    clear x0 x1 y0 y1 z0 z1 hsz hc4
    by_cases hz : Plain.planErr g p turn same = 0
    · obtain ⟨vs, ll, h1, h2, h3, h4⟩ := hres hz
      have hpt := Plain.parted hz h4
      have hreg : Plain.IsRegs g p turn same ll := ⟨h2, h3⟩
      have hsm := Plain.regs_small hpt hreg
      have hwl := h4.len
      have hflat := (h2.flatten).trans hpt.all
      have hnd : ll.flatten.Nodup := hflat.nodup_iff.2 hpt.keysNodup
      have hfl : ll.flatten.length = (Plain.walksOf g p turn).length := by rw [hflat.length_eq, List.length_map]
      have HRD := Lib.hid (h1.read fun l hl => ⟨fun x hx => ((hsm l hl).1 x hx).1, by have := (hsm l hl).2; omega⟩)
      have HRS := Lib.hid (fun i (hi : i < ll.length) j (hj : j < (ll.getD i []).length) => (show Plain.regionRes g p turn same ((ll.getD i []).getD j 0) = ((i : Int), true) by
        unfold Plain.regionRes
        rw [if_neg (by simp [hz]), ← hreg.eq hpt, Plain.regionAt_hit hnd hi (Plain.getD_mem hj)]))
      have HND := Lib.hid hnd
      have HFL := Lib.hid hfl
      have hfl3 : ll.flatten.length ≤ 180 := by omega
      have HSH := Lib.hid (fun h l (hl : l ∈ ll) => hpt.short h l (h2.mem_iff.1 hl))
      have hvl : vs.length = ll.length := h1.len
      have HPE := Lib.hid hpt.part
      have HTO := Lib.hid hpt.turns
      have hlln : ll.length ≤ 180 := by
        have h5 : ∀ {s : List (List Int)}, (∀ l ∈ s, l ≠ []) → s.length ≤ s.flatten.length := by
          intro s
          induction s with
          | nil => simp
          | cons a s ih =>
            intro hs
            have := ih fun l hl => hs l (by simp [hl])
            have := List.length_pos_iff.2 (hs a (by simp))
            rw [List.flatten_cons, List.length_append, List.length_cons]
            omega
        have := h5 fun l hl => hpt.ne l (h2.mem_iff.1 hl)
        omega
      have HI := Lib.hid (fun l (hl : l ∈ ll) x (hx : x ∈ l) => ((hsm l hl).1 x hx).1)
      rw [hz]
      obtain ⟨oo, oc, rfl⟩ := owns_shape h1.out
      rw [hvl] at HRD ⊢
      clear hres herr h1 h2 h3 h4 hz hpt hreg hsm hwl hflat hnd hfl hvl
      go_wp2
      go_loopw [9, 10] (fun mv c wr => ∃ i : Nat, i ≤ ll.length ∧ c = .int .i64 i ∧ RowAt wr w4.heap.size mv (Plain.seen ll i 0) ∧ Chg [] w4 wr) (fun _ c _ => ll.length - (intOf c).toNat)
      case atStart => exact ⟨0, Nat.zero_le _, rfl, by rw [Plain.seen_zero]; exact rowNil' _ _, Chg.refl _ _⟩
      case round =>
        obtain ⟨i, hi, rfl, hrow, hc⟩ := hrel
        have HROW := Lib.hid hrow
        obtain ⟨mo, mc, rfl⟩ := hrow.shape
        have HC := Lib.hid hc
        clear hrow hc
        by_cases hil : i < ll.length
        · obtain ⟨tb, toff, uo, uc, rfl, tcell, hrow⟩ := HRD.out.row hil
          have HTC := Lib.hid tcell
          have HR := Lib.hid hrow
          have HRS2 := Lib.hid (HRS.out i hil)
          have HSN := Lib.hid (fun j (hj : j < (ll.getD i []).length) => Plain.seen_not HND.out hj)
          have HSX := Lib.hid (fun j (hj : j < (ll.getD i []).length) => Plain.seen_next (turn := ll) (k := i) hj)
          have HSR := Lib.hid (Plain.seen_row (turn := ll) hil)
          have hmm : ll.getD i [] ∈ ll := by simp [List.getD, hil]
          have HI2 := Lib.hid (HI.out _ hmm)
          have HSH2 := Lib.hid (fun h => HSH.out h _ hmm)
          have HSL := Lib.hid (fun j => Plain.seen_le (ll := ll) i j)
          have HTL := Lib.hid (show (ll.getD i []).length ≤ 180 from by
            have := (Plain.nodup_flat.1 HND.out).1 _ hmm
            have := Plain.len_le_of_sub this (m := ll.flatten) fun x hx => List.mem_flatten.2 ⟨_, hmm, hx⟩
            omega)
          obtain ⟨T, hT⟩ : ∃ T, ll.getD i [] = T := ⟨_, rfl⟩
          rw [hT] at HTC HR HRS2 HSN HSX HSR HI2 HSH2 HTL
          have hTl := HTL.out
          clear tcell hrow hmm hT
          go_wp2
          go_loopw [9, 11] (fun mv c wr => ∃ j : Nat, j ≤ T.length ∧ c = .int .i64 j ∧ RowAt wr w4.heap.size mv (Plain.seen ll i j) ∧ Chg [] w4 wr) (fun _ c _ => T.length - (intOf c).toNat)
          case atStart => exact ⟨0, Nat.zero_le _, rfl, HROW.out, HC.out⟩
          case round =>
            clear HROW HC
            rename World => wi
            obtain ⟨j, hj, rfl, hrow, hc⟩ := hrel
            have HROW := Lib.hid hrow
            obtain ⟨mo, mc, rfl⟩ := hrow.shape
            have HC := Lib.hid hc
            have tcell := hc.cell HTC.out (by simp)
            clear hrow hc
            by_cases hjl : j < T.length
            · obtain ⟨rb, roff, rfl, rcell⟩ := IntsAt.cellAt (HR.out.fresh HC.out) hjl
              obtain ⟨x0, x1, y0, y1, z0, z1, hsz⟩ := HBXS.out wi (HC4B.out.trans HC.out (by simp))
              have HRJ := Lib.hid (HRS2.out j hjl)
              have HNO := Lib.hid (HSN.out j hjl)
              have HNX := Lib.hid (HSX.out j hjl)
              have HIK := Lib.hid (HI2.out _ (Plain.getD_mem hjl))
              have hslen := HSL.out j
              obtain ⟨key, hkey⟩ : ∃ key, T.getD j 0 = key := ⟨_, rfl⟩
              rw [hkey] at rcell HRJ HNO HNX HIK
              have HKE := Lib.hid hkey
              have HW4 := Lib.hid (HC4.out.trans HC.out (by simp))
              clear hkey
              go_wp2
              have hS0 : Chg [] wi wi.drew := (Chg.refl [] wi).drew
              refine wp_region_way (Chg [] wi) [0, 1, 2, 3, 4, 5, 6, 7, 8, 9, 11, 12, 13, 14, 15] (Way.line [0, 1, 2, 3, 4, 5, 6, 7, 8, 9, 10, 11, 12, 13, 14, 15] .done) (by kernel_rfl) (by kernel_rfl) ?_
              simp only [Way.line]
              repeat
                first
                  | (refine along_off rfl (by rfl) (by rfl) (fun _ _ _ h => h) hS0 ?_; simp only [Act.put, List.getElem_toArray, List.getElem_cons_zero, List.getElem_cons_succ, List.setIfInBounds_toArray, List.set_cons_zero, List.set_cons_succ])
                  | (refine along_read (v := ?_) rfl (by rfl) (by rfl) (fun _ _ _ h => h) hS0 (fun w' hS' => ?_) ?_; rotate_left; (focus (have rd0 := hS'.cell x0 (by simp); have rd1 := hS'.cell x1 (by simp); have rd2 := hS'.cell y0 (by simp); have rd3 := hS'.cell y1 (by simp); have rd4 := hS'.cell z0 (by simp); have rd5 := hS'.cell z1 (by simp); have rd6 := hS'.cell tcell (by simp); have rd7 := hS'.cell rcell (by simp); clear hS'; go_simp; try with_reducible rfl)); simp only [Act.put, List.getElem_toArray, List.getElem_cons_zero, List.getElem_cons_succ, List.setIfInBounds_toArray, List.set_cons_zero, List.set_cons_succ])
                  | (refine along_skip rfl (by rfl) (by rfl) hS0 ?_; simp only [Act.put, List.getElem_toArray, List.getElem_cons_zero, List.getElem_cons_succ, List.setIfInBounds_toArray, List.set_cons_zero, List.set_cons_succ])
              refine along_op rfl (by rfl) (by rfl) (fun K hK => ?_)
              go_simp
              refine (region_any _ _ _ g p turn same key _ (by omega) (by omega) (by omega) (by have := HB4.out; omega) (by omega) HB6.out (HG.out.fresh (HW4.out.trans hS0 (by simp))) (HP.out.fresh (HW4.out.trans hS0 (by simp))) (HX.out.fresh (HW4.out.trans hS0 (by simp)))).mono ?_
              rintro e w6 ⟨rfl, hcx⟩
              have hS1 := hS0.trans hcx (by simp)
              clear hS0 hcx
              have hS0 := hS1
              clear hS1
              refine hK.out _ _ (fun _ => hS0) ?_
              clear hK K
              try simp only [Act.put, List.getElem_toArray, List.getElem_cons_zero, List.getElem_cons_succ, List.setIfInBounds_toArray, List.set_cons_zero, List.set_cons_succ]
              rw [HRJ.out]
              repeat
                first
                  | (refine along_off rfl (by rfl) (by rfl) (fun _ _ _ h => h) hS0 ?_; simp only [Act.put, List.getElem_toArray, List.getElem_cons_zero, List.getElem_cons_succ, List.setIfInBounds_toArray, List.set_cons_zero, List.set_cons_succ])
                  | (refine along_read (v := ?_) rfl (by rfl) (by rfl) (fun _ _ _ h => h) hS0 (fun w' hS' => ?_) ?_; rotate_left; (focus (have rd0 := hS'.cell x0 (by simp); clear hS'; go_simp; try with_reducible rfl)); simp only [Act.put, List.getElem_toArray, List.getElem_cons_zero, List.getElem_cons_succ, List.setIfInBounds_toArray, List.set_cons_zero, List.set_cons_succ])
                  | (refine along_skip rfl (by rfl) (by rfl) hS0 ?_; simp only [Act.put, List.getElem_toArray, List.getElem_cons_zero, List.getElem_cons_succ, List.setIfInBounds_toArray, List.set_cons_zero, List.set_cons_succ])
              refine along_done ?_
              have HC6 := Lib.hid (HC.out.trans hS0 (by simp))
              have HW6 := Lib.hid (HC4.out.trans HC6.out (by simp))
              have HROW6 := Lib.hid (HROW.out.chg hS0 (by simp))
              clear x0 x1 y0 y1 z0 z1 hsz tcell rcell hS0
              have tcell := HC6.out.cell HTC.out (by simp)
              obtain ⟨rb', roff', e', rcell⟩ := IntsAt.cellAt (HR.out.fresh HC6.out) hjl
              rw [HKE.out] at rcell
              obtain ⟨rfl, rfl⟩ : rb = rb' ∧ roff = roff' := by simpa using e'
              clear e'
              obtain ⟨x0, x1, y0, y1, z0, z1, hsz⟩ := HBXS.out w6 (HC4B.out.trans HC6.out (by simp))
              have bi : ((i : Int) != (i : Int)) = false := by simp
              go_wp2_with fail
              refine (in_any _ _ key _ HROW6.out.ints).mono ?_
              rintro e w7 ⟨rfl, hc7⟩
              rw [decide_eq_false HNO.out]
              have HC7 := Lib.hid (HC6.out.trans hc7 (by simp))
              have HW7 := Lib.hid (HC4.out.trans HC7.out (by simp))
              have HROW7 := Lib.hid (HROW6.out.chg hc7 (by simp))
              clear x0 x1 y0 y1 z0 z1 hsz tcell rcell hc7
              obtain ⟨x0, x1, y0, y1, z0, z1, hsz⟩ := HBXS.out w7 (HC4B.out.trans HC7.out (by simp))
              go_wp2_with fail
              refine (refPieces_any _ _ g p _ (by omega) (by omega) HPE.out (HG.out.fresh HW7.out) (HP.out.fresh HW7.out)).mono ?_
              rintro e w8 ⟨po, pc, rfl, hc8⟩
              have HC8 := Lib.hid (HC7.out.trans hc8 (by simp))
              have HROW8 := Lib.hid (HROW7.out.chg hc8 (by simp))
              clear x0 x1 y0 y1 z0 z1 hsz hc8
              have tcell := HC8.out.cell HTC.out (by simp)
              obtain ⟨rb', roff', e', rcell⟩ := IntsAt.cellAt (HR.out.fresh HC8.out) hjl
              rw [HKE.out] at rcell
              obtain ⟨rfl, rfl⟩ : rb = rb' ∧ roff = roff' := by simpa using e'
              clear e'
              have HB8 := Lib.hid (show w4.heap.size ≤ w8.heap.size from HC8.out.size)
              have hsl : (Plain.seen ll i j).length < 4294967290 := by omega
              obtain ⟨rn, hrn⟩ : ∃ rn, (Plain.roots g p).length = rn := ⟨_, rfl⟩
              rw [hrn] at HSH2 ⊢
              clear hrn
              by_cases h1 : rn = 1
              · have hT1 := HSH2.out h1
                have bl : decide ((T.length : Int) > 1) = false := decide_eq_false (by omega)
                subst h1
                clear hT1
                go_wp2_with (at_builtin; refine wl_push rfl _ _ rfl (B := w4.heap.size) (v := .slice mo _ mc) rfl rfl HROW8.out HIK.out HB8.out hsl rfl ?_; intro v9 w9 r9 c9 f9; have R9 := Lib.hid r9; have C9 := Lib.hid c9; clear r9 c9 f9)
                go_roundw
                case rel => exact ⟨j + 1, by omega, by go_num, by rw [HNX.out]; exact R9.out, HC8.out.trans C9.out (fun j hj => Or.inr (by rw [HROW8.out.foot] at hj; exact (HROW8.out.low j hj).1))⟩
                case measure => simp [intOf]; omega
              · have bn : ((rn : Int) == 1) = false := by rw [beq_eq_false_iff_ne]; omega
                clear h1
                go_wp2_with (at_builtin; refine wl_push rfl _ _ rfl (B := w4.heap.size) (v := .slice mo _ mc) rfl rfl HROW8.out HIK.out HB8.out hsl rfl ?_; intro v9 w9 r9 c9 f9; have R9 := Lib.hid r9; have C9 := Lib.hid c9; clear r9 c9 f9)
                go_roundw
                case rel => exact ⟨j + 1, by omega, by go_num, by rw [HNX.out]; exact R9.out, HC8.out.trans C9.out (fun j hj => Or.inr (by rw [HROW8.out.foot] at hj; exact (HROW8.out.low j hj).1))⟩
                case measure => simp [intOf]; omega
            · have e : j = T.length := by omega
              subst e
              go_wp2
              go_roundw
              case rel => exact ⟨i + 1, by omega, by go_num, by rw [HSR.out]; exact HROW.out, HC.out⟩
              case measure => simp [intOf]; omega
        · have e : i = ll.length := by omega
          subst e
          have hsa := Plain.seen_all ll
          have HFL2 := Lib.hid (show (Plain.seen ll ll.length 0).length = (Plain.walksOf g p turn).length by rw [hsa]; exact HFL.out)
          obtain ⟨sl, hsl⟩ : ∃ sl, Plain.seen ll ll.length 0 = sl := ⟨_, rfl⟩
          rw [hsl] at HFL2 ⊢
          obtain ⟨x0, x1, y0, y1, z0, z1, hsz⟩ := HBXS.out wr (HC4B.out.trans HC.out (by simp))
          have HW4 := Lib.hid (HC4.out.trans HC.out (by simp))
          clear hsa hsl
          go_wp2_with fail
          refine (refWalks_any _ _ _ g p turn _ (by omega) (by omega) HPE.out HTO.out HRL.out (HG.out.fresh HW4.out) (HP.out.fresh HW4.out) (HT.out.fresh HW4.out)).mono ?_
          rintro e w6 ⟨wv, ws, rfl, hn, hc6⟩
          obtain ⟨wo, wc, rfl⟩ := hn.shape
          have HCF := Lib.hid (HW4.out.trans hc6 (by simp))
          have bq : ((sl.length : Int) == ((Plain.walksOf g p turn).length : Int)) = true := by rw [beq_iff_eq, HFL2.out]
          generalize (Plain.walksOf g p turn).length = wl at *
          clear hn hc6
          go_wp2
          go_ret
          exact ⟨rfl, HCF.out⟩
    · have hov := herr hz
      subst hov
      have hzb : ((Plain.planErr g p turn same) != 0) = true := by simp [hz]
      clear hres herr hz
      go_wp2
      go_ret
      exact ⟨rfl, HC4.out⟩
end Go.Proofs.Ytpbljifejopecaa
