/- side.Around: its contract. Conditions: a right graph, a walk of its darts that lie in memory and read so, of a bounded size. -/
import Derived.Test.YtfgbkpbakignhaaVArdM
import Derived.Test.YtfgbkpbakignhaaVRegions
import Derived.Test.YtfgbkpbakignhaaVNext
import Derived.Test.YtfgbkpbakignhaaVLookS
namespace Go.Proofs.Ytfgbkpbakignhaa
open Go.RowKit Go.Maps

namespace Plain
theorem arStep_none {g : Gr} {st : List (List Int) × List Int} {d : Int} (h : backAt g (st.2 ++ [d]) (g.head d) = none) : arStep g st d = (st.1, st.2 ++ [d]) := by unfold arStep; rw [h]
theorem arStep_back {g : Gr} {st : List (List Int) × List Int} {d : Int} {i : Nat} (h : backAt g (st.2 ++ [d]) (g.head d) = some i) (hb : isBack ((st.2 ++ [d]).drop i)) : arStep g st d = (st.1, (st.2 ++ [d]).take i) := by unfold arStep; rw [h]; show (ite _ _ _, _) = _; rw [if_pos hb]
theorem arStep_cut {g : Gr} {st : List (List Int) × List Int} {d : Int} {i : Nat} (h : backAt g (st.2 ++ [d]) (g.head d) = some i) (hb : ¬ isBack ((st.2 ++ [d]).drop i)) : arStep g st d = (st.1 ++ [(st.2 ++ [d]).drop i], (st.2 ++ [d]).take i) := by unfold arStep; rw [h]; show (ite _ _ _, _) = _; rw [if_neg hb]
end Plain

/-- What an out of rows and a stretch have no block in common. -/
def ApartQ (ov : Value) (vs : List Value) (gv : Value) : Prop := (∀ b, ov.ownBlock = some b → b ∉ gv.ownBlock.toList) ∧ ∀ j b, j < vs.length → (vs.getD j undef).ownBlock = some b → b ∉ gv.ownBlock.toList

set_option maxRecDepth 100000 in
set_option maxHeartbeats 8000000 in
theorem around_any (vg dv : Value) (g : Plain.Gr) (key : Int) (D : List Int) (w : World) (he : g.err = 0) (hD : ∀ d ∈ D, ∃ n : Nat, d = n ∧ n / 2 < g.e.length) (hdl : D.length ≤ 100000) (hg : GrAt w vg g) (hd : IntsAt w dv D) :
    Calls Try.prog 15 #[vg, .agg #[.int .i64 key, dv]] w fun e w' => ∃ ov vs, e = .returned ov ∧ RowsOwn w' w.heap.size ov vs (Plain.aroundOf g D) ∧ Chg [] w w' := by
  have HG := Lib.hid hg
  have HDI := Lib.hid hd
  have HD := Lib.hid hD
  have HE := Lib.hid he
  have hgl : g.e.length < 4294967296 := by have := (Plain.Gr.err_ok he).2.2.1; have := (Plain.Gr.err_ok he).1; omega
  have hgl2 : g.e.length ≤ 1024 := by have := (Plain.Gr.err_ok he).2.2.1; have := (Plain.Gr.err_ok he).1; omega
  obtain ⟨eo, cap, rfl, -, -, -, -⟩ := hg
  obtain ⟨dO, dc, rfl, -, -, -⟩ := hd
  obtain ⟨a0, s0, -⟩ := alloc_at w (.cells #[.int .i64 g.n, .slice eo g.e.length cap] 24) w.heap.size rfl
  obtain ⟨a1, s1, k1⟩ := alloc_at _ (.cells #[.int .i64 key, .slice dO D.length dc] 50) _ s0
  have HC1 := Lib.hid (((Chg.refl [] w).alloc (.cells #[.int .i64 g.n, .slice eo g.e.length cap] 24)).alloc (.cells #[.int .i64 key, .slice dO D.length dc] 50))
  have hb0 := k1 _ _ a0
  have x0 := (cell_of_row _ _ 0 _ _ _ hb0).trans (show _ = some (Value.int .i64 g.n) from rfl)
  have x1 := (cell_of_row _ _ 1 _ _ _ hb0).trans (show _ = some (Value.slice eo g.e.length cap) from rfl)
  have y1 := (cell_of_row _ _ 1 _ _ _ a1).trans (show _ = some (Value.slice dO D.length dc) from rfl)
  clear he hD a0 a1 s0 k1 hb0
  go_enter Try.func15, Try.ntmps15
  go_wp2_with fail
  obtain ⟨w1, hw1⟩ : ∃ w1, (w.alloc (.cells #[.int .i64 g.n, .slice eo g.e.length cap] 24)).alloc (.cells #[.int .i64 key, .slice dO D.length dc] 50) = w1 := ⟨_, rfl⟩
  rw [hw1] at HC1 x0 x1 y1 s1 ⊢
  have X0 := Lib.hid x0
  have X1 := Lib.hid x1
  have Y1 := Lib.hid y1
  have HS1 := Lib.hid s1
  clear hw1 x0 x1 y1 s1
  refine (graphRight_any _ g _ (HG.out.fresh HC1.out)).mono ?_
  rintro e w2 ⟨rfl, hc2⟩
  rw [HE.out]
  have HC2 := Lib.hid hc2
  have y1 := hc2.cell Y1.out (by simp)
  clear hc2
  go_wp2
  go_loopw [20] (fun c wr => ∃ k : Nat, k ≤ D.length ∧ c = .int .i64 k ∧ Chg [] w1 wr) (fun c _ => D.length - (intOf c).toNat)
  case atStart => exact ⟨0, Nat.zero_le _, rfl, HC2.out⟩
  case round =>
    obtain ⟨k, hk, rfl, hc⟩ := hrel
    have HC := Lib.hid hc
    have HCW := Lib.hid (HC1.out.trans hc (by simp))
    have x1 := hc.cell X1.out (by simp)
    clear y1
    by_cases hlt : k < D.length
    · obtain ⟨rb, roff, rfl, rc⟩ := IntsAt.cellAt HDI.out hlt
      have rcell := HCW.out.cell rc (by simp)
      obtain ⟨n, e1, e2⟩ := HD.out _ (Plain.getD_mem hlt)
      rw [e1] at rcell
      have q1 : Int.tdiv (n : Int) 2 = ((n / 2 : Nat) : Int) := by rw [Int.tdiv_eq_ediv_of_nonneg (by omega)]; rfl
      obtain ⟨ee, hee⟩ : ∃ ee, n / 2 = ee := ⟨_, rfl⟩
      rw [hee] at q1 e2
      have we : IntKind.i64.wrap (ee : Int) = ee := IntWalk.i64_in _ (by omega)
      have b1 : decide ((n : Int) < 0) = false := decide_eq_false (by omega)
      have b2 : decide ((ee : Int) ≥ (g.e.length : Int)) = false := decide_eq_false (by omega)
      clear rc hc e1 hee
      go_wp2
      go_roundw
      case rel => exact ⟨k + 1, by omega, by go_num, HC.out⟩
      case measure => simp [intOf]; omega
    · have e : k = D.length := by omega
      subst e
      have y1 := hc.cell Y1.out (by simp)
      generalize wr = w3 at *
      have HB3 := Lib.hid (show w1.heap.size ≤ w3.heap.size from hc.size)
      clear hc x1
      have hmf : ∀ (fn : Fn) (first cap : Array Value) (w : World), (Instr.makeFunc fn first cap).run Try.prog w = .ok (.func fn first cap) w := fun _ _ _ _ => rfl
      go_wp2
      clear y1
      go_loopw [7, 8, 38] (fun ov gv c wr => ∃ (k : Nat) (vs : List Value), c = .int .i64 k ∧ k ≤ D.length ∧ RowsOwn wr w1.heap.size ov vs (Plain.arTo g D k).1 ∧ QRow wr w1.heap.size gv (Plain.arTo g D k).2 ∧ Hid (ApartQ ov vs gv) ∧ Hid (∀ d ∈ (Plain.arTo g D k).2, ∃ n : Nat, d = n ∧ n / 2 < g.e.length) ∧ Chg [] w1 wr) (fun _ _ c _ => D.length - (intOf c).toNat)
      case atStart => exact ⟨0, [], rfl, Nat.zero_le _, RowsOwn.nil _ _, ⟨by simp [Plain.arTo], by simp [Plain.arTo], Or.inl ⟨rfl, rfl⟩⟩, Lib.hid ⟨by simp [Value.ownBlock], by simp⟩, Lib.hid (by simp [Plain.arTo]), HC.out⟩
      case round =>
        obtain ⟨k, vs, rfl, hk, hro, hq, HAP, HGN, hc⟩ := hrel
        have HRO := Lib.hid hro
        have HQ := Lib.hid hq
        have HC3 := Lib.hid hc
        have HCW3 := Lib.hid (HC1.out.trans hc (by simp))
        have hlen := Plain.arTo_len g D k
        have HSTEP := Lib.hid (Plain.arTo_succ g D k)
        obtain ⟨oo, oc, rfl⟩ := owns_shape hro.out
        have hvl : vs.length ≤ k := by rw [hro.len]; exact hlen.2
        obtain ⟨st, hst⟩ : ∃ st, Plain.arTo g D k = st := ⟨_, rfl⟩
        rw [hst] at HRO HQ hlen HSTEP hro hq HGN
        have HST := Lib.hid hst
        obtain ⟨out, gone⟩ := st
        obtain ⟨go, gc, rfl⟩ := hq.shape
        have hgl3 : gone.length ≤ k := hlen.1
        clear hro hq hlen hst
        by_cases hlt : k < D.length
        · obtain ⟨rb, roff, rfl, rc⟩ := IntsAt.cellAt HDI.out hlt
          have rcell := HCW3.out.cell rc (by simp)
          obtain ⟨n, e1, e2⟩ := HD.out _ (Plain.getD_mem hlt)
          rw [e1] at rcell HSTEP
          have hn2 : n < 4294967296 := by omega
          have IN : I64 (n : Int) := I64.mk (by omega) (by omega)
          obtain ⟨m, hm1, hm2⟩ : ∃ m : Nat, Plain.twin n = m ∧ m / 2 = n / 2 := by
            refine ⟨(Plain.twin n).toNat, ?_, ?_⟩ <;> (unfold Plain.twin; split <;> omega)
          have hxb := bits_twin n hn2
          rw [hm1] at hxb
          have HXB := Lib.hid hxb
          have HTM := Lib.hid (show g.tail (m : Int) = g.head (n : Int) by rw [← hm1, Plain.tail_twin])
          have hm3 : m / 2 < g.e.length := by omega
          obtain ⟨t, ht⟩ : ∃ t, g.head (n : Int) = t := ⟨_, rfl⟩
          have HT := Lib.hid ht
          have HBS := Lib.hid (show w1.heap.size ≤ wr.heap.size from hc.size)
          have HQD := Lib.hid (show ∀ d ∈ gone ++ [(n : Int)], ∃ n : Nat, d = n ∧ n / 2 < g.e.length from fun d hd => by
            rcases List.mem_append.1 hd with q | q
            · exact HGN.out d q
            · rw [List.mem_singleton.1 q]; exact ⟨n, rfl, e2⟩)
          clear rc e1 hm1 hm2 hxb ht hc
          have hgn : gone.length + 1 < 4294967296 := by omega
          have HNB := Lib.hid (fun j (hj : j ∈ (Value.slice go gone.length gc).ownBlock.toList) => (HQ.out.own j hj).1)
          have HKP := Lib.hid (fun wx (hx : Chg (Value.slice go gone.length gc).ownBlock.toList wr wx) => HC3.out.trans hx (fun j hj => Or.inr (HNB.out j hj)))
          go_wp2_with (first
            | (at_builtin; refine wl_qput2 rfl _ _ rfl rfl rfl HQ.out IN HBS.out hgn ?_; intro v6 w6 r6 c6 f6; have x0 := (HKP.out _ c6).cell X0.out (by simp); have x1 := (HKP.out _ c6).cell X1.out (by simp); have R6 := Lib.hid r6; have C6 := Lib.hid c6; have F6 := Lib.hid f6; clear r6 c6 f6)
            | fail)
          rw [HXB.out]
          have HCW6 := Lib.hid (HKP.out _ C6.out)
          refine (leavesS_any _ g m _ hm3 hgl (HG.out.fresh (HC1.out.trans HCW6.out (by simp)))).mono ?_
          rintro e w7 ⟨rfl, hc7⟩
          rw [HTM.out, HT.out]
          have HRO6 := Lib.hid (HRO.out.chg C6.out HAP.out.1 HAP.out.2)
          obtain ⟨gg, goff, gcap, e6, hgg, hgcp, hgcm, hcells⟩ := R6.out.cells (by simp)
          subst e6
          obtain ⟨Q, hQ⟩ : ∃ Q, gone ++ [(n : Int)] = Q := ⟨_, rfl⟩
          have hq3 : Q.length ≤ k + 1 := by rw [← hQ]; simp; omega
          have hq0 : 0 < Q.length := by rw [← hQ]; simp
          have HQE := Lib.hid hQ
          rw [hQ] at R6 HQD hcells hgcp ⊢
          have HCE6 := Lib.hid hcells
          have HAP6 := Lib.hid (show ∀ off n c, ApartQ (.slice oo vs.length oc) vs (.slice (some ⟨gg, off, none⟩) n c) from fun off n c => by
            have hne : ∀ b, b ∉ (Value.slice go gone.length gc).ownBlock.toList → b < wr.heap.size → b ∉ (Value.slice (some ⟨gg, off, none⟩) n c).ownBlock.toList := fun b h1 h2 h3 => by
              have e : b = gg := by simpa [Value.ownBlock] using h3
              subst e
              exact (F6.out b (by simp [Value.ownBlock])).elim h1 (fun q => by omega)
            exact ⟨fun b hb => hne b (HAP.out.1 b hb) (owns_lt HRO.out.out hb), fun j b hj hb => hne b (HAP.out.2 j b hj hb) (owns_lt (HRO.out.rows j hj) hb)⟩)
          have x0 := hc7.cell x0 (by simp)
          have x1 := hc7.cell x1 (by simp)
          have hct := (Chg.refl [] w7).alloc (.cells #[.int .i64 t] 3)
          have HCT := Lib.hid (hc7.trans hct (by simp))
          have HCW8 := Lib.hid (HCW6.out.trans HCT.out (by simp))
          have CT := Lib.hid ((cell_of_row _ _ 0 _ _ _ (heap_alloc_new w7 (.cells #[.int .i64 t] 3))).trans (show _ = some (Value.int .i64 t) from rfl))
          clear hQ hcells hc7 hct
          go_wp2_with fail
          generalize w7.alloc (.cells #[.int .i64 t] 3) = w8 at *
          generalize w7.heap.size = tb at *
          refine (index_any w.heap.size tb g eo cap _ Q t _ HQD.out (by omega) hgl (HG.out.fresh (HC1.out.trans HCW8.out (by simp))) ((R6.out.chg HCT.out (by simp)).ints) (HCW8.out.cell X0.out (by simp)) (HCW8.out.cell X1.out (by simp)) CT.out).mono ?_
          rintro e w9 ⟨rfl, hc9⟩
          have HC69 := Lib.hid (HCT.out.trans hc9 (by simp))
          have HCW9 := Lib.hid (HCW8.out.trans hc9 (by simp))
          have HB9 := Lib.hid (show w1.heap.size ≤ w9.heap.size from HCW9.out.size)
          have HRO9 := Lib.hid (HRO6.out.chg HC69.out (by simp) (by simp))
          have HR9 := Lib.hid (R6.out.chg HC69.out (by simp))
          have HCE := Lib.hid (fun j hj => HC69.out.cell (HCE6.out j hj) (by simp))
          have hvl9 : vs.length < 68719476736 := by omega
          clear hc9 x0 x1 rcell
          cases hb : Plain.backAt g Q t with
          | none =>
            have HS := Lib.hid (show Plain.arTo g D (k + 1) = (out, Q) by rw [HSTEP.out, Plain.arStep_none (by show Plain.backAt g (gone ++ [(n : Int)]) (g.head n) = none; rw [HQE.out, HT.out]; exact hb)]; exact congrArg (Prod.mk out) HQE.out)
            rw [show ixOf none = -1 from rfl]
            clear hb
            go_wp2
            go_roundw
            case rel => exact ⟨k + 1, vs, by go_num, by omega, by rw [HS.out]; exact HRO9.out, by rw [HS.out]; exact HR9.out, Lib.hid (HAP6.out _ _ _), Lib.hid (by rw [HS.out]; exact HQD.out), HCW9.out⟩
            case measure => simp [intOf]; omega
          | some i =>
            have hi := (Plain.backAt_some hb).1
            have HGT := Lib.hid (show ∀ d ∈ Q.take i, ∃ n : Nat, d = n ∧ n / 2 < g.e.length from fun d hd => HQD.out d (List.mem_of_mem_take hd))
            have HSB := Lib.hid (fun (h : Plain.isBack (Q.drop i)) => (show Plain.arTo g D (k + 1) = (out, Q.take i) by rw [HSTEP.out, Plain.arStep_back (i := i) (by show Plain.backAt g (gone ++ [(n : Int)]) (g.head n) = some i; rw [HQE.out, HT.out]; exact hb) (by show Plain.isBack ((gone ++ [(n : Int)]).drop i); rw [HQE.out]; exact h)]; exact congrArg (fun x => (out, List.take i x)) HQE.out))
            have HSC := Lib.hid (fun (h : ¬ Plain.isBack (Q.drop i)) => (show Plain.arTo g D (k + 1) = (out ++ [Q.drop i], Q.take i) by rw [HSTEP.out, Plain.arStep_cut (i := i) (by show Plain.backAt g (gone ++ [(n : Int)]) (g.head n) = some i; rw [HQE.out, HT.out]; exact hb) (by show ¬ Plain.isBack ((gone ++ [(n : Int)]).drop i); rw [HQE.out]; exact h)]; exact congrArg (fun x => (out ++ [List.drop i x], List.take i x)) HQE.out))
            rw [show ixOf (some i) = (i : Int) from rfl]
            have bi : decide ((i : Int) < 0) = false := decide_eq_false (by omega)
            clear hb
            go_wp2
            have hcut := HR9.out.cut (i := i) (by omega)
            have HC9D := Lib.hid ((Chg.refl [] w9).drew)
            obtain ⟨ln, hln⟩ : ∃ ln, Q.length - i = ln := ⟨_, rfl⟩
            rw [hln]
            have hln0 : 0 < ln := by omega
            have hlg : ln ≤ gcap - i := by omega
            clear hcut
            by_cases hl2 : ln = 2
            · have bl : ((ln : Int) != 2) = false := by simp only [bne_eq_false_iff_eq]; omega
              have hi1 : i + 1 < Q.length := by omega
              have k0 := HCE.out i hi
              have k1 := HCE.out (i + 1) hi1
              rw [← Nat.add_assoc] at k1
              obtain ⟨u1, hu1, -⟩ := HQD.out _ (Plain.getD_mem hi)
              obtain ⟨u2, hu2, hu3⟩ := HQD.out _ (Plain.getD_mem hi1)
              have HIB := Lib.hid (show Plain.isBack (Q.drop i) ↔ (u1 : Int) = Plain.twin u2 by
                unfold Plain.isBack
                rw [Plain.getD_drop, Plain.getD_drop, Nat.add_zero, hu1, hu2, List.length_drop, hln]
                exact ⟨fun h => h.2, fun h => ⟨hl2, h⟩⟩)
              rw [hu1] at k0
              rw [hu2] at k1
              have hxb := bits_twin u2 (by omega)
              obtain ⟨z, hz⟩ : ∃ z, Plain.twin (u2 : Int) = z := ⟨_, rfl⟩
              rw [hz] at hxb HIB
              have h1ln : 1 < ln := by omega
              have hln9 : (1 : Int) < (ln : Int) := by omega
              clear hu1 hu2 hu3 hz hl2
              by_cases hb : (u1 : Int) = z
              · have bz : ((u1 : Int) != z) = false := by simp only [bne_eq_false_iff_eq]; exact hb
                have HS := Lib.hid (HSB.out (HIB.out.2 hb))
                clear hb
                have hS0 : Chg [] w9 w9.drew := (Chg.refl [] w9).drew
                refine wp_region_way (Chg [] w9) [0, 1, 2, 3, 4, 5, 6, 7, 8, 9, 10, 11, 12] (Way.line [0, 1, 2, 3, 4, 5, 6, 7, 8, 9, 10, 11, 12] .done) (by kernel_rfl) (by kernel_rfl) ?_
                simp only [Way.line]
                repeat
                  first
                    | (refine along_off rfl (by rfl) (by rfl) (fun _ _ _ h => h) hS0 ?_; simp only [Act.put, List.getElem_toArray, List.getElem_cons_zero, List.getElem_cons_succ, List.setIfInBounds_toArray, List.set_cons_zero, List.set_cons_succ])
                    | (refine along_read (v := ?_) rfl (by rfl) (by rfl) (fun _ _ _ h => h) hS0 (fun w' hS' => ?_) ?_; rotate_left; (focus (have rd0 := hS'.cell k0 (by simp); have rd1 := hS'.cell k1 (by simp); clear hS'; go_simp; try with_reducible rfl)); simp only [Act.put, List.getElem_toArray, List.getElem_cons_zero, List.getElem_cons_succ, List.setIfInBounds_toArray, List.set_cons_zero, List.set_cons_succ])
                    | (refine along_skip rfl (by rfl) (by rfl) hS0 ?_; simp only [Act.put, List.getElem_toArray, List.getElem_cons_zero, List.getElem_cons_succ, List.setIfInBounds_toArray, List.set_cons_zero, List.set_cons_succ])
                refine along_done ?_
                clear hS0 k0 k1
                have HRO9 := Lib.hid (HRO9.out.chg HC9D.out (by simp) (by simp))
                have HR9 := Lib.hid (HR9.out.chg HC9D.out (by simp))
                have HCE := Lib.hid (fun j hj => HC9D.out.cell (HCE.out j hj) (by simp))
                have HCW9 := Lib.hid (HCW9.out.trans HC9D.out (by simp))
                have HB9 := Lib.hid (show w1.heap.size ≤ w9.drew.heap.size from HCW9.out.size)
                clear HC9D
                generalize w9.drew = wz at *
                have hcut := HR9.out.cut (i := i) (by omega)
                have HCUT := Lib.hid hcut
                clear hcut
                go_wp2
                go_roundw
                case rel => exact ⟨k + 1, vs, by go_num, by omega, by rw [HS.out]; exact HRO9.out, by rw [HS.out]; exact HCUT.out, Lib.hid (HAP6.out _ _ _), Lib.hid (by rw [HS.out]; exact HGT.out), HCW9.out⟩
                case measure => simp [intOf]; omega
              · have bz : ((u1 : Int) != z) = true := by simp only [bne_iff_ne]; exact hb
                have hnb : ¬ Plain.isBack (Q.drop i) := fun h => hb (HIB.out.1 h)
                clear hb
                have hS0 : Chg [] w9 w9.drew := (Chg.refl [] w9).drew
                refine wp_region_way (Chg [] w9) [0, 1, 2, 3, 4, 5, 6, 7, 8, 9, 10, 11, 12] (Way.line [0, 1, 2, 3, 4, 5, 6, 7, 8, 9, 10, 11, 12] .done) (by kernel_rfl) (by kernel_rfl) ?_
                simp only [Way.line]
                repeat
                  first
                    | (refine along_off rfl (by rfl) (by rfl) (fun _ _ _ h => h) hS0 ?_; simp only [Act.put, List.getElem_toArray, List.getElem_cons_zero, List.getElem_cons_succ, List.setIfInBounds_toArray, List.set_cons_zero, List.set_cons_succ])
                    | (refine along_read (v := ?_) rfl (by rfl) (by rfl) (fun _ _ _ h => h) hS0 (fun w' hS' => ?_) ?_; rotate_left; (focus (have rd0 := hS'.cell k0 (by simp); have rd1 := hS'.cell k1 (by simp); clear hS'; go_simp; try with_reducible rfl)); simp only [Act.put, List.getElem_toArray, List.getElem_cons_zero, List.getElem_cons_succ, List.setIfInBounds_toArray, List.set_cons_zero, List.set_cons_succ])
                    | (refine along_skip rfl (by rfl) (by rfl) hS0 ?_; simp only [Act.put, List.getElem_toArray, List.getElem_cons_zero, List.getElem_cons_succ, List.setIfInBounds_toArray, List.set_cons_zero, List.set_cons_succ])
                refine along_done ?_
                clear hS0 k0 k1
                have HRO9 := Lib.hid (HRO9.out.chg HC9D.out (by simp) (by simp))
                have HR9 := Lib.hid (HR9.out.chg HC9D.out (by simp))
                have HCE := Lib.hid (fun j hj => HC9D.out.cell (HCE.out j hj) (by simp))
                have HCW9 := Lib.hid (HCW9.out.trans HC9D.out (by simp))
                have HB9 := Lib.hid (show w1.heap.size ≤ w9.drew.heap.size from HCW9.out.size)
                clear HC9D
                generalize w9.drew = wz at *
                have HCLN := Lib.hid (Try.slices_Clone_int gg (goff + i) ln (gcap - i) (Q.drop i) wz (by rw [List.length_drop]; omega) (by omega) (fun j hj => by rw [List.length_drop] at hj; rw [Plain.getD_drop, Nat.add_assoc]; exact HCE.out (i + j) (by omega)))
                have HDL := Lib.hid (show (Q.drop i).length = ln by rw [List.length_drop]; exact hln)
                have HSTC := Lib.hid (HSC.out hnb)
                clear hnb
                go_wp2_with fail
                refine HCLN.out.mono ?_
                rintro e wa ⟨vc, rfl, hcl, -, hbl⟩
                rw [show ((Q.drop i).take ln).map (Value.int .i64) = ints (Q.drop i) by rw [List.take_of_length_le (by rw [HDL.out]; exact Nat.le_refl _)]; rfl] at hcl
                have hca := Chg.of_below hbl (Nat.le_refl _)
                obtain ⟨cb, ccap, rfl⟩ := owns_some hcl hln0
                have HCB := Lib.hid (show wz.heap.size ≤ cb from (hcl.lt cb rfl).1)
                have hra : RowAt wa wz.heap.size (.slice (some ⟨cb, 0, none⟩) ln ccap) (Q.drop i) := ⟨by rw [HDL.out]; exact hcl, fun x hx => R6.out.1 x (List.mem_of_mem_drop hx), by rw [HDL.out]; omega⟩
                have HLIT := Lib.hid (hra.base HB9.out).1
                have HROL := Lib.hid (HRO9.out.chg hca (by simp) (by simp))
                have HRL := Lib.hid (HR9.out.chg hca (by simp))
                have HCWL := Lib.hid (HCW9.out.trans hca (by simp))
                have HBL := Lib.hid (show w1.heap.size ≤ wa.heap.size from Nat.le_trans HB9.out hca.size)
                have HSZ := Lib.hid (show wz.heap.size ≤ wa.heap.size from hca.size)
                have HVA := Lib.hid (show ∀ j b, j < vs.length → (vs.getD j undef).ownBlock = some b → (Value.slice (some ⟨cb, 0, none⟩) ln ccap).ownBlock ≠ some b from fun j b hj hb e => by
                  have h1 := owns_lt (HRO9.out.rows j hj) hb
                  have h2 : cb = b := Option.some.inj e
                  have := HCB.out
                  omega)
                have HGGZ := Lib.hid (show gg < wz.heap.size from World.block_lt_of_cell? wz _ (HCE.out i hi))
                clear hcl hbl hca hra HCLN
                go_wp2_with (first
                  | (at_builtin; refine wp_app elemRow rfl _ _ rfl rfl rfl rfl HROL.out.out HBL.out rfl (oneSlice _ _ _) hvl9 ?_; intro g9 cap9 wb r9 c9 l9; have R9 := Lib.hid r9; have C9 := Lib.hid c9; have L9 := Lib.hid l9; clear r9 c9 l9)
                  | fail)
                go_roundw
                case rel =>
                  have hoo : ∀ j ∈ (Value.slice oo vs.length oc).ownBlock.toList, w1.heap.size ≤ j ∧ j ≠ gg := fun j hj => ⟨(HROL.out.out.lt j (by simpa using hj)).1, fun e => by
                    have := (HAP6.out goff Q.length gcap).1 j (by simpa using hj)
                    rw [e] at this
                    exact this (by simp [Value.ownBlock])⟩
                  refine ⟨k + 1, vs ++ [.slice (some ⟨cb, 0, none⟩) ln ccap], by go_num, by omega, ?_, ?_, ?_, Lib.hid (by rw [HSTC.out]; exact HGT.out), HCWL.out.trans C9.out (fun j hj => Or.inr (hoo j hj).1)⟩
                  · rw [HSTC.out]
                    exact HROL.out.add HLIT.out HVA.out R9.out C9.out
                  · rw [HSTC.out]
                    exact (HRL.out.cut (by omega)).chg C9.out (fun b hb e => (hoo b e).2 (by simpa [Value.ownBlock] using hb))
                  · have h1 := HGGZ.out
                    have h2 := HSZ.out
                    have h3 := HCB.out
                    refine Lib.hid ⟨fun b hb => ?_, fun j b hj hb => ?_⟩
                    · have e : g9 = b := by simpa [Value.ownBlock] using hb
                      subst e
                      intro hg
                      have hg : g9 = gg := by simpa [Value.ownBlock] using hg
                      rcases L9.out with q | q
                      · exact (HAP6.out goff Q.length gcap).1 g9 q (by rw [hg]; simp [Value.ownBlock])
                      · omega
                    · intro hg
                      have hg : b = gg := by simpa [Value.ownBlock] using hg
                      subst hg
                      by_cases e : j < vs.length
                      · rw [show (vs ++ [Value.slice (some ⟨cb, 0, none⟩) ln ccap]).getD j undef = vs.getD j undef by simp [List.getD, List.getElem?_append_left e]] at hb
                        exact (HAP6.out goff Q.length gcap).2 j b e hb (by simp [Value.ownBlock])
                      · have e2 : j = vs.length := by simp at hj; omega
                        rw [show (vs ++ [Value.slice (some ⟨cb, 0, none⟩) ln ccap]).getD j undef = Value.slice (some ⟨cb, 0, none⟩) ln ccap by simp [List.getD, e2]] at hb
                        have : cb = b := by simpa [Value.ownBlock] using hb
                        omega
                case measure => simp [intOf]; omega
            · have bl : ((ln : Int) != 2) = true := by simp only [bne_iff_ne]; omega
              have hnb : ¬ Plain.isBack (Q.drop i) := fun h => hl2 (by have := h.1; rw [List.length_drop] at this; omega)
              have hS0 : Chg [] w9 w9.drew := (Chg.refl [] w9).drew
              refine wp_region_way (Chg [] w9) [0, 1, 2, 3, 4, 5, 6, 7, 8, 9, 10, 11, 12] (Way.line [0, 1, 2, 3, 4, 5, 6, 7, 8, 9, 10, 11, 12] .done) (by kernel_rfl) (by kernel_rfl) ?_
              simp only [Way.line]
              repeat
                first
                  | (refine along_off rfl (by rfl) (by rfl) (fun _ _ _ h => h) hS0 ?_; simp only [Act.put, List.getElem_toArray, List.getElem_cons_zero, List.getElem_cons_succ, List.setIfInBounds_toArray, List.set_cons_zero, List.set_cons_succ])
                  | (refine along_read (v := ?_) rfl (by rfl) (by rfl) (fun _ _ _ h => h) hS0 (fun w' hS' => ?_) ?_; rotate_left; (focus (skip; clear hS'; go_simp; try with_reducible rfl)); simp only [Act.put, List.getElem_toArray, List.getElem_cons_zero, List.getElem_cons_succ, List.setIfInBounds_toArray, List.set_cons_zero, List.set_cons_succ])
                  | (refine along_skip rfl (by rfl) (by rfl) hS0 ?_; simp only [Act.put, List.getElem_toArray, List.getElem_cons_zero, List.getElem_cons_succ, List.setIfInBounds_toArray, List.set_cons_zero, List.set_cons_succ])
              refine along_done ?_
              clear hS0
              have HRO9 := Lib.hid (HRO9.out.chg HC9D.out (by simp) (by simp))
              have HR9 := Lib.hid (HR9.out.chg HC9D.out (by simp))
              have HCE := Lib.hid (fun j hj => HC9D.out.cell (HCE.out j hj) (by simp))
              have HCW9 := Lib.hid (HCW9.out.trans HC9D.out (by simp))
              have HB9 := Lib.hid (show w1.heap.size ≤ w9.drew.heap.size from HCW9.out.size)
              clear HC9D
              generalize w9.drew = wz at *
              have HCLN := Lib.hid (Try.slices_Clone_int gg (goff + i) ln (gcap - i) (Q.drop i) wz (by rw [List.length_drop]; omega) (by omega) (fun j hj => by rw [List.length_drop] at hj; rw [Plain.getD_drop, Nat.add_assoc]; exact HCE.out (i + j) (by omega)))
              have HDL := Lib.hid (show (Q.drop i).length = ln by rw [List.length_drop]; exact hln)
              have HSTC := Lib.hid (HSC.out hnb)
              clear hnb
              go_wp2_with fail
              refine HCLN.out.mono ?_
              rintro e wa ⟨vc, rfl, hcl, -, hbl⟩
              rw [show ((Q.drop i).take ln).map (Value.int .i64) = ints (Q.drop i) by rw [List.take_of_length_le (by rw [HDL.out]; exact Nat.le_refl _)]; rfl] at hcl
              have hca := Chg.of_below hbl (Nat.le_refl _)
              obtain ⟨cb, ccap, rfl⟩ := owns_some hcl hln0
              have HCB := Lib.hid (show wz.heap.size ≤ cb from (hcl.lt cb rfl).1)
              have hra : RowAt wa wz.heap.size (.slice (some ⟨cb, 0, none⟩) ln ccap) (Q.drop i) := ⟨by rw [HDL.out]; exact hcl, fun x hx => R6.out.1 x (List.mem_of_mem_drop hx), by rw [HDL.out]; omega⟩
              have HLIT := Lib.hid (hra.base HB9.out).1
              have HROL := Lib.hid (HRO9.out.chg hca (by simp) (by simp))
              have HRL := Lib.hid (HR9.out.chg hca (by simp))
              have HCWL := Lib.hid (HCW9.out.trans hca (by simp))
              have HBL := Lib.hid (show w1.heap.size ≤ wa.heap.size from Nat.le_trans HB9.out hca.size)
              have HSZ := Lib.hid (show wz.heap.size ≤ wa.heap.size from hca.size)
              have HVA := Lib.hid (show ∀ j b, j < vs.length → (vs.getD j undef).ownBlock = some b → (Value.slice (some ⟨cb, 0, none⟩) ln ccap).ownBlock ≠ some b from fun j b hj hb e => by
                have h1 := owns_lt (HRO9.out.rows j hj) hb
                have h2 : cb = b := Option.some.inj e
                have := HCB.out
                omega)
              have HGGZ := Lib.hid (show gg < wz.heap.size from World.block_lt_of_cell? wz _ (HCE.out i hi))
              clear hcl hbl hca hra HCLN
              go_wp2_with (first
                | (at_builtin; refine wp_app elemRow rfl _ _ rfl rfl rfl rfl HROL.out.out HBL.out rfl (oneSlice _ _ _) hvl9 ?_; intro g9 cap9 wb r9 c9 l9; have R9 := Lib.hid r9; have C9 := Lib.hid c9; have L9 := Lib.hid l9; clear r9 c9 l9)
                | fail)
              go_roundw
              case rel =>
                have hoo : ∀ j ∈ (Value.slice oo vs.length oc).ownBlock.toList, w1.heap.size ≤ j ∧ j ≠ gg := fun j hj => ⟨(HROL.out.out.lt j (by simpa using hj)).1, fun e => by
                  have := (HAP6.out goff Q.length gcap).1 j (by simpa using hj)
                  rw [e] at this
                  exact this (by simp [Value.ownBlock])⟩
                refine ⟨k + 1, vs ++ [.slice (some ⟨cb, 0, none⟩) ln ccap], by go_num, by omega, ?_, ?_, ?_, Lib.hid (by rw [HSTC.out]; exact HGT.out), HCWL.out.trans C9.out (fun j hj => Or.inr (hoo j hj).1)⟩
                · rw [HSTC.out]
                  exact HROL.out.add HLIT.out HVA.out R9.out C9.out
                · rw [HSTC.out]
                  exact (HRL.out.cut (by omega)).chg C9.out (fun b hb e => (hoo b e).2 (by simpa [Value.ownBlock] using hb))
                · have h1 := HGGZ.out
                  have h2 := HSZ.out
                  have h3 := HCB.out
                  refine Lib.hid ⟨fun b hb => ?_, fun j b hj hb => ?_⟩
                  · have e : g9 = b := by simpa [Value.ownBlock] using hb
                    subst e
                    intro hg
                    have hg : g9 = gg := by simpa [Value.ownBlock] using hg
                    rcases L9.out with q | q
                    · exact (HAP6.out goff Q.length gcap).1 g9 q (by rw [hg]; simp [Value.ownBlock])
                    · omega
                  · intro hg
                    have hg : b = gg := by simpa [Value.ownBlock] using hg
                    subst hg
                    by_cases e : j < vs.length
                    · rw [show (vs ++ [Value.slice (some ⟨cb, 0, none⟩) ln ccap]).getD j undef = vs.getD j undef by simp [List.getD, List.getElem?_append_left e]] at hb
                      exact (HAP6.out goff Q.length gcap).2 j b e hb (by simp [Value.ownBlock])
                    · have e2 : j = vs.length := by simp at hj; omega
                      rw [show (vs ++ [Value.slice (some ⟨cb, 0, none⟩) ln ccap]).getD j undef = Value.slice (some ⟨cb, 0, none⟩) ln ccap by simp [List.getD, e2]] at hb
                      have : cb = b := by simpa [Value.ownBlock] using hb
                      omega
              case measure => simp [intOf]; omega
        · have e : k = D.length := by omega
          subst e
          have HBF := Lib.hid (show w.heap.size ≤ w1.heap.size from HC1.out.size)
          go_wp2
          go_ret
          exact ⟨_, rfl, ⟨vs, by unfold Plain.aroundOf; rw [HST.out]; exact HRO.out.base HBF.out⟩, HCW3.out⟩
end Go.Proofs.Ytfgbkpbakignhaa
/- side.Cycles: its contract; an append of several rows. Conditions: a drawing that lies in memory and reads so, of a bounded size. -/
namespace Go.Proofs.Ytfgbkpbakignhaa
open Go.RowKit Go.Maps

theorem getD_app_lt {α : Type} {l m : List α} {z : α} {k : Nat} (h : k < l.length) : (l ++ m).getD k z = l.getD k z := by simp [List.getD, List.getElem?_append_left h]
theorem getD_app_ge {α : Type} {l m : List α} {z : α} {k : Nat} (h : l.length ≤ k) : (l ++ m).getD k z = m.getD (k - l.length) z := by simp [List.getD, List.getElem?_append_right h]

/-- Rows behind rows. -/
theorem RowsOwn.cat {w w' : World} {B B2 : Nat} {ov mv ov' : Value} {vs us : List Value} {ll mm : List (List Int)} (h : RowsOwn w B ov vs ll) (k : RowsOwn w B2 mv us mm) (hlow : ∀ i b, i < vs.length → (vs.getD i undef).ownBlock = some b → b < B2) (hBB : B ≤ B2)
    (hn : w'.ownsRow B 25 1 ov' (vs.length + us.length) (vs ++ us)) (hc : Chg ov.ownBlock.toList w w') (_hob : ∀ b, ov.ownBlock = some b → b < B2) : RowsOwn w' B ov' (vs ++ us) (ll ++ mm) := by
  have hl := h.len
  have k2 := k.base hBB
  have keep : ∀ {u : Value} {m : List Int}, w.ownsRow B 3 1 u m.length (ints m) → w'.ownsRow B 3 1 u m.length (ints m) := by
    intro u m hu
    refine owns_chg hu hc (fun b hb e1 => ?_)
    rcases owns_two hu h.out (by decide) with q | q
    · rw [q] at hb; cases hb
    · exact q (by rw [hb]; simpa [eq_comm] using e1)
  refine ⟨by rw [List.length_append]; exact hn, by rw [List.length_append, List.length_append, h.len, k.len], fun j hj => ?_, fun i j hi hj hij => ?_⟩
  · rw [List.length_append] at hj
    by_cases e : j < vs.length
    · rw [getD_app_lt e, getD_app_lt (by omega)]
      exact keep (h.rows j e)
    · rw [getD_app_ge (by omega), getD_app_ge (by omega), ← hl]
      exact keep (k2.rows _ (by omega))
  · rw [List.length_append] at hi hj
    have cross : ∀ a b, a < vs.length → b < us.length → (vs.getD a undef).ownBlock = none ∨ (vs.getD a undef).ownBlock ≠ (us.getD b undef).ownBlock := fun a b ha hb => by
      cases ea : (vs.getD a undef).ownBlock with
      | none => exact Or.inl rfl
      | some x =>
        refine Or.inr fun e => ?_
        have h1 := hlow a x ha ea
        have h2 := ((k.rows b hb).lt x e.symm).1
        omega
    by_cases e : i < vs.length
    · by_cases f : j < vs.length
      · rw [getD_app_lt e, getD_app_lt f]; exact h.apart i j e f hij
      · rw [getD_app_lt e, getD_app_ge (by omega)]; exact cross i _ e (by omega)
    · by_cases f : j < vs.length
      · rw [getD_app_ge (by omega), getD_app_lt f]
        rcases cross j (i - vs.length) f (by omega) with q | q
        · cases er : (us.getD (i - vs.length) undef).ownBlock with
          | none => exact Or.inl rfl
          | some x => exact Or.inr (by rw [q]; simp)
        · exact Or.inr fun e2 => q e2.symm
      · rw [getD_app_ge (by omega), getD_app_ge (by omega)]
        exact k.apart _ _ (by omega) (by omega) (by omega)

theorem run_rows {w : World} {B B2 : Nat} {ov mv : Value} {vs us : List Value} {ll mm : List (List Int)} (h : RowsOwn w B ov vs ll) (k : RowsOwn w B2 mv us mm) (hlow : ∀ i b, i < vs.length → (vs.getD i undef).ownBlock = some b → b < B2) (hob : ∀ b, ov.ownBlock = some b → b < B2) (hBB : B ≤ B2) (hB : B ≤ w.heap.size) (hn : vs.length + us.length < 4294967296) (ty : TypeId) :
    ∃ v' w', (Builtin.append_ #[28, 28] ty #[ov, mv]).run Try.prog w = .ok v' w' ∧ RowsOwn w' B v' (vs ++ us) (ll ++ mm) ∧ Chg ov.ownBlock.toList w w' ∧ (∀ b, v'.ownBlock = some b → ov.ownBlock = some b ∨ w.heap.size ≤ b) := by
  obtain ⟨i0, hi, hz0, hz1, hz2⟩ := info_parts elemRow.hi
  rcases k.out.2 with ⟨rfl, h0⟩ | ⟨g, cap, cur, rfl, -, -, -, -, -, -⟩
  · have hu : us = [] := List.length_eq_zero_iff.1 h0
    subst hu
    have hm : mm = [] := List.length_eq_zero_iff.1 (by rw [← k.len]; rfl)
    subst hm
    refine ⟨ov, w, ?_, by simpa using h, Chg.refl _ _, fun b hb => Or.inl hb⟩
    rcases h.out.2 with ⟨rfl, _⟩ | ⟨g, cap2, cur, rfl, _, _, hnc, _⟩
    · simp [Builtin.append_, run_underlying elemRow.ht, sizeOf, typeInfo, hi, Builtin.lenOf, Builtin.firstCells]
    · simp [Builtin.append_, run_underlying elemRow.ht, sizeOf, typeInfo, hi, Builtin.lenOf, Builtin.firstCells, hnc, storeCells]
  · have hones : ∀ u ∈ us, u.oneCell' = true := fun u hu => by
      obtain ⟨j, hj, rfl⟩ := List.getElem_of_mem hu
      obtain ⟨ao, c, e⟩ := owns_shape (k.rows j hj)
      rw [show us[j] = us.getD j undef by simp [List.getD, hj], e]; rfl
    obtain ⟨v', w', hr, r2, r3, -, r5⟩ := run_append_own_at (P := Try.prog) w B 28 ty 25 i0 (.slice none 0 0) 1 24 elemRow.ht hi hz0 hz1 hz2 elemRow.hz elemRow.h0 ov vs.length vs h.out ⟨g, 0, none⟩ us.length cap us (by simp) (fun j u hj => by
      rw [Addr.add_lit, Nat.zero_add]
      have hjl : j < us.length := (List.getElem?_eq_some_iff.1 hj).1
      exact (k.out.cellAt j (by omega)).trans hj) hones (by unfold maxLen; omega) (by omega) hB
    have hcg : Chg ov.ownBlock.toList w w' := (Chg.refl _ _).grown r3 (fun j hj => Or.inl (by rw [hj]; simp))
    refine ⟨v', w', hr, h.cat k hlow hBB r2 hcg hob, hcg, fun b hb => ?_⟩
    rcases r5 with q | q
    · exact Or.inl (by rw [← q]; exact hb)
    · rw [q] at hb
      have := Option.some.inj hb
      exact Or.inr (by omega)

theorem wl_rows {ops : Array Oper} {rest : List Oper} {o : Oper} {a : Act} {Q : Exit → Act → World → Prop} {w : World} (hg : o.guard = none) (s x : Operand) (ho : o.op = .call { callee := .builtin .append, args := #[s, x], argTypes := #[28, 28] })
    {B B2 : Nat} {ov mv : Value} {vs us : List Value} {ll mm : List (List Int)} (hs : a.eval s = ov) (hx : a.eval x = mv) (h : RowsOwn w B ov vs ll) (k : RowsOwn w B2 mv us mm) (hlow : ∀ i b, i < vs.length → (vs.getD i undef).ownBlock = some b → b < B2) (hob : ∀ b, ov.ownBlock = some b → b < B2) (hBB : B ≤ B2) (hB : B ≤ w.heap.size) (hn : vs.length + us.length < 4294967296)
    (hK : ∀ v' w', RowsOwn w' B v' (vs ++ us) (ll ++ mm) → Chg ov.ownBlock.toList w w' → wpList Try.prog ops Q rest (a.put o.dst v') w') : wpList Try.prog ops Q (o :: rest) a w := by
  refine wpList_plain hg fun K hK' => ?_
  obtain ⟨v', w', hr, r1, r2, -⟩ := run_rows h k hlow hob hBB hB hn o.type
  unfold Oper.wp execOp
  simp only [ho, resolve, invoke, builtin, Sem.run_bind, Sem.run_pure, Result.andThen_ok, List.map_toArray, List.map_cons, List.map_nil, hs, hx, hr]
  exact hK' _ _ (hK v' w' r1 r2)

namespace Plain
/-- The cycles around the first i walks. -/
def cycsTo (g : Gr) (W : List Face) (i : Nat) : List (List Int) := (W.take i).flatMap fun f => aroundOf g f.2
theorem cycsTo_zero (g : Gr) (W : List Face) : cycsTo g W 0 = [] := by simp [cycsTo]
theorem cycsTo_succ {g : Gr} {W : List Face} {i : Nat} (hi : i < W.length) : cycsTo g W (i + 1) = cycsTo g W i ++ aroundOf g (W.getD i (0, [])).2 := by
  unfold cycsTo
  rw [take_face hi, List.flatMap_append]
  simp
theorem cycsTo_len {g : Gr} {W : List Face} {n : Nat} (h : ∀ f ∈ W, f.2.length ≤ n) : ∀ i, i ≤ W.length → (cycsTo g W i).length ≤ i * n
  | 0, _ => by simp [cycsTo]
  | i + 1, hi => by
    have h1 := cycsTo_len (g := g) h i (by omega)
    have h2 : (aroundOf g (W.getD i (0, [])).2).length ≤ (W.getD i (0, [])).2.length := (arTo_len g _ _).2
    have h3 := h (W.getD i (0, [])) (by simp [List.getD, show i < W.length by omega])
    rw [cycsTo_succ (by omega), List.length_append, Nat.succ_mul]
    omega
end Plain

set_option maxRecDepth 100000 in
set_option maxHeartbeats 8000000 in
theorem cycles_any (vg vp vx : Value) (g : Plain.Gr) (p : Plain.Pt) (turn same : List (List Int)) (w : World) (hpl : p.e.length ≤ 1000) (hpv : p.v.length ≤ 1000) (hTL : turn.length < 2147483648) (hS : Plain.sumLen turn turn.length < 2147483648) (hsl : same.length ≤ 10000) (hsr : ∀ i, (same.getD i []).length ≤ 10000) (hg : GrAt w vg g) (hp : PtAt w vp p) (hx : PlAt w vx turn same) :
    Calls Try.prog 13 #[vg, vp, vx] w fun e w' => ∃ ov, e = .returned (.tuple #[ov, .int .i64 (Plain.planErr g p turn same)]) ∧ (Plain.planErr g p turn same ≠ 0 → ov = .slice none 0 0) ∧
      (Plain.planErr g p turn same = 0 → ∃ vs, RowsOwn w' w.heap.size ov vs (Plain.cycsTo g (Plain.walksOf g p turn) (Plain.walksOf g p turn).length)) ∧ Chg [] w w' := by
  have HS1 := Lib.hid hS
  have HSR := Lib.hid hsr
  clear hS hsr
  have HG := Lib.hid hg
  have HP := Lib.hid hp
  have HX := Lib.hid hx
  obtain ⟨eo, cap, rfl, hn, hm, hsm, hcell⟩ := hg
  obtain ⟨v1, v2, rfl, hv, he⟩ := hp
  obtain ⟨ao, ac, rfl, has, ham, hacell⟩ := hv
  obtain ⟨bo, bc, rfl, hbs, hbm, hbcell⟩ := he
  have HAC := Lib.hid hacell
  have HBC := Lib.hid hbcell
  obtain ⟨t1, t2, rfl, ht, hs⟩ := hx
  have HT := Lib.hid ht
  have HS := Lib.hid hs
  obtain ⟨tno, tc, rfl, htm, -⟩ := ht
  obtain ⟨so, sc, rfl, hsm2, hsc⟩ := hs
  obtain ⟨-, -, hc1⟩ := box_two w #[.int .i64 g.n, .slice eo g.e.length cap] #[.slice ao p.v.length ac, .slice bo p.e.length bc] 24 27
  obtain ⟨-, hc3⟩ := box_three w #[.int .i64 g.n, .slice eo g.e.length cap] #[.slice ao p.v.length ac, .slice bo p.e.length bc] #[.slice tno turn.length tc, .slice so same.length sc] 24 27 30
  have HC1 := Lib.hid (hc1.trans hc3 (by simp))
  have HBXS := Lib.hid (fun w2 h => three_boxes w (g := g) (p := p) (turn := turn) (same := same) (eo := eo) (ao := ao) (bo := bo) (tno := tno) (so := so) (cap := cap) (ac := ac) (bc := bc) (tc := tc) (sc := sc) (w2 := w2) h)
  clear hcell hacell hbcell hsm hbs has hn hc1 hc3 hsc
  obtain ⟨x0, x1, y0, y1, z0, z1, hsz⟩ := HBXS.out _ (Chg.refl _ _)
  go_enter Try.func13, Try.ntmps13
  go_wp2_with fail
  refine (right_any _ _ _ g p turn same _ (by omega) (by omega) hTL HS1.out hsl HSR.out (HG.out.fresh HC1.out) (HP.out.fresh HC1.out) (HX.out.fresh HC1.out)).mono ?_
  rintro e w2 ⟨rfl, hc2⟩
  obtain ⟨w1, hw1⟩ : ∃ w1, (((w.alloc (.cells #[.int .i64 g.n, .slice eo g.e.length cap] 24)).alloc (.cells #[.slice ao p.v.length ac, .slice bo p.e.length bc] 27)).alloc (.cells #[.slice tno turn.length tc, .slice so same.length sc] 30)) = w1 := ⟨_, rfl⟩
  rw [hw1] at HC1 HBXS hc2
  clear hw1
  have HC2 := Lib.hid hc2
  have HW2 := Lib.hid (HC1.out.trans HC2.out (by simp))
  have HBX := Lib.hid (fun wx (hx : Chg [] w2 wx) => HBXS.out wx (HC2.out.trans hx (by simp)))
  clear x0 x1 y0 y1 z0 z1 hsz hc2
  by_cases hz : Plain.planErr g p turn same = 0
  · have HPZ := Lib.hid hz
    have hte := (Plain.flatErr_zero (Plain.planErr_zero hz).1).1
    obtain ⟨hpe, hto⟩ := Plain.turnErr_zero hte
    have HTE := Lib.hid hte
    have HPE := Lib.hid hpe
    have HTO := Lib.hid hto
    have HGE := Lib.hid (Plain.Pt.err_ok hpe).1
    obtain ⟨x0, x1, y0, y1, z0, z1, hsz⟩ := HBX.out _ (Chg.refl _ _)
    rw [hz]
    clear hz hte hpe hto
    go_wp2_with fail
    refine (walks_any _ _ _ g p turn _ (by omega) (by omega) hTL HS1.out (HG.out.fresh HW2.out) (HP.out.fresh HW2.out) (HT.out.fresh HW2.out)).mono ?_
    rintro e w3 ⟨ovw, rfl, -, hw2, hc3⟩
    obtain ⟨W0, xw, hwk, hnw⟩ := hw2 HTE.out
    have hwe := hwk.eq HPE.out
    subst hwe
    have HWK := Lib.hid hwk
    obtain ⟨wo, wcap, rfl⟩ := hnw.shape
    have HNW := Lib.hid hnw
    have HC3 := Lib.hid (HC2.out.trans hc3 (by simp))
    have HW3 := Lib.hid (HW2.out.trans hc3 (by simp))
    have HB3 := Lib.hid (show w.heap.size ≤ w3.heap.size from HW3.out.size)
    have hwl := hwk.len
    have HFL := Lib.hid (fun f hf => Plain.face_len (f := f) HPE.out hwk hf)
    have HFD := Lib.hid (fun f hf => (Plain.face_linked (f := f) HPE.out HTO.out hwk hf).1)
    rw [HTE.out]
    obtain ⟨W, hW⟩ : ∃ W, Plain.walksOf g p turn = W := ⟨_, rfl⟩
    have HWE := Lib.hid hW
    rw [hW] at hwl HNW HFL HFD ⊢
    have HCL := Lib.hid (fun i hi => Plain.cycsTo_len (g := g) (W := W) (n := 2000) (fun f hf => by have := HFL.out f hf; omega) i hi)
    have HZ0 := Lib.hid (Plain.cycsTo_zero g W)
    clear hnw hw2 hwk hc3 hW x0 x1 y0 y1 z0 z1 hsz
    go_wp2
    go_loopw [11, 34] (fun ov c wr => ∃ (i : Nat) (vs : List Value), c = .int .i64 i ∧ i ≤ W.length ∧ RowsOwn wr w3.heap.size ov vs (Plain.cycsTo g W i) ∧ Chg [] w3 wr) (fun _ c _ => W.length - (intOf c).toNat)
    case atStart => exact ⟨0, [], rfl, Nat.zero_le _, by rw [HZ0.out]; exact RowsOwn.nil _ _, Chg.refl _ _⟩
    case round =>
      obtain ⟨i, vs, rfl, hi, hro, hc⟩ := hrel
      have HRO := Lib.hid hro
      have HC := Lib.hid hc
      obtain ⟨oo, oc, rfl⟩ := owns_shape hro.out
      have hcl := HCL.out i hi
      have hvl : vs.length ≤ i * 2000 := by rw [hro.len]; exact hcl
      have HCW := Lib.hid (HW3.out.trans hc (by simp))
      obtain ⟨x0, x1, y0, y1, z0, z1, hsz⟩ := HBXS.out wr (HC3.out.trans hc (by simp))
      clear hro hcl y0 y1 z0 z1 hsz
      by_cases hil : i < W.length
      · obtain ⟨wg, wcc, fa, fc, ewo, u0, u1, ur⟩ := nest_face HNW.out rfl hil
        simp only [Value.slice.injEq] at ewo
        obtain ⟨rfl, -, rfl⟩ := ewo
        have f0 := hc.cell u0 (by simp)
        have f1 := hc.cell u1 (by simp)
        have hfm : W.getD i (0, []) ∈ W := by simp [List.getD, hil]
        have HFN := Lib.hid (Plain.cycsTo_succ (g := g) hil)
        have hfl := HFL.out _ hfm
        have HFX := Lib.hid (HFD.out _ hfm)
        have UR := Lib.hid ur.ints
        obtain ⟨f, hf⟩ : ∃ f, W.getD i (0, []) = f := ⟨_, rfl⟩
        rw [hf] at f0 f1 HFN hfl HFX UR
        have HFY := Lib.hid (show ∀ d ∈ f.2, ∃ n : Nat, d = n ∧ n / 2 < g.e.length from fun d hd => by
          obtain ⟨n, h1, h2, -⟩ := Plain.Pt.dart_nat HPE.out (HFX.out d hd)
          exact ⟨n, h1, h2⟩)
        have hbx := (Chg.refl [] wr).alloc (.cells #[.int .i64 f.1, .slice fa f.2.length fc] 50)
        have hnew := heap_alloc_new wr (.cells #[.int .i64 f.1, .slice fa f.2.length fc] 50)
        have b0 := (cell_of_row _ _ 0 _ _ _ hnew).trans (show _ = some (Value.int .i64 f.1) from rfl)
        have b1 := (cell_of_row _ _ 1 _ _ _ hnew).trans (show _ = some (Value.slice fa f.2.length fc) from rfl)
        have x0 := hbx.cell x0 (by simp)
        have x1 := hbx.cell x1 (by simp)
        have HCQ := Lib.hid (HC.out.trans hbx (by simp))
        have HBX2 := Lib.hid hbx
        have HUR := Lib.hid (UR.out.fresh HCQ.out)
        have HGQ := Lib.hid (HG.out.fresh (HW3.out.trans HCQ.out (by simp)))
        clear u0 u1 ur hfm hnew hbx hc
        go_wp2_with fail
        generalize (wr.alloc (.cells #[.int .i64 f.1, .slice fa f.2.length fc] 50)) = wq at *
        generalize wr.heap.size = wb at *
        refine (around_any _ _ g f.1 f.2 _ HGE.out HFY.out (by omega) HGQ.out HUR.out).mono ?_
        rintro e w5 ⟨mv, us, rfl, hro5, hc5⟩
        have HRO5 := Lib.hid hro5
        have hul : us.length ≤ 2000 := by
          rw [hro5.len]
          exact Nat.le_trans (Plain.arTo_len g f.2 _).2 (by omega)
        have HROQ := Lib.hid ((HRO.out.chg HBX2.out (by simp) (by simp)).chg hc5 (by simp) (by simp))
        have HLW := Lib.hid (show ∀ j b, j < vs.length → (vs.getD j undef).ownBlock = some b → b < wq.heap.size from fun j b hj hb => Nat.lt_of_lt_of_le (owns_lt (HRO.out.rows j hj) hb) HBX2.out.size)
        have HOB := Lib.hid (show ∀ b, (Value.slice oo vs.length oc).ownBlock = some b → b < wq.heap.size from fun b hb => Nat.lt_of_lt_of_le (owns_lt HRO.out.out hb) HBX2.out.size)
        have HBQ := Lib.hid (show w3.heap.size ≤ wq.heap.size from HCQ.out.size)
        have HB5 := Lib.hid (show w3.heap.size ≤ w5.heap.size from Nat.le_trans HBQ.out hc5.size)
        have HC5 := Lib.hid (HCQ.out.trans hc5 (by simp))
        have HOL := Lib.hid (show ∀ j ∈ (Value.slice oo vs.length oc).ownBlock.toList, w3.heap.size ≤ j from fun j hj => (HRO.out.out.lt j (by simpa using hj)).1)
        obtain ⟨mo, mc, rfl⟩ := owns_shape hro5.out
        have hvu : vs.length + us.length < 4294967296 := by omega
        clear hro5 hc5 x0 x1 b0 b1 f0 f1
        go_wp2_with (at_builtin; refine wl_rows rfl _ _ rfl rfl rfl HROQ.out HRO5.out HLW.out HOB.out HBQ.out HB5.out hvu ?_; intro v6 w6 r6 c6; have R6 := Lib.hid r6; have C6 := Lib.hid c6; clear r6 c6)
        go_roundw
        case rel => exact ⟨i + 1, vs ++ us, by go_num, by omega, by rw [HFN.out]; exact R6.out, HC5.out.trans C6.out (fun j hj => Or.inr (HOL.out j hj))⟩
        case measure => simp [intOf]; omega
      · have e : i = W.length := by omega
        subst e
        clear x0 x1 hc
        go_wp2
        exact bodyPost_ret (v := .tuple #[.slice oo vs.length oc, .int .i64 0]) (by simp [results, Try.results13, go_sem]) rfl ⟨_, by rw [HPZ.out], fun h => absurd HPZ.out h, fun _ => ⟨vs, by rw [HWE.out]; exact HRO.out.base HB3.out⟩, HCW.out⟩
  · have hzb : (Plain.planErr g p turn same != 0) = true := by simp only [bne_iff_ne]; exact hz
    obtain ⟨er, her⟩ : ∃ er, Plain.planErr g p turn same = er := ⟨_, rfl⟩
    have HER := Lib.hid her
    rw [her] at hzb hz ⊢
    have HNZ := Lib.hid hz
    clear hz her
    go_wp2
    exact bodyPost_ret (v := .tuple #[.slice none 0 0, .int .i64 er]) (by simp [results, Try.results13, go_sem]) rfl ⟨_, by rw [HER.out], fun _ => rfl, fun h => absurd (HER.out.symm.trans h) HNZ.out, HW2.out⟩
end Go.Proofs.Ytfgbkpbakignhaa
