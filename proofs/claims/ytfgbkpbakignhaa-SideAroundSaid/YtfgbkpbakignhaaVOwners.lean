/- package plan: the contract of owners: which piece has which walk. Conditions: turns that are turns; lists that lie in memory and read so, of a bounded size. -/
import Derived.Test.YtfgbkpbakignhaaVWalkU
namespace Go.Proofs.Ytfgbkpbakignhaa
open Go.RowKit Go.Maps

namespace Plain
/-- The number of a vertex's piece. -/
noncomputable def pieceIx (g : Gr) (p : Pt) (v : Int) : Nat := (roots g p).findIdx fun r => decide (v ∈ comp g p r)
theorem pieceIx_eq {g : Gr} {p : Pt} (hp : PartOk g p) {v : Int} {n : Nat} (hn : n < (roots g p).length) (hv : v ∈ comp g p ((roots g p).getD n 0)) : pieceIx g p v = n := by
  unfold pieceIx
  have h1 : (roots g p).findIdx (fun r => decide (v ∈ comp g p r)) < (roots g p).length := List.findIdx_lt_length_of_exists ⟨_, getD_mem hn, decide_eq_true hv⟩
  have h2 := List.findIdx_getElem (w := h1)
  have h3 : v ∈ comp g p ((roots g p).getD ((roots g p).findIdx fun r => decide (v ∈ comp g p r)) 0) := by
    have := of_decide_eq_true h2
    simpa [List.getD, h1] using this
  exact comp_one hp (fun r hr => hr) (roots_nodup hp) hn h1 (mem_comp.1 hv).2 h3
/-- The piece of a walk, by its key. -/
noncomputable def ownerOf (g : Gr) (p : Pt) (W : List Face) (k : Int) : Option Int := (W.find? fun f => decide (f.1 = k)).map fun f => (pieceIx g p (f.corner g) : Int)
theorem ownerOf_step {g : Gr} {p : Pt} {W : List Face} (hk : (W.map (·.1)).Pairwise (· < ·)) {k : Nat} (hlt : k < W.length) :
    (fun y => if y = (W.getD k (0, [])).1 then some (pieceIx g p ((W.getD k (0, [])).corner g) : Int) else ownerOf g p (W.take k) y) = ownerOf g p (W.take (k + 1)) := by
  funext y
  unfold ownerOf
  rw [take_face hlt, List.find?_append]
  have hg : W.getD k (0, []) = W[k] := by simp [List.getD, hlt]
  by_cases e : y = (W.getD k (0, [])).1
  · rw [if_pos e]
    have hno : (W.take k).find? (fun f => decide (f.1 = y)) = none := by
      rw [List.find?_eq_none]
      intro f hf q
      have q := of_decide_eq_true q
      obtain ⟨i, hi, e2⟩ := List.getElem_of_mem hf
      rw [List.length_take] at hi
      rw [List.getElem_take] at e2
      have := List.pairwise_iff_getElem.1 hk i k (by simp; omega) (by simpa using hlt) (by omega)
      simp only [List.getElem_map] at this
      rw [e2, q, e, hg] at this
      omega
    rw [hno]
    simp [e]
  · rw [if_neg e]
    have : List.find? (fun f : Face => decide (f.1 = y)) [W.getD k (0, [])] = none := by
      rw [List.find?_eq_none]
      intro f hf q
      rw [List.mem_singleton.1 hf] at q
      exact e (of_decide_eq_true q).symm
    rw [this]
    simp
end Plain

theorem IMap.look_run {w : World} {b n : Nat} {f : Int → Option Int} (h : IMap w b n f) {k : Int} (hk : I64 k) : (Instr.lookup 33 (.map (some b)) (.int .i64 k) false).run Try.prog w = .ok (.int .i64 ((f k).getD 0)) w := by
  obtain ⟨D, hown, hD⟩ := h
  obtain ⟨c, hrun, hat, -⟩ := hown.lookup_int keyedInt Try.underlying33 Try.underlying3 (zeroInt _) (keyOf_int_mk Try.underlying3 hk)
  rw [(hD k hk).2] at hat
  cases hat
  exact hrun

theorem wpo_look {o : Oper} {a : Act} {K : Act → World → Prop} {Q : Exit → Act → World → Prop} {w : World} (m x : Operand) (hop : o.op = Op.lookup 33 m x false) {b n : Nat} {f : Int → Option Int} (h : IMap w b n f) (hm : a.eval m = .map (some b)) {k v : Int} (hk : I64 k) (hx : a.eval x = .int .i64 k) (hf : Hid ((f k).getD 0 = v)) (hK : K (a.put o.dst (.int .i64 v)) w) : o.wp Try.prog a w K Q := by
  have hrun := h.look_run hk
  rw [hf.out] at hrun
  unfold Oper.wp
  simp [execOp, hop, hm, hx, hrun, Result.andThen]
  exact hK

theorem wpo_store {o : Oper} {a : Act} {K : Act → World → Prop} {Q : Exit → Act → World → Prop} {w : World} (m x u : Operand) (hop : o.op = Op.mapUpdate 33 m x u) {b n : Nat} {f : Int → Option Int} (h : IMap w b n f) (hn : n < maxLen) (hm : a.eval m = .map (some b)) {k v : Int} (hk : I64 k) (hv : I64 v) (hx : a.eval x = .int .i64 k) (hu : a.eval u = .int .i64 v)
    (hK : ∀ w', IMap w' b (n + 1) (fun y => if y = k then some v else f y) → w.grownBy w' (some b) → K (a.put o.dst undef) w') : o.wp Try.prog a w K Q := by
  obtain ⟨w', hrun, r1, r2⟩ := h.put_run hn hk hv
  unfold Oper.wp
  simp [execOp, hop, hm, hx, hu, hrun, Result.andThen]
  exact hK w' r1 r2

set_option maxRecDepth 100000 in
set_option maxHeartbeats 8000000 in
theorem owners_any (vg vp vt : Value) (g : Plain.Gr) (p : Plain.Pt) (turn : List (List Int)) (w : World) (hpl : p.e.length ≤ 100000) (hpv : p.v.length ≤ 100000) (hTL : turn.length < 2147483648) (hS : Plain.sumLen turn turn.length < 2147483648) (hr : Plain.turnErr g p turn = 0) (hg : GrAt w vg g) (hp : PtAt w vp p) (ht : RowsAt w vt turn) :
    Calls Try.prog 25 #[vg, vp, vt] w fun e w' => ∃ b m, e = .returned (.tuple #[.map (some b), .int .i64 (Plain.roots g p).length]) ∧ IMap w' b m (Plain.ownerOf g p (Plain.walksOf g p turn)) ∧ Chg [] w w' ∧ w.heap.size ≤ b ∧ Plain.WalksOk g p turn (Plain.walksOf g p turn) := by
  have HG := Lib.hid hg
  have HP := Lib.hid hp
  have HT := Lib.hid ht
  have HSL := Lib.hid hS
  have HR := Lib.hid hr
  have hpe := (Plain.turnErr_zero hr).1
  have HPE := Lib.hid hpe
  have HPO := Lib.hid (Plain.Pt.ok_of_err hpe)
  have HEL := Lib.hid (Plain.Gr.err_ok (Plain.Pt.err_ok hpe).1)
  obtain ⟨eo, cap, rfl, hn, hm, hsm, hcell⟩ := hg
  obtain ⟨v1, v2, rfl, hv, he⟩ := hp
  obtain ⟨ao, ac, rfl, has, ham, hacell⟩ := hv
  obtain ⟨bo, bc, rfl, hbs, hbm, hbcell⟩ := he
  obtain ⟨tno, tc, rfl, htl, htc⟩ := ht
  obtain ⟨-, -, hc1⟩ := box_two w #[.int .i64 g.n, .slice eo g.e.length cap] #[.slice ao p.v.length ac, .slice bo p.e.length bc] 24 27
  have HC1 := Lib.hid hc1
  have HBXS := Lib.hid (fun w2 h => two_boxes w (g := g) (p := p) (eo := eo) (ao := ao) (bo := bo) (cap := cap) (ac := ac) (bc := bc) (w2 := w2) h)
  clear hcell hacell hbcell hsm hbs has hn hc1 htc hS hr hpe
  go_enter Try.func25, Try.ntmps25
  go_wp2_with fail
  refine (pieces_any _ _ g p _ hpl hpv (HG.out.fresh HC1.out) (HP.out.fresh HC1.out)).mono ?_
  rintro e w3 ⟨ov3, rfl, -, hp2, hc3⟩
  obtain ⟨xs, hnp⟩ := hp2 HPE.out
  have HPN0 := Lib.hid hnp
  obtain ⟨uo, uc, rfl⟩ := hnp.shape
  have HC3 := Lib.hid (HC1.out.trans hc3 (by simp))
  have HC31 := Lib.hid hc3
  obtain ⟨x0, x1, y0, y1, hsz⟩ := HBXS.out w3 hc3
  have HSZ3 := Lib.hid hsz
  have hmm := @run_makeMap Try.prog
  rw [HPE.out]
  clear hp2 hc3 hnp x0 x1 y0 y1 hsz
  have hrl : (Plain.roots g p).length ≤ 100000 := by rw [← Plain.rootsTo_all]; exact Nat.le_trans (Plain.rootsTo_len g p _) hpv
  obtain ⟨R, hRD⟩ : ∃ R, Plain.roots g p = R := ⟨_, rfl⟩
  have HRD := Lib.hid hRD
  rw [hRD] at HPN0 hrl ⊢
  have HRR := Lib.hid (show ∀ r ∈ R, r ∈ Plain.roots g p from fun r hr => by rw [hRD]; exact hr)
  have HRN := Lib.hid (show R.Nodup by rw [← hRD]; exact Plain.roots_nodup HPO.out)
  clear hRD
  go_wp2
  clear hmm
  have HPN := HPN0
  have HM0 := Lib.hid (IMap.made w3)
  have HC4 := Lib.hid ((Chg.refl [] w3).alloc (.map #[] 0))
  obtain ⟨pb, hpb⟩ : ∃ pb, w3.heap.size = pb := ⟨_, rfl⟩
  rw [hpb] at HM0 ⊢
  have HPB := Lib.hid (show w3.heap.size ≤ pb by omega)
  clear hpb
  generalize w3.alloc (.map #[] 0) = w4 at *
  go_loopw [29] (fun c wr => ∃ (i : Nat) (f : Int → Option Int), i ≤ R.length ∧ c = .int .i64 i ∧ IMap wr pb (i * 1000000) f ∧ Hid (Plain.Told g p R i 0 f) ∧ Chg [] w3 wr) (fun c _ => R.length - (intOf c).toNat)
  case atStart => exact ⟨0, _, Nat.zero_le _, rfl, by rw [Nat.zero_mul]; exact HM0.out, Lib.hid (Plain.Told.start g p R _), HC4.out⟩
  case round =>
    obtain ⟨i, f, hi, rfl, hm, htold, hc⟩ := hrel
    have HM := Lib.hid hm
    have HC := Lib.hid hc
    by_cases hlt : i < R.length
    · obtain ⟨pg, pc, va, vc, ea, ec, hpe, hc1, hc2, hr1, hr2⟩ := nest_pair (HPN.out.fresh hc) rfl hlt
      simp only [Value.slice.injEq] at hpe
      obtain ⟨rfl, -, rfl⟩ := hpe
      have HTN := Lib.hid (fun j f hj h => Plain.Told.next (g := g) (p := p) (R := R) (i := i) (j := j) (f := f) HPO.out HRR.out HRN.out hlt hj h)
      have HTR := Lib.hid (fun f h => Plain.Told.row (g := g) (p := p) (R := R) (i := i) (f := f) h)
      have hcl := Nat.le_trans (Plain.comp_len g p (R.getD i 0)) hpv
      have HCM := Lib.hid (fun y (hy : y ∈ Plain.comp g p (R.getD i 0)) => HPO.out.vr y (Plain.mem_comp.1 hy).1)
      have HR1 := Lib.hid hr1.ints
      have HTD : Hid (∀ j f, Plain.Told g p R i j f → Plain.Told g p R i j f) := Lib.hid (fun _ _ h => h)
      obtain ⟨C, hC⟩ : ∃ C, Plain.comp g p (R.getD i 0) = C := ⟨_, rfl⟩
      obtain ⟨E0, hE0⟩ : ∃ E0, (p.sub g (Plain.comp g p (R.getD i 0))).e = E0 := ⟨_, rfl⟩
      have HCE := Lib.hid hC
      rw [hC] at hc1 hcl HTN HTR HCM HR1
      rw [hE0] at hc2
      have II : I64 (i : Int) := I64.mk (by omega) (by omega)
      clear hr1 hr2 hm hc hC hE0
      go_wp2
      have HBX := Lib.hid ((Chg.refl [] wr).alloc (.cells #[.slice va C.length vc, .slice ea E0.length ec] 27))
      have hbb := (cell_of_row _ _ 0 _ _ _ (heap_alloc_new wr (.cells #[.slice va C.length vc, .slice ea E0.length ec] 27))).trans (show _ = some (Value.slice va C.length vc) from rfl)
      have HM1 := Lib.hid (HM.out.chg HBX.out (by simp))
      have HC5 := Lib.hid (HC.out.trans HBX.out (by simp))
      have HR2 := Lib.hid (HR1.out.fresh HBX.out)
      clear hc1 hc2
      obtain ⟨wb, hwb⟩ : ∃ wb, wr.heap.size = wb := ⟨_, rfl⟩
      generalize (wr.alloc (.cells #[.slice va C.length vc, .slice ea E0.length ec] 27)) = wq at *
      rw [hwb] at hbb ⊢
      clear hwb
      go_loopw [37] (fun c wi => ∃ (j : Nat) (f : Int → Option Int), j ≤ C.length ∧ c = .int .i64 j ∧ IMap wi pb (i * 1000000 + j) f ∧ Hid (Plain.Told g p R i j f) ∧ Chg [pb] wq wi ∧ Chg [] w3 wi) (fun c _ => C.length - (intOf c).toNat)
      case atStart => exact ⟨0, f, Nat.zero_le _, rfl, HM1.out.mono (by omega), htold, Chg.refl _ _, HC5.out⟩
      case round =>
        obtain ⟨j, f, hj, rfl, hm, htold, hch, hc⟩ := hrel
        have HMJ := Lib.hid hm
        have HCJ := Lib.hid hch
        have HC3J := Lib.hid hc
        by_cases hltj : j < C.length
        · obtain ⟨ao', c', e, hsm', -, hcc⟩ := HR2.out
          obtain ⟨vb, voff, e2, hcell⟩ := hcc (by intro e; rw [e] at hltj; simp at hltj)
          simp only [Value.slice.injEq] at e
          obtain ⟨e3, -, -⟩ := e
          rw [e2] at e3
          subst e3
          have hne : vb ≠ pb := fun e => by have := HM1.out.cell_ne (hcell j hltj); exact this e
          have cj := hch.cell (hcell j hltj) (by simpa using hne)
          have IY := hsm' (C.getD j 0) (Plain.getD_mem hltj)
          have HTJ := Lib.hid (HTN.out j f hltj htold.out)
          obtain ⟨y, hy⟩ : ∃ y, C.getD j 0 = y := ⟨_, rfl⟩
          rw [hy] at cj IY HTJ
          have hmx : i * 1000000 + j < maxLen := by unfold maxLen; omega
          clear hcell hcc hsm' hy hm hch hc hne
          go_wp2_with (at_mapUpdate; refine wp_store _ rfl _ _ _ rfl HMJ.out hmx rfl IY II rfl rfl ?_; intro w6 m6 g6; have M6 := Lib.hid m6; have G6 := Lib.hid g6; clear m6 g6)
          go_roundw
          case rel => exact ⟨j + 1, _, by omega, by go_num, M6.out.mono (by omega), HTJ, HCJ.out.grown G6.out (fun j hj => by cases hj; exact Or.inl (by simp)), HC3J.out.grown G6.out (fun j hj => by cases hj; exact Or.inr HPB.out)⟩
          case measure => simp [intOf]; omega
        · have e : j = C.length := by omega
          subst e
          have HT2 := Lib.hid (HTR.out f htold.out)
          clear hm hch hc
          go_wp2
          go_roundw
          case rel => exact ⟨i + 1, f, by omega, by go_num, HMJ.out.mono (by omega), HT2, HC3J.out⟩
          case measure => simp [intOf]; omega
    · have e : i = R.length := by omega
      subst e
      clear hm hc
      generalize wr = wz at *
      have HTOLD : Hid (∀ v ∈ p.v, ∃ n, n < R.length ∧ f v = some (n : Int) ∧ v ∈ Plain.comp g p (R.getD n 0)) := Lib.hid (fun v hv => by
        have h := htold.out
        rw [← HRD.out] at h ⊢
        exact h.all HPO.out hv)
      have HSZZ := Lib.hid (show w3.heap.size ≤ wz.heap.size from HC.out.size)
      have hmm := @run_makeMap Try.prog
      obtain ⟨x0, x1, y0, y1, hsz⟩ := HBXS.out wz (HC31.out.trans HC.out (by simp))
      have x0n := fun o => cellNew x0 o
      have x1n := fun o => cellNew x1 o
      have y0n := fun o => cellNew y0 o
      have y1n := fun o => cellNew y1 o
      have HCM := Lib.hid ((Chg.refl [] wz).alloc (.map #[] 0))
      have HOM := Lib.hid (IMap.made wz)
      clear hlt hi hsz
      go_wp2_with fail
      refine (walks_any _ _ _ g p turn _ (by omega) (by omega) hTL HSL.out (HG.out.fresh ((HC3.out.trans HC.out (by simp)).trans HCM.out (by simp))) (HP.out.fresh ((HC3.out.trans HC.out (by simp)).trans HCM.out (by simp))) (HT.out.fresh ((HC3.out.trans HC.out (by simp)).trans HCM.out (by simp)))).mono ?_
      rintro e w5 ⟨ovw, rfl, -, hw2, hc5⟩
      obtain ⟨W, xw, hwk, hnw⟩ := hw2 HR.out
      have HWE := Lib.hid (hwk.eq HPE.out)
      have HWK := Lib.hid hwk
      have HNW := Lib.hid hnw
      have HKEYS := Lib.hid (Plain.walks_keys HPE.out hwk)
      obtain ⟨wo, wcap, rfl⟩ := hnw.shape
      have hwl := hwk.len
      have HC5 := Lib.hid (HCM.out.trans hc5 (by simp))
      have HOM5 := Lib.hid (HOM.out.chg hc5 (by simp))
      obtain ⟨qb, hqb⟩ : ∃ qb, wz.heap.size = qb := ⟨_, rfl⟩
      have HQB := Lib.hid hqb
      rw [HR.out]
      rw [hqb] at HOM5 ⊢
      clear hmm x0 x1 y0 y1 x0n x1n y0n y1n hw2 hwk hnw hc5 hqb
      go_wp2
      go_loopw [56] (fun c wr => ∃ k : Nat, k ≤ W.length ∧ c = .int .i64 k ∧ IMap wr qb k (Plain.ownerOf g p (W.take k)) ∧ Chg [] wz wr ∧ Chg [qb] w5 wr) (fun c _ => W.length - (intOf c).toNat)
      case atStart => exact ⟨0, Nat.zero_le _, rfl, by rw [List.take_zero]; exact HOM5.out, HC5.out, Chg.refl _ _⟩
      case round =>
        obtain ⟨k, hk, rfl, hom, hc, hcq⟩ := hrel
        have HCQ := Lib.hid hcq
        have HOMK := Lib.hid hom
        have HCK := Lib.hid hc
        have HC3K := Lib.hid (HC.out.trans hc (by simp))
        by_cases hlt : k < W.length
        · obtain ⟨wg, wc', da, dc, hwe, hf1, hf2, hfr⟩ := nest_face (HNW.out.other hcq (fun j hj cs t r hh => by simp at hj; subst hj; exact absurd rfl (HOM5.out.ne hh))) rfl hlt
          simp only [Value.slice.injEq] at hwe
          obtain ⟨rfl, -, rfl⟩ := hwe
          have hmem : W.getD k (0, []) ∈ W := by simp [List.getD, hlt]
          have hcor := Plain.corner_mem HPO.out HWK.out.faces _ hmem
          obtain ⟨n, hnR, hfn, hnc⟩ := HTOLD.out _ hcor
          have hix : Plain.pieceIx g p ((W.getD k (0, [])).corner g) = n := Plain.pieceIx_eq HPO.out (by rw [HRD.out]; exact hnR) (by rw [HRD.out]; exact hnc)
          have HSTEP := Lib.hid (Plain.ownerOf_step (g := g) (p := p) HKEYS.out hlt)
          have hkey := HWK.out.faces.key _ hmem
          have hall : ∀ d l, (W.getD k (0, [])).2 = d :: l → d ∈ p.darts := fun d l e => HWK.out.faces.all.mem_iff.1 (List.mem_flatten.2 ⟨(W.getD k (0, [])).2, List.mem_map.2 ⟨_, List.mem_filter.2 ⟨hmem, by rw [e]; rfl⟩, rfl⟩, by rw [e]; simp⟩)
          have IC : I64 ((W.getD k (0, [])).corner g) := by have := HPO.out.vr _ hcor; have := HEL.out; exact I64.mk (by omega) (by omega)
          have hlow : ∀ l, (W.getD k (0, [])).2 = l → l = [] → -1 - (W.getD k (0, [])).1 = (W.getD k (0, [])).corner g := fun l e e2 => by
            subst e2
            unfold Plain.Face.corner
            rw [e]
          have hhigh : ∀ d l, (W.getD k (0, [])).2 = d :: l → (W.getD k (0, [])).corner g = g.tail (W.getD k (0, [])).1 := fun d l e => by
            unfold Plain.Face.corner
            rw [e]
          rw [hix] at HSTEP
          obtain ⟨fc, hfc⟩ : ∃ fc, W.getD k (0, []) = fc := ⟨_, rfl⟩
          rw [hfc] at hf1 hf2 hfr hcor hfn hnc HSTEP hkey hall IC hlow hhigh
          obtain ⟨key, ds⟩ := fc
          dsimp only at hf1 hf2 hfr hkey hall hlow hhigh HSTEP
          obtain ⟨kv, hkv⟩ : ∃ kv, Plain.Face.corner g (key, ds) = kv := ⟨_, rfl⟩
          rw [hkv] at hcor hfn hnc IC hlow hhigh
          have hkI : -4611686018427387904 ≤ key ∧ key ≤ 4611686018427387904 := by
            cases ds with
            | nil => have := hlow _ rfl rfl; have := HPO.out.vr _ hcor; have := HEL.out; omega
            | cons d l => have h1 := hkey d l rfl; have h2 := Plain.dart_small HPE.out (hall d l rfl); omega
          have IK : I64 key := I64.mk (by omega) (by omega)
          have IN : I64 (n : Int) := I64.mk (by omega) (by omega)
          have HFN : Hid ((f kv).getD 0 = (n : Int)) := Lib.hid (by rw [hfn]; rfl)
          obtain ⟨x0, x1, y0, y1, hsz⟩ := HBXS.out wr (HC31.out.trans HC3K.out (by simp))
          obtain ⟨dn, hdn⟩ : ∃ dn, ds.length = dn := ⟨_, rfl⟩
          rw [hdn] at hf2
          have HCORN := Lib.hid (show ∀ wx : World, GrAt wx (.agg #[.int .i64 g.n, .slice eo g.e.length cap]) g → Calls Try.prog 44 #[.agg #[.int .i64 g.n, .slice eo g.e.length cap], .agg #[.int .i64 key, .slice da dn dc]] wx fun e w' => e = .returned (.int .i64 kv) ∧ Chg [] wx w' by
            intro wx hgx
            cases ds with
            | nil =>
              have hd0 : dn = 0 := by rw [← hdn]; rfl
              subst hd0
              rw [← hlow _ rfl rfl]
              exact corner_low _ g key da dc wx hkI hgx
            | cons d l =>
              have hkd := hkey d l rfl
              have hdd := hall d l rfl
              have hcg := hhigh d l rfl
              subst hkd
              have hds := Plain.dart_small HPE.out hdd
              obtain ⟨kn, hkn⟩ : ∃ kn : Nat, key = (kn : Int) := ⟨key.toNat, by omega⟩
              subst hkn
              rw [hcg]
              refine corner_high _ g kn dn da dc wx (by rw [← hdn]; simp) ?_ (by have := HEL.out; omega) hgx
              rw [Plain.mem_darts] at hdd
              obtain ⟨i', hi', e'⟩ := Plain.mem_getD hdd
              have := Plain.rises_at (Plain.Pt.err_ok HPE.out).2.2.1 hi'
              omega)
          have HLT := Lib.hid hlt
          clear hkey hall hlow hhigh hfc hmem hom hc hcq hcor hfn hnc hfr hkv hdn hsz hix
          go_wp2
          have HBX := Lib.hid ((Chg.refl [] wr).alloc (.cells #[.int .i64 key, .slice da dn dc] 50))
          have b0 := (cell_of_row _ _ 0 _ _ _ (heap_alloc_new wr (.cells #[.int .i64 key, .slice da dn dc] 50))).trans (show _ = some (Value.int .i64 key) from rfl)
          have b1 := (cell_of_row _ _ 1 _ _ _ (heap_alloc_new wr (.cells #[.int .i64 key, .slice da dn dc] 50))).trans (show _ = some (Value.slice da dn dc) from rfl)
          have x0b := HBX.out.cell x0 (by simp)
          have x1b := HBX.out.cell x1 (by simp)
          have HOMB := Lib.hid (HOMK.out.chg HBX.out (by simp))
          have HMB := Lib.hid ((HM.out.chg HCK.out (by simp)).chg HBX.out (by simp))
          have HGB := Lib.hid (HG.out.fresh ((HC3.out.trans HC3K.out (by simp)).trans HBX.out (by simp)))
          clear hf1 hf2 x0 x1 y0 y1
          obtain ⟨wb, hwb⟩ : ∃ wb, wr.heap.size = wb := ⟨_, rfl⟩
          generalize (wr.alloc (.cells #[.int .i64 key, .slice da dn dc] 50)) = wq at *
          rw [hwb] at b0 b1 ⊢
          clear hwb
          have hS0 : (fun w' : World => w'.cell? ⟨w.heap.size, 0, none⟩ = some (.int .i64 g.n) ∧ w'.cell? ⟨w.heap.size, 1, none⟩ = some (.slice eo g.e.length cap) ∧ w'.cell? ⟨wb, 0, none⟩ = some (.int .i64 key) ∧ w'.cell? ⟨wb, 1, none⟩ = some (.slice da dn dc)) wq.drew := ⟨x0b, x1b, b0, b1⟩
          refine wp_region_way (fun w' : World => w'.cell? ⟨w.heap.size, 0, none⟩ = some (.int .i64 g.n) ∧ w'.cell? ⟨w.heap.size, 1, none⟩ = some (.slice eo g.e.length cap) ∧ w'.cell? ⟨wb, 0, none⟩ = some (.int .i64 key) ∧ w'.cell? ⟨wb, 1, none⟩ = some (.slice da dn dc)) [0, 1, 2, 3, 4, 5] (Way.line [0, 1, 2, 3, 4, 5, 6, 7, 8] .done) (by kernel_rfl) (by kernel_rfl) ?_
          simp only [Way.line]
          repeat
            first
              | (refine along_off rfl (by rfl) (by rfl) (fun _ _ _ h => h) hS0 ?_; simp only [Act.put, List.getElem_toArray, List.getElem_cons_zero, List.getElem_cons_succ, List.setIfInBounds_toArray, List.set_cons_zero, List.set_cons_succ])
              | (refine along_read (v := ?_) rfl (by rfl) (by rfl) (fun _ _ _ h => h) hS0 (fun w' hS' => ?_) ?_; rotate_left; (focus ((try dsimp only at hS'); go_simp; try with_reducible rfl)); simp only [Act.put, List.getElem_toArray, List.getElem_cons_zero, List.getElem_cons_succ, List.setIfInBounds_toArray, List.set_cons_zero, List.set_cons_succ])
              | (refine along_skip rfl (by rfl) (by rfl) hS0 ?_; simp only [Act.put, List.getElem_toArray, List.getElem_cons_zero, List.getElem_cons_succ, List.setIfInBounds_toArray, List.set_cons_zero, List.set_cons_succ])
          have HGD := Lib.hid (HGB.out.fresh (Chg.refl [] wq).drew)
          refine along_op rfl (by rfl) (by rfl) (fun K hK => ?_)
          simp only [List.getElem_toArray, List.getElem_cons_zero, List.getElem_cons_succ]
          refine wp_calls rfl (enters_of Try.func44 (by kernel_rfl) rfl) (args := #[.agg #[.int .i64 g.n, .slice eo g.e.length cap], .agg #[.int .i64 key, .slice da dn dc]]) rfl ((HCORN.out _ HGD.out).mono ?_)
          rintro e w8 ⟨rfl, hc8⟩
          refine ⟨_, rfl, ?_⟩
          have HC8 := Lib.hid (((Chg.refl [] wq).drew).trans hc8 (by simp))
          have hS8 : (fun w' : World => w'.cell? ⟨w.heap.size, 0, none⟩ = some (.int .i64 g.n) ∧ w'.cell? ⟨w.heap.size, 1, none⟩ = some (.slice eo g.e.length cap) ∧ w'.cell? ⟨wb, 0, none⟩ = some (.int .i64 key) ∧ w'.cell? ⟨wb, 1, none⟩ = some (.slice da dn dc)) w8 := ⟨HC8.out.cell x0b (by simp), HC8.out.cell x1b (by simp), HC8.out.cell b0 (by simp), HC8.out.cell b1 (by simp)⟩
          refine hK.out _ _ (fun _ => hS8) ?_
          clear hK K hS0 b0 b1 x0b x1b hc8
          try simp only [Act.put, List.setIfInBounds_toArray, List.set_cons_zero, List.set_cons_succ]
          refine along_op rfl (by rfl) (by rfl) (fun K hK => ?_)
          simp only [List.getElem_toArray, List.getElem_cons_zero, List.getElem_cons_succ]
          refine wpo_look _ _ rfl (HMB.out.chg HC8.out (by simp)) rfl IC rfl HFN ?_
          refine hK.out _ _ (fun _ => hS8) ?_
          clear hK K hS8
          try simp only [Act.put, List.setIfInBounds_toArray, List.set_cons_zero, List.set_cons_succ]
          refine along_op rfl (by rfl) (by rfl) (fun K hK => ?_)
          simp only [List.getElem_toArray, List.getElem_cons_zero, List.getElem_cons_succ]
          refine wpo_store _ _ _ rfl (HOMB.out.chg HC8.out (by simp)) (by unfold maxLen; omega) rfl IK IN rfl rfl fun w9 m9 g9 => ?_
          have M9 := Lib.hid m9
          have HC9 := Lib.hid ((HBX.out.trans HC8.out (by simp)).mono (own' := [qb]) (by simp) |>.grown g9 (fun j hj => by cases hj; exact Or.inl (by simp)))
          refine hK.out _ _ (fun h => absurd h (Bool.eq_false_iff.1 (by kernel_rfl))) ?_
          clear hK K m9 g9
          try simp only [Act.put]
          refine along_done ?_
          go_wp2
          go_roundw
          case rel => exact ⟨k + 1, by have := HLT.out; omega, by go_num, by rw [← HSTEP.out]; exact M9.out, HCK.out.trans HC9.out (fun j hj => Or.inr (by have := HQB.out; simp at hj; omega)), HCQ.out.trans HC9.out (fun j hj => Or.inl hj)⟩
          case measure => have := HLT.out; simp [intOf]; omega
        · have e : k = W.length := by omega
          subst e
          rw [List.take_length] at hom
          have HOMF := Lib.hid hom
          have HCF := Lib.hid (HC3.out.trans HC3K.out (by simp))
          clear hom hc hcq HOMK
          go_wp2
          refine bodyPost_ret (v := .tuple #[.map (some qb), .int .i64 R.length]) (by simp [results, Try.results25, go_sem]) rfl ?_
          rw [HRD.out]
          exact ⟨qb, _, rfl, by rw [← HWE.out]; exact HOMF.out, HCF.out, by have := HQB.out; have := HSZZ.out; have := HSZ3.out; omega, HWE.out ▸ HWK.out⟩



end Go.Proofs.Ytfgbkpbakignhaa
