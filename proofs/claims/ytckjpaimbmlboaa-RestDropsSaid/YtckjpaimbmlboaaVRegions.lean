/- package plan: the contract of Regions. Conditions: lists that lie in memory and read so, of a bounded size. -/
import Derived.Test.YtckjpaimbmlboaaVSortf
import Derived.Test.YtckjpaimbmlboaaVSetsC
import Derived.Test.YtckjpaimbmlboaaVPieces
import Derived.Test.YtckjpaimbmlboaaVSpread
import Derived.Test.YtckjpaimbmlboaaVFlat
namespace Go.Proofs.Ytckjpaimbmlboaa
open Go.RowKit Go.Maps

namespace Plain
def singles (W : List Face) (met : List Int) : List (List Int) := (W.filter fun f => decide (f.1 ∉ met)).map fun f => [f.1]
theorem singles_in {W : List Face} {met : List Int} {k : Nat} (hk : k < W.length) (h : (W.getD k (0, [])).1 ∈ met) : singles (W.take (k + 1)) met = singles (W.take k) met := by
 unfold singles
 rw [take_face hk, List.filter_append, List.map_append]
 obtain ⟨fc, hfc⟩ : ∃ fc, W.getD k (0, []) = fc := ⟨_, rfl⟩
 rw [hfc] at h ⊢
 simp [h]
theorem singles_out {W : List Face} {met : List Int} {k : Nat} (hk : k < W.length) (h : (W.getD k (0, [])).1 ∉ met) : singles (W.take (k + 1)) met = singles (W.take k) met ++ [[(W.getD k (0, [])).1]] := by
 unfold singles
 rw [take_face hk, List.filter_append, List.map_append]
 obtain ⟨fc, hfc⟩ : ∃ fc, W.getD k (0, []) = fc := ⟨_, rfl⟩
 rw [hfc] at h ⊢
 simp [h]
theorem take_flat {same : List (List Int)} {i : Nat} (hi : i < same.length) : (same.take (i + 1)).flatten = (same.take i).flatten ++ same.getD i [] ∧ same.take (i + 1) = same.take i ++ [same.getD i []] := by
 have : same.getD i [] = same[i] := by simp [List.getD, hi]
 rw [List.take_succ_eq_append_getElem hi, List.flatten_append, this]; simp
theorem sameRun_two {ow : Int → Option Int} {same : List (List Int)} {st : St × List Int} : ∀ i d, sameRun ow same st i = some d → ∀ j, j < i → ¬ listBad same j
 | 0, _, _ => by omega
 | i + 1, d, h => by
  have h : (sameRun ow same st i).bind _ = some d := h
  cases hm : sameRun ow same st i with
  | none => rw [hm] at h; cases h
  | some m =>
   rw [hm] at h
   have h : (if listBad same i then none else listRun ow (same.getD i []) m (same.getD i []).length) = some d := h
   split at h
   ·cases h
   ·rename_i hbad
    intro j hj
    by_cases e : j = i
    ·subst e; exact hbad
    ·exact sameRun_two i m hm j (by omega)
theorem planErr_two {g : Gr} {p : Pt} {turn same : List (List Int)} (h : planErr g p turn same = 0) : ∀ i, i < same.length → 2 ≤ (same.getD i []).length := by
 intro i hi
 obtain ⟨-, c, hc, -⟩ := planErr_zero h
 have := sameRun_two _ c hc i hi
 unfold listBad at this
 omega
theorem key_small {g : Gr} {p : Pt} {turn : List (List Int)} {W : List Face} (hpe : p.err g = 0) (hW : WalksOk g p turn W) {f : Face} (hf : f ∈ W) : -4611686018427387904 ≤ f.1 ∧ f.1 ≤ 4611686018427387904 := by
 have hpo := Pt.ok_of_err hpe
 have hcor := corner_mem hpo hW.faces f hf
 have hel := Gr.err_ok (Pt.err_ok hpe).1
 have hkey := hW.faces.key f hf
 have hall : ∀ d l, f.2 = d :: l → d ∈ p.darts := fun d l e => hW.faces.all.mem_iff.1 (List.mem_flatten.2 ⟨f.2, List.mem_map.2 ⟨_, List.mem_filter.2 ⟨hf, by rw [e]; rfl⟩, rfl⟩, by rw [e]; simp⟩)
 obtain ⟨key, ds⟩ := f
 cases ds with
 | nil =>
  have h1 : -1 - key ∈ p.v := by
   unfold Face.corner at hcor
   exact hcor
  have := hpo.vr _ h1
  show _ ≤ key ∧ key ≤ _
  omega
 | cons d l =>
  have h1 : key = d := hkey d l rfl
  have h2 := dart_small hpe (hall d l rfl)
  show _ ≤ key ∧ key ≤ _
  omega
theorem singles_len (W : List Face) (met : List Int) : (singles W met).length ≤ W.length := by
 unfold singles; rw [List.length_map]; exact List.length_filter_le _ _
end Plain

theorem lit_own (w : World) {B : Nat} (hB : B ≤ w.heap.size) (x : Int) : (w.alloc (.cells #[.int .i64 x] 3)).ownsRow B 3 1 (.slice (some ⟨w.heap.size, 0, none⟩) 1 1) [x].length (ints [x]) :=
 ⟨rfl, .inr ⟨w.heap.size, 1, #[.int .i64 x], rfl, hB, heap_alloc_new w _, Nat.le_refl _, by decide, rfl, rfl⟩⟩

set_option maxRecDepth 100000 in
set_option maxHeartbeats 8000000 in
theorem regions_any (vg vp vx : Value) (g : Plain.Gr) (p : Plain.Pt) (turn same : List (List Int)) (w : World) (hpl : p.e.length ≤ 100000) (hpv : p.v.length ≤ 100000) (hTL : turn.length < 2147483648) (hS : Plain.sumLen turn turn.length < 2147483648) (hsl : same.length ≤ 10000) (hsr : ∀ i, (same.getD i []).length ≤ 10000) (hg : GrAt w vg g) (hp : PtAt w vp p) (hx : PlAt w vx turn same) :
  Calls Try.prog 25 #[vg, vp, vx] w fun e w' => ∃ ov, e = .returned (.tuple #[ov, .int .i64 (Plain.planErr g p turn same)]) ∧ (Plain.planErr g p turn same ≠ 0 → ov = .slice none 0 0) ∧
   (Plain.planErr g p turn same = 0 → ∃ vs ll, RowsOwn w' w.heap.size ov vs ll ∧ ll.Perm (same ++ Plain.singles (Plain.walksOf g p turn) same.flatten) ∧ ll.Pairwise (fun a b => a.getD 0 0 ≤ b.getD 0 0) ∧ Plain.WalksOk g p turn (Plain.walksOf g p turn)) ∧ Chg [] w w' := by
 have HG := Lib.hid hg
 have HP := Lib.hid hp
 have HX := Lib.hid hx
 have HSL := Lib.hid hS
 have HSR := Lib.hid hsr
 obtain ⟨eo, cap, rfl, hn, hm, hsm, hcell⟩ := hg
 obtain ⟨v1, v2, rfl, hv, he⟩ := hp
 obtain ⟨ao, ac, rfl, has, ham, hacell⟩ := hv
 obtain ⟨bo, bc, rfl, hbs, hbm, hbcell⟩ := he
 obtain ⟨t1, t2, rfl, ht, hs⟩ := hx
 have HT := Lib.hid ht
 obtain ⟨tno, tc, rfl, htm, -⟩ := ht
 obtain ⟨so, sc, rfl, hsm2, hsc⟩ := hs
 have HSC := Lib.hid hsc
 obtain ⟨-, -, hc1⟩ := box_two w #[.int .i64 g.n, .slice eo g.e.length cap] #[.slice ao p.v.length ac, .slice bo p.e.length bc] 24 27
 obtain ⟨-, hc3⟩ := box_three w #[.int .i64 g.n, .slice eo g.e.length cap] #[.slice ao p.v.length ac, .slice bo p.e.length bc] #[.slice tno turn.length tc, .slice so same.length sc] 24 27 30
 have HC1 := Lib.hid (hc1.trans hc3 (by simp))
 have HBXS := Lib.hid (fun w2 h => three_boxes w (g := g) (p := p) (turn := turn) (same := same) (eo := eo) (ao := ao) (bo := bo) (tno := tno) (so := so) (cap := cap) (ac := ac) (bc := bc) (tc := tc) (sc := sc) (w2 := w2) h)
 clear hcell hacell hbcell hsm hbs has hn hc1 hc3 hsc hS hsr
 obtain ⟨x0, x1, y0, y1, z0, z1, hsz⟩ := HBXS.out _ (Chg.refl _ _)
 go_enter Try.func25, Try.ntmps25
 go_wp2_with fail
 refine (right_any _ _ _ g p turn same _ hpl hpv hTL HSL.out hsl HSR.out (HG.out.fresh HC1.out) (HP.out.fresh HC1.out) (HX.out.fresh HC1.out)).mono ?_
 rintro e w3 ⟨rfl, hc3⟩
 have HC3 := Lib.hid (HC1.out.trans hc3 (by simp))
 have HC31 := Lib.hid hc3
 clear x0 x1 y0 y1 z0 z1 hsz
 obtain ⟨x0, x1, y0, y1, z0, z1, hsz⟩ := HBXS.out w3 hc3
 clear hc3
 by_cases hz : Plain.planErr g p turn same = 0
 ·have HZ := Lib.hid hz
  rw [hz]
  clear hz
  have HR := Lib.hid (Plain.flatErr_zero (Plain.planErr_zero HZ.out).1).1
  have HTWO := Lib.hid (Plain.planErr_two HZ.out)
  have HROW0 := Lib.hid (RowsOwn.nil w3 w3.heap.size)
  have hmm := @run_makeMap Try.prog
  have HM0 := Lib.hid (IMap.made w3)
  have HCM := Lib.hid ((Chg.refl [] w3).alloc (.map #[] 0))
  have z0n := fun o => cellNew z0 o
  have z1n := fun o => cellNew z1 o
  go_wp2
  clear hmm z0n z1n x0 x1 y0 y1 z0 z1
  obtain ⟨mb, hmb⟩ : ∃ mb, w3.heap.size = mb := ⟨_, rfl⟩
  have HMB := Lib.hid hmb
  rw [hmb] at HM0 HROW0 ⊢
  have HROW1 := Lib.hid (HROW0.out.chg HCM.out (by simp) (by simp))
  clear hmb
  generalize w3.alloc (.map #[] 0) = w4 at *
  go_loopw [9, 32] (fun ov c wr => ∃ (i : Nat) (vs : List Value) (f : Int → Option Int), i ≤ same.length ∧ c = .int .i64 i ∧ RowsOwn wr mb ov vs (same.take i) ∧ IMap wr mb (i * 10000) f ∧ Hid (∀ y, f y = none ↔ y ∉ (same.take i).flatten) ∧ Chg [] w3 wr) (fun _ c _ => same.length - (intOf c).toNat)
  case atStart => exact ⟨0, [], _, Nat.zero_le _, rfl, HROW1.out, by rw [Nat.zero_mul]; exact HM0.out, Lib.hid (fun y => by simp), HCM.out⟩
  case round =>
   obtain ⟨i, vs, f, hi, rfl, hro, hm, hff, hc⟩ := hrel
   have HRO := Lib.hid hro
   have HM := Lib.hid hm
   have HC := Lib.hid hc
   have HC6 := Lib.hid (HC31.out.trans hc (by simp))
   obtain ⟨-, -, -, -, -, z1, -⟩ := HBXS.out wr HC6.out
   obtain ⟨oo, oc, rfl⟩ := owns_shape hro.out
   have hvl : vs.length ≤ i := by rw [hro.len, List.length_take]; omega
   by_cases hlt : i < same.length
   ·obtain ⟨sb, soff, u, rfl, hcell, -, hints⟩ := HSC.out i hlt
    obtain ⟨lo, lc, rfl, hlsm, hlm, hlcell⟩ := hints
    have h2 := HTWO.out i hlt
    obtain ⟨lb, loff, rfl, hlc⟩ := hlcell (by intro e; rw [e] at h2; simp at h2)
    have c0 := HC6.out.cell (HC1.out.cell hcell (by simp)) (by simp)
    have hll := HSR.out i
    have HTF := Lib.hid (Plain.take_flat hlt)
    have HLC := Lib.hid (show ∀ wx, Chg [] w3 wx → ∀ k, k < (same.getD i []).length → wx.cell? ⟨lb, loff + k, none⟩ = some (.int .i64 ((same.getD i []).getD k 0)) from fun wx hx k hk => (HC3.out.trans hx (by simp)).cell (hlc k hk) (by simp))
    have HLS := Lib.hid hlsm
    have II : I64 (i : Int) := I64.mk (by omega) (by omega)
    clear hcell hlcell hlc hlsm hro hm hc hlm
    generalize same.getD i [] = l at *
    go_wp2_with fail
    refine (Try.slices_Clone_int lb loff l.length lc l _ (Nat.le_refl _) (by omega) (HLC.out _ HC.out)).mono ?_
    rintro e w6 ⟨v', rfl, hown, -, hb⟩
    have hc6 := Chg.of_below hb (Nat.le_refl _)
    rw [List.take_length] at hown
    have HRO6 := Lib.hid (HRO.out.chg hc6 (by simp) (by simp))
    have HM6 := Lib.hid (HM.out.chg hc6 (by simp))
    have HC7 := Lib.hid (HC.out.trans hc6 (by simp))
    have HOWN := Lib.hid (owns_base hown (show mb ≤ wr.heap.size by have := HM.out.lt; omega))
    have HAP := Lib.hid (show ∀ k b, k < vs.length → (vs.getD k undef).ownBlock = some b → v'.ownBlock ≠ some b from fun k b hk hb e => by
     have h1 := owns_lt (HRO.out.rows k hk) hb
     have h2 := (hown.lt b e).1
     omega)
    have HBM := Lib.hid (show mb ≤ w6.heap.size by have := HM6.out.lt; omega)
    obtain ⟨vo, vc, rfl⟩ := owns_shape hown
    have hvl2 : vs.length < 68719476736 := by omega
    clear c0 z1 hown hb hc6
    go_wp2_with (at_builtin; refine wp_app elemRow rfl (.tmp 37) (.tmp 40) rfl (v := .slice oo vs.length oc) rfl rfl rfl HRO6.out.out HBM.out rfl (oneSlice _ _ _) hvl2 ?_; intro g8 cap8 w8 r8 c8 l8; have R8 := Lib.hid r8; have C8 := Lib.hid c8; clear r8 c8 l8)
    have HRO8 := Lib.hid (HRO6.out.add HOWN.out HAP.out R8.out C8.out)
    have HOL := Lib.hid (show ∀ j ∈ (Value.slice oo vs.length oc).ownBlock.toList, w3.heap.size ≤ j from fun j hj => by have := (HRO6.out.out.lt j (by simpa using hj)).1; have := HMB.out; omega)
    have HC8 := Lib.hid (HC7.out.trans C8.out (fun j hj => Or.inr (HOL.out j hj)))
    have HM8 := Lib.hid (HM6.out.chg C8.out (fun e => owns_map HRO6.out.out HM6.out (by simpa using e)))
    have hLL : l.length < 4294967296 := by omega
    go_loopw [44] (fun c wi => ∃ (k : Nat) (f : Int → Option Int), k ≤ l.length ∧ c = .int .i64 k ∧ IMap wi mb (i * 10000 + k) f ∧ Hid (∀ y, f y = none ↔ y ∉ (same.take i).flatten ++ l.take k) ∧ Chg [mb] w8 wi) (fun c _ => l.length - (intOf c).toNat)
    case atStart => exact ⟨0, f, Nat.zero_le _, rfl, HM8.out, Lib.hid (fun y => by rw [List.take_zero, List.append_nil]; exact hff.out y), Chg.refl _ _⟩
    case round =>
     obtain ⟨k, f2, hk, rfl, hm2, hff2, hch⟩ := hrel
     have HMK := Lib.hid hm2
     have HCH := Lib.hid hch
     have HCK := Lib.hid (HC8.out.trans hch (fun j hj => Or.inr (by simp at hj; have := HMB.out; omega)))
     by_cases hltk : k < l.length
     ·have ck := HLC.out _ HCK.out k hltk
      have IK := HLS.out (l.getD k 0) (Plain.getD_mem hltk)
      have HTS := Lib.hid (Plain.take_snoc hltk)
      have hmx : i * 10000 + k < maxLen := by unfold maxLen; omega
      obtain ⟨key, hkey⟩ : ∃ key, l.getD k 0 = key := ⟨_, rfl⟩
      rw [hkey] at ck IK HTS
      have HFN := Lib.hid (show ∀ y, (if y = key then some (i : Int) else f2 y) = none ↔ y ∉ (same.take i).flatten ++ l.take (k + 1) from fun y => by
       rw [HTS.out, ← List.append_assoc]
       by_cases e : y = key
       ·subst e; simp
       ·rw [if_neg e, hff2.out y]; simp [e])
      clear hm2 hch hkey
      go_wp2_with (at_mapUpdate; refine wp_store _ rfl _ _ _ rfl HMK.out hmx rfl IK II rfl rfl ?_; intro w9 m9 g9; have M9 := Lib.hid m9; have G9 := Lib.hid g9; clear m9 g9 ck)
      go_roundw
      case rel => exact ⟨k + 1, _, by omega, by go_num, M9.out, HFN, HCH.out.grown G9.out (fun j hj => by cases hj; exact Or.inl (by simp))⟩
      case measure => simp [intOf]; omega
     ·have e : k = l.length := by omega
      have HRO9 := Lib.hid (HRO8.out.chg hch (fun b hb q => by simp at q; subst q; exact owns_map HRO8.out.out HM8.out hb) (fun k b hk hb q => by simp at q; subst q; exact owns_map (HRO8.out.rows k hk) HM8.out hb))
      have HF3 := Lib.hid (show ∀ y, f2 y = none ↔ y ∉ (same.take (i + 1)).flatten from fun y => by rw [hff2.out y, HTF.out.1, e, List.take_length])
      clear hm2 hch
      subst e
      go_wp2
      go_roundw
      case rel => exact ⟨i + 1, _, f2, by omega, by go_num, by rw [HTF.out.2]; exact HRO9.out, HMK.out.mono (by omega), HF3, HCK.out⟩
      case measure => simp [intOf]; omega
   ·have e : i = same.length := by omega
    subst e
    rw [List.take_length] at hro hff
    have HRS := Lib.hid hro
    obtain ⟨x0, x1, y0, y1, z0, -, -⟩ := HBXS.out wr HC6.out
    clear HRO hro hm hc z1
    generalize wr = wy at *
    go_wp2_with fail
    refine (walks_any _ _ _ g p turn _ (by omega) (by omega) hTL HSL.out (HG.out.fresh (HC3.out.trans HC.out (by simp))) (HP.out.fresh (HC3.out.trans HC.out (by simp))) (HT.out.fresh (HC3.out.trans HC.out (by simp)))).mono ?_
    rintro e w5 ⟨ovw, rfl, -, hw2, hc5⟩
    obtain ⟨W, xw, hwk, hnw⟩ := hw2 HR.out
    have HWE := Lib.hid (hwk.eq (Plain.turnErr_zero HR.out).1)
    have HWK := Lib.hid hwk
    have HNW := Lib.hid hnw
    obtain ⟨wo, wcap, rfl⟩ := hnw.shape
    have hwl := hwk.len
    have HC5 := Lib.hid (HC.out.trans hc5 (by simp))
    have HM5 := Lib.hid (HM.out.chg hc5 (by simp))
    have HRO5 := Lib.hid (HRS.out.chg hc5 (by simp) (by simp))
    have HNB := Lib.hid (show mb < wy.heap.size from HM.out.lt)
    rw [HR.out]
    clear hw2 hwk hnw hc5 x0 x1 y0 y1 z0
    go_wp2
    go_loopw [9, 63] (fun ov c wr => ∃ (k : Nat) (vs : List Value), k ≤ W.length ∧ c = .int .i64 k ∧ RowsOwn wr mb ov vs (same ++ Plain.singles (W.take k) same.flatten) ∧ IMap wr mb (same.length * 10000) f ∧ Nest wr wy.heap.size 65 2 (.slice wo W.length wcap) W.length xw (faceCells W) ∧ Chg [] w3 wr) (fun _ c _ => W.length - (intOf c).toNat)
    case atStart => exact ⟨0, vs, Nat.zero_le _, rfl, by rw [List.take_zero]; simpa [Plain.singles] using HRO5.out, HM5.out, HNW.out, HC5.out⟩
    case round =>
     obtain ⟨k, vs2, hk, rfl, hro, hm, hnw, hc⟩ := hrel
     have HROK := Lib.hid hro
     have HMK := Lib.hid hm
     have HNK := Lib.hid hnw
     have HCK := Lib.hid hc
     obtain ⟨oo2, oc2, rfl⟩ := owns_shape hro.out
     have hvl3 : vs2.length < 68719476736 := by
      have := Plain.singles_len (W.take k) same.flatten
      rw [List.length_take] at this
      rw [hro.len, List.length_append]; omega
     by_cases hltk : k < W.length
     ·obtain ⟨wg, wc', da, dc, hwe, hf1, hf2, -⟩ := nest_face hnw rfl hltk
      simp only [Value.slice.injEq] at hwe
      obtain ⟨rfl, -, rfl⟩ := hwe
      have hmem : W.getD k (0, []) ∈ W := by simp [List.getD, hltk]
      have hks := Plain.key_small (Plain.turnErr_zero HR.out).1 HWK.out hmem
      have HIN := Lib.hid (Plain.singles_in (W := W) (met := same.flatten) hltk)
      have HOUT := Lib.hid (Plain.singles_out (W := W) (met := same.flatten) hltk)
      obtain ⟨key, hkey⟩ : ∃ key, (W.getD k (0, [])).1 = key := ⟨_, rfl⟩
      obtain ⟨dn, hdn⟩ : ∃ dn, (W.getD k (0, [])).2.length = dn := ⟨_, rfl⟩
      rw [hkey] at hf1 hks HIN HOUT
      rw [hdn] at hf2
      have IK : I64 key := I64.mk (by omega) (by omega)
      have HBX := Lib.hid ((Chg.refl [] wr).alloc (.cells #[.int .i64 key, .slice da dn dc] 65))
      have b0 := (cell_of_row _ _ 0 _ _ _ (heap_alloc_new wr (.cells #[.int .i64 key, .slice da dn dc] 65))).trans (show _ = some (Value.int .i64 key) from rfl)
      have HMB2 := Lib.hid (HMK.out.chg HBX.out (by simp))
      have HROB := Lib.hid (HROK.out.chg HBX.out (by simp) (by simp))
      have HNB2 := Lib.hid (HNK.out.fresh HBX.out)
      have HCB := Lib.hid (HCK.out.trans HBX.out (by simp))
      clear hro hm hnw hc hmem hks hkey hdn
      cases hfk : f key with
      | some vv =>
       have HF := Lib.hid hfk
       have HEQ := Lib.hid (HIN.out (Classical.byContradiction fun q => by rw [(hff.out key).2 q] at hfk; cases hfk))
       clear hfk
       go_wp2_with (at_lookup; refine wp_look_hit _ rfl _ _ rfl HMB2.out rfl IK rfl HF ?_)
       go_roundw
       case rel => exact ⟨k + 1, vs2, by omega, by go_num, by rw [HEQ.out]; exact HROB.out, HMB2.out, HNB2.out, HCB.out⟩
       case measure => simp [intOf]; omega
      | none =>
       have HF := Lib.hid hfk
       have HEQ := Lib.hid (HOUT.out ((hff.out key).1 hfk))
       have HSZ := Lib.hid (show mb ≤ (wr.alloc (.cells #[.int .i64 key, .slice da dn dc] 65)).heap.size by have := HMB2.out.lt; omega)
       have hs1 : (wr.alloc (.cells #[.int .i64 key, .slice da dn dc] 65)).heap.size = wr.heap.size + 1 := by simp
       have hlit := lit_own (wr.alloc (.cells #[.int .i64 key, .slice da dn dc] 65)) HSZ.out key
       rw [hs1] at hlit
       have HLIT := Lib.hid hlit
       have HCL := Lib.hid ((Chg.refl [] (wr.alloc (.cells #[.int .i64 key, .slice da dn dc] 65))).alloc (.cells #[.int .i64 key] 3))
       have HROL := Lib.hid (HROB.out.chg HCL.out (by simp) (by simp))
       have HML := Lib.hid (HMB2.out.chg HCL.out (by simp))
       have HNL := Lib.hid (HNB2.out.fresh HCL.out)
       have HCL3 := Lib.hid (HCB.out.trans HCL.out (by simp))
       have HAP := Lib.hid (show ∀ k b, k < vs2.length → (vs2.getD k undef).ownBlock = some b → (Value.slice (some ⟨wr.heap.size + 1, 0, none⟩) 1 1).ownBlock ≠ some b from fun k b hk hb e => by
        have h1 := owns_lt (HROB.out.rows k hk) hb
        have h2 : wr.heap.size + 1 = b := Option.some.inj e
        omega)
       have HSL2 := Lib.hid (show mb ≤ ((wr.alloc (.cells #[.int .i64 key, .slice da dn dc] 65)).alloc (.cells #[.int .i64 key] 3)).heap.size by have := HML.out.lt; omega)
       clear hfk hlit hs1
       go_wp2_with (first
        | (at_lookup; refine wp_look_miss _ rfl _ _ rfl HMB2.out rfl IK rfl HF ?_)
        | (at_builtin; refine wp_app elemRow rfl (.tmp 76) (.tmp 80) rfl (v := .slice oo2 vs2.length oc2) rfl rfl (by simp) HROL.out.out HSL2.out rfl (oneSlice _ _ _) hvl3 ?_; intro g9 cap9 w9 r9 c9 l9; have R9 := Lib.hid r9; have C9 := Lib.hid c9; clear r9 c9 l9; go_frame))
       go_roundw
       case rel =>
        refine ⟨k + 1, _, by omega, by go_num, by rw [HEQ.out, ← List.append_assoc]; exact HROL.out.add HLIT.out HAP.out R9.out C9.out, HML.out.chg C9.out (fun e => owns_map HROL.out.out HML.out (by simpa using e)), HNL.out.other C9.out (fun j hj cs t r hh => ?_), HCL3.out.trans C9.out (fun j hj => Or.inr (by have := (HROL.out.out.lt j (by simpa using hj)).1; have := HMB.out; omega))⟩
        rcases HROL.out.out.2 with ⟨q, -⟩ | ⟨g', c', cur, q, -, hg, -⟩
        ·rw [q] at hj; simp [Value.ownBlock] at hj
        ·rw [q] at hj; simp [Value.ownBlock] at hj; subst hj
         rw [hg] at hh
         simp at hh
         rw [← hh.2.1]
         exact ⟨by decide, by decide⟩
       case measure => simp [intOf]; omega
     ·have e : k = W.length := by omega
      subst e
      rw [List.take_length] at hro
      have HFIN := Lib.hid hro
      have hvl4 : vs2.length < 4294967296 := by
       have := Plain.singles_len W same.flatten
       rw [hro.len, List.length_append]; omega
      have HNE := Lib.hid (show ∀ l ∈ same ++ Plain.singles W same.flatten, l ≠ [] from fun l hl e => by
       rcases List.mem_append.1 hl with h | h
       ·obtain ⟨i, hi, e2⟩ := List.getElem_of_mem h
        have := HTWO.out i hi
        have e3 : same.getD i [] = [] := by simp [List.getD, hi, e2, e]
        rw [e3] at this
        simp at this
       ·obtain ⟨f', -, e2⟩ := List.mem_map.1 h
        rw [e] at e2
        cases e2)
      clear hro hm hnw hc HROK
      go_wp2_with fail
      refine (order_any _ vs2 _ mb _ hvl4 HFIN.out HNE.out).mono ?_
      rintro e w9 ⟨rfl, vs3, ll3, h1, h2, h3, h4, h5⟩
      have H1 := Lib.hid h1
      have H3 := Lib.hid h3
      have H4 := Lib.hid h4
      have HC9 := Lib.hid (HC3.out.trans (HCK.out.trans h5 (fun j hj => Or.inr (by have := (HFIN.out.out.lt j (by simpa using hj)).1; have := HMB.out; omega))) (by simp))
      clear h1 h3 h4 h5
      go_wp2
      refine bodyPost_ret (v := .tuple #[.slice oo2 vs2.length oc2, .int .i64 0]) (by simp [results, Try.results25, go_sem]) rfl ?_
      exact ⟨_, by rw [HZ.out], fun h => absurd HZ.out h, fun _ => ⟨vs3, ll3, H1.out.base (by have := HMB.out; have := HC3.out.size; omega), by rw [← HWE.out]; exact H3.out, H4.out, HWE.out ▸ HWK.out⟩, HC9.out⟩
 ·have HZ := Lib.hid hz
  obtain ⟨er, her⟩ : ∃ er, Plain.planErr g p turn same = er := ⟨_, rfl⟩
  have HER := Lib.hid her
  have hzb : (er != 0) = true := by rw [← her]; simp [HZ.out]
  rw [her]
  clear her
  go_wp2
  refine bodyPost_ret (v := .tuple #[.slice none 0 0, .int .i64 er]) (by simp [results, Try.results25, go_sem]) rfl ?_
  exact ⟨_, by rw [HER.out], fun _ => rfl, fun h => absurd h HZ.out, HC3.out⟩
end Go.Proofs.Ytckjpaimbmlboaa
/- ref05: the contract of Pieces (how many). Conditions: a right part that lies in memory, of at most 1000 vertices. -/
namespace Go.Proofs.Ytckjpaimbmlboaa
open Go.RowKit Go.Maps

namespace Plain
end Plain

end Go.Proofs.Ytckjpaimbmlboaa
/- The drawing of two vertices, no edges, one list: plainly. No program here. -/
namespace Go.Proofs.Ytckjpaimbmlboaa

namespace Plain
def g0 : Gr := ⟨2, []⟩
def p0 : Pt := ⟨[0, 1], []⟩
def t0 : List (List Int) := [[], []]
def s0 : List (List Int) := [[-2, -1]]
def w0 : List Face := [(-2, []), (-1, [])]

end Plain
end Go.Proofs.Ytckjpaimbmlboaa
/- ref04: the contract of Whole. Condition: a graph that lies in memory, of a bounded size. -/
namespace Go.Proofs.Ytckjpaimbmlboaa
open Go.RowKit Go.Maps

theorem Plain.upTo_succ (n : Nat) : Plain.upTo (n + 1) = Plain.upTo n ++ [(n : Int)] := by unfold Plain.upTo; rw [List.range_succ, List.map_append]; rfl
theorem Plain.upTo_len (n : Nat) : (Plain.upTo n).length = n := by simp [Plain.upTo]

theorem OutAt.put0 {w wa w7 : World} {B ob : Nat} {u1 u2 v : Value} {V E m : List Int} (ho : w.heap[ob]? = some (.cells #[u1, u2] 27 (0, 0))) (h1 : RowAt w B u1 V) (h2 : RowAt w B u2 E) (hap : ∀ j ∈ foot u1, j ∉ foot u2) (hB : B ≤ ob) (ca : Chg [] w wa) (c7 : Chg (foot u1) wa w7) (r7 : RowAt w7 B v m) (f7 : ∀ j ∈ foot v, j ∈ foot u1 ∨ wa.heap.size ≤ j) :
  OutAt (w7.setCell ⟨ob, 0, none⟩ v) B ob m E ∧ Chg (ob :: foot u1) w (w7.setCell ⟨ob, 0, none⟩ v) := by
 have nob : ∀ {w : World} {u : Value} {q : List Int} {x y : Value}, w.heap[ob]? = some (.cells #[x, y] 27 (0, 0)) → RowAt w B u q → ob ∉ foot u := fun hh h e => by
  obtain ⟨cs, r, h'⟩ := row_kind h _ e
  rw [hh] at h'; simp at h'
 have ho7 := c7.heap (ca.heap ho (by simp)) (nob ho h1)
 have hset : Chg [ob] w7 (w7.setCell ⟨ob, 0, none⟩ v) := (Chg.refl _ w7).setCell (Or.inl (by simp)) _
 have h27 := (h2.chg ca (by simp)).chg c7 (fun b hb e => hap b e (by rw [h2.foot]; exact hb))
 have keep : ∀ {u : Value} {q : List Int}, RowAt w7 B u q → RowAt (w7.setCell ⟨ob, 0, none⟩ v) B u q := fun h => h.chg hset (fun b hb e => by
  simp at e; subst e
  exact nob ho7 h (by rw [h.foot]; exact hb))
 refine ⟨⟨v, u2, heap_setCell_same ho7 0 v, keep r7, keep h27, fun j hj e => ?_, hB⟩, ((ca.mono (by simp)).trans (c7.mono (own' := ob :: foot u1) (fun j hj => Or.inl (List.mem_cons_of_mem _ hj))) (fun j hj => Or.inl hj)).trans (hset.mono (own' := ob :: foot u1) (fun j hj => Or.inl (by simp at hj; simp [hj]))) (fun j hj => Or.inl hj)⟩
 rcases f7 j hj with q | q
 ·exact hap j q e
 ·have := (h2.low j (by rw [← h2.foot]; exact e)).2
  have := ca.size
  omega

theorem OutAt.put1 {w wa w7 : World} {B ob : Nat} {u1 u2 v : Value} {V E m : List Int} (ho : w.heap[ob]? = some (.cells #[u1, u2] 27 (0, 0))) (h1 : RowAt w B u1 V) (h2 : RowAt w B u2 E) (hap : ∀ j ∈ foot u1, j ∉ foot u2) (hB : B ≤ ob) (ca : Chg [] w wa) (c7 : Chg (foot u2) wa w7) (r7 : RowAt w7 B v m) (f7 : ∀ j ∈ foot v, j ∈ foot u2 ∨ wa.heap.size ≤ j) :
  OutAt (w7.setCell ⟨ob, 1, none⟩ v) B ob V m ∧ Chg (ob :: foot u2) w (w7.setCell ⟨ob, 1, none⟩ v) := by
 have nob : ∀ {w : World} {u : Value} {q : List Int} {x y : Value}, w.heap[ob]? = some (.cells #[x, y] 27 (0, 0)) → RowAt w B u q → ob ∉ foot u := fun hh h e => by
  obtain ⟨cs, r, h'⟩ := row_kind h _ e
  rw [hh] at h'; simp at h'
 have ho7 := c7.heap (ca.heap ho (by simp)) (nob ho h2)
 have hset : Chg [ob] w7 (w7.setCell ⟨ob, 1, none⟩ v) := (Chg.refl _ w7).setCell (Or.inl (by simp)) _
 have h27 := (h1.chg ca (by simp)).chg c7 (fun b hb e => hap b (by rw [h1.foot]; exact hb) e)
 have keep : ∀ {u : Value} {q : List Int}, RowAt w7 B u q → RowAt (w7.setCell ⟨ob, 1, none⟩ v) B u q := fun h => h.chg hset (fun b hb e => by
  simp at e; subst e
  exact nob ho7 h (by rw [h.foot]; exact hb))
 refine ⟨⟨u1, v, heap_setCell_same ho7 1 v, keep h27, keep r7, fun j hj e => ?_, hB⟩, ((ca.mono (by simp)).trans (c7.mono (own' := ob :: foot u2) (fun j hj => Or.inl (List.mem_cons_of_mem _ hj))) (fun j hj => Or.inl hj)).trans (hset.mono (own' := ob :: foot u2) (fun j hj => Or.inl (by simp at hj; simp [hj]))) (fun j hj => Or.inl hj)⟩
 rcases f7 j e with q | q
 ·exact hap j hj q
 ·have := (h1.low j (by rw [← h1.foot]; exact hj)).2
  have := ca.size
  omega

set_option maxRecDepth 100000 in
set_option maxHeartbeats 4000000 in
theorem whole_any (vg : Value) (g : Plain.Gr) (N : Nat) (w : World) (hN : g.n = (N : Int)) (hNb : N ≤ 100000) (hE : g.e.length ≤ 100000) (hg : GrAt w vg g) :
  Calls Try.prog 30 #[vg] w fun e w' => ∃ v1 v2, e = .returned (.agg #[v1, v2]) ∧ RowAt w' w.heap.size v1 (Plain.upTo N) ∧ RowAt w' w.heap.size v2 (Plain.upTo g.e.length) ∧ Chg [] w w' := by
 obtain ⟨eo, cap, rfl, -, -, -, -⟩ := hg
 rw [hN]
 have X0 := Lib.hid ((cell_of_row _ _ 0 _ _ _ (heap_alloc_new w (.cells #[.int .i64 N, .slice eo g.e.length cap] 24))).trans (show _ = some (Value.int .i64 N) from rfl))
 have X1 := Lib.hid ((cell_of_row _ _ 1 _ _ _ (heap_alloc_new w (.cells #[.int .i64 N, .slice eo g.e.length cap] 24))).trans (show _ = some (Value.slice eo g.e.length cap) from rfl))
 have HGB := Lib.hid (heap_alloc_new w (.cells #[.int .i64 N, .slice eo g.e.length cap] 24))
 have HC1 := Lib.hid ((Chg.refl [] w).alloc (.cells #[.int .i64 N, .slice eo g.e.length cap] 24))
 obtain ⟨hr1, hr2, hc4⟩ := box_two (w.alloc (.cells #[.int .i64 N, .slice eo g.e.length cap] 24)) #[.slice none 0 0, .slice none 0 0] #[.slice none 0 0, .slice none 0 0] 27 27
 have hsz : (w.alloc (.cells #[.int .i64 N, .slice eo g.e.length cap] 24)).heap.size = w.heap.size + 1 := by simp
 rw [hsz] at hr1 hr2
 have HR1 := Lib.hid hr1
 have HC4 := Lib.hid hc4
 have HO := Lib.hid (show OutAt _ (w.heap.size + 1) (w.heap.size + 1 + 1) (Plain.upTo 0) (Plain.upTo 0) from ⟨_, _, hr2, ⟨World.ownsRow_nil _ _ _ _, by simp [Plain.upTo], by simp [Plain.upTo]⟩, ⟨World.ownsRow_nil _ _ _ _, by simp [Plain.upTo], by simp [Plain.upTo]⟩, by simp [foot, Value.ownBlock], by omega⟩)
 have HW1 := Lib.hid hsz
 clear hr1 hr2 hsz hc4 hN
 go_enter Try.func30, Try.ntmps30
 go_wp2
 generalize (((w.alloc (.cells #[.int .i64 N, .slice eo g.e.length cap] 24)).alloc (.cells #[.slice none 0 0, .slice none 0 0] 27)).alloc (.cells #[.slice none 0 0, .slice none 0 0] 27)) = w4 at *
 generalize (w.alloc (.cells #[.int .i64 N, .slice eo g.e.length cap] 24)) = w1 at *
 obtain ⟨E, hEE⟩ : ∃ E, g.e.length = E := ⟨_, rfl⟩
 have HEE := Lib.hid hEE
 rw [hEE] at hE X1 HGB ⊢
 clear hEE
 go_loopw [4] (fun c wr => ∃ k : Nat, k ≤ N ∧ c = .int .i64 k ∧ OutAt wr (w.heap.size + 1) (w.heap.size + 1 + 1) (Plain.upTo k) (Plain.upTo 0) ∧ Chg [] w1 wr ∧ wr.heap[w.heap.size + 1]? = some (.cells #[.slice none 0 0, .slice none 0 0] 27 (0, 0))) (fun c _ => N - (intOf c).toNat)
 case atStart => exact ⟨0, Nat.zero_le _, rfl, HO.out, HC4.out, HR1.out⟩
 case round =>
  obtain ⟨k, hk, rfl, hout, hc, hrb⟩ := hrel
  have HC := Lib.hid hc
  have HRB := Lib.hid hrb
  have HOUT := Lib.hid hout
  have xg := hc.cell X0.out (by have := HW1.out; simp)
  clear hrb hout
  by_cases hlt : k < N
  ·obtain ⟨u1, u2, ho, hr1, hr2, hap, hBo⟩ := HOUT.out
   obtain ⟨ua, uc, rfl⟩ := hr1.shape
   simp only [Plain.upTo_len] at ho hr1 hr2 hap
   have o0 := (cell_of_row _ _ 0 _ _ _ ho).trans (show _ = some (Value.slice ua k uc) from rfl)
   have n1 : w.heap.size + 1 + 1 ∉ foot (.slice ua k uc) := fun e => by obtain ⟨cs, r, hh⟩ := row_kind hr1 _ e; rw [ho] at hh; simp at hh
   have IK : I64 (k : Int) := I64.mk (by omega) (by omega)
   have N1 := Lib.hid n1
   have HOO := Lib.hid ho
   have H1 := Lib.hid hr1
   have H2 := Lib.hid hr2
   have HAP := Lib.hid hap
   have CA := Lib.hid ((Chg.refl [] wr).alloc (.cells #[.int .i64 (k : Int)] 3))
   have HSZ := Lib.hid (show w.heap.size + 1 ≤ (wr.alloc (.cells #[.int .i64 (k : Int)] 3)).heap.size by have := HW1.out; have := HC.out.size; have := CA.out.size; omega)
   have HLI := Lib.hid (lit_ints wr IK)
   have HLEN := Lib.hid (show (Plain.upTo k).length + [(k : Int)].length < 4294967296 by rw [Plain.upTo_len]; simp; omega)
   clear ho hr1 hr2 hap hBo n1 hc
   go_wp2_with (at_builtin; (refine wl_app_read rfl _ _ rfl (B := w.heap.size + 1) (v := .slice ua k uc) rfl rfl (H1.out.chg CA.out (by simp)) HLI.out HSZ.out HLEN.out ?_; intro v7 w7 r7 c7 f7; obtain ⟨vo, vc, rfl⟩ := r7.shape; have HO7 := Lib.hid (c7.heap (CA.out.heap HOO.out (by simp)) N1.out); have o7 := (cell_of_row _ _ 0 _ _ _ HO7.out).trans (show _ = some (Value.slice ua k uc) from rfl); have z7 : w7.frozen? ⟨w.heap.size + 1 + 1, 0, none⟩ = false := free_at HO7.out 0; have R7 := Lib.hid r7; have C7 := Lib.hid c7; have F7 := Lib.hid f7; clear r7 c7 f7 o0))
   have hput := OutAt.put0 HOO.out H1.out H2.out HAP.out (by omega) CA.out C7.out R7.out F7.out
   simp only [List.length_append, List.length_cons, List.length_nil, Nat.zero_add] at hput
   have hc2 := HC.out.trans hput.2 (fun j hj => Or.inr (by
    have := HW1.out
    rcases List.mem_cons.1 hj with rfl | hj
    ·omega
    ·have := (H1.out.low j (by simpa [foot_slice] using hj)).1; omega))
   have hrb2 := hput.2.heap HRB.out (by
    intro e
    rcases List.mem_cons.1 e with e | e
    ·omega
    ·obtain ⟨cs, r, hh⟩ := row_kind H1.out _ e
     rw [HRB.out] at hh; simp at hh)
   exact ⟨⟨k + 1, by omega, by go_num, by rw [Plain.upTo_succ]; exact hput.1, hc2, hrb2⟩, by simp [intOf]; omega⟩
  ·have e : N = k := by omega
   subst e
   clear hc
   go_wp2
   clear xg
   go_loopw [5] (fun c wr => ∃ k : Nat, k ≤ E ∧ c = .int .i64 k ∧ OutAt wr (w.heap.size + 1) (w.heap.size + 1 + 1) (Plain.upTo N) (Plain.upTo k) ∧ Chg [] w1 wr ∧ wr.heap[w.heap.size + 1]? = some (.cells #[.slice none 0 0, .slice none 0 0] 27 (0, 0))) (fun c _ => E - (intOf c).toNat)
   case atStart => exact ⟨0, Nat.zero_le _, rfl, HOUT.out, HC.out, HRB.out⟩
   case round =>
    obtain ⟨k, hk, rfl, hout, hc, hrb⟩ := hrel
    have HC := Lib.hid hc
    have HRB := Lib.hid hrb
    have HOUT := Lib.hid hout
    have xg := hc.cell X1.out (by have := HW1.out; simp)
    clear hrb hout
    by_cases hlt : k < E
    ·obtain ⟨u1, u2, ho, hr1, hr2, hap, hBo⟩ := HOUT.out
     obtain ⟨ua, uc, rfl⟩ := hr2.shape
     simp only [Plain.upTo_len] at ho hr1 hr2 hap
     have o0 := (cell_of_row _ _ 1 _ _ _ ho).trans (show _ = some (Value.slice ua k uc) from rfl)
     have n1 : w.heap.size + 1 + 1 ∉ foot (.slice ua k uc) := fun e => by obtain ⟨cs, r, hh⟩ := row_kind hr2 _ e; rw [ho] at hh; simp at hh
     have IK : I64 (k : Int) := I64.mk (by omega) (by omega)
     have N1 := Lib.hid n1
     have HOO := Lib.hid ho
     have H1 := Lib.hid hr1
     have H2 := Lib.hid hr2
     have HAP := Lib.hid hap
     have CA := Lib.hid ((Chg.refl [] wr).alloc (.cells #[.int .i64 (k : Int)] 3))
     have HSZ := Lib.hid (show w.heap.size + 1 ≤ (wr.alloc (.cells #[.int .i64 (k : Int)] 3)).heap.size by have := HW1.out; have := HC.out.size; have := CA.out.size; omega)
     have HLI := Lib.hid (lit_ints wr IK)
     have HLEN := Lib.hid (show (Plain.upTo k).length + [(k : Int)].length < 4294967296 by rw [Plain.upTo_len]; simp; omega)
     clear ho hr1 hr2 hap hBo n1 hc
     go_wp2_with (at_builtin; (refine wl_app_read rfl _ _ rfl (B := w.heap.size + 1) (v := .slice ua k uc) rfl rfl (H2.out.chg CA.out (by simp)) HLI.out HSZ.out HLEN.out ?_; intro v7 w7 r7 c7 f7; obtain ⟨vo, vc, rfl⟩ := r7.shape; have HO7 := Lib.hid (c7.heap (CA.out.heap HOO.out (by simp)) N1.out); have o7 := (cell_of_row _ _ 1 _ _ _ HO7.out).trans (show _ = some (Value.slice ua k uc) from rfl); have z7 : w7.frozen? ⟨w.heap.size + 1 + 1, 1, none⟩ = false := free_at HO7.out 1; have R7 := Lib.hid r7; have C7 := Lib.hid c7; have F7 := Lib.hid f7; clear r7 c7 f7 o0))
     have hput := OutAt.put1 HOO.out H1.out H2.out HAP.out (by omega) CA.out C7.out R7.out F7.out
     simp only [List.length_append, List.length_cons, List.length_nil, Nat.zero_add] at hput
     have hc2 := HC.out.trans hput.2 (fun j hj => Or.inr (by
      have := HW1.out
      rcases List.mem_cons.1 hj with rfl | hj
      ·omega
      ·have := (H2.out.low j (by simpa [foot_slice] using hj)).1; omega))
     have hrb2 := hput.2.heap HRB.out (by
      intro e
      rcases List.mem_cons.1 e with e | e
      ·omega
      ·obtain ⟨cs, r, hh⟩ := row_kind H2.out _ e
       rw [HRB.out] at hh; simp at hh)
     exact ⟨⟨k + 1, by omega, by go_num, by rw [Plain.upTo_succ]; exact hput.1, hc2, hrb2⟩, by simp [intOf]; omega⟩
    ·have e : E = k := by omega
     subst e
     obtain ⟨u1, u2, ho, hr1, hr2, hap, hBo⟩ := HOUT.out
     obtain ⟨a1, q1, rfl⟩ := hr1.shape
     obtain ⟨a2, q2, rfl⟩ := hr2.shape
     simp only [Plain.upTo_len] at ho hr1 hr2 hap
     have o0 := (cell_of_row _ _ 0 _ _ _ ho).trans (show _ = some (Value.slice a1 N q1) from rfl)
     have o1 := (cell_of_row _ _ 1 _ _ _ ho).trans (show _ = some (Value.slice a2 E q2) from rfl)
     have r0 := (cell_of_row _ _ 0 _ _ _ HRB.out).trans (show _ = some (Value.slice none 0 0) from rfl)
     have r1 := (cell_of_row _ _ 1 _ _ _ HRB.out).trans (show _ = some (Value.slice none 0 0) from rfl)
     have z0 : wr.frozen? ⟨w.heap.size + 1, 0, none⟩ = false := by simp [World.frozen?, HRB.out]
     have z1 : wr.frozen? ⟨w.heap.size + 1, 1, none⟩ = false := by simp [World.frozen?, HRB.out]
     have hset : Chg [w.heap.size + 1] wr ((wr.setCell ⟨w.heap.size + 1, 0, none⟩ (.slice a1 N q1)).setCell ⟨w.heap.size + 1, 1, none⟩ (.slice a2 E q2)) := ((Chg.refl _ wr).setCell (Or.inl (by simp)) _).setCell (Or.inl (by simp)) _
     have hheap := heap_setCell_same (heap_setCell_same HRB.out 0 (.slice a1 N q1)) 1 (.slice a2 E q2)
     have f0 := (cell_of_row _ _ 0 _ _ _ hheap).trans (show _ = some (Value.slice a1 N q1) from rfl)
     have f1 := (cell_of_row _ _ 1 _ _ _ hheap).trans (show _ = some (Value.slice a2 E q2) from rfl)
     have kind : ∀ {v : Value} {q : List Int}, RowAt wr (w.heap.size + 1) v q → ∀ b ∈ v.ownBlock.toList, b ∉ [w.heap.size + 1] := fun h b hb e => by
      obtain ⟨cs, r, hh⟩ := row_kind h b (by rw [h.foot]; exact hb)
      simp at e
      rw [e, HRB.out] at hh
      simp at hh
     have HA := Lib.hid ((hr1.chg hset (kind hr1)).base (show w.heap.size ≤ w.heap.size + 1 by omega))
     have HB := Lib.hid ((hr2.chg hset (kind hr2)).base (show w.heap.size ≤ w.heap.size + 1 by omega))
     have HCF := Lib.hid (HC1.out.trans (HC.out.trans hset (fun j hj => Or.inr (by rw [HW1.out]; simp at hj; omega))) (by simp))
     have HF0 := Lib.hid f0
     have HF1 := Lib.hid f1
     clear ho hr1 hr2 hap hBo hset hheap f0 f1 kind hc
     go_wp2
     refine bodyPost_ret (v := .agg #[.slice a1 N q1, .slice a2 E q2]) (by have h0 := HF0.out; have h1 := HF1.out; simp [results, Try.results30, go_sem, h0, h1]) rfl ?_
     exact ⟨_, _, rfl, HA.out, by rw [HEE.out]; exact HB.out, HCF.out⟩
end Go.Proofs.Ytckjpaimbmlboaa
