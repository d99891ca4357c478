/- ref05: the contract of Pieces, whole. Conditions: a right part that lies in memory, of at most 1000 vertices. -/
import Derived.Test.YtckjpaimbmlboaaVRegP
namespace Go.Proofs.Ytckjpaimbmlboaa
open Go.RowKit Go.Maps
namespace Plain
theorem face_cases {g : Gr} {p : Pt} {turn : List (List Int)} {W : List Face} (hpe : p.err g = 0) (hW : WalksOk g p turn W) {f : Face} (hf : f ∈ W) :
  (f.2 = [] ∧ -2048 < f.1 ∧ f.1 < 0 ∧ f.corner g = -1 - f.1) ∨ ∃ (d : Nat) (l : List Int), f.1 = (d : Int) ∧ f.2 = (d : Int) :: l ∧ (d : Int) ∈ p.darts ∧ d / 2 < g.e.length ∧ d < 2048 ∧ f.corner g = g.tail d := by
 obtain ⟨F, e, hT⟩ := hW.split
 rw [e] at hf
 rcases List.mem_append.1 hf with q | q
 ·obtain ⟨v, hv, rfl⟩ := List.mem_map.1 q
  have hv := List.mem_reverse.1 (List.mem_filter.1 hv).1
  have h1 := (Pt.ok_of_err hpe).vr v hv
  have h2 := (Gr.err_ok (Pt.err_ok hpe).1).2.1
  exact Or.inl ⟨rfl, by show -2048 < -1 - v; omega, by show -1 - v < 0; omega, rfl⟩
 obtain ⟨l, hl⟩ := hT.key f q
 have hd : f.1 ∈ p.darts := hT.sub _ (List.mem_flatten.2 ⟨f.2, List.mem_map.2 ⟨f, q, rfl⟩, by rw [hl]; simp⟩)
 obtain ⟨d, hd1, hd2, hd3⟩ := Pt.dart_nat hpe hd
 refine Or.inr ⟨d, l, hd1, by rw [hl, hd1], by rw [← hd1]; exact hd, hd2, hd3, ?_⟩
 unfold Face.corner
 rw [hl]
 show g.tail f.1 = _
 rw [hd1]
end Plain
namespace Plain
end Plain
namespace Plain
theorem turned_at {l : List Int} {a k : Nat} (ha : a < l.length) (hk : k < l.length) : (l.drop a ++ l.take a).getD k 0 = l.getD ((a + k) % l.length) 0 := by
 unfold List.getD
 by_cases h : k < l.length - a
 ·rw [List.getElem?_append_left (by simp; omega), List.getElem?_drop, Nat.mod_eq_of_lt (by omega)]
 rw [List.getElem?_append_right (by simp; omega), List.length_drop, List.getElem?_take, if_pos (by omega)]
 rw [show (a + k) % l.length = k - (l.length - a) by rw [Nat.mod_eq_sub_mod (by omega), Nat.mod_eq_of_lt (by omega)]; omega]
theorem turned_len {l : List Int} {a : Nat} (ha : a ≤ l.length) : (l.drop a ++ l.take a).length = l.length := by simp; omega
end Plain
set_option maxRecDepth 100000 in
set_option maxHeartbeats 2000000 in
theorem refTurned_any (v : Value) (l : List Int) (a : Nat) (w : World) (ha : a < l.length ∨ (a = 0 ∧ l = [])) (hl : l.length < 1000000000) (h : IntsAt w v l) :
  Calls Try.prog 78 #[v, .int .i64 a] w fun e w' => ∃ ov, e = .returned ov ∧ RowAt w' w.heap.size ov (l.drop a ++ l.take a) ∧ Chg [] w w' := by
 have H := Lib.hid h
 have htl : (l.drop a ++ l.take a).length = l.length := Plain.turned_len (by rcases ha with q | ⟨q, -⟩ <;> omega)
 have HTA := Lib.hid (fun k (hk : k < l.length) => Plain.turned_at (l := l) (a := a) (k := k) (by rcases ha with q | ⟨q, r⟩; exact q; rw [r] at hk; simp at hk) hk)
 have hal : a ≤ l.length := by rcases ha with q | ⟨q, -⟩ <;> omega
 obtain ⟨M, hM⟩ : ∃ M, l.drop a ++ l.take a = M := ⟨_, rfl⟩
 rw [hM] at htl HTA ⊢
 have HTL := Lib.hid htl
 obtain ⟨ao, cap, rfl, hsm, hm, -⟩ := h
 have HSM := Lib.hid hsm
 clear ha hM htl hsm
 go_enter Try.func78, Try.ntmps78
 go_wp2
 go_loopw [5, 6] (fun ov c wr => ∃ k : Nat, k ≤ l.length ∧ c = .int .i64 k ∧ RowAt wr w.heap.size ov (M.take k) ∧ Chg [] w wr) (fun _ c _ => l.length - (intOf c).toNat)
 case atStart => exact ⟨0, Nat.zero_le _, rfl, by simpa using rowNil' _ _, Chg.refl _ _⟩
 case round =>
  obtain ⟨k, hk, rfl, hrow, hc⟩ := hrel
  have HROW := Lib.hid hrow
  obtain ⟨oo, oc, rfl⟩ := hrow.shape
  have HC := Lib.hid hc
  by_cases hlt : k < l.length
  ·have hml : (a + k) % l.length < l.length := Nat.mod_lt _ (by omega)
   obtain ⟨b, off, rfl, cell⟩ := IntsAt.cellAt (H.out.fresh hc) hml
   have HTK := Lib.hid (show M.take (k + 1) = M.take k ++ [l.getD ((a + k) % l.length) 0] by rw [← HTA.out k hlt]; exact Plain.take_snoc (by have := HTL.out; omega))
   have HIX := Lib.hid (HSM.out (l.getD ((a + k) % l.length) 0) (by simp [List.getD, hml]))
   obtain ⟨j, hj⟩ : ∃ j, (a + k) % l.length = j := ⟨_, rfl⟩
   have q1 : IntKind.i64.wrap ((a : Int) + (k : Int)) = (a : Int) + (k : Int) := IntWalk.i64_in _ (by omega)
   have q2 : Int.tmod ((a : Int) + (k : Int)) (l.length : Int) = (j : Int) := by rw [Int.tmod_eq_emod_of_nonneg (by omega), show (a : Int) + (k : Int) = ((a + k : Nat) : Int) by omega, ← hj]; omega
   have q3 : ((l.length : Int) == 0) = false := by rw [beq_eq_false_iff_ne]; omega
   rw [hj] at hml cell HTK HIX
   obtain ⟨z, hz⟩ : ∃ z, l.getD j 0 = z := ⟨_, rfl⟩
   rw [hz] at cell HTK HIX
   have HB := Lib.hid hc.size
   have hll : (M.take k).length < 4294967290 := by simp; omega
   obtain ⟨L, hL⟩ : ∃ L, M.take k = L := ⟨_, rfl⟩
   rw [hL] at HROW HTK hll ⊢
   clear hrow hc hj hz hL
   go_wp2_with (at_builtin; refine wl_push rfl _ _ rfl (B := w.heap.size) (v := .slice oo _ oc) rfl rfl HROW.out HIX.out HB.out hll rfl ?_; intro v9 w9 r9 c9 f9; have R9 := Lib.hid r9; have C9 := Lib.hid c9; clear r9 c9 f9)
   go_roundw
   case rel => exact ⟨k + 1, by omega, by go_num, by rw [HTK.out]; exact R9.out, HC.out.trans C9.out (fun j hj => Or.inr (by rw [HROW.out.foot] at hj; exact (HROW.out.low j hj).1))⟩
   case measure => simp [intOf]; omega
  have e : k = l.length := by omega
  subst e
  rw [← HTL.out, List.take_length] at HROW
  rw [List.take_of_length_le (by rw [HTL.out]; omega)]
  clear hrow hc
  obtain ⟨n, hn⟩ : ∃ n, M.length = n := ⟨_, rfl⟩
  rw [hn] at HROW ⊢
  clear hn
  go_wp2
  go_ret
  exact ⟨_, rfl, HROW.out, HC.out⟩
set_option maxRecDepth 100000 in
set_option maxHeartbeats 2000000 in
theorem refFirst_any (v : Value) (l : List Int) (w : World) (hl : l.length < 1000000000) (h : IntsAt w v l) :
  Calls Try.prog 47 #[v] w fun e w' => ∃ ov, e = .returned ov ∧ RowAt w' w.heap.size ov (Plain.first l) ∧ Chg [] w w' := by
 have H := Lib.hid h
 obtain ⟨ao, cap, rfl, hsm, hm, -⟩ := h
 clear hsm
 go_enter Try.func47, Try.ntmps47
 go_wp2
 go_loopw [3, 4] (fun m c wr => ∃ k : Nat, k ≤ l.length ∧ c = .int .i64 k ∧ m = .int .i64 (Plain.lst l k : Nat) ∧ Chg [] w wr) (fun _ c _ => l.length - (intOf c).toNat)
 case atStart => exact ⟨0, Nat.zero_le _, rfl, rfl, Chg.refl _ _⟩
 case round =>
  obtain ⟨k, hk, rfl, rfl, hc⟩ := hrel
  have HC := Lib.hid hc
  by_cases hlt : k < l.length
  ·have hll := Plain.lst_lt (l := l) (by omega) k hk
   obtain ⟨b, off, rfl, ck⟩ := IntsAt.cellAt (H.out.fresh hc) hlt
   obtain ⟨b', off', e, cm⟩ := IntsAt.cellAt (H.out.fresh hc) hll
   obtain ⟨rfl, rfl⟩ : b = b' ∧ off = off' := by simpa using e
   have HLS := Lib.hid (show Plain.lst l (k + 1) = if l.getD k 0 < l.getD (Plain.lst l k) 0 then k else Plain.lst l k from rfl)
   obtain ⟨m, hm2⟩ : ∃ m, Plain.lst l k = m := ⟨_, rfl⟩
   rw [hm2] at hll cm HLS ⊢
   obtain ⟨x, hx⟩ : ∃ x, l.getD k 0 = x := ⟨_, rfl⟩
   obtain ⟨y, hy⟩ : ∃ y, l.getD m 0 = y := ⟨_, rfl⟩
   rw [hx] at ck HLS
   rw [hy] at cm HLS
   clear hc e hm2 hx hy
   go_wp2
   have hS0 : Chg [] wr wr.drew := (Chg.refl [] wr).drew
   refine wp_region_way (Chg [] wr) [0, 1, 2, 3, 4, 5, 6, 7, 8] (Way.line [0, 1, 2, 3, 4, 5, 6, 7, 8] .done) (by kernel_rfl) (by kernel_rfl) ?_
   simp only [Way.line]
   repeat
    first
     | (refine along_off rfl (by rfl) (by rfl) (fun _ _ _ h => h) hS0 ?_; simp only [Act.put, Z1, Z2, Z3, Z4, Z5, Z6])
     | (refine along_read (v := ?_) rfl (by rfl) (by rfl) (fun _ _ _ h => h) hS0 (fun w' hS' => ?_) ?_; rotate_left; (focus (have rd0 := hS'.cell ck (by simp); have rd1 := hS'.cell cm (by simp); clear hS'; go_simp; try with_reducible rfl)); simp only [Act.put, Z1, Z2, Z3, Z4, Z5, Z6])
     | (refine along_skip rfl (by rfl) (by rfl) hS0 ?_; simp only [Act.put, Z1, Z2, Z3, Z4, Z5, Z6])
   refine along_done ?_
   have HCD := Lib.hid (HC.out.trans hS0 (by simp))
   clear hS0 ck cm
   by_cases q : x < y
   ·have b1 : decide (x < y) = true := decide_eq_true q
    have HE := Lib.hid (HLS.out.trans (if_pos q))
    clear b1
    go_wp2
    go_roundw
    case rel => exact ⟨k + 1, by omega, by go_num, by rw [HE.out], HCD.out⟩
    case measure => simp [intOf]; omega
   have b1 : decide (x < y) = false := decide_eq_false q
   have HE := Lib.hid (HLS.out.trans (if_neg q))
   clear b1
   go_wp2
   go_roundw
   case rel => exact ⟨k + 1, by omega, by go_num, by rw [HE.out], HCD.out⟩
   case measure => simp [intOf]; omega
  have e : k = l.length := by omega
  subst e
  have hm0 : Plain.lst l l.length < l.length ∨ (Plain.lst l l.length = 0 ∧ l = []) := by
   rcases Nat.eq_zero_or_pos l.length with q | q
   ·have : l = [] := List.length_eq_zero_iff.1 q
    subst this
    exact Or.inr ⟨rfl, rfl⟩
   exact Or.inl (Plain.lst_lt q _ (Nat.le_refl _))
  have HF := Lib.hid (show Plain.first l = l.drop (Plain.lst l l.length) ++ l.take (Plain.lst l l.length) from rfl)
  have HB := Lib.hid hc.size
  obtain ⟨m, hm2⟩ : ∃ m, Plain.lst l l.length = m := ⟨_, rfl⟩
  rw [hm2] at hm0 HF ⊢
  have HM0 := Lib.hid hm0
  clear hc hm2 hm0
  go_wp2_with fail
  refine (refTurned_any _ l m _ HM0.out hl (H.out.fresh HC.out)).mono ?_
  rintro e w2 ⟨ov, rfl, hrow, hc2⟩
  obtain ⟨oo, oc, rfl⟩ := hrow.shape
  have HR := Lib.hid (hrow.base HB.out)
  have HCF := Lib.hid (HC.out.trans hc2 (by simp))
  obtain ⟨n, hn⟩ : ∃ n, (l.drop m ++ l.take m).length = n := ⟨_, rfl⟩
  rw [hn] at HR ⊢
  clear hrow hc2 hn
  go_wp2
  go_ret
  exact ⟨_, rfl, by rw [HF.out]; exact HR.out, HCF.out⟩
set_option maxRecDepth 100000 in
set_option maxHeartbeats 2000000 in
theorem refFirsts_any (vt : Value) (turn : List (List Int)) (w : World) (hTL : turn.length < 1000000000) (htr : ∀ i, (turn.getD i []).length < 1000000000) (h : RowsAt w vt turn) :
  Calls Try.prog 15 #[vt] w fun e w' => ∃ ov vs, e = .returned ov ∧ RowsOwn w' w.heap.size ov vs (turn.map Plain.first) ∧ RowsAt w' ov (turn.map Plain.first) ∧ Chg [] w w' := by
 have HT := Lib.hid h
 have HTR := Lib.hid htr
 obtain ⟨tno, tc, rfl, htm, -⟩ := h
 clear htr
 go_enter Try.func15, Try.ntmps15
 go_wp2
 go_loopw [3, 4] (fun ov c wr => ∃ (k : Nat) (vs : List Value), k ≤ turn.length ∧ c = .int .i64 k ∧ RowsOwn wr w.heap.size ov vs ((turn.take k).map Plain.first) ∧ Hid (∀ l ∈ (turn.take k).map Plain.first, (∀ x ∈ l, I64 x) ∧ l.length < 4294967296) ∧ Chg [] w wr) (fun _ c _ => turn.length - (intOf c).toNat)
 case atStart => exact ⟨0, [], Nat.zero_le _, rfl, by simpa using RowsOwn.nil _ _, Lib.hid (by simp), Chg.refl _ _⟩
 case round =>
  obtain ⟨k, vs, hk, rfl, hro, hsm, hc⟩ := hrel
  have HRO := Lib.hid hro
  obtain ⟨oo, oc, rfl⟩ := owns_shape hro.out
  have hvl : vs.length = k := by rw [hro.len]; simp; omega
  have HC := Lib.hid hc
  by_cases hlt : k < turn.length
  ·obtain ⟨tb, toff, uo, uc, rfl, tcell, hrow⟩ := (HT.out.fresh hc).row hlt
   have HMS := Lib.hid (Plain.map_take_snoc (f := Plain.first) hlt)
   have hTl := HTR.out k
   obtain ⟨T, hT⟩ : ∃ T, turn.getD k [] = T := ⟨_, rfl⟩
   rw [hT] at hrow tcell HMS hTl
   have HROW := Lib.hid hrow
   have HB := Lib.hid hc.size
   have HVL := Lib.hid hvl
   obtain ⟨n, hn⟩ : ∃ n, vs.length = n := ⟨_, rfl⟩
   have hnn : n < 1000000000 := by omega
   have HN := Lib.hid hn
   rw [hn]
   clear hro hrow hc hT hvl hn
   go_wp2_with fail
   refine (refFirst_any _ T _ hTl HROW.out).mono ?_
   rintro e w3 ⟨v', rfl, hrv, hc3⟩
   obtain ⟨vo, vc, rfl⟩ := hrv.shape
   have HRV := Lib.hid hrv
   have HC3 := Lib.hid (HC.out.trans hc3 (by simp))
   have HRO3 := Lib.hid (HRO.out.chg hc3 (by simp) (by simp))
   have HX := Lib.hid (row_below HRO.out)
   obtain ⟨g5, q5, w5, hr5, hro5, hc5, -⟩ := run_row HRO3.out (by have := HC3.out.size; omega) HRV.out HB.out HX.out (by have := HN.out; omega) (Or.inl rfl) 28
   rw [HN.out] at hr5 hro5 hc5
   have HRO5 := Lib.hid hro5
   have HC5 := Lib.hid (HC3.out.trans hc5 (fun j hj => Or.inr (by have := HRO3.out.out.lt j (by rw [HN.out]; simpa using hj); exact this.1)))
   have HS5 := Lib.hid (show ∀ l ∈ (turn.take (k + 1)).map Plain.first, (∀ x ∈ l, I64 x) ∧ l.length < 4294967296 from fun l hl => by
    rw [HMS.out, List.mem_append] at hl
    rcases hl with q | q
    ·exact hsm.out l q
    rw [List.mem_singleton.1 q]; exact HRV.out.2)
   clear tcell hrv hc3 hro5 hc5
   go_wp2_with (at_builtin; refine wl_apprun rfl (.tmp 11) (.tmp 17) 28 rfl rfl rfl hr5 ?_)
   go_roundw
   case rel => exact ⟨k + 1, _, by omega, by go_num, by rw [HMS.out]; exact HRO5.out, HS5, HC5.out⟩
   case measure => simp [intOf]; omega
  have e : k = turn.length := by omega
  subst e
  rw [List.take_length] at HRO hsm
  have HRD := Lib.hid (HRO.out.read hsm.out)
  clear hro hc
  obtain ⟨TT, hTT⟩ : ∃ TT, turn.map Plain.first = TT := ⟨_, rfl⟩
  have HTT := Lib.hid hTT
  rw [hTT] at HRO HRD
  clear hTT
  have HVL := Lib.hid hvl
  clear hvl
  obtain ⟨n, hn⟩ : ∃ n, vs.length = n := ⟨_, rfl⟩
  rw [hn] at HRO HRD ⊢
  clear hn
  go_wp2
  go_ret
  exact ⟨_, vs, rfl, by rw [HTT.out]; exact HRO.out, by rw [HTT.out]; exact HRD.out, HC.out⟩
theorem equals_step {a b : List (List Int)} (hl : a.length = b.length) : (List.range a.length).all (fun i => decide (a.getD i [] = b.getD i [])) = decide (a = b) := by
 by_cases h : a = b
 ·subst h
  rw [decide_eq_true rfl, List.all_eq_true]
  simp
 rw [decide_eq_false h, List.all_eq_false]
 refine Classical.byContradiction fun q => h (List.ext_getElem hl fun i h1 h2 => ?_)
 refine Classical.byContradiction fun e => q ⟨i, List.mem_range.2 h1, ?_⟩
 simpa [List.getD, h1, h2] using e
set_option maxRecDepth 100000 in
set_option maxHeartbeats 2000000 in
theorem refEquals_any (va vb : Value) (a b : List (List Int)) (w : World) (ha : RowsAt w va a) (hb : RowsAt w vb b) :
  Calls Try.prog 14 #[va, vb] w fun e w' => e = .returned (.bool (decide (a = b))) ∧ Chg [] w w' := by
 have HA := Lib.hid ha
 have HB := Lib.hid hb
 obtain ⟨ao, ac, rfl, ham, -⟩ := ha
 obtain ⟨bo, bc, rfl, hbm, -⟩ := hb
 by_cases hl : a.length = b.length
 ·have HE := Lib.hid (equals_step hl)
  have HL := Lib.hid hl
  have hb0 : ((a.length : Int) != (b.length : Int)) = false := by rw [hl]; simp
  clear hl
  go_enter Try.func14, Try.ntmps14
  go_wp2
  go_loopw [5] (fun c wr => ∃ k : Nat, k ≤ a.length ∧ c = .int .i64 k ∧ Hid ((List.range k).all (fun i => decide (a.getD i [] = b.getD i [])) = true) ∧ Chg [] w wr) (fun c _ => a.length - (intOf c).toNat)
  case atStart => exact ⟨0, Nat.zero_le _, rfl, rfl, Chg.refl _ _⟩
  case round =>
   obtain ⟨k, hk, rfl, hall, hc⟩ := hrel
   have HC := Lib.hid hc
   by_cases hlt : k < a.length
   ·have hkb : k < b.length := by have := HL.out; omega
    obtain ⟨g1, o1, u1, c1, rfl, m1, r1⟩ := (HA.out.fresh hc).row hlt
    obtain ⟨g2, o2, u2, c2, rfl, m2, r2⟩ := (HB.out.fresh hc).row hkb
    have HF := Lib.hid (fun h => Plain.all_range_false (p := fun i => decide (a.getD i [] = b.getD i [])) hlt h)
    have HS := Lib.hid (Plain.all_range_succ (fun i => decide (a.getD i [] = b.getD i [])) k)
    obtain ⟨x, hx⟩ : ∃ x, a.getD k [] = x := ⟨_, rfl⟩
    obtain ⟨y, hy⟩ : ∃ y, b.getD k [] = y := ⟨_, rfl⟩
    rw [hx] at m1 r1
    rw [hy] at m2 r2
    have HX := Lib.hid hx
    have HY := Lib.hid hy
    have R1 := Lib.hid r1
    have R2 := Lib.hid r2
    clear hc hx hy r1 r2
    go_wp2
    have hS0 : Chg [] wr wr.drew := (Chg.refl [] wr).drew
    refine wp_region_way (Chg [] wr) [0, 1, 2, 3, 4, 5, 6, 7, 9] (Way.line [0, 1, 2, 3, 4, 5, 6, 7, 8, 9] .done) (by kernel_rfl) (by kernel_rfl) ?_
    simp only [Way.line]
    repeat
     first
      | (refine along_off rfl (by rfl) (by rfl) (fun _ _ _ h => h) hS0 ?_; simp only [Act.put, Z1, Z2, Z3, Z4, Z5, Z6])
      | (refine along_read (v := ?_) rfl (by rfl) (by rfl) (fun _ _ _ h => h) hS0 (fun w' hS' => ?_) ?_; rotate_left; (focus (have rd0 := hS'.cell m1 (by simp); have rd1 := hS'.cell m2 (by simp); clear hS'; go_simp; try with_reducible rfl)); simp only [Act.put, Z1, Z2, Z3, Z4, Z5, Z6])
      | (refine along_skip rfl (by rfl) (by rfl) hS0 ?_; simp only [Act.put, Z1, Z2, Z3, Z4, Z5, Z6])
    refine along_op rfl (by rfl) (by rfl) (fun K hK => ?_)
    go_simp
    refine (equal_any _ _ x y _ (R1.out.fresh hS0) (R2.out.fresh hS0)).mono ?_
    rintro e w3 ⟨rfl, hcx⟩
    have hS1 := hS0.trans hcx (by simp)
    clear hS0 hcx
    have hS0 := hS1
    clear hS1
    refine hK.out _ _ (fun _ => hS0) ?_
    clear hK K
    try simp only [Act.put, Z1, Z2, Z3, Z4, Z5, Z6]
    repeat
     first
      | (refine along_off rfl (by rfl) (by rfl) (fun _ _ _ h => h) hS0 ?_; simp only [Act.put, Z1, Z2, Z3, Z4, Z5, Z6])
      | (refine along_read (v := ?_) rfl (by rfl) (by rfl) (fun _ _ _ h => h) hS0 (fun w' hS' => ?_) ?_; rotate_left; (focus (have rd0 := hS'.cell m1 (by simp); have rd1 := hS'.cell m2 (by simp); clear hS'; go_simp; try with_reducible rfl)); simp only [Act.put, Z1, Z2, Z3, Z4, Z5, Z6])
      | (refine along_skip rfl (by rfl) (by rfl) hS0 ?_; simp only [Act.put, Z1, Z2, Z3, Z4, Z5, Z6])
    refine along_done ?_
    have HC3 := Lib.hid (HC.out.trans hS0 (by simp))
    clear hS0 m1 m2
    by_cases q : x = y
    ·rw [decide_eq_true q]
     have HK2 := Lib.hid (show (List.range (k + 1)).all (fun i => decide (a.getD i [] = b.getD i [])) = true by rw [HS.out, hall.out, HX.out, HY.out]; simp [q])
     clear q
     go_wp2
     go_roundw
     case rel => exact ⟨k + 1, by omega, by go_num, HK2, HC3.out⟩
     case measure => simp [intOf]; omega
    rw [decide_eq_false q]
    have HE2 := Lib.hid (show decide (a = b) = false by rw [← HE.out]; exact HF.out (by rw [HX.out, HY.out]; exact decide_eq_false q))
    clear q
    go_wp2
    go_ret
    exact ⟨ret_bool HE2.out.symm, HC3.out⟩
   have e : k = a.length := by omega
   subst e
   have HE2 := Lib.hid (HE.out.symm.trans hall.out)
   clear hc
   go_wp2
   go_ret
   exact ⟨ret_bool HE2.out.symm, HC.out⟩
 have HE := Lib.hid (show decide (a = b) = false from decide_eq_false (fun e => hl (by rw [e])))
 have hb0 : ((a.length : Int) != (b.length : Int)) = true := by simp only [bne_iff_ne]; omega
 clear hl
 go_enter Try.func14, Try.ntmps14
 go_wp2
 go_ret
 exact ⟨ret_bool HE.out.symm, Chg.refl _ _⟩
end Go.Proofs.Ytckjpaimbmlboaa
