/- ref08.Mirror: its contract. Conditions: a drawing that lies in memory and reads so, of a bounded size. -/
import Derived.Test.YtednbiophjndpaaGreatVMirW
namespace Go.Proofs.YtednbiophjndpaaGreat
open Go.RowKit Go.Maps
namespace Plain
def lkIn (f : Face) (s : List Int) (n : Nat) : List Int := ((s.take n).filter (hitM f)).map fun _ => f.1
def lkTo (W : List Face) (s : List Int) (j : Nat) : List Int := (W.take j).flatMap fun f => (s.filter (hitM f)).map fun _ => f.1
def mirIn (W : List Face) (f : Face) (same : List (List Int)) (k : Nat) : List (List Int) := ((same.take k).map (lkM W)).filter fun l => decide (0 < l.length) && decide (l.getD 0 0 = f.1)
def mirTo (W : List Face) (same : List (List Int)) (i : Nat) : List (List Int) := (W.take i).flatMap fun f => (same.map (lkM W)).filter fun l => decide (0 < l.length) && decide (l.getD 0 0 = f.1)
theorem lkIn_next (f : Face) {s : List Int} {n : Nat} (h : n < s.length) : lkIn f s (n + 1) = lkIn f s n ++ if hitM f (s.getD n 0) = true then [f.1] else [] := by
 unfold lkIn
 rw [List.take_succ_eq_append_getElem h, List.filter_append, List.map_append, show s.getD n 0 = s[n] by simp [List.getD, h]]
 congr 1
 by_cases q : hitM f s[n] = true
 ·rw [if_pos q, List.filter_cons_of_pos q]; rfl
 rw [if_neg q, List.filter_cons_of_neg q]; rfl
theorem lkTo_next {W : List Face} (s : List Int) {j : Nat} (h : j < W.length) : lkTo W s (j + 1) = lkTo W s j ++ lkIn (W.getD j (0, [])) s s.length := by
 unfold lkTo lkIn
 rw [List.take_succ_eq_append_getElem h, List.flatMap_append, List.take_length, show W.getD j (0, []) = W[j] by simp [List.getD, h]]
 simp
theorem lkTo_all (W : List Face) (s : List Int) : lkTo W s W.length = lkM W s := by unfold lkTo lkM; rw [List.take_length]
theorem mirIn_next (W : List Face) (f : Face) {same : List (List Int)} {k : Nat} (h : k < same.length) : mirIn W f same (k + 1) = mirIn W f same k ++ if 0 < (lkM W (same.getD k [])).length ∧ (lkM W (same.getD k [])).getD 0 0 = f.1 then [lkM W (same.getD k [])] else [] := by
 unfold mirIn
 rw [List.take_succ_eq_append_getElem h, List.map_append, List.filter_append, show same.getD k [] = same[k] by simp [List.getD, h]]
 congr 1
 by_cases q : 0 < (lkM W same[k]).length ∧ (lkM W same[k]).getD 0 0 = f.1
 ·rw [if_pos q, List.map_cons, List.filter_cons_of_pos (by rw [Bool.and_eq_true, decide_eq_true_iff, decide_eq_true_iff]; exact q)]; rfl
 rw [if_neg q, List.map_cons, List.filter_cons_of_neg (by rw [Bool.and_eq_true, decide_eq_true_iff, decide_eq_true_iff]; exact q)]; rfl
theorem mirTo_next (W : List Face) (same : List (List Int)) {i : Nat} (h : i < W.length) : mirTo W same (i + 1) = mirTo W same i ++ mirIn W (W.getD i (0, [])) same same.length := by
 unfold mirTo mirIn
 rw [List.take_succ_eq_append_getElem h, List.flatMap_append, List.take_length, show W.getD i (0, []) = W[i] by simp [List.getD, h]]
 simp
theorem mirTo_all (W : List Face) (same : List (List Int)) : mirTo W same W.length = refMir W same := by unfold mirTo refMir; rw [List.take_length]
theorem lkIn_len (f : Face) (s : List Int) (n : Nat) : (lkIn f s n).length ≤ n := by
 unfold lkIn
 rw [List.length_map]
 exact Nat.le_trans (List.length_filter_le _ _) (List.length_take_le _ _)
theorem lkTo_len (W : List Face) (s : List Int) : ∀ j, (lkTo W s j).length ≤ j * s.length
 | 0 => by simp [lkTo]
 | j + 1 => by
  by_cases h : j < W.length
  ·rw [lkTo_next s h, List.length_append, Nat.succ_mul]
   have := lkTo_len W s j
   have := lkIn_len (W.getD j (0, [])) s s.length
   omega
  have e : lkTo W s (j + 1) = lkTo W s j := by unfold lkTo; rw [List.take_of_length_le (by omega), List.take_of_length_le (by omega)]
  rw [e]
  exact Nat.le_trans (lkTo_len W s j) (Nat.mul_le_mul_right _ (Nat.le_succ j))
theorem mirIn_len (W : List Face) (f : Face) (same : List (List Int)) (k : Nat) : (mirIn W f same k).length ≤ k := by
 unfold mirIn
 exact Nat.le_trans (List.length_filter_le _ _) (by rw [List.length_map]; exact List.length_take_le _ _)
theorem mirTo_len (W : List Face) (same : List (List Int)) : ∀ i, (mirTo W same i).length ≤ i * same.length
 | 0 => by simp [mirTo]
 | i + 1 => by
  by_cases h : i < W.length
  ·rw [mirTo_next W same h, List.length_append, Nat.succ_mul]
   have := mirTo_len W same i
   have := mirIn_len W (W.getD i (0, [])) same same.length
   omega
  have e : mirTo W same (i + 1) = mirTo W same i := by unfold mirTo; rw [List.take_of_length_le (by omega), List.take_of_length_le (by omega)]
  rw [e]
  exact Nat.le_trans (mirTo_len W same i) (Nat.mul_le_mul_right _ (Nat.le_succ i))
theorem rev_drop_next {T : List Int} {n : Nat} (h : n < T.length) : (T.drop n).reverse = (T.drop (n + 1)).reverse ++ [T.getD n 0] := by
 rw [List.drop_eq_getElem_cons h, List.reverse_cons, show T.getD n 0 = T[n] by simp [List.getD, h]]
theorem same_small {g : Gr} {p : Pt} {turn same : List (List Int)} (hz : planErr g p turn same = 0) : ∀ l ∈ same, ∀ x ∈ l, -2048 < x ∧ x < 2048 := by
 obtain ⟨hpe, hto⟩ := zero_ok hz
 have hpt := parted hz (walks_ok hpe hto)
 intro l hl x hx
 have h1 : x ∈ (allRegs g p turn same).flatten := List.mem_flatten.2 ⟨l, List.mem_append.2 (Or.inl hl), hx⟩
 obtain ⟨f, hf, rfl⟩ := List.mem_map.1 (hpt.all.mem_iff.1 h1)
 have hW := walks_ok hpe hto
 have h := Pt.ok_of_err hpe
 have hg := Gr.err_ok (Pt.err_ok hpe).1
 match e : f.2 with
 | [] =>
  obtain ⟨v, hv, -, e1⟩ := lone_of hW.faces hf e
  have := h.vr v hv
  omega
 | d :: l =>
  have hk := hW.faces.key f hf d l e
  obtain ⟨n, e1, e2⟩ := (walk_nat hpe hto hW hf).1 d (by rw [e]; simp)
  omega
end Plain
theorem PlanVar.madeT {w : World} {B : Nat} {ov : Value} {vs : List Value} {t : List (List Int)} (h : RowsOwn w B ov vs t) (hs : ∀ l ∈ t, (∀ x ∈ l, I64 x) ∧ l.length < 4294967296) : PlanVar (w.alloc (.cells #[ov, .slice none 0 0] 30)) w.heap.size B (w.heap.size + 1) t [] := by
 refine ⟨⟨ov, vs, _, [], heap_alloc_new w _, h.chg ((Chg.refl [] w).alloc _) (by simp) (by simp), RowsOwn.nil _ _, ?_, fun k b hk hb => Nat.lt_of_lt_of_le (row_below h k b hk hb) (Nat.le_succ _), by simp⟩, by simpa using hs⟩
 cases e : ov.ownBlock with
 | none => exact Or.inl rfl
 | some b => exact Or.inr (by simp [Value.ownBlock])
set_option maxRecDepth 100000 in
set_option maxHeartbeats 16000000 in
theorem refMirror_any (vg vp vx : Value) (g : Plain.Gr) (p : Plain.Pt) (turn same : List (List Int)) (w : World) (hpl : p.e.length ≤ 1000) (hpv : p.v.length ≤ 1000) (hTL : turn.length < 1000000000) (hrl : ∀ i, (turn.getD i []).length < 1000000000) (hsl : same.length ≤ 1000) (hsr : ∀ i, (same.getD i []).length ≤ 1000) (hz : Plain.planErr g p turn same = 0) (hg : GrAt w vg g) (hp : PtAt w vp p) (hx : PlAt w vx turn same) :
  Calls Tryz.prog 15 #[vg, vp, vx] w fun e w' => ∃ ov, e = .returned ov ∧ PlAt w' ov (Plain.mirTurn turn) (Plain.mirSame g p turn same) ∧ Chg [] w w' := by
 have HSR := Lib.hid hsr
 have HRL := Lib.hid hrl
 obtain ⟨hpe, hto⟩ := Plain.zero_ok hz
 have HPE := Lib.hid hpe
 have HRV := Lib.hid (Plain.revTurn_ok hto)
 have hwm := Plain.walks_ok hpe (Plain.mirTurn_ok hto)
 have hWL := hwm.len
 have HRW := Lib.hid (Plain.rev_walks hpe hto)
 have HSM := Lib.hid (Plain.ref_mir hz)
 have HKS := Lib.hid (Plain.same_small hz)
 have HNAT := Lib.hid (fun (f : Plain.Face) (hf : f ∈ Plain.walksOf g p (Plain.mirTurn turn)) => Plain.walk_nat hpe (Plain.mirTurn_ok hto) hwm hf)
 have HFM := Lib.hid (Plain.rev_first turn)
 have HVL := Lib.hid (fun (v : Int) => (show (Plain.turnAt (Plain.revTurn turn) v).length < 4294967296 by rw [Plain.revTurn_at, List.length_reverse]; exact Nat.lt_trans (hrl v.toNat) (by decide)))
 have HRT := Lib.hid (show turn.map List.reverse = Plain.revTurn turn from rfl)
 obtain ⟨W, hW⟩ : ∃ W, Plain.walksOf g p (Plain.mirTurn turn) = W := ⟨_, rfl⟩
 rw [hW] at hWL HRW HSM HNAT
 clear hz hpe hto hrl hsr hwm hW
 have HG := Lib.hid hg
 have HP := Lib.hid hp
 have HX := Lib.hid hx
 obtain ⟨eo, cap, rfl, hn, hm, hsm, hcell⟩ := hg
 obtain ⟨v1, v2, rfl, hv, he⟩ := hp
 obtain ⟨ao, ac, rfl, has, ham, hacell⟩ := hv
 obtain ⟨bo, bc, rfl, hbs, hbm, hbcell⟩ := he
 have HAC := Lib.hid hacell
 have HBC := Lib.hid hbcell
 obtain ⟨t1, t2, rfl, ht, hs⟩ := hx
 have HT := Lib.hid ht
 have HS := Lib.hid hs
 obtain ⟨tno, tc, rfl, htm, -⟩ := ht
 obtain ⟨so, sc, rfl, hsm2, hsc⟩ := hs
 obtain ⟨-, -, hc1⟩ := box_two w #[.int .i64 g.n, .slice eo g.e.length cap] #[.slice ao p.v.length ac, .slice bo p.e.length bc] 24 27
 obtain ⟨-, hc3⟩ := box_three w #[.int .i64 g.n, .slice eo g.e.length cap] #[.slice ao p.v.length ac, .slice bo p.e.length bc] #[.slice tno turn.length tc, .slice so same.length sc] 24 27 30
 have HC1 := Lib.hid (hc1.trans hc3 (by simp))
 have HBXS := Lib.hid (fun w2 h => three_boxes w (g := g) (p := p) (turn := turn) (same := same) (eo := eo) (ao := ao) (bo := bo) (tno := tno) (so := so) (cap := cap) (ac := ac) (bc := bc) (tc := tc) (sc := sc) (w2 := w2) h)
 clear hcell hacell hbcell hsm hbs has hn hc1 hc3 hsc
 have hra : Chg [] (((w.alloc (.cells #[.int .i64 g.n, .slice eo g.e.length cap] 24)).alloc (.cells #[.slice ao p.v.length ac, .slice bo p.e.length bc] 27)).alloc (.cells #[.slice tno turn.length tc, .slice so same.length sc] 30)) ((((w.alloc (.cells #[.int .i64 g.n, .slice eo g.e.length cap] 24)).alloc (.cells #[.slice ao p.v.length ac, .slice bo p.e.length bc] 27)).alloc (.cells #[.slice tno turn.length tc, .slice so same.length sc] 30)).alloc (.cells #[.slice none 0 0, .slice none 0 0] 30)) := (Chg.refl [] _).alloc _
 have hrh := heap_alloc_new (((w.alloc (.cells #[.int .i64 g.n, .slice eo g.e.length cap] 24)).alloc (.cells #[.slice ao p.v.length ac, .slice bo p.e.length bc] 27)).alloc (.cells #[.slice tno turn.length tc, .slice so same.length sc] 30)) (.cells #[.slice none 0 0, .slice none 0 0] 30)
 rw [show (((w.alloc (.cells #[.int .i64 g.n, .slice eo g.e.length cap] 24)).alloc (.cells #[.slice ao p.v.length ac, .slice bo p.e.length bc] 27)).alloc (.cells #[.slice tno turn.length tc, .slice so same.length sc] 30)).heap.size = w.heap.size + 3 by simp] at hrh
 have hsz1 : ((((w.alloc (.cells #[.int .i64 g.n, .slice eo g.e.length cap] 24)).alloc (.cells #[.slice ao p.v.length ac, .slice bo p.e.length bc] 27)).alloc (.cells #[.slice tno turn.length tc, .slice so same.length sc] 30)).alloc (.cells #[.slice none 0 0, .slice none 0 0] 30)).heap.size = w.heap.size + 4 := by simp
 have HRA := Lib.hid hra
 have HRH := Lib.hid hrh
 have HSZ1 := Lib.hid hsz1
 have HCW1 := Lib.hid (HC1.out.trans hra (by simp))
 obtain ⟨x0, x1, y0, y1, z0, z1, hsz⟩ := HBXS.out _ hra
 clear hra hrh hsz1
 go_enter Tryz.func15, Tryz.ntmps15
 go_wp2
 generalize ((((w.alloc (.cells #[.int .i64 g.n, .slice eo g.e.length cap] 24)).alloc (.cells #[.slice ao p.v.length ac, .slice bo p.e.length bc] 27)).alloc (.cells #[.slice tno turn.length tc, .slice so same.length sc] 30)).alloc (.cells #[.slice none 0 0, .slice none 0 0] 30)) = w1 at *
 have HBX := Lib.hid (fun w2 (h : Chg [] w1 w2) => HBXS.out w2 (HRA.out.trans h (by simp)))
 have HRES := Lib.hid (fun w2 (h : Chg [] w1 w2) => h.heap HRH.out (by simp))
 have HW := Lib.hid (fun w2 (h : Chg [] w1 w2) => HCW1.out.trans h (by simp))
 clear HBXS HRA HRH HCW1 HC1 x0 x1 y0 y1 z0 z1 hsz
 go_loopw [7, 8] (fun ov c wr => ∃ (k : Nat) (vs : List Value), k ≤ turn.length ∧ c = .int .i64 k ∧ RowsOwn wr w1.heap.size ov vs ((turn.take k).map List.reverse) ∧ Hid (∀ l ∈ (turn.take k).map List.reverse, (∀ x ∈ l, I64 x) ∧ l.length < 4294967296) ∧ Chg [] w1 wr) (fun _ c _ => turn.length - (intOf c).toNat)
 case atStart => exact ⟨0, [], Nat.zero_le _, rfl, by simpa using RowsOwn.nil _ _, Lib.hid (by simp), Chg.refl _ _⟩
 case round =>
  obtain ⟨k, vs, hk, rfl, hro, hsm, hc⟩ := hrel
  have HRO := Lib.hid hro
  obtain ⟨oo, oc, rfl⟩ := owns_shape hro.out
  have hvl : vs.length = k := by rw [hro.len]; simp; omega
  have HC := Lib.hid hc
  obtain ⟨x0, x1, y0, y1, z0, z1, hsz⟩ := HBX.out wr hc
  by_cases hlt : k < turn.length
  ·obtain ⟨tb, toff, u, rfl, tcell, -, hrow⟩ := (HT.out.fresh (HW.out _ hc)).rowc hlt
   have HMS := Lib.hid (Plain.map_take_snoc (f := List.reverse) hlt)
   have hTl := HRL.out k
   obtain ⟨T, hT⟩ : ∃ T, turn.getD k [] = T := ⟨_, rfl⟩
   rw [hT] at hrow HMS hTl
   have HROW := Lib.hid hrow
   obtain ⟨uo, uc, rfl, hI, -⟩ := hrow
   have HTI := Lib.hid hI
   have HTC := Lib.hid tcell
   have HB := Lib.hid hc.size
   have HVS := Lib.hid hvl
   obtain ⟨n0, hn⟩ : ∃ n, vs.length = n := ⟨_, rfl⟩
   have hnn : n0 < 1000000000 := by omega
   have HN := Lib.hid hn
   rw [hn]
   have wl : IntKind.i64.wrap ((T.length : Int) - 1) = (T.length : Int) - 1 := IntWalk.i64_in _ (by omega)
   clear hro hc hT hvl hn hI
   go_wp2
   clear x0 x1 y0 y1 z0 z1 hsz tcell
   go_loopw [9, 10] (fun lv c wi => ∃ m : Nat, m ≤ T.length ∧ c = .int .i64 ((m : Int) - 1) ∧ RowAt wi wr.heap.size lv (T.drop m).reverse ∧ Chg [] wr wi) (fun _ c _ => (intOf c + 1).toNat)
   case atStart => exact ⟨T.length, Nat.le_refl _, by go_num, by rw [List.drop_length]; exact rowNil' _ _, Chg.refl _ _⟩
   case round =>
    rename World => wi
    obtain ⟨m, hm, rfl, hkr, hci⟩ := hrel
    have HKR := Lib.hid hkr
    have HCI := Lib.hid hci
    have HBI := Lib.hid (show wr.heap.size ≤ wi.heap.size from hci.size)
    obtain ⟨lo, lc, rfl⟩ := hkr.shape
    have hkl : (T.drop m).reverse.length ≤ T.length := by rw [List.length_reverse, List.length_drop]; omega
    obtain ⟨x0, x1, y0, y1, z0, z1, hsz⟩ := HBX.out wi (HC.out.trans hci (by simp))
    clear hkr hci
    by_cases h0 : 0 < m
    ·obtain ⟨n, rfl⟩ : ∃ n, m = n + 1 := ⟨m - 1, by omega⟩
     rw [show (((n + 1 : Nat) : Int) - 1) = (n : Int) by omega]
     have hlj : n < T.length := by omega
     obtain ⟨rb, roff, rfl, rc⟩ := IntsAt.cellAt HROW.out hlj
     have rcell := HCI.out.cell rc (by simp)
     have tcell := HCI.out.cell HTC.out (by simp)
     have IX : I64 (T.getD n 0) := HTI.out _ (Plain.getD_mem hlj)
     have HNX := Lib.hid (Plain.rev_drop_next hlj)
     have wm : IntKind.i64.wrap ((n : Int) - 1) = (n : Int) - 1 := IntWalk.i64_in _ (by omega)
     obtain ⟨x, hx⟩ : ∃ x, T.getD n 0 = x := ⟨_, rfl⟩
     rw [hx] at rcell IX HNX
     obtain ⟨M, hM⟩ : ∃ M, (T.drop (n + 1)).reverse = M := ⟨_, rfl⟩
     rw [hM] at HNX HKR hkl ⊢
     have hml : M.length < 4294967290 := by omega
     clear rc hx hM h0
     go_wp2_with (at_builtin; refine wl_push rfl _ _ rfl (B := wr.heap.size) (v := .slice lo _ lc) rfl rfl HKR.out IX HBI.out hml rfl ?_; intro v6 w6 r6 c6 f6; have R6 := Lib.hid r6; have C6 := Lib.hid c6; clear r6 c6 f6)
     go_roundw
     case rel => exact ⟨n, by omega, rfl, by rw [HNX.out]; exact R6.out, HCI.out.trans C6.out (fun j hj => Or.inr (by rw [HKR.out.foot] at hj; exact (HKR.out.low j hj).1))⟩
     case measure => simp [intOf]
    have e : m = 0 := by omega
    subst e
    rw [show (((0 : Nat) : Int) - 1) = -1 by omega]
    rw [List.drop_zero] at HKR hkl ⊢
    obtain ⟨M, hM⟩ : ∃ M, T.reverse = M := ⟨_, rfl⟩
    rw [hM] at HKR hkl HMS ⊢
    have HRO3 := Lib.hid (HRO.out.chg HCI.out (by simp) (by simp))
    have HX := Lib.hid (row_below HRO.out)
    obtain ⟨g5, q5, w5, hr5, hro5, hc5, -⟩ := run_row HRO3.out (by have := HB.out; have := HBI.out; omega) HKR.out HB.out HX.out (by have := HN.out; omega) (Or.inl rfl) 28
    rw [HN.out] at hr5 hro5 hc5
    have HRO5 := Lib.hid hro5
    have HC5 := Lib.hid ((HC.out.trans HCI.out (by simp)).trans hc5 (fun j hj => Or.inr (by have := HRO3.out.out.lt j (by rw [HN.out]; simpa using hj); exact this.1)))
    have HS5 := Lib.hid (show ∀ l ∈ (turn.take (k + 1)).map List.reverse, (∀ x ∈ l, I64 x) ∧ l.length < 4294967296 from fun l hl => by
     rw [HMS.out, List.mem_append] at hl
     rcases hl with q | q
     ·exact hsm.out l q
     rw [List.mem_singleton.1 q]; exact HKR.out.2)
    clear hro5 hc5 hM h0 x0 x1 y0 y1 z0 z1 hsz
    go_wp2_with (at_builtin; refine wl_apprun rfl _ _ 28 rfl rfl rfl hr5 ?_)
    go_roundw
    case rel => exact ⟨k + 1, _, by omega, by go_num, by rw [HMS.out]; exact HRO5.out, HS5, HC5.out⟩
    case measure => simp [intOf]; omega
  have e : k = turn.length := by omega
  subst e
  rw [List.take_length, HRT.out] at HRO hsm
  obtain ⟨RT, hRTe⟩ : ∃ RT, Plain.revTurn turn = RT := ⟨_, rfl⟩
  rw [hRTe] at HRO hsm HFM HRV HRW HVL
  have HLR := Lib.hid (show RT.length = turn.length by rw [← hRTe]; unfold Plain.revTurn; rw [List.length_map])
  have HRD := Lib.hid (HRO.out.read hsm.out)
  have HRLR := Lib.hid (fun i => (show (RT.getD i []).length < 1000000000 by
   have h := HRL.out i
   rw [← hRTe]
   unfold Plain.revTurn List.getD
   rw [List.getElem?_map]
   revert h
   unfold List.getD
   cases turn[i]? <;> simp))
  have hs2 : ∀ l ∈ RT.map Plain.first, (∀ x ∈ l, I64 x) ∧ l.length < 4294967296 := fun l hl => by
   obtain ⟨r, hr, rfl⟩ := List.mem_map.1 hl
   exact ⟨fun x hx => (hsm.out r hr).1 x ((Plain.first_perm r).mem_iff.1 hx), by rw [(Plain.first_perm r).length_eq]; exact (hsm.out r hr).2⟩
  rw [HFM.out] at hs2
  have HS2 := Lib.hid hs2
  clear hro hc hRTe hs2
  rw [hvl] at HRD ⊢
  rename World => wa
  go_wp2_with fail
  refine (refFirsts_any _ RT _ (by have := HLR.out; omega) HRLR.out HRD.out).mono ?_
  rintro e w2 ⟨ov, vs2, rfl, hro2, -, hc2⟩
  rw [HFM.out] at hro2
  clear x0 x1 y0 y1 z0 z1 hsz
  have hl2 := hro2.len
  obtain ⟨fo, fc, rfl⟩ := owns_shape hro2.out
  obtain ⟨MT, hMT⟩ : ∃ MT, Plain.mirTurn turn = MT := ⟨_, rfl⟩
  have HMT := Lib.hid hMT
  rw [hMT] at hro2 hl2 HS2
  rw [hl2] at hro2 ⊢
  have HPV := Lib.hid (PlanVar.madeT hro2 HS2.out)
  have hac : Chg [] w2 (w2.alloc (.cells #[.slice fo MT.length fc, .slice none 0 0] 30)) := (Chg.refl [] w2).alloc _
  have HSB := Lib.hid (show (w2.alloc (.cells #[.slice fo MT.length fc, .slice none 0 0] 30)).heap.size = w2.heap.size + 1 by simp)
  have HCA3 := Lib.hid (hc2.trans hac (by simp))
  have HPB := Lib.hid (show wa.heap.size ≤ w2.heap.size from hc2.size)
  obtain ⟨x0, x1, y0, y1, z0, z1, hsz⟩ := HBX.out _ (HC.out.trans HCA3.out (by simp))
  have z0n := fun o => cellNew z0 o
  clear hro2 hl2 hMT hc2 hac hvl hlt hk
  go_wp2_with fail
  clear z0n
  obtain ⟨pb, hpb⟩ : ∃ b, w2.heap.size = b := ⟨_, rfl⟩
  rw [hpb] at HPV HSB HPB ⊢
  clear hpb
  generalize (w2.alloc (.cells #[.slice fo MT.length fc, .slice none 0 0] 30)) = w3 at *
  have HC13 := Lib.hid (HC.out.trans HCA3.out (by simp))
  refine (refWalks_any _ _ _ g p RT _ (by omega) (by omega) HPE.out HRV.out HVL.out (HG.out.fresh (HW.out _ HC13.out)) (HP.out.fresh (HW.out _ HC13.out)) (HRD.out.fresh HCA3.out)).mono ?_
  rintro e w4 ⟨wov, xs, rfl, hnw, hc4⟩
  rw [HRW.out] at hnw
  have HNW := Lib.hid hnw
  obtain ⟨wo, wcp, rfl⟩ := hnw.shape
  have HPV4 := Lib.hid ((HPV.out.fresh hc4).up (Nat.le_refl _))
  have HCA4 := Lib.hid (HCA3.out.trans hc4 (by simp))
  have HPB4 := Lib.hid (show pb + 1 ≤ w4.heap.size by have := hc4.size; have := HSB.out; omega)
  clear x0 x1 y0 y1 z0 z1 hsz hnw hc4
  go_wp2
  go_loopw [13] (fun c wr => ∃ i : Nat, i ≤ W.length ∧ c = .int .i64 i ∧ PlanVar wr pb wa.heap.size wr.heap.size MT (Plain.mirTo W same i) ∧ Nest wr w3.heap.size 93 2 (.slice wo W.length wcp) W.length xs (faceCells W) ∧ Chg [] wa wr) (fun c _ => W.length - (intOf c).toNat)
  case atStart => exact ⟨0, Nat.zero_le _, rfl, HPV4.out, HNW.out, HCA4.out⟩
  case round =>
   obtain ⟨i, hi, rfl, hpv, hnw, hc⟩ := hrel
   have HV := Lib.hid hpv
   have HN := Lib.hid hnw
   have HCR := Lib.hid hc
   clear hpv hnw hc
   by_cases hlt : i < W.length
   ·obtain ⟨wg, wcc, ga, gc, ewo, m0, m1, ur⟩ := nest_face HN.out rfl hlt
    simp only [Value.slice.injEq] at ewo
    obtain ⟨rfl, -, rfl⟩ := ewo
    have HMN := Lib.hid (Plain.mirTo_next W same hlt)
    have hml0 := Plain.mirTo_len W same i
    have hmb : i * same.length ≤ 3000 * 1000 := Nat.mul_le_mul (by omega) hsl
    obtain ⟨f, hf⟩ : ∃ f, W.getD i (0, []) = f := ⟨_, rfl⟩
    rw [hf] at HMN
    have HF := Lib.hid hf
    obtain ⟨Q0, hQ0⟩ : ∃ Q, Plain.mirTo W same i = Q := ⟨_, rfl⟩
    rw [hQ0] at HMN HV hml0
    have hql : Q0.length ≤ 3000000 := by omega
    clear m0 m1 ur hf hQ0 hml0 hmb
    go_wp2
    go_loopw [14] (fun c wi => ∃ k : Nat, k ≤ same.length ∧ c = .int .i64 k ∧ PlanVar wi pb wa.heap.size wi.heap.size MT (Q0 ++ Plain.mirIn W f same k) ∧ Nest wi w3.heap.size 93 2 (.slice (some ⟨wg, 0, none⟩) W.length wcp) W.length xs (faceCells W) ∧ Chg [] wa wi) (fun c _ => same.length - (intOf c).toNat)
    case atStart => exact ⟨0, Nat.zero_le _, rfl, by simpa [Plain.mirIn] using HV.out, HN.out, HCR.out⟩
    case round =>
     rename World => wi
     clear HV HN
     obtain ⟨k, hk, rfl, hpv, hnw, hc⟩ := hrel
     have HVI := Lib.hid hpv
     have HNI := Lib.hid hnw
     have HCI := Lib.hid hc
     have HC1I := Lib.hid (HC.out.trans hc (by simp))
     have HBI := Lib.hid (show pb < wi.heap.size from hpv.lt)
     obtain ⟨x0, x1, y0, y1, z0, z1, hsz⟩ := HBX.out _ HC1I.out
     clear hpv hnw hc
     by_cases hlk : k < same.length
     ·obtain ⟨sb, soff, suo, suc, rfl, scell, hrow⟩ := (HS.out.fresh (HW.out _ HC1I.out)).row hlk
      have HMI := Lib.hid (Plain.mirIn_next W f hlk)
      have hmil := Plain.mirIn_len W f same k
      have hSl := HSR.out k
      have HKI := Lib.hid (HKS.out _ (show same.getD k [] ∈ same by simp [List.getD, hlk]))
      obtain ⟨S, hS⟩ : ∃ S, same.getD k [] = S := ⟨_, rfl⟩
      rw [hS] at scell hrow HMI hSl HKI
      have HROW := Lib.hid hrow
      have HSC := Lib.hid scell
      obtain ⟨Q1, hQ1⟩ : ∃ Q, Plain.mirIn W f same k = Q := ⟨_, rfl⟩
      rw [hQ1] at HMI HVI hmil
      have hq1 : (Q0 ++ Q1).length < 1000000000 := by rw [List.length_append]; omega
      clear hrow hS hQ1 hmil
      go_wp2
      clear x0 x1 y0 y1 z0 z1 hsz scell
      go_loopw [15, 16] (fun lv c wj => ∃ j : Nat, j ≤ W.length ∧ c = .int .i64 j ∧ RowAt wj wi.heap.size lv (Plain.lkTo W S j) ∧ Chg [] wi wj) (fun _ c _ => W.length - (intOf c).toNat)
      case atStart => exact ⟨0, Nat.zero_le _, rfl, by simpa [Plain.lkTo] using rowNil' _ _, Chg.refl _ _⟩
      case round =>
       rename World => wj
       obtain ⟨j, hj, rfl, hkr, hcj⟩ := hrel
       have HKR := Lib.hid hkr
       have HCJ := Lib.hid hcj
       obtain ⟨lo, lc, rfl⟩ := hkr.shape
       clear hkr hcj
       by_cases hlj : j < W.length
       ·obtain ⟨wg', wcc', ga, gc, ewo, m0, m1, ur⟩ := nest_face HNI.out rfl hlj
        cases ewo
        have HLN := Lib.hid (Plain.lkTo_next S hlj)
        have hlb := Plain.lkTo_len W S j
        have hlb2 : j * S.length ≤ 3000 * 1000 := Nat.mul_le_mul (by omega) hSl
        obtain ⟨hnat, hk1, hk2⟩ := HNAT.out _ (show W.getD j (0, []) ∈ W by simp [List.getD, hlj])
        obtain ⟨fj, hfj⟩ : ∃ fj, W.getD j (0, []) = fj := ⟨_, rfl⟩
        rw [hfj] at HLN m0 m1 ur hk1 hk2
        obtain ⟨ky, ds⟩ := fj
        dsimp only at m0 m1 ur hk1 hk2
        have HUR := Lib.hid ur
        have HM0 := Lib.hid m0
        have HM1 := Lib.hid m1
        have IK : I64 ky := I64.mk (by omega) (by omega)
        obtain ⟨Q2, hQ2⟩ : ∃ Q, Plain.lkTo W S j = Q := ⟨_, rfl⟩
        rw [hQ2] at HLN HKR hlb ⊢
        have hq2 : Q2.length ≤ 3000000 := by omega
        clear m0 m1 ur hfj hQ2 hlb hlb2 hnat
        go_wp2
        go_loopw [15, 17] (fun lv c wn => ∃ n : Nat, n ≤ S.length ∧ c = .int .i64 n ∧ RowAt wn wi.heap.size lv (Q2 ++ Plain.lkIn (ky, ds) S n) ∧ Chg [] wi wn) (fun _ c _ => S.length - (intOf c).toNat)
        case atStart => exact ⟨0, Nat.zero_le _, rfl, by simpa [Plain.lkIn] using HKR.out, HCJ.out⟩
        case round =>
         rename World => wn
         clear HKR
         obtain ⟨n, hn, rfl, hkr, hcn⟩ := hrel
         have HKR := Lib.hid hkr
         have HCN := Lib.hid hcn
         have HBN := Lib.hid (show wi.heap.size ≤ wn.heap.size from hcn.size)
         obtain ⟨lo, lc, rfl⟩ := hkr.shape
         obtain ⟨x0, x1, y0, y1, z0, z1, hsz⟩ := HBX.out _ (HC1I.out.trans hcn (by simp))
         have scell := hcn.cell HSC.out (by simp)
         have hil := Plain.lkIn_len (ky, ds) S n
         have hkl : (Q2 ++ Plain.lkIn (ky, ds) S n).length < 4294967290 := by rw [List.length_append]; omega
         clear hkr hcn
         by_cases hln : n < S.length
         ·obtain ⟨rb, roff, rfl, rc⟩ := IntsAt.cellAt HROW.out hln
          have rcell := HCN.out.cell rc (by simp)
          have hkv := HKI.out _ (Plain.getD_mem hln)
          have HNX := Lib.hid (Plain.lkIn_next (ky, ds) hln)
          have HHIT := Lib.hid (show Plain.hitM (ky, ds) (S.getD n 0) = (decide (ky = Plain.tau (S.getD n 0)) || decide (Plain.tau (S.getD n 0) ∈ ds)) from rfl)
          obtain ⟨kv, hkve⟩ : ∃ kv, S.getD n 0 = kv := ⟨_, rfl⟩
          rw [hkve] at rcell hkv HNX HHIT
          obtain ⟨M, hM⟩ : ∃ M, Q2 ++ Plain.lkIn (ky, ds) S n = M := ⟨_, rfl⟩
          have HM := Lib.hid hM
          rw [hM] at HKR hkl ⊢
          have k0 := HCN.out.cell HM0.out (by simp)
          have k1 := HCN.out.cell HM1.out (by simp)
          have K0 := Lib.hid k0
          have K1 := Lib.hid k1
          clear rc hkve hM hil k0 k1
          go_upto_if 97 with fail
          go_cut [18] (fun v wc => v = .int .i64 (Plain.tau kv) ∧ Chg [] wn wc)
          case first =>
           by_cases h0 : kv < 0
           ·have b0 : decide (kv ≥ 0) = false := decide_eq_false (by omega)
            have ht : Plain.tau kv = kv := if_pos h0
            go_wp2
            go_meet
            case rel => exact ⟨by rw [ht], Chg.refl _ _⟩
           have b0 : decide (kv ≥ 0) = true := decide_eq_true (by omega)
           have ht : Plain.tau kv = Plain.twin kv := if_neg h0
           have HTAU := Lib.hid ht
           obtain ⟨nk, rfl⟩ : ∃ nk : Nat, kv = nk := ⟨kv.toNat, by omega⟩
           clear ht h0
           go_wp2_with fail
           refine (twin_any nk _ (by omega)).mono ?_
           rintro e w9 ⟨rfl, rfl⟩
           rw [← HTAU.out]
           go_wp2
           go_meet
           case rel => exact ⟨rfl, Chg.refl _ _⟩
          case rest =>
           obtain ⟨rfl, hcc⟩ := hcut
           have HCC := Lib.hid (HCN.out.trans hcc (by simp))
           have HKC := Lib.hid (HKR.out.chg hcc (by simp))
           have HBC2 := Lib.hid (show wi.heap.size ≤ wc.heap.size from HCC.out.size)
           have k0 := hcc.cell K0.out (by simp)
           have k1 := hcc.cell K1.out (by simp)
           obtain ⟨tk, htk⟩ : ∃ tk, Plain.tau kv = tk := ⟨_, rfl⟩
           rw [htk] at HHIT ⊢
           clear hcc htk x0 x1 y0 y1 z0 z1 hsz scell rcell
           by_cases he : ky = tk
           ·have b0 : (ky == tk) = true := by rw [beq_iff_eq]; exact he
            have HS1 := Lib.hid (show Q2 ++ Plain.lkIn (ky, ds) S (n + 1) = M ++ [ky] by rw [HNX.out, if_pos (by rw [HHIT.out, decide_eq_true he]; rfl), ← HM.out, List.append_assoc])
            clear he
            go_wp2_with (at_builtin; refine wl_push rfl _ _ rfl (B := wi.heap.size) (v := .slice lo _ lc) rfl rfl HKC.out IK HBC2.out hkl rfl ?_; intro v6 w6 r6 c6 f6; have R6 := Lib.hid r6; have C6 := Lib.hid c6; clear r6 c6 f6)
            go_roundw
            case rel => exact ⟨n + 1, by omega, by go_num, by rw [HS1.out]; exact R6.out, HCC.out.trans C6.out (fun j hj => Or.inr (by rw [HKC.out.foot] at hj; exact (HKC.out.low j hj).1))⟩
            case measure => simp [intOf]; omega
           have b0 : (ky == tk) = false := by rw [beq_eq_false_iff_ne]; exact he
           have HURN := Lib.hid ((HUR.out.chg HCC.out (by simp)).ints)
           have HNE := Lib.hid he
           clear he
           go_wp2_with fail
           refine (in_any _ ds tk _ HURN.out).mono ?_
           rintro e w9 ⟨rfl, hc9⟩
           have HC9 := Lib.hid (HCC.out.trans hc9 (by simp))
           have HK9 := Lib.hid (HKC.out.chg hc9 (by simp))
           have HB9 := Lib.hid (show wi.heap.size ≤ w9.heap.size from HC9.out.size)
           have k0 := hc9.cell k0 (by simp)
           have k1 := hc9.cell k1 (by simp)
           clear hc9
           by_cases hin : tk ∈ ds
           ·have HS1 := Lib.hid (show Q2 ++ Plain.lkIn (ky, ds) S (n + 1) = M ++ [ky] by rw [HNX.out, if_pos (by rw [HHIT.out, decide_eq_true hin]; simp), ← HM.out, List.append_assoc])
            rw [decide_eq_true hin]
            clear hin
            go_wp2_with (at_builtin; refine wl_push rfl _ _ rfl (B := wi.heap.size) (v := .slice lo _ lc) rfl rfl HK9.out IK HB9.out hkl rfl ?_; intro v6 w6 r6 c6 f6; have R6 := Lib.hid r6; have C6 := Lib.hid c6; clear r6 c6 f6)
            go_roundw
            case rel => exact ⟨n + 1, by omega, by go_num, by rw [HS1.out]; exact R6.out, HC9.out.trans C6.out (fun j hj => Or.inr (by rw [HK9.out.foot] at hj; exact (HK9.out.low j hj).1))⟩
            case measure => simp [intOf]; omega
           have HS1 := Lib.hid (show Q2 ++ Plain.lkIn (ky, ds) S (n + 1) = M by rw [HNX.out, if_neg (by rw [HHIT.out, decide_eq_false hin, decide_eq_false HNE.out]; simp), ← HM.out, List.append_nil])
           rw [decide_eq_false hin]
           clear hin k0 k1
           go_wp2
           go_roundw
           case rel => exact ⟨n + 1, by omega, by go_num, by rw [HS1.out]; exact HK9.out, HC9.out⟩
           case measure => simp [intOf]; omega
         have e : n = S.length := by omega
         subst e
         rw [← HLN.out] at HKR ⊢
         clear hil hkl hln hn
         go_wp2
         go_roundw
         case rel => exact ⟨j + 1, by omega, by go_num, HKR.out, HCN.out⟩
         case measure => simp [intOf]; omega
       have e : j = W.length := by omega
       subst e
       rw [Plain.lkTo_all] at HKR ⊢
       obtain ⟨M, hM⟩ : ∃ M, Plain.lkM W S = M := ⟨_, rfl⟩
       rw [hM] at HMI HKR ⊢
       obtain ⟨wg', wcc', ga, gc, ewo, m0, m1, ur⟩ := nest_face HNI.out rfl hlt
       cases ewo
       rw [HF.out] at m0
       have ki0 := HCJ.out.cell m0 (by simp)
       obtain ⟨ki, hki⟩ : ∃ ki, f.1 = ki := ⟨_, rfl⟩
       rw [hki] at ki0 HMI
       clear m0 m1 ur hM hki hlj hj
       by_cases h1 : 0 < M.length
       ·have bl : decide ((M.length : Int) > 0) = true := decide_eq_true (by omega)
        obtain ⟨lg, rfl, hlc⟩ := HKR.out.some (by omega)
        have l0 := hlc 0 (by omega)
        obtain ⟨q0, hq0⟩ : ∃ q0, M.getD 0 0 = q0 := ⟨_, rfl⟩
        rw [hq0] at l0 HMI
        clear hlc hq0
        go_wp2
        have hS0 : Chg [] wj wj.drew := (Chg.refl [] wj).drew
        refine wp_region_way (Chg [] wj) [0, 1, 2, 3, 4, 5, 6, 7, 8, 9, 10, 11, 12, 13] (Way.line [0, 1, 2, 3, 4, 5, 6, 7, 8, 9, 10, 11, 12, 13] .done) (by kernel_rfl) (by kernel_rfl) ?_
        simp only [Way.line]
        repeat
         first
          | (refine along_off rfl (by rfl) (by rfl) (fun _ _ _ h => h) hS0 ?_; simp only [Act.put, Z1, Z2, Z3, Z4, Z5, Z6])
          | (refine along_read (v := ?_) rfl (by rfl) (by rfl) (fun _ _ _ h => h) hS0 (fun w' hS' => ?_) ?_; rotate_left; (focus (have rd0 := hS'.cell l0 (by simp); have rd1 := hS'.cell ki0 (by simp); clear hS'; go_simp; try with_reducible rfl)); simp only [Act.put, Z1, Z2, Z3, Z4, Z5, Z6])
          | (refine along_skip rfl (by rfl) (by rfl) hS0 ?_; simp only [Act.put, Z1, Z2, Z3, Z4, Z5, Z6])
        refine along_done ?_
        have HC8 := Lib.hid (HCJ.out.trans hS0 (by simp))
        have HKR8 := Lib.hid (HKR.out.chg hS0 (by simp))
        have HB8 := Lib.hid (Nat.le_trans HCJ.out.size hS0.size)
        clear hS0 l0 ki0
        generalize wj.drew = wd at *
        by_cases h2 : q0 = ki
        ·have b2 : (q0 == ki) = true := by rw [beq_iff_eq]; exact h2
         have HS1 := Lib.hid (show Q0 ++ Plain.mirIn W f same (k + 1) = (Q0 ++ Q1) ++ [M] by rw [HMI.out, if_pos ⟨h1, h2⟩, List.append_assoc])
         have HVD := Lib.hid (HVI.out.fresh HC8.out)
         have HND := Lib.hid (HNI.out.fresh HC8.out)
         obtain ⟨C, hC⟩ : ∃ C, Q0 ++ Q1 = C := ⟨_, rfl⟩
         rw [hC] at HS1 HVD hq1
         obtain ⟨a1, c1, a2, c2, -, p1⟩ := HVD.out.cells
         have P1 := Lib.hid p1
         have HBA := Lib.hid (show wa.heap.size ≤ wi.heap.size from HCI.out.size)
         clear h1 h2 bl hC
         obtain ⟨g5, q5, w5, hr5, hf5, ⟨u5, hu5⟩, hv5, own5, hc5, ho5⟩ := HVD.out.push1 (by have := HBA.out; have := HB8.out; omega) HKR8.out HBA.out hq1 (Or.inl rfl) P1.out 28
         have HV5 := Lib.hid hv5
         have HC5 := Lib.hid hc5
         have HO5 := Lib.hid ho5
         clear hv5 hc5 ho5
         go_wp2_with (at_builtin; refine wl_apprun rfl _ _ 28 rfl rfl rfl hr5 ?_)
         clear hf5 hu5 hr5 p1
         generalize (w5.setCell ⟨pb, 1, none⟩ (.slice (some ⟨g5, 0, none⟩) (C.length + 1) q5)) = w6 at *
         have hkd : ∀ j ∈ own5, ∀ cs t r, wd.heap[j]? = some (.cells cs t r) → t = 30 ∨ t = 25 := fun j hj cs t r h => (HO5.out j hj).elim (fun e => by
          obtain ⟨o1, v1, o2, v2, hh, -⟩ := HVD.out.ex
          rw [e, hh] at h
          simp at h
          exact Or.inl h.2.1.symm) (fun ⟨_, cs2, r2, h2⟩ => by rw [h2] at h; simp at h; exact Or.inr h.2.1.symm)
         have hnn := HND.out.other HC5.out (fun j hj cs t r h => by rcases hkd j hj cs t r h with e | e <;> (rw [e]; exact ⟨by decide, by decide⟩))
         have HC6 := Lib.hid (show Chg [] wa w6 from HCI.out.trans ((HC8.out.mono (by simp)).trans HC5.out (fun j hj => Or.inl hj) : Chg own5 wi w6) (fun j hj => Or.inr ((HO5.out j hj).elim (fun e => by rw [e]; exact HPB.out) (fun h => h.1))))
         go_roundw
         case rel => exact ⟨k + 1, by omega, by go_num, by rw [HS1.out]; exact HV5.out.up (Nat.le_refl _), hnn, HC6.out⟩
         case measure => simp [intOf]; omega
        have b2 : (q0 == ki) = false := by rw [beq_eq_false_iff_ne]; exact h2
        have HS1 := Lib.hid (show Q0 ++ Plain.mirIn W f same (k + 1) = Q0 ++ Q1 by rw [HMI.out, if_neg (fun h => h2 h.2), List.append_nil])
        clear h1 h2 bl
        go_wp2
        go_roundw
        case rel => exact ⟨k + 1, by omega, by go_num, by rw [HS1.out]; exact (HVI.out.fresh HC8.out).up (Nat.le_refl _), HNI.out.fresh HC8.out, HCI.out.trans HC8.out (by simp)⟩
        case measure => simp [intOf]; omega
       have HS1 := Lib.hid (show Q0 ++ Plain.mirIn W f same (k + 1) = Q0 ++ Q1 by rw [HMI.out, if_neg (fun h => h1 h.1), List.append_nil])
       obtain rfl : M = [] := List.length_eq_zero_iff.1 (by omega)
       clear h1 ki0
       go_wp2
       have hS0 : Chg [] wj wj.drew := (Chg.refl [] wj).drew
       refine wp_region_way (Chg [] wj) [0, 1, 2, 3, 4, 5, 6, 7, 8, 9, 10, 11, 12, 13] (Way.line [0, 1, 2, 3, 4, 5, 6, 7, 8, 9, 10, 11, 12, 13] .done) (by kernel_rfl) (by kernel_rfl) ?_
       simp only [Way.line]
       repeat
        first
         | (refine along_off rfl (by rfl) (by rfl) (fun _ _ _ h => h) hS0 ?_; simp only [Act.put, Z1, Z2, Z3, Z4, Z5, Z6])
         | (refine along_read (v := ?_) rfl (by rfl) (by rfl) (fun _ _ _ h => h) hS0 (fun w' hS' => ?_) ?_; rotate_left; (focus (skip; clear hS'; go_simp; try with_reducible rfl)); simp only [Act.put, Z1, Z2, Z3, Z4, Z5, Z6])
         | (refine along_skip rfl (by rfl) (by rfl) hS0 ?_; simp only [Act.put, Z1, Z2, Z3, Z4, Z5, Z6])
       refine along_done ?_
       have HC8 := Lib.hid (HCJ.out.trans hS0 (by simp))
       clear hS0
       generalize wj.drew = wd at *
       go_wp2
       go_roundw
       case rel => exact ⟨k + 1, by omega, by go_num, by rw [HS1.out]; exact (HVI.out.fresh HC8.out).up (Nat.le_refl _), HNI.out.fresh HC8.out, HCI.out.trans HC8.out (by simp)⟩
       case measure => simp [intOf]; omega
     have e : k = same.length := by omega
     subst e
     rw [← HMN.out] at HVI
     clear x0 x1 y0 y1 z0 hsz hlk hk
     go_wp2
     go_roundw
     case rel => exact ⟨i + 1, by omega, by go_num, HVI.out, HNI.out, HCI.out⟩
     case measure => simp [intOf]; omega
   have e : i = W.length := by omega
   subst e
   rw [Plain.mirTo_all, HSM.out] at HV
   obtain ⟨SS, hSS⟩ : ∃ SS, Plain.mirSame g p turn same = SS := ⟨_, rfl⟩
   have HSS := Lib.hid hSS
   rw [hSS] at HV
   obtain ⟨a1, c1, a2, c2, p0, p1⟩ := HV.out.cells
   have P0 := Lib.hid p0
   have P1 := Lib.hid p1
   have HC1R := Lib.hid (HC.out.trans HCR.out (by simp))
   have hr8 := HRES.out _ HC1R.out
   have HR8 := Lib.hid hr8
   have r0 := (cell_of_row _ _ 0 _ _ _ hr8).trans (show _ = some (Value.slice none 0 0) from rfl)
   have r1 := (cell_of_row _ _ 1 _ _ _ hr8).trans (show _ = some (Value.slice none 0 0) from rfl)
   have f0 := free_at hr8 0
   have f1 := free_at hr8 1
   have HSZS := Lib.hid (show w.heap.size + 3 < wa.heap.size by have := HSZ1.out; have := HC.out.size; omega)
   have HWC := Lib.hid (HW.out _ HC1R.out)
   have HPBA := Lib.hid HPB.out
   clear hr8 hlt hSS
   go_wp2
   obtain ⟨o0, o1, o2⟩ := out_store HR8.out (.slice a1 MT.length c1) (.slice a2 SS.length c2)
   have hfin := (HV.out.low o2 (fun j hj => by have : j = w.heap.size + 3 := (by simpa using hj); have := HSZS.out; have := HPBA.out; omega)).readAt (o2.cell P0.out (by have := HSZS.out; have := HPBA.out; simp; omega)) (o2.cell P1.out (by have := HSZS.out; have := HPBA.out; simp; omega))
   refine bodyPost_ret (v := .agg #[.slice a1 MT.length c1, .slice a2 SS.length c2]) (by simp [results, Tryz.results15, go_sem, o0, o1]) rfl ?_
   exact ⟨_, rfl, by rw [HMT.out, HSS.out]; exact hfin, HWC.out.trans o2 (fun j hj => Or.inr (by simp at hj; omega))⟩
end Go.Proofs.YtednbiophjndpaaGreat
