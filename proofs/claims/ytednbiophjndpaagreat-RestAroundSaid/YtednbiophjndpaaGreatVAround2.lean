/- ref09.Around whole; slices.Compact at a row; rest.Around: contracts. Conditions: a graph, a part, a plan that lie in memory and read so, of a bounded size. -/
import Derived.Test.YtednbiophjndpaaGreatVMirK
import Derived.Test.YtednbiophjndpaaGreatVMerge
import Derived.Test.YtednbiophjndpaaGreatVAwk09
import Derived.Test.YtednbiophjndpaaGreatVRef8W
namespace Go.Proofs.YtednbiophjndpaaGreat
open Go.RowKit Go.Maps
namespace Plain
theorem orL_len (a b : List Int) : (orL a b).length ≤ a.length + b.length := by rw [← mergeL_one]; exact mergeL_len true a b
theorem around_iff {g : Gr} {p : Pt} {turn : List (List Int)} (ht : TurnsOk g p turn) {v : Int} (h0 : 0 ≤ v) (hn : v < g.n) (L : Int → Option Int) (r : Int) : aroundAt g p L v r ↔ r ∈ (if turnAt turn v = [] then [lf L (-1 - v)] else (turnAt turn v).map (lf L)) := by
 have hm : ∀ d, d ∈ dartsAt g p v ↔ d ∈ turnAt turn v := fun d => by rw [mem_dartsAt, ht.mem v h0 hn d]
 unfold aroundAt
 by_cases h : turnAt turn v = []
 ·rw [if_pos h, List.mem_singleton]
  have hd : dartsAt g p v = [] := List.eq_nil_iff_forall_not_mem.2 fun d hd => by rw [hm, h] at hd; simp at hd
  rw [hd]; simp
 rw [if_neg h, List.mem_map]
 have hd : dartsAt g p v ≠ [] := fun e => h (List.eq_nil_iff_forall_not_mem.2 fun d hd => by rw [← hm, e] at hd; simp at hd)
 constructor
 ·rintro (⟨d, hd1, q⟩ | ⟨q, -⟩)
  ·exact ⟨d, (hm d).1 hd1, q.symm⟩
  exact absurd q hd
 rintro ⟨d, hd1, q⟩
 exact Or.inl ⟨d, (hm d).2 hd1, q.symm⟩
theorem compact_upTo {d : Array Int} (hs : ∀ i j, i < j → j < d.size → d[i]! ≤ d[j]!) : ∀ m, m ≤ d.size → (Go.Lib.compactUpTo d m).Pairwise (· < ·) ∧ ∀ x, x ∈ Go.Lib.compactUpTo d m ↔ ∃ j, j < m ∧ x = d[j]!
 | 0, _ => by simp [Go.Lib.compactUpTo]
 | m + 1, hm => by
  obtain ⟨h1, h2⟩ := compact_upTo hs m (by omega)
  rw [Go.Lib.compactUpTo_succ]
  by_cases hk : Go.Lib.keeps d m = true
  ·rw [if_pos hk]
   have hk2 : m = 0 ∨ d[m]! ≠ d[m - 1]! := of_decide_eq_true hk
   refine ⟨List.pairwise_append.2 ⟨h1, List.pairwise_singleton _ _, fun a ha b hb => ?_⟩, fun x => ?_⟩
   ·obtain ⟨j, hj, rfl⟩ := (h2 a).1 ha
    rw [List.mem_singleton.1 hb]
    have hm1 : d[j]! ≤ d[m - 1]! := by
     by_cases e : j = m - 1
     ·rw [e]; exact Int.le_refl _
     exact hs j (m - 1) (by omega) (by omega)
    have hm2 := hs (m - 1) m (by omega) (by omega)
    have := hk2.resolve_left (by omega)
    omega
   rw [List.mem_append, h2, List.mem_singleton]
   constructor
   ·rintro (⟨j, hj, q⟩ | q)
    ·exact ⟨j, by omega, q⟩
    exact ⟨m, by omega, q⟩
   rintro ⟨j, hj, q⟩
   by_cases e : j = m
   ·rw [e] at q; exact Or.inr q
   exact Or.inl ⟨j, by omega, q⟩
  rw [if_neg hk, List.append_nil]
  have hk2 : ¬ (m = 0 ∨ d[m]! ≠ d[m - 1]!) := fun h => hk (decide_eq_true h)
  refine ⟨h1, fun x => ?_⟩
  rw [h2]
  constructor
  ·rintro ⟨j, hj, q⟩; exact ⟨j, by omega, q⟩
  rintro ⟨j, hj, q⟩
  by_cases e : j = m
  ·refine ⟨m - 1, by omega, ?_⟩
   rw [q, e]
   exact Classical.byContradiction fun h => hk2 (Or.inr h)
  exact ⟨j, by omega, q⟩
def tidy (l : List Int) : List Int := Go.Lib.compact (l.mergeSort fun x y => decide (x ≤ y))
theorem tidy_ok (l : List Int) : (tidy l).Pairwise (· < ·) ∧ ∀ x, x ∈ tidy l ↔ x ∈ l := by
 have hsort : (l.mergeSort fun x y => decide (x ≤ y)).Pairwise (· ≤ ·) := by
  have := List.pairwise_mergeSort (le := fun x y : Int => decide (x ≤ y)) (fun a b c h1 h2 => by simp only [decide_eq_true_eq] at *; omega) (fun a b => by simp only [Bool.or_eq_true, decide_eq_true_eq]; omega) l
  exact this.imp fun h => of_decide_eq_true h
 have hm : ∀ x, x ∈ (l.mergeSort fun x y => decide (x ≤ y)) ↔ x ∈ l := fun x => (List.mergeSort_perm _ _).mem_iff
 unfold tidy
 revert hsort hm
 generalize (l.mergeSort fun x y => decide (x ≤ y)) = s
 intro hsort hm
 have hat : ∀ i, i < s.length → s.toArray[i]! = s.getD i 0 := fun i hi => by simp [List.getD, hi, getElem!_pos]
 obtain ⟨h1, h2⟩ := compact_upTo (d := s.toArray) (fun i j hij hj => by
  have hj : j < s.length := by simpa using hj
  rw [hat i (by omega), hat j hj]
  have := List.pairwise_iff_getElem.1 hsort i j (by omega) hj hij
  simpa [List.getD, hj, (by omega : i < s.length)] using this) s.length (by simp)
 refine ⟨h1, fun x => ?_⟩
 rw [← hm]
 unfold Go.Lib.compact
 rw [h2]
 constructor
 ·rintro ⟨j, hj, q⟩
  rw [q, hat j hj]; exact getD_mem hj
 intro hx
 obtain ⟨j, hj, e⟩ := mem_getD hx
 exact ⟨j, hj, by rw [hat j hj, e]⟩
end Plain
set_option maxRecDepth 100000 in
set_option maxHeartbeats 4000000 in
theorem refAroundL_any (vg vp vx : Value) (g : Plain.Gr) (p : Plain.Pt) (turn same : List (List Int)) (v : Int) (w : World) (hpl : p.e.length ≤ 1000) (hpv : p.v.length ≤ 1000) (hrl : ∀ v, (Plain.turnAt turn v).length < 4294967296) (hsl : same.length ≤ 10000) (hz : Plain.planErr g p turn same = 0) (hv : v ∈ p.v) (hg : GrAt w vg g) (hp : PtAt w vp p) (hx : PlAt w vx turn same) :
  Calls Tryz.prog 21 #[vg, vp, vx, .int .i64 v] w fun e w' => ∃ ov M, e = .returned ov ∧ RowAt w' w.heap.size ov M ∧ M.Pairwise (· < ·) ∧ (∀ r, r ∈ M ↔ Plain.aroundAt g p (Plain.leftOf (Plain.regionsOf g p turn same) (Plain.walksOf g p turn)) v r) ∧ Chg [] w w' := by
 have HPZ := Lib.hid hz
 have HRL := Lib.hid hrl
 obtain ⟨hpe, hto⟩ := Plain.turnErr_zero (Plain.flatErr_zero (Plain.planErr_zero hz).1).1
 have HPE := Lib.hid hpe
 have hvr := (Plain.Pt.ok_of_err hpe).vr v hv
 have hgn := (Plain.Gr.err_ok (Plain.Pt.err_ok hpe).1).2.1
 have IV : I64 v := I64.mk (by omega) (by omega)
 have wv : IntKind.i64.wrap (-1 - v) = -1 - v := IntWalk.i64_in _ (by omega)
 have HLL := Lib.hid (fun h => Plain.left_lone (turn := turn) (same := same) hz hv h)
 have HLD := Lib.hid (fun d (hd : d ∈ Plain.dartsAt g p v) => Plain.left_dart (turn := turn) (same := same) hz (Plain.mem_dartsAt.1 hd).1)
 have HDN := Lib.hid (fun d (hd : d ∈ Plain.dartsAt g p v) => Plain.Pt.dart_nat hpe (Plain.mem_dartsAt.1 hd).1)
 have HDL := Lib.hid (show (Plain.dartsAt g p v).length ≤ 2000 from by
  have h1 := List.length_filter_le (fun d => decide (g.tail d = v)) p.darts
  have h2 := Plain.darts_length p
  unfold Plain.dartsAt
  omega)
 have HLW := Lib.hid (fun d => Plain.lf_low (W := Plain.walksOf g p turn) (Plain.regs_len hpl hpv hz) d)
 clear hz hrl hpe hto
 have HG := Lib.hid hg
 have HP := Lib.hid hp
 have HX := Lib.hid hx
 obtain ⟨eo, cap, rfl, hn, hm, hsm, hcell⟩ := hg
 obtain ⟨v1, v2, rfl, hv, he⟩ := hp
 obtain ⟨ao, ac, rfl, has, ham, hacell⟩ := hv
 obtain ⟨bo, bc, rfl, hbs, hbm, hbcell⟩ := he
 have HAC := Lib.hid hacell
 have HBC := Lib.hid hbcell
 obtain ⟨t1, t2, rfl, ht, hs⟩ := hx
 have HT := Lib.hid ht
 have HS := Lib.hid hs
 obtain ⟨tno, tc, rfl, htm, -⟩ := ht
 obtain ⟨so, sc, rfl, hsm2, hsc⟩ := hs
 obtain ⟨-, -, hc1⟩ := box_two w #[.int .i64 g.n, .slice eo g.e.length cap] #[.slice ao p.v.length ac, .slice bo p.e.length bc] 24 27
 obtain ⟨-, hc3⟩ := box_three w #[.int .i64 g.n, .slice eo g.e.length cap] #[.slice ao p.v.length ac, .slice bo p.e.length bc] #[.slice tno turn.length tc, .slice so same.length sc] 24 27 30
 have HC1 := Lib.hid (hc1.trans hc3 (by simp))
 have HBXS := Lib.hid (fun w2 h => three_boxes w (g := g) (p := p) (turn := turn) (same := same) (eo := eo) (ao := ao) (bo := bo) (tno := tno) (so := so) (cap := cap) (ac := ac) (bc := bc) (tc := tc) (sc := sc) (w2 := w2) h)
 clear hcell hacell hbcell hsm hbs has hn hc1 hc3 hsc
 obtain ⟨x0, x1, y0, y1, z0, z1, hsz⟩ := HBXS.out _ (Chg.refl _ _)
 go_enter Tryz.func21, Tryz.ntmps21
 go_wp2_with fail
 refine (refDarts_any _ _ g p v _ (by omega) HPE.out (HG.out.fresh HC1.out) (HP.out.fresh HC1.out)).mono ?_
 rintro e w2 ⟨dv, rfl, hdr, hc2⟩
 obtain ⟨w1, hw1⟩ : ∃ w1, (((w.alloc (.cells #[.int .i64 g.n, .slice eo g.e.length cap] 24)).alloc (.cells #[.slice ao p.v.length ac, .slice bo p.e.length bc] 27)).alloc (.cells #[.slice tno turn.length tc, .slice so same.length sc] 30)) = w1 := ⟨_, rfl⟩
 rw [hw1] at HC1 HBXS hc2 hdr
 clear hw1
 have HC2 := Lib.hid hc2
 have HW2 := Lib.hid (HC1.out.trans hc2 (by simp))
 have HBX := Lib.hid (fun wx (hx : Chg [] w2 wx) => HBXS.out wx (HC2.out.trans hx (by simp)))
 have HDR := Lib.hid hdr.ints
 obtain ⟨dO, dc, rfl⟩ := hdr.shape
 obtain ⟨L, hL⟩ : ∃ L, Plain.leftOf (Plain.regionsOf g p turn same) (Plain.walksOf g p turn) = L := ⟨_, rfl⟩
 have HLE := Lib.hid hL
 rw [hL] at HLW
 obtain ⟨D, hD⟩ : ∃ D, Plain.dartsAt g p v = D := ⟨_, rfl⟩
 have HDE := Lib.hid hD
 have hdl := HDL.out
 rw [hD] at HLL HLD HDN HDR hdl ⊢
 clear hc2 hdr hL hD
 by_cases h0 : D.length = 0
 ·have hD0 : D = [] := List.length_eq_zero_iff.1 h0
  subst hD0
  have HL0 := Lib.hid (HLL.out rfl)
  have hlb := HLW.out (-1 - v)
  obtain ⟨x0, x1, y0, y1, z0, z1, hsz⟩ := HBX.out _ (Chg.refl _ _)
  obtain ⟨r, hr⟩ : ∃ r, Plain.lf L (-1 - v) = r := ⟨_, rfl⟩
  rw [hr] at hlb
  have HRR := Lib.hid hr
  have IR : I64 r := I64.mk (by omega) (by omega)
  clear hr h0
  go_wp2_with fail
  refine (refLeft_any _ _ _ g p turn same (-1 - v) _ hpl hpv HRL.out hsl HPZ.out HL0.out (HG.out.fresh HW2.out) (HP.out.fresh HW2.out) (HX.out.fresh HW2.out)).mono ?_
  rintro e w3 ⟨rfl, hc3⟩
  rw [HLE.out, HRR.out]
  have HC3 := Lib.hid (HW2.out.trans hc3 (by simp))
  have HROW := Lib.hid (row_lit1 (w := w3) (B := w.heap.size) HC3.out.size IR)
  have HC4 := Lib.hid (HC3.out.alloc (.cells #[.int .i64 r] 3))
  clear x0 x1 y0 y1 z0 z1 hsz hc3
  go_wp2
  go_ret
  exact ⟨_, [r], rfl, HROW.out, List.pairwise_singleton _ _, fun s => by
   rw [List.mem_singleton, HLE.out]
   unfold Plain.aroundAt
   rw [HDE.out, HRR.out]
   simp, HC4.out⟩
 have hlb : ((D.length : Int) == 0) = false := by rw [beq_eq_false_iff_ne]; omega
 go_wp2
 go_loopw [9, 11] (fun lv c wr => ∃ (i : Nat) (M : List Int), c = .int .i64 i ∧ i ≤ D.length ∧ M.length ≤ i ∧ RowAt wr w2.heap.size lv M ∧ Hid (M.Pairwise (· < ·) ∧ ∀ r, r ∈ M ↔ ∃ d ∈ D.take i, r = Plain.lf L d) ∧ Chg [] w2 wr) (fun _ c _ => D.length - (intOf c).toNat)
 case atStart => exact ⟨0, [], rfl, Nat.zero_le _, Nat.le_refl _, rowNil' _ _, Lib.hid (by simp), Chg.refl _ _⟩
 case round =>
  obtain ⟨i, M, rfl, hi, hml, hrow, HM, hc⟩ := hrel
  have HROW := Lib.hid hrow
  have HC := Lib.hid hc
  have HCW := Lib.hid (HW2.out.trans hc (by simp))
  obtain ⟨oo, oc, rfl⟩ := hrow.shape
  obtain ⟨x0, x1, y0, y1, z0, z1, hsz⟩ := HBX.out _ hc
  clear hrow
  by_cases hlt : i < D.length
  ·obtain ⟨rb, roff, rfl, rc⟩ := IntsAt.cellAt HDR.out hlt
   have rcell := hc.cell rc (by simp)
   have hdm := Plain.getD_mem hlt
   obtain ⟨d, hd⟩ : ∃ d, D.getD i 0 = d := ⟨_, rfl⟩
   have HTK := Lib.hid (show D.take (i + 1) = D.take i ++ [D.getD i 0] from Plain.take_snoc hlt)
   rw [hd] at rcell hdm HTK
   have HLDD := Lib.hid (HLD.out d hdm)
   have hlb2 := HLW.out d
   obtain ⟨r, hr⟩ : ∃ r, Plain.lf L d = r := ⟨_, rfl⟩
   rw [hr] at hlb2
   have HRR := Lib.hid hr
   have HDM := Lib.hid hdm
   have IR : I64 r := I64.mk (by omega) (by omega)
   clear rc hdm hd hr hc
   go_wp2
   have hS0 : Chg [] wr wr.drew := (Chg.refl [] wr).drew
   refine wp_region_way (Chg [] wr) [0, 1, 2, 3, 4, 5, 6, 7] (Way.line [0, 1, 2, 3, 4, 5, 6, 7, 8, 9, 10, 11] .done) (by kernel_rfl) (by kernel_rfl) ?_
   simp only [Way.line]
   repeat
    first
     | (refine along_off rfl (by rfl) (by rfl) (fun _ _ _ h => h) hS0 ?_; simp only [Act.put, Z1, Z2, Z3, Z4, Z5, Z6])
     | (refine along_read (v := ?_) rfl (by rfl) (by rfl) (fun _ _ _ h => h) hS0 (fun w' hS' => ?_) ?_; rotate_left; (focus (have rd0 := hS'.cell x0 (by simp); have rd1 := hS'.cell x1 (by simp); have rd2 := hS'.cell y0 (by simp); have rd3 := hS'.cell y1 (by simp); have rd4 := hS'.cell z0 (by simp); have rd5 := hS'.cell z1 (by simp); have rd6 := hS'.cell rcell (by simp); clear hS'; go_simp; try with_reducible rfl)); simp only [Act.put, Z1, Z2, Z3, Z4, Z5, Z6])
     | (refine along_skip rfl (by rfl) (by rfl) hS0 ?_; simp only [Act.put, Z1, Z2, Z3, Z4, Z5, Z6])
   refine along_op rfl (by rfl) (by rfl) (fun K hK => ?_)
   go_simp
   refine (refLeft_any _ _ _ g p turn same d _ hpl hpv HRL.out hsl HPZ.out HLDD.out (HG.out.fresh (HCW.out.trans hS0 (by simp))) (HP.out.fresh (HCW.out.trans hS0 (by simp))) (HX.out.fresh (HCW.out.trans hS0 (by simp)))).mono ?_
   rintro e w3 ⟨rfl, hcx⟩
   have hS1 := hS0.trans hcx (by simp)
   clear hS0 hcx
   have hS0 := hS1
   clear hS1
   refine hK.out _ _ (fun _ => hS0) ?_
   clear hK K
   try simp only [Act.put, Z1, Z2, Z3, Z4, Z5, Z6]
   rw [HLE.out, HRR.out]
   refine along_op rfl (by rfl) (by rfl) (fun K hK => ?_)
   go_simp
   have HI1 := Lib.hid (lit_ints w3 IR)
   have hS1 := hS0.alloc (.cells #[.int .i64 r] 3)
   refine hK.out _ _ (fun _ => hS1) ?_
   clear hK K hS0
   have hS0 := hS1
   clear hS1
   try simp only [Act.put, Z1, Z2, Z3, Z4, Z5, Z6]
   generalize (w3.alloc (.cells #[.int .i64 r] 3)) = w4 at *
   generalize w3.heap.size = lb at *
   have HR4 := Lib.hid (HROW.out.chg hS0 (by simp)).ints
   refine along_op rfl (by rfl) (by rfl) (fun K hK => ?_)
   go_simp
   refine (refOrL_any _ _ M [r] _ (by omega) (by simp) HR4.out HI1.out).mono ?_
   rintro e w5 ⟨ov, rfl, hr5, hcx⟩
   have hl5 := Plain.orL_len M [r]
   have HM5 := Lib.hid (show (Plain.orL M [r]).Pairwise (· < ·) ∧ ∀ s, s ∈ Plain.orL M [r] ↔ ∃ d ∈ D.take (i + 1), s = Plain.lf L d from ⟨Plain.orL_rise HM.out.1 (List.pairwise_singleton _ _), fun s => by
    rw [Plain.mem_orL, HM.out.2, HTK.out, List.mem_singleton]
    constructor
    ·rintro (⟨d', hd', q⟩ | q)
     ·exact ⟨d', List.mem_append.2 (Or.inl hd'), q⟩
     exact ⟨d, by simp, by rw [q, HRR.out]⟩
    rintro ⟨d', hd', q⟩
    rcases List.mem_append.1 hd' with q2 | q2
    ·exact Or.inl ⟨d', q2, q⟩
    rw [List.mem_singleton.1 q2, HRR.out] at q; exact Or.inr q⟩)
   obtain ⟨M2, hM2⟩ : ∃ M2, Plain.orL M [r] = M2 := ⟨_, rfl⟩
   rw [hM2] at hr5 hl5 HM5
   have HR5 := Lib.hid (hr5.base (B := w2.heap.size) (Nat.le_trans HC.out.size hS0.size))
   have hl6 : M2.length ≤ i + 1 := by simp at hl5; omega
   have hS1 := hS0.trans hcx (by simp)
   clear hS0 hcx hr5 hl5 hM2
   refine hK.out _ _ (fun _ => hS1) ?_
   clear hK K
   try simp only [Act.put, Z1, Z2, Z3, Z4, Z5, Z6]
   refine along_op rfl (by rfl) (by rfl) (fun K hK => ?_)
   go_simp
   refine hK.out _ _ (fun _ => hS1) ?_
   clear hK K
   try simp only [Act.put, Z1, Z2, Z3, Z4, Z5, Z6]
   refine along_done ?_
   have HC5 := Lib.hid (HC.out.trans hS1 (by simp))
   clear x0 x1 y0 y1 z0 z1 hsz rcell hS1
   go_wp2
   go_roundw
   case rel => exact ⟨i + 1, M2, by go_num, by omega, hl6, HR5.out, HM5, HC5.out⟩
   case measure => simp [intOf]; omega
  have e : i = D.length := by omega
  subst e
  have HB := Lib.hid (show w.heap.size ≤ w2.heap.size from HW2.out.size)
  clear x0 x1 y0 y1 z0 z1 hsz hc
  go_wp2
  go_ret
  exact ⟨_, M, rfl, HROW.out.base HB.out, HM.out.1, fun r => by
   rw [HM.out.2, List.take_length, HLE.out]
   unfold Plain.aroundAt
   rw [HDE.out]
   exact ⟨Or.inl, fun q => q.elim id fun q => absurd (by rw [q.1]; rfl) h0⟩, HCW.out⟩
theorem owns_take {w : World} {B : Nat} {e : TypeId} {ao : Option Addr} {cap n m : Nat} {xs : List Value} (h : w.ownsRow B e 1 (.slice ao n cap) n xs) (hm : m ≤ n) : w.ownsRow B e 1 (.slice ao m cap) m (xs.take m) := by
 have hl := h.1
 rcases h.2 with ⟨e1, h0⟩ | ⟨g, c, cur, e1, hg, hh, hnc, hcm, hcs, hys⟩
 ·cases e1
  obtain rfl : m = 0 := by omega
  exact ⟨by simp, Or.inl ⟨rfl, rfl⟩⟩
 simp only [Value.slice.injEq] at e1
 obtain ⟨rfl, -, rfl⟩ := e1
 refine ⟨by rw [List.length_take]; omega, Or.inr ⟨g, cap, cur, rfl, hg, hh, by omega, hcm, hcs, ?_⟩⟩
 rw [← hys, List.take_take]
 congr 1
 omega
theorem compactI_any (v : Value) (l : List Int) (B : Nat) (w : World) (hn : l.length < 1000000000) (h : RowAt w B v l) :
  Calls Tryz.prog 69 #[v] w fun e w' => ∃ v', e = .returned v' ∧ RowAt w' B v' (Go.Lib.compact l) ∧ Chg v.ownBlock.toList w w' := by
 obtain ⟨ao, c, rfl⟩ := h.shape
 by_cases h0 : l = []
 ·subst h0
  refine (Tryz.slices_Compact_int_empty ao c w).mono ?_
  rintro e w' ⟨rfl, rfl⟩
  exact ⟨_, rfl, h, Chg.refl _ _⟩
 obtain ⟨g, cap, e⟩ := owns_some h.1 (List.length_pos_iff.2 h0)
 cases e
 have hl : (ints l).length = l.length := by simp [ints]
 have hown := h.1
 rw [← hl] at hown
 have hH : Go.Sort.Holds (Value.int .i64) w g 0 l.toArray := sorted_holds hown (by simp [ints])
 have hcap : l.length ≤ c := by
  rcases h.1.2 with ⟨e1, _⟩ | ⟨g', c', cur, e1, _, _, hnc, _⟩
  ·cases e1
  simp only [Value.slice.injEq] at e1
  omega
 refine (Tryz.slices_Compact_int g 0 _ l w hH (by omega) hcap).mono ?_
 rintro e w' ⟨rfl, q, rfl⟩
 have hcl : (Go.Lib.compact l).length ≤ l.length := by
  unfold Go.Lib.compact Go.Lib.compactUpTo
  rw [List.length_map]
  exact Nat.le_trans (List.length_filter_le _ _) (by simp)
 have hcm : ∀ x ∈ Go.Lib.compact l, x ∈ l := by
  intro x hx
  unfold Go.Lib.compact Go.Lib.compactUpTo at hx
  obtain ⟨j, hj, rfl⟩ := List.mem_map.1 hx
  have hj := List.mem_range.1 (List.mem_filter.1 hj).1
  have : l.toArray[j]! = l[j] := by simp [getElem!_pos, hj]
  rw [this]
  exact List.getElem_mem hj
 obtain ⟨D, hD⟩ : ∃ D, (Go.Lib.compact l ++ List.replicate (l.length - (Go.Lib.compact l).length) 0).toArray = D := ⟨_, rfl⟩
 have hDs : D.size = (ints l).length := by rw [← hD, hl]; simp; omega
 have hso := sorted_owns (enc := Value.int .i64) (n := q) (os := #[]) (d := D) hown hDs
 rw [hl] at hso
 have hpt := owns_take hso hcl
 have htk : (D.toList.map (Value.int .i64)).take (Go.Lib.compact l).length = ints (Go.Lib.compact l) := by
  rw [← hD, List.map_append, List.take_left' (by simp)]
  rfl
 rw [htk] at hpt
 have hw : Go.Sort.putRow (Value.int .i64) (Go.Sort.ahead w q) g 0 D = sortWorld (Value.int .i64) w g 0 q D #[] := by simp [sortWorld, Go.Sort.grow]; rfl
 rw [hD, hw]
 refine ⟨_, rfl, ⟨?_, fun x hx => h.2.1 x (hcm x hx), by have := h.2.2; omega⟩, ?_⟩
 ·exact hpt
 exact sorted_chg (Value.int .i64) w g q #[] D
set_option maxRecDepth 100000 in
set_option maxHeartbeats 4000000 in
theorem restAround_low (vg vp vx : Value) (g : Plain.Gr) (p : Plain.Pt) (turn same : List (List Int)) (v : Int) (w : World) (hpl : p.e.length ≤ 1000) (hpv : p.v.length ≤ 1000) (hTL : turn.length < 2147483648) (hS : Plain.sumLen turn turn.length < 2147483648) (hrl : ∀ i, (turn.getD i []).length < 1000000) (hsl : same.length ≤ 10000) (hsr : ∀ i, (same.getD i []).length ≤ 10000) (hv : I64 v) (hg : GrAt w vg g) (hp : PtAt w vp p) (hx : PlAt w vx turn same) :
  Calls Tryz.prog 18 #[vg, vp, vx, .int .i64 v] w fun e w' => ∃ ov M, e = .returned ov ∧ RowAt w' w.heap.size ov M ∧ ((Plain.planErr g p turn same ≠ 0 ∨ v ∉ p.v) → M = []) ∧ (Plain.planErr g p turn same = 0 → v ∈ p.v → M.Pairwise (· < ·) ∧ ∀ r, r ∈ M ↔ Plain.aroundAt g p (Plain.leftOf (Plain.regionsOf g p turn same) (Plain.walksOf g p turn)) v r) ∧ Chg [] w w' := by
 have HS1 := Lib.hid hS
 have HSR := Lib.hid hsr
 have HRL := Lib.hid hrl
 clear hS hsr hrl
 have HG := Lib.hid hg
 have HP := Lib.hid hp
 have HX := Lib.hid hx
 obtain ⟨eo, cap, rfl, hn, hm, hsm, hcell⟩ := hg
 obtain ⟨v1, v2, rfl, hv, he⟩ := hp
 obtain ⟨ao, ac, rfl, has, ham, hacell⟩ := hv
 obtain ⟨bo, bc, rfl, hbs, hbm, hbcell⟩ := he
 have HAC := Lib.hid hacell
 have HBC := Lib.hid hbcell
 obtain ⟨t1, t2, rfl, ht, hs⟩ := hx
 have HT := Lib.hid ht
 have HS := Lib.hid hs
 obtain ⟨tno, tc, rfl, htm, -⟩ := ht
 obtain ⟨so, sc, rfl, hsm2, hsc⟩ := hs
 obtain ⟨-, -, hc1⟩ := box_two w #[.int .i64 g.n, .slice eo g.e.length cap] #[.slice ao p.v.length ac, .slice bo p.e.length bc] 24 27
 obtain ⟨-, hc3⟩ := box_three w #[.int .i64 g.n, .slice eo g.e.length cap] #[.slice ao p.v.length ac, .slice bo p.e.length bc] #[.slice tno turn.length tc, .slice so same.length sc] 24 27 30
 have HC1 := Lib.hid (hc1.trans hc3 (by simp))
 have HBXS := Lib.hid (fun w2 h => three_boxes w (g := g) (p := p) (turn := turn) (same := same) (eo := eo) (ao := ao) (bo := bo) (tno := tno) (so := so) (cap := cap) (ac := ac) (bc := bc) (tc := tc) (sc := sc) (w2 := w2) h)
 clear hcell hacell hbcell hsm hbs has hn hc1 hc3 hsc
 obtain ⟨x0, x1, y0, y1, z0, z1, hsz⟩ := HBXS.out _ (Chg.refl _ _)
 go_enter Tryz.func18, Tryz.ntmps18
 go_wp2_with fail
 refine (lookR_any _ _ _ g p turn same _ (by omega) (by omega) hTL HS1.out hsl HSR.out (HG.out.fresh HC1.out) (HP.out.fresh HC1.out) (HX.out.fresh HC1.out)).mono ?_
 rintro e w2 ⟨mv, rfl, hno, hyes, hc2⟩
 have HC2W := Lib.hid (show w.heap.size ≤ w2.heap.size from Nat.le_trans HC1.out.size hc2.size)
 obtain ⟨w1, hw1⟩ : ∃ w1, (((w.alloc (.cells #[.int .i64 g.n, .slice eo g.e.length cap] 24)).alloc (.cells #[.slice ao p.v.length ac, .slice bo p.e.length bc] 27)).alloc (.cells #[.slice tno turn.length tc, .slice so same.length sc] 30)) = w1 := ⟨_, rfl⟩
 rw [hw1] at HC1 HBXS hc2 hyes
 clear hw1
 have HC2 := Lib.hid hc2
 have HW2 := Lib.hid (HC1.out.trans HC2.out (by simp))
 have HBX := Lib.hid (fun wx (hx : Chg [] w2 wx) => HBXS.out wx (HC2.out.trans hx (by simp)))
 clear x0 x1 y0 y1 z0 z1 hsz hc2
 obtain ⟨x0, x1, y0, y1, z0, z1, hsz⟩ := HBX.out _ (Chg.refl _ _)
 by_cases hz : Plain.planErr g p turn same = 0
 ·obtain ⟨lb, rfl, hlb, him, -⟩ := hyes hz
  obtain ⟨hpe, hto⟩ := Plain.zero_ok hz
  have HRV := Lib.hid (Plain.rises_pair (Plain.Pt.err_ok hpe).2.1)
  have HPVI := Lib.hid (show IntsAt w (.slice ao p.v.length ac) p.v by obtain ⟨v1, v2, e, he, -⟩ := HP.out; cases e; exact he)
  have HIM := Lib.hid him
  have HZ := Lib.hid hz
  have HPE := Lib.hid hpe
  have HTO := Lib.hid hto
  have HLW := Lib.hid (fun d => Plain.lf_low (W := Plain.walksOf g p turn) (Plain.regs_len hpl hpv hz) d)
  obtain ⟨L, hL⟩ : ∃ L, Plain.leftOf (Plain.regionsOf g p turn same) (Plain.walksOf g p turn) = L := ⟨_, rfl⟩
  rw [hL] at HIM HLW
  have HLE := Lib.hid hL
  have HLF := Lib.hid (show ∀ y, (L y).getD 0 = Plain.lf L y from fun _ => rfl)
  rw [hz]
  clear hno hyes him hz hpe hto hlb hL
  go_wp2_with fail
  refine (has_any _ p.v v _ HRV.out (by omega) (HPVI.out.fresh HW2.out)).mono ?_
  rintro e w3 ⟨rfl, hc3⟩
  have HC3 := Lib.hid hc3
  have HW3 := Lib.hid (HW2.out.trans hc3 (by simp))
  clear x0 x1 y0 y1 z0 z1 hsz
  obtain ⟨x0, x1, y0, y1, z0, z1, hsz⟩ := HBX.out _ hc3
  clear hc3
  by_cases hin : v ∈ p.v
  ·rw [decide_eq_true hin]
   have HIN := Lib.hid hin
   have hvr := (Plain.Pt.ok_of_err HPE.out).vr v hin
   have hgn := (Plain.Gr.err_ok (Plain.Pt.err_ok HPE.out).1).2.1
   have HAI := Lib.hid (fun r => Plain.around_iff HTO.out hvr.1 hvr.2 L r)
   have htl := HTO.out.len
   obtain ⟨n, rfl⟩ : ∃ n : Nat, v = n := ⟨v.toNat, by omega⟩
   have hlt : n < turn.length := by omega
   obtain ⟨tb, toff, u, rfl, tcell, -, hrow⟩ := (HT.out.fresh HW3.out).rowc hlt
   have hTl := HRL.out n
   rw [show Plain.turnAt turn (n : Int) = turn.getD n [] from rfl] at HAI
   obtain ⟨T, hT⟩ : ∃ T, turn.getD n [] = T := ⟨_, rfl⟩
   rw [hT] at hrow hTl HAI
   have HROW := Lib.hid hrow
   obtain ⟨uo, uc, rfl, hI, -⟩ := hrow
   have HTI := Lib.hid hI
   have wv : IntKind.i64.wrap (-1 - (n : Int)) = -1 - (n : Int) := IntWalk.i64_in _ (by omega)
   have IV : I64 (-1 - (n : Int)) := I64.mk (by omega) (by omega)
   clear hin hT hI hvr htl
   go_wp2
   clear x0 x1 y0 y1 z0 z1 hsz tcell
   go_loopw [11, 36] (fun ov c wr => ∃ j : Nat, j ≤ T.length ∧ c = .int .i64 j ∧ RowAt wr w3.heap.size ov ((T.take j).map (Plain.lf L)) ∧ Chg [] w3 wr) (fun _ c _ => T.length - (intOf c).toNat)
   case atStart => exact ⟨0, Nat.zero_le _, rfl, rowNil' _ _, Chg.refl _ _⟩
   case round =>
    obtain ⟨j, hj, rfl, hrw, hc⟩ := hrel
    have HR := Lib.hid hrw
    have HC := Lib.hid hc
    have HB := Lib.hid (show w3.heap.size ≤ wr.heap.size from hc.size)
    have HIMR := Lib.hid ((HIM.out.chg HC3.out (by simp)).chg hc (by simp))
    obtain ⟨oo, oc, rfl⟩ := hrw.shape
    have hkl : ((T.take j).map (Plain.lf L)).length ≤ j := by simp; omega
    clear hrw hc
    by_cases hlj : j < T.length
    ·obtain ⟨rb, roff, rfl, rc⟩ := IntsAt.cellAt HROW.out hlj
     have rcell := HC.out.cell rc (by simp)
     have HNX := Lib.hid (show (T.take (j + 1)).map (Plain.lf L) = (T.take j).map (Plain.lf L) ++ [Plain.lf L (T.getD j 0)] by rw [List.take_succ_eq_append_getElem hlj, List.map_append, show T.getD j 0 = T[j] by simp [List.getD, hlj]]; rfl)
     have IX : I64 (T.getD j 0) := HTI.out _ (Plain.getD_mem hlj)
     obtain ⟨x, hx⟩ : ∃ x, T.getD j 0 = x := ⟨_, rfl⟩
     rw [hx] at rcell HNX IX
     have hlx := HLW.out x
     have hrun : (Instr.lookup 79 (.map (some lb)) (.int .i64 x) false).run Tryz.prog wr = .ok (.int .i64 (Plain.lf L x)) wr := by
      have := HIMR.out.look_run IX
      rw [HLF.out] at this
      exact this
     obtain ⟨y, hy⟩ : ∃ y, Plain.lf L x = y := ⟨_, rfl⟩
     rw [hy] at hrun HNX hlx
     have IY : I64 y := I64.mk (by omega) (by omega)
     obtain ⟨M, hM⟩ : ∃ M, (T.take j).map (Plain.lf L) = M := ⟨_, rfl⟩
     rw [hM] at HNX HR hkl ⊢
     have hml2 : M.length < 4294967290 := by omega
     clear hx hy hM rc
     go_wp2_with (at_builtin; refine wl_push rfl _ _ rfl (B := w3.heap.size) (v := .slice oo _ oc) rfl rfl HR.out IY HB.out hml2 rfl ?_; intro v6 w6 r6 c6 f6; have R6 := Lib.hid r6; have C6 := Lib.hid c6; clear r6 c6 f6)
     go_roundw
     case rel => exact ⟨j + 1, by omega, by go_num, by rw [HNX.out]; exact R6.out, HC.out.trans C6.out (fun b hb => Or.inr (by rw [HR.out.foot] at hb; exact (HR.out.low b hb).1))⟩
     case measure => simp [intOf]; omega
    have e : j = T.length := by omega
    subst e
    rw [List.take_length] at HR hkl ⊢
    by_cases h0 : T = []
    ·subst h0
     rw [if_pos rfl] at HAI
     have hlx := HLW.out (-1 - (n : Int))
     have hrun : (Instr.lookup 79 (.map (some lb)) (.int .i64 (-1 - (n : Int))) false).run Tryz.prog wr = .ok (.int .i64 (Plain.lf L (-1 - (n : Int)))) wr := by
      have := HIMR.out.look_run IV
      rw [HLF.out] at this
      exact this
     obtain ⟨y, hy⟩ : ∃ y, Plain.lf L (-1 - (n : Int)) = y := ⟨_, rfl⟩
     rw [hy] at hrun HAI hlx
     have IY : I64 y := I64.mk (by omega) (by omega)
     have hml2 : ([] : List Int).length < 4294967290 := by simp
     have HR0 := Lib.hid (show RowAt wr w3.heap.size (.slice oo ([] : List Int).length oc) [] from HR.out)
     clear hy hlj hj hkl
     rw [show (([] : List Int).map (Plain.lf L)).length = ([] : List Int).length from rfl]
     go_wp2_with (at_builtin; refine wl_push rfl _ _ rfl (B := w3.heap.size) (v := .slice oo _ oc) rfl rfl HR0.out IY HB.out hml2 rfl ?_; intro v6 w6 r6 c6 f6; have R6 := Lib.hid r6; have C6 := Lib.hid c6; clear r6 c6 f6)
     refine (sortI_any _ [y] _ _ (by simp) R6.out).mono ?_
     rintro e w7 ⟨rfl, hr7, hc7⟩
     rw [List.mergeSort_singleton] at hr7
     have HF7 := Lib.hid (show Chg [] w3 w7 from (HC.out.trans C6.out (fun b hb => Or.inr (by rw [HR0.out.foot] at hb; exact (HR0.out.low b hb).1))).trans hc7 (fun b hb => Or.inr (R6.out.low b hb).1))
     have HR7 := Lib.hid hr7
     clear hr7 hc7
     go_wp2_with fail
     refine (compactI_any _ [y] _ _ (by simp) HR7.out).mono ?_
     rintro e w8 ⟨v8, rfl, hr8, hc8⟩
     rw [show Go.Lib.compact [y] = Plain.tidy [y] by unfold Plain.tidy; rw [List.mergeSort_singleton]] at hr8
     have HR8 := Lib.hid hr8
     have HF8 := Lib.hid (show Chg [] w w8 from (HW3.out.trans HF7.out (by simp)).trans hc8 (fun b hb => Or.inr (by have := (HR7.out.low b hb).1; have := HW3.out.size; omega)))
     have HTD := Lib.hid (Plain.tidy_ok [y])
     clear hr8 hc8 hrun
     go_wp2
     go_ret
     exact ⟨_, _, rfl, HR8.out.base HW3.out.size, fun h => h.elim (fun q => absurd HZ.out q) (fun q => absurd HIN.out q), fun _ _ => ⟨HTD.out.1, fun r => by rw [HLE.out, HAI.out]; exact HTD.out.2 r⟩, HF8.out⟩
    rw [if_neg h0] at HAI
    have hlT : (((T.map (Plain.lf L)).length : Int) == 0) = false := by rw [beq_eq_false_iff_ne, List.length_map]; have := List.length_pos_iff.2 h0; omega
    have hml2 : (T.map (Plain.lf L)).length < 1000000000 := by omega
    obtain ⟨M, hM⟩ : ∃ M, T.map (Plain.lf L) = M := ⟨_, rfl⟩
    rw [hM] at HAI HR hkl hlT hml2 ⊢
    clear hM hlj hj h0
    go_wp2_with fail
    refine (sortI_any _ M _ _ hml2 HR.out).mono ?_
    rintro e w7 ⟨rfl, hr7, hc7⟩
    have HF7 := Lib.hid (show Chg [] w3 w7 from HC.out.trans hc7 (fun b hb => Or.inr (HR.out.low b hb).1))
    have HR7 := Lib.hid hr7
    have hsl2 : (M.mergeSort fun x y => decide (x ≤ y)).length = M.length := (List.mergeSort_perm _ _).length_eq
    have hty : Go.Lib.compact (M.mergeSort fun x y => decide (x ≤ y)) = Plain.tidy M := rfl
    obtain ⟨S, hS⟩ : ∃ S, (M.mergeSort fun x y => decide (x ≤ y)) = S := ⟨_, rfl⟩
    rw [hS] at hsl2 HR7 hty
    have HSL2 := Lib.hid hsl2
    have HTY := Lib.hid hty
    rw [← hsl2] at HR7 ⊢
    clear hr7 hc7 hlT hsl2 hty hS
    go_wp2_with fail
    refine (compactI_any _ S _ _ (by rw [HSL2.out]; exact hml2) HR7.out).mono ?_
    rintro e w8 ⟨v8, rfl, hr8, hc8⟩
    rw [HTY.out] at hr8
    have HR8 := Lib.hid hr8
    have HF8 := Lib.hid (show Chg [] w w8 from (HW3.out.trans HF7.out (by simp)).trans hc8 (fun b hb => Or.inr (by have := (HR7.out.low b hb).1; have := HW3.out.size; omega)))
    have HTD := Lib.hid (Plain.tidy_ok M)
    clear hr8 hc8
    go_wp2
    go_ret
    exact ⟨_, _, rfl, HR8.out.base HW3.out.size, fun h => h.elim (fun q => absurd HZ.out q) (fun q => absurd HIN.out q), fun _ _ => ⟨HTD.out.1, fun r => by rw [HLE.out, HAI.out]; exact HTD.out.2 r⟩, HF8.out⟩
  rw [decide_eq_false hin]
  have HIN := Lib.hid hin
  clear hin
  go_wp2
  go_ret
  exact ⟨_, [], rfl, rowNil' _ _, fun _ => rfl, fun _ h => absurd h HIN.out, HW3.out⟩
 have HZ := Lib.hid hz
 obtain rfl := hno hz
 obtain ⟨er, her⟩ : ∃ er, Plain.planErr g p turn same = er := ⟨_, rfl⟩
 rw [her] at hz ⊢
 have bz : (er != 0) = true := by simp only [bne_iff_ne]; exact hz
 clear hno hyes hz her
 go_wp2
 go_ret
 exact ⟨_, [], rfl, rowNil' _ _, fun _ => rfl, fun h => absurd h HZ.out, HW2.out⟩
set_option maxRecDepth 100000 in
set_option maxHeartbeats 8000000 in
theorem restAround_any (vg vp vx : Value) (g : Plain.Gr) (p : Plain.Pt) (turn same : List (List Int)) (v : Int) (w : World) (hg : GrAt w vg g) (hp : PtAt w vp p) (hx : PlAt w vx turn same) (hv : I64 v) :
  Calls Tryz.prog 4 #[vg, vp, vx, .int .i64 v] w fun e w' => e = .returned (.bool true) ∧ Chg [] w w' := by
 have HG := Lib.hid hg
 have HP := Lib.hid hp
 have HX := Lib.hid hx
 obtain ⟨eo, cap, rfl, hn, hm, hsm, hcell⟩ := hg
 obtain ⟨v1, v2, rfl, hv, he⟩ := hp
 obtain ⟨ao, ac, rfl, has, ham, hacell⟩ := hv
 obtain ⟨bo, bc, rfl, hbs, hbm, hbcell⟩ := he
 have HAC := Lib.hid hacell
 have HBC := Lib.hid hbcell
 obtain ⟨t1, t2, rfl, ht, hs⟩ := hx
 have HT := Lib.hid ht
 have HS := Lib.hid hs
 obtain ⟨tno, tc, rfl, htm, -⟩ := ht
 obtain ⟨so, sc, rfl, hsm2, hsc⟩ := hs
 obtain ⟨-, -, hc1⟩ := box_two w #[.int .i64 g.n, .slice eo g.e.length cap] #[.slice ao p.v.length ac, .slice bo p.e.length bc] 24 27
 obtain ⟨-, hc3⟩ := box_three w #[.int .i64 g.n, .slice eo g.e.length cap] #[.slice ao p.v.length ac, .slice bo p.e.length bc] #[.slice tno turn.length tc, .slice so same.length sc] 24 27 30
 have HC1 := Lib.hid (hc1.trans hc3 (by simp))
 have HBXS := Lib.hid (fun w2 h => three_boxes w (g := g) (p := p) (turn := turn) (same := same) (eo := eo) (ao := ao) (bo := bo) (tno := tno) (so := so) (cap := cap) (ac := ac) (bc := bc) (tc := tc) (sc := sc) (w2 := w2) h)
 clear hcell hacell hbcell hsm hbs has hn hc1 hc3 hsc
 clear ham hm
 go_enter Tryz.func4, Tryz.ntmps4
 go_wp2_with fail
 refine (awake09_any _).mono ?_
 rintro e w2 ⟨rfl, hc2⟩
 obtain ⟨x0, x1, y0, y1, z0, z1, hsz⟩ := HBXS.out w2 hc2
 have HC2 := Lib.hid (HC1.out.trans hc2 (by simp))
 have HC2B := Lib.hid hc2
 clear hc2
 go_wp2_with fail
 refine (small8_any _ _ _ g p turn same _ (HG.out.fresh HC2.out) (HP.out.fresh HC2.out) (HX.out.fresh HC2.out)).mono ?_
 rintro e w3 ⟨rfl, hc3⟩
 have HC3 := Lib.hid (HC2.out.trans hc3 (by simp))
 have HC3B := Lib.hid (HC2B.out.trans hc3 (by simp))
 clear x0 x1 y0 y1 z0 z1 hsz hc3
 obtain ⟨x0, x1, y0, y1, z0, z1, hsz⟩ := HBXS.out w3 HC3B.out
 cases hb : Plain.small8 g p turn same with
 | false =>
  clear hb
  rw [show bit false = 0 from rfl]
  go_wp2_with fail
  refine (awake09_any _).mono ?_
  rintro e w4 ⟨rfl, hc4⟩
  have HC4 := Lib.hid (HC3.out.trans hc4 (by simp))
  clear hc4
  go_wp2
  go_ret
  exact ⟨rfl, HC4.out⟩
 | true =>
  obtain ⟨b1, b2, b3, b4, b5, b6⟩ := Plain.small8_is hb
  have hgl : g.e.length ≤ 60 := by
   unfold Plain.small8 Plain.small6 Plain.small4 at hb
   simp only [Bool.and_eq_true, decide_eq_true_eq] at hb
   exact hb.1.1.1.1.1.1.1
  have HB4 := Lib.hid b4
  have HB6 := Lib.hid (fun i => Nat.le_trans (b6 i) (by omega : 60 ≤ 10000))
  have HROWS := Lib.hid (Plain.small8_four hb).2
  have HRL := Lib.hid (fun (v : Int) => Nat.lt_of_le_of_lt (HROWS.out v.toNat) (by decide : 200 < 4294967296))
  clear hb b4 b6
  rw [show bit true = 1 from rfl]
  go_wp2_with fail
  refine (restAround_low _ _ _ g p turn same v _ (by omega) (by omega) (by omega) (by have := HB4.out; omega) (fun i => Nat.lt_of_le_of_lt (HROWS.out i) (by decide)) (by omega) HB6.out hv (HG.out.fresh HC3.out) (HP.out.fresh HC3.out) (HX.out.fresh HC3.out)).mono ?_
  rintro e w4 ⟨ov, M, rfl, hrow, hno, hyes, hc4⟩
  have HC4 := Lib.hid (HC3.out.trans hc4 (by simp))
  have HC4B := Lib.hid (HC3B.out.trans hc4 (by simp))
  have HROW := Lib.hid hrow
  obtain ⟨oo, oc, rfl⟩ := hrow.shape
  clear x0 x1 y0 y1 z0 z1 hsz hc4 hrow
  obtain ⟨x0, x1, y0, y1, z0, z1, hsz⟩ := HBXS.out w4 HC4B.out
  have HNO := Lib.hid hno
  have HYES := Lib.hid hyes
  clear hno hyes
  go_wp2_with fail
  refine (refRight8_any _ _ _ g p turn same _ (by omega) (by omega) (by omega) HRL.out (by omega) HB6.out (HG.out.fresh HC4.out) (HP.out.fresh HC4.out) (HX.out.fresh HC4.out)).mono ?_
  rintro e w5 ⟨rfl, hc5⟩
  have HC5 := Lib.hid (HC4.out.trans hc5 (by simp))
  have HC5B := Lib.hid (HC4B.out.trans hc5 (by simp))
  have HROW5 := Lib.hid (HROW.out.chg hc5 (by simp))
  clear x0 x1 y0 y1 z0 z1 hsz hc5
  obtain ⟨x0, x1, y0, y1, z0, z1, hsz⟩ := HBXS.out w5 HC5B.out
  by_cases hz : Plain.planErr g p turn same = 0
  ·have HZ := Lib.hid hz
   have HPVI := Lib.hid (show IntsAt w (.slice ao p.v.length ac) p.v by obtain ⟨v1, v2, e, he, -⟩ := HP.out; cases e; exact he)
   rw [hz]
   clear hz
   go_wp2_with fail
   refine (in_any _ p.v v _ (HPVI.out.fresh HC5.out)).mono ?_
   rintro e w6 ⟨rfl, hc6⟩
   have HC6 := Lib.hid (HC5.out.trans hc6 (by simp))
   have HC6B := Lib.hid (HC5B.out.trans hc6 (by simp))
   have HROW6 := Lib.hid (HROW5.out.chg hc6 (by simp))
   clear x0 x1 y0 y1 z0 z1 hsz hc6
   obtain ⟨x0, x1, y0, y1, z0, z1, hsz⟩ := HBXS.out w6 HC6B.out
   by_cases hin : v ∈ p.v
   ·rw [decide_eq_true hin]
    have HIN := Lib.hid hin
    clear hin
    go_wp2_with fail
    refine (refAroundL_any _ _ _ g p turn same v _ (by omega) (by omega) HRL.out (by omega) HZ.out HIN.out (HG.out.fresh HC6.out) (HP.out.fresh HC6.out) (HX.out.fresh HC6.out)).mono ?_
    rintro e w7 ⟨ov2, M2, rfl, hr2, hp2, hm2, hc7⟩
    have HE := Lib.hid (show M = M2 from Plain.rise_eq (HYES.out HZ.out HIN.out).1 hp2 fun r => ((HYES.out HZ.out HIN.out).2 r).trans (hm2 r).symm)
    have HC7 := Lib.hid (HC6.out.trans hc7 (by simp))
    have HROW7 := Lib.hid (HROW6.out.chg hc7 (by simp)).ints
    have HR2 := Lib.hid hr2.ints
    clear x0 x1 y0 y1 z0 z1 hsz hc7 hr2 hp2 hm2
    go_wp2_with fail
    refine (equal_any _ _ M M2 _ HROW7.out HR2.out).mono ?_
    rintro e w8 ⟨rfl, hc8⟩
    have HC8 := Lib.hid (HC7.out.trans hc8 (by simp))
    rw [decide_eq_true HE.out]
    clear hc8
    go_wp2
    go_ret
    exact ⟨rfl, HC8.out⟩
   rw [decide_eq_false hin]
   obtain rfl := HNO.out (Or.inr hin)
   clear hin
   go_wp2
   go_ret
   exact ⟨rfl, HC6.out⟩
  obtain rfl := HNO.out (Or.inl hz)
  obtain ⟨er, her⟩ : ∃ er, Plain.planErr g p turn same = er := ⟨_, rfl⟩
  rw [her] at hz ⊢
  have bz : (er != 0) = true := by simp only [bne_iff_ne]; exact hz
  clear hz her
  go_wp2
  go_ret
  exact ⟨rfl, HC5.out⟩
end Go.Proofs.YtednbiophjndpaaGreat
