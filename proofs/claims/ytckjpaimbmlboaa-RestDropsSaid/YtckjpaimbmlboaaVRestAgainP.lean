/- The law RestAgain is proved: what is left of what is left is what is left. No condition: every input. -/
import Derived.Test.YtckjpaimbmlboaaVRestDrawsW
import Derived.Test.YtckjpaimbmlboaaVAwake8
import Derived.ShutString
import Derived.Below
import Derived.Test.YtckjpaimbmlboaaVPSame
import Derived.Test.YtckjpaimbmlboaaVLeft9
import Derived.Test.YtckjpaimbmlboaaVSpread
import Derived.Test.YtckjpaimbmlboaaVTo9P
namespace Go.Proofs.Ytckjpaimbmlboaa.restAgain
open Go.ChangeShapes Go.WideShapes Go.ChangeAt Go.RowKit
set_option linter.unusedVariables false

theorem own : ownKnob Try.prog.godebug = none := by kernel_rfl
theorem laidOut : laidOutB Try.prog = true := by kernel_rfl

set_option maxRecDepth 100000 in
theorem lifted (os : Os) (started : os.Started) (H : Type) (enc : TypeId × Value → H) :
  ReturnsInHanded {} Try.checked os 6 .any (Rows.restAgainSpec.pre6 enc Try.prog Try.f6 Rows.restAgainRow.domain false) (Rows.restAgainSpec.post enc Try.prog Try.f6 false true false false) := by
 refine returnsInHanded_of_change (C := Try.checked) own started (by kernel_rfl) Try.func6
  (ChangeSpec.witness6 (enc := enc) (C := Try.checked) false ⟨#[], #[.agg #[.int .i64 0, .slice none 0 0], .agg #[.slice none 0 0, .slice none 0 0], .agg #[.slice none 0 0, .slice none 0 0], .agg #[.slice none 0 0, .slice none 0 0], .agg #[.slice none 0 0, .slice none 0 0]], []⟩ 8 (by kernel_rfl) (by kernel_rfl) (by kernel_rfl) (by kernel_rfl)) ?_
 intro W base args ds gs before hval0 hW hcnd _
 have hval : ∀ (j : Nat) t v, Try.f6.params[j]? = some t → args[j]? = some v → Value.okWide Try.prog W .any base t v := hval0
 have hW' := hW
 obtain ⟨p, q, hA0, hV, rfl, hfz, hnd⟩ := hW
 have hA : DataW.TrodAll enc Try.prog W 0 (fun _ => true) true Try.f6.params.toList args.toList ds p := hA0
 rw [Try.params6] at hA hval
 obtain ⟨v0, vs0, d0, ds0, p0, q0, hargs, rfl, rfl, h0, r0⟩ := trodAll_cons hA
 obtain ⟨v1, vs1, d1, ds1, p1, q1, rfl, rfl, rfl, h1, r1⟩ := trodAll_cons r0
 obtain ⟨v2, vs2, d2, ds2, p2, q2, rfl, rfl, rfl, h2, r2⟩ := trodAll_cons r1
 obtain ⟨v3, vs3, d3, ds3, p3, q3, rfl, rfl, rfl, h3, r3⟩ := trodAll_cons r2
 obtain ⟨v4, vs4, d4, ds4, p4, q4, rfl, rfl, rfl, h4, r4⟩ := trodAll_cons r3
 obtain ⟨rfl, rfl, rfl⟩ := trodAll_nil r4
 obtain rfl : args = #[v0, v1, v2, v3, v4] := by cases args; simp_all
 obtain ⟨rfl, rfl⟩ := trodVars_none hV
 have k0 := h0
 have k1 := h1
 have k2 := h2
 have k3 := h3
 have k4 := h4
 have lt0 : ∀ x ∈ p0, x.block < W.heap.size := by obtain ⟨m, hm⟩ := k0; exact DataW.trod_lt m _ _ _ hm
 have lt1 : ∀ x ∈ p1, x.block < W.heap.size := by obtain ⟨m, hm⟩ := k1; exact DataW.trod_lt m _ _ _ hm
 have lt2 : ∀ x ∈ p2, x.block < W.heap.size := by obtain ⟨m, hm⟩ := k2; exact DataW.trod_lt m _ _ _ hm
 have lt3 : ∀ x ∈ p3, x.block < W.heap.size := by obtain ⟨m, hm⟩ := k3; exact DataW.trod_lt m _ _ _ hm
 have lt4 : ∀ x ∈ p4, x.block < W.heap.size := by obtain ⟨m, hm⟩ := k4; exact DataW.trod_lt m _ _ _ hm
 obtain ⟨g0, e0⟩ := gr_open (hval 0 24 v0 rfl rfl) h0
 obtain ⟨g1, e1⟩ := pt_open (hval 1 27 v1 rfl rfl) h1
 obtain ⟨g2, s2, e2⟩ := pl_open (hval 2 30 v2 rfl rfl) h2
 obtain ⟨g3, e3⟩ := pt_open (hval 3 27 v3 rfl rfl) h3
 obtain ⟨g4, e4⟩ := pt_open (hval 4 27 v4 rfl rfl) h4
 clear hA0 hval0
 refine (restAgain_any _ _ _ _ _ g0 g1 g3 g4 g2 s2 W e0 e1 e2 e3 e4).mono fun e W' ⟨he, hc⟩ => ?_
 subst he
 have bel := hc.below
 exact ⟨_, rfl, _, _, _, [], _, [], hW', trodAll_mk1 (shut_bool Try.underlying4 _), (trodAll_cons_mk (Below.trod laidOut (by kernel_rfl) (of_decide_eq_true (by kernel_rfl)) k0 bel lt0) (trodAll_cons_mk (Below.trod laidOut (by kernel_rfl) (of_decide_eq_true (by kernel_rfl)) k1 bel lt1) (trodAll_cons_mk (Below.trod laidOut (by kernel_rfl) (of_decide_eq_true (by kernel_rfl)) k2 bel lt2) (trodAll_cons_mk (Below.trod laidOut (by kernel_rfl) (of_decide_eq_true (by kernel_rfl)) k3 bel lt3) (trodAll_cons_mk (Below.trod laidOut (by kernel_rfl) (of_decide_eq_true (by kernel_rfl)) k4 bel lt4) trodAll_mk0))))), rfl, bel.frame _, fun h => by cases h⟩

theorem over : Rows.restAgainRow.holds Try.pinned (OpenSpec.ofChange Rows.restAgainSpec) :=
 OpenClaim.holds_of_wide 6 Try.f6 rfl rfl rfl rfl rfl rfl rfl ⟨rfl, rfl, rfl, rfl, rfl⟩ rfl rfl rfl rfl rfl (by kernel_rfl) Try.func6 (by kernel_rfl)
  (of_decide_eq_true (by kernel_rfl)) (by unfold Func.isWrapper; first | (rw [if_pos (by decide +kernel)]; kernel_rfl) | (rw [if_neg (by decide +kernel)]; exact ⟨rfl, rfl⟩))
  (fun os started H enc _ => lifted os started H enc)

theorem proved : Rows.RestAgainSaid := over
#print axioms proved
end Go.Proofs.Ytckjpaimbmlboaa.restAgain
/- A drawing without one edge: how many regions. No program here. -/
namespace Go.Proofs.Ytckjpaimbmlboaa.Plain

def butE (e : Int) (l : List Int) : List Int := l.filter fun x => decide (x ≠ e)
theorem butE_snoc {e : Int} {l : List Int} {k : Nat} (hk : k < l.length) : butE e (l.take (k + 1)) = if l.getD k 0 = e then butE e (l.take k) else butE e (l.take k) ++ [l.getD k 0] := by
 unfold butE
 rw [take_snoc hk, List.filter_append]
 by_cases h : l.getD k 0 = e
 ·rw [if_pos h, List.filter_cons_of_neg (by simpa using h)]; simp
 ·rw [if_neg h, List.filter_cons_of_pos (by simpa using h)]; rfl
theorem butE_len (e : Int) (l : List Int) : (butE e l).length ≤ l.length := List.length_filter_le _ _
theorem mem_butE {e x : Int} {l : List Int} : x ∈ butE e l ↔ x ∈ l ∧ x ≠ e := by unfold butE; rw [List.mem_filter, decide_eq_true_iff]

section
variable {g : Gr} {p q : Pt} {turn same : List (List Int)}

theorem rises_filter {l : List Int} {n : Int} (h : rises l n = true) (f : Int → Bool) : rises (l.filter f) n = true := by
 unfold rises
 rw [List.all_eq_true]
 intro i hi
 have hi := List.mem_range.1 hi
 have hpw : (l.filter f).Pairwise (· < ·) := (rises_pair h).sublist List.filter_sublist
 have hget : ∀ j (hj : j < (l.filter f).length), (l.filter f).getD j 0 = (l.filter f)[j] := fun j hj => by simp [List.getD, hj]
 have hm : (l.filter f).getD i 0 ∈ l := (List.mem_filter.1 (getD_mem hi)).1
 obtain ⟨k, hk, e⟩ := mem_getD hm
 have h1 := rises_at h hk
 rw [e] at h1
 unfold risesAt
 have h2 : 0 < i → (l.filter f).getD (i - 1) 0 < (l.filter f).getD i 0 := fun h0 => by
  rw [hget i hi, hget (i - 1) (by omega)]
  exact List.pairwise_iff_getElem.1 hpw (i - 1) i (by omega) hi (by omega)
 by_cases h0 : 0 < i
 ·have := h2 h0
  simp only [Bool.not_or, Bool.and_eq_true, Bool.not_eq_true', decide_eq_false_iff_not, Bool.and_eq_false_imp, decide_eq_true_eq]
  exact ⟨⟨by omega, by omega⟩, fun _ => by omega⟩
 ·simp only [Bool.not_or, Bool.and_eq_true, Bool.not_eq_true', decide_eq_false_iff_not, Bool.and_eq_false_imp, decide_eq_true_eq]
  exact ⟨⟨by omega, by omega⟩, fun k => absurd k h0⟩

theorem but_err (hpe : p.err g = 0) (e : Int) : (⟨p.v, butE e p.e⟩ : Pt).err g = 0 := by
 obtain ⟨h1, h2, h3, h4⟩ := Pt.err_ok hpe
 unfold Pt.err
 rw [if_neg (by simp [h1]), if_neg (by rw [h2]; unfold butE; rw [rises_filter h3]; simp), if_pos]
 rw [List.all_eq_true]
 intro i hi
 have hi := List.mem_range.1 hi
 have hm : (butE e p.e).getD i 0 ∈ p.e := (mem_butE.1 (getD_mem hi)).1
 obtain ⟨k, hk, e2⟩ := mem_getD hm
 have := h4 k hk
 unfold Pt.okEdge
 show (decide ((g.ends ((butE e p.e).getD i 0).toNat).1 ∈ p.v) && decide ((g.ends ((butE e p.e).getD i 0).toNat).2 ∈ p.v)) = true
 rw [← e2, decide_eq_true this.1, decide_eq_true this.2]; rfl

theorem but_rest (hz : planErr g p turn same = 0) (e : Int) : restErr g p ⟨p.v, butE e p.e⟩ turn same = 0 := by
 unfold restErr
 rw [if_neg (by simp [hz]), if_pos ⟨but_err (zero_ok hz).1 e, subB_self _, subB_iff.2 fun x k => (mem_butE.1 k).1⟩]

theorem but_out {e : Int} (he : e ∈ p.e) (hn : p.e.Nodup) : outE p ⟨p.v, butE e p.e⟩ = [e] := by
 unfold outE
 show p.e.filter (fun x => decide (x ∉ butE e p.e)) = [e]
 have h1 : p.e.filter (fun x => decide (x ∉ butE e p.e)) = p.e.filter fun x => decide (x = e) := List.filter_congr fun x hx => by
  exact decide_eq_decide.2 ⟨fun k => Classical.byContradiction fun h => k (mem_butE.2 ⟨hx, h⟩), fun h k => (mem_butE.1 k).2 h⟩
 rw [h1]
 have h2 : (p.e.filter fun x => decide (x = e)).Nodup := hn.filter _
 have h3 : ∀ x ∈ p.e.filter fun x => decide (x = e), x = e := fun x hx => of_decide_eq_true (List.mem_filter.1 hx).2
 have h4 : e ∈ p.e.filter fun x => decide (x = e) := List.mem_filter.2 ⟨he, by simp⟩
 revert h2 h3 h4
 generalize p.e.filter (fun x => decide (x = e)) = l
 intro h2 h3 h4
 match l with
 | [] => simp at h4
 | [a] => rw [h3 a (by simp)]
 | a :: b :: m =>
  rw [h3 a (by simp), h3 b (by simp)] at h2
  simp at h2

theorem but_regs (hz : planErr g p turn same = 0) {e : Int} (he : e ∈ p.e) :
  (regionsOf g ⟨p.v, butE e p.e⟩ (restTurn (butE e p.e) turn) (restSame g p ⟨p.v, butE e p.e⟩ turn same)).length + (if lof g p turn same (2 * e) ≠ lof g p turn same (2 * e + 1) then 1 else 0) = (regionsOf g p turn same).length := by
 obtain ⟨hpe, hto⟩ := zero_ok hz
 have hq := but_err hpe e
 have h : Subs g p ⟨p.v, butE e p.e⟩ turn := ⟨hpe, hq, hto, fun x k => (mem_butE.1 k).1, fun _ k => k⟩
 have d1 : 2 * e ∈ p.darts := mem_darts.2 (by rwa [show 2 * e / 2 = e by omega])
 have hne : p.v ≠ [] := List.ne_nil_of_mem (h.pk.tail_mem d1).1
 have hz2 := rest_right hz hq h.sube h.subv
 have h1 := regs_count hz2 hne
 have h2 := (rest_counts hz h hne).2
 have h3 := cnt_regs hz
 have hR : Eqv (RegR g p turn same) := RegR.eqv g p turn same
 have hg2 := edges_in (turn := turn) h.pk (Stretch.all h.pk) (by rw [edges_all h.pk]; exact he)
 have hG : GenR g p ⟨p.v, butE e p.e⟩ turn same = Jn (RegR g p turn same) (2 * e) (2 * e + 1) := by
  unfold GenR
  rw [but_out he h.pk.en]
  rfl
 rw [hG] at h2
 have h1 : (roots g ⟨p.v, butE e p.e⟩).length + (regionsOf g ⟨p.v, butE e p.e⟩ (restTurn (butE e p.e) turn) (restSame g p ⟨p.v, butE e p.e⟩ turn same)).length = (walksOf g ⟨p.v, butE e p.e⟩ (restTurn (butE e p.e) turn)).length + 1 := h1
 have h2 : (roots g ⟨p.v, butE e p.e⟩).length + cnt (Jn (RegR g p turn same) (2 * e) (2 * e + 1)) (ground g p turn p.v) = (walksOf g ⟨p.v, butE e p.e⟩ (restTurn (butE e p.e) turn)).length + 1 := h2
 by_cases hl : lof g p turn same (2 * e) = lof g p turn same (2 * e + 1)
 ·rw [if_neg (by simpa using hl)]
  rw [cnt_join_same hR hl] at h2
  omega
 ·rw [if_pos hl]
  have := cnt_join hR hg2.1 hg2.2 hl
  omega
end
end Go.Proofs.Ytckjpaimbmlboaa.Plain
/- the law RestDrops: the walk. Conditions: a graph, a part, a plan that lie in memory and read so. -/
namespace Go.Proofs.Ytckjpaimbmlboaa
open Go.RowKit Go.Maps

theorem RowsOwn.shape9 {w : World} {B : Nat} {ov : Value} {vs : List Value} {ll : List (List Int)} (h : RowsOwn w B ov vs ll) : ∃ ao c, ov = .slice ao ll.length c := by
 rw [← h.len]
 exact owns_shape h.out

set_option maxRecDepth 100000 in
set_option maxHeartbeats 8000000 in
theorem restDrops_any (vg vp vx : Value) (g : Plain.Gr) (p : Plain.Pt) (turn same : List (List Int)) (e : Int) (w : World) (hg : GrAt w vg g) (hp : PtAt w vp p) (hx : PlAt w vx turn same) :
  Calls Try.prog 5 #[vg, vp, vx, .int .i64 e] w fun en w' => en = .returned (.bool true) ∧ Chg [] w w' := by
 have HPT := Lib.hid hp
 have HG := Lib.hid hg
 have HP := Lib.hid hp
 have HX := Lib.hid hx
 obtain ⟨eo, cap, rfl, hn, hm, hsm, hcell⟩ := hg
 obtain ⟨v1, v2, rfl, hv, he⟩ := hp
 obtain ⟨ao, ac, rfl, has, ham, hacell⟩ := hv
 obtain ⟨bo, bc, rfl, hbs, hbm, hbcell⟩ := he
 have HAC := Lib.hid hacell
 have HBC := Lib.hid hbcell
 obtain ⟨t1, t2, rfl, ht, hs⟩ := hx
 have HT := Lib.hid ht
 have HS := Lib.hid hs
 obtain ⟨tno, tc, rfl, htm, -⟩ := ht
 obtain ⟨so, sc, rfl, hsm2, hsc⟩ := hs
 obtain ⟨-, -, hc1⟩ := box_two w #[.int .i64 g.n, .slice eo g.e.length cap] #[.slice ao p.v.length ac, .slice bo p.e.length bc] 24 27
 obtain ⟨-, hc3⟩ := box_three w #[.int .i64 g.n, .slice eo g.e.length cap] #[.slice ao p.v.length ac, .slice bo p.e.length bc] #[.slice tno turn.length tc, .slice so same.length sc] 24 27 30
 have HC1 := Lib.hid (hc1.trans hc3 (by simp))
 have HBXS := Lib.hid (fun w2 h => three_boxes w (g := g) (p := p) (turn := turn) (same := same) (eo := eo) (ao := ao) (bo := bo) (tno := tno) (so := so) (cap := cap) (ac := ac) (bc := bc) (tc := tc) (sc := sc) (w2 := w2) h)
 clear hcell hacell hbcell hsm hbs has hn hc1 hc3 hsc
 clear ham hm
 go_enter Try.func5, Try.ntmps5
 go_wp2_with fail
 refine (awake09_any _).mono ?_
 rintro en w2 ⟨rfl, hc2⟩
 obtain ⟨x0, x1, y0, y1, z0, z1, hsz⟩ := HBXS.out w2 hc2
 have HC2 := Lib.hid (HC1.out.trans hc2 (by simp))
 have HC2B := Lib.hid hc2
 clear hc2
 go_wp2_with fail
 refine (small8_any _ _ _ g p turn same _ (HG.out.fresh HC2.out) (HP.out.fresh HC2.out) (HX.out.fresh HC2.out)).mono ?_
 rintro en w3 ⟨rfl, hc3⟩
 have HC3 := Lib.hid (HC2.out.trans hc3 (by simp))
 have HC3B := Lib.hid (HC2B.out.trans hc3 (by simp))
 clear x0 x1 y0 y1 z0 z1 hsz hc3
 obtain ⟨x0, x1, y0, y1, z0, z1, hsz⟩ := HBXS.out w3 HC3B.out
 cases hb : Plain.small8 g p turn same with
 | false =>
  clear hb
  rw [show bit false = 0 from rfl]
  go_wp2_with fail
  refine (awake09_any _).mono ?_
  rintro en w4 ⟨rfl, hc4⟩
  have HC4 := Lib.hid (HC3.out.trans hc4 (by simp))
  clear hc4
  go_wp2
  go_ret
  exact ⟨rfl, HC4.out⟩
 | true =>
  obtain ⟨b1, b2, b3, b4, b5, b6⟩ := Plain.small8_is hb
  have HB4 := Lib.hid b4
  have HB6 := Lib.hid (fun i => Nat.le_trans (b6 i) (by omega : 60 ≤ 10000))
  have HROWS := Lib.hid (Plain.small8_four hb).2
  have HRL := Lib.hid (fun v => Nat.lt_of_le_of_lt (Plain.small8_rows hb v) (by decide : 200 < 4294967296))
  clear hb b4 b6
  rw [show bit true = 1 from rfl]
  go_wp2_with fail
  refine (right_any _ _ _ g p turn same _ (by omega) (by omega) (by omega) (by have := HB4.out; omega) (by omega) HB6.out (HG.out.fresh HC3.out) (HP.out.fresh HC3.out) (HX.out.fresh HC3.out)).mono ?_
  rintro en w4 ⟨rfl, hc4⟩
  have HC4 := Lib.hid (HC3.out.trans hc4 (by simp))
  have HC4B := Lib.hid (HC3B.out.trans hc4 (by simp))
  clear x0 x1 y0 y1 z0 z1 hsz hc4
  obtain ⟨x0, x1, y0, y1, z0, z1, hsz⟩ := HBXS.out w4 HC4B.out
  by_cases hz : Plain.planErr g p turn same = 0
  ·have HZ := Lib.hid hz
   rw [hz]
   clear hz
   go_wp2_with fail
   refine (in_any _ p.e e _ (by obtain ⟨v1, v2, e1, -, he⟩ := HP.out.fresh HC4.out; cases e1; exact he)).mono ?_
   rintro en w5 ⟨rfl, hc5⟩
   have HC5 := Lib.hid (HC4.out.trans hc5 (by simp))
   have HC5B := Lib.hid (HC4B.out.trans hc5 (by simp))
   clear x0 x1 y0 y1 z0 z1 hsz hc5
   obtain ⟨x0, x1, y0, y1, z0, z1, hsz⟩ := HBXS.out w5 HC5B.out
   by_cases he : e ∈ p.e
   ·obtain ⟨hpe, hto⟩ := Plain.zero_ok HZ.out
    have HPE := Lib.hid hpe
    have her := Plain.Pt.edge_in hpe he
    have hgl := (Plain.Gr.err_ok (Plain.Pt.err_ok hpe).1).2.2.1
    have hgn := (Plain.Gr.err_ok (Plain.Pt.err_ok hpe).1).1
    obtain ⟨ne, rfl⟩ : ∃ ne : Nat, e = (ne : Int) := ⟨e.toNat, by omega⟩
    have hne : ne < 2048 := by omega
    have HE := Lib.hid he
    have HBR := Lib.hid (Plain.but_rest HZ.out (ne : Int))
    have HBG := Lib.hid (Plain.but_regs HZ.out he)
    have HRZ := Lib.hid (show Plain.planErr g ⟨p.v, Plain.butE (ne : Int) p.e⟩ (Plain.restTurn (Plain.butE (ne : Int) p.e) turn) (Plain.restSame g p ⟨p.v, Plain.butE (ne : Int) p.e⟩ turn same) = 0 from by
     obtain ⟨k1, k2, k3, k4⟩ := Plain.restErr_is (Plain.but_rest HZ.out (ne : Int))
     exact Plain.rest_right k1 k2 k4 k3)
    have ha : Chg [] w5 (w5.alloc (.cells #[.slice ao p.v.length ac, .slice none 0 0] 27)) := (Chg.refl [] w5).alloc _
    have hheap := heap_alloc_new w5 (.cells #[.slice ao p.v.length ac, .slice none 0 0] 27)
    have HA := Lib.hid ha
    have HQ0 := Lib.hid hheap
    rw [decide_eq_true he]
    clear he hpe hto her hgl hgn ha hheap
    go_wp2
    obtain ⟨qb, hqb⟩ : ∃ b, w5.heap.size = b := ⟨_, rfl⟩
    have hqs : (w5.alloc (.cells #[.slice ao p.v.length ac, .slice none 0 0] 27)).heap.size = qb + 1 := by rw [← hqb]; simp
    have HQ3 := Lib.hid (show w.heap.size + 3 ≤ qb by rw [← hqb]; exact hsz)
    generalize (w5.alloc (.cells #[.slice ao p.v.length ac, .slice none 0 0] 27)) = w6 at *
    rw [hqb] at HQ0 ⊢
    have HQS := Lib.hid hqs
    have HC6 := Lib.hid (HC5.out.trans HA.out (by simp))
    have HC6B := Lib.hid (HC5B.out.trans HA.out (by simp))
    clear hqs hqb x0 x1 y0 y1 z0 z1 hsz
    go_loopw [10] (fun c wr => ∃ k : Nat, k ≤ p.e.length ∧ c = .int .i64 k ∧ (∃ ev, wr.heap[qb]? = some (.cells #[.slice ao p.v.length ac, ev] 27 (0, 0)) ∧ RowAt wr (qb + 1) ev (Plain.butE (ne : Int) (p.e.take k))) ∧ Chg [qb] w6 wr) (fun c _ => p.e.length - (intOf c).toNat)
    case atStart => exact ⟨0, Nat.zero_le _, rfl, ⟨_, HQ0.out, rowNil' _ _⟩, Chg.refl _ _⟩
    case round =>
     obtain ⟨k, hk, rfl, ⟨ev, hqh, hrow⟩, hc⟩ := hrel
     have HQH := Lib.hid hqh
     have HROW := Lib.hid hrow
     have HC := Lib.hid hc
     have HCW := Lib.hid (HC6.out.trans hc (fun j hj => Or.inr (by simp at hj; have := HQ3.out; omega)))
     have HCB := Lib.hid (show Chg [] _ wr from HC6B.out.trans hc (fun j hj => Or.inr (by simp at hj; have := HQ3.out; simp; omega)))
     obtain ⟨uo, uc, rfl⟩ := hrow.shape
     have hbl := Plain.butE_len (ne : Int) (p.e.take k)
     rw [List.length_take] at hbl
     obtain ⟨x0, x1, y0, y1, z0, z1, hsz⟩ := HBXS.out wr HCB.out
     by_cases hlt : k < p.e.length
     ·obtain ⟨bb, boff, rfl, ec⟩ := IntsAt.cellAt (show IntsAt w (.slice bo p.e.length bc) p.e by obtain ⟨v1, v2, e1, -, he⟩ := HP.out; cases e1; exact he) hlt
      have ck := HCW.out.cell ec (by simp)
      have HBB := Lib.hid (show bb < w.heap.size from World.block_lt_of_cell? w _ ec)
      have HSN := Lib.hid (Plain.butE_snoc (e := (ne : Int)) hlt)
      have hzx : I64 (p.e.getD k 0) := by
       obtain ⟨v1, v2, e1, -, he⟩ := HP.out
       cases e1
       obtain ⟨_, _, _, h3, _, _⟩ := he
       exact h3 _ (Plain.getD_mem hlt)
      obtain ⟨ei, hei⟩ : ∃ x, p.e.getD k 0 = x := ⟨_, rfl⟩
      rw [hei] at ck HSN hzx
      clear ec hei hc hqh hrow
      by_cases hee : ei = (ne : Int)
      ·have bx : (ei != (ne : Int)) = false := by simp [hee]
       have HK := Lib.hid (HSN.out.trans (if_pos hee))
       clear hee
       go_wp2
       go_roundw
       case rel => exact ⟨k + 1, by omega, by go_num, ⟨_, HQH.out, by rw [HK.out]; exact HROW.out⟩, HC.out⟩
       case measure => simp [intOf]; omega
      ·have bx : (ei != (ne : Int)) = true := by simpa using hee
       have HK := Lib.hid (HSN.out.trans (if_neg hee))
       have o0 := (cell_of_row _ _ 1 _ _ _ HQH.out).trans (show _ = some (Value.slice uo (Plain.butE (ne : Int) (p.e.take k)).length uc) from rfl)
       have n1 : qb ∉ foot (.slice uo (Plain.butE (ne : Int) (p.e.take k)).length uc) := fun m => by have := (HROW.out.low qb (by rw [← HROW.out.foot]; exact m)).1; omega
       have n2 : w.heap.size + 1 ∉ foot (.slice uo (Plain.butE (ne : Int) (p.e.take k)).length uc) := fun m => by have := (HROW.out.low _ (by rw [← HROW.out.foot]; exact m)).1; have := HQ3.out; omega
       have n3 : bb ∉ foot (.slice uo (Plain.butE (ne : Int) (p.e.take k)).length uc) := fun m => by have := (HROW.out.low _ (by rw [← HROW.out.foot]; exact m)).1; have := HQ3.out; have := HBB.out; omega
       have N1 := Lib.hid n1
       have N2 := Lib.hid n2
       have N3 := Lib.hid n3
       have HSZ5 := Lib.hid (show qb + 1 ≤ wr.heap.size by rw [← HQS.out]; exact HC.out.size)
       clear hee n1 n2 n3
       go_wp2
       have hS0 : (fun w' : World => w'.cell? ⟨qb, 1, none⟩ = some (.slice uo (Plain.butE (ne : Int) (p.e.take k)).length uc) ∧ w'.cell? ⟨w.heap.size + 1, 1, none⟩ = some (.slice (some ⟨bb, boff, none⟩) p.e.length bc) ∧ w'.cell? ⟨bb, boff + k, none⟩ = some (.int .i64 (ei : Int))) wr.drew := ⟨o0, y1, ck⟩
       refine wp_region_way (fun w' : World => w'.cell? ⟨qb, 1, none⟩ = some (.slice uo (Plain.butE (ne : Int) (p.e.take k)).length uc) ∧ w'.cell? ⟨w.heap.size + 1, 1, none⟩ = some (.slice (some ⟨bb, boff, none⟩) p.e.length bc) ∧ w'.cell? ⟨bb, boff + k, none⟩ = some (.int .i64 (ei : Int))) [0, 1, 2, 3, 4, 5, 6, 9] (Way.line [0, 1, 2, 3, 4, 5, 6, 7, 8, 9, 10] .done) (by kernel_rfl) (by kernel_rfl) ?_
       simp only [Way.line]
       repeat
        first
         | (refine along_off rfl (by rfl) (by rfl) (fun _ _ _ h => h) hS0 ?_; simp only [Act.put, lz1, lz2, lz3, lz4, lz5, lz6])
         | (refine along_read (v := ?_) rfl (by rfl) (by rfl) (fun _ _ _ h => h) hS0 (fun w' hS' => ?_) ?_; rotate_left; (focus ((try dsimp only at hS'); go_simp; try with_reducible rfl)); simp only [Act.put, lz1, lz2, lz3, lz4, lz5, lz6])
         | (refine along_skip rfl (by rfl) (by rfl) hS0 ?_; simp only [Act.put, lz1, lz2, lz3, lz4, lz5, lz6])
       refine along_op rfl (by rfl) (by rfl) (fun K hK => ?_)
       go_simp
       have ca := ((Chg.refl [] wr).alloc (.cells #[.int .i64 (ei : Int)] 3)).drew
       have CA := Lib.hid ca
       have hS1 : (fun w' : World => w'.cell? ⟨qb, 1, none⟩ = some (.slice uo (Plain.butE (ne : Int) (p.e.take k)).length uc) ∧ w'.cell? ⟨w.heap.size + 1, 1, none⟩ = some (.slice (some ⟨bb, boff, none⟩) p.e.length bc) ∧ w'.cell? ⟨bb, boff + k, none⟩ = some (.int .i64 (ei : Int))) (wr.alloc (.cells #[.int .i64 (ei : Int)] 3)).drew := ⟨ca.cell o0 (by simp), ca.cell y1 (by simp), ca.cell ck (by simp)⟩
       have HLI := Lib.hid ((lit_ints wr hzx).fresh (Chg.refl [] _).drew)
       have HSA := Lib.hid ca.size
       refine hK.out _ _ (fun _ => hS1) ?_
       clear hK K hS0 ca o0 x0 x1 y0 y1 z0 z1 hsz ck
       generalize (wr.alloc (.cells #[.int .i64 (ei : Int)] 3)).drew = wa at *
       generalize wr.heap.size = nl at *
       try simp only [Act.put, lz1, lz2, lz3, lz4, lz5, lz6]
       refine along_op rfl (by rfl) (by rfl) (fun K hK => ?_)
       simp only [List.getElem_toArray, List.getElem_cons_zero, List.getElem_cons_succ]
       refine wp_app_readK _ _ rfl (B := qb + 1) rfl rfl (HROW.out.chg CA.out (by simp)) HLI.out (Nat.le_trans HSZ5.out HSA.out) (by simp; omega) fun v' w7 r7 c7 f7 => ?_
       obtain ⟨vo, vc, rfl⟩ := r7.shape
       have hS2 : (fun w' : World => w'.cell? ⟨qb, 1, none⟩ = some (.slice uo (Plain.butE (ne : Int) (p.e.take k)).length uc) ∧ w'.cell? ⟨w.heap.size + 1, 1, none⟩ = some (.slice (some ⟨bb, boff, none⟩) p.e.length bc) ∧ w'.cell? ⟨bb, boff + k, none⟩ = some (.int .i64 (ei : Int))) w7 := ⟨c7.cell hS1.1 N1.out, c7.cell hS1.2.1 N2.out, c7.cell hS1.2.2 N3.out⟩
       have HO7 := Lib.hid (c7.heap (CA.out.heap HQH.out (by simp)) N1.out)
       have o7 := hS2.1
       have z7 : w7.frozen? ⟨qb, 1, none⟩ = false := by simp [World.frozen?, HO7.out]
       have HR7 := Lib.hid r7
       have HC7 := Lib.hid c7
       refine hK.out _ _ (fun _ => hS2) ?_
       clear hK K hS1 r7 c7 f7
       try simp only [Act.put, List.setIfInBounds_toArray, List.set_cons_zero, List.set_cons_succ]
       repeat
        first
         | (refine along_off rfl (by rfl) (by rfl) (fun _ _ _ h => h) hS2 ?_; simp only [Act.put, lz1, lz2, lz3, lz4, lz5, lz6])
         | (refine along_read (v := ?_) rfl (by rfl) (by rfl) (fun _ _ _ h => h) hS2 (fun w' hS' => ?_) ?_; rotate_left; (focus ((try dsimp only at hS'); go_simp; try with_reducible rfl)); simp only [Act.put, lz1, lz2, lz3, lz4, lz5, lz6])
         | (refine along_skip rfl (by rfl) (by rfl) hS2 ?_; simp only [Act.put, lz1, lz2, lz3, lz4, lz5, lz6])
       have hR := HR7.out
       have hC7 := HC7.out
       have he : (Plain.butE (ne : Int) (p.e.take k) ++ [(ei : Int)]).length = (Plain.butE (ne : Int) (p.e.take k)).length + 1 := by simp
       rw [he] at hR
       have hset : Chg [qb] w7 (w7.setCell ⟨qb, 1, none⟩ (.slice vo ((Plain.butE (ne : Int) (p.e.take k)).length + 1) vc)) := (Chg.refl _ w7).setCell (Or.inl (by simp)) _
       have hrow2 := hR.chg hset (fun b hb m => by have := (hR.low b hb).1; simp at m; omega)
       have HROW2 := Lib.hid hrow2
       have HH2 := Lib.hid (heap_setCell_same HO7.out 1 (.slice vo ((Plain.butE (ne : Int) (p.e.take k)).length + 1) vc))
       have HCF := Lib.hid (show Chg [qb] w6 (w7.setCell ⟨qb, 1, none⟩ (.slice vo ((Plain.butE (ne : Int) (p.e.take k)).length + 1) vc)) from ((HC.out.trans CA.out (by simp)).trans hC7 (fun j hj => Or.inr (by rw [HQS.out]; exact (HROW.out.low j (by rw [← HROW.out.foot]; exact hj)).1))).trans hset (fun j hj => Or.inl hj))
       clear hR he hC7 hset hrow2
       refine along_op rfl (by rfl) (by rfl) (fun K hK => ?_)
       go_simp
       refine hK.out _ _ (fun h => absurd h (Bool.eq_false_iff.1 (by kernel_rfl))) ?_
       clear hK K hS2 o7 z7
       try simp only [Act.put, lz1, lz2, lz3, lz4, lz5, lz6]
       refine along_done ?_
       go_wp2
       go_roundw
       case rel => exact ⟨k + 1, by omega, by go_num, ⟨_, HH2.out, by rw [HK.out]; exact HROW2.out⟩, HCF.out⟩
       case measure => simp [intOf]; omega
     ·have ek : k = p.e.length := by omega
      subst ek
      rw [List.take_length] at HROW HQH hbl
      have q0 := (cell_of_row _ _ 0 _ _ _ HQH.out).trans (show _ = some (Value.slice ao p.v.length ac) from rfl)
      have q1 := (cell_of_row _ _ 1 _ _ _ HQH.out).trans (show _ = some (Value.slice uo (Plain.butE (ne : Int) p.e).length uc) from rfl)
      have Q0 := Lib.hid q0
      have Q1 := Lib.hid q1
      have HQP := Lib.hid (show PtAt wr (.agg #[.slice ao p.v.length ac, .slice uo (Plain.butE (ne : Int) p.e).length uc]) ⟨p.v, Plain.butE (ne : Int) p.e⟩ from by
       obtain ⟨v1, v2, e1, hv, -⟩ := HP.out.fresh HCW.out
       cases e1
       exact ⟨_, _, rfl, hv, HROW.out.ints⟩)
      have hbl2 : (Plain.butE (ne : Int) p.e).length ≤ 60 := by omega
      obtain ⟨t1, t2, t3, t4, t5⟩ := Plain.rest_sizes HBR.out (show p.v.length ≤ 60 by omega) hbl2 b3 HROWS.out
      have HT2 := Lib.hid t2
      have HT5 := Lib.hid t5
      clear t2 t5 hqh hrow hc hbl hlt
      go_wp2_with fail
      refine (restTo_any _ _ _ _ g p ⟨p.v, Plain.butE (ne : Int) p.e⟩ turn same _ (by omega) (by omega) (show (Plain.butE (ne : Int) p.e).length ≤ 10000 by omega) (show p.v.length ≤ 10000 by omega) (by omega) (by have := HB4.out; omega) (by omega) HB6.out (HG.out.fresh HCW.out) (HP.out.fresh HCW.out) (HX.out.fresh HCW.out) HQP.out).mono ?_
      rintro en w7 ⟨ov, rfl, -, hyes, hc7⟩
      have hpl := hyes HBR.out
      rw [HBR.out]
      have HPL := Lib.hid hpl
      obtain ⟨u1, u2, rfl, ⟨o1, k1, rfl, -⟩, ⟨o2, k2, rfl, -⟩⟩ := hpl
      obtain ⟨A1, hA1⟩ : ∃ x, Plain.restTurn (Plain.butE (ne : Int) p.e) turn = x := ⟨_, rfl⟩
      obtain ⟨A2, hA2⟩ : ∃ x, Plain.restSame g p ⟨p.v, Plain.butE (ne : Int) p.e⟩ turn same = x := ⟨_, rfl⟩
      have hA1' : Plain.restTurn (Plain.Pt.e ⟨p.v, Plain.butE (ne : Int) p.e⟩) turn = A1 := hA1
      rw [hA1'] at t1 t3 HT2 HPL ⊢
      rw [hA1] at HRZ HBG
      rw [hA2] at t4 HT5 HPL HRZ HBG ⊢
      have HC7 := Lib.hid (HCW.out.trans hc7 (by simp))
      have HC7B := Lib.hid (HCB.out.trans hc7 (by simp))
      have HQP7 := Lib.hid (HQP.out.fresh hc7)
      have Q07 := Lib.hid (hc7.cell Q0.out (by simp))
      have Q17 := Lib.hid (hc7.cell Q1.out (by simp))
      have hset : Chg [] w7 (w7.alloc (.cells #[.slice o1 A1.length k1, .slice o2 A2.length k2] 30)) := (Chg.refl [] w7).alloc _
      have hheap := heap_alloc_new w7 (.cells #[.slice o1 A1.length k1, .slice o2 A2.length k2] 30)
      have HN0 := Lib.hid ((cell_of_row _ _ 0 _ _ _ hheap).trans (show _ = some (Value.slice o1 A1.length k1) from rfl))
      have HN1 := Lib.hid ((cell_of_row _ _ 1 _ _ _ hheap).trans (show _ = some (Value.slice o2 A2.length k2) from rfl))
      have HC8 := Lib.hid (HC7.out.trans hset (by simp))
      have HC8B := Lib.hid (HC7B.out.trans hset (by simp))
      have HC78 := Lib.hid hset
      clear x0 x1 y0 y1 z0 z1 hsz q0 q1 hyes hc7 hset hheap hA1 hA2 hA1'
      obtain ⟨x0, x1, y0, y1, z0, z1, hsz⟩ := HBXS.out _ HC8B.out
      go_wp2_with fail
      generalize (w7.alloc (.cells #[.slice o1 A1.length k1, .slice o2 A2.length k2] 30)) = w8 at *
      generalize w7.heap.size = yb at *
      refine (regions_any _ _ _ g p turn same _ (by omega) (by omega) (by omega) (by have := HB4.out; omega) (by omega) HB6.out (HG.out.fresh HC8.out) (HP.out.fresh HC8.out) (HX.out.fresh HC8.out)).mono ?_
      rintro en w9 ⟨ov1, rfl, -, hyes1, hc9⟩
      obtain ⟨vs1, ll1, hro1, hpm1, -, -⟩ := hyes1 HZ.out
      rw [HZ.out]
      have hl1 : ll1.length = (Plain.regionsOf g p turn same).length := by
       have hpt := Plain.parted HZ.out (Plain.walks_ok (Plain.zero_ok HZ.out).1 (Plain.zero_ok HZ.out).2)
       exact hpm1.length_eq.trans ((Plain.regs_ok hpt).perm.length_eq).symm
      obtain ⟨ro1, rc1, rfl⟩ := hro1.shape9
      clear hyes1 hpm1 hro1
      obtain ⟨n1l, hn1l⟩ : ∃ n, ll1.length = n := ⟨_, rfl⟩
      rw [hn1l] at hl1 ⊢
      have HL1 := Lib.hid hl1
      clear hl1 hn1l
      have HC9 := Lib.hid (HC8.out.trans hc9 (by simp))
      have HC9B := Lib.hid (HC8B.out.trans hc9 (by simp))
      have HC79 := Lib.hid (HC78.out.trans hc9 (by simp))
      have n0 := hc9.cell HN0.out (by simp)
      have n1 := hc9.cell HN1.out (by simp)
      have q0 := HC79.out.cell Q07.out (by simp)
      have q1 := HC79.out.cell Q17.out (by simp)
      clear x0 x1 y0 y1 z0 z1 hsz hc9
      obtain ⟨x0, x1, y0, y1, z0, z1, hsz⟩ := HBXS.out _ HC9B.out
      go_wp2_with fail
      refine (regions_any _ _ _ g ⟨p.v, Plain.butE (ne : Int) p.e⟩ A1 A2 _ (show (Plain.butE (ne : Int) p.e).length ≤ 100000 by omega) (show p.v.length ≤ 100000 by omega) (by omega) (by omega) (by omega) (fun i => Nat.le_trans (HT5.out i) (by decide)) (HG.out.fresh HC9.out) (HQP7.out.fresh HC79.out) (HPL.out.fresh HC79.out)).mono ?_
      rintro en w10 ⟨ov2, rfl, -, hyes2, hc10⟩
      obtain ⟨vs2, ll2, hro2, hpm2, -, -⟩ := hyes2 HRZ.out
      rw [HRZ.out]
      have hl2 : ll2.length = (Plain.regionsOf g ⟨p.v, Plain.butE (ne : Int) p.e⟩ A1 A2).length := by
       have hpt := Plain.parted HRZ.out (Plain.walks_ok (Plain.zero_ok HRZ.out).1 (Plain.zero_ok HRZ.out).2)
       exact hpm2.length_eq.trans ((Plain.regs_ok hpt).perm.length_eq).symm
      obtain ⟨ro2, rc2, rfl⟩ := hro2.shape9
      clear hyes2 hpm2 hro2
      obtain ⟨n2l, hn2l⟩ : ∃ n, ll2.length = n := ⟨_, rfl⟩
      rw [hn2l] at hl2 ⊢
      have HL2 := Lib.hid hl2
      clear hl2 hn2l
      have HC10 := Lib.hid (HC9.out.trans hc10 (by simp))
      have HC10B := Lib.hid (HC9B.out.trans hc10 (by simp))
      have hd := Plain.edge_darts HE.out
      have HD0 := Lib.hid (Plain.left_dart (same := same) (turn := turn) HZ.out hd.1)
      have HD1 := Lib.hid (Plain.left_dart (same := same) (turn := turn) HZ.out hd.2)
      have hla := Plain.lf_lt HZ.out HD0.out
      have hlb := Plain.lf_lt HZ.out HD1.out
      have w2n : IntKind.i64.wrap (2 * (ne : Int)) = 2 * (ne : Int) := IntWalk.i64_in _ (by omega)
      have w2n1 : IntKind.i64.wrap (2 * (ne : Int) + 1) = 2 * (ne : Int) + 1 := IntWalk.i64_in _ (by omega)
      have hbg := HBG.out
      rw [← HL1.out, ← HL2.out] at hbg
      have hrl := Plain.regs_len (g := g) (p := p) (turn := turn) (same := same) (show p.e.length ≤ 1000 by omega) (show p.v.length ≤ 1000 by omega) HZ.out
      rw [← HL1.out] at hrl
      unfold Plain.lof at hbg
      obtain ⟨la, hla2⟩ : ∃ x, Plain.lf (Plain.leftOf (Plain.regionsOf g p turn same) (Plain.walksOf g p turn)) (2 * (ne : Int)) = x := ⟨_, rfl⟩
      obtain ⟨lb, hlb2⟩ : ∃ x, Plain.lf (Plain.leftOf (Plain.regionsOf g p turn same) (Plain.walksOf g p turn)) (2 * (ne : Int) + 1) = x := ⟨_, rfl⟩
      have HLA := Lib.hid hla2
      have HLB := Lib.hid hlb2
      rw [hla2, hlb2] at hbg
      have HBL := Lib.hid hbg
      clear x0 x1 y0 y1 z0 z1 hsz hc10 n0 n1 q0 q1 hd hla hlb hbg hla2 hlb2
      obtain ⟨x0, x1, y0, y1, z0, z1, hsz⟩ := HBXS.out _ HC10B.out
      go_wp2
      have hS0 : Chg [] w10 w10.drew := (Chg.refl [] w10).drew
      refine wp_region_way (Chg [] w10) [0, 1, 2, 3, 4, 6, 7, 8, 9, 10, 11, 13] (Way.line [0, 1, 2, 3, 4, 6, 7, 8, 9, 10, 11, 5, 12, 13] .done) (by kernel_rfl) (by kernel_rfl) ?_
      simp only [Way.line]
      repeat
       first
        | (refine along_off rfl (by rfl) (by rfl) (fun _ _ _ h => h) hS0 ?_; simp only [Act.put, lz1, lz2, lz3, lz4, lz5, lz6])
        | (refine along_read (v := ?_) rfl (by rfl) (by rfl) (fun _ _ _ h => h) hS0 (fun w' hS' => ?_) ?_; rotate_left; (focus (have rd0 := hS'.cell x0 (by simp); have rd1 := hS'.cell x1 (by simp); have rd2 := hS'.cell y0 (by simp); have rd3 := hS'.cell y1 (by simp); have rd4 := hS'.cell z0 (by simp); have rd5 := hS'.cell z1 (by simp); clear hS'; go_simp; try with_reducible rfl)); simp only [Act.put, lz1, lz2, lz3, lz4, lz5, lz6])
        | (refine along_skip rfl (by rfl) (by rfl) hS0 ?_; simp only [Act.put, lz1, lz2, lz3, lz4, lz5, lz6])
      refine along_op rfl (by rfl) (by rfl) (fun K hK => ?_)
      go_simp
      refine (refLeft_any _ _ _ g p turn same (2 * (ne : Int)) _ (by omega) (by omega) HRL.out (by omega) HZ.out HD0.out (HG.out.fresh (HC10.out.trans hS0 (by simp))) (HP.out.fresh (HC10.out.trans hS0 (by simp))) (HX.out.fresh (HC10.out.trans hS0 (by simp)))).mono ?_
      rintro e w11 ⟨rfl, hcx⟩
      have hS1 := hS0.trans hcx (by simp)
      clear hS0 hcx
      have hS0 := hS1
      clear hS1
      refine hK.out _ _ (fun _ => hS0) ?_
      clear hK K
      try simp only [Act.put, lz1, lz2, lz3, lz4, lz5, lz6]
      rw [HLA.out]
      repeat
       first
        | (refine along_off rfl (by rfl) (by rfl) (fun _ _ _ h => h) hS0 ?_; simp only [Act.put, lz1, lz2, lz3, lz4, lz5, lz6])
        | (refine along_read (v := ?_) rfl (by rfl) (by rfl) (fun _ _ _ h => h) hS0 (fun w' hS' => ?_) ?_; rotate_left; (focus (have rd0 := hS'.cell x0 (by simp); have rd1 := hS'.cell x1 (by simp); have rd2 := hS'.cell y0 (by simp); have rd3 := hS'.cell y1 (by simp); have rd4 := hS'.cell z0 (by simp); have rd5 := hS'.cell z1 (by simp); clear hS'; go_simp; try with_reducible rfl)); simp only [Act.put, lz1, lz2, lz3, lz4, lz5, lz6])
        | (refine along_skip rfl (by rfl) (by rfl) hS0 ?_; simp only [Act.put, lz1, lz2, lz3, lz4, lz5, lz6])
      refine along_op rfl (by rfl) (by rfl) (fun K hK => ?_)
      go_simp
      refine (refLeft_any _ _ _ g p turn same (2 * (ne : Int) + 1) _ (by omega) (by omega) HRL.out (by omega) HZ.out HD1.out (HG.out.fresh (HC10.out.trans hS0 (by simp))) (HP.out.fresh (HC10.out.trans hS0 (by simp))) (HX.out.fresh (HC10.out.trans hS0 (by simp)))).mono ?_
      rintro e w12 ⟨rfl, hcx⟩
      have hS1 := hS0.trans hcx (by simp)
      clear hS0 hcx
      have hS0 := hS1
      clear hS1
      refine hK.out _ _ (fun _ => hS0) ?_
      clear hK K
      try simp only [Act.put, lz1, lz2, lz3, lz4, lz5, lz6]
      rw [HLB.out]
      repeat
       first
        | (refine along_off rfl (by rfl) (by rfl) (fun _ _ _ h => h) hS0 ?_; simp only [Act.put, lz1, lz2, lz3, lz4, lz5, lz6])
        | (refine along_read (v := ?_) rfl (by rfl) (by rfl) (fun _ _ _ h => h) hS0 (fun w' hS' => ?_) ?_; rotate_left; (focus (have rd0 := hS'.cell x0 (by simp); have rd1 := hS'.cell x1 (by simp); have rd2 := hS'.cell y0 (by simp); have rd3 := hS'.cell y1 (by simp); have rd4 := hS'.cell z0 (by simp); have rd5 := hS'.cell z1 (by simp); clear hS'; go_simp; try with_reducible rfl)); simp only [Act.put, lz1, lz2, lz3, lz4, lz5, lz6])
        | (refine along_skip rfl (by rfl) (by rfl) hS0 ?_; simp only [Act.put, lz1, lz2, lz3, lz4, lz5, lz6])
      refine along_done ?_
      have HCF := Lib.hid (HC10.out.trans hS0 (by simp))
      clear x0 x1 y0 y1 z0 z1 hsz hS0
      by_cases hll : la = lb
      ·have bx : (la != lb) = false := by simp [hll]
       have HNN := Lib.hid (show n2l = n1l by have := HBL.out; rw [if_neg (by simpa using hll)] at this; omega)
       have hwr : IntKind.i64.wrap ((n1l : Int) - 0) = (n1l : Int) := by rw [Int.sub_zero]; exact IntWalk.i64_in _ (by omega)
       have hwr2 : IntKind.i64.wrap (n1l : Int) = (n1l : Int) := IntWalk.i64_in _ (by omega)
       clear hll
       go_wp2
       go_ret
       exact ⟨ret_bool (by rw [HNN.out]; simp), HCF.out⟩
      ·have bx : (la != lb) = true := by simpa using hll
       have HNN := Lib.hid (show n2l + 1 = n1l by have := HBL.out; rw [if_pos hll] at this; omega)
       have hwr : IntKind.i64.wrap ((n1l : Int) - 1) = (n1l : Int) - 1 := IntWalk.i64_in _ (by omega)
       clear hll
       go_wp2
       go_ret
       exact ⟨ret_bool (by have := HNN.out; simp; omega), HCF.out⟩
   ·rw [decide_eq_false he]
    clear he
    go_wp2_with fail
    refine (awake09_any _).mono ?_
    rintro en w6 ⟨rfl, hc6⟩
    have HC6 := Lib.hid (HC5.out.trans hc6 (by simp))
    clear hc6
    go_wp2
    go_ret
    exact ⟨rfl, HC6.out⟩
  ·obtain ⟨er, her⟩ : ∃ er, Plain.planErr g p turn same = er := ⟨_, rfl⟩
   have hb : (er != 0) = true := by rw [← her]; simpa using hz
   rw [her]
   clear hz her
   go_wp2_with fail
   refine (awake09_any _).mono ?_
   rintro en w6 ⟨rfl, hc6⟩
   have HC6 := Lib.hid (HC4.out.trans hc6 (by simp))
   clear hc6
   go_wp2
   go_ret
   exact ⟨rfl, HC6.out⟩
end Go.Proofs.Ytckjpaimbmlboaa
/- The law RestDrops is proved: without one edge a drawing has a region less, if the edge has two beside it. No condition: every input. -/
namespace Go.Proofs.Ytckjpaimbmlboaa.restDrops
open Go.ChangeShapes Go.WideShapes Go.ChangeAt Go.RowKit
set_option linter.unusedVariables false

theorem own : ownKnob Try.prog.godebug = none := by kernel_rfl
theorem laidOut : laidOutB Try.prog = true := by kernel_rfl

set_option maxRecDepth 100000 in
theorem lifted (os : Os) (started : os.Started) (H : Type) (enc : TypeId × Value → H) :
  ReturnsInHanded {} Try.checked os 5 .any (Rows.restDropsSpec.pre6 enc Try.prog Try.f5 Rows.restDropsRow.domain false) (Rows.restDropsSpec.post enc Try.prog Try.f5 false true false false) := by
 refine returnsInHanded_of_change (C := Try.checked) own started (by kernel_rfl) Try.func5
  (ChangeSpec.witness6 (enc := enc) (C := Try.checked) false ⟨#[], #[.agg #[.int .i64 0, .slice none 0 0], .agg #[.slice none 0 0, .slice none 0 0], .agg #[.slice none 0 0, .slice none 0 0], .int .i64 0], []⟩ 8 (by kernel_rfl) (by kernel_rfl) (by kernel_rfl) (by kernel_rfl)) ?_
 intro W base args ds gs before hval0 hW hcnd _
 have hval : ∀ (j : Nat) t v, Try.f5.params[j]? = some t → args[j]? = some v → Value.okWide Try.prog W .any base t v := hval0
 have hW' := hW
 obtain ⟨p, q, hA0, hV, rfl, hfz, hnd⟩ := hW
 have hA : DataW.TrodAll enc Try.prog W 0 (fun _ => true) true Try.f5.params.toList args.toList ds p := hA0
 rw [Try.params5] at hA hval
 obtain ⟨v0, vs0, d0, ds0, p0, q0, hargs, rfl, rfl, h0, r0⟩ := trodAll_cons hA
 obtain ⟨v1, vs1, d1, ds1, p1, q1, rfl, rfl, rfl, h1, r1⟩ := trodAll_cons r0
 obtain ⟨v2, vs2, d2, ds2, p2, q2, rfl, rfl, rfl, h2, r2⟩ := trodAll_cons r1
 obtain ⟨v3, vs3, d3, ds3, p3, q3, rfl, rfl, rfl, h3, r3⟩ := trodAll_cons r2
 obtain ⟨rfl, rfl, rfl⟩ := trodAll_nil r3
 obtain rfl : args = #[v0, v1, v2, v3] := by cases args; simp_all
 obtain ⟨rfl, rfl⟩ := trodVars_none hV
 have k0 := h0
 have k1 := h1
 have k2 := h2
 have lt0 : ∀ x ∈ p0, x.block < W.heap.size := by obtain ⟨m, hm⟩ := k0; exact DataW.trod_lt m _ _ _ hm
 have lt1 : ∀ x ∈ p1, x.block < W.heap.size := by obtain ⟨m, hm⟩ := k1; exact DataW.trod_lt m _ _ _ hm
 have lt2 : ∀ x ∈ p2, x.block < W.heap.size := by obtain ⟨m, hm⟩ := k2; exact DataW.trod_lt m _ _ _ hm
 obtain ⟨g0, e0⟩ := gr_open (hval 0 24 v0 rfl rfl) h0
 obtain ⟨g1, e1⟩ := pt_open (hval 1 27 v1 rfl rfl) h1
 obtain ⟨g2, s2, e2⟩ := pl_open (hval 2 30 v2 rfl rfl) h2
 obtain ⟨a3, rfl, rfl, rfl, w3⟩ := open_int Try.underlying3 (hval 3 3 v3 rfl rfl) h3
 clear hA0 hval0
 refine (restDrops_any _ _ _ g0 g1 g2 s2 a3 W e0 e1 e2).mono fun e W' ⟨he, hc⟩ => ?_
 subst he
 have bel := hc.below
 exact ⟨_, rfl, _, _, _, [], _, [], hW', trodAll_mk1 (shut_bool Try.underlying4 _), (trodAll_cons_mk (Below.trod laidOut (by kernel_rfl) (of_decide_eq_true (by kernel_rfl)) k0 bel lt0) (trodAll_cons_mk (Below.trod laidOut (by kernel_rfl) (of_decide_eq_true (by kernel_rfl)) k1 bel lt1) (trodAll_cons_mk (Below.trod laidOut (by kernel_rfl) (of_decide_eq_true (by kernel_rfl)) k2 bel lt2) (trodAll_cons_mk (shut_int Try.underlying3 w3) trodAll_mk0)))), rfl, bel.frame _, fun h => by cases h⟩

theorem over : Rows.restDropsRow.holds Try.pinned (OpenSpec.ofChange Rows.restDropsSpec) :=
 OpenClaim.holds_of_wide 5 Try.f5 rfl rfl rfl rfl rfl rfl rfl ⟨rfl, rfl, rfl, rfl, rfl⟩ rfl rfl rfl rfl rfl (by kernel_rfl) Try.func5 (by kernel_rfl)
  (of_decide_eq_true (by kernel_rfl)) (by unfold Func.isWrapper; first | (rw [if_pos (by decide +kernel)]; kernel_rfl) | (rw [if_neg (by decide +kernel)]; exact ⟨rfl, rfl⟩))
  (fun os started H enc _ => lifted os started H enc)

theorem proved : Rows.RestDropsSaid := over
#print axioms proved
end Go.Proofs.Ytckjpaimbmlboaa.restDrops
