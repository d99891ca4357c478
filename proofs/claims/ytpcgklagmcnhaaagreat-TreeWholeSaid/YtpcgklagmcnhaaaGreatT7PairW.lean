/- pair.whole: contract. Conditions: links that lie in memory and read so. -/
import Derived.Test.YtpcgklagmcnhaaaGreatT7EdC
import Derived.Lib.MinMax
namespace Go.Proofs.YtpcgklagmcnhaaaGreat
open Go.RowKit Go.Maps
theorem run_max3 {P : Program} (w : World) (ts : Array TypeId) (t : TypeId) (x y z : Int) : (Builtin.max_ ts t #[.int .i64 x, .int .i64 y, .int .i64 z]).run P w = .ok (.int .i64 (max (max x y) z)) w := by
 have e : (if z > (if y > x then y else x) then z else (if y > x then y else x)) = max (max x y) z := by
  split <;> split <;> omega
 simp [Builtin.max_, Builtin.max2, e]
theorem oneInts2 (x y : Int) : ∀ u ∈ (#[Value.int .i64 x, .int .i64 y]).toList, u.oneCell' = true := by intro u hu; simp at hu; rcases hu with rfl | rfl <;> rfl
set_option maxRecDepth 100000 in
set_option maxHeartbeats 8000000 in
theorem pwhole_any (v : Value) (l : List Plain.Lk) (w : World) (hl : l.length ≤ 100000) (h : LksAt w v l) :
  Calls Tryz.prog 76 #[v] w fun e w' => ∃ n so sn sc v1 v2, e = .returned (.tuple #[.agg #[.int .i64 n, .slice so sn sc], .agg #[v1, v2], .bool (Plain.wholeB l)]) ∧ (∃ a1 n1 c1, v1 = .slice a1 n1 c1) ∧ (∃ a1 n1 c1, v2 = .slice a1 n1 c1) ∧
   (Plain.wholeB l = true → GrAt w' (.agg #[.int .i64 n, .slice so sn sc]) (Plain.grK l) ∧ PtAt w' (.agg #[v1, v2]) (Plain.ptK l)) ∧ Chg [] w w' := by
 obtain ⟨lo, cap, rfl, hm, hsm, hcell⟩ := h
 have HSM := Lib.hid hsm
 have HCE := Lib.hid hcell
 clear hsm hcell
 have HXC := Lib.hid (show Chg [] w (((w.alloc (.cells #[.int .i64 0, .slice none 0 0] 41)).alloc (.cells #[.slice none 0 0, .slice none 0 0] 43)).alloc (.cells #[.int .i64 0, .slice none 0 0] 41)) from (show Chg [] w (((w.alloc (.cells #[.int .i64 0, .slice none 0 0] 41)).alloc (.cells #[.slice none 0 0, .slice none 0 0] 43)).alloc (.cells #[.int .i64 0, .slice none 0 0] 41)) from ((((Chg.refl [] w).alloc _).alloc _).alloc _)))
 have qbx0 := heap_alloc_new w (.cells #[.int .i64 0, .slice none 0 0] 41)
 replace qbx0 := (show Chg [] (w.alloc (.cells #[.int .i64 0, .slice none 0 0] 41)) (((w.alloc (.cells #[.int .i64 0, .slice none 0 0] 41)).alloc (.cells #[.slice none 0 0, .slice none 0 0] 43)).alloc (.cells #[.int .i64 0, .slice none 0 0] 41)) from (((Chg.refl [] (w.alloc (.cells #[.int .i64 0, .slice none 0 0] 41))).alloc _).alloc _)).heap qbx0 (by simp)
 have qbx1 := heap_alloc_new (w.alloc (.cells #[.int .i64 0, .slice none 0 0] 41)) (.cells #[.slice none 0 0, .slice none 0 0] 43)
 rw [show (w.alloc (.cells #[.int .i64 0, .slice none 0 0] 41)).heap.size = w.heap.size + 1 by simp] at qbx1
 replace qbx1 := (show Chg [] ((w.alloc (.cells #[.int .i64 0, .slice none 0 0] 41)).alloc (.cells #[.slice none 0 0, .slice none 0 0] 43)) (((w.alloc (.cells #[.int .i64 0, .slice none 0 0] 41)).alloc (.cells #[.slice none 0 0, .slice none 0 0] 43)).alloc (.cells #[.int .i64 0, .slice none 0 0] 41)) from ((Chg.refl [] ((w.alloc (.cells #[.int .i64 0, .slice none 0 0] 41)).alloc (.cells #[.slice none 0 0, .slice none 0 0] 43))).alloc _)).heap qbx1 (by simp)
 have qbx2 := heap_alloc_new ((w.alloc (.cells #[.int .i64 0, .slice none 0 0] 41)).alloc (.cells #[.slice none 0 0, .slice none 0 0] 43)) (.cells #[.int .i64 0, .slice none 0 0] 41)
 rw [show ((w.alloc (.cells #[.int .i64 0, .slice none 0 0] 41)).alloc (.cells #[.slice none 0 0, .slice none 0 0] 43)).heap.size = w.heap.size + 2 by simp] at qbx2
 have HX := Lib.hid (fun (w2 : World) (hbx : Chg [] (((w.alloc (.cells #[.int .i64 0, .slice none 0 0] 41)).alloc (.cells #[.slice none 0 0, .slice none 0 0] 43)).alloc (.cells #[.int .i64 0, .slice none 0 0] 41)) w2) => (⟨hbx.heap qbx0 (by simp), hbx.heap qbx1 (by simp), hbx.heap qbx2 (by simp), by have hz := hbx.size; simpa using hz⟩ : w2.heap[w.heap.size]? = some (.cells #[.int .i64 0, .slice none 0 0] 41 (0, 0)) ∧ w2.heap[w.heap.size + 1]? = some (.cells #[.slice none 0 0, .slice none 0 0] 43 (0, 0)) ∧ w2.heap[w.heap.size + 2]? = some (.cells #[.int .i64 0, .slice none 0 0] 41 (0, 0)) ∧ w.heap.size + 3 ≤ w2.heap.size))
 clear qbx0 qbx1 qbx2
 have HXZ := Lib.hid (show (((w.alloc (.cells #[.int .i64 0, .slice none 0 0] 41)).alloc (.cells #[.slice none 0 0, .slice none 0 0] 43)).alloc (.cells #[.int .i64 0, .slice none 0 0] 41)).heap.size = w.heap.size + 3 by simp)
 obtain ⟨r2, r3, r5, hsz⟩ := HX.out _ (Chg.refl _ _)
 have hmm := @run_makeMap Tryz.prog
 go_enter Tryz.func76, Tryz.ntmps76
 go_wp2_with fail
 generalize (((w.alloc (.cells #[.int .i64 0, .slice none 0 0] 41)).alloc (.cells #[.slice none 0 0, .slice none 0 0] 43)).alloc (.cells #[.int .i64 0, .slice none 0 0] 41)) = w1 at *
 have HM0 := Lib.hid (IMap.made w1)
 have HC0 := Lib.hid ((Chg.refl [w.heap.size + 2] w1).alloc (.map #[] 0))
 obtain ⟨B, hB⟩ : ∃ B, w.heap.size + 1 + 1 + 1 = B := ⟨_, rfl⟩
 have HB := Lib.hid (show w1.heap.size = B by rw [← hB]; exact HXZ.out)
 rw [HB.out] at HM0
 rw [hB]
 obtain ⟨gb, hgb⟩ : ∃ gb, w.heap.size + 2 = gb := ⟨_, rfl⟩
 have HGB := Lib.hid hgb
 rw [hgb] at r5 HC0
 have R50 := Lib.hid (((Chg.refl [] w1).alloc (.map #[] 0)).hp r5)
 have hgb2 : w.heap.size + 1 + 1 = gb := hgb
 rw [hgb2]
 have R20 := Lib.hid r2
 have R30 := Lib.hid r3
 clear hmm hB hgb hgb2 r2 r3 r5 hsz
 go_loopw [7, 17] (fun c7 iv wr => ∃ k : Nat, k ≤ l.length ∧ iv = .int .i64 k ∧ Plain.okL l k ∧ RowAt wr B c7 (Plain.ixs k) ∧ IMap wr B k (Plain.idsF l k) ∧
  (∃ eo ec, wr.heap[gb]? = some (.cells #[.int .i64 (Plain.nK (l.take k)), .slice eo k ec] 41 (0, 0)) ∧ wr.ownsRow B 53 2 (.slice eo k ec) k (edCells ((l.take k).map fun x => (x.a, x.b)))) ∧ Chg [gb] w1 wr) (fun _ iv _ => l.length - (intOf iv).toNat)
 case atStart => exact ⟨0, Nat.zero_le _, rfl, fun j hj => by omega, rowNil' _ _, HM0.out, ⟨none, 0, R50.out, World.ownsRow_nil _ _ _ _⟩, HC0.out⟩
 case round =>
  obtain ⟨k, hk, rfl, hok, hr, hmp, ⟨eo, ec, hg5, how⟩, hc⟩ := hrel
  have HOK := Lib.hid hok
  have HR := Lib.hid hr
  have HM := Lib.hid hmp
  have HG5 := Lib.hid hg5
  have HOW := Lib.hid how
  have HC := Lib.hid hc
  obtain ⟨uo, uc, rfl⟩ := hr.shape
  have HW := Lib.hid (show Chg [] w wr from HXC.out.trans hc (fun j hj => Or.inr (by rw [List.mem_singleton.1 hj, ← HGB.out]; omega)))
  have HNB := Lib.hid (show 0 ≤ Plain.nK (l.take k) ∧ Plain.nK (l.take k) ≤ 1024 from ⟨Plain.nK_pos _, hok.nK hk⟩)
  rw [Plain.ixs_len]
  clear hok hr hmp how hc
  by_cases hlt : k < l.length
  ·obtain ⟨b, off, rfl, c0, c1, c2⟩ := HCE.out k hlt
   obtain ⟨hi1, hi2, hi3⟩ := HSM.out k hlt
   have d0 := HW.out.cel c0
   have d1 := HW.out.cel c1
   have d2 := HW.out.cel c2
   have HOI := Lib.hid (Plain.okK_iff (l := l) (k := k))
   have HSNOC := Lib.hid (Plain.lk_snoc hlt)
   have HIF := Lib.hid (Plain.idsF_some l k hk)
   have HIS := Lib.hid (show Plain.idsF l (k + 1) = fun y => if y = (Plain.at0 l k).id then some (k : Int) else Plain.idsF l k y from rfl)
   have HNO := Lib.hid (Plain.whole_no hlt)
   obtain ⟨L, hL⟩ : ∃ L, Plain.at0 l k = L := ⟨_, rfl⟩
   rw [hL] at d0 d1 d2 hi1 hi2 hi3 HOI HSNOC HIS
   obtain ⟨x, y, z⟩ := L
   simp only at d0 d1 d2 hi1 hi2 hi3
   clear c0 c1 c2 hL
   obtain ⟨tw, htw⟩ : ∃ tw, (Plain.idsF l k z).isSome = tw := ⟨_, rfl⟩
   obtain ⟨tv, htv⟩ : ∃ tv, (Plain.idsF l k z).getD 0 = tv := ⟨_, rfl⟩
   have HTW := Lib.hid htw
   have HTV := Lib.hid htv
   have HOI2 := Lib.hid (show Plain.okK l k = true ↔ tw = false ∧ 0 ≤ x ∧ 0 ≤ y ∧ x ≠ y ∧ x < 1024 ∧ y < 1024 by rw [HOI.out, ← htw, HIF.out])
   clear htw htv HOI
   have HMB := Lib.hid (HM.out.alloc (.cells #[.int .i64 x, .int .i64 y, .int .i64 z] 50))
   have HCB := Lib.hid ((Chg.refl [] wr).alloc (.cells #[.int .i64 x, .int .i64 y, .int .i64 z] 50))
   have hcase : (tw = true) ∨ (tw = false ∧ x < 0) ∨ (tw = false ∧ ¬ x < 0 ∧ y < 0) ∨ (tw = false ∧ ¬ x < 0 ∧ ¬ y < 0 ∧ x = y) ∨ (tw = false ∧ ¬ x < 0 ∧ ¬ y < 0 ∧ x ≠ y ∧ max x y ≥ 1024) ∨ (tw = false ∧ ¬ x < 0 ∧ ¬ y < 0 ∧ x ≠ y ∧ ¬ max x y ≥ 1024) := by
    cases tw
    ·simp only [Bool.false_eq_true, false_or, true_and]; omega
    exact Or.inl rfl
   by_cases hall : tw = false ∧ ¬ x < 0 ∧ ¬ y < 0 ∧ x ≠ y ∧ ¬ max x y ≥ 1024
   ·obtain ⟨rfl, h1, h2, h3, h4⟩ := hall
    clear hcase
    have hx0 : 0 ≤ x := by omega
    have hy0 : 0 ≤ y := by omega
    have hx1 : x < 1024 := by omega
    have hy1 : y < 1024 := by omega
    have hkm : k < maxLen := by unfold maxLen; omega
    have IK : I64 (k : Int) := I64.mk (by omega) (by omega)
    have HBX := Lib.hid (heap_alloc_new wr (.cells #[.int .i64 x, .int .i64 y, .int .i64 z] 50))
    have HBN := Lib.hid (show wr.heap.size ≠ B ∧ gb ≠ B ∧ gb < wr.heap.size ∧ B < wr.heap.size from ⟨by have := HM.out.lt; omega, by have := HXZ.out; have := HB.out; have := HGB.out; omega, lt_of_block HG5.out, HM.out.lt⟩)
    have hnX : wr.heap.size ∉ foot (.slice uo k uc) := fun q => by have := (HR.out.low _ (by have h9 := HR.out.foot; rw [Plain.ixs_len] at *; rw [← h9]; exact q)).2; omega
    have hnG : gb ∉ foot (.slice uo k uc) := fun q => by have h9 := (HR.out.low _ (by have h9 := HR.out.foot; rw [Plain.ixs_len] at *; rw [← h9]; exact q)).1; have := HXZ.out; have := HB.out; have := HGB.out; omega
    have hnB : B ∉ foot (.slice uo k uc) := fun q => by
     obtain ⟨cs, r, hh⟩ := row_kind HR.out _ (by rw [Plain.ixs_len]; exact q)
     exact HM.out.ne hh rfl
    have HNX := Lib.hid hnX
    have HNG := Lib.hid hnG
    have HNBB := Lib.hid hnB
    have HED := Lib.hid (show ∀ b, (Value.slice eo k ec).ownBlock = some b → b ≠ B ∧ b ≠ gb ∧ b ∉ foot (.slice uo k uc) from fun b hb => by
     obtain ⟨q1, q2⟩ := HOW.out.lt b hb
     obtain ⟨cs, hh⟩ := owns_kind HOW.out hb
     refine ⟨HM.out.ne hh, fun e => ?_, fun q => ?_⟩
     ·rw [e, HG5.out] at hh; simp at hh
     obtain ⟨cs2, r, hh2⟩ := row_kind HR.out _ (by rw [Plain.ixs_len]; exact q)
     rw [hh] at hh2; simp at hh2)
    have hne1 : ¬ wr.heap.size = gb := by have := HBN.out.2.2.1; omega
    have hne2 : ¬ gb = wr.heap.size := fun e => hne1 e.symm
    obtain ⟨N, hN⟩ : ∃ N, Plain.nK (l.take k) = N := ⟨_, rfl⟩
    rw [hN] at HG5 HNB
    have HN := Lib.hid hN
    obtain ⟨hN0, hN1⟩ := HNB.out
    clear hnX hnG hnB hN
    have hm3 := @run_max3 Tryz.prog
    have HED4 := Lib.hid (show ∀ b, (Value.slice eo k ec).ownBlock = some b → b ∉ B :: gb :: foot (.slice uo k uc) from fun b hb q => by
     obtain ⟨q1, q2, q3⟩ := HED.out b hb
     rcases List.mem_cons.1 q with q | q
     ·exact q1 q
     rcases List.mem_cons.1 q with q | q
     ·exact q2 q
     exact q3 q)
    have HED3 := Lib.hid (show gb ∉ (Value.slice eo k ec).ownBlock.toList from fun q => (HED.out gb (by simpa using q)).2.1 rfl)
    go_wp2_with (first
     | (at_lookup; refine wp_look_any _ rfl _ _ rfl HMB.out rfl hi3 rfl HTV HTW ?_)
     | (at_mapUpdate; refine wp_store _ rfl _ _ _ rfl HMB.out hkm rfl hi3 IK rfl rfl ?_; intro w6 m6 g6; have M6 := Lib.hid m6; have C6 := Lib.hid (HCB.out.mono (own' := [B]) (by simp) |>.grown g6 (fun j hj => by cases hj; exact Or.inl (by simp))); have B6 := Lib.hid (((Chg.refl [B] _).grown g6 (fun j hj => by cases hj; exact Or.inl (by simp))).heap HBX.out (by simpa using HBN.out.1)); have G6 := Lib.hid (C6.out.heap HG5.out (by simpa using HBN.out.2.1)); clear m6 g6)
     | (at_builtin; refine wl_push rfl _ _ rfl (w0 := w6) (B := B) (v := .slice uo k uc) (l := Plain.ixs k) (k := (k : Int)) rfl rfl (by have h9 := HR.out; rw [Plain.ixs_len] at h9; exact h9.chg C6.out (fun b hb e => HNBB.out (by rw [List.mem_singleton] at e; rw [← e]; exact hb))) IK (Nat.le_trans (Nat.le_of_lt HBN.out.2.2.2) C6.out.size) (by rw [Plain.ixs_len]; omega) rfl ?_; intro v7 w7 r7 c7 f7; have R7 := Lib.hid r7; have C7 := Lib.hid c7; have B7 := c7.heap B6.out HNX.out; have G7 := Lib.hid (c7.heap G6.out HNG.out); have M7 := Lib.hid (M6.out.chg c7 HNBB.out); have CT := Lib.hid (show Chg (B :: gb :: foot (.slice uo k uc)) wr w7 from (C6.out.mono (by simp)).trans c7 (fun j hj => Or.inl (by simp [hj]))); have e0 := (cell_of_row _ _ 0 _ _ _ B7).trans (show _ = some (Value.int .i64 x) from rfl); have e1 := (cell_of_row _ _ 1 _ _ _ B7).trans (show _ = some (Value.int .i64 y) from rfl); have g0 := (cell_of_row _ _ 0 _ _ _ G7.out).trans (show _ = some (Value.int .i64 N) from rfl); have g1 := (cell_of_row _ _ 1 _ _ _ G7.out).trans (show _ = some (Value.slice eo k ec) from rfl); have fr0 := free_at G7.out 0; have fr1 := free_at G7.out 1; clear r7 c7 f7 B7)
     | (at_builtin; (refine wp_app elemEd rfl _ _ rfl (v := .slice eo k ec) (B := B) (cs := #[.int .i64 x, .int .i64 y]) rfl rfl (by simp) (owns_chg HOW.out (CT.out.setCell (p := ⟨gb, 0, none⟩) (Or.inl (by simp)) _) (HED4.out)) (Nat.le_trans (Nat.le_of_lt HBN.out.2.2.2) (CT.out.setCell (p := ⟨gb, 0, none⟩) (Or.inl (by simp)) _).size) rfl (oneInts2 x y) (by omega) ?_); intro g8 k8 w8 r8 c8 l8; have R8 := Lib.hid r8; have C8 := Lib.hid c8; have G8 := Lib.hid (c8.heap (heap_setCell_same G7.out 0 (.int .i64 (max N (max x y + 1)))) HED3.out); have fr8 := free_at G8.out 1; have c81 := (cell_of_row _ _ 1 _ _ _ G8.out).trans (show _ = some (Value.slice eo k ec) from rfl); clear r8 c8 l8 g0 g1 e0 e1 fr0 fr1)
     | fail)
    obtain ⟨vo, vc, rfl⟩ := R7.out.shape
    have hvl : (Plain.ixs k ++ [(k : Int)]).length = k + 1 := by simp [Plain.ixs_len]
    rw [hvl] at R7 ⊢
    have hset : Chg [gb] w8 (w8.setCell ⟨gb, 1, none⟩ (.slice (some ⟨g8, 0, none⟩) (k + 1) k8)) := (Chg.refl _ _).setCell (Or.inl (by simp)) _
    have CE := Lib.hid (show Chg [gb] w7 (w7.setCell ⟨gb, 0, none⟩ (.int .i64 (max N (max x y + 1)))) from (Chg.refl _ _).setCell (Or.inl (by simp)) _)
    have G9 := Lib.hid (heap_setCell_same G8.out 1 (.slice (some ⟨g8, 0, none⟩) (k + 1) k8))
    have HE7 : ∀ b, (Value.slice eo k ec).ownBlock = some b → ∃ cs, w7.heap[b]? = some (.cells cs 53 (0, 0)) := fun b hb => owns_kind (owns_chg HOW.out CT.out HED4.out) hb
    have CX : Chg (gb :: (Value.slice eo k ec).ownBlock.toList) w7 (w8.setCell ⟨gb, 1, none⟩ (.slice (some ⟨g8, 0, none⟩) (k + 1) k8)) := ((CE.out.mono (by simp)).trans C8.out (fun j hj => Or.inl (by simp at hj ⊢; exact Or.inr hj))).trans hset (fun j hj => Or.inl (by simp at hj ⊢; exact Or.inl hj))
    refine ⟨⟨k + 1, by omega, by go_num, HOK.out.succ (HOI2.out.2 ⟨rfl, hx0, hy0, h3, hx1, hy1⟩), ?_, ?_, ⟨some ⟨g8, 0, none⟩, k8, ?_, ?_⟩, ?_⟩, by simp [intOf]; omega⟩
    ·rw [Plain.ixs_snoc]
     refine R7.out.chg CX fun b hb q => ?_
     obtain ⟨cs, r, hh⟩ := row_kind R7.out b (by rw [R7.out.foot]; exact hb)
     rcases List.mem_cons.1 q with q | q
     ·rw [q, G7.out] at hh; simp at hh
     obtain ⟨cs2, h2⟩ := HE7 b (by simpa using q)
     rw [h2] at hh; simp at hh
    ·rw [HIS.out]
     refine M7.out.chg CX fun q => ?_
     rcases List.mem_cons.1 q with q | q
     ·exact HBN.out.2.1 q.symm
     exact (HED.out B (by simpa using q)).1 rfl
    ·rw [HSNOC.out, Plain.nK_snoc, HN.out, show max (max N (x + 1)) (y + 1) = max N (max x y + 1) by omega]
     exact G9.out
    ·rw [HSNOC.out, List.map_append]
     show World.ownsRow _ B _ 2 _ (k + 1) (edCells (_ ++ [(x, y)]))
     rw [edCells_snoc]
     refine owns_chg R8.out hset fun b hb q => ?_
     obtain ⟨cs, hh⟩ := owns_kind R8.out hb
     rw [List.mem_singleton.1 q, G8.out] at hh
     simp at hh
    have h1 := HXZ.out
    have h2 := HB.out
    refine (HC.out.trans CT.out fun j hj => ?_).trans CX fun j hj => ?_
    ·rcases List.mem_cons.1 hj with q | q
     ·exact Or.inr (by omega)
     rcases List.mem_cons.1 q with q | q
     ·exact Or.inl (by simp [q])
     have := (HR.out.low j (by have h9 := HR.out.foot; rw [Plain.ixs_len] at *; rw [← h9]; exact q)).1
     exact Or.inr (by omega)
    rcases List.mem_cons.1 hj with q | q
    ·exact Or.inl (by simp [q])
    have := (HOW.out.lt j (by simpa using q)).1
    exact Or.inr (by omega)
   have HF := Lib.hid (show Plain.wholeB l = false from HNO.out (Bool.eq_false_iff.2 fun q => hall (by
    obtain ⟨q1, q2, q3, q4, q5, q6⟩ := HOI2.out.1 q
    exact ⟨q1, by omega, by omega, q4, by omega⟩)))
   have a2 := HCB.out.hp (HC.out.heap R20.out (by have := HGB.out; simp; omega))
   have a3 := HCB.out.hp (HC.out.heap R30.out (by have := HGB.out; simp; omega))
   have p0 := (cell_of_row _ _ 0 _ _ _ a2).trans (show _ = some (Value.int .i64 0) from rfl)
   have p1 := (cell_of_row _ _ 1 _ _ _ a2).trans (show _ = some (Value.slice none 0 0) from rfl)
   have q0 := (cell_of_row _ _ 0 _ _ _ a3).trans (show _ = some (Value.slice none 0 0) from rfl)
   have q1 := (cell_of_row _ _ 1 _ _ _ a3).trans (show _ = some (Value.slice none 0 0) from rfl)
   have fp0 := free_at a2 0
   have fp1 := free_at a2 1
   have fq0 := free_at a3 0
   have fq1 := free_at a3 1
   have HS := Lib.hid (store22 (.int .i64 0) (.slice none 0 0) (.slice none 0 0) (.slice none 0 0) a2 a3 (by omega))
   have hnn : ¬ w.heap.size = w.heap.size + 1 := by omega
   have HWB := Lib.hid (HW.out.tr HCB.out)
   have HALL := Lib.hid hall
   clear hall a2 a3
   rcases hcase with rfl | ⟨rfl, h1⟩ | ⟨rfl, h1, h2⟩ | ⟨rfl, h1, h2, rfl⟩ | ⟨rfl, h1, h2, h3, h4⟩ | ⟨rfl, h1, h2, h3, h4⟩
   rotate_right
   ·exact absurd ⟨rfl, h1, h2, h3, h4⟩ HALL.out
   all_goals
    go_wp2_with (first
     | (at_lookup; refine wp_look_any _ rfl _ _ rfl HMB.out rfl hi3 rfl HTV HTW ?_)
     | fail)
    obtain ⟨s0, s1, s2, s3, sc⟩ := HS.out _ rfl
    refine bodyPost_ret (v := .tuple #[.agg #[.int .i64 0, .slice none 0 0], .agg #[.slice none 0 0, .slice none 0 0], .bool false]) (by simp [results, Tryz.results76, go_sem, s0, s1, s2, s3]) rfl ?_
    exact ⟨0, none, 0, 0, _, _, by rw [HF.out], ⟨_, _, _, rfl⟩, ⟨_, _, _, rfl⟩, fun q => by rw [HF.out] at q; (cases q), HWB.out.trans sc fun j hj => Or.inr (by simp at hj; omega)⟩
  have e : k = l.length := by omega
  subst e
  rw [List.take_length] at HG5 HOW HNB
  have HGR := Lib.hid (show GrAt wr (.agg #[.int .i64 (Plain.nK l), .slice eo l.length ec]) (Plain.grK l) from grAt_ed (g := Plain.grK l) (B := B) (I64.mk (by show -9223372036854775808 ≤ Plain.nK l; have := HNB.out; omega) (by show Plain.nK l ≤ _; have := HNB.out; omega)) (fun i hi => by
   have hi2 : i < l.length := by simpa [Plain.grK] using hi
   rw [Plain.grK_ends hi2]
   exact ⟨(HSM.out i hi2).1, (HSM.out i hi2).2.1⟩) (by show (l.map _).length ≤ _; rw [List.length_map]; omega) (by show wr.ownsRow B _ 2 _ (l.map _).length _; rw [List.length_map]; exact HOW.out))
  have HIX := Lib.hid (show IntsAt wr (.slice uo l.length uc) (Plain.ixs l.length) by have := HR.out.ints; rwa [Plain.ixs_len] at this)
  have HWE := Lib.hid (Plain.whole_end HOK.out)
  obtain ⟨N, hN⟩ : ∃ N, Plain.nK l = N := ⟨_, rfl⟩
  rw [hN] at HG5 HGR
  have HNE := Lib.hid hN
  have g0 := (cell_of_row _ _ 0 _ _ _ HG5.out).trans (show _ = some (Value.int .i64 N) from rfl)
  have g1 := (cell_of_row _ _ 1 _ _ _ HG5.out).trans (show _ = some (Value.slice eo l.length ec) from rfl)
  clear hlt hk hN
  go_wp2_with fail
  refine (gspan_any _ _ (Plain.grK l) (Plain.ixs l.length) _ HGR.out HIX.out).mono ?_
  rintro e w5 ⟨v1, v2, rfl, hno, hyes, hc5⟩
  obtain ⟨⟨s1, n1, c1, rfl⟩, ⟨s2, n2, c2, rfl⟩⟩ : (∃ s1 n1 c1, v1 = .slice s1 n1 c1) ∧ (∃ s1 n1 c1, v2 = .slice s1 n1 c1) := by
   by_cases h0 : Plain.spanErr (Plain.grK l) (Plain.ixs l.length) = 0
   ·obtain ⟨q1, q2⟩ := hyes h0
    obtain ⟨a1, b1, e1⟩ := q1.shape
    obtain ⟨a2, b2, e2⟩ := q2.shape
    exact ⟨⟨_, _, _, e1⟩, ⟨_, _, _, e2⟩⟩
   obtain ⟨q1, q2⟩ := hno h0
   exact ⟨⟨_, _, _, q1⟩, ⟨_, _, _, q2⟩⟩
  have HY := Lib.hid hyes
  have HC5 := Lib.hid hc5
  have HGR5 := Lib.hid (HGR.out.fresh hc5)
  have g0 := hc5.cel g0
  have g1 := hc5.cel g1
  obtain ⟨E, hE⟩ : ∃ E, Plain.spanErr (Plain.grK l) (Plain.ixs l.length) = E := ⟨_, rfl⟩
  rw [hE] at HWE HY ⊢
  have R26 := Lib.hid (hc5.hp (HC.out.heap R20.out (by have := HGB.out; simp; omega)))
  have R36 := Lib.hid (hc5.hp (HC.out.heap R30.out (by have := HGB.out; simp; omega)))
  clear hno hyes hc5 hE
  go_wp2_with fail
  have HB6 := Lib.hid (heap_alloc_new w5 (.cells #[.slice s1 n1 c1, .slice s2 n2 c2] 43))
  have HC6 := Lib.hid ((Chg.refl [] w5).alloc (.cells #[.slice s1 n1 c1, .slice s2 n2 c2] 43))
  obtain ⟨pb, hpb⟩ : ∃ pb, w5.heap.size = pb := ⟨_, rfl⟩
  rw [hpb] at HB6 ⊢
  generalize w5.alloc (.cells #[.slice s1 n1 c1, .slice s2 n2 c2] 43) = w6 at *
  have g0 := HC6.out.cel g0
  have g1 := HC6.out.cel g1
  have e0 := (cell_of_row _ _ 0 _ _ _ HB6.out).trans (show _ = some (Value.slice s1 n1 c1) from rfl)
  have e1 := (cell_of_row _ _ 1 _ _ _ HB6.out).trans (show _ = some (Value.slice s2 n2 c2) from rfl)
  have a2 := HC6.out.hp R26.out
  have a3 := HC6.out.hp R36.out
  have p0 := (cell_of_row _ _ 0 _ _ _ a2).trans (show _ = some (Value.int .i64 0) from rfl)
  have p1 := (cell_of_row _ _ 1 _ _ _ a2).trans (show _ = some (Value.slice none 0 0) from rfl)
  have q0 := (cell_of_row _ _ 0 _ _ _ a3).trans (show _ = some (Value.slice none 0 0) from rfl)
  have q1 := (cell_of_row _ _ 1 _ _ _ a3).trans (show _ = some (Value.slice none 0 0) from rfl)
  have fp0 := free_at a2 0
  have fp1 := free_at a2 1
  have fq0 := free_at a3 0
  have fq1 := free_at a3 1
  have HS := Lib.hid (store22 (.int .i64 N) (.slice eo l.length ec) (.slice s1 n1 c1) (.slice s2 n2 c2) (w := w6) a2 a3 (by omega))
  clear a2 a3
  have hg1 : gb ∉ [w.heap.size, w.heap.size + 1] := by have := HGB.out; simp; omega
  have hp1 : pb ∉ [w.heap.size, w.heap.size + 1] := by have := HC5.out.size; have := lt_of_block HG5.out; have := HGB.out; simp; omega
  have hS1 : Chg [w.heap.size, w.heap.size + 1] w6 ((w6.drew.setCell ⟨w.heap.size, 0, none⟩ (.int .i64 N)).setCell ⟨w.heap.size, 1, none⟩ (.slice eo l.length ec)) := ((Chg.refl _ w6).drew.setCell (Or.inl (by simp)) _).setCell (Or.inl (by simp)) _
  have hS2 := (hS1.setCell (p := ⟨w.heap.size + 1, 0, none⟩) (Or.inl (by simp)) (.slice s1 n1 c1)).setCell (p := ⟨w.heap.size + 1, 1, none⟩) (Or.inl (by simp)) (.slice s2 n2 c2)
  have HS1 := Lib.hid hS1
  have HS2 := Lib.hid hS2
  clear hS1 hS2
  have hS0 : Chg [w.heap.size, w.heap.size + 1] w6 w6.drew := (Chg.refl [w.heap.size, w.heap.size + 1] w6).drew
  refine wp_region_way (Chg [w.heap.size, w.heap.size + 1] w6) [0, 1, 2, 3] (Way.line [0, 1, 2, 3, 4, 5, 6] .done) (by kernel_rfl) (by kernel_rfl) ?_
  simp only [Way.line]
  repeat
   first
    | (refine along_off rfl (by rfl) (by rfl) (fun _ _ _ h => h) hS0 ?_; simp only [Act.put, Z1, Z2, Z3, Z4, Z5, Z6])
    | (refine along_read (v := ?_) rfl (by rfl) (by rfl) (fun _ _ _ h => h) hS0 (fun w' hS' => ?_) ?_; rotate_left; (focus (have rd0 := hS'.cell g0 (by first | exact hg1 | exact hp1); have rd1 := hS'.cell g1 (by first | exact hg1 | exact hp1); have rd2 := hS'.cell e0 (by first | exact hg1 | exact hp1); have rd3 := hS'.cell e1 (by first | exact hg1 | exact hp1); clear hS'; go_simp; try with_reducible rfl)); simp only [Act.put, Z1, Z2, Z3, Z4, Z5, Z6])
    | (refine along_skip rfl (by rfl) (by rfl) hS0 ?_; simp only [Act.put, Z1, Z2, Z3, Z4, Z5, Z6])
  refine along_op rfl (by rfl) (by rfl) (fun K hK => ?_)
  go_simp
  refine hK.out _ _ (fun _ => HS1.out) ?_
  clear hK K
  try simp only [Act.put, Z1, Z2, Z3, Z4, Z5, Z6]
  refine along_op rfl (by rfl) (by rfl) (fun K hK => ?_)
  go_simp
  refine hK.out _ _ (fun _ => HS2.out) ?_
  clear hK K
  try simp only [Act.put, Z1, Z2, Z3, Z4, Z5, Z6]
  refine along_op rfl (by rfl) (by rfl) (fun K hK => ?_)
  go_simp
  refine hK.out _ _ (fun h => absurd h (Bool.eq_false_iff.1 (by kernel_rfl))) ?_
  clear hK K
  try simp only [Act.put, Z1, Z2, Z3, Z4, Z5, Z6]
  refine along_done ?_
  clear g0 g1 e0 e1 p0 p1 q0 q1 fp0 fp1 fq0 fq1 hS0 HS1 HS2
  obtain ⟨t0, t1, t2, t3, sc⟩ := HS.out _ rfl
  have CF5 := Lib.hid ((HC6.out.mono (own' := [w.heap.size, w.heap.size + 1]) (by simp)).trans sc (fun j hj => Or.inl hj)).drew
  clear sc
  generalize (((w6.setCell ⟨w.heap.size, 0, none⟩ (.int .i64 N)).setCell ⟨w.heap.size, 1, none⟩ (.slice eo l.length ec)).setCell ⟨w.heap.size + 1, 0, none⟩ (.slice s1 n1 c1)).setCell ⟨w.heap.size + 1, 1, none⟩ (.slice s2 n2 c2) = w7 at *
  have t0 : w7.drew.cell? ⟨w.heap.size, 0, none⟩ = some (.int .i64 N) := t0
  have t1 : w7.drew.cell? ⟨w.heap.size, 1, none⟩ = some (.slice eo l.length ec) := t1
  have t2 : w7.drew.cell? ⟨w.heap.size + 1, 0, none⟩ = some (.slice s1 n1 c1) := t2
  have t3 : w7.drew.cell? ⟨w.heap.size + 1, 1, none⟩ = some (.slice s2 n2 c2) := t3
  generalize w7.drew = w8 at *
  go_wp2
  refine bodyPost_ret (v := .tuple #[.agg #[.int .i64 N, .slice eo l.length ec], .agg #[.slice s1 n1 c1, .slice s2 n2 c2], .bool (E == 0)]) (by simp [results, Tryz.results76, go_sem, t0, t1, t2, t3]) rfl ?_
  have hlo := HXZ.out
  have hlB := HB.out
  have hsz := HW.out.size
  have hmb := HM.out.lt
  refine ⟨N, eo, l.length, ec, _, _, by rw [HWE.out], ⟨_, _, _, rfl⟩, ⟨_, _, _, rfl⟩, fun hq => ⟨?_, ?_⟩, ((HW.out.tr HC5.out).trans CF5.out fun j hj => Or.inr (by simp at hj; omega))⟩
  ·have hown := owns_chg HOW.out ((HC5.out.mono (own' := [w.heap.size, w.heap.size + 1]) (by simp)).trans CF5.out fun j hj => Or.inl hj) (fun b hb hj => by have := (HOW.out.lt b hb).1; simp at hj; omega)
   rw [← HNE.out]
   exact grAt_ed (g := Plain.grK l) (B := B) (I64.mk (by show -9223372036854775808 ≤ Plain.nK l; have := HNB.out; omega) (by show Plain.nK l ≤ _; have := HNB.out; omega)) (fun i hi => by
    have hi2 : i < l.length := by simpa [Plain.grK] using hi
    rw [Plain.grK_ends hi2]
    exact ⟨(HSM.out i hi2).1, (HSM.out i hi2).2.1⟩) (by show (l.map _).length ≤ _; rw [List.length_map]; omega) (by show World.ownsRow w8 B _ 2 _ (l.map _).length _; rw [List.length_map]; exact hown)
  have hE0 : E = 0 := by rw [HWE.out] at hq; simpa using hq
  obtain ⟨y1, y2⟩ := HY.out hE0
  refine ⟨_, _, rfl, (y1.chg CF5.out fun b hb hj => ?_).ints, (y2.chg CF5.out fun b hb hj => ?_).ints⟩
  ·have := (y1.low b hb).1
   simp at hj; omega
  have := (y2.low b hb).1
  simp at hj; omega
namespace Plain
theorem rings_no {l : List Lk} {x : Int} (hx : x ∈ endsK l) (h : (endsK l).count x ≠ 2) : ringsK l = false := by
 unfold ringsK
 rw [List.all_eq_false]
 exact ⟨x, hx, by simpa using h⟩
theorem rings_yes {l : List Lk} (h : ∀ x ∈ endsK l, (endsK l).count x = 2) : ringsK l = true := List.all_eq_true.2 fun x hx => by simpa using h x hx
end Plain
theorem will_any (v : Value) (l : List Plain.Lk) (n : Nat) (w : World) (hl : l.length ≤ 100000000) (hn : n ≤ 100000000) (h : LksAt w v l) :
  Calls Tryz.prog 79 #[v, .int .i64 n] w fun e w' => e = .returned (.bool (Plain.willK l.length n)) ∧ w' = w := by
 obtain ⟨lo, cap, rfl, -⟩ := h
 go_enter Tryz.func79, Tryz.ntmps79
 go_wp2
 all_goals
  go_ret
  refine ⟨ret_bool ?_, rfl⟩
  unfold Plain.willK
  rw [Bool.eq_iff_iff]
  simp
  try omega
set_option maxRecDepth 100000 in
set_option maxHeartbeats 8000000 in
theorem rings_any (v : Value) (l : List Plain.Lk) (w : World) (hl : l.length ≤ 1000000) (h : LksAt w v l) :
  Calls Tryz.prog 44 #[v] w fun e w' => e = .returned (.bool (Plain.ringsK l)) ∧ Chg [] w w' := by
 obtain ⟨lo, cap, rfl, hm, hsm, hcell⟩ := h
 have HSM := Lib.hid hsm
 have HCE := Lib.hid hcell
 have HEN := Lib.hid (Plain.endsK_len l)
 clear hsm hcell
 have hmm := @run_makeMap Tryz.prog
 go_enter Tryz.func44, Tryz.ntmps44
 go_wp2_with fail
 have HM0 := Lib.hid (IMap.made w)
 rw [← Plain.cntF_nil] at HM0
 have HC0 := Lib.hid ((Chg.refl [] w).alloc (.map #[] 0))
 go_loopw [11] (fun iv wr => ∃ k : Nat, k ≤ l.length ∧ iv = .int .i64 k ∧ IMap wr w.heap.size (2 * k) (Plain.cntF (Plain.endsK (l.take k))) ∧ Chg [] w wr) (fun iv _ => l.length - (intOf iv).toNat)
 case atStart => exact ⟨0, Nat.zero_le _, rfl, HM0.out, HC0.out⟩
 case round =>
  obtain ⟨k, hk, rfl, hmp, hc⟩ := hrel
  have HM := Lib.hid hmp
  have HC := Lib.hid hc
  clear hmp hc
  by_cases hlt : k < l.length
  ·obtain ⟨b, off, rfl, c0, c1, c2⟩ := HCE.out k hlt
   obtain ⟨hi1, hi2, -⟩ := HSM.out k hlt
   have d0 := HC.out.cel c0
   have d1 := HC.out.cel c1
   have d2 := HC.out.cel c2
   have HEL := Lib.hid (Plain.endsK_snoc hlt)
   have hle := Plain.endsK_le (l := l) k
   obtain ⟨x, hx⟩ : ∃ x, (Plain.at0 l k).a = x := ⟨_, rfl⟩
   obtain ⟨y, hy⟩ : ∃ y, (Plain.at0 l k).b = y := ⟨_, rfl⟩
   obtain ⟨z, hz⟩ : ∃ z, (Plain.at0 l k).id = z := ⟨_, rfl⟩
   obtain ⟨M, hM⟩ : ∃ M, Plain.endsK (l.take k) = M := ⟨_, rfl⟩
   rw [hx] at d0 hi1 HEL
   rw [hy] at d1 hi2 HEL
   rw [hz] at d2
   rw [hM] at HM HEL hle
   clear c0 c1 c2 hx hy hz hM
   have HG1 := Lib.hid (Plain.cntF_get M x)
   have HG2 := Lib.hid (Plain.cntF_get (M ++ [x]) y)
   have hc1 : M.count x ≤ 2000000 := Nat.le_trans List.count_le_length (by omega)
   have hc2 : (M ++ [x]).count y ≤ 2000001 := Nat.le_trans List.count_le_length (by simp; omega)
   have HS1 := Lib.hid (Plain.cntF_snoc M x)
   have HS2 := Lib.hid (Plain.cntF_snoc (M ++ [x]) y)
   rw [HG1.out] at HS1
   rw [HG2.out] at HS2
   obtain ⟨cx, hcx⟩ : ∃ cx : Int, (M.count x : Int) = cx := ⟨_, rfl⟩
   obtain ⟨cy, hcy⟩ : ∃ cy : Int, ((M ++ [x]).count y : Int) = cy := ⟨_, rfl⟩
   have hcx1 : 0 ≤ cx ∧ cx ≤ 2000000 := by omega
   have hcy1 : 0 ≤ cy ∧ cy ≤ 2000001 := by omega
   rw [hcx] at HG1 HS1
   rw [hcy] at HG2 HS2
   have IA : I64 (cx + 1) := I64.mk (by omega) (by omega)
   have IB : I64 (cy + 1) := I64.mk (by omega) (by omega)
   obtain ⟨hx0, hx1⟩ := hcx1
   obtain ⟨hy0, hy1⟩ := hcy1
   clear hcx hcy hc1 hc2
   have HMB := Lib.hid (HM.out.alloc (.cells #[.int .i64 x, .int .i64 y, .int .i64 z] 50))
   have HBX := Lib.hid (heap_alloc_new wr (.cells #[.int .i64 x, .int .i64 y, .int .i64 z] 50))
   have hmx : 2 * k < maxLen := by unfold maxLen; omega
   have hmx2 : 2 * k + 1 < maxLen := by unfold maxLen; omega
   have HBN := Lib.hid (show wr.heap.size ≠ w.heap.size from by have := HM.out.lt; omega)
   go_wp2_with (first
    | (at_lookup; refine wp_look _ rfl _ _ rfl HMB.out rfl hi1 rfl HG1 ?_)
    | (at_mapUpdate; refine wp_store _ rfl _ _ _ rfl HMB.out hmx rfl hi1 IA rfl rfl ?_; intro w6 m6 g6; rw [HS1.out] at m6; have M6 := Lib.hid m6; have C6 := Lib.hid ((Chg.refl [w.heap.size] _).grown g6 (fun j hj => by cases hj; exact Or.inl (by simp))); have B6 := Lib.hid (C6.out.heap HBX.out (by simpa using HBN.out)); have e0 := (cell_of_row _ _ 0 _ _ _ B6.out).trans (show _ = some (Value.int .i64 x) from rfl); have e1 := (cell_of_row _ _ 1 _ _ _ B6.out).trans (show _ = some (Value.int .i64 y) from rfl); clear m6 g6)
    | (at_lookup; refine wp_look _ rfl _ _ rfl M6.out rfl hi2 rfl HG2 ?_)
    | (at_mapUpdate; refine wp_store _ rfl _ _ _ rfl M6.out hmx2 rfl hi2 IB rfl rfl ?_; intro w7 m7 g7; rw [HS2.out] at m7; have M7 := Lib.hid m7; have C7 := Lib.hid ((Chg.refl [w.heap.size] _).grown g7 (fun j hj => by cases hj; exact Or.inl (by simp))); clear m7 g7)
    | fail)
   go_roundw
   case rel => exact ⟨k + 1, by omega, by go_num, by rw [HEL.out, show [x, y] = [x] ++ [y] from rfl, ← List.append_assoc]; exact M7.out.mono (by omega), ((HC.out.alloc _).trans C6.out (fun j hj => Or.inr (by simp at hj; omega))).trans C7.out (fun j hj => Or.inr (by simp at hj; omega))⟩
   case measure => simp [intOf]; omega
  have e : k = l.length := by omega
  subst e
  rw [List.take_length] at HM
  obtain ⟨M, hM⟩ : ∃ M, Plain.endsK l = M := ⟨_, rfl⟩
  rw [hM] at HM HEN
  have HNO := Lib.hid (fun x => Plain.rings_no (l := l) (x := x))
  have HYES := Lib.hid (Plain.rings_yes (l := l))
  rw [hM] at HNO HYES
  have hD := HM.out
  obtain ⟨D, hown, hval⟩ := hD
  have HV := Lib.hid hval
  have HMM := Lib.hid hM
  clear hval hM
  go_wp2_with (first
   | (at_range; refine wpList_range_own _ rfl _ 126 rfl 3 3 keyedInt Tryz.underlying126 _ w.heap.size _ D rfl hown ?_; intro w0 hrg0 hg0 hs0)
   | fail)
  go_frame
  have HG0 := Lib.hid (show Chg [] wr w0 from (Chg.refl [] wr).grown hg0 (by simp))
  have hrn := hs0
  obtain ⟨rb, hrb⟩ : ∃ rb, wr.heap.size = rb := ⟨_, rfl⟩
  have HRB := Lib.hid hrb
  have HRL := Lib.hid (show w.heap.size ≤ rb by rw [← hrb]; exact HC.out.size)
  have HI64 := Lib.hid (show ∀ x ∈ M, I64 x from fun x hx => by
   rw [← HMM.out] at hx
   obtain ⟨y, hy, hxy⟩ := List.mem_flatMap.1 hx
   obtain ⟨i, hi, rfl⟩ := List.getElem_of_mem hy
   have e1 : Plain.at0 l i = l[i] := by unfold Plain.at0; simp [List.getD, hi]
   have h1 := HSM.out i hi
   rw [e1] at h1
   simp at hxy
   rcases hxy with rfl | rfl
   ·exact h1.1
   exact h1.2.1)
  rw [hrb] at hrg0 ⊢
  have HWR := Lib.hid (HC.out.tr HG0.out)
  have HHAS := Lib.hid (show ∀ x, I64 x → x ∈ M → Maps.has D (.int .i64 x) = true from fun x hx hm => by
   rw [(HV.out x hx).1]
   unfold Plain.cntF
   have := List.count_pos_iff.2 hm
   rw [if_neg (by omega)]
   rfl)
  clear hg0 hs0 hrn hrb
  go_loopw [7] (fun _ wx => ∃ (left : Lit → Bool) (cnt : Nat), wx.ranges Tryz.prog 3 (plainElem Tryz.prog 3) w.heap.size rb (2 * l.length) D left cnt ∧ (∀ z, left z = true → Maps.has D z = true) ∧ (∀ x, I64 x → x ∈ M → left (.int .i64 x) = false → M.count x = 2) ∧ Chg [] w wx)
   (fun _ wx => wx.rangeLeft w.heap.size rb)
  case atStart => exact ⟨_, _, hrg0, fun _ h => h, fun x hx hm hl => (by rw [HHAS.out x hx hm] at hl; cases hl), HWR.out⟩
  case round =>
   obtain ⟨left, cnt, hrg, hhas, hdone, hcx⟩ := hrel
   go_wp2_with (first
    | (at_next; refine wpList_next_ranges_ii _ rfl _ rfl 3 3 .i64 .i64 keyedInt Tryz.underlying3 Tryz.underlying3 w.heap.size rb _ _ _ _ rfl hrg ?_ ?_)
    | fail)
   ·intro _ hl0
    have HR := Lib.hid (show Plain.ringsK l = true from HYES.out fun x hx => hdone x (HI64.out x hx) hx (hl0 _))
    have HCX := Lib.hid hcx
    go_wp2
    go_ret
    exact ⟨ret_bool HR.out.symm, HCX.out⟩
   intro x c w1 cnt1 hwx hwc hlx hat hrg1 hlt hg1 hs1 hen
   have hc2 : c = M.count x := by
    have h1 := hat (.lit (.int .i64 0))
    rw [(HV.out x hwx).2, Plain.cntF_get] at h1
    simp at h1
    exact h1.symm
   have hxm : x ∈ M := by
    have h1 := hhas _ hlx
    rw [(HV.out x hwx).1] at h1
    unfold Plain.cntF at h1
    by_cases h0 : M.count x = 0
    ·rw [if_pos h0] at h1; cases h1
    exact List.count_pos_iff.1 (by omega)
   have HC1 := Lib.hid (show Chg [] w w1 from (hcx.trans ((Chg.refl [rb] wr).grown hg1 (fun j hj => by cases hj; exact Or.inl (by simp))) (fun j hj => Or.inr (by simp at hj; rw [hj]; exact HRL.out))))
   have HCM := Lib.hid hc2
   have HXM := Lib.hid hxm
   clear hc2 hxm
   go_wp2_with fail
   ·have hcne : c ≠ 2 := by simp_all
    go_ret
    exact ⟨ret_bool (HNO.out x HXM.out (fun q => hcne (by rw [HCM.out, q]; rfl))).symm, HC1.out⟩
   have hceq : c = 2 := by simp_all
   refine ⟨⟨_, cnt1, hrg1, fun z hz => hhas z (by simp at hz; exact hz.1), fun y hy hm hl => ?_, HC1.out⟩, by rw [hrg1.left_eq, hrg.left_eq]; omega⟩
   by_cases e : y = x
   ·subst e
    have := HCM.out
    omega
   refine hdone y hy hm ?_
   cases hq : left (.int .i64 y) with
   | false => rfl
   | true =>
    have h1 := sameKey_ne (litNe e)
    rw [hq, h1] at hl
    cases hl
theorem Plain.clEnd_skip {u v i z : Int} {c : Plain.Cl} (h : z = u ∨ z = v) : Plain.clEnd u v i c z = c := by
 unfold Plain.clEnd
 rw [if_pos h]
theorem Plain.clEnd_some {u v i z k : Int} {c : Plain.Cl} (h1 : z ≠ u) (h2 : z ≠ v) (h : c.f z = some k) : Plain.clEnd u v i c z = ⟨c.s.join k i, c.f⟩ := by
 unfold Plain.clEnd
 rw [if_neg (fun q => q.elim h1 h2)]
 simp only [h]
theorem Plain.clEnd_none {u v i z : Int} {c : Plain.Cl} (h1 : z ≠ u) (h2 : z ≠ v) (h : c.f z = none) : Plain.clEnd u v i c z = ⟨c.s, fun y => if y = z then some i else c.f y⟩ := by
 unfold Plain.clEnd
 rw [if_neg (fun q => q.elim h1 h2)]
 simp only [h]
set_option maxRecDepth 100000 in
set_option maxHeartbeats 8000000 in
theorem pclasses_any (v : Value) (l : List Plain.Lk) (u x : Int) (w : World) (hl : l.length ≤ 1000000) (hu : I64 u) (hx : I64 x) (h : LksAt w v l) :
  Calls Tryz.prog 78 #[v, .int .i64 u, .int .i64 x] w fun e w' => ∃ ov vs, e = .returned ov ∧ RowsOwn w' w.heap.size ov vs (Plain.classesK l u x) ∧ Chg [] w w' := by
 obtain ⟨lo, cap, rfl, hm, hsm, hcell⟩ := h
 have HSM := Lib.hid hsm
 have HCE := Lib.hid hcell
 clear hsm hcell
 have hmm := @run_makeMap Tryz.prog
 go_enter Tryz.func78, Tryz.ntmps78
 go_wp2_with fail
 refine (new_any _ [] _ (by decide) (IntsAt.nil w)).mono ?_
 rintro e w2 ⟨pb, own, rfl, hso, hc2, hlow⟩
 have HSO := Lib.hid hso
 have HC2 := Lib.hid hc2
 have HLOW := Lib.hid hlow
 clear hso hc2 hlow
 go_wp2_with fail
 obtain ⟨mb, hmb⟩ : ∃ mb, w2.heap.size = mb := ⟨_, rfl⟩
 have HMB := Lib.hid hmb
 have HM0 := Lib.hid (IMap.made w2)
 have HC0 := Lib.hid ((Chg.refl [] w2).alloc (.map #[] 0))
 have HN0 := Lib.hid (show mb ∉ own from fun q => by have := HSO.out.lt mb q; omega)
 rw [hmb] at HM0 ⊢
 clear hmb
 go_loopw [19] (fun iv wr => ∃ (k : Nat) (own : List Nat), k ≤ l.length ∧ iv = .int .i64 k ∧ SetsObj wr pb own (Plain.clRun u x l k).s ∧ IMap wr mb (2 * k) (Plain.clRun u x l k).f ∧ mb ∉ own ∧ (∀ j ∈ own, w.heap.size ≤ j) ∧ Chg [] w wr) (fun iv _ => l.length - (intOf iv).toNat)
 case atStart => exact ⟨0, own, Nat.zero_le _, rfl, HSO.out.chg HC0.out (by simp), HM0.out, HN0.out, HLOW.out, HC2.out.tr HC0.out⟩
 case round =>
  obtain ⟨k, own, hk, rfl, hso, hmp, hno, hlow, hc⟩ := hrel
  have HSO := Lib.hid hso
  have HM := Lib.hid hmp
  have HNO := Lib.hid hno
  have HLOW := Lib.hid hlow
  have HC := Lib.hid hc
  have HML := Lib.hid (show w.heap.size ≤ mb by rw [← HMB.out]; exact HC2.out.size)
  clear hso hmp hno hlow hc HN0
  by_cases hlt : k < l.length
  ·obtain ⟨b, off, rfl, c0, c1, c2⟩ := HCE.out k hlt
   obtain ⟨hi1, hi2, -⟩ := HSM.out k hlt
   have d0 := HC.out.cel c0
   have d1 := HC.out.cel c1
   have d2 := HC.out.cel c2
   have IK : I64 (k : Int) := I64.mk (by omega) (by omega)
   have HA0 := Lib.hid (show Plain.clAt u x l k 0 = ⟨(Plain.clRun u x l k).s.put k, (Plain.clRun u x l k).f⟩ from rfl)
   have HAJ := Lib.hid (show ∀ j, Plain.clAt u x l k (j + 1) = Plain.clEnd u x k (Plain.clAt u x l k j) ([(Plain.at0 l k).a, (Plain.at0 l k).b].getD j 0) from fun _ => rfl)
   have HA2 := Lib.hid (Plain.clAt_two u x l k)
   have HINV := Lib.hid (Plain.clAt_inv u x l k)
   have HLN := Lib.hid (show (Plain.clRun u x l k).s.all.length ≤ 1000000 by rw [(Plain.clRun_inv u x l k).1, Plain.ixs_len]; omega)
   obtain ⟨p, hp⟩ : ∃ p, (Plain.at0 l k).a = p := ⟨_, rfl⟩
   obtain ⟨q, hq⟩ : ∃ q, (Plain.at0 l k).b = q := ⟨_, rfl⟩
   obtain ⟨r, hr⟩ : ∃ r, (Plain.at0 l k).id = r := ⟨_, rfl⟩
   rw [hp] at d0 hi1 HAJ
   rw [hq] at d1 hi2 HAJ
   rw [hr] at d2
   clear c0 c1 c2 hp hq hr
   have HBX := Lib.hid (heap_alloc_new wr (.cells #[.int .i64 p, .int .i64 q, .int .i64 r] 50))
   have HCB := Lib.hid ((Chg.refl [] wr).alloc (.cells #[.int .i64 p, .int .i64 q, .int .i64 r] 50))
   have HNX := Lib.hid (show wr.heap.size ∉ own from fun e => by have := HSO.out.lt _ e; omega)
   go_wp2_with fail
   refine (add_any pb own _ k _ IK (by have := HLN.out; omega) (HSO.out.chg HCB.out (by simp))).mono ?_
   rintro e w3 ⟨rfl, own3, hso3, hc3, hlow3⟩
   have B3 := hc3.heap HBX.out HNX.out
   have e0 := (cell_of_row _ _ 0 _ _ _ B3).trans (show _ = some (Value.int .i64 p) from rfl)
   have e1 := (cell_of_row _ _ 1 _ _ _ B3).trans (show _ = some (Value.int .i64 q) from rfl)
   have HM3 := Lib.hid ((HM.out.chg HCB.out (by simp)).chg hc3 HNO.out)
   have HSO3 := Lib.hid hso3
   have HNO3 := Lib.hid (show mb ∉ own3 from fun e => by
    rcases hlow3 _ e with h1 | h1
    ·exact HNO.out h1
    have := HM.out.lt; have := HCB.out.size; omega)
   have HLOW3 := Lib.hid (show ∀ j ∈ own3, w.heap.size ≤ j from fun j hj => by
    rcases hlow3 _ hj with h1 | h1
    ·exact HLOW.out j h1
    have := HC.out.size; have := HCB.out.size; omega)
   have HC3 := Lib.hid (show Chg [] w w3 from (HC.out.tr HCB.out).trans hc3 (fun j hj => Or.inr (HLOW.out j hj)))
   clear hso3 hc3 hlow3 B3
   have HLB := Lib.hid (heap_alloc_new w3 (.cells #[.int .i64 p, .int .i64 q] 3))
   have HLC := Lib.hid ((Chg.refl [] w3).alloc (.cells #[.int .i64 p, .int .i64 q] 3))
   go_wp2_with fail
   obtain ⟨lb, hlb⟩ : ∃ lb, w3.heap.size = lb := ⟨_, rfl⟩
   have HNL := Lib.hid (show lb ∉ own3 from fun e => by have := HSO3.out.lt _ e; omega)
   rw [hlb] at HLB ⊢
   have HMN := Lib.hid (show mb ≠ lb by have := HM3.out.lt; omega)
   clear hlb e0 e1
   go_loopw [33] (fun iv wx => ∃ (j : Nat) (own : List Nat), j ≤ 2 ∧ iv = .int .i64 j ∧ SetsObj wx pb own (Plain.clAt u x l k j).s ∧ IMap wx mb (2 * k + j) (Plain.clAt u x l k j).f ∧ mb ∉ own ∧ lb ∉ own ∧ (∀ j ∈ own, w.heap.size ≤ j) ∧ wx.heap[lb]? = some (.cells #[.int .i64 p, .int .i64 q] 3 (0, 0)) ∧ Chg [] w wx) (fun iv _ => 2 - (intOf iv).toNat)
   case atStart => exact ⟨0, own3, by omega, rfl, HSO3.out.chg HLC.out (by simp), HM3.out.chg HLC.out (by simp), HNO3.out, HNL.out, HLOW3.out, HLB.out, HC3.out.tr HLC.out⟩
   case round =>
    obtain ⟨j, own4, hj, rfl, hso4, hm4, hno4, hnl4, hlow4, hlb4, hc4⟩ := hrel
    have HSO4 := Lib.hid hso4
    have HM4 := Lib.hid hm4
    have HNO4 := Lib.hid hno4
    have HNL4 := Lib.hid hnl4
    have HLOW4 := Lib.hid hlow4
    have HLB4 := Lib.hid hlb4
    have HC4 := Lib.hid hc4
    clear hso4 hm4 hno4 hnl4 hlow4 hlb4 hc4
    by_cases hj2 : j < 2
    ·have HNEXT := Lib.hid (HAJ.out j)
     obtain ⟨z, hz⟩ : ∃ z, [p, q].getD j 0 = z := ⟨_, rfl⟩
     have IZ : I64 z := by
      rw [← hz]
      rcases (show j = 0 ∨ j = 1 by omega) with rfl | rfl
      ·exact hi1
      exact hi2
     have cz : wr.cell? ⟨lb, j, none⟩ = some (.int .i64 z) := by
      rw [← hz, cell_of_row _ _ j _ _ _ HLB4.out]
      rcases (show j = 0 ∨ j = 1 by omega) with rfl | rfl <;> rfl
     rw [hz] at HNEXT
     have HLI := Lib.hid (HINV.out j)
     have hll : (Plain.clAt u x l k j).s.all.length ≤ 1000001 := by rw [(HINV.out j).1, Plain.ixs_len]; omega
     have HLL := Lib.hid hll
     have hmx : 2 * k + j < maxLen := by unfold maxLen; omega
     obtain ⟨c, hcl⟩ : ∃ c, Plain.clAt u x l k j = c := ⟨_, rfl⟩
     rw [hcl] at HNEXT HSO4 HM4 HLI HLL
     clear hz hll hcl
     by_cases hzu : z = u
     ·subst hzu
      have HE := Lib.hid (Plain.clEnd_skip (u := z) (v := x) (i := k) (c := c) (Or.inl (rfl : z = z)))
      go_wp2
      go_roundw
      case rel => exact ⟨j + 1, own4, by omega, by go_num, by rw [HNEXT.out, HE.out]; exact HSO4.out, by rw [HNEXT.out, HE.out]; exact HM4.out.mono (by omega), HNO4.out, HNL4.out, HLOW4.out, HLB4.out, HC4.out⟩
      case measure => simp [intOf]; omega
     by_cases hzx : z = x
     ·subst hzx
      have HE := Lib.hid (Plain.clEnd_skip (u := u) (v := z) (i := k) (c := c) (Or.inr (rfl : z = z)))
      go_wp2
      go_roundw
      case rel => exact ⟨j + 1, own4, by omega, by go_num, by rw [HNEXT.out, HE.out]; exact HSO4.out, by rw [HNEXT.out, HE.out]; exact HM4.out.mono (by omega), HNO4.out, HNL4.out, HLOW4.out, HLB4.out, HC4.out⟩
      case measure => simp [intOf]; omega
     have hbu : (z == u) = false := beq_eq_false_iff_ne.2 hzu
     have hbx : (z == x) = false := beq_eq_false_iff_ne.2 hzx
     cases hf : c.f z with
     | none =>
      have HE := Lib.hid (Plain.clEnd_none (i := k) hzu hzx hf)
      have HV := Lib.hid (show (c.f z).getD 0 = 0 by rw [hf]; rfl)
      have HT := Lib.hid (show (c.f z).isSome = false by rw [hf]; rfl)
      clear hf
      go_wp2_with (first
       | (at_lookup; refine wp_look_any _ rfl _ _ rfl HM4.out rfl IZ rfl HV HT ?_)
       | (at_mapUpdate; refine wp_store _ rfl _ _ _ rfl HM4.out hmx rfl IZ IK rfl rfl ?_; intro w6 m6 g6; have M6 := Lib.hid m6; have C6 := Lib.hid ((Chg.refl [mb] _).grown g6 (fun j hj => by cases hj; exact Or.inl (by simp))); clear m6 g6)
       | fail)
      go_roundw
      case rel => exact ⟨j + 1, own4, by omega, by go_num, by rw [HNEXT.out, HE.out]; exact HSO4.out.chg C6.out (fun b hb e => HNO4.out (by rw [List.mem_singleton] at e; rw [← e]; exact hb)), by rw [HNEXT.out, HE.out]; exact M6.out.mono (by omega), HNO4.out, HNL4.out, HLOW4.out, C6.out.heap HLB4.out (by simpa using Ne.symm HMN.out), HC4.out.trans C6.out (fun j hj => Or.inr (by rw [List.mem_singleton.1 hj]; exact HML.out))⟩
      case measure => simp [intOf]; omega
     | some i =>
      have HE := Lib.hid (Plain.clEnd_some (i := k) hzu hzx hf)
      have HV := Lib.hid (show (c.f z).getD 0 = i by rw [hf]; rfl)
      have HT := Lib.hid (show (c.f z).isSome = true by rw [hf]; rfl)
      have hik := Plain.mem_ixs.1 (HLI.out.2 z i hf)
      have II : I64 i := I64.mk (by omega) (by omega)
      clear hf hik
      go_wp2_with (at_lookup; refine wp_look_any _ rfl _ _ rfl HM4.out rfl IZ rfl HV HT ?_)
      refine (join_any pb own4 _ i k _ II IK (by have := HLL.out; omega) HSO4.out).mono ?_
      rintro e w6 ⟨rfl, own6, hso6, hc6, hlow6⟩
      have HSO6 := Lib.hid hso6
      have HC6 := Lib.hid hc6
      have HL6 := Lib.hid hlow6
      have hmsz := HM4.out.lt
      have hlsz := lt_of_block HLB4.out
      clear hso6 hc6 hlow6
      go_wp2
      go_roundw
      case rel => exact ⟨j + 1, own6, by omega, by go_num, by rw [HNEXT.out, HE.out]; exact HSO6.out, by rw [HNEXT.out, HE.out]; exact (HM4.out.chg HC6.out HNO4.out).mono (by omega), fun e => (HL6.out _ e).elim HNO4.out (by omega), fun e => (HL6.out _ e).elim HNL4.out (by omega), fun j hj => (HL6.out j hj).elim (HLOW4.out j) (fun q => Nat.le_trans HC4.out.size q), HC6.out.heap HLB4.out HNL4.out, HC4.out.trans HC6.out (fun j hj => Or.inr (HLOW4.out j hj))⟩
      case measure => simp [intOf]; omega
    have e : j = 2 := by omega
    subst e
    rw [← HA2.out] at HSO4 HM4
    clear hj hj2
    go_wp2
    go_roundw
    case rel => exact ⟨k + 1, own4, by omega, by go_num, HSO4.out, HM4.out.mono (by omega), HNO4.out, HLOW4.out, HC4.out⟩
    case measure => simp [intOf]; omega
  have e : k = l.length := by omega
  subst e
  have HLN := Lib.hid (show (Plain.clRun u x l l.length).s.all.length ≤ 1000000 by rw [(Plain.clRun_inv u x l l.length).1, Plain.ixs_len]; omega)
  have HG := Lib.hid (show (Plain.clRun u x l l.length).s.groups = Plain.classesK l u x from rfl)
  clear hlt hk
  go_wp2_with fail
  refine (groups_any pb own _ _ (by have := HLN.out; omega) HSO.out).mono ?_
  rintro e w6 ⟨ov, vs, rfl, hro, own6, -, hc6, -⟩
  rw [HG.out] at hro
  have HRO := Lib.hid (hro.base HC.out.size)
  have HC6 := Lib.hid (show Chg [] w w6 from HC.out.trans hc6 (fun j hj => Or.inr (HLOW.out j hj)))
  clear hro hc6
  go_wp2
  go_ret
  exact ⟨_, _, rfl, HRO.out, HC6.out⟩
theorem Plain.ptK_small (l : List Plain.Lk) : (Plain.ptK l).v.length ≤ 2 * l.length := by
 have h : (Plain.ptK l).v.length ≤ (Plain.endsL (Plain.grK l) (Plain.ixs l.length)).length :=
  Plain.len_le_of_sub ((Plain.tidy_ok _).1.imp fun h e => by omega) fun x hx => ((Plain.tidy_ok _).2 x).1 hx
 rw [Plain.endsL_len, Plain.ixs_len] at h
 exact h
set_option maxRecDepth 100000 in
set_option maxHeartbeats 4000000 in
theorem pright_any (v : Value) (l : List Plain.Lk) (w : World) (hl : l.length ≤ 50000) (h : LksAt w v l) :
  Calls Tryz.prog 43 #[v] w fun e w' => e = .returned (.bool (Plain.rightK l)) ∧ Chg [] w w' := by
 have hpv := Plain.ptK_small l
 go_enter Tryz.func43, Tryz.ntmps43
 go_wp2_with fail
 refine (pwhole_any _ l _ (by omega) h).mono ?_
 rintro e w2 ⟨n, so, sn, sc, v1, v2, rfl, ⟨a1, n1, c1, rfl⟩, ⟨a2, n2, c2, rfl⟩, hgp, hc2⟩
 have HC2 := Lib.hid hc2
 clear hc2
 by_cases hw : Plain.wholeB l = true
 ·obtain ⟨hg, hp⟩ := hgp hw
  have HG := Lib.hid hg
  have HP := Lib.hid hp
  have HR := Lib.hid (show Plain.rightK l = Plain.solidB (Plain.grK l) (Plain.ptK l) by unfold Plain.rightK; rw [hw, Bool.true_and])
  rw [hw]
  clear hg hp hgp hw
  have HC3 := Lib.hid (((Chg.refl [] w2).alloc (.cells #[.int .i64 n, .slice so sn sc] 41)).alloc (.cells #[.slice a1 n1 c1, .slice a2 n2 c2] 43))
  go_wp2_with fail
  refine (bsolid_any _ _ (Plain.grK l) (Plain.ptK l) _ (by omega) (HG.out.fresh HC3.out) (HP.out.fresh HC3.out)).mono ?_
  rintro e w3 ⟨rfl, hc3⟩
  have HC4 := Lib.hid (HC2.out.tr (HC3.out.tr hc3))
  clear hc3
  go_wp2
  go_ret
  exact ⟨ret_bool HR.out.symm, HC4.out⟩
 rw [Bool.not_eq_true] at hw
 have HR := Lib.hid (show Plain.rightK l = false by unfold Plain.rightK; rw [hw]; rfl)
 rw [hw]
 have HC3 := Lib.hid (HC2.out.tr (((Chg.refl [] w2).alloc (.cells #[.int .i64 n, .slice so sn sc] 41)).alloc (.cells #[.slice a1 n1 c1, .slice a2 n2 c2] 43)))
 clear hgp hw
 go_wp2
 go_ret
 exact ⟨ret_bool HR.out.symm, HC3.out⟩
set_option maxRecDepth 100000 in
set_option maxHeartbeats 4000000 in
theorem pClasses_any (v : Value) (l : List Plain.Lk) (u x : Int) (w : World) (hl : l.length ≤ 50000) (hu : I64 u) (hx : I64 x) (h : LksAt w v l) :
  Calls Tryz.prog 104 #[v, .int .i64 u, .int .i64 x] w fun e w' => ∃ ov vs, e = .returned ov ∧ RowsOwn w' w.heap.size ov vs (Plain.classesR l u x) ∧ Chg [] w w' := by
 have H := Lib.hid h
 obtain ⟨lo, cap, rfl, -⟩ := h
 have HLE := Lib.hid (show (Plain.vertsK l).length ≤ 1000000 by
  have h : (Plain.vertsK l).length ≤ (Plain.endsK l).length := Plain.len_le_of_sub ((Plain.tidy_ok _).1.imp fun h e => by omega) fun x hx => ((Plain.tidy_ok _).2 x).1 hx
  rw [Plain.endsK_len] at h
  omega)
 have HVP := Lib.hid (show (Plain.vertsK l).Pairwise (· < ·) from (Plain.tidy_ok _).1)
 go_enter Tryz.func104, Tryz.ntmps104
 go_wp2_with fail
 refine (vertices_any _ l _ (by omega) H.out).mono ?_
 rintro e w2 ⟨ov, rfl, hr, hc⟩
 have HR := Lib.hid hr.ints
 have HC := Lib.hid hc
 clear hr hc
 have HCR := Lib.hid (show Plain.classesR l u x = if u = x ∨ u ∉ Plain.vertsK l ∨ x ∉ Plain.vertsK l ∨ Plain.rightK l = false then [] else Plain.classesK l u x from rfl)
 obtain ⟨V, hV⟩ : ∃ V, Plain.vertsK l = V := ⟨_, rfl⟩
 rw [hV] at HR HLE HVP HCR
 clear hV
 by_cases hux : u = x
 ·subst hux
  rw [if_pos (Or.inl rfl)] at HCR
  go_wp2
  go_ret
  exact ⟨_, [], rfl, by rw [HCR.out]; exact RowsOwn.nil _ _, HC.out⟩
 have bux : (u == x) = false := beq_eq_false_iff_ne.2 hux
 by_cases huV : u ∈ V
 ·by_cases hxV : x ∈ V
  ·go_wp2_with fail
   refine (has_any _ V u _ HVP.out (by have := HLE.out; omega) HR.out).mono ?_
   rintro e w3 ⟨rfl, hc3⟩
   have HC3 := Lib.hid (HC.out.tr hc3)
   have HR3 := Lib.hid (HR.out.fresh hc3)
   rw [decide_eq_true huV]
   clear hc3
   go_wp2_with fail
   refine (has_any _ V x _ HVP.out (by have := HLE.out; omega) HR3.out).mono ?_
   rintro e w4 ⟨rfl, hc4⟩
   have HC4 := Lib.hid (HC3.out.tr hc4)
   rw [decide_eq_true hxV]
   clear hc4
   go_wp2_with fail
   refine (pright_any _ l _ hl (H.out.fresh HC4.out)).mono ?_
   rintro e w5 ⟨rfl, hc5⟩
   have HC5 := Lib.hid (HC4.out.tr hc5)
   clear hc5
   obtain ⟨rk, hrk⟩ : ∃ rk, Plain.rightK l = rk := ⟨_, rfl⟩
   rw [hrk] at HCR ⊢
   cases rk
   ·rw [if_pos (Or.inr (Or.inr (Or.inr rfl)))] at HCR
    go_wp2
    go_ret
    exact ⟨_, [], rfl, by rw [HCR.out]; exact RowsOwn.nil _ _, HC5.out⟩
   rw [if_neg (by rintro (q | q | q | q); exact hux q; exact q huV; exact q hxV; cases q)] at HCR
   go_wp2_with fail
   refine (pclasses_any _ l u x _ (by omega) hu hx (H.out.fresh HC5.out)).mono ?_
   rintro e w6 ⟨ov6, vs6, rfl, hro, hc6⟩
   have HRO := Lib.hid (hro.base HC5.out.size)
   have HC6 := Lib.hid (HC5.out.tr hc6)
   clear hro hc6
   go_wp2
   go_ret
   exact ⟨_, _, rfl, by rw [HCR.out]; exact HRO.out, HC6.out⟩
  rw [if_pos (Or.inr (Or.inr (Or.inl hxV)))] at HCR
  go_wp2_with fail
  refine (has_any _ V u _ HVP.out (by have := HLE.out; omega) HR.out).mono ?_
  rintro e w3 ⟨rfl, hc3⟩
  have HC3 := Lib.hid (HC.out.tr hc3)
  have HR3 := Lib.hid (HR.out.fresh hc3)
  rw [decide_eq_true huV]
  clear hc3
  go_wp2_with fail
  refine (has_any _ V x _ HVP.out (by have := HLE.out; omega) HR3.out).mono ?_
  rintro e w4 ⟨rfl, hc4⟩
  have HC4 := Lib.hid (HC3.out.tr hc4)
  rw [decide_eq_false hxV]
  clear hc4
  go_wp2
  go_ret
  exact ⟨_, [], rfl, by rw [HCR.out]; exact RowsOwn.nil _ _, HC4.out⟩
 rw [if_pos (Or.inr (Or.inl huV))] at HCR
 go_wp2_with fail
 refine (has_any _ V u _ HVP.out (by have := HLE.out; omega) HR.out).mono ?_
 rintro e w3 ⟨rfl, hc3⟩
 have HC3 := Lib.hid (HC.out.tr hc3)
 rw [decide_eq_false huV]
 clear hc3
 go_wp2
 go_ret
 exact ⟨_, [], rfl, by rw [HCR.out]; exact RowsOwn.nil _ _, HC3.out⟩
namespace Plain
def cutL (g : Gr) (p : Pt) : List Int := (keysB g p).flatMap (blkV g p)
theorem blkV_in {g : Gr} {p : Pt} (h : p.err g = 0) {r : Int} (hr : r ∈ keysB g p) : ∀ x ∈ blkV g p r, 0 ≤ x ∧ x < g.n := by
 intro x hx
 have hx2 := ((tidy_ok _).2 x).1 hx
 obtain ⟨e, he, hxe⟩ := List.mem_flatMap.1 hx2
 have hb := blAt_mem (keysB_mem.1 hr)
 have hep := ((bl_small (Pt.ok_of_err h)).2 _ hb.1).2 e he
 obtain ⟨h1, h2, h3, h4⟩ := Pt.err_ok h
 obtain ⟨i, hi, rfl⟩ := List.getElem_of_mem hep
 have h5 := rises_at h3 hi
 have e1 : p.e.getD i 0 = p.e[i] := by simp [List.getD, hi]
 rw [e1] at h5
 have h6 := (Gr.err_ok h1).2.2.2 (p.e[i]).toNat (by omega)
 simp only [List.mem_cons, List.not_mem_nil, or_false] at hxe
 unfold Gr.at at hxe
 rcases hxe with rfl | rfl <;> omega
theorem blkV_small {g : Gr} {p : Pt} (h : p.err g = 0) {r : Int} (hr : r ∈ keysB g p) : (blkV g p r).length ≤ 1024 := by
 have h1 := blkV_in h hr
 have h2 : (blkV g p r).Pairwise (· < ·) := (tidy_ok _).1
 have hg := Gr.err_ok (Pt.err_ok h).1
 have h3 : (blkV g p r).length ≤ (ixs g.n.toNat).length := by
  refine len_le_of_sub (h2.imp fun q e => by omega) fun x hx => mem_ixs.2 ?_
  have := h1 x hx
  omega
 rw [ixs_len] at h3
 omega
def cutS (g : Gr) (p : Pt) (i j : Nat) : List Int := ((keysB g p).take i).flatMap (blkV g p) ++ (blkV g p ((keysB g p).getD i 0)).take j
theorem cutS_next {g : Gr} {p : Pt} {i : Nat} (hi : i < (keysB g p).length) : cutS g p i (blkV g p ((keysB g p).getD i 0)).length = cutS g p (i + 1) 0 := by
 unfold cutS
 rw [List.take_length, List.take_succ_eq_append_getElem hi, List.flatMap_append]
 simp [List.getD, hi]
theorem cutS_snoc {g : Gr} {p : Pt} {i j : Nat} (hj : j < (blkV g p ((keysB g p).getD i 0)).length) : cutS g p i (j + 1) = cutS g p i j ++ [(blkV g p ((keysB g p).getD i 0)).getD j 0] := by
 unfold cutS
 rw [List.append_assoc]
 congr 1
 generalize blkV g p ((keysB g p).getD i 0) = L at hj ⊢
 rw [List.take_succ_eq_append_getElem hj]
 simp [List.getD, hj]
theorem cutS_end (g : Gr) (p : Pt) : cutS g p (keysB g p).length 0 = cutL g p := by simp [cutS, cutL]
theorem flat_small {V : Int → List Int} : ∀ {R : List Int}, (∀ r ∈ R, (V r).length ≤ 1024) → (R.flatMap V).length ≤ 1024 * R.length
 | [], _ => by simp
 | r :: R, h => by
  have ih := flat_small (R := R) fun s hs => h s (List.mem_cons_of_mem _ hs)
  have := h r (by simp)
  rw [List.flatMap_cons, List.length_append, List.length_cons]
  omega
theorem cutS_small {g : Gr} {p : Pt} (h : p.err g = 0) {i j : Nat} (hi : i < (keysB g p).length) : (cutS g p i j).length ≤ 2000000 := by
 have hk := bl_small (Pt.ok_of_err h)
 have hke := keysB_len g p
 have hg := Gr.err_ok (Pt.err_ok h).1
 have hrl := rises_len (Pt.err_ok h).2.2.1
 have hmem : ∀ r ∈ keysB g p, (blkV g p r).length ≤ 1024 := fun r hr => blkV_small h hr
 have h1 := flat_small (V := blkV g p) (R := (keysB g p).take i) fun r hr => hmem r (List.mem_of_mem_take hr)
 have h2 := hmem _ (getD_mem hi)
 have h3 : (((keysB g p).take i)).length ≤ 1024 := by rw [List.length_take]; omega
 unfold cutS
 rw [List.length_append, List.length_take]
 omega
theorem upd_cnt (M : List Int) (x : Int) : upd (fun y => (M.count y : Int)) x ((M.count x : Int) + 1) = fun y => ((M ++ [x]).count y : Int) := by
 funext y
 unfold upd
 by_cases e : y = x
 ·subst e
  simp [List.count_append]
 simp [e, List.count_append, Ne.symm e]
theorem ixs_filter_snoc (q : Int → Bool) (k : Nat) : (ixs (k + 1)).filter q = (ixs k).filter q ++ if q k = true then [(k : Int)] else [] := by
 rw [ixs_snoc, List.filter_append]
 congr 1
 by_cases h : q k = true <;> simp [h]
end Plain
theorem fn_made {w : World} {B b n : Nat} (h : RowAt w B (.slice (some ⟨b, 0, none⟩) n n) (List.replicate n 0)) : FnAt w b n fun _ => 0 := by
 have e : (List.range n).map (fun _ : Nat => (0 : Int)) = List.replicate n 0 := List.eq_replicate_iff.2 ⟨by rw [List.length_map, List.length_range], fun x hx => by
  obtain ⟨y, -, rfl⟩ := List.mem_map.1 hx
  rfl⟩
 unfold FnAt
 rw [e]
 exact h.base (Nat.zero_le _)
set_option maxRecDepth 100000 in
set_option maxHeartbeats 8000000 in
theorem cuts_any (vg vp : Value) (g : Plain.Gr) (p : Plain.Pt) (w : World) (hpl : p.v.length ≤ 100000) (hg : GrAt w vg g) (hp : PtAt w vp p) :
  Calls Tryz.prog 120 #[vg, vp] w fun e w' => ∃ ov, e = .returned (.tuple #[ov, .int .i64 (p.err g)]) ∧ RowAt w' w.heap.size ov (Plain.cutsB g p) ∧ Chg [] w w' := by
 obtain ⟨eo, cap, ao, ac, bo, bc, rfl, rfl, HG, HP, hm, ham, hbm, HAC, HBC, HAS, HBS, HC1, HBXS⟩ := box_gp hg hp
 clear hg hp
 obtain ⟨x0, x1, y0, y1, hsz⟩ := HBXS.out _ (Chg.refl _ _)
 go_enter Tryz.func120, Tryz.ntmps120
 go_wp2_with fail
 obtain ⟨w1, hw1⟩ : ∃ w1, ((w.alloc (.cells #[.int .i64 g.n, .slice eo g.e.length cap] 41)).alloc (.cells #[.slice ao p.v.length ac, .slice bo p.e.length bc] 43)) = w1 := ⟨_, rfl⟩
 rw [hw1] at HC1 HBXS ⊢
 clear hw1 x0 x1 y0 y1 hsz
 refine (blocks_any _ _ g p _ hpl (HG.out.fresh HC1.out) (HP.out.fresh HC1.out)).mono ?_
 rintro e w2 ⟨ov, rfl, hno, hyes, hc2⟩
 have HC2 := Lib.hid (HC1.out.tr hc2)
 obtain ⟨x0, x1, y0, y1, hsz⟩ := HBXS.out _ hc2
 clear hc2
 by_cases hr : p.err g = 0
 ·obtain ⟨xs, hne⟩ := hyes hr
  have HNE := Lib.hid hne
  have HR := Lib.hid hr
  obtain ⟨uo, uc, rfl⟩ := hne.shape
  rw [hr]
  have hge := Plain.Gr.err_ok (Plain.Pt.err_ok hr).1
  obtain ⟨N, hN⟩ : ∃ N : Nat, g.n = N := ⟨g.n.toNat, by omega⟩
  have HN := Lib.hid hN
  have hNl : N ≤ 1024 := by omega
  rw [hN] at x0
  obtain ⟨B0, hB0⟩ : ∃ B0, w.heap.size = B0 := ⟨_, rfl⟩
  have HB0 := Lib.hid hB0
  rw [hB0] at x0 x1 y0 y1 ⊢
  clear hne hno hyes hr hge hN hB0
  have hB2 : B0 ≤ w2.heap.size := by rw [← HB0.out]; exact HC2.out.size
  have hN1 : N < 68719476736 := by omega
  have hN2 : N < 4294967296 := by omega
  go_wp2_with (at_make; refine wp_make elemInt rfl _ _ rfl (B := B0) (n := N) rfl rfl hB2 hN1 ?_; intro w3 h3 c3; have R3 := Lib.hid (fn_made (row_made h3 hN2)); have C3 := Lib.hid c3; clear h3 c3)
  obtain ⟨cb, hcb⟩ : ∃ cb, w2.heap.size = cb := ⟨_, rfl⟩
  have HCB := Lib.hid hcb
  rw [hcb] at R3 ⊢
  have HIN := Lib.hid (fun r (hr : r ∈ Plain.keysB g p) => Plain.blkV_in HR.out hr)
  have HVS := Lib.hid (fun r (hr : r ∈ Plain.keysB g p) => Plain.blkV_small HR.out hr)
  have HCS := Lib.hid (fun i j (hi : i < (Plain.keysB g p).length) => Plain.cutS_small HR.out (i := i) (j := j) hi)
  have HKL := Lib.hid (show (Plain.keysB g p).length ≤ 1024 by
   have h1 := Plain.keysB_len g p
   have h2 := (Plain.bl_small (Plain.Pt.ok_of_err HR.out)).1
   have h3 := rises_len (Plain.Pt.err_ok HR.out).2.2.1
   have h4 := Plain.Gr.err_ok (Plain.Pt.err_ok HR.out).1
   omega)
  have HNX := Lib.hid (fun i (hi : i < (Plain.keysB g p).length) => Plain.cutS_next (g := g) (p := p) hi)
  have HSN := Lib.hid (fun i j (hj : j < (Plain.blkV g p ((Plain.keysB g p).getD i 0)).length) => Plain.cutS_snoc (g := g) (p := p) (i := i) hj)
  have HEND := Lib.hid (Plain.cutS_end g p)
  have HS0 := Lib.hid (show Plain.cutS g p 0 0 = [] by simp [Plain.cutS])
  have HCT := Lib.hid (show Plain.cutsB g p = (Plain.ixs N).filter fun v => 1 < (Plain.cutL g p).count v by unfold Plain.cutsB; rw [if_neg (by simpa using HR.out), HN.out]; rfl)
  obtain ⟨K, hK⟩ : ∃ K, Plain.keysB g p = K := ⟨_, rfl⟩
  rw [hK] at HNE HIN HVS HCS HKL HNX HSN HEND ⊢
  obtain ⟨V, hV⟩ : ∃ V, Plain.blkV g p = V := ⟨_, rfl⟩
  rw [hV] at HNE HIN HVS HNX HSN
  obtain ⟨S, hS⟩ : ∃ S, Plain.cutS g p = S := ⟨_, rfl⟩
  rw [hS] at HCS HNX HSN HEND HS0
  obtain ⟨M, hM⟩ : ∃ M, Plain.cutL g p = M := ⟨_, rfl⟩
  rw [hM] at HEND HCT
  have hkl := HKL.out
  have hBB := HC2.out.size
  rw [HB0.out] at hBB
  clear hcb hB2 hN1 hN2 hK hV hS hM x0 x1 y0 y1 hsz
  go_wp2_with fail
  go_loopw [30] (fun iv wr => ∃ i : Nat, i ≤ K.length ∧ iv = .int .i64 i ∧ FnAt wr cb N (fun y => ((S i 0).count y : Int)) ∧ Chg [] w2 wr) (fun iv _ => K.length - (intOf iv).toNat)
  case atStart => exact ⟨0, Nat.zero_le _, rfl, by rw [HS0.out]; simpa using R3.out, C3.out⟩
  case round =>
   obtain ⟨i, hi, rfl, hfn, hc⟩ := hrel
   have HF := Lib.hid hfn
   have HC := Lib.hid hc
   clear hfn hc
   by_cases hlt : i < K.length
   ·obtain ⟨g1, c1, va, vc, ea, ec, he1, hc0, hc1, rV, rE⟩ := nest_pair HNE.out rfl hlt
    simp only [Value.slice.injEq] at he1
    obtain ⟨rfl, -, rfl⟩ := he1
    have d0 := HC.out.cel hc0
    have d1 := HC.out.cel hc1
    have hmem : K.getD i 0 ∈ K := Plain.getD_mem hlt
    have HRV := Lib.hid rV.ints
    have HV1 := Lib.hid (HIN.out _ hmem)
    have HV2 := HVS.out _ hmem
    have HN1 := Lib.hid (HNX.out i hlt)
    have HS1 := Lib.hid (fun j => HSN.out i j)
    have HL1 := Lib.hid (fun j => HCS.out i j hlt)
    obtain ⟨L, hL⟩ : ∃ L, V (K.getD i 0) = L := ⟨_, rfl⟩
    rw [hL] at d0 HRV HV1 HV2 HN1 HS1
    obtain ⟨L2, hL2⟩ : ∃ L2, Plain.blkE g p (K.getD i 0) = L2 := ⟨_, rfl⟩
    rw [hL2] at d1
    have HBC := Lib.hid ((Chg.refl [] wr).alloc (.cells #[.slice va L.length vc, .slice ea L2.length ec] 43))
    clear hc0 hc1 rV rE hmem hL hL2
    go_wp2_with fail
    go_loopw [37] (fun iv wx => ∃ j : Nat, j ≤ L.length ∧ iv = .int .i64 j ∧ FnAt wx cb N (fun y => ((S i j).count y : Int)) ∧ Chg [] w2 wx) (fun iv _ => L.length - (intOf iv).toNat)
    case atStart => exact ⟨0, Nat.zero_le _, rfl, HF.out.chg HBC.out (by simp), HC.out.tr HBC.out⟩
    case round =>
     obtain ⟨j, hj, rfl, hfn, hc⟩ := hrel
     have HF2 := Lib.hid hfn
     have HC2' := Lib.hid hc
     clear hfn hc
     by_cases hjl : j < L.length
     ·obtain ⟨rb, roff, rfl, rc⟩ := IntsAt.cellAt HRV.out hjl
      have cj := HC2'.out.cel rc
      have hvn := HV1.out _ (Plain.getD_mem hjl)
      have HSJ := Lib.hid (HS1.out j hjl)
      obtain ⟨vn, hvn2⟩ : ∃ vn : Nat, L.getD j 0 = (vn : Int) := ⟨(L.getD j 0).toNat, by omega⟩
      rw [hvn2] at cj hvn HSJ
      have hvlt : vn < N := by have := HN.out; omega
      have hvl2 : (vn : Int) < (N : Int) := by omega
      have cv := HF2.out.cell hvlt
      have fv := HF2.out.free (by omega) vn
      have HLJ := HL1.out j
      have HUP := Lib.hid (Plain.upd_cnt (S i j) (vn : Int))
      have hc1 : (S i j).count (vn : Int) ≤ 2000000 := Nat.le_trans List.count_le_length HLJ
      obtain ⟨q, hq⟩ : ∃ q : Int, ((S i j).count (vn : Int) : Int) = q := ⟨_, rfl⟩
      have hq0 : 0 ≤ q := by omega
      have hq1 : q ≤ 2000000 := by omega
      have IQ : I64 (q + 1) := I64.mk (by omega) (by omega)
      rw [hq] at cv HUP
      have HCBL := Lib.hid (show w2.heap.size ≤ cb by rw [HCB.out]; exact Nat.le_refl _)
      clear rc hvn2 hvn HLJ hc1 hq
      go_wp2
      have hset : Chg [cb] wr (wr.setCell ⟨cb, vn, none⟩ (.int .i64 (q + 1))) := (Chg.refl _ _).setCell (Or.inl (by simp)) _
      have hf2 := HF2.out.set hvlt IQ
      go_roundw
      case rel => exact ⟨j + 1, by omega, by go_num, by rw [HSJ.out, ← HUP.out]; exact hf2, HC2'.out.trans hset (fun b hb => Or.inr (by rw [List.mem_singleton.1 hb]; exact HCBL.out))⟩
      case measure => simp [intOf]; omega
     have e : j = L.length := by omega
     subst e
     rw [HN1.out] at HF2
     clear hj hjl
     go_wp2
     go_roundw
     case rel => exact ⟨i + 1, by omega, by go_num, HF2.out, HC2'.out⟩
     case measure => simp [intOf]; omega
   have e : i = K.length := by omega
   subst e
   rw [HEND.out] at HF
   have HMC := Lib.hid (show ∀ y, M.count y ≤ 2000000 by
    intro y
    by_cases h0 : K.length = 0
    ·rw [← HEND.out, h0, HS0.out]; simp
    have h1 := HCS.out (K.length - 1) (V (K.getD (K.length - 1) 0)).length (by omega)
    rw [HNX.out (K.length - 1) (by omega), show K.length - 1 + 1 = K.length by omega, HEND.out] at h1
    exact Nat.le_trans List.count_le_length h1)
   clear hi hlt
   go_wp2_with fail
   go_loopw [13, 51] (fun c13 iv wx => ∃ k : Nat, k ≤ N ∧ iv = .int .i64 k ∧ RowAt wx (cb + 1) c13 ((Plain.ixs k).filter fun v => 1 < M.count v) ∧ FnAt wx cb N (fun y => (M.count y : Int)) ∧ Chg [] w2 wx) (fun _ iv _ => N - (intOf iv).toNat)
   case atStart => exact ⟨0, Nat.zero_le _, rfl, rowNil' _ _, HF.out, HC.out⟩
   case round =>
    obtain ⟨k, hk, rfl, hr, hfn, hc⟩ := hrel
    have HR3 := Lib.hid hr
    have HF3 := Lib.hid hfn
    have HC3 := Lib.hid hc
    obtain ⟨so, sc, rfl⟩ := hr.shape
    clear hr hfn hc
    by_cases hkN : k < N
    ·have ck := HF3.out.cell hkN
     have hkI : (k : Int) < (N : Int) := by omega
     have HSN3 := Lib.hid (Plain.ixs_filter_snoc (fun v => decide (1 < M.count v)) k)
     have hmc := HMC.out (k : Int)
     have IK : I64 (k : Int) := I64.mk (by omega) (by omega)
     have HLN := Lib.hid (show ((Plain.ixs k).filter fun v => decide (1 < M.count v)).length ≤ k from by have h := List.length_filter_le (fun v => decide (1 < M.count v)) (Plain.ixs k); rwa [Plain.ixs_len] at h)
     obtain ⟨q, hq⟩ : ∃ q : Int, (M.count (k : Int) : Int) = q := ⟨_, rfl⟩
     rw [hq] at ck
     have HSZ3 := Lib.hid (show cb + 1 ≤ wr.heap.size by
      obtain ⟨cs, hh⟩ := HF3.out.kind
      have := lt_of_block hh
      omega)
     by_cases hgt : 1 < M.count (k : Int)
     ·rw [if_pos (by simpa using hgt)] at HSN3
      have hqg : 1 < q := by omega
      obtain ⟨A, hA⟩ : ∃ A, (Plain.ixs k).filter (fun v => decide (1 < M.count v)) = A := ⟨_, rfl⟩
      rw [hA] at HR3 HSN3 HLN ⊢
      have hAl : A.length < 4294967290 := by have := HLN.out; omega
      have hfb : ∀ b ∈ foot (.slice so A.length sc), cb + 1 ≤ b := fun b hb => (HR3.out.low b (by rw [← HR3.out.foot]; exact hb)).1
      have HFB := Lib.hid hfb
      have HNC := Lib.hid (show cb ∉ foot (.slice so A.length sc) from fun e => by have := hfb cb e; omega)
      clear hq hgt hmc hA hfb
      go_wp2_with (at_builtin; refine wl_push rfl _ _ rfl (w0 := wr) (B := cb + 1) (v := .slice so A.length sc) (l := A) (k := (k : Int)) rfl rfl HR3.out IK HSZ3.out hAl rfl ?_; intro v7 w7 r7 c7 f7; have R7 := Lib.hid r7; have C7 := Lib.hid c7; clear r7 c7 f7)
      go_roundw
      case rel => exact ⟨k + 1, by omega, by go_num, by rw [HSN3.out]; exact R7.out, HF3.out.chg C7.out HNC.out, HC3.out.trans C7.out (fun b hb => Or.inr (by have := HFB.out b hb; have := HCB.out; omega))⟩
      case measure => simp [intOf]; omega
     rw [if_neg (by simpa using hgt), List.append_nil] at HSN3
     have hqg : ¬ 1 < q := by omega
     clear hq hgt hmc
     go_wp2
     go_roundw
     case rel => exact ⟨k + 1, by omega, by go_num, by rw [HSN3.out]; exact HR3.out, HF3.out, HC3.out⟩
     case measure => simp [intOf]; omega
    have e : k = N := by omega
    subst e
    rw [← HCT.out] at HR3 ⊢
    clear hk hkN
    go_wp2
    refine bodyPost_ret (v := .tuple #[.slice so (Plain.cutsB g p).length sc, .int .i64 0]) (by simp [results, Tryz.results120, go_sem]) rfl ?_
    exact ⟨_, by rw [HR.out], HR3.out.base (by have := HCB.out; have := HB0.out; omega), HC2.out.tr HC3.out⟩
 have HCT := Lib.hid (show Plain.cutsB g p = [] by unfold Plain.cutsB; rw [if_pos hr])
 have hre : (p.err g == 0) = false := beq_eq_false_iff_ne.2 hr
 have hov := hno hr
 subst hov
 clear hno hyes
 go_wp2
 refine bodyPost_ret (v := .tuple #[.slice none 0 0, .int .i64 (p.err g)]) (by simp [results, Tryz.results120, go_sem]) rfl ?_
 exact ⟨_, rfl, by rw [HCT.out]; exact rowNil' _ _, HC2.out⟩
end Go.Proofs.YtpcgklagmcnhaaaGreat
