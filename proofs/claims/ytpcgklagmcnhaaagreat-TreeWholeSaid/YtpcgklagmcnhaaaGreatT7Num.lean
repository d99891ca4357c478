/- (*tree.Tree).number: contract. Conditions: what it says. -/
import Derived.Test.YtpcgklagmcnhaaaGreatT7SortLk
namespace Go.Proofs.YtpcgklagmcnhaaaGreat
open Go.RowKit Go.Maps
section
attribute [local go_sem] Oper.semAt_some
set_option maxRecDepth 100000 in
set_option maxHeartbeats 16000000 in
theorem number_any (p : Nat) (v : Value) (vs : List Value) (ns : List Plain.Nd) (B : Nat) (w : World) (h0 : w.heap[p]? = some (.cells #[v, .slice none 0 0] 73 (0, 0))) (hr : NdRow w B v vs ns) (hn : ns.length ≤ 4000) (hL : Plain.sumK ns ≤ 400000) (hid : ∀ i, i < ns.length → ∀ x ∈ (Plain.nd0 ns i).l, -1000000 ≤ x.id ∧ x.id ≤ 1000000) :
  Calls Tryz.prog 42 #[.pointer (some ⟨p, 0, none⟩)] w fun e w' => e = .returned (.tuple #[]) ∧ NumEnd w p B v ns w' := by
 have HR := Lib.hid hr
 have HP := Lib.hid h0
 have HID := Lib.hid hid
 have hpw := lt_of_block h0
 obtain ⟨ao, c, rfl⟩ := hr.shape
 clear h0 hr hid
 have hmm := @run_makeMap Tryz.prog
 have SM := Lib.hid ((SMap.made (w.alloc (.cells #[.pointer (some ⟨p, 0, none⟩)] 23))).fresh ((Chg.refl [] _).alloc (.cells #[.map (some (w.heap.size + 1))] 121)))
 have HC1 := Lib.hid ((((Chg.refl [] w).alloc (.cells #[.pointer (some ⟨p, 0, none⟩)] 23)).alloc (.map #[] 0)).alloc (.cells #[.map (some (w.heap.size + 1))] 121))
 have HB1 := Lib.hid ((((Chg.refl [] (w.alloc (.cells #[.pointer (some ⟨p, 0, none⟩)] 23))).alloc (.map #[] 0)).alloc (.cells #[.map (some (w.heap.size + 1))] 121)).hp (heap_alloc_new w (.cells #[.pointer (some ⟨p, 0, none⟩)] 23)))
 have HB3 := Lib.hid (heap_alloc_new ((w.alloc (.cells #[.pointer (some ⟨p, 0, none⟩)] 23)).alloc (.map #[] 0)) (.cells #[.map (some (w.heap.size + 1))] 121))
 rw [World.size_alloc] at SM
 simp only [World.size_alloc] at HB3
 refine (callsIn_wide (n := 9)).1 (callsIn_of_wp_marks Tryz.func42 rfl trivial (wpIn_wide.2 ?_) rfl)
 simp only [Tryz.ntmps42, List.size_toArray, List.length_cons, List.length_nil, Nat.reduceAdd, Nat.reduceSub, Array.replicate_succ, Array.replicate_zero, List.push_toArray, List.append_toArray, List.nil_append, List.cons_append]
 go_wp2_with fail
 refine (nodes_any p _).mono ?_
 rintro e w3 ⟨rfl, hb3, hc3⟩
 obtain ⟨cb, hcb⟩ : ∃ cb, (((w.alloc (.cells #[.pointer (some ⟨p, 0, none⟩)] 23)).alloc (.map #[] 0)).alloc (.cells #[.map (some (w.heap.size + 1))] 121)).heap.size = cb := ⟨_, rfl⟩
 have HSM := Lib.hid (SM.out.fresh hc3)
 have HC3 := Lib.hid (HC1.out.tr hc3)
 have HT1 := Lib.hid (hc3.hp HB1.out)
 have HT2 := Lib.hid (hc3.hp HB3.out)
 rw [hcb] at hb3 ⊢
 have HCB := Lib.hid hb3
 generalize ((w.alloc (.cells #[.pointer (some ⟨p, 0, none⟩)] 23)).alloc (.map #[] 0)).alloc (.cells #[.map (some (w.heap.size + 1))] 121) = w2 at *
 clear hc3 hb3 SM HC1 HB1 HB3 hmm hcb
 go_wp2
 refine (wpIn_wide (n := 9)).1 ?_
 have h4000 : ns.length ≤ 100000 := by omega
 refine range_nodes 3 4 (p := p) (cb := cb) (n := ns.length) h4000 rfl (NumJ w p cb (w.heap.size + 1 + 1) (w.heap.size + 1) ns) ns (NumJ.calm HC3.out.size) ?h0 ?view ?assign ?body ?done
 case h0 =>
  refine ⟨rfl, HC3.out, HT2.out, ⟨HCB.out, HT1.out⟩, 0, Nat.zero_le _, ?_⟩
  rw [Plain.atF_zero]
  exact HSM.out
 case view =>
  rintro k s W ⟨rfl, h2, -, h4, -⟩
  exact ⟨(cell_of_row _ _ 0 _ _ _ h4.1).trans rfl, rfl, fun k hk => Nat.le_trans (Plain.sumK_one hk) hL, _, vs, B, h2.cel ((cell_of_row _ _ 0 _ _ _ HP.out).trans rfl), HR.out.fresh h2⟩
 case assign =>
  intro l' k kind uo m uc W5 K hK
  gi_wp2
  exact hK
 case body =>
  intro l k s W0 W W2 N uo uc hN hI0 hc0 hsz hl hI hk hkI hcl hlw hrow hbox
  obtain ⟨rfl, hc, ht2, hcb2, m0, hm0, hsm⟩ := hI
  have HLL := Lib.hid (show N.l.length ≤ 400000 by rw [← hN]; exact Nat.le_trans (Plain.sumK_one hk) hL)
  have HPR := Lib.hid (show Plain.pre s k + N.l.length ≤ 400000 by rw [← hN, ← Plain.pre_succ hk]; exact Nat.le_trans (Plain.pre_le _ _) hL)
  have hk4 : k < 4000 := by omega
  obtain ⟨wb0, hwb0⟩ : ∃ b, W.heap.size = b := ⟨_, rfl⟩
  obtain ⟨w00, hw00⟩ : ∃ b, W0.heap.size = b := ⟨_, rfl⟩
  rw [hw00] at hrow
  simp only [numAct, List.setIfInBounds_toArray, List.set_cons_zero, List.set_cons_succ]
  rw [hwb0] at hbox ⊢
  have HJ0 := Lib.hid (show Chg [] w W2 ∧ W2.heap[w.heap.size + 1 + 1]? = some (.cells #[.map (some (w.heap.size + 1))] 121 (0, 0)) ∧ TwoBox p cb w.heap.size W2 ∧ (∃ m, m ≤ Plain.pre s k + 0 ∧ SMap W2 (w.heap.size + 1) m (Plain.atF s k 0)) ∧ LkRow W2 w00 (.slice uo N.l.length uc) N.l ∧ (∃ own, Chg own W2 W2 ∧ Soft W2 own) from ⟨hc, ht2, hcb2, ⟨m0, hm0, hsm⟩, hrow, [], Chg.refl _ _, Soft.nil _⟩)
  have b1 := (cell_of_row _ _ 1 _ _ _ hbox).trans (show _ = some (Value.slice uo N.l.length uc) from rfl)
  have HN := Lib.hid hN
  clear hc ht2 hcb2 hsm hm0 hrow hbox hN hI0 hc0 hsz hl hkI hcl hlw hwb0 hw00
  gi_wp2
  gi_loopw [25] (fun iv wr => ∃ j : Nat, j ≤ N.l.length ∧ iv = .int .i64 j ∧ Chg [] w wr ∧ wr.heap[w.heap.size + 1 + 1]? = some (.cells #[.map (some (w.heap.size + 1))] 121 (0, 0)) ∧ TwoBox p cb w.heap.size wr ∧ (∃ m, m ≤ Plain.pre s k + j ∧ SMap wr (w.heap.size + 1) m (Plain.atF s k j)) ∧ LkRow wr w00 (.slice uo N.l.length uc) N.l ∧ (∃ own, Chg own W2 wr ∧ Soft W2 own)) (fun iv _ => N.l.length - (intOf iv).toNat)
  case atStart => exact ⟨0, Nat.zero_le _, rfl, HJ0.out⟩
  case round =>
   obtain ⟨j, hj, rfl, hc, ht2, hcb2, ⟨m, hm, hsm⟩, hrow, own, ho1, ho2⟩ := hrel
   have HC := Lib.hid hc
   have HT := Lib.hid ht2
   have HCBr := Lib.hid hcb2
   have HSM := Lib.hid hsm
   have HM := Lib.hid hm
   have HRW := Lib.hid hrow
   have HO := Lib.hid ho1
   have HSO := Lib.hid ho2
   clear hc ht2 hcb2 hsm hm hrow ho1 ho2 b1
   have hll := HLL.out
   by_cases hjl : j < N.l.length
   ·obtain ⟨lo', lc', el, -, hsm2, hcell⟩ := HRW.out.lks
    simp only [Value.slice.injEq] at el
    obtain ⟨rfl, -, rfl⟩ := el
    obtain ⟨tb, toff, rfl, q0, q1, q2⟩ := hcell j hjl
    have HI := Lib.hid (hsm2 j hjl)
    have HJL : j < (Plain.nd0 s k).l.length := by rw [HN.out]; exact hjl
    have HSK := Lib.hid (Plain.atF_skip HJL)
    have HPT := Lib.hid (Plain.atF_put HJL)
    rw [HN.out] at HSK HPT
    obtain ⟨L, hL0⟩ : ∃ L, Plain.at0 N.l j = L := ⟨_, rfl⟩
    rw [hL0] at q0 q1 q2 HI HSK HPT
    have HBX := Lib.hid (heap_alloc_new wr (.cells #[.int .i64 L.a, .int .i64 L.b, .int .i64 L.id] 50))
    have HCX := Lib.hid ((Chg.refl [] wr).alloc (.cells #[.int .i64 L.a, .int .i64 L.b, .int .i64 L.id] 50))
    have e2 := (cell_of_row _ _ 2 _ _ _ HBX.out).trans (show _ = some (Value.int .i64 L.id) from rfl)
    clear hcell hsm2 hL0 HJL
    by_cases hneg : L.id < 0
    ·have HPT := Lib.hid (HPT.out hneg)
     have hmix : Tryz.prog.follows .mixedOrders = true := by kernel_rfl
     have HSMX := Lib.hid (HSM.out.fresh HCX.out)
     have HTX := Lib.hid (HCX.out.hp HT.out)
     have hms : m < 4294967290 := by have := HM.out; have := HPR.out; omega
     have HWS := Lib.hid (show w.heap.size + 1 < wr.heap.size from HSM.out.lt)
     have t2 := (cell_of_row _ _ 0 _ _ _ HTX.out).trans (show _ = some (Value.map (some (w.heap.size + 1))) from rfl)
     have IKK : I64 (k : Int) := I64.mk (by omega) (by omega)
     gi_wp2_with fail
     generalize wr.alloc (.cells #[.int .i64 L.a, .int .i64 L.b, .int .i64 L.id] 50) = wb at *
     obtain ⟨tb, htb⟩ : ∃ b, wr.heap.size = b := ⟨_, rfl⟩
     rw [htb] at e2 HBX ⊢
     have HCW := Lib.hid (show Chg [] wb ((wb.alloc (.cells #[.int .i64 k] 3)).drew) from ((Chg.refl [] wb).alloc _).drew)
     have HCW2 := Lib.hid (show Chg [] wb.drew ((wb.alloc (.cells #[.int .i64 k] 3)).drew) from (Chg.refl [] wb.drew).alloc _)
     have hS0 : (fun w' : World => w'.cell? ⟨w.heap.size + 1 + 1, 0, none⟩ = some (.map (some (w.heap.size + 1))) ∧ w'.cell? ⟨tb, 2, none⟩ = some (.int .i64 L.id)) wb.drew := ⟨t2, e2⟩
     refine wpIn_region_way (fun w' : World => w'.cell? ⟨w.heap.size + 1 + 1, 0, none⟩ = some (.map (some (w.heap.size + 1))) ∧ w'.cell? ⟨tb, 2, none⟩ = some (.int .i64 L.id)) [0, 1, 2, 3, 4, 5, 7] (Way.line [0, 1, 2, 3, 4, 5, 7] (.fork 6 8 (.then_ 8 (Way.line [9, 10] .done)) (.then_ 6 (Way.line [9, 10] .done)))) hmix (by kernel_rfl) (by simp) (fun ⟨_, _, h⟩ => by cases h.1) ?_
     simp only [Way.line]
     repeat
      first
       | (refine along_off rfl (by rfl) (by rfl) (fun _ _ _ h => h) hS0 ?_; simp only [Act.put, Z1, Z2, Z3, Z4, Z5, Z6])
       | (refine along_read (v := ?_) rfl (by rfl) (by rfl) (fun _ _ _ h => h) hS0 (fun w' hS' => ?_) ?_; rotate_left; (focus ((try dsimp only at hS'); go_simp; try with_reducible rfl)); simp only [Act.put, Z1, Z2, Z3, Z4, Z5, Z6])
       | (refine along_skip rfl (by rfl) (by rfl) hS0 ?_; simp only [Act.put, Z1, Z2, Z3, Z4, Z5, Z6])
     refine along_fork (by rfl) (by rfl) ?_ ?_
     ·skip
      refine along_op rfl (by rfl) (by rfl) (fun K hK => ?_)
      simp only [List.getElem_toArray, List.getElem_cons_zero, List.getElem_cons_succ]
      refine op_slook (.tmp 35) (.tmp 37) rfl (HSMX.out.fresh ((Chg.refl [] wb).drew)) (by omega) rfl HI.out.2.2 rfl ?_
      intro v rv rlen rb
      obtain ⟨vo, vc, rfl⟩ := rv.shape
      have RV := Lib.hid (rv.chg HCW2.out (by simp))
      have RB := Lib.hid rb
      refine hK.out _ _ (fun _ => hS0) ?_
      clear hK K rv rb
      try simp only [Act.put, List.setIfInBounds_toArray, List.set_cons_zero, List.set_cons_succ]
      refine along_op rfl (by rfl) (by rfl) (fun K hK => ?_)
      go_simp
      refine hK.out _ _ (fun _ => ⟨HCW.out.cel t2, HCW.out.cel e2⟩) ?_
      clear hK K
      try simp only [Act.put, Z1, Z2, Z3, Z4, Z5, Z6]
      have HTZ := Lib.hid (HCW.out.hp HTX.out)
      have HBZ := Lib.hid (HCW.out.hp HBX.out)
      have HNT := Lib.hid (row_not RV.out HTZ.out (by decide))
      have HNB := Lib.hid (row_not RV.out HBZ.out (by decide))
      have HTB := Lib.hid ((HCBr.out.fresh HCX.out).fresh HCW.out)
      refine along_op rfl (by rfl) (by rfl) (fun K hK => ?_)
      simp only [List.getElem_toArray, List.getElem_cons_zero, List.getElem_cons_succ]
      refine wp_app_readK (.tmp 38) (.tmp 40) rfl (B := w.heap.size + 1 + 1) (v := .slice vo (Plain.atF s k j L.id).length vc) (l := Plain.atF s k j L.id) (m := [(k : Int)]) rfl rfl RV.out (ints_one (heap_alloc_new wb (.cells #[.int .i64 k] 3)) IKK) (by have := HCW.out.size; have := HCX.out.size; have := HWS.out; omega) (by simp; omega) ?_
      intro v9 w9 r9 c9 f9
      obtain ⟨zo, zc, rfl⟩ := r9.shape
      have R9 := Lib.hid r9
      have C9 := Lib.hid c9
      refine hK.out _ _ (fun _ => ⟨c9.cell (HCW.out.cel t2) HNT.out, c9.cell (HCW.out.cel e2) HNB.out⟩) ?_
      clear hK K r9
      try simp only [Act.put, List.setIfInBounds_toArray, List.set_cons_zero, List.set_cons_succ]
      refine along_op rfl (by rfl) (by rfl) (fun K hK => ?_)
      simp only [List.getElem_toArray, List.getElem_cons_zero, List.getElem_cons_succ]
      refine op_sback (.tmp 32) (.tmp 34) (.tmp 41) rfl RB.out rfl rfl rfl R9.out ((HCW2.out.mono (own' := foot (Value.slice vo (Plain.atF s k j L.id).length vc)) (fun j hj => by cases hj)).trans C9.out fun j hj => Or.inl hj) (fun b hb => (f9 b hb).imp id fun q => Nat.le_trans HCW2.out.size q) ?_
      intro wz mz cz
      have MZ := Lib.hid mz
      have CZ := Lib.hid cz
      refine hK.out _ _ (fun h => absurd h (Bool.eq_false_iff.1 (by kernel_rfl))) ?_
      clear hK K mz cz f9 c9
      try simp only [Act.put]
      refine along_done ?_
      have HF := Lib.hid (show ∀ b ∈ foot (Value.slice vo (Plain.atF s k j L.id).length vc), w.heap.size + 1 + 1 ≤ b from fun b hb => (RV.out.low b (by rw [← RV.out.foot]; exact hb)).1)
      have HTF := Lib.hid (CZ.out.heap (C9.out.heap HTZ.out HNT.out) (by simp))
      have HMN := Lib.hid (show ∀ (b : Nat) (cs : Array Value) (t : TypeId) (r : Nat × Nat), wr.heap[b]? = some (.cells cs t r) → b ∉ [w.heap.size + 1] from fun b cs t r h3 q => by
       obtain ⟨es, cc, e⟩ := HSM.out.obj
       rw [List.mem_singleton.1 q, e] at h3
       simp at h3)
      have HCF := Lib.hid (show TwoBox p cb w.heap.size wz from ⟨CZ.out.heap (C9.out.heap HTB.out.1 (row_not RV.out HTB.out.1 (by decide))) (HMN.out _ _ _ _ HCBr.out.1), CZ.out.heap (C9.out.heap HTB.out.2 (row_not RV.out HTB.out.2 (by decide))) (HMN.out _ _ _ _ HCBr.out.2)⟩)
      have HCN := Lib.hid (show Chg [] w wz from (((HC.out.tr HCX.out).tr HCW.out).trans C9.out fun b hb => Or.inr (by have := HF.out b hb; omega)).trans CZ.out fun b hb => Or.inr (by rw [List.mem_singleton.1 hb]; omega))
      have HRZ := Lib.hid (show LkRow wz w00 _ N.l from (((HRW.out.fresh HCX.out).fresh HCW.out).chg C9.out (fun b hb hm => by
       obtain ⟨cs, r, e⟩ := ((HRW.out.fresh HCX.out).fresh HCW.out).kind b hb
       exact row_not RV.out e (by decide) hm)).chg CZ.out (fun b hb hm => by
       obtain ⟨cs, r, e⟩ := (HRW.out.fresh (HCX.out)).kind b hb
       obtain ⟨es, cc, e2⟩ := HSMX.out.obj
       rw [List.mem_singleton.1 hm, e2] at e
       simp at e))
      obtain ⟨own1, HO1, HS1⟩ := moves_more HO.out HSO.out (HCX.out.tr HCW.out) (Soft.nil _)
      obtain ⟨own2, HO2, HS2⟩ := moves_more HO1 HS1 C9.out (row_soft RV.out)
      obtain ⟨own3, HO3, HS3⟩ := moves_more HO2 HS2 CZ.out (fun b hb => by
       obtain ⟨es, cc, e⟩ := HSMX.out.obj
       rw [List.mem_singleton.1 hb]
       refine Or.inr ⟨es, cc, C9.out.heap (HCW.out.hp e) fun q => ?_⟩
       have := HF.out _ q
       omega)
      have HEND := Lib.hid (And.intro HO3 HS3)
      clear HO1 HS1 HO2 HS2 HO3 HS3 t2 e2
      gi_wp2
      go_roundw
      case rel => exact ⟨j + 1, by omega, by go_num, HCN.out, HTF.out, HCF.out, ⟨m + 1, by have := HM.out; omega, by rw [HPT.out]; exact MZ.out⟩, HRZ.out, own3, HEND.out⟩
      case measure => simp [intOf]; omega
     skip
     refine along_op rfl (by rfl) (by rfl) (fun K hK => ?_)
     go_simp
     refine hK.out _ _ (fun _ => ⟨HCW.out.cel t2, HCW.out.cel e2⟩) ?_
     clear hK K
     try simp only [Act.put, Z1, Z2, Z3, Z4, Z5, Z6]
     refine along_op rfl (by rfl) (by rfl) (fun K hK => ?_)
     simp only [List.getElem_toArray, List.getElem_cons_zero, List.getElem_cons_succ]
     refine op_slook (.tmp 35) (.tmp 37) rfl (HSMX.out.fresh HCW.out) (by omega) rfl HI.out.2.2 rfl ?_
     intro v rv rlen rb
     obtain ⟨vo, vc, rfl⟩ := rv.shape
     have RV := Lib.hid (rv.chg (Chg.refl [] _) (by simp))
     have RB := Lib.hid rb
     refine hK.out _ _ (fun _ => ⟨HCW.out.cel t2, HCW.out.cel e2⟩) ?_
     clear hK K rv rb
     try simp only [Act.put, List.setIfInBounds_toArray, List.set_cons_zero, List.set_cons_succ]
     have HTZ := Lib.hid (HCW.out.hp HTX.out)
     have HBZ := Lib.hid (HCW.out.hp HBX.out)
     have HNT := Lib.hid (row_not RV.out HTZ.out (by decide))
     have HNB := Lib.hid (row_not RV.out HBZ.out (by decide))
     have HTB := Lib.hid ((HCBr.out.fresh HCX.out).fresh HCW.out)
     refine along_op rfl (by rfl) (by rfl) (fun K hK => ?_)
     simp only [List.getElem_toArray, List.getElem_cons_zero, List.getElem_cons_succ]
     refine wp_app_readK (.tmp 38) (.tmp 40) rfl (B := w.heap.size + 1 + 1) (v := .slice vo (Plain.atF s k j L.id).length vc) (l := Plain.atF s k j L.id) (m := [(k : Int)]) rfl rfl RV.out (ints_one (heap_alloc_new wb (.cells #[.int .i64 k] 3)) IKK) (by have := HCW.out.size; have := HCX.out.size; have := HWS.out; omega) (by simp; omega) ?_
     intro v9 w9 r9 c9 f9
     obtain ⟨zo, zc, rfl⟩ := r9.shape
     have R9 := Lib.hid r9
     have C9 := Lib.hid c9
     refine hK.out _ _ (fun _ => ⟨c9.cell (HCW.out.cel t2) HNT.out, c9.cell (HCW.out.cel e2) HNB.out⟩) ?_
     clear hK K r9
     try simp only [Act.put, List.setIfInBounds_toArray, List.set_cons_zero, List.set_cons_succ]
     refine along_op rfl (by rfl) (by rfl) (fun K hK => ?_)
     simp only [List.getElem_toArray, List.getElem_cons_zero, List.getElem_cons_succ]
     refine op_sback (.tmp 32) (.tmp 34) (.tmp 41) rfl RB.out rfl rfl rfl R9.out C9.out (fun b hb => (f9 b hb).imp id fun q => q) ?_
     intro wz mz cz
     have MZ := Lib.hid mz
     have CZ := Lib.hid cz
     refine hK.out _ _ (fun h => absurd h (Bool.eq_false_iff.1 (by kernel_rfl))) ?_
     clear hK K mz cz f9 c9
     try simp only [Act.put]
     refine along_done ?_
     have HF := Lib.hid (show ∀ b ∈ foot (Value.slice vo (Plain.atF s k j L.id).length vc), w.heap.size + 1 + 1 ≤ b from fun b hb => (RV.out.low b (by rw [← RV.out.foot]; exact hb)).1)
     have HTF := Lib.hid (CZ.out.heap (C9.out.heap HTZ.out HNT.out) (by simp))
     have HMN := Lib.hid (show ∀ (b : Nat) (cs : Array Value) (t : TypeId) (r : Nat × Nat), wr.heap[b]? = some (.cells cs t r) → b ∉ [w.heap.size + 1] from fun b cs t r h3 q => by
      obtain ⟨es, cc, e⟩ := HSM.out.obj
      rw [List.mem_singleton.1 q, e] at h3
      simp at h3)
     have HCF := Lib.hid (show TwoBox p cb w.heap.size wz from ⟨CZ.out.heap (C9.out.heap HTB.out.1 (row_not RV.out HTB.out.1 (by decide))) (HMN.out _ _ _ _ HCBr.out.1), CZ.out.heap (C9.out.heap HTB.out.2 (row_not RV.out HTB.out.2 (by decide))) (HMN.out _ _ _ _ HCBr.out.2)⟩)
     have HCN := Lib.hid (show Chg [] w wz from (((HC.out.tr HCX.out).tr HCW.out).trans C9.out fun b hb => Or.inr (by have := HF.out b hb; omega)).trans CZ.out fun b hb => Or.inr (by rw [List.mem_singleton.1 hb]; omega))
     have HRZ := Lib.hid (show LkRow wz w00 _ N.l from (((HRW.out.fresh HCX.out).fresh HCW.out).chg C9.out (fun b hb hm => by
      obtain ⟨cs, r, e⟩ := ((HRW.out.fresh HCX.out).fresh HCW.out).kind b hb
      exact row_not RV.out e (by decide) hm)).chg CZ.out (fun b hb hm => by
      obtain ⟨cs, r, e⟩ := (HRW.out.fresh (HCX.out)).kind b hb
      obtain ⟨es, cc, e2⟩ := HSMX.out.obj
      rw [List.mem_singleton.1 hm, e2] at e
      simp at e))
     obtain ⟨own1, HO1, HS1⟩ := moves_more HO.out HSO.out (HCX.out.tr HCW.out) (Soft.nil _)
     obtain ⟨own2, HO2, HS2⟩ := moves_more HO1 HS1 C9.out (row_soft RV.out)
     obtain ⟨own3, HO3, HS3⟩ := moves_more HO2 HS2 CZ.out (fun b hb => by
      obtain ⟨es, cc, e⟩ := HSMX.out.obj
      rw [List.mem_singleton.1 hb]
      refine Or.inr ⟨es, cc, C9.out.heap (HCW.out.hp e) fun q => ?_⟩
      have := HF.out _ q
      omega)
     have HEND := Lib.hid (And.intro HO3 HS3)
     clear HO1 HS1 HO2 HS2 HO3 HS3 t2 e2
     gi_wp2
     go_roundw
     case rel => exact ⟨j + 1, by omega, by go_num, HCN.out, HTF.out, HCF.out, ⟨m + 1, by have := HM.out; omega, by rw [HPT.out]; exact MZ.out⟩, HRZ.out, own3, HEND.out⟩
     case measure => simp [intOf]; omega
    have HSK := Lib.hid (HSK.out hneg)
    gi_wp2
    go_roundw
    case rel => exact ⟨j + 1, by omega, by go_num, HC.out.tr HCX.out, HCX.out.hp HT.out, HCBr.out.fresh HCX.out, ⟨m, by have := HM.out; omega, by rw [HSK.out]; exact HSM.out.fresh HCX.out⟩, HRW.out.fresh HCX.out, own, HO.out.tr HCX.out, HSO.out⟩
    case measure => simp [intOf]; omega
   have e : j = N.l.length := by omega
   subst e
   gi_wp2
   exact ⟨s, own, ⟨rfl, HC.out, HT.out, HCBr.out, m, by rw [Plain.pre_succ hk, HN.out]; exact HM.out, by rw [← Plain.atF_next, HN.out]; exact HSM.out⟩, HO.out, HSO.out⟩
 case done =>
  intro D s W hD hI hK
  obtain ⟨rfl, hc, ht2, hcb2, m, hm, hsm⟩ := hI
  have HC5 := Lib.hid hc
  have HT5 := Lib.hid ht2
  have HCB5 := Lib.hid hcb2
  have HSM5 := Lib.hid hsm
  have HK5 := Lib.hid hK
  have HD5 := Lib.hid hD
  have hm4 : m ≤ 400000 := Nat.le_trans hm (Nat.le_trans (Plain.pre_le _ _) hL)
  have c2 := (cell_of_row _ _ 0 _ _ _ ht2).trans (show _ = some (Value.map (some (w.heap.size + 1))) from rfl)
  obtain ⟨mb, hmb⟩ : ∃ b, w.heap.size + 1 = b := ⟨_, rfl⟩
  have HMB := Lib.hid hmb
  obtain ⟨f, hf⟩ : ∃ f, Plain.atF s s.length 0 = f := ⟨_, rfl⟩
  have HF := Lib.hid hf
  have HSMALL := Lib.hid (show ∀ x, f x ≠ [] → -1000000 ≤ x ∧ x < 0 from fun x hx => by
   rw [← hf] at hx
   obtain ⟨h1, i, hi, y, hy, rfl⟩ := Plain.atF_ne hx
   exact ⟨(HID.out i hi y hy).1, h1⟩)
  rw [hf] at hsm HSM5
  rw [hmb] at hsm HSM5 c2 ⊢
  obtain ⟨DD, ho, hDt⟩ := hsm
  have HDD := Lib.hid hDt
  obtain ⟨es, clock, hm1, hF, hs1, hDe, -⟩ := ho
  have hown : W.ownsMap Tryz.prog 3 (rowElem (H := Unit) W (mb + 1) 3 .i64) mb m DD := ⟨es, clock, hm1, hF, hs1, hDe⟩
  have HMX := Lib.hid (show mb < W.heap.size from HSM5.out.lt)
  have HGO := Lib.hid (Plain.GotT.start (f := f) (left := fun x => Maps.has DD (.int .i64 x)) (fun x ix hx => (HDD.out x ix).elim (·.1) (fun h => by rw [atKey_of_not_has hx] at h; cases h)))
  clear hc ht2 hcb2 hm hK hD hm1 hF hs1 hDe hDt hmb hf
  go_wp2_with (at_range; refine wpList_range_own _ rfl _ 121 rfl 3 31 keyedInt Tryz.underlying121 _ mb m DD rfl hown ?_; intro w9 hrg0 hg0 hs0)
  go_frame
  have hc9 := (Chg.refl [] W).grown hg0 (fun j hj => by cases hj)
  have HC9 := Lib.hid (HC5.out.tr hc9)
  have HW9 := Lib.hid hc9
  have HST9 := Lib.hid (IntsStay.chg hc9 (by simp))
  obtain ⟨rb2, hrb2⟩ : ∃ r, W.heap.size = r := ⟨_, rfl⟩
  have HRB := Lib.hid hrb2
  rw [hrb2] at hrg0 HMX ⊢
  have HRG0 := Lib.hid hrg0
  clear hg0 hs0 hown hrb2 hc9 hrg0
  go_loopw [7] (fun c7 wi => ∃ (left : Lit → Bool) (cnt : Nat) (rows : List Plain.T3), wi.ranges Tryz.prog 3 (rowElem (H := Unit) W (mb + 1) 3 .i64) mb rb2 m DD left cnt ∧ T3Row wi w.heap.size c7 rows ∧ Chg [] w wi ∧ (∀ b ∈ c7.ownBlock.toList, rb2 ≤ b) ∧ Chg [] W wi ∧ IntsStay W wi ∧ Hid (Plain.GotT f (fun x => left (.int .i64 x)) rows)) (fun _ wi => wi.rangeLeft mb rb2)
  case atStart => exact ⟨_, _, [], HRG0.out, T3Row.nil _ _, HC9.out, by simp [Value.ownBlock], HW9.out, HST9.out, HGO⟩
  case round =>
   obtain ⟨left, cnt, rows, hrg, hrow, hcw, hlow, hcW, hst, hgo⟩ := hrel
   have HROW := Lib.hid hrow
   have HCW := Lib.hid hcw
   have HLOW := Lib.hid hlow
   have HCWW := Lib.hid hcW
   have HST := Lib.hid hst
   have HKD := Lib.hid (ranges_kind hrg)
   obtain ⟨ro, rc, rfl⟩ := hrow.shape
   clear hrow hcw hlow hcW hst
   go_wp2_with (at_next; refine wpList_next_ranges _ rfl _ rfl 3 keyedInt _ (Value.int .i64) id (fun key kl h => by obtain ⟨x, e, -, -⟩ := Maps.keyOf_int_inv Tryz.underlying3 h; exact ⟨x, e⟩) (fun v y _ => ⟨v, rfl⟩) mb rb2 m _ _ _ rfl hrg ?_ ?_)
   ·intro hc0 hl0
    have HGF := Lib.hid (show Plain.GotT f (fun _ => false) rows by have h := hgo.out; rwa [show (fun x => left (.int .i64 x)) = fun _ => false from funext fun x => hl0 _] at h)
    have hrl := HGF.out.small HSMALL.out
    clear hrg hgo hl0 hc0
    go_wp2_with fail
    refine (sortT3_any _ rows w.heap.size _ HROW.out (by omega)).mono ?_
    rintro e ws ⟨rfl, rs, hrs, hrp, hro, hcs⟩
    have HRS := Lib.hid hrs
    have HRP := Lib.hid hrp
    have HRO := Lib.hid hro
    have hrn : rs.length = rows.length := hrp.length_eq
    have HCS := Lib.hid (show Chg [] w ws from HCW.out.trans hcs fun j hj => Or.inr (by have := HLOW.out j hj; have := HMX.out; have := HMB.out; omega))
    have HCWS := Lib.hid (show Chg [] W ws from HCWW.out.trans hcs fun j hj => Or.inr (by have := HLOW.out j hj; have := HRB.out; omega))
    have hrl2 : rs.length ≤ 1000000 := by omega
    rw [← hrn]
    clear hrs hrp hro hcs hrn hrl
    have hmm := @run_makeMap Tryz.prog
    go_wp2_with fail
    have HIM := Lib.hid ((IMap.made ws).alloc (.cells #[.map (some ws.heap.size)] 126))
    have HBI := heap_alloc_new (ws.alloc (.map #[] 0)) (.cells #[.map (some ws.heap.size)] 126)
    rw [World.size_alloc] at HBI
    have HBI := Lib.hid HBI
    have HCZ := Lib.hid (((Chg.refl [] ws).alloc (.map #[] 0)).alloc (.cells #[.map (some ws.heap.size)] 126))
    have HPZ := Lib.hid (HCZ.out.hp (HCS.out.hp HP.out))
    generalize (ws.alloc (.map #[] 0)).alloc (.cells #[.map (some ws.heap.size)] 126) = wz at *
    clear hmm
    go_loopw [69] (fun iv wr => ∃ j : Nat, j ≤ rs.length ∧ iv = .int .i64 j ∧ IMap wr ws.heap.size j (Plain.numF rs j) ∧ wr.heap[ws.heap.size + 1]? = some (.cells #[.map (some ws.heap.size)] 126 (0, 0)) ∧ Chg [p] ws wr ∧ ∃ ev, wr.heap[p]? = some (.cells #[.slice ao s.length c, ev] 73 (0, 0)) ∧ T2Row wr w.heap.size ev (rs.take j) ∧ ∀ b ∈ ev.ownBlock.toList, ws.heap.size ≤ b) (fun iv _ => rs.length - (intOf iv).toNat)
    case atStart => exact ⟨0, Nat.zero_le _, rfl, HIM.out, HBI.out, HCZ.out.mono (by simp), _, HPZ.out, T2Row.nil _ _, by simp [Value.ownBlock]⟩
    case round =>
     obtain ⟨j, hj, rfl, him, hbi, hcp, ev, hpe, hev, hel⟩ := hrel
     have HIMR := Lib.hid him
     have HBIR := Lib.hid hbi
     have HCP := Lib.hid hcp
     have HPE := Lib.hid hpe
     have HEV := Lib.hid hev
     have HEL := Lib.hid hel
     clear him hbi hcp hpe hev hel
     by_cases hjl : j < rs.length
     ·have HRSR := Lib.hid (HRS.out.chg HCP.out fun b hb hm => by
       have h1 := (HRS.out.1.lt b hb).1
       rw [List.mem_singleton.1 hm] at h1
       omega)
      obtain ⟨g, rfl, k0, k1, k2⟩ := T3Row.cell HRSR.out hjl
      obtain ⟨t, ht⟩ : ∃ t, Plain.t30 rs j = t := ⟨_, rfl⟩
      have HII := Lib.hid (show I64 t.a ∧ I64 t.b ∧ I64 t.c from HRS.out.2 t (by rw [← ht]; simp [Plain.t30, List.getD, hjl]))
      have HSN := Lib.hid (Plain.t3_snoc hjl)
      have HNF := Lib.hid (show Plain.numF rs (j + 1) = fun y => if y = t.c then some (-1 - (j : Int)) else Plain.numF rs j y from by rw [← ht]; rfl)
      rw [ht] at k0 k1 k2 HSN
      have HCX := Lib.hid ((Chg.refl [] wr).alloc (.cells #[.int .i64 t.a, .int .i64 t.b, .int .i64 t.c] 123))
      have HBX := Lib.hid (heap_alloc_new wr (.cells #[.int .i64 t.a, .int .i64 t.b, .int .i64 t.c] 123))
      have HIMX := Lib.hid (HIMR.out.alloc (.cells #[.int .i64 t.a, .int .i64 t.b, .int .i64 t.c] 123))
      have z2 := (cell_of_row _ _ 2 _ _ _ HBX.out).trans (show _ = some (Value.int .i64 t.c) from rfl)
      have HBJ := Lib.hid (HCX.out.hp HBIR.out)
      have i0 := (cell_of_row _ _ 0 _ _ _ HBJ.out).trans (show _ = some (Value.map (some ws.heap.size)) from rfl)
      have IJ : I64 (-1 - (j : Int)) := I64.mk (by omega) (by omega)
      have hjm : j < 9223372036854775807 := by omega
      clear ht
      go_wp2_with (at_mapUpdate; refine wp_store _ rfl _ _ _ rfl HIMX.out (by unfold maxLen; omega) rfl HII.out.2.2 IJ rfl rfl ?_; intro w6 m6 g6; have M6 := Lib.hid m6; have G6 := Lib.hid g6; clear m6 g6)
      have hib : w.heap.size + 1 < ws.heap.size := by have := HMX.out; have := HCWS.out.size; have := HRB.out; have := HMB.out; omega
      have hiw : ws.heap.size + 1 < wr.heap.size := lt_of_block HBIR.out
      have HC6 := Lib.hid (show Chg [ws.heap.size] _ w6 from (Chg.refl _ _).grown G6.out (fun k hk => by cases hk; exact Or.inl (by simp)))
      have HT6 := Lib.hid (HC6.out.heap (HCX.out.hp (HCP.out.heap (HCWS.out.hp HCB5.out.2) (by simp; omega))) (by simp; omega))
      have HP6 := Lib.hid (HC6.out.heap (HCX.out.hp HPE.out) (by simp; omega))
      have HB6 := Lib.hid (HC6.out.heap HBX.out (by simp; omega))
      have HI6 := Lib.hid (HC6.out.heap HBJ.out (by simp))
      have HE6 := Lib.hid (show T2Row w6 w.heap.size ev (rs.take j) from owns_chg (owns_chg HEV.out HCX.out (by simp)) HC6.out fun b hb hm => by
       obtain ⟨cs, e⟩ := owns_kind (owns_chg HEV.out HCX.out (by simp)) hb
       exact HIMX.out.ne e (by simpa using hm))
      have HCW6 := Lib.hid (show Chg [p] ws w6 from (HCP.out.tr HCX.out).trans HC6.out fun k hk => Or.inr (by rw [List.mem_singleton.1 hk]; exact Nat.le_refl _))
      obtain ⟨tb, htb⟩ : ∃ b, wr.heap.size = b := ⟨_, rfl⟩
      rw [htb] at HB6 hiw z2 ⊢
      have y0 := (cell_of_row _ _ 0 _ _ _ HT6.out).trans (show _ = some (Value.pointer (some ⟨p, 0, none⟩)) from rfl)
      have y1 := (cell_of_row _ _ 1 _ _ _ HP6.out).trans (show _ = some ev from rfl)
      have y2 := (cell_of_row _ _ 0 _ _ _ HB6.out).trans (show _ = some (Value.int .i64 t.a) from rfl)
      have y3 := (cell_of_row _ _ 1 _ _ _ HB6.out).trans (show _ = some (Value.int .i64 t.b) from rfl)
      obtain ⟨eo, ec, rfl⟩ := HE6.out.shape
      have hel : (rs.take j).length < 4294967290 := by rw [List.length_take]; omega
      obtain ⟨TJ, hTJ⟩ : ∃ l, rs.take j = l := ⟨_, rfl⟩
      rw [hTJ] at HE6 y1 hel HSN HEL HPE HP6
      clear hTJ HEV
      clear k0 k1 k2 z2 i0
      refine normal_only ?_
      have hS0 : (fun w' : World => w'.cell? ⟨w.heap.size, 0, none⟩ = some (.pointer (some ⟨p, 0, none⟩)) ∧ w'.cell? ⟨p, 1, none⟩ = some (.slice eo TJ.length ec) ∧ w'.cell? ⟨tb, 0, none⟩ = some (.int .i64 t.a) ∧ w'.cell? ⟨tb, 1, none⟩ = some (.int .i64 t.b)) w6.drew := ⟨y0, y1, y2, y3⟩
      refine wp_region_way (fun w' : World => w'.cell? ⟨w.heap.size, 0, none⟩ = some (.pointer (some ⟨p, 0, none⟩)) ∧ w'.cell? ⟨p, 1, none⟩ = some (.slice eo TJ.length ec) ∧ w'.cell? ⟨tb, 0, none⟩ = some (.int .i64 t.a) ∧ w'.cell? ⟨tb, 1, none⟩ = some (.int .i64 t.b)) [0, 1, 2, 3, 4, 5, 6, 7, 8, 9, 12, 13] (Way.line [0, 1, 2, 3, 4, 5, 6, 7, 8, 9, 10, 11, 12, 13, 14] .done) (by kernel_rfl) (by kernel_rfl) ?_
      simp only [Way.line]
      repeat
       first
        | (refine along_off rfl (by rfl) (by rfl) (fun _ _ _ h => h) hS0 ?_; simp only [Act.put, Z1, Z2, Z3, Z4, Z5, Z6])
        | (refine along_read (v := ?_) rfl (by rfl) (by rfl) (fun _ _ _ h => h) hS0 (fun w' hS' => ?_) ?_; rotate_left; (focus ((try dsimp only at hS'); go_simp; try with_reducible rfl)); simp only [Act.put, Z1, Z2, Z3, Z4, Z5, Z6])
        | (refine along_skip rfl (by rfl) (by rfl) hS0 ?_; simp only [Act.put, Z1, Z2, Z3, Z4, Z5, Z6])
      have HCW := Lib.hid (show Chg [] w6 ((w6.alloc (.cells #[.int .i64 t.a, .int .i64 t.b] 75)).drew) from ((Chg.refl [] w6).alloc _).drew)
      refine along_op rfl (by rfl) (by rfl) (fun K hK => ?_)
      go_simp
      refine hK.out _ _ (fun _ => ⟨HCW.out.cel y0, HCW.out.cel y1, HCW.out.cel y2, HCW.out.cel y3⟩) ?_
      clear hK K
      try simp only [Act.put, Z1, Z2, Z3, Z4, Z5, Z6]
      refine along_op rfl (by rfl) (by rfl) (fun K hK => ?_)
      simp only [List.getElem_toArray, List.getElem_cons_zero, List.getElem_cons_succ]
      refine op_cat2 (.tmp 83) (.tmp 89) rfl (w0 := w6.drew) (B := w.heap.size) (v := .slice eo TJ.length ec) (l := TJ) t rfl rfl (owns_chg HE6.out ((Chg.refl [] w6).drew) (by simp)) (by have := HCW6.out.size; have := HCS.out.size; exact Nat.le_trans this ‹ws.heap.size ≤ w6.heap.size›) hel rfl ?_
      intro v8 w8 r8 c8 f8
      obtain ⟨zo, zc, rfl⟩ := r8.shape
      have el : (TJ ++ [t]).length = TJ.length + 1 := by simp
      rw [el] at r8 f8 ⊢
      have R8 := Lib.hid r8
      have C8 := Lib.hid (show Chg (Value.slice eo TJ.length ec).ownBlock.toList w6 w8 from ((Chg.refl [] w6).drew.mono (by simp)).trans c8 fun k hk => Or.inl hk)
      have F8 := Lib.hid f8
      have HNE := Lib.hid (show ∀ (b : Nat) (cs : Array Value) (u : TypeId) (r : Nat × Nat), w6.heap[b]? = some (.cells cs u r) → u ≠ 75 → b ∉ (Value.slice eo TJ.length ec).ownBlock.toList from fun b cs u r h1 h2 hb => by
       obtain ⟨cs', e⟩ := owns_kind HE6.out (by simpa using hb)
       rw [h1] at e
       simp at e
       exact h2 e.2.1)
      have T8 := Lib.hid (C8.out.heap HT6.out (HNE.out _ _ _ _ HT6.out (by decide)))
      have P8 := Lib.hid (C8.out.heap HP6.out (HNE.out _ _ _ _ HP6.out (by decide)))
      have B8 := Lib.hid (C8.out.heap HB6.out (HNE.out _ _ _ _ HB6.out (by decide)))
      have I8 := Lib.hid (C8.out.heap HI6.out (HNE.out _ _ _ _ HI6.out (by decide)))
      have y0 := (cell_of_row _ _ 0 _ _ _ T8.out).trans (show _ = some (Value.pointer (some ⟨p, 0, none⟩)) from rfl)
      have y1 := (cell_of_row _ _ 1 _ _ _ P8.out).trans (show _ = some (Value.slice eo TJ.length ec) from rfl)
      have y2 := (cell_of_row _ _ 0 _ _ _ B8.out).trans (show _ = some (Value.int .i64 t.a) from rfl)
      have y3 := (cell_of_row _ _ 1 _ _ _ B8.out).trans (show _ = some (Value.int .i64 t.b) from rfl)
      have fz := free_at P8.out 1
      refine hK.out _ _ (fun _ => ⟨y0, y1, y2, y3⟩) ?_
      clear hK K r8 c8 f8 hS0
      try simp only [Act.put, List.setIfInBounds_toArray, List.set_cons_zero, List.set_cons_succ]
      have hS1 : (fun w' : World => w'.cell? ⟨w.heap.size, 0, none⟩ = some (.pointer (some ⟨p, 0, none⟩)) ∧ w'.cell? ⟨p, 1, none⟩ = some (.slice eo TJ.length ec) ∧ w'.cell? ⟨tb, 0, none⟩ = some (.int .i64 t.a) ∧ w'.cell? ⟨tb, 1, none⟩ = some (.int .i64 t.b)) w8 := ⟨y0, y1, y2, y3⟩
      repeat
       first
        | (refine along_off rfl (by rfl) (by rfl) (fun _ _ _ h => h) hS1 ?_; simp only [Act.put, Z1, Z2, Z3, Z4, Z5, Z6])
        | (refine along_read (v := ?_) rfl (by rfl) (by rfl) (fun _ _ _ h => h) hS1 (fun w' hS' => ?_) ?_; rotate_left; (focus ((try dsimp only at hS'); go_simp; try with_reducible rfl)); simp only [Act.put, Z1, Z2, Z3, Z4, Z5, Z6])
        | (refine along_skip rfl (by rfl) (by rfl) hS1 ?_; simp only [Act.put, Z1, Z2, Z3, Z4, Z5, Z6])
      refine along_op rfl (by rfl) (by rfl) (fun K hK => ?_)
      go_simp
      refine hK.out _ _ (fun h => absurd h (Bool.eq_false_iff.1 (by kernel_rfl))) ?_
      clear hK K
      try simp only [Act.put, Z1, Z2, Z3, Z4, Z5, Z6]
      refine along_done ?_
      have HSET := Lib.hid (show Chg [p] w8 (w8.setCell ⟨p, 1, none⟩ (.slice zo (TJ.length + 1) zc)) from (Chg.refl [p] w8).setCell (Or.inl (by simp)) _)
      have HPN := Lib.hid (heap_setCell_same P8.out 1 (.slice zo (TJ.length + 1) zc))
      have M8 := Lib.hid (M6.out.chg C8.out (fun hm => by
       obtain ⟨cs', e⟩ := owns_kind HE6.out (by simpa using hm)
       exact M6.out.ne e rfl))
      have MN := Lib.hid (M8.out.chg HSET.out (fun hm => M8.out.ne P8.out (List.mem_singleton.1 hm).symm))
      have RN := Lib.hid (show T2Row _ w.heap.size (.slice zo (TJ.length + 1) zc) (TJ ++ [t]) from owns_chg R8.out HSET.out fun b hb hm => by
       obtain ⟨cs', e⟩ := owns_kind R8.out hb
       rw [List.mem_singleton.1 hm, P8.out] at e
       simp at e)
      have IN := Lib.hid (HSET.out.heap I8.out (by simp; omega))
      have CN := Lib.hid ((HCW6.out.trans C8.out (fun k hk => Or.inr (HEL.out k hk))).trans HSET.out fun k hk => Or.inl hk)
      have LN := Lib.hid (show ∀ b ∈ (Value.slice zo (TJ.length + 1) zc).ownBlock.toList, ws.heap.size ≤ b from fun b hb => (F8.out b hb).elim (fun q => HEL.out b q) (fun q => Nat.le_trans HCW6.out.size q))
      clear y0 y1 y2 y3 fz hS1
      go_wp2
      go_roundw
      case rel => exact ⟨j + 1, by omega, by go_num, by rw [HNF.out]; exact MN.out, IN.out, CN.out, _, HPN.out, by rw [HSN.out]; exact RN.out, LN.out⟩
      case measure => simp [intOf]; omega
     have e : j = rs.length := by omega
     subst e
     have HX1 := Lib.hid (HCP.out.heap (HCWS.out.hp HCB5.out.2) (by simp; omega))
     have x1 := (cell_of_row _ _ 0 _ _ _ HX1.out).trans (show _ = some (Value.pointer (some ⟨p, 0, none⟩)) from rfl)
     go_wp2_with fail
     refine (nodes_any p _).mono ?_
     rintro e wq ⟨rfl, hbq, hcq⟩
     have HBQ := Lib.hid hbq
     have HCQ := Lib.hid hcq
     have HRQ := Lib.hid (((HR.out.fresh HCS.out).chg HCP.out (fun b hb hm => by
      obtain ⟨cs, e⟩ := owns_kind (HR.out.fresh HCS.out).out hb
      have h2 := HCS.out.hp HP.out
      rw [List.mem_singleton.1 hm, h2] at e
      simp at e) (fun b hb cs t r e => by
      have h2 := HCS.out.hp HP.out
      rw [List.mem_singleton.1 hb, h2] at e
      simp at e
      rw [← e.2.1]
      decide)).fresh hcq)
     have h4 : s.length ≤ 100000 := by omega
     obtain ⟨cq, hcqe⟩ : ∃ b, wr.heap.size = b := ⟨_, rfl⟩
     rw [hcqe] at HBQ ⊢
     clear hbq hcq hcqe x1
     go_wp2
     refine (wpIn_wide (n := 9)).1 ?_
     refine range_nodes 13 14 (p := p) (cb := cq) (n := s.length) h4 rfl (NumJ2 wq p cq w.heap.size ws.heap.size (ws.heap.size + 1) B rs.length (Plain.numF rs rs.length) (.slice ao s.length c) ev s) s (NumJ2.calm (Nat.le_refl _)) ?h0b (fun k ms W h => h.view hL) ?assignb ?bodyb ?doneb
     case h0b => exact ⟨Plain.NumDone.start _ _, ⟨vs, HRQ.out⟩, HCQ.out.hp HPE.out, ⟨HBQ.out, HCQ.out.hp HX1.out⟩, HCQ.out.hp HBIR.out, HIMR.out.chg HCQ.out (by simp), Chg.refl _ _⟩
     case assignb =>
      intro l' k kind uo m uc W5 K hK
      gi_wp2
      exact hK
     case bodyb =>
      intro l k ms W0 W2 W3 N uo uc hN hI0 hc0 hsz hl hI hk hkI hcl hlw hrow hbox
      have HN := Lib.hid hN
      have HI0 := Lib.hid hI0
      have HI3 := Lib.hid hI
      have HRW := Lib.hid hrow
      have HKI := Lib.hid hkI
      have hll : N.l.length ≤ 400000 := by rw [← hN, hI.done.lens]; exact Nat.le_trans (Plain.sumK_one hk) hL
      have HSZ0 := Lib.hid (show W0.heap.size ≤ W3.heap.size from Nat.le_trans hc0.size hcl.size)
      obtain ⟨nb, hnb⟩ : ∃ b, W2.heap.size = b := ⟨_, rfl⟩
      simp only [numAct, List.setIfInBounds_toArray, List.set_cons_zero, List.set_cons_succ]
      rw [hnb] at hbox ⊢
      have HBX := Lib.hid hbox
      have b1 := (cell_of_row _ _ 1 _ _ _ hbox).trans (show _ = some (Value.slice uo N.l.length uc) from rfl)
      obtain ⟨w00, hw00⟩ : ∃ b, W0.heap.size = b := ⟨_, rfl⟩
      obtain ⟨F, hF0⟩ : ∃ F, Plain.numF rs rs.length = F := ⟨_, rfl⟩
      have HFR := Lib.hid (show ∀ y, -1000000 ≤ (F y).getD 0 ∧ (F y).getD 0 ≤ 0 from fun y => by have := Plain.numF_range rs rs.length y; rw [hF0] at this; omega)
      obtain ⟨vs3, hvs3⟩ := hI.row
      have HV3 := Lib.hid hvs3
      have HFAR := Lib.hid (show ∀ i, i < ms.length → ∀ b ∈ foot (vs3.getD i undef), b < W0.heap.size from fun i hi b hb => by
       obtain ⟨vs0, h0⟩ := hI0.row
       have e : vs0 = vs3 := ndSame h0 hvs3 fun b hb => by
        obtain ⟨cs, e1⟩ := owns_kind h0.out hb
        have h1 := lt_of_block e1
        have h2 := hc0.size
        obtain ⟨r, hr⟩ := hl
        obtain ⟨cs2, e2⟩ := owns_kind hvs3.out hb
        rw [hcl.block b (by omega) (fun q => by rw [List.mem_singleton.1 q, hr] at e2; cases e2), hc0.block b h1 (by simp)]
       rw [← e] at hb
       exact ((h0.row i hi).2.low b hb).2)
      have HWQ := Lib.hid hsz
      have HNS := Lib.hid (show Plain.nd0 s k = N from (hI.done.rest k (Nat.le_refl _)).symm.trans hN)
      rw [hw00] at HFAR HRW HSZ0 HWQ
      rw [hF0] at HI3
      have HF0 := Lib.hid hF0
      have hk4 : k < 4000 := by omega
      have hlt0 : w00 ≤ W3.heap.size := HSZ0.out
      clear hN hI0 hc0 hsz hl hI hkI hcl hlw hrow hbox hnb hw00 hF0 hvs3
      gi_wp2
      gi_loopw [101] (fun iv wr => ∃ j : Nat, j ≤ N.l.length ∧ iv = .int .i64 j ∧ Chg (foot (.slice uo N.l.length uc)) W3 wr ∧ LkRow wr w00 (.slice uo N.l.length uc) (Plain.mixK (Plain.renK F) N.l j)) (fun iv _ => N.l.length - (intOf iv).toNat)
      case atStart => exact ⟨0, Nat.zero_le _, rfl, Chg.refl _ _, HRW.out⟩
      case round =>
       obtain ⟨j, hj, rfl, hc, hrw⟩ := hrel
       have HC := Lib.hid hc
       have HW := Lib.hid hrw
       have HBN := Lib.hid (show nb ∉ foot (.slice uo N.l.length uc) from fun q => by
        obtain ⟨cs, r, e⟩ := HRW.out.kind _ q
        rw [HBX.out] at e
        simp at e)
       have HBXr := Lib.hid (hc.heap HBX.out HBN.out)
       have b1 := (cell_of_row _ _ 1 _ _ _ HBXr.out).trans (show _ = some (Value.slice uo N.l.length uc) from rfl)
       clear hc hrw
       by_cases hjl : j < N.l.length
       ·obtain ⟨lg, lcap, elg⟩ := owns_some HW.out.1 (by rw [Plain.mixK_len]; omega)
        simp only [Value.slice.injEq] at elg
        obtain ⟨rfl, -, -⟩ := elg
        obtain ⟨lo', lc', el, -, hsm2, hcell⟩ := HW.out.lks
        simp only [Value.slice.injEq] at el
        obtain ⟨e1, -, -⟩ := el
        subst e1
        rw [Plain.mixK_len] at hsm2 hcell
        obtain ⟨tb, toff, e1, q0, q1, q2⟩ := hcell j hjl
        simp only [Option.some.injEq, Addr.mk.injEq] at e1
        obtain ⟨rfl, rfl, -⟩ := e1
        rw [Nat.zero_add] at q0 q1 q2
        have HI := Lib.hid (hsm2 j hjl)
        obtain ⟨L, hL0⟩ : ∃ L, Plain.at0 N.l j = L := ⟨_, rfl⟩
        have HST := Lib.hid (Plain.mixK_step (f := Plain.renK F) hjl)
        have HSK := Lib.hid (fun h => Plain.mixK_skip (f := Plain.renK F) hjl h)
        rw [Plain.mixK_at hjl, hL0] at q0 q1 q2 HI
        rw [hL0] at HST HSK
        have HBX2 := Lib.hid (heap_alloc_new wr (.cells #[.int .i64 L.a, .int .i64 L.b, .int .i64 L.id] 50))
        have HCX := Lib.hid ((Chg.refl [] wr).alloc (.cells #[.int .i64 L.a, .int .i64 L.b, .int .i64 L.id] 50))
        have e0 := (cell_of_row _ _ 0 _ _ _ HBX2.out).trans (show _ = some (Value.int .i64 L.a) from rfl)
        have e1 := (cell_of_row _ _ 1 _ _ _ HBX2.out).trans (show _ = some (Value.int .i64 L.b) from rfl)
        have e2 := (cell_of_row _ _ 2 _ _ _ HBX2.out).trans (show _ = some (Value.int .i64 L.id) from rfl)
        clear hcell hsm2 hL0
        by_cases hneg : L.id < 0
        ·have hmin := @run_min2 Tryz.prog
         have hmax := @run_max2 Tryz.prog
         have b1x := HCX.out.cel b1
         have HIDS := Lib.hid (HCX.out.hp (HC.out.heap HI3.out.ids fun q => by
          obtain ⟨cs, r, e⟩ := HRW.out.kind _ q
          rw [HI3.out.ids] at e
          simp at e))
         have HMP := Lib.hid ((HI3.out.map.chg HC.out fun q => by
          obtain ⟨cs, r, e⟩ := HRW.out.kind _ q
          obtain ⟨es, cc, e2⟩ := HI3.out.map.obj
          rw [e2] at e
          simp at e).chg HCX.out (by simp))
         have hlook := HMP.out.run HI.out.2.2
         have m1 := (cell_of_row _ _ 0 _ _ _ HIDS.out).trans (show _ = some (Value.map (some ws.heap.size)) from rfl)
         have HWX := Lib.hid (HW.out.fresh HCX.out)
         have q0 := HCX.out.cel q0
         have q1 := HCX.out.cel q1
         have q2 := HCX.out.cel q2
         obtain ⟨pcs, hpc⟩ := owns_kind HWX.out.1 (show (Value.slice (some ⟨lg, 0, none⟩) N.l.length uc).ownBlock = some lg from rfl)
         have f0 := free_at hpc (j * 3)
         have f1 := free_at hpc (j * 3 + 1)
         have f2 := free_at hpc (j * 3 + 2)
         have hfr := HFR.out L.id
         have IFF : I64 ((F L.id).getD 0) := I64.mk (by omega) (by omega)
         have HSET := Lib.hid (lkSet (⟨min L.a L.b, max L.a L.b, (F L.id).getD 0⟩ : Plain.Lk) HWX.out (by rw [Plain.mixK_len]; exact hjl) ⟨Plain.min_i64 HI.out.1 HI.out.2.1, Plain.max_i64 HI.out.1 HI.out.2.1, IFF⟩)
         have HRN := Lib.hid (show Plain.renK F L = ⟨min L.a L.b, max L.a L.b, (F L.id).getD 0⟩ by unfold Plain.renK; rw [if_pos hneg])
         clear hpc IFF
         gi_wp2
         obtain ⟨hs1, hs2⟩ := HSET.out
         rw [HRN.out] at HST
         rw [HST.out] at hs1
         have HS1 := Lib.hid hs1
         have HS2 := Lib.hid hs2
         clear hs1 hs2 q0 q1 q2 f0 f1 f2 e0 e1 e2 hlook m1 b1x hmin hmax
         go_roundw
         case rel => exact ⟨j + 1, by omega, by go_num, (HC.out.tr HCX.out).trans HS2.out fun b hb => Or.inl (by rw [List.mem_singleton.1 hb]; simp [foot, Value.ownBlock]), HS1.out⟩
         case measure => simp [intOf]; omega
        have HLE := Lib.hid (show Plain.renK F L = L by unfold Plain.renK; rw [if_neg hneg])
        gi_wp2
        go_roundw
        case rel => exact ⟨j + 1, by omega, by go_num, HC.out.tr HCX.out, by rw [HSK.out HLE.out]; exact HW.out.fresh HCX.out⟩
        case measure => simp [intOf]; omega
       have e : j = N.l.length := by omega
       subst e
       obtain ⟨M, hM⟩ : ∃ M, N.l.map (Plain.renK F) = M := ⟨_, rfl⟩
       have HM := Lib.hid hM
       rw [Plain.mixK_all, hM] at HW
       have hML : M.length = N.l.length := by rw [← hM, List.length_map]
       have HIDM := Lib.hid (show ∀ x ∈ M, -1000000 ≤ x.id ∧ x.id ≤ 1000000 from fun x hx => by
        rw [← hM] at hx
        obtain ⟨y, hy, rfl⟩ := List.mem_map.1 hx
        have h1 := HID.out k hk y (by rw [HNS.out]; exact hy)
        have h2 := HFR.out y.id
        have e : (Plain.renK F y).id = if y.id < 0 then (F y.id).getD 0 else y.id := by unfold Plain.renK; split <;> rfl
        rw [e]
        split <;> omega)
       clear hM
       gi_wp2_with fail
       refine ⟨trivial, ?_⟩
       refine (CallsIn.inRound l (callsIn_wide.2 (sortLk_any _ M w00 _ HW.out (by omega) HIDM.out))).mono ?_
       rintro e w9 ⟨rfl, l9, hr9, hp9, ho9, hc9⟩
       have HR9 := Lib.hid hr9
       have HP9 := Lib.hid hp9
       have HO9 := Lib.hid ho9
       have HC9 := Lib.hid (show Chg (foot (.slice uo N.l.length uc)) W3 w9 from HC.out.trans hc9 fun b hb => Or.inl hb)
       have HK := Lib.hid (show ∀ (b : Nat) (cs : Array Value) (t : TypeId) (r : Nat × Nat), W3.heap[b]? = some (.cells cs t r) → t ≠ 50 → b ∉ foot (.slice uo N.l.length uc) from fun b cs t r h1 h2 q => by
        obtain ⟨cs2, r2, e⟩ := HRW.out.kind _ q
        rw [h1] at e
        simp at e
        exact h2 e.2.1)
       have hkm : k < ms.length := by rw [HI3.out.done.len]; exact hk
       obtain ⟨gg, gcap, egg⟩ := owns_some HV3.out.out (by omega)
       simp only [Value.slice.injEq] at egg
       obtain ⟨rfl, -, -⟩ := egg
       obtain ⟨gcs, hgk⟩ := owns_kind HV3.out.out (show (Value.slice (some ⟨gg, 0, none⟩) s.length c).ownBlock = some gg from rfl)
       have HGN := Lib.hid (HK.out _ _ _ _ hgk (by decide))
       have HG9 := Lib.hid (HC9.out.heap hgk HGN.out)
       have HT9 := Lib.hid (HC9.out.heap HI3.out.tree (HK.out _ _ _ _ HI3.out.tree (by decide)))
       have HV9 := Lib.hid (show TwoBox p cq w.heap.size w9 from ⟨HC9.out.heap HI3.out.vars.1 (HK.out _ _ _ _ HI3.out.vars.1 (by decide)), HC9.out.heap HI3.out.vars.2 (HK.out _ _ _ _ HI3.out.vars.2 (by decide))⟩)
       have HI9 := Lib.hid (HC9.out.heap HI3.out.ids (HK.out _ _ _ _ HI3.out.ids (by decide)))
       have HM9 := Lib.hid (HI3.out.map.chg HC9.out fun q => by
        obtain ⟨cs, r, e⟩ := HRW.out.kind _ q
        obtain ⟨es, cc, e2⟩ := HI3.out.map.obj
        rw [e2] at e
        simp at e)
       have HB9 := Lib.hid (HC9.out.heap HBX.out HBN.out)
       have HN9 := Lib.hid (ndFar HV3.out HC9.out (fun b hb => by
        have e : gg = b := by simpa [Value.ownBlock] using hb
        rw [← e]; exact HGN.out) fun i hi b hb q => by
         have h1 := HFAR.out i hi b hb
         have h2 := (HRW.out.low b q).1
         omega)
       obtain ⟨gg2, eg2, z0, z1, -⟩ := HN9.out.some hkm
       simp only [Option.some.injEq, Addr.mk.injEq] at eg2
       obtain ⟨rfl, -⟩ := eg2
       have y0 := (cell_of_row _ _ 0 _ _ _ HV9.out.2).trans (show _ = some (Value.pointer (some ⟨p, 0, none⟩)) from rfl)
       have y1 := (cell_of_row _ _ 0 _ _ _ HT9.out).trans (show _ = some (Value.slice (some ⟨gg, 0, none⟩) s.length c) from rfl)
       have y2 := (cell_of_row _ _ 1 _ _ _ HB9.out).trans (show _ = some (Value.slice uo N.l.length uc) from rfl)
       have fz := free_at HG9.out (k * 2 + 1)
       have HSET := Lib.hid (ndSet1 HN9.out hkm (HR9.out.base (Nat.zero_le _)))
       have hmix : Tryz.prog.follows .mixedOrders = true := by kernel_rfl
       clear hr9 hp9 ho9 hc9 b1
       gi_wp2_with fail
       have hS0 : (fun w' : World => w'.cell? ⟨w.heap.size, 0, none⟩ = some (.pointer (some ⟨p, 0, none⟩)) ∧ w'.cell? ⟨p, 0, none⟩ = some (.slice (some ⟨gg, 0, none⟩) s.length c) ∧ w'.cell? ⟨nb, 1, none⟩ = some (.slice uo N.l.length uc)) w9.drew := ⟨y0, y1, y2⟩
       refine wpIn_region_way (fun w' : World => w'.cell? ⟨w.heap.size, 0, none⟩ = some (.pointer (some ⟨p, 0, none⟩)) ∧ w'.cell? ⟨p, 0, none⟩ = some (.slice (some ⟨gg, 0, none⟩) s.length c) ∧ w'.cell? ⟨nb, 1, none⟩ = some (.slice uo N.l.length uc)) [0, 1, 2, 3, 4, 5, 6, 7, 8] (Way.line [0, 1, 2, 3, 4, 5, 6, 7, 8, 9] .done) hmix (by kernel_rfl) (by simp) (fun ⟨_, _, h⟩ => by cases h.1) ?_
       simp only [Way.line]
       repeat
        first
         | (refine along_off rfl (by rfl) (by rfl) (fun _ _ _ h => h) hS0 ?_; simp only [Act.put, Z1, Z2, Z3, Z4, Z5, Z6])
         | (refine along_read (v := ?_) rfl (by rfl) (by rfl) (fun _ _ _ h => h) hS0 (fun w' hS' => ?_) ?_; rotate_left; (focus ((try dsimp only at hS'); go_simp; try with_reducible rfl)); simp only [Act.put, Z1, Z2, Z3, Z4, Z5, Z6])
         | (refine along_skip rfl (by rfl) (by rfl) hS0 ?_; simp only [Act.put, Z1, Z2, Z3, Z4, Z5, Z6])
       refine along_op rfl (by rfl) (by rfl) (fun K hK => ?_)
       go_simp
       refine hK.out _ _ (fun h => absurd h (Bool.eq_false_iff.1 (by kernel_rfl))) ?_
       clear hK K
       try simp only [Act.put, Z1, Z2, Z3, Z4, Z5, Z6]
       refine along_done ?_
       obtain ⟨hn1, hn2⟩ := HSET.out
       have HN1 := Lib.hid (hn1.fresh (Chg.refl [] _).drew)
       have HN2 := Lib.hid hn2.drew
       clear hn1 hn2 hS0 z0 z1 fz y0 y1 y2
       gi_wp2
       have HDN := Lib.hid (HI3.out.done.step hk (l := l9) (by rw [HNS.out, HM.out]; exact HP9.out) (HO9.out.imp fun h => Int.not_lt.2 h))
       have HOW := Lib.hid (show Chg (foot (.slice uo N.l.length uc) ++ [gg]) W3 _ from (HC9.out.mono (own' := foot (.slice uo N.l.length uc) ++ [gg]) fun j hj => Or.inl (List.mem_append_left _ hj)).trans HN2.out fun j hj => Or.inl (List.mem_append_right _ hj))
       have HGE := Lib.hid (show gg ∈ p :: (Value.slice (some ⟨gg, 0, none⟩) s.length c).ownBlock.toList by simp [Value.ownBlock])
       have hpg : p ≠ gg := fun e => by
        have h1 := HI3.out.tree
        rw [e, hgk] at h1
        simp at h1
       have HNG := Lib.hid (show ∀ (b : Nat) (cs : Array Value) (t : TypeId) (r : Nat × Nat), w9.heap[b]? = some (.cells cs t r) → t ≠ 26 → b ∉ [gg] from fun b cs t r h1 h2 q => by
        rw [List.mem_singleton.1 q, HG9.out] at h1
        simp at h1
        exact h2 h1.2.1.symm)
       rw [HF0.out]
       refine ⟨ms.set k ⟨(Plain.nd0 s k).kind, l9⟩, foot (.slice uo N.l.length uc) ++ [gg], ⟨HDN.out, ⟨vs3.set k (.slice uo N.l.length uc), ?_⟩, HN2.out.heap HT9.out (HNG.out _ _ _ _ HT9.out (by decide)), ⟨HN2.out.heap HV9.out.1 (HNG.out _ _ _ _ HV9.out.1 (by decide)), HN2.out.heap HV9.out.2 (HNG.out _ _ _ _ HV9.out.2 (by decide))⟩, HN2.out.heap HI9.out (HNG.out _ _ _ _ HI9.out (by decide)), HM9.out.chg HN2.out (fun q => ?_), HI3.out.chg.trans HOW.out fun j hj => ?_⟩, HOW.out, fun j hj => ?_⟩
       ·have h1 := HN1.out
        rw [HI3.out.done.rest k (Nat.le_refl _)] at h1
        exact h1
       ·obtain ⟨es, cc, e⟩ := HM9.out.obj
        rw [List.mem_singleton.1 q, HG9.out] at e
        cases e
       ·rcases List.mem_append.1 hj with q | q
        ·have h1 := (HRW.out.low j q).1
         have h2 := HWQ.out
         exact Or.inr (by omega)
        rw [List.mem_singleton.1 q]
        exact Or.inl HGE.out
       rcases List.mem_append.1 hj with q | q
       ·obtain ⟨cs, r, e⟩ := HRW.out.kind _ q
        exact Or.inl ⟨_, _, _, e⟩
       rw [List.mem_singleton.1 q]
       exact Or.inl ⟨_, _, _, hgk⟩
     case doneb =>
      intro D2 ms W2 hD2 hI2 hK2
      have HI2 := Lib.hid hI2
      have HK2 := Lib.hid hK2
      have hDlt : D < W.heap.size := lt_of_block HK5.out
      have hDD : D2 ≠ D := by have := HCWS.out.size; have := HCP.out.size; have := HCQ.out.size; omega
      have hown : ∀ b ∈ (p :: (Value.slice ao s.length c).ownBlock.toList), ∃ cs t r, w.heap[b]? = some (.cells cs t r) := by
       intro b hb
       rcases List.mem_cons.1 hb with q | q
       ·rw [q]; exact ⟨_, _, _, HP.out⟩
       obtain ⟨cs, e⟩ := owns_kind HR.out.out (by simpa using q)
       exact ⟨_, _, _, e⟩
      have HOWN := Lib.hid hown
      have hDm : W2.heap[D]? = some (.deferred (some [])) := by
       refine HI2.out.chg.heap (HCQ.out.hp (HCP.out.heap (HCWS.out.hp HK5.out) fun q => ?_)) fun q => ?_
       ·have h1 := HCS.out.hp HP.out
        rw [← List.mem_singleton.1 q, HCWS.out.hp HK5.out] at h1
        cases h1
       obtain ⟨cs, t, r, e⟩ := HOWN.out _ q
       have h1 := HC5.out.hp e
       rw [HK5.out] at h1
       cases h1
      have HDM := Lib.hid hDm
      have HEN := Lib.hid (show T2Row W2 w.heap.size ev rs from by
       have h1 := HEV.out
       rw [List.take_length] at h1
       refine owns_chg (owns_chg h1 HCQ.out (by simp)) HI2.out.chg fun b hb hm => ?_
       obtain ⟨cs, t, r, e⟩ := HOWN.out _ hm
       have h2 := HEL.out b (by rw [hb]; simp)
       have h3 := lt_of_block e
       have h4 := HCS.out.size
       omega)
      have HCE := Lib.hid (show Chg (p :: (Value.slice ao s.length c).ownBlock.toList) w W2 from (((HCS.out.mono (own' := p :: (Value.slice ao s.length c).ownBlock.toList) (fun j hj => by cases hj)).trans HCP.out fun j hj => Or.inl (by rw [List.mem_singleton.1 hj]; simp)).tr HCQ.out).trans HI2.out.chg fun j hj => Or.inl hj)
      clear hI2 hK2 hown hDm
      go_wp2
      refine leaves_past (ds := [D2, D]) (by simpa using hDD) (fun D' hD' => by
       rcases List.mem_cons.1 hD' with q | q
       ·rw [q]; exact HK2.out
       rw [List.mem_singleton.1 q]; exact HDM.out) fun W' hc' => ⟨_, results_none rfl _ _ _, rfl, ?_⟩
      have hh : Hard W2 [D2, D] := fun D' hD' => by
       have e : W2.heap[D']? = some (.deferred (some [])) := by
        rcases List.mem_cons.1 hD' with q | q
        ·rw [q]; exact HK2.out
        rw [List.mem_singleton.1 q]; exact HDM.out
       rw [e]
       exact ⟨fun _ _ _ q => (by cases q), fun _ _ q => (by cases q)⟩
      obtain ⟨vs', hvs⟩ := HI2.out.row
      refine ⟨rs, ms, vs', ev, fun t => ?_, ?_, HRO.out.imp (fun h => Int.not_lt.2 h), HI2.out.done, heap_hard HI2.out.tree hc' hh, owns_chg HEN.out hc' (fun b hb hm => ?_), hvs.hard hc' hh, HCE.out.trans hc' fun D' hD' => Or.inr ?_⟩
      ·rw [HRP.out.mem_iff, HGF.out.mem t, HF.out]
       exact ⟨fun q => ⟨q.1, q.2.2⟩, fun q => ⟨q.1, rfl, q.2⟩⟩
      ·exact (HRP.out.map _).nodup_iff.2 HGF.out.nodup
      ·obtain ⟨cs, e⟩ := owns_kind HEN.out hb
       exact (hh b hm).1 _ _ _ e
      have h1 := HCE.out.size
      have h2 := HC5.out.size
      have h3 := HC3.out.size
      have h4 := HCQ.out.size
      have h5 := HCP.out.size
      have h6 := HCWS.out.size
      rcases List.mem_cons.1 hD' with q | q
      ·omega
      rw [List.mem_singleton.1 q]; have := HD5.out; omega
   intro x c kl y1 y2 w7 cnt1 hkey hlx hR hat hrg1 hlt1 hg1 hs1 hen
   obtain ⟨x', ex, rfl, hwx⟩ := Maps.keyOf_int_inv Tryz.underlying3 hkey
   cases ex
   obtain ⟨zs, hoi, hyy⟩ := rowElem_inv hR
   have hze := SMap.list (HDD.out x hwx) ((hat .nil).trans (congrArg Prod.fst hyy)) hoi
   subst hze
   obtain ⟨_, _, _, hfl, _⟩ := HSM5.out.look (by omega) hwx
   have hc7 : Chg [rb2] wr w7 := (Chg.refl _ wr).grown hg1 (fun j hj => by cases hj; exact Or.inl (by simp))
   have hnc : ∀ j ∈ [rb2], ∀ cs r, wr.heap[j]? ≠ some (.cells cs 3 r) := fun j hj cs r => by rw [List.mem_singleton.1 hj]; exact HKD.out.2 cs _ r
   have HROWL := Lib.hid ((HST.out.trans (IntsStay.chg hc7 hnc)).row (owns_row hoi (by omega)))
   have HST7 := Lib.hid (HST.out.trans (IntsStay.chg hc7 hnc))
   have HCW7 := Lib.hid (show Chg [] w w7 from HCW.out.trans hc7 fun j hj => Or.inr (by rw [List.mem_singleton.1 hj]; have := HMX.out; have := HMB.out; omega))
   have HCWW7 := Lib.hid (show Chg [] W w7 from HCWW.out.trans hc7 fun j hj => Or.inr (by rw [List.mem_singleton.1 hj, HRB.out]; exact Nat.le_refl _))
   have HROW7 := Lib.hid (HROW.out.chg hc7 fun b hb hm => by
    obtain ⟨cs, e⟩ := owns_kind HROW.out.1 hb
    rw [List.mem_singleton.1 hm] at e
    exact HKD.out.2 _ _ _ e)
   have HRG1 := Lib.hid hrg1
   have HKD7 := Lib.hid (ranges_kind hrg1)
   have HRL := Lib.hid hrg.left_eq
   have HLE1 := Lib.hid hlt1
   have HLX := Lib.hid hlx
   have HWX := Lib.hid hwx
   have HFE := Lib.hid (show (fun z : Int => left (.int .i64 z) && !decide (z = x)) = fun z : Int => left (.int .i64 z) && !(Lit.int .i64 z).sameKey (.int .i64 x) from funext fun z => by rw [lit_same])
   have hrl := hgo.out.small HSMALL.out
   obtain ⟨KL, hKL⟩ : ∃ KL, f x = KL := ⟨_, rfl⟩
   have HKE := Lib.hid hKL
   rw [hKL] at HROWL hfl
   obtain ⟨ko, kc, rfl⟩ := HROWL.out.shape
   clear hkey hR hat hoi hc7 hnc hKL hlx hg1 hs1 hrg1 hrg hlt1 hwx hyy
   by_cases h1 : KL.length = 2
   ·obtain ⟨ka, kb, rfl⟩ : ∃ ka kb, KL = [ka, kb] := by
     match KL, h1 with
     | [ka, kb], _ => exact ⟨ka, kb, rfl⟩
    obtain ⟨kg, rfl, hkc⟩ := HROWL.out.some (by simp)
    have k0 : w7.cell? ⟨kg, 0, none⟩ = some (.int .i64 ka) := hkc 0 (by simp)
    have k1 : w7.cell? ⟨kg, 1, none⟩ = some (.int .i64 kb) := hkc 1 (by simp)
    have HII := Lib.hid (show I64 ka ∧ I64 kb ∧ I64 x from ⟨HROWL.out.2.1 ka (by simp), HROWL.out.2.1 kb (by simp), HWX.out⟩)
    have HGM := Lib.hid (hgo.out.more HWX.out HLX.out HKE.out)
    rw [HFE.out] at HGM
    clear hkc hgo h1
    go_wp2_with fail
    clear hen
    refine normal_only ?_
    have hS0 : Chg [] w7 w7.drew := (Chg.refl [] w7).drew
    refine wp_region_way (Chg [] w7) [0, 1, 2, 3, 4, 5, 6, 7, 8] (Way.line [0, 1, 2, 3, 4, 5, 6, 7, 8, 9, 10, 11] .done) (by kernel_rfl) (by kernel_rfl) ?_
    simp only [Way.line]
    repeat
     first
      | (refine along_off rfl (by rfl) (by rfl) (fun _ _ _ h => h) hS0 ?_; simp only [Act.put, Z1, Z2, Z3, Z4, Z5, Z6])
      | (refine along_read (v := ?_) rfl (by rfl) (by rfl) (fun _ _ _ h => h) hS0 (fun w' hS' => ?_) ?_; rotate_left; (focus (have rd0 := hS'.cell k0 (by simp); have rd1 := hS'.cell k1 (by simp); clear hS'; go_simp; try with_reducible rfl)); simp only [Act.put, Z1, Z2, Z3, Z4, Z5, Z6])
      | (refine along_skip rfl (by rfl) (by rfl) hS0 ?_; simp only [Act.put, Z1, Z2, Z3, Z4, Z5, Z6])
    refine along_op rfl (by rfl) (by rfl) (fun K hK => ?_)
    go_simp
    refine hK.out _ _ (fun _ => by first | exact hS0.alloc _ | exact ((Chg.refl [] w7).alloc _).drew) ?_
    clear hK K
    try simp only [Act.put, Z1, Z2, Z3, Z4, Z5, Z6]
    refine along_op rfl (by rfl) (by rfl) (fun K hK => ?_)
    simp only [List.getElem_toArray, List.getElem_cons_zero, List.getElem_cons_succ]
    refine op_catT (.tmp 53) (.tmp 62) rfl (w0 := w7.drew) (B := w.heap.size) (v := .slice ro rows.length rc) (l := rows) ⟨ka, kb, x⟩ rfl rfl (HROW7.out.chg hS0 (by simp)) HII.out (by have := HCW7.out.size; exact this) (by omega) rfl ?_
    intro v8 w8 r8 c8 f8
    obtain ⟨zo, zc, rfl⟩ := r8.shape
    have el : (rows ++ [(⟨ka, kb, x⟩ : Plain.T3)]).length = rows.length + 1 := by simp
    rw [el] at r8 f8 ⊢
    have R8 := Lib.hid r8
    have C8 := Lib.hid (show Chg (Value.slice ro rows.length rc).ownBlock.toList w7 w8 from (hS0.mono (by simp)).trans c8 fun j hj => Or.inl hj)
    have F8 := Lib.hid f8
    refine hK.out _ _ (fun h => absurd h (Bool.eq_false_iff.1 (by kernel_rfl))) ?_
    clear hK K r8 c8 f8 hS0
    try simp only [Act.put, List.setIfInBounds_toArray, List.set_cons_zero, List.set_cons_succ]
    refine along_op rfl (by rfl) (by rfl) (fun K hK => ?_)
    go_simp
    refine hK.out _ _ (fun h => absurd h (Bool.eq_false_iff.1 (by kernel_rfl))) ?_
    clear hK K
    try simp only [Act.put, Z1, Z2, Z3, Z4, Z5, Z6]
    refine along_done ?_
    have hrg8 := ranges_at HRG1.out C8.out (fun hm => by
     obtain ⟨cs, e⟩ := owns_kind HROW7.out.1 (by simpa using hm)
     exact HKD7.out.1 _ _ _ e) (fun hm => by
     obtain ⟨cs, e⟩ := owns_kind HROW7.out.1 (by simpa using hm)
     exact HKD7.out.2 _ _ _ e)
    have HRG8 := Lib.hid hrg8
    clear hrg8 k0 k1
    go_wp2
    go_roundw
    case rel => exact ⟨_, cnt1, _, HRG8.out, R8.out, HCW7.out.trans C8.out (fun j hj => Or.inr (by have := HLOW.out j hj; have := HMX.out; have := HMB.out; omega)), (fun b hb => (F8.out b hb).elim (fun q => HLOW.out b q) (fun q => by have : w7.heap.size ≤ b := q; have := HCWW7.out.size; have := HRB.out; omega)), HCWW7.out.trans C8.out (fun j hj => Or.inr (by have := HLOW.out j hj; have := HRB.out; omega)), HST7.out.trans (IntsStay.chg C8.out (fun j hj cs r e => by
     obtain ⟨cs', e'⟩ := owns_kind HROW7.out.1 (by simpa using hj)
     rw [e] at e'
     simp at e')), HGM⟩
    case measure => rw [HRG8.out.left_eq, HRL.out]; exact HLE1.out
   have HGM := Lib.hid (hgo.out.skip (x := x) (by rw [HKE.out]; exact h1))
   rw [HFE.out] at HGM
   have hb2 : ((KL.length : Int) == 2) = false := by simp; omega
   clear hgo
   go_wp2
   go_roundw
   case rel => exact ⟨_, cnt1, _, HRG1.out, HROW7.out, HCW7.out, HLOW.out, HCWW7.out, HST7.out, HGM⟩
   case measure => rw [HRG1.out.left_eq, HRL.out]; exact HLE1.out
end
end Go.Proofs.YtpcgklagmcnhaaaGreat
namespace Go.Proofs.YtpcgklagmcnhaaaGreat.Plain
structure Tr (E : List Int) (X : List (List Int)) : Prop where
 enod : E.Nodup
 nod : ∀ x ∈ X, x.Nodup
 big : X.length = 1 ∨ ∀ x ∈ X, 3 ≤ x.length
 edg : (X.flatten.filter fun v => decide (0 ≤ v)).Perm E
 cnt : (X.flatten.filter fun v => decide (v < 0)).length + 2 = 2 * X.length
 dis : X.Nodup
 two : ∀ v, v < 0 → X.countP (fun x => decide (v ∈ x)) = 0 ∨ X.countP (fun x => decide (v ∈ x)) = 2
 brg : ∀ v, v < 0 → ∃ s : List Int → Bool, ∀ x ∈ X, ∀ y ∈ X, ∀ u, u < 0 → u ∈ x → u ∈ y → (u ≠ v → s x = s y) ∧ (u = v → x ≠ y → s x ≠ s y)
 con : ∀ s : List Int → Bool, (∀ x ∈ X, ∀ y ∈ X, ∀ u, u < 0 → u ∈ x → u ∈ y → s x = s y) → ∀ x ∈ X, ∀ y ∈ X, s x = s y
theorem Tr.perm {E : List Int} {X Y : List (List Int)} (h : Tr E X) (p : X.Perm Y)   : Tr E Y where
 enod := h.enod
 nod x hx := h.nod x (p.mem_iff.2 hx)
 big := by rw [← p.length_eq]; exact h.big.imp id fun q x hx => q x (p.mem_iff.2 hx)
 edg := ((p.flatten).filter _).symm.trans h.edg
 cnt := by rw [← p.length_eq, ← ((p.flatten).filter _).length_eq]; exact h.cnt
 dis := p.nodup_iff.1 h.dis
 two v hv := by rw [← p.countP_eq]; exact h.two v hv
 brg v hv := by
  obtain ⟨s, hs⟩ := h.brg v hv
  exact ⟨s, fun x hx y hy => hs x (p.mem_iff.2 hx) y (p.mem_iff.2 hy)⟩
 con s hs x hx y hy := h.con s (fun x hx y hy => hs x (p.mem_iff.1 hx) y (p.mem_iff.1 hy)) x (p.mem_iff.2 hx) y (p.mem_iff.2 hy)
theorem Tr.one {E : List Int} (hn : E.Nodup) (h : ∀ e ∈ E, 0 ≤ e) : Tr E [E] where
 enod := hn
 nod x hx := by rw [List.mem_singleton.1 hx]; exact hn
 big := Or.inl rfl
 edg := by
  rw [List.flatten_cons, List.flatten_nil, List.append_nil, List.filter_eq_self.2 (fun e he => decide_eq_true (h e he))]
 cnt := by
  rw [List.flatten_cons, List.flatten_nil, List.append_nil, List.filter_eq_nil_iff.2 (fun e he => by have := h e he; simp; omega)]
  rfl
 dis := by simp
 two v hv := by
  refine Or.inl ?_
  rw [List.countP_eq_zero]
  intro x hx
  rw [List.mem_singleton.1 hx]
  have := fun q => h v q
  simp
  intro q; have := h v q; omega
 brg v hv := ⟨fun _ => true, fun x hx y hy u hu hux => by
  rw [List.mem_singleton.1 hx] at hux
  have := h u hux; omega⟩
 con s hs x hx y hy := by rw [List.mem_singleton.1 hx, List.mem_singleton.1 hy]
theorem Tr.cut {E n a b : List Int} {R : List (List Int)} {v : Int} (h : Tr E (n :: R)) (hp : n.Perm (a ++ b)) (ha : 2 ≤ a.length) (hb : 2 ≤ b.length) (hv : v < 0) (hf : ∀ x ∈ n :: R, v ∉ x) : Tr E ((a ++ [v]) :: (b ++ [v]) :: R) := by
 have hnn : (a ++ b).Nodup := hp.nodup_iff.1 (h.nod n (by simp))
 have hva : v ∉ a := fun q => hf n (by simp) (hp.mem_iff.2 (List.mem_append_left _ q))
 have hvb : v ∉ b := fun q => hf n (by simp) (hp.mem_iff.2 (List.mem_append_right _ q))
 have hvR : ∀ x ∈ R, v ∉ x := fun x hx => hf x (by simp [hx])
 obtain ⟨na, nb, dab⟩ := List.nodup_append.1 hnn
 have hab : ∀ u, u ∈ a → u ∉ b := fun u h1 h2 => dab u h1 u h2 rfl
 have hmn : ∀ u, u ∈ n ↔ u ∈ a ∨ u ∈ b := fun u => by rw [hp.mem_iff, List.mem_append]
 have hne : a ++ [v] ≠ b ++ [v] := fun q => by
  have q := List.append_cancel_right q
  obtain ⟨x, hx⟩ := List.exists_mem_of_length_pos (show 0 < a.length by omega)
  exact hab x hx (q ▸ hx)
 have hdn := h.dis
 rw [List.nodup_cons] at hdn
 refine ⟨h.enod, ?_, ?_, ?_, ?_, ?_, ?_, ?_, ?_⟩
 ·intro x hx
  rcases List.mem_cons.1 hx with rfl | hx
  ·exact List.nodup_append.2 ⟨na, by simp, fun m hm l hl e => hva (by rw [List.mem_singleton.1 hl] at e; exact e ▸ hm)⟩
  rcases List.mem_cons.1 hx with rfl | hx
  ·exact List.nodup_append.2 ⟨nb, by simp, fun m hm l hl e => hvb (by rw [List.mem_singleton.1 hl] at e; exact e ▸ hm)⟩
  exact h.nod x (by simp [hx])
 ·refine Or.inr fun x hx => ?_
  rcases List.mem_cons.1 hx with rfl | hx
  ·simp; omega
  rcases List.mem_cons.1 hx with rfl | hx
  ·simp; omega
  rcases h.big with q | q
  ·have : R = [] := by simpa using q
   subst this; cases hx
  exact q x (by simp [hx])
 ·refine List.Perm.trans ?_ h.edg
  have e1 : decide (0 ≤ v) = false := by simp; omega
  simp only [List.flatten_cons, List.filter_append, List.filter_cons, e1, List.filter_nil]
  have q := hp.filter fun v => decide (0 ≤ v)
  rw [List.filter_append] at q
  simpa [List.append_assoc] using (q.symm.append_right ((R.flatten).filter fun v => decide (0 ≤ v)))
 ·have q := (hp.filter fun v => decide (v < 0)).length_eq
  rw [List.filter_append] at q
  have c := h.cnt
  simp only [List.flatten_cons, List.filter_append, List.filter_cons, decide_eq_true hv, List.filter_nil, List.length_append, List.length_cons, List.length_nil, if_true] at c q ⊢
  omega
 ·rw [List.nodup_cons, List.nodup_cons]
  refine ⟨fun q => ?_, fun q => hvR _ q (by simp), hdn.2⟩
  rcases List.mem_cons.1 q with q | q
  ·exact hne q
  exact hvR _ q (by simp)
 ·intro u hu
  have c := h.two u hu
  simp only [List.countP_cons] at c ⊢
  by_cases e : u = v
  ·subst e
   have z : R.countP (fun x => decide (u ∈ x)) = 0 := List.countP_eq_zero.2 fun x hx => by simpa using hvR x hx
   refine Or.inr ?_
   rw [z]; simp
  by_cases qa : u ∈ a
  ·have qb := hab u qa
   simp [e, qa, qb, hmn] at c ⊢
   exact c
  by_cases qb : u ∈ b
  ·simp [e, qa, qb, hmn] at c ⊢
   exact c
  simp [e, qa, qb, hmn] at c ⊢
  exact c
 ·intro w hw
  by_cases e : w = v
  ·subst e
   -- the new link: beyond a link of a, or a itself
   have hbr : ∀ u : Int, ∃ s : List Int → Bool, u < 0 → ∀ x ∈ n :: R, ∀ y ∈ n :: R, ∀ t, t < 0 → t ∈ x → t ∈ y → (t ≠ u → s x = s y) ∧ (t = u → x ≠ y → s x ≠ s y) := fun u => by
    by_cases hu : u < 0
    ·obtain ⟨s, hs⟩ := h.brg u hu
     exact ⟨s, fun _ => hs⟩
    exact ⟨fun _ => true, fun q => absurd q hu⟩
   obtain ⟨F, S⟩ := Classical.axiomOfChoice hbr
   refine ⟨fun y => decide (y = a ++ [w]) || (!decide (y = b ++ [w]) && a.any fun u => decide (u < 0) && (F u y != F u n)), ?_⟩
   -- what lies beyond a
   have key : ∀ y ∈ R, ∀ t, t < 0 → t ∈ n → t ∈ y → ((a.any fun u => decide (u < 0) && (F u y != F u n)) = decide (t ∈ a)) := by
    intro y hy t ht htn hty
    have yn : y ≠ n := fun q => hdn.1 (q ▸ hy)
    by_cases ta : t ∈ a
    ·rw [decide_eq_true ta, List.any_eq_true]
     refine ⟨t, ta, ?_⟩
     have := (S t ht y (by simp [hy]) n (by simp) t ht hty htn).2 rfl yn
     simp [ht]; exact this
    rw [decide_eq_false ta, List.any_eq_false]
    intro u hu
    by_cases hu0 : u < 0
    ·have := (S u hu0 y (by simp [hy]) n (by simp) t ht hty htn).1 (fun q => ta (q ▸ hu))
     simp [hu0, this]
    simp [hu0]
   have key2 : ∀ x ∈ R, ∀ y ∈ R, ∀ t, t < 0 → t ∈ x → t ∈ y → ((a.any fun u => decide (u < 0) && (F u x != F u n)) = (a.any fun u => decide (u < 0) && (F u y != F u n))) := by
    intro x hx y hy t ht htx hty
    by_cases hxy : x = y
    ·rw [hxy]
    by_cases htn : t ∈ n
    ·rw [key x hx t ht htn htx, key y hy t ht htn hty]
    have : ∀ u ∈ a, (decide (u < 0) && (F u x != F u n)) = (decide (u < 0) && (F u y != F u n)) := by
     intro u hu
     by_cases hu0 : u < 0
     ·have e1 := (S u hu0 x (by simp [hx]) y (by simp [hy]) t ht htx hty).1 (fun q => htn ((hmn t).2 (Or.inl (q ▸ hu))))
      simp [hu0, e1]
     simp [hu0]
    rw [Bool.eq_iff_iff, List.any_eq_true, List.any_eq_true]
    exact ⟨fun ⟨u, h1, h2⟩ => ⟨u, h1, this u h1 ▸ h2⟩, fun ⟨u, h1, h2⟩ => ⟨u, h1, (this u h1).symm ▸ h2⟩⟩
   have nA : ∀ x ∈ R, x ≠ a ++ [w] := fun x hx q => hvR x hx (by rw [q]; simp)
   have nB : ∀ x ∈ R, x ≠ b ++ [w] := fun x hx q => hvR x hx (by rw [q]; simp)
   intro x hx y hy t ht htx hty
   rcases List.mem_cons.1 hx with rfl | hx
   ·rcases List.mem_cons.1 hy with rfl | hy
    ·exact ⟨fun _ => rfl, fun _ q => absurd rfl q⟩
    rcases List.mem_cons.1 hy with rfl | hy
    ·refine ⟨fun q => ?_, fun _ _ => ?_⟩
     ·simp [q] at htx hty; exact absurd hty (hab t htx)
     simp [hne, hne.symm]
    have q : t ≠ w := fun q => hvR y hy (q ▸ hty)
    refine ⟨fun _ => ?_, fun e => absurd e q⟩
    simp [q] at htx
    simp only [decide_eq_false (nA y hy), decide_eq_false (nB y hy), Bool.false_or, Bool.not_false, Bool.true_and]
    rw [key y hy t ht ((hmn t).2 (Or.inl htx)) hty]
    simp [htx]
   rcases List.mem_cons.1 hx with rfl | hx
   ·rcases List.mem_cons.1 hy with rfl | hy
    ·refine ⟨fun q => ?_, fun _ _ => ?_⟩
     ·simp [q] at htx hty; exact absurd htx (hab t hty)
     simp [hne, hne.symm]
    rcases List.mem_cons.1 hy with rfl | hy
    ·exact ⟨fun _ => rfl, fun _ q => absurd rfl q⟩
    have q : t ≠ w := fun q => hvR y hy (q ▸ hty)
    refine ⟨fun _ => ?_, fun e => absurd e q⟩
    simp [q] at htx
    simp only [decide_eq_false (nA y hy), decide_eq_false (nB y hy), Bool.false_or, Bool.not_false, Bool.true_and]
    rw [key y hy t ht ((hmn t).2 (Or.inr htx)) hty]
    have : t ∉ a := fun z => hab t z htx
    simp [hne.symm, this]
   have q : t ≠ w := fun q => hvR x hx (q ▸ htx)
   refine ⟨fun _ => ?_, fun e => absurd e q⟩
   rcases List.mem_cons.1 hy with rfl | hy
   ·simp [q] at hty
    simp only [decide_eq_false (nA x hx), decide_eq_false (nB x hx), Bool.false_or, Bool.not_false, Bool.true_and]
    rw [key x hx t ht ((hmn t).2 (Or.inl hty)) htx]
    simp [hty]
   rcases List.mem_cons.1 hy with rfl | hy
   ·simp [q] at hty
    simp only [decide_eq_false (nA x hx), decide_eq_false (nB x hx), Bool.false_or, Bool.not_false, Bool.true_and]
    rw [key x hx t ht ((hmn t).2 (Or.inr hty)) htx]
    have : t ∉ a := fun z => hab t z hty
    simp [hne.symm, this]
   simp only [decide_eq_false (nA x hx), decide_eq_false (nB x hx), decide_eq_false (nA y hy), decide_eq_false (nB y hy), Bool.false_or, Bool.not_false, Bool.true_and]
   exact key2 x hx y hy t ht htx hty
  obtain ⟨s, hs⟩ := h.brg w hw
  refine ⟨fun y => if y = a ++ [v] ∨ y = b ++ [v] then s n else s y, ?_⟩
  -- an old node for each new one
  have old : ∀ x ∈ (a ++ [v]) :: (b ++ [v]) :: R, ∃ x0 ∈ n :: R, (if x = a ++ [v] ∨ x = b ++ [v] then s n else s x) = s x0 ∧ (∀ t, t ∈ x → t ≠ v → t ∈ x0) ∧ ((x = a ++ [v] ∨ x = b ++ [v]) ∧ x0 = n ∨ x ∈ R ∧ x0 = x) := by
   intro x hx
   rcases List.mem_cons.1 hx with rfl | hx
   ·exact ⟨n, by simp, by simp, fun t h1 h2 => (hmn t).2 (Or.inl (by simpa [h2] using h1)), Or.inl ⟨Or.inl rfl, rfl⟩⟩
   rcases List.mem_cons.1 hx with rfl | hx
   ·exact ⟨n, by simp, by simp, fun t h1 h2 => (hmn t).2 (Or.inr (by simpa [h2] using h1)), Or.inl ⟨Or.inr rfl, rfl⟩⟩
   have q : ¬ (x = a ++ [v] ∨ x = b ++ [v]) := fun q => hvR x hx (by rcases q with q | q <;> (rw [q]; simp))
   exact ⟨x, by simp [hx], by rw [if_neg q], fun t h1 _ => h1, Or.inr ⟨hx, rfl⟩⟩
  intro x hx y hy t ht htx hty
  obtain ⟨x0, hx0, ex, mx, cx⟩ := old x hx
  obtain ⟨y0, hy0, ey, my, cy⟩ := old y hy
  dsimp only
  rw [ex, ey]
  by_cases q : t = v
  ·subst q
   refine ⟨fun _ => ?_, fun e2 => absurd e2.symm e⟩
   rcases cx with ⟨-, rfl⟩ | ⟨hxR, -⟩
   ·rcases cy with ⟨-, rfl⟩ | ⟨hyR, -⟩
    ·rfl
    exact absurd hty (hvR y hyR)
   exact absurd htx (hvR x hxR)
  have hh := hs x0 hx0 y0 hy0 t ht (mx t htx q) (my t hty q)
  refine ⟨hh.1, fun e2 hxy => hh.2 e2 fun e3 => ?_⟩
  rcases cx with ⟨hx1, rfl⟩ | ⟨hxR, rfl⟩
  ·rcases cy with ⟨hy1, -⟩ | ⟨hyR, rfl⟩
   ·rcases hx1 with rfl | rfl <;> rcases hy1 with rfl | rfl
    ·exact hxy rfl
    ·simp [q] at htx hty; exact hab t htx hty
    ·simp [q] at htx hty; exact hab t hty htx
    exact hxy rfl
   exact hdn.1 (e3 ▸ hyR)
  rcases cy with ⟨hy1, rfl⟩ | ⟨hyR, rfl⟩
  ·exact hdn.1 (e3 ▸ hxR)
  exact hxy e3
 intro s hs
 have hAB : s (a ++ [v]) = s (b ++ [v]) := hs _ (by simp) _ (by simp) v hv (by simp) (by simp)
 have hall := h.con (fun y => if y = n then s (a ++ [v]) else s y) (by
  have up : ∀ x ∈ n :: R, ∀ t, t ∈ x → ∃ x1 ∈ (a ++ [v]) :: (b ++ [v]) :: R, t ∈ x1 ∧ (if x = n then s (a ++ [v]) else s x) = s x1 := by
   intro x hx t htx
   rcases List.mem_cons.1 hx with rfl | hx
   ·rcases (hmn t).1 htx with q | q
    ·exact ⟨a ++ [v], by simp, by simp [q], by rw [if_pos rfl]⟩
    exact ⟨b ++ [v], by simp, by simp [q], by rw [if_pos rfl, hAB]⟩
   exact ⟨x, by simp [hx], htx, if_neg fun (q : x = n) => hdn.1 (q ▸ hx)⟩
  intro x hx y hy t ht htx hty
  obtain ⟨x1, m1, q1, e1⟩ := up x hx t htx
  obtain ⟨y1, m2, q2, e2⟩ := up y hy t hty
  rw [e1, e2]
  exact hs x1 m1 y1 m2 t ht q1 q2)
 have one : ∀ x ∈ (a ++ [v]) :: (b ++ [v]) :: R, s x = s (a ++ [v]) := by
  intro x hx
  rcases List.mem_cons.1 hx with rfl | hx
  ·rfl
  rcases List.mem_cons.1 hx with rfl | hx
  ·exact hAB.symm
  have q := hall x (by simp [hx]) n (by simp)
  rw [if_neg fun (q : x = n) => hdn.1 (q ▸ hx), if_pos rfl] at q
  exact q
 intro x hx y hy
 rw [one x hx, one y hy]
theorem Tr.once {E x : List Int} {R : List (List Int)} (h : Tr E (x :: R)) {u : Int} (hu : 0 ≤ u) (hx : u ∈ x) : ∀ y ∈ R, u ∉ y := fun y hy q => by
 have h1 := h.edg.nodup_iff.2 h.enod
 rw [List.flatten_cons, List.filter_append] at h1
 exact (List.nodup_append.1 h1).2.2 u (List.mem_filter.2 ⟨hx, decide_eq_true hu⟩) u (List.mem_filter.2 ⟨List.mem_flatten.2 ⟨y, hy, q⟩, decide_eq_true hu⟩) rfl
theorem len_ne {A : List Int} {v : Int} (h : A.Nodup) (hv : v ∈ A) : (A.filter fun u => decide (u ≠ v)).length + 1 = A.length := by
 have e : (A.filter fun u => decide (u ≠ v)) = A.erase v := by
  rw [h.erase_eq_filter]
  refine List.filter_congr fun x _ => ?_
  by_cases q : x = v <;> simp [q]
 rw [e, List.length_erase_of_mem hv]
 have := List.length_pos_of_mem hv
 omega
theorem Tr.merge {E A B : List Int} {R : List (List Int)} {v : Int} (h : Tr E (A :: B :: R)) (hv : v < 0) (hA : v ∈ A) (hB : v ∈ B) : Tr E ((A ++ B).filter (fun u => decide (u ≠ v)) :: R) := by
 obtain ⟨m, hm⟩ : ∃ m, (A ++ B).filter (fun u => decide (u ≠ v)) = m := ⟨_, rfl⟩
 rw [hm]
 have hmm : ∀ u, u ∈ m ↔ (u ∈ A ∨ u ∈ B) ∧ u ≠ v := fun u => by rw [← hm, List.mem_filter, List.mem_append, decide_eq_true_iff]
 have hd := h.dis
 rw [List.nodup_cons, List.nodup_cons] at hd
 obtain ⟨hA1, hB1, hR⟩ := hd
 have hAB : A ≠ B := fun q => hA1 (by simp [q])
 have hAR : A ∉ R := fun q => hA1 (by simp [q])
 have nA := h.nod A (by simp)
 have nB := h.nod B (by simp)
 obtain ⟨sv, hsv⟩ := h.brg v hv
 have dif : sv A ≠ sv B := (hsv A (by simp) B (by simp) v hv hA hB).2 rfl hAB
 have two : ∀ u, u < 0 → u ≠ v → u ∈ A → u ∉ B := fun u hu e h1 h2 => dif ((hsv A (by simp) B (by simp) u hu h1 h2).1 e)
 have onev : ∀ x ∈ R, v ∉ x := fun x hx q => by
  have c := h.two v hv
  simp only [List.countP_cons, decide_eq_true hA, decide_eq_true hB] at c
  have : 0 < R.countP fun x => decide (v ∈ x) := List.countP_pos_iff.2 ⟨x, hx, decide_eq_true q⟩
  simp only [if_true] at c
  omega
 have h3 : 3 ≤ A.length ∧ 3 ≤ B.length := by
  rcases h.big with q | q
  ·simp at q
  exact ⟨q A (by simp), q B (by simp)⟩
 have lA := len_ne nA hA
 have lB := len_ne nB hB
 have dis2 : ∀ u, u ∈ A → u ∈ B → u = v := fun u h1 h2 => by
  by_cases hu : u < 0
  ·exact Classical.byContradiction fun e => two u hu e h1 h2
  exact absurd h2 (h.once (Int.not_lt.1 hu) h1 B (by simp))
 have mR : m ∉ R := fun q => by
  have far : ∀ C ∈ A :: B :: R, C ∉ R → v ∈ C → (∀ u, 0 ≤ u → u ∈ C → u ∉ m) → (∀ u ∈ C, u ≠ v → u ∈ m) → 3 ≤ C.length → sv C = sv m := fun C hC _ hvC hno hin hl => by
   have l1 := len_ne (h.nod C hC) hvC
   obtain ⟨u, hu⟩ := List.exists_mem_of_length_pos (show 0 < (C.filter fun u => decide (u ≠ v)).length by omega)
   obtain ⟨u1, u2⟩ := List.mem_filter.1 hu
   have u2 := of_decide_eq_true u2
   by_cases hu0 : u < 0
   ·exact (hsv C hC m (by simp [q]) u hu0 u1 (hin u u1 u2)).1 u2
   exact absurd (hin u u1 u2) (hno u (Int.not_lt.1 hu0) u1)
  have p2 : (A :: B :: R).Perm (B :: A :: R) := List.Perm.swap _ _ _
  exact dif ((far A (by simp) hAR hA (fun u h1 h2 => h.once h1 h2 m (by simp [q])) (fun u h1 h2 => (hmm u).2 ⟨Or.inl h1, h2⟩) h3.1).trans (far B (by simp) hB1 hB (fun u h1 h2 => (h.perm p2).once h1 h2 m (by simp [q])) (fun u h1 h2 => (hmm u).2 ⟨Or.inr h1, h2⟩) h3.2).symm)
 refine ⟨h.enod, ?_, ?_, ?_, ?_, ?_, ?_, ?_, ?_⟩
 ·intro x hx
  rcases List.mem_cons.1 hx with rfl | hx
  ·rw [← hm, List.filter_append]
   refine List.nodup_append.2 ⟨nA.filter _, nB.filter _, fun a ha b hb e => ?_⟩
   have q1 := List.mem_filter.1 ha
   have q2 := List.mem_filter.1 hb
   subst e
   have := dis2 _ q1.1 q2.1
   simp [this] at q1
  exact h.nod x (by simp [hx])
 ·refine Or.inr fun x hx => ?_
  rcases List.mem_cons.1 hx with rfl | hx
  ·rw [← hm, List.filter_append, List.length_append]
   omega
  rcases h.big with q | q
  ·simp at q
  exact q x (by simp [hx])
 ·refine List.Perm.trans ?_ h.edg
  rw [← hm]
  have e : ∀ C : List Int, (C.filter fun u => decide (u ≠ v)).filter (fun u => decide (0 ≤ u)) = C.filter fun u => decide (0 ≤ u) := fun C => by
   rw [List.filter_filter]
   refine List.filter_congr fun u _ => ?_
   by_cases q : 0 ≤ u
   ·have : u ≠ v := by omega
    simp [q, this]
   simp [q]
  simp only [List.flatten_cons, List.filter_append, e]
  rw [List.append_assoc]
 ·have c := h.cnt
  have e : ∀ C : List Int, C.Nodup → v ∈ C → ((C.filter fun u => decide (u ≠ v)).filter fun u => decide (u < 0)).length + 1 = (C.filter fun u => decide (u < 0)).length := fun C h1 h2 => by
   rw [List.filter_filter]
   have := len_ne (h1.filter fun u => decide (u < 0)) (List.mem_filter.2 ⟨h2, decide_eq_true hv⟩)
   rw [List.filter_filter] at this
   rw [← this]
   congr 2
   exact List.filter_congr fun u _ => Bool.and_comm _ _
  have eA := e A nA hA
  have eB := e B nB hB
  rw [← hm]
  simp only [List.flatten_cons, List.filter_append, List.length_append, List.length_cons] at c ⊢
  omega
 ·rw [List.nodup_cons]
  exact ⟨mR, hR⟩
 ·intro u hu
  have c := h.two u hu
  simp only [List.countP_cons] at c ⊢
  by_cases e : u = v
  ·subst e
   exact Or.inl (by rw [List.countP_eq_zero.2 (fun x hx => by simpa using onev x hx)]; simp [hmm])
  have q := two u hu e
  by_cases h1 : u ∈ A <;> by_cases h2 : u ∈ B <;> simp [h1, h2, hmm, e] at c q ⊢ <;> exact c
 ·intro w hw
  obtain ⟨s, hs⟩ := h.brg w hw
  by_cases e : w = v
  ·subst e
   -- nobody has it any more
   refine ⟨fun y => true, fun x hx y hy t ht htx hty => ⟨fun _ => rfl, fun q => ?_⟩⟩
   subst q
   rcases List.mem_cons.1 hx with rfl | hx
   ·exact absurd rfl ((hmm _).1 htx).2
   exact absurd htx (onev x hx)
  refine ⟨fun y => if y = m then s A else s y, ?_⟩
  have hsAB : s A = s B := (hs A (by simp) B (by simp) v hv hA hB).1 (Ne.symm e)
  have old : ∀ x ∈ m :: R, ∀ t, t ∈ x → ∃ x0 ∈ A :: B :: R, t ∈ x0 ∧ (if x = m then s A else s x) = s x0 ∧ (x = m ∧ (x0 = A ∨ x0 = B) ∨ x ∈ R ∧ x0 = x) := by
   intro x hx t htx
   rcases List.mem_cons.1 hx with rfl | hx
   ·rcases ((hmm t).1 htx).1 with q | q
    ·exact ⟨A, by simp, q, if_pos rfl, Or.inl ⟨rfl, Or.inl rfl⟩⟩
    exact ⟨B, by simp, q, by rw [if_pos rfl, hsAB], Or.inl ⟨rfl, Or.inr rfl⟩⟩
   exact ⟨x, by simp [hx], htx, if_neg fun (q : x = m) => mR (q ▸ hx), Or.inr ⟨hx, rfl⟩⟩
  intro x hx y hy t ht htx hty
  obtain ⟨x0, hx0, q1, e1, c1⟩ := old x hx t htx
  obtain ⟨y0, hy0, q2, e2, c2⟩ := old y hy t hty
  dsimp only
  rw [e1, e2]
  have hh := hs x0 hx0 y0 hy0 t ht q1 q2
  refine ⟨hh.1, fun e3 hxy => hh.2 e3 fun e4 => hxy ?_⟩
  rcases c1 with ⟨rfl, c1⟩ | ⟨hxR, rfl⟩
  ·rcases c2 with ⟨rfl, c2⟩ | ⟨hyR, rfl⟩
   ·rfl
   rw [e4] at c1
   rcases c1 with rfl | rfl
   ·exact absurd hyR hAR
   exact absurd hyR hB1
  rcases c2 with ⟨rfl, c2⟩ | ⟨hyR, rfl⟩
  ·rw [← e4] at c2
   rcases c2 with rfl | rfl
   ·exact absurd hxR hAR
   exact absurd hxR hB1
  exact e4
 intro s hs
 have hall := h.con (fun y => if y = A ∨ y = B then s m else s y) (by
  intro x hx y hy t ht htx hty
  by_cases e : t = v
  ·subst e
   have hx' : x = A ∨ x = B := by
    rcases List.mem_cons.1 hx with q | hx
    ·exact Or.inl q
    rcases List.mem_cons.1 hx with q | hx
    ·exact Or.inr q
    exact absurd htx (onev x hx)
   have hy' : y = A ∨ y = B := by
    rcases List.mem_cons.1 hy with q | hy
    ·exact Or.inl q
    rcases List.mem_cons.1 hy with q | hy
    ·exact Or.inr q
    exact absurd hty (onev y hy)
   rw [if_pos hx', if_pos hy']
  have up : ∀ x ∈ A :: B :: R, t ∈ x → ∃ x1 ∈ m :: R, t ∈ x1 ∧ (if x = A ∨ x = B then s m else s x) = s x1 := by
   intro x hx htx
   rcases List.mem_cons.1 hx with rfl | hx
   ·exact ⟨m, by simp, (hmm t).2 ⟨Or.inl htx, e⟩, if_pos (Or.inl rfl)⟩
   rcases List.mem_cons.1 hx with rfl | hx
   ·exact ⟨m, by simp, (hmm t).2 ⟨Or.inr htx, e⟩, if_pos (Or.inr rfl)⟩
   exact ⟨x, by simp [hx], htx, if_neg fun (q : x = A ∨ x = B) => q.elim (fun q => hAR (q ▸ hx)) fun q => hB1 (q ▸ hx)⟩
  obtain ⟨x1, m1, q1, e1⟩ := up x hx htx
  obtain ⟨y1, m2, q2, e2⟩ := up y hy hty
  rw [e1, e2]
  exact hs x1 m1 y1 m2 t ht q1 q2)
 have one : ∀ x ∈ m :: R, s x = s m := by
  intro x hx
  rcases List.mem_cons.1 hx with rfl | hx
  ·rfl
  have q := hall x (by simp [hx]) A (by simp)
  rw [if_neg (fun (q : x = A ∨ x = B) => q.elim (fun q => hAR (q ▸ hx)) fun q => hB1 (q ▸ hx)), if_pos (Or.inl rfl)] at q
  exact q
 intro x hx y hy
 rw [one x hx, one y hy]
structure TrI (n : Nat) (h : Nat → Int → Prop) : Prop where
 two : ∀ v, v < 0 → ∀ i, i < n → h i v → ∃ j, j < n ∧ j ≠ i ∧ h j v ∧ ∀ k, k < n → h k v → k = i ∨ k = j
 brg : ∀ v, v < 0 → ∃ s : Nat → Bool, ∀ i j, i < n → j < n → ∀ u, u < 0 → h i u → h j u → (u ≠ v → s i = s j) ∧ (u = v → i ≠ j → s i ≠ s j)
 con : ∀ s : Nat → Bool, (∀ i j, i < n → j < n → ∀ u, u < 0 → h i u → h j u → s i = s j) → ∀ i j, i < n → j < n → s i = s j
theorem TrI.sides {n : Nat} {h : Nat → Int → Prop} (t : TrI n h) : ∃ s : Int → Nat → Bool, ∀ v, v < 0 → ∀ i j, i < n → j < n → ∀ u, u < 0 → h i u → h j u → (u ≠ v → s v i = s v j) ∧ (u = v → i ≠ j → s v i ≠ s v j) := by
 have hbr : ∀ v : Int, ∃ s : Nat → Bool, v < 0 → ∀ i j, i < n → j < n → ∀ u, u < 0 → h i u → h j u → (u ≠ v → s i = s j) ∧ (u = v → i ≠ j → s i ≠ s j) := fun v => by
  by_cases hv : v < 0
  ·obtain ⟨s, hs⟩ := t.brg v hv
   exact ⟨s, fun _ => hs⟩
  exact ⟨fun _ => true, fun q => absurd q hv⟩
 exact Classical.axiomOfChoice hbr
def Bl (s : Int → Nat → Bool) (n m : Nat) (u : Int) : List Nat := (List.range n).filter fun j => s u j == s u m
def beyF (ed vl : Nat → List Int) (mt : Nat → Int → Nat) : Nat → List (Nat × Int) → List Int → List Int
 | 0, _, es => es
 | _ + 1, [], es => es
 | f + 1, p :: todo, es => beyF ed vl mt f ((((vl p.1).filter fun w => decide (w ≠ p.2)).map fun w => (mt p.1 w, w)).reverse ++ todo) (es ++ ed p.1)
section
variable {n : Nat} {h : Nat → Int → Prop} {s : Int → Nat → Bool} {mt : Nat → Int → Nat} {vl ed : Nat → List Int}
 (t : TrI n h) (hs : ∀ v, v < 0 → ∀ i j, i < n → j < n → ∀ u, u < 0 → h i u → h j u → (u ≠ v → s v i = s v j) ∧ (u = v → i ≠ j → s v i ≠ s v j))
 (hm : ∀ i v, i < n → v < 0 → h i v → mt i v < n ∧ mt i v ≠ i ∧ h (mt i v) v) (hvl : ∀ i v, i < n → (v ∈ vl i ↔ v < 0 ∧ h i v)) (hvn : ∀ i, i < n → (vl i).Nodup)
include t hs
theorem TrI.beyond_one {m j : Nat} (hmn : m < n) (hj : j < n) (hne : j ≠ m) : ∃ w, w < 0 ∧ h m w ∧ s w j ≠ s w m := by
 refine Classical.byContradiction fun q => ?_
 have q' : ∀ w, w < 0 → h m w → s w j = s w m := fun w h1 h2 => Classical.byContradiction fun h3 => q ⟨w, h1, h2, h3⟩
 open Classical in
 have c := t.con (fun k => decide (k ≠ m ∧ ∀ w, w < 0 → h m w → s w k = s w m)) (fun i k hi hk u hu h1 h2 => by
  rw [decide_eq_decide]
  by_cases hmu : h m u
  ·have no : ∀ i, i < n → h i u → ¬ (i ≠ m ∧ ∀ w, w < 0 → h m w → s w i = s w m) := fun i hi h1 q3 => (hs u hu i m hi hmn u hu h1 hmu).2 rfl q3.1 (q3.2 u hu hmu)
   exact ⟨fun q3 => absurd q3 (no i hi h1), fun q3 => absurd q3 (no k hk h2)⟩
  have e : ∀ w, w < 0 → h m w → s w i = s w k := fun w hw hw2 => (hs w hw i k hi hk u hu h1 h2).1 (fun q3 => hmu (q3 ▸ hw2))
  refine ⟨fun q3 => ⟨fun q4 => hmu (q4 ▸ h2), fun w hw hw2 => (e w hw hw2).symm.trans (q3.2 w hw hw2)⟩, fun q3 => ⟨fun q4 => hmu (q4 ▸ h1), fun w hw hw2 => (e w hw hw2).trans (q3.2 w hw hw2)⟩⟩) m j hmn hj
 simp at c
 obtain ⟨w, h1, h2, h3⟩ := c hne
 exact h3 (q' w h1 h2)
theorem TrI.beyond_uniq {m j : Nat} (hmn : m < n) (hj : j < n) {w x : Int} (hw : w < 0) (hx : x < 0) (h1 : h m w) (h2 : h m x) (h3 : s w j ≠ s w m) (h4 : s x j ≠ s x m) : w = x := by
 refine Classical.byContradiction fun q => ?_
 have c := t.con (fun k => (s w k != s w m) && (s x k != s x m)) (fun i k hi hk u hu q1 q2 => by
  by_cases ew : u = w
  ·subst ew
   have ex : ∀ i, i < n → h i u → (s x i != s x m) = false := fun i hi q1 => by
    have := (hs x hx i m hi hmn u hu q1 h1).1 q
    simp [this]
   rw [ex i hi q1, ex k hk q2, Bool.and_false, Bool.and_false]
  by_cases ex : u = x
  ·subst ex
   have e2 : ∀ i, i < n → h i u → (s w i != s w m) = false := fun i hi q1 => by
    have := (hs w hw i m hi hmn u hu q1 h2).1 ew
    simp [this]
   rw [e2 i hi q1, e2 k hk q2, Bool.false_and, Bool.false_and]
  rw [(hs w hw i k hi hk u hu q1 q2).1 ew, (hs x hx i k hi hk u hu q1 q2).1 ex]) m j hmn hj
 simp [h3, h4] at c
include hm hvl hvn
theorem TrI.unfold {m : Nat} {u : Int} (hmn : m < n) (hu : u < 0) (hmu : h m u) : (Bl s n m u).Perm (m :: (((vl m).filter fun w => decide (w ≠ u)).flatMap fun w => Bl s n (mt m w) w)) := by
 have hb : ∀ w, w < 0 → h m w → ∀ j, j < n → (j ∈ Bl s n (mt m w) w ↔ s w j ≠ s w m) := fun w hw hmw j hj => by
  obtain ⟨a, b, c⟩ := hm m w hmn hw hmw
  have := (hs w hw (mt m w) m a hmn w hw c hmw).2 rfl b
  unfold Bl
  rw [List.mem_filter, List.mem_range]
  generalize s w j = x at *
  generalize s w m = y at *
  generalize s w (mt m w) = z at *
  revert this
  cases x <;> cases y <;> cases z <;> simp [hj]
 have lt : ∀ {m u j}, j ∈ Bl s n m u → j < n := fun q => List.mem_range.1 (List.mem_filter.1 q).1
 have mem : ∀ {w}, w ∈ ((vl m).filter fun w => decide (w ≠ u)) → w < 0 ∧ h m w ∧ w ≠ u := fun {w} q => by
  obtain ⟨q1, q2⟩ := List.mem_filter.1 q
  exact ⟨((hvl m w hmn).1 q1).1, ((hvl m w hmn).1 q1).2, of_decide_eq_true q2⟩
 refine (List.perm_ext_iff_of_nodup (List.nodup_range.filter _) ?_).2 fun j => ?_
 ·rw [List.nodup_cons]
  refine ⟨fun q => ?_, ?_⟩
  ·obtain ⟨w, q1, q2⟩ := List.mem_flatMap.1 q
   obtain ⟨a, b, c⟩ := mem q1
   exact (hb w a b m hmn).1 q2 rfl
  unfold List.Nodup
  rw [List.pairwise_flatMap]
  refine ⟨fun w _ => List.nodup_range.filter _, ((hvn m hmn).filter _).imp_of_mem fun {x y} hx hy hxy i hi k hk e => ?_⟩
  subst e
  obtain ⟨a, b, c⟩ := mem hx
  obtain ⟨a2, b2, c2⟩ := mem hy
  exact hxy (t.beyond_uniq hs hmn (lt hi) a a2 b b2 ((hb x a b i (lt hi)).1 hi) ((hb y a2 b2 i (lt hi)).1 hk))
 rw [List.mem_cons, List.mem_flatMap]
 constructor
 ·intro q
  have hj := lt q
  by_cases e : j = m
  ·exact Or.inl e
  obtain ⟨w, h1, h2, h3⟩ := t.beyond_one hs hmn hj e
  refine Or.inr ⟨w, List.mem_filter.2 ⟨(hvl m w hmn).2 ⟨h1, h2⟩, decide_eq_true fun q2 => ?_⟩, (hb w h1 h2 j hj).2 h3⟩
  subst q2
  have q3 := (List.mem_filter.1 q).2
  simp at q3
  exact h3 q3
 rintro (rfl | ⟨w, q1, q2⟩)
 ·exact List.mem_filter.2 ⟨List.mem_range.2 hmn, by simp⟩
 obtain ⟨a, b, c⟩ := mem q1
 have hj := lt q2
 refine List.mem_filter.2 ⟨List.mem_range.2 hj, ?_⟩
 have q3 := (hb w a b j hj).1 q2
 by_cases e : s u j = s u m
 ·simp [e]
 exact absurd (t.beyond_uniq hs hmn hj a hu b hmu q3 e) c
theorem TrI.run : ∀ (f : Nat) (todo : List (Nat × Int)) (es : List Int), (∀ p ∈ todo, p.1 < n ∧ p.2 < 0 ∧ h p.1 p.2) → (todo.map fun p => (Bl s n p.1 p.2).length).sum ≤ f → (beyF ed vl mt f todo es).Perm (es ++ (todo.flatMap fun p => Bl s n p.1 p.2).flatMap ed)
 | 0, todo, es, hv, hf => by
  cases todo with
  | nil => simp [beyF]
  | cons p todo =>
   obtain ⟨a, b, c⟩ := hv p (by simp)
   have := (t.unfold hs hm hvl hvn a b c).length_eq
   simp only [List.length_cons, List.map_cons, List.sum_cons] at this hf
   omega
 | f + 1, [], es, hv, hf => by simp [beyF]
 | f + 1, p :: todo, es, hv, hf => by
  obtain ⟨a, b, c⟩ := hv p (by simp)
  have hu := t.unfold hs hm hvl hvn a b c
  obtain ⟨L, hL⟩ : ∃ L, ((vl p.1).filter fun w => decide (w ≠ p.2)) = L := ⟨_, rfl⟩
  have hLm : ∀ w ∈ L, w < 0 ∧ h p.1 w := fun w q => by rw [← hL] at q; exact (hvl p.1 w a).1 (List.mem_filter.1 q).1
  rw [hL] at hu
  have hl : (((L.map fun w => (mt p.1 w, w)).reverse ++ todo).map fun p => (Bl s n p.1 p.2).length).sum ≤ f := by
   have e := hu.length_eq
   rw [List.length_cons, List.length_flatMap] at e
   rw [List.map_cons, List.sum_cons, e] at hf
   rw [List.map_append, List.sum_append, List.map_reverse, List.sum_reverse, List.map_map]
   have : ((fun p : Nat × Int => (Bl s n p.1 p.2).length) ∘ fun w => (mt p.1 w, w)) = fun w => (Bl s n (mt p.1 w) w).length := rfl
   rw [this]
   omega
  have ih := TrI.run f ((L.map fun w => (mt p.1 w, w)).reverse ++ todo) (es ++ ed p.1) (fun q hq => by
   rcases List.mem_append.1 hq with q1 | q1
   ·obtain ⟨w, hw, rfl⟩ := List.mem_map.1 (List.mem_reverse.1 q1)
    obtain ⟨c1, c2⟩ := hLm w hw
    obtain ⟨d1, d2, d3⟩ := hm p.1 w a c1 c2
    exact ⟨d1, c1, d3⟩
   exact hv q (by simp [q1])) hl
  have e0 : beyF ed vl mt (f + 1) (p :: todo) es = beyF ed vl mt f ((L.map fun w => (mt p.1 w, w)).reverse ++ todo) (es ++ ed p.1) := by rw [← hL]; rfl
  rw [e0]
  refine ih.trans ?_
  rw [List.append_assoc]
  refine List.Perm.append_left _ ?_
  rw [List.flatMap_append, List.flatMap_cons, List.flatMap_append, List.flatMap_append, ← List.append_assoc]
  refine List.Perm.append_right _ ?_
  have h2 := hu.flatMap_right ed
  rw [List.flatMap_cons] at h2
  refine List.Perm.trans (List.Perm.append_left _ ?_) h2.symm
  refine List.Perm.flatMap_right _ ?_
  refine ((List.reverse_perm _).flatMap_right _).trans ?_
  rw [List.flatMap_map]
end
theorem TrI.both {n : Nat} {h : Nat → Int → Prop} {s : Int → Nat → Bool} (hs : ∀ v, v < 0 → ∀ i j, i < n → j < n → ∀ u, u < 0 → h i u → h j u → (u ≠ v → s v i = s v j) ∧ (u = v → i ≠ j → s v i ≠ s v j)) {i j : Nat} {v : Int} (hi : i < n) (hj : j < n) (hij : i ≠ j) (hv : v < 0) (h1 : h i v) (h2 : h j v) : (Bl s n i v ++ Bl s n j v).Perm (List.range n) := by
 have := (hs v hv i j hi hj v hv h1 h2).2 rfl hij
 have e : Bl s n j v = (List.range n).filter fun k => !(s v k == s v i) := by
  unfold Bl
  refine List.filter_congr fun k _ => ?_
  revert this
  cases s v i <;> cases s v j <;> cases s v k <;> simp
 rw [e]
 exact List.filter_append_perm _ _
theorem Tr.ix {E : List Int} {X : List (List Int)} (h : Tr E X) : TrI X.length fun i v => v ∈ X.getD i [] := by
 have at0 : ∀ {i} (hi : i < X.length), X.getD i [] = X[i] := fun hi => by simp [List.getD, hi]
 have inj : ∀ {i j}, (hi : i < X.length) → (hj : j < X.length) → X.getD i [] = X.getD j [] → i = j := fun hi hj e => by
  rw [at0 hi, at0 hj] at e
  rw [← h.dis.idxOf_getElem _ hi, ← h.dis.idxOf_getElem _ hj, e]
 have mem : ∀ {i}, i < X.length → X.getD i [] ∈ X := fun hi => by rw [at0 hi]; exact List.getElem_mem hi
 refine ⟨fun v hv i hi hiv => ?_, fun v hv => ?_, fun s hs i j hi hj => ?_⟩
 ·have c := h.two v hv
  have pos : 0 < X.countP fun x => decide (v ∈ x) := List.countP_pos_iff.2 ⟨_, mem hi, decide_eq_true hiv⟩
  have c2 : (X.filter fun x => decide (v ∈ x)).length = 2 := by rw [← List.countP_eq_length_filter]; omega
  obtain ⟨a, b, e⟩ : ∃ a b, X.filter (fun x => decide (v ∈ x)) = [a, b] := by
   match X.filter (fun x => decide (v ∈ x)), c2 with
   | [a, b], _ => exact ⟨a, b, rfl⟩
  have hab : a ≠ b := by
   have := h.dis.filter fun x => decide (v ∈ x)
   rw [e] at this
   simpa using this
  have hm : ∀ x, x ∈ X → v ∈ x → x = a ∨ x = b := fun x hx hvx => by
   have : x ∈ X.filter fun x => decide (v ∈ x) := List.mem_filter.2 ⟨hx, decide_eq_true hvx⟩
   rw [e] at this
   simpa using this
  have hin : ∀ x, x = a ∨ x = b → x ∈ X ∧ v ∈ x := fun x hx => by
   have : x ∈ X.filter fun x => decide (v ∈ x) := by rw [e]; simpa using hx
   obtain ⟨q1, q2⟩ := List.mem_filter.1 this
   exact ⟨q1, of_decide_eq_true q2⟩
  have go : ∀ a b, a ≠ b → (∀ x, x ∈ X → v ∈ x → x = a ∨ x = b) → (∀ x, x = a ∨ x = b → x ∈ X ∧ v ∈ x) → X.getD i [] = a → ∃ j, j < X.length ∧ j ≠ i ∧ v ∈ X.getD j [] ∧ ∀ k, k < X.length → v ∈ X.getD k [] → k = i ∨ k = j := by
   intro a b hab hm hin ea
   obtain ⟨j, hj, rfl⟩ := List.getElem_of_mem (hin b (Or.inr rfl)).1
   refine ⟨j, hj, fun q => hab ?_, by rw [at0 hj]; exact (hin _ (Or.inr rfl)).2, fun k hk hkv => ?_⟩
   ·rw [← ea, ← at0 hj, q]
   rcases hm _ (mem hk) hkv with q | q
   ·exact Or.inl (inj hk hi (q.trans ea.symm))
   exact Or.inr (inj hk hj (q.trans (at0 hj).symm))
  rcases hm _ (mem hi) hiv with q | q
  ·exact go a b hab hm hin q
  exact go b a hab.symm (fun x h1 h2 => (hm x h1 h2).symm) (fun x hx => hin x hx.symm) q
 ·obtain ⟨s, hs⟩ := h.brg v hv
  refine ⟨fun i => s (X.getD i []), fun i j hi hj u hu h1 h2 => ?_⟩
  have q := hs _ (mem hi) _ (mem hj) u hu h1 h2
  exact ⟨q.1, fun e hij => q.2 e fun e2 => hij (inj hi hj e2)⟩
 have ixOf : ∀ {i}, (hi : i < X.length) → X.idxOf (X.getD i []) = i := fun hi => by rw [at0 hi]; exact h.dis.idxOf_getElem _ hi
 have c := h.con (fun x => s (X.idxOf x)) (fun x hx y hy u hu h1 h2 => by
  obtain ⟨a, ha, rfl⟩ := List.getElem_of_mem hx
  obtain ⟨b, hb, rfl⟩ := List.getElem_of_mem hy
  rw [h.dis.idxOf_getElem _ ha, h.dis.idxOf_getElem _ hb]
  exact hs a b ha hb u hu (by rw [at0 ha]; exact h1) (by rw [at0 hb]; exact h2)) _ (mem hi) _ (mem hj)
 rw [ixOf hi, ixOf hj] at c
 exact c
theorem TrI.ren {n : Nat} {h h' : Nat → Int → Prop} (t : TrI n h) (f g : Int → Int) (h1 : ∀ i v, i < n → v < 0 → h i v → f v < 0 ∧ h' i (f v) ∧ g (f v) = v) (h2 : ∀ i v, i < n → v < 0 → h' i v → g v < 0 ∧ h i (g v) ∧ f (g v) = v) : TrI n h' := by
 refine ⟨fun v hv i hi hiv => ?_, fun v hv => ?_, fun s hs i j hi hj => ?_⟩
 ·obtain ⟨a, b, c⟩ := h2 i v hi hv hiv
  obtain ⟨j, j1, j2, j3, j4⟩ := t.two _ a i hi b
  refine ⟨j, j1, j2, by rw [← c]; exact (h1 j _ j1 a j3).2.1, fun k hk hkv => j4 k hk (h2 k v hk hv hkv).2.1⟩
 ·by_cases e : ∃ i, i < n ∧ h' i v
  ·obtain ⟨i0, hi0, hv0⟩ := e
   obtain ⟨a, b, c⟩ := h2 i0 v hi0 hv hv0
   obtain ⟨s, hs⟩ := t.brg (g v) a
   refine ⟨s, fun i j hi hj u hu q1 q2 => ?_⟩
   obtain ⟨a1, b1, c1⟩ := h2 i u hi hu q1
   obtain ⟨a2, b2, c2⟩ := h2 j u hj hu q2
   have q := hs i j hi hj (g u) a1 b1 b2
   exact ⟨fun e => q.1 fun e2 => e (by rw [← c1, e2, c]), fun e => q.2 (by rw [e])⟩
  refine ⟨fun _ => true, fun i j hi hj u hu q1 q2 => ⟨fun _ => rfl, fun q => ?_⟩⟩
  subst q
  exact absurd ⟨i, hi, q1⟩ e
 exact t.con s (fun i j hi hj u hu q1 q2 => by
  obtain ⟨a, b, -⟩ := h1 i u hi hu q1
  exact hs i j hi hj (f u) a b (h1 j u hj hu q2).2.1) i j hi hj
end Go.Proofs.YtpcgklagmcnhaaaGreat.Plain
