/- pair.Cut, pair.Kind: contracts. Conditions: links that lie in memory and read so. -/
import Derived.Test.YtpcgklagmcnhaaaGreatT7TreeP
namespace Go.Proofs.YtpcgklagmcnhaaaGreat
open Go.RowKit Go.Maps Go.Shelf Go.Lib
theorem eqq_any (va vb : Value) (a b : List Int) (w : World) (h1 : IntsAt w va a) (h2 : IntsAt w vb b) :
  Calls Tryz.prog 102 #[va, vb] w fun e w' => e = .returned (.bool (decide (a = b))) ∧ ∃ q, w' = w.drewN q := by
 obtain ⟨ao, ac, rfl, -, hma, hca⟩ := h1
 obtain ⟨bo, bc, rfl, -, hmb, hcb⟩ := h2
 by_cases hl : a.length = b.length
 ·by_cases h0 : a = []
  ·subst h0
   have hb : b = [] := List.length_eq_zero_iff.1 hl.symm
   subst hb
   refine (Tryz.slices_Equal_int_empty ao bo ac 0 bc w (by omega)).mono ?_
   rintro e w' ⟨rfl, rfl⟩
   exact ⟨rfl, 0, rfl⟩
  have hb0 : b ≠ [] := fun e => h0 (List.length_eq_zero_iff.1 (by rw [hl, e]; rfl))
  obtain ⟨b1, o1, rfl, c1⟩ := hca h0
  obtain ⟨b2, o2, rfl, c2⟩ := hcb hb0
  refine (Tryz.slices_Equal_int b1 o1 a.length ac b2 o2 b.length bc a b w (Nat.le_refl _) (Nat.le_refl _) hma hmb c1 c2).mono ?_
  rintro e w' ⟨rfl, q, rfl⟩
  refine ⟨ret_bool ?_, q, rfl⟩
  rw [List.take_length, List.take_length, Bool.eq_iff_iff]
  simp
 refine (Tryz.slices_Equal_int_lens ao bo a.length ac b.length bc w hl).mono ?_
 rintro e w' ⟨rfl, rfl⟩
 exact ⟨ret_bool (by rw [decide_eq_false]; exact fun e => hl (by rw [e])), 0, rfl⟩
def Rd (w : World) : Type := {z : Value × List Int // IntsAt w z.1 z.2}
instance (w : World) : Inhabited (Rd w) := ⟨⟨(.slice none 0 0, []), IntsAt.nil w⟩⟩
theorem rd_list {w : World} : ∀ {vs : List Value} {ll : List (List Int)}, vs.length = ll.length → (∀ k, k < ll.length → IntsAt w (vs.getD k undef) (ll.getD k [])) → ∃ zs : List (Rd w), zs.map (fun z => z.1.1) = vs ∧ zs.map (fun z => z.1.2) = ll
 | [], [], _, _ => ⟨[], rfl, rfl⟩
 | v :: vs, l :: ll, h, hk => by
  obtain ⟨zs, h1, h2⟩ := rd_list (vs := vs) (ll := ll) (by simpa using h) fun k hk2 => hk (k + 1) (by simpa using hk2)
  exact ⟨⟨(v, l), hk 0 (by simp)⟩ :: zs, congrArg (v :: ·) h1, congrArg (l :: ·) h2⟩
set_option maxRecDepth 100000 in
theorem cut1_any (sb : Nat) (cv sv : Value) (c side : List Int) (W : World) (h : W.cell? ⟨sb, 2, none⟩ = some sv) (h1 : IntsAt W cv c) (h2 : IntsAt W sv side) :
  FnGives Tryz.prog 105 #[.pointer (some ⟨sb, 0, none⟩)] #[cv] (.bool (decide (c = side))) W := by
 show Calls Tryz.prog 105 #[cv, .pointer (some ⟨sb, 0, none⟩)] W _
 have H1 := Lib.hid h1
 have H2 := Lib.hid h2
 obtain ⟨so, sc, rfl, -⟩ := h2
 clear h1
 go_enter Tryz.func105, Tryz.ntmps105
 go_wp2_with fail
 refine (eqq_any _ _ c side _ H1.out H2.out).mono ?_
 rintro e w2 ⟨rfl, q, rfl⟩
 go_wp2
 go_ret
 exact ⟨rfl, q, rfl⟩
theorem hasRow_any (sb B : Nat) (ov sv : Value) (vs : List Value) (ll : List (List Int)) (side : List Int) (w : World) (h : RowsOwn w B ov vs ll) (hi : ∀ l ∈ ll, (∀ x ∈ l, I64 x) ∧ l.length < 4294967296) (hs : w.cell? ⟨sb, 2, none⟩ = some sv) (h2 : IntsAt w sv side) :
  Calls Tryz.prog 103 #[ov, .func (.func 105) #[] #[.pointer (some ⟨sb, 0, none⟩)]] w fun e w' => e = .returned (.bool (ll.contains side)) ∧ Chg [] w w' := by
 have eg : ∀ args w, (callFunc 105 args).run Tryz.prog w = .ok (.enter 105 args) w := enters_of Tryz.func105 (by kernel_rfl) rfl
 have hl := h.len
 by_cases h0 : ll.length = 0
 ·have e : ll = [] := List.length_eq_zero_iff.1 h0
  subst e
  obtain ⟨ao, c, rfl⟩ := owns_shape h.out
  have hv : vs.length = 0 := hl
  rw [hv]
  refine (AnyE.slices_ContainsFunc_empty Tryz.hasRows ao c _ w).mono ?_
  rintro e w' ⟨rfl, rfl⟩
  exact ⟨rfl, Chg.refl _ _⟩
 obtain ⟨g, c, e⟩ := owns_some h.out (by omega)
 have hrd : ∀ k, k < ll.length → IntsAt w (vs.getD k undef) (ll.getD k []) := fun k hk => by
  have hm : ll.getD k [] ∈ ll := by simp [List.getD, hk]
  exact RowAt.ints (B := B) ⟨h.rows k (by omega), (hi _ hm).1, (hi _ hm).2⟩
 obtain ⟨zs, z1, z2⟩ := rd_list hl hrd
 have hzl : zs.length = vs.length := by rw [← z1, List.length_map]
 have hbig : vs.length ≤ 9223372036854775807 := by
  rcases h.out.2 with ⟨-, h0⟩ | ⟨_, cap', _, _, _, _, h3, h4, _⟩
  ·omega
  unfold maxLen at h4; omega
 have hout := h.out
 rw [e] at hout
 have hcon := AnyE.slices_ContainsFunc Tryz.hasRows (fun z : Rd w => z.1.1) (fun z => decide (z.1.2 = side)) 105 #[.pointer (some ⟨sb, 0, none⟩)] eg g 0 vs.length c zs w
  (fun W x hb => by
   have hc : Chg [] w W := Chg.of_below hb (Nat.le_refl _)
   exact cut1_any sb x.1.1 sv x.1.2 side W (hc.cel hs) (x.2.fresh hc) (h2.fresh hc)) (by omega) hbig (fun j hj => by
   have h1 := hout.cells (g := g) rfl j (zs[j]!.1.1) (by rw [← z1, List.getElem?_map, List.getElem?_eq_getElem hj, getElem!_pos zs j hj]; rfl)
   have hadd : (⟨g, 0, none⟩ : Addr).add j = ⟨g, j, none⟩ := by unfold Addr.add; split <;> simp_all
   rw [hadd] at h1
   rw [Nat.zero_add]
   exact h1)
 change Calls Tryz.prog 103 _ _ _ at hcon
 rw [e]
 refine hcon.mono ?_
 rintro e w' ⟨rfl, q, rfl⟩
 refine ⟨ret_bool ?_, (Chg.refl [] w).drewN q⟩
 rw [← hzl, List.take_length, ← z2, Bool.eq_iff_iff, List.any_eq_true, List.contains_iff_mem, List.mem_map]
 simp
namespace Plain
theorem offK_snoc (l : List Lk) (s : List Int) (k : Nat) : offK l s (k + 1) = offK l s k ++ if (k : Int) ∈ s then [at0 l k] else [] := by
 unfold offK
 rw [List.range_succ, List.filter_append, List.map_append]
 congr 1
 by_cases h : (k : Int) ∈ s <;> simp [h]
theorem leftK_snoc (l : List Lk) (s : List Int) (k : Nat) : leftK l s (k + 1) = leftK l s k ++ if (k : Int) ∈ s then [] else [at0 l k] := by
 unfold leftK
 rw [List.range_succ, List.filter_append, List.map_append]
 congr 1
 by_cases h : (k : Int) ∈ s <;> simp [h]
theorem offK_le (l : List Lk) (s : List Int) (k : Nat) : (offK l s k).length ≤ k ∧ (leftK l s k).length ≤ k := by
 have h1 := List.length_filter_le (fun i : Nat => decide ((i : Int) ∈ s)) (List.range k)
 have h2 := List.length_filter_le (fun i : Nat => !decide ((i : Int) ∈ s)) (List.range k)
 rw [List.length_range] at h1 h2
 unfold offK leftK
 rw [List.length_map, List.length_map]
 exact ⟨h1, h2⟩
theorem cls_rise {l : List Lk} {u v : Int} {s : List Int} (h : s ∈ classesK l u v) : s.Pairwise (· < ·) ∧ s.length ≤ l.length := by
 obtain ⟨q, rfl⟩ := cls_row h
 refine ⟨?_, ?_⟩
 ·rw [List.pairwise_map]
  exact (List.Pairwise.filter _ List.pairwise_lt_range).imp fun h => by omega
 have h1 := List.length_filter_le q (List.range l.length)
 rw [List.length_range] at h1
 rw [List.length_map]
 exact h1
end Plain
set_option maxRecDepth 100000 in
set_option maxHeartbeats 16000000 in
theorem pcut_any (v sv : Value) (l : List Plain.Lk) (u x id : Int) (side : List Int) (w : World) (hl : l.length ≤ 40000) (hsl : side.length ≤ 40000) (hu : I64 u) (hx : I64 x) (hid : I64 id) (h : LksAt w v l) (hs : IntsAt w sv side) :
  Calls Tryz.prog 65 #[v, .agg #[.int .i64 u, .int .i64 x, sv], .int .i64 id] w fun e w' => ∃ r1 r2, e = .returned (.tuple #[r1, r2, .bool (Plain.cutK l u x side id).isSome]) ∧
   (∀ a b, Plain.cutK l u x side id = some (a, b) → LkRow w' 0 r1 a ∧ LkRow w' 0 r2 b) ∧ Chg [] w w' := by
 have H := Lib.hid h
 have HS := Lib.hid hs
 obtain ⟨lo, cap, rfl, -, hsm, hcell⟩ := h
 have HSM := Lib.hid hsm
 have HCE := Lib.hid hcell
 obtain ⟨so, sc, rfl, -⟩ := hs
 clear hsm hcell
 have IV : I64 u ∧ I64 x ∧ I64 id := ⟨hu, hx, hid⟩
 have HXC := Lib.hid (show Chg [] w ((w.alloc (.cells #[.int .i64 u, .int .i64 x, .slice so side.length sc] 92)).alloc (.cells #[.int .i64 id] 3)) from (show Chg [] w ((w.alloc (.cells #[.int .i64 u, .int .i64 x, .slice so side.length sc] 92)).alloc (.cells #[.int .i64 id] 3)) from (((Chg.refl [] w).alloc _).alloc _)))
 have qbx0 := heap_alloc_new w (.cells #[.int .i64 u, .int .i64 x, .slice so side.length sc] 92)
 replace qbx0 := (show Chg [] (w.alloc (.cells #[.int .i64 u, .int .i64 x, .slice so side.length sc] 92)) ((w.alloc (.cells #[.int .i64 u, .int .i64 x, .slice so side.length sc] 92)).alloc (.cells #[.int .i64 id] 3)) from ((Chg.refl [] (w.alloc (.cells #[.int .i64 u, .int .i64 x, .slice so side.length sc] 92))).alloc _)).heap qbx0 (by simp)
 have qbx1 := heap_alloc_new (w.alloc (.cells #[.int .i64 u, .int .i64 x, .slice so side.length sc] 92)) (.cells #[.int .i64 id] 3)
 rw [show (w.alloc (.cells #[.int .i64 u, .int .i64 x, .slice so side.length sc] 92)).heap.size = w.heap.size + 1 by simp] at qbx1
 have HX := Lib.hid (fun (w2 : World) (hbx : Chg [] ((w.alloc (.cells #[.int .i64 u, .int .i64 x, .slice so side.length sc] 92)).alloc (.cells #[.int .i64 id] 3)) w2) => (⟨hbx.heap qbx0 (by simp), hbx.cell ((cell_of_row _ _ 0 _ _ _ qbx1).trans rfl) (by simp), by have hz := hbx.size; simpa using hz⟩ : w2.heap[w.heap.size]? = some (.cells #[.int .i64 u, .int .i64 x, .slice so side.length sc] 92 (0, 0)) ∧ w2.cell? ⟨w.heap.size + 1, 0, none⟩ = some (.int .i64 id) ∧ w.heap.size + 2 ≤ w2.heap.size))
 clear qbx0 qbx1
 have HXZ := Lib.hid (show ((w.alloc (.cells #[.int .i64 u, .int .i64 x, .slice so side.length sc] 92)).alloc (.cells #[.int .i64 id] 3)).heap.size = w.heap.size + 2 by simp)
 obtain ⟨r0, z0, hsz⟩ := HX.out _ (Chg.refl _ _)
 have HXF := Lib.hid (show ∀ wx, Chg [] ((w.alloc (.cells #[.int .i64 u, .int .i64 x, .slice so side.length sc] 92)).alloc (.cells #[.int .i64 id] 3)) wx → wx.cell? ⟨w.heap.size, 0, none⟩ = some (.int .i64 u) ∧ wx.cell? ⟨w.heap.size, 1, none⟩ = some (.int .i64 x) ∧ wx.cell? ⟨w.heap.size, 2, none⟩ = some (.slice so side.length sc) ∧ wx.cell? ⟨w.heap.size + 1, 0, none⟩ = some (.int .i64 id) from fun wx hx => by
  obtain ⟨r0, z0, -⟩ := HX.out wx hx
  exact ⟨(cell_of_row _ _ 0 _ _ _ r0).trans rfl, (cell_of_row _ _ 1 _ _ _ r0).trans rfl, (cell_of_row _ _ 2 _ _ _ r0).trans rfl, z0⟩)
 obtain ⟨s0, s1, s2, z0⟩ := HXF.out _ (Chg.refl _ _)
 clear r0
 go_enter Tryz.func65, Tryz.ntmps65
 go_wp2_with fail
 generalize ((w.alloc (.cells #[.int .i64 u, .int .i64 x, .slice so side.length sc] 92)).alloc (.cells #[.int .i64 id] 3)) = w1 at *
 refine (pClasses_any _ l u x _ (by omega) hu hx (H.out.fresh HXC.out)).mono ?_
 rintro e w2 ⟨ov, vs, rfl, hro, hc2⟩
 have HRO := Lib.hid hro
 have HC2 := Lib.hid hc2
 obtain ⟨s0, s1, s2, z0⟩ := HXF.out _ hc2
 have HCM := Lib.hid (show ∀ c ∈ Plain.classesR l u x, (∀ y ∈ c, I64 y) ∧ c.length < 4294967296 from fun c hcm => by
  have hcm2 := Plain.classesR_mem (l := l) (u := u) (v := x) (s := c) (by simpa using hcm)
  obtain ⟨q, hq⟩ := Plain.cls_row hcm2
  refine ⟨fun y hy => ?_, by have := (Plain.cls_rise hcm2).2; omega⟩
  rw [hq] at hy
  obtain ⟨i, hi, rfl⟩ := List.mem_map.1 hy
  have := List.mem_range.1 (List.mem_filter.1 hi).1
  exact I64.mk (by omega) (by omega))
 clear hro hc2
 go_wp2_with fail
 refine (hasRow_any w.heap.size _ ov _ vs _ side _ HRO.out HCM.out s2 (HS.out.fresh (HXC.out.tr HC2.out))).mono ?_
 rintro e w3 ⟨rfl, hc3⟩
 have HC3 := Lib.hid (HC2.out.tr hc3)
 obtain ⟨s0, s1, s2, z0⟩ := HXF.out _ HC3.out
 clear hc3
 have HCK := Lib.hid (show Plain.cutK l u x side id = if (Plain.classesR l u x).contains side = true ∧ Plain.willK l.length side.length = true ∧ id < 0 ∧ (l.any fun y => y.id == id) = false then some (Plain.offK l side l.length ++ [⟨u, x, id⟩], Plain.leftK l side l.length ++ [⟨u, x, id⟩]) else none from rfl)
 have HRI := Lib.hid (show (Plain.classesR l u x).contains side = true → side.Pairwise (· < ·) from fun h => (Plain.cls_rise (Plain.classesR_mem h)).1)
 obtain ⟨fits, hfits⟩ : ∃ f, (Plain.classesR l u x).contains side = f := ⟨_, rfl⟩
 rw [hfits] at HCK HRI ⊢
 clear hfits
 have eg : ∀ args w, (callFunc 106 args).run Tryz.prog w = .ok (.enter 106 args) w := enters_of Tryz.func106 (by kernel_rfl) rfl
 have hbl : w.heap.size + 1 < w3.heap.size := World.block_lt_of_cell? _ _ z0
 go_wp2_with fail
 refine (hasLk_any 106 _ eg _ l (fun y => y.id == id) _ (H.out.fresh (HXC.out.tr HC3.out)) (cut2_pred id (w.heap.size + 1) _ hbl z0)).mono ?_
 rintro e w4 ⟨rfl, hc4⟩
 have HC4 := Lib.hid (HC3.out.tr hc4)
 obtain ⟨s0, s1, s2, z0⟩ := HXF.out _ HC4.out
 clear hc4 eg
 have HW4 := Lib.hid (HXC.out.tr HC4.out)
 obtain ⟨taken, htaken⟩ : ∃ f, (l.any fun y => y.id == id) = f := ⟨_, rfl⟩
 rw [htaken] at HCK ⊢
 clear htaken
 by_cases hf : fits = true
 ·subst hf
  go_wp2_with fail
  refine (will_any _ l side.length _ (by omega) (by omega) (H.out.fresh HW4.out)).mono ?_
  rintro e w5 ⟨rfl, rfl⟩
  obtain ⟨wl, hwl⟩ : ∃ f, Plain.willK l.length side.length = f := ⟨_, rfl⟩
  rw [hwl] at HCK ⊢
  clear hwl
  by_cases hgo : wl = true ∧ id < 0 ∧ taken = false
  ·obtain ⟨rfl, hneg, rfl⟩ := hgo
   rw [if_pos (by simp [hneg])] at HCK
   have hneg2 : ¬ id ≥ 0 := by omega
   have HRS := HRI.out (by first | rfl | trivial)
   have HSX := Lib.hid (HS.out.fresh HW4.out)
   have HSNO := Lib.hid (Plain.offK_snoc l side)
   have HSNL := Lib.hid (Plain.leftK_snoc l side)
   have HLE := Lib.hid (Plain.offK_le l side)
   obtain ⟨OF, hOF⟩ : ∃ f, Plain.offK l side = f := ⟨_, rfl⟩
   obtain ⟨LF, hLF⟩ : ∃ f, Plain.leftK l side = f := ⟨_, rfl⟩
   have HO0 := Lib.hid (show OF 0 = [] by rw [← hOF]; rfl)
   have HL0 := Lib.hid (show LF 0 = [] by rw [← hLF]; rfl)
   rw [hOF] at HCK HSNO HLE
   rw [hLF] at HCK HSNL HLE
   have hBL := HW4.out.size
   obtain ⟨B, hB⟩ : ∃ B, w5.heap.size = B := ⟨_, rfl⟩
   have HB := Lib.hid hB
   have HPB := Lib.hid (show w.heap.size + 1 < B by rw [← hB]; exact World.block_lt_of_cell? _ _ z0)
   clear hOF hLF hB hBL
   go_wp2_with fail
   go_loopw [11, 12, 46] (fun c11 c12 iv wr => ∃ k : Nat, k ≤ l.length ∧ iv = .int .i64 k ∧ LkRow wr B c11 (OF k) ∧ LkRow wr B c12 (LF k) ∧ (∀ b ∈ foot c11, b ∉ foot c12) ∧ Chg [] w5 wr) (fun _ _ iv _ => l.length - (intOf iv).toNat)
   case atStart => exact ⟨0, Nat.zero_le _, rfl, by rw [HO0.out]; exact LkRow.nil _ _, by rw [HL0.out]; exact LkRow.nil _ _, by simp [foot, Value.ownBlock], Chg.refl _ _⟩
   case round =>
    obtain ⟨k, hk, rfl, hr1, hr2, hap, hc⟩ := hrel
    have HR1 := Lib.hid hr1
    have HR2 := Lib.hid hr2
    have HAP := Lib.hid hap
    have HC := Lib.hid hc
    obtain ⟨o1, c1, rfl⟩ := hr1.shape
    obtain ⟨o2, c2, rfl⟩ := hr2.shape
    obtain ⟨s0, s1, s2, z0⟩ := HXF.out _ (HC4.out.tr hc)
    clear hr1 hr2 hap hc
    by_cases hlt : k < l.length
    ·obtain ⟨b, off, rfl, q0, q1, q2⟩ := HCE.out k hlt
     have d0 := HC.out.cel (HW4.out.cel q0)
     have d1 := HC.out.cel (HW4.out.cel q1)
     have d2 := HC.out.cel (HW4.out.cel q2)
     have HI := Lib.hid (HSM.out k hlt)
     have HSN1 := Lib.hid (HSNO.out k)
     have HSN2 := Lib.hid (HSNL.out k)
     have hle1 := (HLE.out k).1
     have hle2 := (HLE.out k).2
     obtain ⟨L, hL⟩ : ∃ L, Plain.at0 l k = L := ⟨_, rfl⟩
     rw [hL] at d0 d1 d2 HI HSN1 HSN2
     obtain ⟨A, hA⟩ : ∃ A, OF k = A := ⟨_, rfl⟩
     obtain ⟨D, hD⟩ : ∃ D, LF k = D := ⟨_, rfl⟩
     rw [hA] at HR1 HSN1 hle1 HAP ⊢
     rw [hD] at HR2 HSN2 hle2 HAP ⊢
     have HBX := Lib.hid (heap_alloc_new wr (.cells #[.int .i64 L.a, .int .i64 L.b, .int .i64 L.id] 50))
     have HCB := Lib.hid ((Chg.refl [] wr).alloc (.cells #[.int .i64 L.a, .int .i64 L.b, .int .i64 L.id] 50))
     have s2' := HCB.out.cel s2
     have hal1 : A.length < 4294967290 := by omega
     have hal2 : D.length < 4294967290 := by omega
     have IK : I64 (k : Int) := I64.mk (by omega) (by omega)
     have HSZ := Lib.hid (show B ≤ wr.heap.size by rw [← HB.out]; exact HC.out.size)
     clear q0 q1 q2 hL hA hD hle1 hle2
     go_wp2_with fail
     refine (has_any _ side k _ HRS (by omega) (HSX.out.fresh (HC.out.tr HCB.out))).mono ?_
     rintro e w6 ⟨rfl, hc6⟩
     have B6 := hc6.hp HBX.out
     have e0 := (cell_of_row _ _ 0 _ _ _ B6).trans (show _ = some (Value.int .i64 L.a) from rfl)
     have e1 := (cell_of_row _ _ 1 _ _ _ B6).trans (show _ = some (Value.int .i64 L.b) from rfl)
     have e2 := (cell_of_row _ _ 2 _ _ _ B6).trans (show _ = some (Value.int .i64 L.id) from rfl)
     have HC6 := Lib.hid (HCB.out.tr hc6)
     have R1 := Lib.hid (HR1.out.fresh HC6.out)
     have R2 := Lib.hid (HR2.out.fresh HC6.out)
     have HSZ6 := Lib.hid (Nat.le_trans HSZ.out HC6.out.size)
     clear hc6 B6 s2'
     by_cases hm : (k : Int) ∈ side
     ·rw [if_pos hm] at HSN1 HSN2
      rw [decide_eq_true hm]
      rw [List.append_nil] at HSN2
      go_wp2_with (at_builtin; refine wl_lk rfl _ _ rfl (w0 := w6) (B := B) (v := .slice o1 A.length c1) (l := A) L rfl rfl R1.out HI.out HSZ6.out hal1 rfl ?_; intro v7 w7 r7 c7 f7; have R7 := Lib.hid r7; have C7 := Lib.hid c7; have F7 := Lib.hid f7; clear r7 c7 f7)
      go_roundw
      case rel => exact ⟨k + 1, by omega, by go_num, by rw [HSN1.out]; exact R7.out, by rw [HSN2.out]; exact R2.out.chg C7.out (fun b hb e => HAP.out b e hb), fun b hb e => (F7.out b hb).elim (fun q => HAP.out b q e) (fun q => by have := (R2.out.low b e).2; omega), (HC.out.tr HC6.out).trans C7.out (fun j hj => Or.inr (by have := (R1.out.low j hj).1; have := HB.out; omega))⟩
      case measure => simp [intOf]; omega
     rw [if_neg hm] at HSN1 HSN2
     rw [decide_eq_false hm]
     rw [List.append_nil] at HSN1
     go_wp2_with (at_builtin; refine wl_lk rfl _ _ rfl (w0 := w6) (B := B) (v := .slice o2 D.length c2) (l := D) L rfl rfl R2.out HI.out HSZ6.out hal2 rfl ?_; intro v7 w7 r7 c7 f7; have R7 := Lib.hid r7; have C7 := Lib.hid c7; have F7 := Lib.hid f7; clear r7 c7 f7)
     go_roundw
     case rel => exact ⟨k + 1, by omega, by go_num, by rw [HSN1.out]; exact R1.out.chg C7.out (fun b hb e => HAP.out b hb e), by rw [HSN2.out]; exact R7.out, fun b hb e => (F7.out b e).elim (fun q => HAP.out b hb q) (fun q => by have := (R1.out.low b hb).2; omega), (HC.out.tr HC6.out).trans C7.out (fun j hj => Or.inr (by have := (R2.out.low j hj).1; have := HB.out; omega))⟩
     case measure => simp [intOf]; omega
    have e : k = l.length := by omega
    subst e
    have HLA0 := HLE.out l.length
    obtain ⟨A, hA⟩ : ∃ A, OF l.length = A := ⟨_, rfl⟩
    obtain ⟨D, hD⟩ : ∃ D, LF l.length = D := ⟨_, rfl⟩
    rw [hA] at HR1 HCK HLA0 HAP ⊢
    rw [hD] at HR2 HCK HLA0 HAP ⊢
    have HLA : A.length + [(⟨u, x, id⟩ : Plain.Lk)].length < 4294967296 := by simp; omega
    have HLB : D.length + [(⟨u, x, id⟩ : Plain.Lk)].length < 4294967296 := by simp; omega
    have HBV := Lib.hid (heap_alloc_new wr (.cells #[.int .i64 u, .int .i64 x, .int .i64 id] 50))
    have HCV := Lib.hid ((Chg.refl [] wr).alloc (.cells #[.int .i64 u, .int .i64 x, .int .i64 id] 50))
    have HZV := Lib.hid (show wr.heap.size < (wr.alloc (.cells #[.int .i64 u, .int .i64 x, .int .i64 id] 50)).heap.size by simp)
    clear hk hlt hA hD HLA0
    go_wp2_with fail
    obtain ⟨vb, hvb0⟩ : ∃ vb, wr.heap.size = vb := ⟨_, rfl⟩
    rw [hvb0] at HBV HZV ⊢
    have hF1 := HR1.out.low
    have hF2 := HR2.out.low
    rw [hvb0] at hF1 hF2
    generalize hV1 : Value.slice o1 A.length c1 = c11 at *
    generalize hV2 : Value.slice o2 D.length c2 = c12 at *
    generalize wr.alloc (.cells #[.int .i64 u, .int .i64 x, .int .i64 id] 50) = wv at *
    obtain ⟨N0, hN0⟩ : ∃ N0, wv.heap.size = N0 := ⟨_, rfl⟩
    have hzv := HZV.out
    have hFA : ∀ b ∈ foot c11, b < N0 := fun b hb => by have := (hF1 b hb).2; omega
    have hFB : ∀ b ∈ foot c12, b < N0 := fun b hb => by have := (hF2 b hb).2; omega
    have hAB : ∀ b ∈ foot c11, b ∉ foot c12 := HAP.out
    have hBA : ∀ b ∈ foot c12, b ∉ foot c11 := fun b hb q => HAP.out b q hb
    have hvb : vb ∉ foot c11 ++ foot c12 := fun q => by
     rcases List.mem_append.1 q with t | t
     ·have := (hF1 vb t).2; omega
     have := (hF2 vb t).2; omega
    have HMA := Lib.hid (show Lv N0 wv c11 A (foot c11) from ⟨(HR1.out.fresh HCV.out).base (Nat.zero_le _), fun b hb => Or.inl hb⟩)
    have HMB := Lib.hid (show Lv N0 wv c12 D (foot c12) from ⟨(HR2.out.fresh HCV.out).base (Nat.zero_le _), fun b hb => Or.inl hb⟩)
    have HFC := Lib.hid (show ∀ w', Chg (foot c11 ++ foot c12) wv w' → Chg [] w w' from fun w' hc => (HW4.out.tr (HC.out.tr HCV.out)).trans hc fun j hj => Or.inr (by
     have h1 : B ≤ j := (List.mem_append.1 hj).elim (fun t => (hF1 j t).1) (fun t => (hF2 j t).1)
     have := HPB.out
     omega))
    have b0 := (cell_of_row _ _ 0 _ _ _ HBV.out).trans (show _ = some (Value.int .i64 u) from rfl)
    have b1 := (cell_of_row _ _ 1 _ _ _ HBV.out).trans (show _ = some (Value.int .i64 x) from rfl)
    have b2 := (cell_of_row _ _ 2 _ _ _ HBV.out).trans (show _ = some (Value.int .i64 id) from rfl)
    clear hF1 hF2 hV1 hV2 hzv s0 s1 s2 z0 hvb0
    have HN0 : wv.heap.size = N0 := hN0
    clear hN0
    --TREE
    refine wp_region_way (Chg (foot c11 ++ foot c12) wv) [0, 1, 4, 5, 8, 9, 10] (Way.line [0, 1, 4, 5] (.fork 2 6 (.fork 3 6 (.then_ 6 (.then_ 7 (Way.line [8, 9, 10] .done))) (.then_ 3 (.then_ 7 (Way.line [8, 9, 10] .done)))) (.then_ 2 (.then_ 3 (.then_ 7 (Way.line [8, 9, 10] .done)))))) (by kernel_rfl) (by kernel_rfl) ?_
    simp only [Way.line]
    have G0 : Chg (foot c11 ++ foot c12) wv wv.drew := (Chg.refl _ wv).drew
    repeat
     first
      | (refine along_off rfl (by rfl) (by rfl) (fun _ _ _ h => h) G0 ?_; simp only [Act.put, Z1, Z2, Z3, Z4, Z5, Z6])
      | (refine along_read (v := ?_) rfl (by rfl) (by rfl) (fun _ _ _ h => h) G0 (fun w' hS' => ?_) ?_; rotate_left; (focus (have rd0 := hS'.cell b0 hvb; have rd1 := hS'.cell b1 hvb; have rd2 := hS'.cell b2 hvb; clear hS'; go_simp; try with_reducible rfl)); simp only [Act.put, Z1, Z2, Z3, Z4, Z5, Z6])
      | (refine along_skip rfl (by rfl) (by rfl) G0 ?_; simp only [Act.put, Z1, Z2, Z3, Z4, Z5, Z6])
    have MA := HMA.out.fresh (show Chg [] wv wv.drew from (Chg.refl [] wv).drew)
    have MB := HMB.out.fresh (show Chg [] wv wv.drew from (Chg.refl [] wv).drew)
    refine along_fork (by rfl) (by rfl) ?_ ?_
    ·skip
     refine along_op rfl (by rfl) (by rfl) (fun K hK => ?_)
     simp only [List.getElem_toArray, List.getElem_cons_zero, List.getElem_cons_succ]
     refine op_litL _ rfl (L := ⟨u, x, id⟩) rfl IV (fun v2 w2 r2 c2 f2 => ?_)
     have G2 := G0.tr c2
     have MA := MA.fresh c2
     have MB := MB.fresh c2
     have M2 : Lv N0 w2 v2 [⟨u, x, id⟩] [] := ⟨r2, fun b hb => Or.inr (Nat.le_trans (by rw [← HN0]; exact G0.size) (f2 b hb))⟩
     refine hK.out _ _ (fun _ => G2) ?_
     clear hK K
     try simp only [Act.put, List.setIfInBounds_toArray, List.set_cons_zero, List.set_cons_succ]
     refine along_fork (by rfl) (by rfl) ?_ ?_
     ·skip
      refine along_op rfl (by rfl) (by rfl) (fun K hK => ?_)
      simp only [List.getElem_toArray, List.getElem_cons_zero, List.getElem_cons_succ]
      refine op_catL _ _ rfl (v := c11) (u := v2) rfl rfl MA.1 M2.1 HLA (fun v3 w3 r3 c3 f3 => ?_)
      have G3 := G2.trans c3 (fun j hj => Or.inl (by simp [hj]))
      have MB := MB.step c3 hFA hBA
      have N3 : Lv N0 w3 v3 _ _ := ⟨r3, fun b hb => (f3 b hb).imp (fun q => q) (fun q => Nat.le_trans (by rw [← HN0]; exact G2.size) q)⟩
      refine hK.out _ _ (fun _ => G3) ?_
      clear hK K
      try simp only [Act.put, List.setIfInBounds_toArray, List.set_cons_zero, List.set_cons_succ]
      refine along_op rfl (by rfl) (by rfl) (fun K hK => ?_)
      simp only [List.getElem_toArray, List.getElem_cons_zero, List.getElem_cons_succ]
      refine op_litL _ rfl (L := ⟨u, x, id⟩) rfl IV (fun v6 w6 r6 c6 f6 => ?_)
      have G6 := G3.tr c6
      have MB := MB.fresh c6
      have N3 := N3.fresh c6
      have M6 : Lv N0 w6 v6 [⟨u, x, id⟩] [] := ⟨r6, fun b hb => Or.inr (Nat.le_trans (by rw [← HN0]; exact G3.size) (f6 b hb))⟩
      refine hK.out _ _ (fun _ => G6) ?_
      clear hK K
      try simp only [Act.put, List.setIfInBounds_toArray, List.set_cons_zero, List.set_cons_succ]
      refine along_op rfl (by rfl) (by rfl) (fun K hK => ?_)
      simp only [List.getElem_toArray, List.getElem_cons_zero, List.getElem_cons_succ]
      refine op_catL _ _ rfl (v := c12) (u := v6) rfl rfl MB.1 M6.1 HLB (fun v7 w7 r7 c7 f7 => ?_)
      have G7 := G6.trans c7 (fun j hj => Or.inl (by simp [hj]))
      have N3 := N3.step c7 hFB hAB
      have N7 : Lv N0 w7 v7 _ _ := ⟨r7, fun b hb => (f7 b hb).imp (fun q => q) (fun q => Nat.le_trans (by rw [← HN0]; exact G6.size) q)⟩
      refine hK.out _ _ (fun _ => G7) ?_
      clear hK K
      try simp only [Act.put, List.setIfInBounds_toArray, List.set_cons_zero, List.set_cons_succ]
      repeat
       first
        | (refine along_off rfl (by rfl) (by rfl) (fun _ _ _ h => h) G7 ?_; simp only [Act.put, Z1, Z2, Z3, Z4, Z5, Z6])
        | (refine along_read (v := ?_) rfl (by rfl) (by rfl) (fun _ _ _ h => h) G7 (fun w' hS' => ?_) ?_; rotate_left; (focus (skip; clear hS'; go_simp; try with_reducible rfl)); simp only [Act.put, Z1, Z2, Z3, Z4, Z5, Z6])
        | (refine along_skip rfl (by rfl) (by rfl) G7 ?_; simp only [Act.put, Z1, Z2, Z3, Z4, Z5, Z6])
      refine along_done ?_
      go_wp2
      refine bodyPost_ret (v := .tuple #[v3, v7, .bool true]) (by simp [results, Tryz.results65, go_sem]) rfl ?_
      exact ⟨_, _, by rw [HCK.out]; rfl, fun a b hq => by rw [HCK.out] at hq; cases hq; exact ⟨N3.1, N7.1⟩, HFC.out _ G7⟩
     skip
     refine along_op rfl (by rfl) (by rfl) (fun K hK => ?_)
     simp only [List.getElem_toArray, List.getElem_cons_zero, List.getElem_cons_succ]
     refine op_litL _ rfl (L := ⟨u, x, id⟩) rfl IV (fun v6 w6 r6 c6 f6 => ?_)
     have G6 := G2.tr c6
     have MA := MA.fresh c6
     have MB := MB.fresh c6
     have M2 := M2.fresh c6
     have M6 : Lv N0 w6 v6 [⟨u, x, id⟩] [] := ⟨r6, fun b hb => Or.inr (Nat.le_trans (by rw [← HN0]; exact G2.size) (f6 b hb))⟩
     refine hK.out _ _ (fun _ => G6) ?_
     clear hK K
     try simp only [Act.put, List.setIfInBounds_toArray, List.set_cons_zero, List.set_cons_succ]
     refine along_op rfl (by rfl) (by rfl) (fun K hK => ?_)
     simp only [List.getElem_toArray, List.getElem_cons_zero, List.getElem_cons_succ]
     refine op_catL _ _ rfl (v := c11) (u := v2) rfl rfl MA.1 M2.1 HLA (fun v3 w3 r3 c3 f3 => ?_)
     have G3 := G6.trans c3 (fun j hj => Or.inl (by simp [hj]))
     have MB := MB.step c3 hFA hBA
     have M6 := M6.step c3 hFA (by simp)
     have N3 : Lv N0 w3 v3 _ _ := ⟨r3, fun b hb => (f3 b hb).imp (fun q => q) (fun q => Nat.le_trans (by rw [← HN0]; exact G6.size) q)⟩
     refine hK.out _ _ (fun _ => G3) ?_
     clear hK K
     try simp only [Act.put, List.setIfInBounds_toArray, List.set_cons_zero, List.set_cons_succ]
     refine along_op rfl (by rfl) (by rfl) (fun K hK => ?_)
     simp only [List.getElem_toArray, List.getElem_cons_zero, List.getElem_cons_succ]
     refine op_catL _ _ rfl (v := c12) (u := v6) rfl rfl MB.1 M6.1 HLB (fun v7 w7 r7 c7 f7 => ?_)
     have G7 := G3.trans c7 (fun j hj => Or.inl (by simp [hj]))
     have N3 := N3.step c7 hFB hAB
     have N7 : Lv N0 w7 v7 _ _ := ⟨r7, fun b hb => (f7 b hb).imp (fun q => q) (fun q => Nat.le_trans (by rw [← HN0]; exact G3.size) q)⟩
     refine hK.out _ _ (fun _ => G7) ?_
     clear hK K
     try simp only [Act.put, List.setIfInBounds_toArray, List.set_cons_zero, List.set_cons_succ]
     repeat
      first
       | (refine along_off rfl (by rfl) (by rfl) (fun _ _ _ h => h) G7 ?_; simp only [Act.put, Z1, Z2, Z3, Z4, Z5, Z6])
       | (refine along_read (v := ?_) rfl (by rfl) (by rfl) (fun _ _ _ h => h) G7 (fun w' hS' => ?_) ?_; rotate_left; (focus (skip; clear hS'; go_simp; try with_reducible rfl)); simp only [Act.put, Z1, Z2, Z3, Z4, Z5, Z6])
       | (refine along_skip rfl (by rfl) (by rfl) G7 ?_; simp only [Act.put, Z1, Z2, Z3, Z4, Z5, Z6])
     refine along_done ?_
     go_wp2
     refine bodyPost_ret (v := .tuple #[v3, v7, .bool true]) (by simp [results, Tryz.results65, go_sem]) rfl ?_
     exact ⟨_, _, by rw [HCK.out]; rfl, fun a b hq => by rw [HCK.out] at hq; cases hq; exact ⟨N3.1, N7.1⟩, HFC.out _ G7⟩
    ·skip
     refine along_op rfl (by rfl) (by rfl) (fun K hK => ?_)
     simp only [List.getElem_toArray, List.getElem_cons_zero, List.getElem_cons_succ]
     refine op_litL _ rfl (L := ⟨u, x, id⟩) rfl IV (fun v6 w6 r6 c6 f6 => ?_)
     have G6 := G0.tr c6
     have MA := MA.fresh c6
     have MB := MB.fresh c6
     have M6 : Lv N0 w6 v6 [⟨u, x, id⟩] [] := ⟨r6, fun b hb => Or.inr (Nat.le_trans (by rw [← HN0]; exact G0.size) (f6 b hb))⟩
     refine hK.out _ _ (fun _ => G6) ?_
     clear hK K
     try simp only [Act.put, List.setIfInBounds_toArray, List.set_cons_zero, List.set_cons_succ]
     refine along_op rfl (by rfl) (by rfl) (fun K hK => ?_)
     simp only [List.getElem_toArray, List.getElem_cons_zero, List.getElem_cons_succ]
     refine op_litL _ rfl (L := ⟨u, x, id⟩) rfl IV (fun v2 w2 r2 c2 f2 => ?_)
     have G2 := G6.tr c2
     have MA := MA.fresh c2
     have MB := MB.fresh c2
     have M6 := M6.fresh c2
     have M2 : Lv N0 w2 v2 [⟨u, x, id⟩] [] := ⟨r2, fun b hb => Or.inr (Nat.le_trans (by rw [← HN0]; exact G6.size) (f2 b hb))⟩
     refine hK.out _ _ (fun _ => G2) ?_
     clear hK K
     try simp only [Act.put, List.setIfInBounds_toArray, List.set_cons_zero, List.set_cons_succ]
     refine along_op rfl (by rfl) (by rfl) (fun K hK => ?_)
     simp only [List.getElem_toArray, List.getElem_cons_zero, List.getElem_cons_succ]
     refine op_catL _ _ rfl (v := c11) (u := v2) rfl rfl MA.1 M2.1 HLA (fun v3 w3 r3 c3 f3 => ?_)
     have G3 := G2.trans c3 (fun j hj => Or.inl (by simp [hj]))
     have MB := MB.step c3 hFA hBA
     have M6 := M6.step c3 hFA (by simp)
     have N3 : Lv N0 w3 v3 _ _ := ⟨r3, fun b hb => (f3 b hb).imp (fun q => q) (fun q => Nat.le_trans (by rw [← HN0]; exact G2.size) q)⟩
     refine hK.out _ _ (fun _ => G3) ?_
     clear hK K
     try simp only [Act.put, List.setIfInBounds_toArray, List.set_cons_zero, List.set_cons_succ]
     refine along_op rfl (by rfl) (by rfl) (fun K hK => ?_)
     simp only [List.getElem_toArray, List.getElem_cons_zero, List.getElem_cons_succ]
     refine op_catL _ _ rfl (v := c12) (u := v6) rfl rfl MB.1 M6.1 HLB (fun v7 w7 r7 c7 f7 => ?_)
     have G7 := G3.trans c7 (fun j hj => Or.inl (by simp [hj]))
     have N3 := N3.step c7 hFB hAB
     have N7 : Lv N0 w7 v7 _ _ := ⟨r7, fun b hb => (f7 b hb).imp (fun q => q) (fun q => Nat.le_trans (by rw [← HN0]; exact G3.size) q)⟩
     refine hK.out _ _ (fun _ => G7) ?_
     clear hK K
     try simp only [Act.put, List.setIfInBounds_toArray, List.set_cons_zero, List.set_cons_succ]
     repeat
      first
       | (refine along_off rfl (by rfl) (by rfl) (fun _ _ _ h => h) G7 ?_; simp only [Act.put, Z1, Z2, Z3, Z4, Z5, Z6])
       | (refine along_read (v := ?_) rfl (by rfl) (by rfl) (fun _ _ _ h => h) G7 (fun w' hS' => ?_) ?_; rotate_left; (focus (skip; clear hS'; go_simp; try with_reducible rfl)); simp only [Act.put, Z1, Z2, Z3, Z4, Z5, Z6])
       | (refine along_skip rfl (by rfl) (by rfl) G7 ?_; simp only [Act.put, Z1, Z2, Z3, Z4, Z5, Z6])
     refine along_done ?_
     go_wp2
     refine bodyPost_ret (v := .tuple #[v3, v7, .bool true]) (by simp [results, Tryz.results65, go_sem]) rfl ?_
     exact ⟨_, _, by rw [HCK.out]; rfl, fun a b hq => by rw [HCK.out] at hq; cases hq; exact ⟨N3.1, N7.1⟩, HFC.out _ G7⟩
    --ENDTREE
  rw [if_neg (fun q => hgo q.2)] at HCK
  have hcase : wl = false ∨ (wl = true ∧ 0 ≤ id) ∨ (wl = true ∧ ¬ 0 ≤ id ∧ taken = true) := by
   cases wl <;> cases taken <;> simp at hgo ⊢ <;> omega
  clear hgo
  rcases hcase with rfl | ⟨rfl, h1⟩ | ⟨rfl, h1, rfl⟩
  all_goals
   go_wp2
   refine bodyPost_ret (v := .tuple #[.slice none 0 0, .slice none 0 0, .bool false]) (by simp [results, Tryz.results65, go_sem]) rfl ?_
   exact ⟨_, _, by rw [HCK.out]; rfl, fun a b hq => by rw [HCK.out] at hq; (cases hq), HW4.out⟩
 rw [Bool.not_eq_true] at hf
 subst hf
 rw [if_neg (by simp)] at HCK
 go_wp2
 refine bodyPost_ret (v := .tuple #[.slice none 0 0, .slice none 0 0, .bool false]) (by simp [results, Tryz.results65, go_sem]) rfl ?_
 exact ⟨_, _, by rw [HCK.out]; rfl, fun a b hq => by rw [HCK.out] at hq; (cases hq), HW4.out⟩
end Go.Proofs.YtpcgklagmcnhaaaGreat
namespace Go.Proofs.YtpcgklagmcnhaaaGreat
open Go.RowKit Go.Maps
set_option maxRecDepth 100000 in
set_option maxHeartbeats 8000000 in
theorem pkind_any (v : Value) (l : List Plain.Lk) (w : World) (hl : l.length ≤ 40000) (h : LksAt w v l) :
  Calls Tryz.prog 15 #[v] w fun e w' => e = .returned (.tuple #[.int .i64 (Plain.kindK l).1, .bool (Plain.kindK l).2]) ∧ Chg [] w w' := by
 have H := Lib.hid h
 obtain ⟨lo, cap, rfl, -⟩ := h
 have HK := Lib.hid (show Plain.kindK l = if Plain.rightK l = false then (0, false) else if l.length = 1 then (0, true) else if Plain.ringsK l = true then (1, true) else if (Plain.vertsK l).length = 2 then (2, true) else if (Plain.firstK l).isSome then (4, true) else (3, true) from rfl)
 go_enter Tryz.func15, Tryz.ntmps15
 go_wp2_with fail
 refine (pright_any _ l _ (by omega) H.out).mono ?_
 rintro e w2 ⟨rfl, hc2⟩
 have HC2 := Lib.hid hc2
 clear hc2
 obtain ⟨rk, hrk⟩ : ∃ f, Plain.rightK l = f := ⟨_, rfl⟩
 rw [hrk] at HK ⊢
 clear hrk
 cases rk
 ·rw [if_pos rfl] at HK
  go_wp2
  refine bodyPost_ret (v := .tuple #[.int .i64 0, .bool false]) (by simp [results, Tryz.results15, go_sem]) rfl ?_
  exact ⟨by rw [HK.out], HC2.out⟩
 rw [if_neg (by simp)] at HK
 by_cases h1 : l.length = 1
 ·rw [if_pos h1] at HK
  have hb : ((l.length : Int) == 1) = true := by rw [h1]; rfl
  go_wp2
  refine bodyPost_ret (v := .tuple #[.int .i64 0, .bool true]) (by simp [results, Tryz.results15, go_sem]) rfl ?_
  exact ⟨by rw [HK.out], HC2.out⟩
 rw [if_neg h1] at HK
 have hb : ((l.length : Int) == 1) = false := beq_eq_false_iff_ne.2 (by omega)
 go_wp2_with fail
 refine (rings_any _ l _ (by omega) (H.out.fresh HC2.out)).mono ?_
 rintro e w3 ⟨rfl, hc3⟩
 have HC3 := Lib.hid (HC2.out.tr hc3)
 clear hc3
 obtain ⟨rk, hrk⟩ : ∃ f, Plain.ringsK l = f := ⟨_, rfl⟩
 rw [hrk] at HK ⊢
 clear hrk
 cases rk
 ·rw [if_neg (by simp)] at HK
  go_wp2_with fail
  refine (vertices_any _ l _ (by omega) (H.out.fresh HC3.out)).mono ?_
  rintro e w4 ⟨ov, rfl, hr4, hc4⟩
  obtain ⟨ao, c, rfl⟩ := hr4.shape
  have HVL := Lib.hid hr4.2.2
  have HC4 := Lib.hid (HC3.out.tr hc4)
  clear hc4 hr4
  obtain ⟨V, hV⟩ : ∃ f, (Plain.vertsK l).length = f := ⟨_, rfl⟩
  rw [hV] at HK HVL ⊢
  have hvl := HVL.out
  clear hV
  by_cases h2 : V = 2
  ·rw [if_pos h2] at HK
   have hb2 : ((V : Int) == 2) = true := by rw [h2]; rfl
   go_wp2
   refine bodyPost_ret (v := .tuple #[.int .i64 2, .bool true]) (by simp [results, Tryz.results15, go_sem]) rfl ?_
   exact ⟨by rw [HK.out], HC4.out⟩
  rw [if_neg h2] at HK
  have hb2 : ((V : Int) == 2) = false := beq_eq_false_iff_ne.2 (by omega)
  go_wp2_with fail
  refine (pfirst_any _ l _ (by omega) (H.out.fresh HC4.out)).mono ?_
  rintro e w5 ⟨u, x, so, sn, sc, rfl, -, hc5⟩
  have HC5 := Lib.hid (HC4.out.tr (hc5.tr ((Chg.refl [] w5).alloc (.cells #[.int .i64 u, .int .i64 x, .slice so sn sc] 92))))
  clear hc5
  obtain ⟨fk, hfk⟩ : ∃ f, (Plain.firstK l).isSome = f := ⟨_, rfl⟩
  rw [hfk] at HK ⊢
  clear hfk
  cases fk
  ·rw [if_neg (by simp)] at HK
   go_wp2
   refine bodyPost_ret (v := .tuple #[.int .i64 3, .bool true]) (by simp [results, Tryz.results15, go_sem]) rfl ?_
   exact ⟨by rw [HK.out], HC5.out⟩
  rw [if_pos rfl] at HK
  go_wp2
  refine bodyPost_ret (v := .tuple #[.int .i64 4, .bool true]) (by simp [results, Tryz.results15, go_sem]) rfl ?_
  exact ⟨by rw [HK.out], HC5.out⟩
 rw [if_pos rfl] at HK
 go_wp2
 refine bodyPost_ret (v := .tuple #[.int .i64 1, .bool true]) (by simp [results, Tryz.results15, go_sem]) rfl ?_
 exact ⟨by rw [HK.out], HC3.out⟩
theorem Plain.cutM_len : ∀ t : List (List Plain.Lk), t.length ≤ Plain.cutM t
 | [] => Nat.zero_le _
 | l :: t => by
  have := Plain.cutM_len t
  rw [Plain.cutM_cons, List.length_cons]
  omega
theorem Plain.kindK_i64 (l : List Plain.Lk) : I64 (Plain.kindK l).1 := by
 unfold Plain.kindK
 split
 ·exact I64.mk (by decide) (by decide)
 split
 ·exact I64.mk (by decide) (by decide)
 split
 ·exact I64.mk (by decide) (by decide)
 split
 ·exact I64.mk (by decide) (by decide)
 split <;> exact I64.mk (by decide) (by decide)
theorem Plain.first_side {l : List Plain.Lk} {u x : Int} {c : List Int} (h : Plain.firstK l = some (u, x, c)) {n : Nat} (hl : l.length ≤ n) : c.length ≤ n := by
 unfold Plain.firstK at h
 split at h
 ·obtain ⟨y, -, hy⟩ := List.exists_of_findSome?_eq_some h
  obtain ⟨z, -, hz⟩ := List.exists_of_findSome?_eq_some hy
  unfold Plain.firstC at hz
  cases hf : (Plain.classesK l y z).find? fun c => Plain.willK l.length c.length with
  | none => rw [hf] at hz; cases hz
  | some d =>
   rw [hf] at hz
   cases hz
   exact Nat.le_trans (Plain.cls_rise (List.mem_of_find?_eq_some hf)).2 hl
 cases h
theorem ndSnoc {w w8 w9 : World} {B g k n : Nat} {v : Value} {vs : List Value} {ns : List Plain.Nd} {kd : Int} {u : Value} {one : List Plain.Lk} (h : NdRow w B v vs ns) (hc : Chg [] w w8) (hc9 : Chg v.ownBlock.toList w8 w9) (hkl : ∀ b ∈ v.ownBlock.toList, ∀ cs t r, w8.heap[b]? = some (.cells cs t r) → t ≠ 50)
  (hr : w9.ownsRow B 26 2 (.slice (some ⟨g, 0, none⟩) n k) (ns.length + 1) (ndCells ns vs ++ [.int .i64 kd, u])) (hk : I64 kd) (ho : LkRow w8 0 u one) : NdRow w9 B (.slice (some ⟨g, 0, none⟩) n k) (vs ++ [u]) (ns ++ [⟨kd, one⟩]) := by
 refine ⟨?_, by simp [h.len], fun i hi => ?_⟩
 ·rw [List.length_append, ndCells_snoc _ _ h.len]
  exact hr
 have hl := h.len
 rw [List.length_append, List.length_singleton] at hi
 by_cases e : i < ns.length
 ·have e1 : Plain.nd0 (ns ++ [⟨kd, one⟩]) i = Plain.nd0 ns i := by unfold Plain.nd0; rw [List.getD_eq_getElem?_getD, List.getElem?_append_left e]; simp
  have e2 : (vs ++ [u]).getD i undef = vs.getD i undef := by rw [List.getD_eq_getElem?_getD, List.getElem?_append_left (by omega)]; simp
  rw [e1, e2]
  exact ⟨(h.row i e).1, ((h.row i e).2.fresh hc).off hc9 hkl⟩
 have e0 : i = ns.length := by omega
 subst e0
 have e1 : Plain.nd0 (ns ++ [⟨kd, one⟩]) ns.length = ⟨kd, one⟩ := by unfold Plain.nd0; simp [List.getD]
 have e2 : (vs ++ [u]).getD ns.length undef = u := by rw [← hl]; simp [List.getD]
 rw [e1, e2]
 exact ⟨hk, ho.off hc9 hkl⟩
theorem llKind {w : World} {B : Nat} {v : Value} {vs : List Value} {ls : List (List Plain.Lk)} (h : LLRow w B v vs ls) : ∀ b ∈ v.ownBlock.toList, ∀ cs t r, w.heap[b]? = some (.cells cs t r) → t ≠ 50 := fun b hb cs t r hh => by
 obtain ⟨cs2, h2⟩ := owns_kind h.out (by simpa using hb)
 rw [h2] at hh
 simp at hh
 rw [← hh.2.1]; decide
theorem llTwo {w w9 : World} {B n : Nat} {v v9 x y : Value} {vs : List Value} {ls : List (List Plain.Lk)} {lx ly : List Plain.Lk} (h : LLRow w B v vs ls) (hn : n = vs.length + 2) (hc : Chg v.ownBlock.toList w w9) (hr : w9.ownsRow B 24 1 v9 n (vs ++ [x, y])) (hx : LkRow w 0 x lx) (hy : LkRow w 0 y ly) : LLRow w9 B v9 (vs ++ [x, y]) (ls ++ [lx, ly]) := by
 have hk := llKind h
 have hl := h.len
 subst hn
 refine ⟨by rw [List.length_append]; exact hr, by simp [hl], fun i hi => ?_⟩
 rw [List.length_append] at hi
 by_cases e : i < ls.length
 ·have e1 : (vs ++ [x, y]).getD i undef = vs.getD i undef := by rw [List.getD_eq_getElem?_getD, List.getElem?_append_left (by omega)]; simp
  have e2 : (ls ++ [lx, ly]).getD i [] = ls.getD i [] := by rw [List.getD_eq_getElem?_getD, List.getElem?_append_left (by omega)]; simp
  rw [e1, e2]
  exact (h.row i e).off hc hk
 rcases (show i = ls.length ∨ i = ls.length + 1 by simp at hi; omega) with rfl | rfl
 ·have e1 : (vs ++ [x, y]).getD ls.length undef = x := by rw [← hl]; simp [List.getD]
  have e2 : (ls ++ [lx, ly]).getD ls.length [] = lx := by simp [List.getD]
  rw [e1, e2]
  exact hx.off hc hk
 have e1 : (vs ++ [x, y]).getD (ls.length + 1) undef = y := by rw [← hl]; simp [List.getD]
 have e2 : (ls ++ [lx, ly]).getD (ls.length + 1) [] = ly := by simp [List.getD]
 rw [e1, e2]
 exact hy.off hc hk
theorem oneNd (k : Int) (a : Option Addr) (n c : Nat) : ∀ u ∈ (#[Value.int .i64 k, .slice a n c]).toList, u.oneCell' = true := by intro u hu; simp at hu; rcases hu with rfl | rfl <;> rfl
theorem LLRow.one {w : World} {v : Value} {B0 : Nat} {l : List Plain.Lk} (h : LkRow w B0 v l) : LLRow (w.alloc (.cells #[v] 24)) w.heap.size (.slice (some ⟨w.heap.size, 0, none⟩) 1 1) [v] [l] :=
 ⟨World.ownsRow_lit w #[v] 1 (Nat.le_refl _) (by decide) rfl, rfl, fun i hi => by
  have e : i = 0 := by simp at hi; omega
  subst e
  exact (h.base (Nat.zero_le _)).fresh ((Chg.refl [] w).alloc _)⟩
set_option maxRecDepth 100000 in
set_option maxHeartbeats 8000000 in
theorem tcut_any (v : Value) (l : List Plain.Lk) (B0 : Nat) (w : World) (hl : l.length ≤ 1024) (h : LkRow w B0 v l) :
  Calls Tryz.prog 36 #[v] w fun e w' => ∃ nv vs, e = .returned (.tuple #[nv, .int .i64 (Plain.cutT l).2]) ∧ NdRow w' w.heap.size nv vs (Plain.cutT l).1 ∧ Chg [] w w' := by
 have HL1 := Lib.hid (LLRow.one h)
 have HC1 := Lib.hid ((Chg.refl [] w).alloc (.cells #[v] 24))
 obtain ⟨lo, lc, rfl⟩ := h.shape
 obtain ⟨B, hB⟩ : ∃ B, w.heap.size = B := ⟨_, rfl⟩
 have HB := Lib.hid hB
 rw [hB] at HL1 ⊢
 have HT := Lib.hid (show Plain.cutT l = Plain.cutF (2 * l.length + 2) [l] [] 0 from rfl)
 have HM := Lib.hid (show Plain.cutM [l] ≤ 2 * l.length + 1 by rw [Plain.cutM_cons]; show max 1 (2 * l.length - 5) + 0 ≤ _; omega)
 clear h hB
 go_enter Tryz.func36, Tryz.ntmps36
 go_wp2_with fail
 go_loopg [4, 5, 6] (2 * l.length + 2) (fun fuel c4 c5 c6 wr => fuel ≤ 2 * l.length + 2 ∧ ∃ (todo : List (List Plain.Lk)) (done : List Plain.Nd) (last : Int) (vt vd : List Value), c5 = .int .i64 last ∧ LLRow wr B c6 vt todo.reverse ∧ NdRow wr B c4 vd done ∧ Hid (Plain.cutF fuel todo done last = Plain.cutT l) ∧ Plain.cutM todo < fuel ∧ -((2 * l.length + 2 : Nat) : Int) ≤ last - fuel ∧ last ≤ 0 ∧ (∀ t ∈ todo, t.length ≤ l.length) ∧ done.length + fuel ≤ 2 * l.length + 2 ∧ Chg [] w wr)
 case atStart => exact ⟨Nat.le_refl _, [l], [], 0, [.slice lo l.length lc], [], rfl, by rw [HB.out]; exact HL1.out, NdRow.nil _ _, Lib.hid HT.out.symm, by have := HM.out; omega, by omega, by omega, fun t ht => by rw [List.mem_singleton.1 ht]; exact Nat.le_refl _, by simp, HC1.out⟩
 case round =>
  obtain ⟨hf, todo, done, last, vt, vd, rfl, hll, hnd, HE, hm, hlast, hl0, hlen, hdl, hc⟩ := hrel
  obtain ⟨t6, c6, rfl⟩ := owns_shape hll.out
  obtain ⟨do4, dc4, rfl⟩ := hnd.shape
  have HLL := Lib.hid hll
  have HND := Lib.hid hnd
  have HC := Lib.hid hc
  have HBZ := Lib.hid (show B ≤ wr.heap.size by rw [← HB.out]; exact hc.size)
  have hvl := hll.len
  rw [List.length_reverse] at hvl
  have hdn : done.length < 68719476736 := by omega
  clear hll hnd hc
  cases todo with
  | nil =>
   have hv0 : vt.length = 0 := by simpa using hvl
   rw [hv0]
   have HFE := Lib.hid (show Plain.cutT l = (done, last) by
    rw [← HE.out]
    obtain ⟨m, rfl⟩ : ∃ m, gk = m + 1 := ⟨gk - 1, by have := hm; omega⟩
    rfl)
   clear hvl hv0
   go_wp2
   refine bodyPost_ret (v := .tuple #[.slice do4 done.length dc4, .int .i64 last]) (by simp [results, Tryz.results36, go_sem]) rfl ?_
   exact ⟨_, vd, by rw [HFE.out], by rw [HFE.out]; exact HND.out, HC.out⟩
  | cons one rest =>
   have hv1 : vt.length = rest.length + 1 := by simpa using hvl
   have hrc : rest.length < ((one :: rest).reverse).length := by simp
   obtain ⟨g6, uo, uc, rfl, ev, ci⟩ := HLL.out.cell hrc
   have HONE := Lib.hid (HLL.out.row rest.length hrc)
   have er : ((one :: rest).reverse).getD rest.length [] = one := by
    rw [List.reverse_cons, List.getD_eq_getElem?_getD, List.getElem?_append_right (by simp)]
    simp
   rw [er] at ev ci HONE
   rw [ev] at HONE
   have hcap : vt.length ≤ c6 := by
    rcases HLL.out.out.2 with ⟨q, -⟩ | ⟨g', cap', cur, q, -, -, h3, -, -⟩
    ·cases q
    cases q; exact h3
   have HREST := Lib.hid (show LLRow wr B (.slice (some ⟨g6, 0, none⟩) rest.length c6) (vt.take rest.length) rest.reverse from ⟨by
    have h1 := owns_short HLL.out.out (m := rest.length) (by omega)
    rw [Nat.mul_one] at h1
    have h2 : (vt.take rest.length).length = rest.length := by rw [List.length_take]; omega
    rw [h2]
    exact h1, by rw [List.length_take, List.length_reverse]; omega, fun i hi => by
    rw [List.length_reverse] at hi
    have h1 := HLL.out.row i (by simp; omega)
    have e1 : ((one :: rest).reverse).getD i [] = rest.reverse.getD i [] := by
     rw [List.reverse_cons, List.getD_eq_getElem?_getD, List.getElem?_append_left (by simpa using hi)]
     simp
    have e2 : (vt.take rest.length).getD i undef = vt.getD i undef := by
     rw [List.getD_eq_getElem?_getD, List.getElem?_take, if_pos hi]
     simp
    rw [e1] at h1
    rw [e2]
    exact h1⟩)
   have hol : one.length ≤ 1024 := by have := hlen one (by simp); omega
   have hol2 : one.length ≤ l.length := hlen one (by simp)
   have hmr : Plain.cutM rest < Plain.cutM (one :: rest) := Plain.cutM_pos _ _
   have hrl : rest.length ≤ 3000 := by have := Plain.cutM_len rest; omega
   rw [hv1] at hcap ⊢
   clear hvl ev er hrc
   have hnn : ((rest.length + 1 : Nat) : Int) - 1 = (rest.length : Int) := by omega
   have hvtl : (vt.take rest.length).length = rest.length := by rw [List.length_take]; omega
   go_wp2_with fail
   refine (pfirst_any _ one _ (by omega) HONE.out.lks).mono ?_
   rintro e w2 ⟨u, x, so, sn, sc, rfl, hf1, hc2⟩
   have HF1 := Lib.hid hf1
   have HC2 := Lib.hid hc2
   have HBX := Lib.hid (heap_alloc_new w2 (.cells #[.int .i64 u, .int .i64 x, .slice so sn sc] 92))
   have HCX := Lib.hid (HC2.out.tr ((Chg.refl [] w2).alloc (.cells #[.int .i64 u, .int .i64 x, .slice so sn sc] 92)))
   clear hf1 hc2
   by_cases hfk : (Plain.firstK one).isSome = true
   ·obtain ⟨s, hs⟩ := Option.isSome_iff_exists.1 hfk
    obtain ⟨e1, e2, iu, ix, hside⟩ := HF1.out s hs
    obtain ⟨u', x', side⟩ := s
    simp only at e1 e2 hside
    subst e1 e2
    have hsn : sn = side.length := by
     obtain ⟨_, _, e, -⟩ := hside
     simp only [Value.slice.injEq] at e
     exact e.2.1
    subst hsn
    have hsl : side.length ≤ 40000 := Plain.first_side hs (by omega)
    have HSI := Lib.hid (hside.fresh ((Chg.refl [] w2).alloc (.cells #[.int .i64 u, .int .i64 x, .slice so side.length sc] 92)))
    have HFS := Lib.hid hs
    have hlast1 : -9223372036854775808 ≤ last - 1 := by omega
    have II : I64 (last - 1) := I64.mk (by omega) (by omega)
    rw [hfk]
    clear hside hs hfk
    go_wp2_with fail
    refine (pcut_any _ _ one u x (last - 1) side _ (by omega) hsl iu ix II (HONE.out.lks.fresh HCX.out) HSI.out).mono ?_
    rintro e w3 ⟨r1, r2, rfl, hab, hc3⟩
    have HAB := Lib.hid hab
    have HC3 := Lib.hid (HCX.out.tr hc3)
    have HCN := Lib.hid (show Plain.cutN one last = Plain.cutK one u x side (last - 1) by unfold Plain.cutN; rw [HFS.out]; rfl)
    clear hab hc3
    cases hck : Plain.cutK one u x side (last - 1) with
    | none =>
     rw [hck] at HCN
     have HDF := Lib.hid (Plain.cutF_done (f := gk - 1) (l := one) (t := rest) (done := done) (last := last) HCN.out)
     rw [show gk - 1 + 1 = gk by omega, HE.out] at HDF
     go_wp2_with fail
     refine (pkind_any _ one _ (by omega) (HONE.out.lks.fresh HC3.out)).mono ?_
     rintro e w8 ⟨rfl, hc8⟩
     have HC8 := Lib.hid (HC3.out.tr hc8)
     clear hc8
     obtain ⟨kd, hkd⟩ : ∃ kd, (Plain.kindK one).1 = kd := ⟨_, rfl⟩
     have HKD := Lib.hid (show I64 kd from hkd ▸ Plain.kindK_i64 one)
     rw [hkd] at HDF ⊢
     have HO8 := Lib.hid (HND.out.fresh HC8.out)
     have HSZ8 := Lib.hid (show B ≤ w8.heap.size from Nat.le_trans HBZ.out HC8.out.size)
     clear hkd
     go_wp2_with (at_builtin; refine wp_app elemNd rfl _ _ rfl (v := .slice do4 done.length dc4) (B := B) (cs := #[.int .i64 kd, .slice uo one.length uc]) rfl rfl rfl HO8.out.out HSZ8.out rfl (oneNd kd uo one.length uc) hdn ?_; intro g9 k9 w9 r9 c9 l9; have R9 := Lib.hid r9; have C9 := Lib.hid c9; clear r9 c9 l9)
     have hkl : ∀ b ∈ (Value.slice do4 done.length dc4).ownBlock.toList, ∀ cs t r, w8.heap[b]? = some (.cells cs t r) → t ≠ 50 := fun b hb cs t r hh => by
      obtain ⟨cs2, h2⟩ := owns_kind HO8.out.out (by simpa using hb)
      rw [h2] at hh
      simp at hh
      rw [← hh.2.1]; decide
     have HR9 := Lib.hid (show LLRow w9 B _ _ rest.reverse from (HREST.out.fresh HC8.out).chg C9.out (fun b hb q => by
      obtain ⟨cs2, h2⟩ := owns_kind HO8.out.out (by simpa using q)
      obtain ⟨cs3, h3⟩ := owns_kind (HREST.out.fresh HC8.out).out hb
      rw [h2] at h3
      simp at h3) hkl)
     have HN9 := Lib.hid (ndSnoc HND.out HC8.out C9.out hkl R9.out HKD.out (HONE.out.fresh HC8.out))
     have HC9 := Lib.hid (show Chg [] w w9 from (HC.out.tr HC8.out).trans C9.out (fun j hj => Or.inr (by
      have := (HO8.out.out.lt j (by simpa using hj)).1
      have := HB.out
      omega)))
     go_roundg (gk - 1)
     case measure => omega
     case rel => exact ⟨by omega, rest, done ++ [⟨kd, one⟩], last, vt.take rest.length, vd ++ [.slice uo one.length uc], rfl, HR9.out, HN9.out, Lib.hid HDF.out.symm, by omega, by omega, hl0, fun t ht => hlen t (by simp [ht]), by simp; omega, HC9.out⟩
    | some ab =>
     obtain ⟨a, b⟩ := ab
     rw [hck] at HCN
     obtain ⟨hra, hrb⟩ := HAB.out a b hck
     have HDF := Lib.hid (Plain.cutF_cut (f := gk - 1) (t := rest) (done := done) HCN.out)
     rw [show gk - 1 + 1 = gk by omega, HE.out] at HDF
     obtain ⟨hm1, hm2, hm3, -, -⟩ := Plain.cutM_cut (t := rest) hck
     obtain ⟨ao1, ac1, rfl⟩ := hra.shape
     obtain ⟨ao2, ac2, rfl⟩ := hrb.shape
     have HRA := Lib.hid hra
     have HRB := Lib.hid hrb
     have HO3 := Lib.hid (HREST.out.fresh HC3.out)
     have HLIT := Lib.hid (show (w3.alloc (.cells #[.slice ao2 b.length ac2, .slice ao1 a.length ac1] 24)).ownsRow w3.heap.size 24 1 (.slice (some ⟨w3.heap.size, 0, none⟩) 2 2) 2 [.slice ao2 b.length ac2, .slice ao1 a.length ac1] from World.ownsRow_lit w3 #[.slice ao2 b.length ac2, .slice ao1 a.length ac1] 2 (Nat.le_refl _) (by decide) rfl)
     have HCL := Lib.hid ((Chg.refl [] w3).alloc (.cells #[.slice ao2 b.length ac2, .slice ao1 a.length ac1] 24))
     have HO4 := Lib.hid (HO3.out.fresh HCL.out)
     have HSZ4 := Lib.hid (show B ≤ (w3.alloc (.cells #[.slice ao2 b.length ac2, .slice ao1 a.length ac1] 24)).heap.size from Nat.le_trans HBZ.out (Nat.le_trans HC3.out.size HCL.out.size))
     have hone2 : ∀ y ∈ [Value.slice ao2 b.length ac2, .slice ao1 a.length ac1], y.oneCell' = true := by intro y hy; simp at hy; rcases hy with rfl | rfl <;> rfl
     have hsum : rest.length + 2 < 68719476736 := by omega
     have HOW := Lib.hid (show (w3.alloc (.cells #[.slice ao2 b.length ac2, .slice ao1 a.length ac1] 24)).ownsRow B 24 1 (.slice (some ⟨g6, 0, none⟩) rest.length c6) rest.length (vt.take rest.length) by have := HO4.out.out; rwa [hvtl] at this)
     clear hra hrb hck
     go_wp2_with (at_builtin; refine wl_spread elemLL rfl _ _ rfl (v := .slice (some ⟨g6, 0, none⟩) rest.length c6) (u := .slice (some ⟨w3.heap.size, 0, none⟩) 2 2) rfl rfl HOW.out HLIT.out HSZ4.out hone2 hsum ?_; intro v9 w9 r9 c9 f9; have R9 := Lib.hid r9; have C9 := Lib.hid c9; clear r9 c9 f9)
     have HR9 := Lib.hid (show LLRow w9 B v9 (vt.take rest.length ++ [.slice ao2 b.length ac2, .slice ao1 a.length ac1]) (a :: b :: rest).reverse by
      have h1 := llTwo HO4.out (n := rest.length + 2) (by rw [hvtl]) C9.out R9.out (HRB.out.fresh HCL.out) (HRA.out.fresh HCL.out)
      simpa using h1)
     have HN9 := Lib.hid (show NdRow w9 B _ vd done from ((HND.out.fresh HC3.out).fresh HCL.out).chg C9.out (fun b hb q => by
      obtain ⟨cs2, h2⟩ := owns_kind HO4.out.out (by simpa using q)
      obtain ⟨cs3, h3⟩ := owns_kind ((HND.out.fresh HC3.out).fresh HCL.out).out hb
      rw [h2] at h3
      simp at h3) (llKind HO4.out))
     have HC9 := Lib.hid (show Chg [] w w9 from ((HC.out.tr HC3.out).tr HCL.out).trans C9.out (fun j hj => Or.inr (by
      have := (HO4.out.out.lt j (by simpa using hj)).1
      have := HB.out
      omega)))
     have hm0 : Plain.cutM (a :: b :: rest) < gk - 1 := by omega
     go_roundg (gk - 1)
     case measure => omega
     case rel => exact ⟨by omega, a :: b :: rest, done, last - 1, _, vd, rfl, HR9.out, HN9.out, Lib.hid HDF.out.symm, hm0, by omega, by omega, fun t ht => by
      rcases List.mem_cons.1 ht with rfl | ht
      ·omega
      rcases List.mem_cons.1 ht with rfl | ht
      ·omega
      exact hlen t (by simp [ht]), by omega, HC9.out⟩
   rw [Bool.not_eq_true] at hfk
   have HCN := Lib.hid (show Plain.cutN one last = none by unfold Plain.cutN; rw [show Plain.firstK one = none by simpa using hfk]; rfl)
   rw [hfk]
   clear hfk
   have HDF := Lib.hid (Plain.cutF_done (f := gk - 1) (l := one) (t := rest) (done := done) (last := last) HCN.out)
   rw [show gk - 1 + 1 = gk by omega, HE.out] at HDF
   go_wp2_with fail
   refine (pkind_any _ one _ (by omega) (HONE.out.lks.fresh HCX.out)).mono ?_
   rintro e w8 ⟨rfl, hc8⟩
   have HC8 := Lib.hid (HCX.out.tr hc8)
   clear hc8
   obtain ⟨kd, hkd⟩ : ∃ kd, (Plain.kindK one).1 = kd := ⟨_, rfl⟩
   have HKD := Lib.hid (show I64 kd from hkd ▸ Plain.kindK_i64 one)
   rw [hkd] at HDF ⊢
   have HO8 := Lib.hid (HND.out.fresh HC8.out)
   have HSZ8 := Lib.hid (show B ≤ w8.heap.size from Nat.le_trans HBZ.out HC8.out.size)
   clear hkd
   go_wp2_with (at_builtin; refine wp_app elemNd rfl _ _ rfl (v := .slice do4 done.length dc4) (B := B) (cs := #[.int .i64 kd, .slice uo one.length uc]) rfl rfl rfl HO8.out.out HSZ8.out rfl (oneNd kd uo one.length uc) hdn ?_; intro g9 k9 w9 r9 c9 l9; have R9 := Lib.hid r9; have C9 := Lib.hid c9; clear r9 c9 l9)
   have hkl : ∀ b ∈ (Value.slice do4 done.length dc4).ownBlock.toList, ∀ cs t r, w8.heap[b]? = some (.cells cs t r) → t ≠ 50 := fun b hb cs t r hh => by
    obtain ⟨cs2, h2⟩ := owns_kind HO8.out.out (by simpa using hb)
    rw [h2] at hh
    simp at hh
    rw [← hh.2.1]; decide
   have HR9 := Lib.hid (show LLRow w9 B _ _ rest.reverse from (HREST.out.fresh HC8.out).chg C9.out (fun b hb q => by
    obtain ⟨cs2, h2⟩ := owns_kind HO8.out.out (by simpa using q)
    obtain ⟨cs3, h3⟩ := owns_kind (HREST.out.fresh HC8.out).out hb
    rw [h2] at h3
    simp at h3) hkl)
   have HN9 := Lib.hid (ndSnoc HND.out HC8.out C9.out hkl R9.out HKD.out (HONE.out.fresh HC8.out))
   have HC9 := Lib.hid (show Chg [] w w9 from (HC.out.tr HC8.out).trans C9.out (fun j hj => Or.inr (by
    have := (HO8.out.out.lt j (by simpa using hj)).1
    have := HB.out
    omega)))
   go_roundg (gk - 1)
   case measure => omega
   case rel => exact ⟨by omega, rest, done ++ [⟨kd, one⟩], last, vt.take rest.length, vd ++ [.slice uo one.length uc], rfl, HR9.out, HN9.out, Lib.hid HDF.out.symm, by omega, by omega, hl0, fun t ht => hlen t (by simp [ht]), by simp; omega, HC9.out⟩
end Go.Proofs.YtpcgklagmcnhaaaGreat
