/- tree.merge: contract. Conditions: nodes in a row of the call's own. -/
import Derived.Test.YtpcgklagmcnhaaaGreatT7PCut
import Derived.Test.YtpcgklagmcnhaaaGreatT7DelN
namespace Go.Proofs.YtpcgklagmcnhaaaGreat
open Go.RowKit Go.Maps
namespace Plain
def atN (ns : List Nd) (id : Int) (k : Nat) : List Int := ((List.range k).filter fun i => hasK (nd0 ns i) id).map fun i : Nat => (i : Int)
theorem atN_snoc (ns : List Nd) (id : Int) (k : Nat) : atN ns id (k + 1) = atN ns id k ++ if hasK (nd0 ns k) id = true then [(k : Int)] else [] := by
 unfold atN
 rw [List.range_succ, List.filter_append, List.map_append]
 congr 1
 by_cases h : hasK (nd0 ns k) id = true <;> simp [h]
theorem atN_le (ns : List Nd) (id : Int) (k : Nat) : (atN ns id k).length ≤ k := by
 have h := List.length_filter_le (fun i => hasK (nd0 ns i) id) (List.range k)
 rw [List.length_range] at h
 unfold atN
 rw [List.length_map]
 exact h
theorem atN_all (ns : List Nd) (id : Int) : atN ns id ns.length = (atK ns id).map fun i : Nat => (i : Int) := rfl
theorem mergeS_no {ns : List Nd} {id : Int} (h : (atK ns id).length ≠ 2) : mergeS ns id = ns := by
 unfold mergeS
 split
 ·rename_i i j e
  rw [e] at h
  exact absurd rfl h
 rfl
theorem mergeS_two {ns : List Nd} {id : Int} {i j : Nat} (h : atK ns id = [i, j]) : mergeS ns id = if (nd0 ns i).kind ≠ (nd0 ns j).kind ∨ ((nd0 ns i).kind ≠ 1 ∧ (nd0 ns i).kind ≠ 2) then ns else (ns.set i ⟨(nd0 ns i).kind, ((nd0 ns i).l ++ (nd0 ns j).l).filter fun x => x.id ≠ id⟩).eraseIdx j := by
 unfold mergeS
 rw [h]
def sumK (ns : List Nd) : Nat := (ns.map fun n => n.l.length).sum
theorem sumK_one : ∀ {ns : List Nd} {i : Nat}, i < ns.length → (nd0 ns i).l.length ≤ sumK ns
 | n :: ns, 0, _ => by show n.l.length ≤ ((n :: ns).map fun n => n.l.length).sum; simp
 | n :: ns, i + 1, h => by
  have ih := sumK_one (ns := ns) (i := i) (by simpa using h)
  have e : nd0 (n :: ns) (i + 1) = nd0 ns i := by simp [nd0]
  rw [e]
  show _ ≤ ((n :: ns).map fun n => n.l.length).sum
  unfold sumK at ih
  simp
  omega
theorem sumK_two : ∀ {ns : List Nd} {i j : Nat}, i < j → j < ns.length → (nd0 ns i).l.length + (nd0 ns j).l.length ≤ sumK ns
 | n :: ns, 0, j + 1, _, h => by
  have ih := sumK_one (ns := ns) (i := j) (by simpa using h)
  have e : nd0 (n :: ns) (j + 1) = nd0 ns j := by simp [nd0]
  rw [e]
  show n.l.length + _ ≤ ((n :: ns).map fun n => n.l.length).sum
  unfold sumK at ih
  simp
  omega
 | n :: ns, i + 1, j + 1, hij, h => by
  have ih := sumK_two (ns := ns) (i := i) (j := j) (by omega) (by simpa using h)
  have e : nd0 (n :: ns) (j + 1) = nd0 ns j := by simp [nd0]
  have e2 : nd0 (n :: ns) (i + 1) = nd0 ns i := by simp [nd0]
  rw [e, e2]
  show _ ≤ ((n :: ns).map fun n => n.l.length).sum
  unfold sumK at ih
  simp
  omega
theorem sumK_set : ∀ {ns : List Nd} {i : Nat} (x : Nd), i < ns.length → sumK (ns.set i x) + (nd0 ns i).l.length = sumK ns + x.l.length
 | n :: ns, 0, x, _ => by show ((x :: ns).map fun n => n.l.length).sum + n.l.length = ((n :: ns).map fun n => n.l.length).sum + _; simp; omega
 | n :: ns, i + 1, x, h => by
  have ih := sumK_set (ns := ns) (i := i) x (by simpa using h)
  have e : nd0 (n :: ns) (i + 1) = nd0 ns i := by simp [nd0]
  rw [e]
  show ((n :: ns.set i x).map fun n => n.l.length).sum + _ = ((n :: ns).map fun n => n.l.length).sum + _
  unfold sumK at ih
  simp only [List.map_cons, List.sum_cons]
  omega
theorem sumK_del : ∀ {ns : List Nd} {i : Nat}, i < ns.length → sumK (ns.eraseIdx i) + (nd0 ns i).l.length = sumK ns
 | n :: ns, 0, _ => by show (ns.map fun n => n.l.length).sum + n.l.length = ((n :: ns).map fun n => n.l.length).sum; simp; omega
 | n :: ns, i + 1, h => by
  have ih := sumK_del (ns := ns) (i := i) (by simpa using h)
  have e : nd0 (n :: ns) (i + 1) = nd0 ns i := by simp [nd0]
  rw [e]
  show ((n :: ns.eraseIdx i).map fun n => n.l.length).sum + _ = ((n :: ns).map fun n => n.l.length).sum
  unfold sumK at ih
  simp
  omega
theorem nd0_set {ns : List Nd} {i j : Nat} (x : Nd) (h : i ≠ j) : nd0 (ns.set i x) j = nd0 ns j := by
 unfold nd0
 rw [List.getD_eq_getElem?_getD, List.getD_eq_getElem?_getD, List.getElem?_set_ne h]
theorem nd0_same {ns : List Nd} {i : Nat} (x : Nd) (h : i < ns.length) : nd0 (ns.set i x) i = x := by
 unfold nd0
 simp [List.getD, h]
theorem mergeS_sum (ns : List Nd) (id : Int) : sumK (mergeS ns id) ≤ sumK ns ∧ (mergeS ns id).length ≤ ns.length := by
 by_cases h2 : (atK ns id).length = 2
 ·obtain ⟨i, j, e⟩ : ∃ i j, atK ns id = [i, j] := by
   match hq : atK ns id, h2 with
   | [i, j], _ => exact ⟨i, j, rfl⟩
  obtain ⟨h3, h4⟩ := atK_lt e
  rw [mergeS_two e]
  split
  ·exact ⟨Nat.le_refl _, Nat.le_refl _⟩
  have hs := sumK_set (ns := ns) (i := i) ⟨(nd0 ns i).kind, ((nd0 ns i).l ++ (nd0 ns j).l).filter fun x => decide (x.id ≠ id)⟩ (by omega)
  have hd := sumK_del (ns := ns.set i ⟨(nd0 ns i).kind, ((nd0 ns i).l ++ (nd0 ns j).l).filter fun x => decide (x.id ≠ id)⟩) (i := j) (by rw [List.length_set]; exact h4)
  rw [nd0_set _ (by omega)] at hd
  have hf := List.length_filter_le (fun x : Lk => decide (x.id ≠ id)) ((nd0 ns i).l ++ (nd0 ns j).l)
  rw [List.length_append] at hf
  refine ⟨?_, ?_⟩
  ·simp only at hs
   omega
  have := List.length_eraseIdx_le (ns.set i ⟨(nd0 ns i).kind, ((nd0 ns i).l ++ (nd0 ns j).l).filter fun x => decide (x.id ≠ id)⟩) j
  rw [List.length_set] at this
  exact this
 rw [mergeS_no h2]
 exact ⟨Nat.le_refl _, Nat.le_refl _⟩
end Plain
set_option maxRecDepth 100000 in
set_option maxHeartbeats 16000000 in
theorem tmerge_any (v : Value) (vs : List Value) (ns : List Plain.Nd) (m B : Nat) (w : World) (hm : m ≤ 100000) (hn : ns.length ≤ 4000) (hL : Plain.sumK ns ≤ 400000) (hB : B ≤ w.heap.size) (h : NdRow w B v vs ns) :
  Calls Tryz.prog 37 #[v, .int .i64 (-(m : Int))] w fun e w' => ∃ v' vs', e = .returned v' ∧ NdRow w' B v' vs' (Plain.mergeK ns m) ∧ Chg v.ownBlock.toList w w' := by
 have H := Lib.hid h
 obtain ⟨no, nc, rfl⟩ := h.shape
 have HBB := Lib.hid hB
 clear h hB
 go_enter Tryz.func37, Tryz.ntmps37
 go_wp2_with fail
 go_loopw [0, 5] (fun c0 c5 wr => ∃ k : Nat, k ≤ m ∧ c5 = .int .i64 (-1 - (k : Int)) ∧ ∃ vs', NdRow wr B c0 vs' (Plain.mergeK ns k) ∧ (Plain.mergeK ns k).length ≤ 4000 ∧ Plain.sumK (Plain.mergeK ns k) ≤ 400000 ∧ c0.ownBlock = (Value.slice no ns.length nc).ownBlock ∧ Chg (Value.slice no ns.length nc).ownBlock.toList w wr) (fun _ c5 _ => (m + 1 + intOf c5).toNat)
 case atStart => exact ⟨0, Nat.zero_le _, rfl, vs, H.out, hn, hL, rfl, Chg.refl _ _⟩
 case round =>
  obtain ⟨k, hk, rfl, vs', hnd, hlen, hsum, hob, hc⟩ := hrel
  have HSU := Lib.hid hsum
  have HND := Lib.hid hnd
  have HOB := Lib.hid hob
  have HC := Lib.hid hc
  have HS := Lib.hid (show Plain.mergeK ns (k + 1) = Plain.mergeS (Plain.mergeK ns k) (-1 - (k : Int)) from rfl)
  obtain ⟨po, pc, rfl⟩ := hnd.shape
  clear hnd hob hc hsum
  by_cases hlt : k < m
  ·have hge : (-1 - (k : Int)) ≥ -(m : Int) := by omega
   obtain ⟨ps, hps⟩ : ∃ ps, Plain.mergeK ns k = ps := ⟨_, rfl⟩
   rw [hps] at HND HS hlen HOB HSU ⊢
   obtain ⟨id, hid⟩ : ∃ id, (-1 - (k : Int)) = id := ⟨_, rfl⟩
   rw [hid] at HS hge ⊢
   have hid0 : id < 0 := by omega
   have hid1 : -200000 ≤ id := by omega
   have II : I64 id := I64.mk (by omega) (by omega)
   have HID := Lib.hid hid
   have HBW := Lib.hid (Nat.le_trans HBB.out HC.out.size)
   clear hps hid
   go_wp2_with fail
   go_loopw [6, 21] (fun c6 iv wx => ∃ i : Nat, i ≤ ps.length ∧ iv = .int .i64 i ∧ RowAt wx wr.heap.size c6 (Plain.atN ps id i) ∧ Chg [] wr wx) (fun _ iv _ => ps.length - (intOf iv).toNat)
   case atStart => exact ⟨0, Nat.zero_le _, rfl, rowNil' _ _, Chg.refl _ _⟩
   case round =>
    obtain ⟨i, hi, rfl, hr, hcx⟩ := hrel
    have HR := Lib.hid hr
    have HCX := Lib.hid hcx
    obtain ⟨uo, uc, rfl⟩ := hr.shape
    clear hr hcx
    by_cases hil : i < ps.length
    ·obtain ⟨g, rfl, q0, q1, -⟩ := HND.out.some hil
     have c0 := HCX.out.cel q0
     have c1 := HCX.out.cel q1
     obtain ⟨hkI, hkr⟩ := HND.out.row i hil
     obtain ⟨xo, xc, ex⟩ := hkr.shape
     have HKR := Lib.hid (hkr.fresh HCX.out)
     rw [ex] at c1 HKR
     have HSN := Lib.hid (Plain.atN_snoc ps id i)
     have HLE := Lib.hid (Plain.atN_le ps id i)
     have hll : (Plain.nd0 ps i).l.length ≤ 400000 := Nat.le_trans (Plain.sumK_one hil) HSU.out
     obtain ⟨N, hN⟩ : ∃ N, Plain.nd0 ps i = N := ⟨_, rfl⟩
     rw [hN] at c0 c1 HKR HSN hll
     have HHK := Lib.hid (show Plain.hasK N id = N.l.any fun x => x.id == id from rfl)
     have IK : I64 (i : Int) := I64.mk (by omega) (by omega)
     have HBX := Lib.hid ((Chg.refl [] wr).alloc (.cells #[.int .i64 N.kind, .slice xo N.l.length xc] 26))
     obtain ⟨A, hA⟩ : ∃ A, Plain.atN ps id i = A := ⟨_, rfl⟩
     rw [hA] at HR HSN HLE ⊢
     clear q0 q1 hkI hkr ex hN hA
     go_wp2_with fail
     refine (thas_any N.kind id _ N.l _ (HKR.out.lks.fresh HBX.out)).mono ?_
     rintro e w6 ⟨rfl, hc6⟩
     have HC6 := Lib.hid (HBX.out.tr hc6)
     have R6 := Lib.hid (show RowAt w6 _ _ A from HR.out.chg HC6.out (by simp))
     have HW6 := Lib.hid (Nat.le_trans HCX.out.size HC6.out.size)
     have hAl : A.length < 4294967290 := by have := HLE.out; omega
     rw [← HHK.out]
     clear hc6
     obtain ⟨bb, hbb⟩ : ∃ bb, Plain.hasK N id = bb := ⟨_, rfl⟩
     rw [hbb] at HSN ⊢
     clear hbb
     cases bb
     ·rw [if_neg (by simp), List.append_nil] at HSN
      go_wp2
      go_roundw
      case rel => exact ⟨i + 1, by omega, by go_num, by rw [HSN.out]; exact R6.out, HCX.out.tr HC6.out⟩
      case measure => simp [intOf]; omega
     rw [if_pos rfl] at HSN
     go_wp2_with (at_builtin; refine wl_push rfl _ _ rfl (w0 := w6) (v := .slice uo A.length uc) (l := A) (k := (i : Int)) rfl rfl R6.out IK HW6.out hAl rfl ?_; intro v7 w7 r7 c7 f7; have R7 := Lib.hid r7; have C7 := Lib.hid c7; clear r7 c7 f7)
     go_roundw
     case rel => exact ⟨i + 1, by omega, by go_num, by rw [HSN.out]; exact R7.out, (HCX.out.tr HC6.out).trans C7.out (fun j hj => Or.inr (R6.out.low j (by rw [← R6.out.foot]; exact hj)).1)⟩
     case measure => simp [intOf]; omega
    have e : i = ps.length := by omega
    subst e
    rw [Plain.atN_all] at HR ⊢
    have HMS := Lib.hid (Plain.mergeS_sum ps id)
    clear hi hil
    have hnx : id - 1 = -1 - ((k + 1 : Nat) : Int) := by have := HID.out; omega
    have hle2 : (Plain.atK ps id).length ≤ 4000 := by have := Plain.atN_le ps id ps.length; rw [Plain.atN_all, List.length_map] at this; omega
    by_cases h2 : (Plain.atK ps id).length = 2
    ·obtain ⟨i, j, ea⟩ : ∃ i j, Plain.atK ps id = [i, j] := by
      match hq : Plain.atK ps id, h2 with
      | [i, j], _ => exact ⟨i, j, rfl⟩
     have HLT := Lib.hid (Plain.atK_lt ea)
     have HMT := Lib.hid (Plain.mergeS_two ea)
     rw [ea] at HR ⊢
     have HR2 := Lib.hid (show RowAt wr _ (.slice uo 2 uc) [(i : Int), (j : Int)] from HR.out)
     obtain ⟨ab, rfl, hac⟩ := HR2.out.some (by simp)
     have a0 : wr.cell? ⟨ab, 0, none⟩ = some (.int .i64 i) := hac 0 (by simp)
     have a1 : wr.cell? ⟨ab, 1, none⟩ = some (.int .i64 j) := hac 1 (by simp)
     have hij := HLT.out
     have hli : i < ps.length := by omega
     have hlj : j < ps.length := by omega
     obtain ⟨pb, rfl, q0, q1, -⟩ := HND.out.some hli
     obtain ⟨pb', ep, q2, q3, -⟩ := HND.out.some hlj
     cases ep
     have n0 := HCX.out.cel q0
     have n1 := HCX.out.cel q1
     have n2 := HCX.out.cel q2
     have n3 := HCX.out.cel q3
     obtain ⟨hkI, hkr⟩ := HND.out.row i hli
     obtain ⟨hkJ, hkr2⟩ := HND.out.row j hlj
     obtain ⟨xo, xc, ex⟩ := hkr.shape
     obtain ⟨yo, yc, ey⟩ := hkr2.shape
     have HKI := Lib.hid (hkr.fresh HCX.out)
     have HKJ := Lib.hid (hkr2.fresh HCX.out)
     rw [ex] at n1 HKI
     rw [ey] at n3 HKJ
     have hsm : (Plain.nd0 ps i).l.length + (Plain.nd0 ps j).l.length ≤ 400000 := Nat.le_trans (Plain.sumK_two hij.1 hij.2) HSU.out
     have HI64 := Lib.hid hkI
     obtain ⟨N, hN⟩ : ∃ N, Plain.nd0 ps i = N := ⟨_, rfl⟩
     obtain ⟨M, hM⟩ : ∃ M, Plain.nd0 ps j = M := ⟨_, rfl⟩
     rw [hN] at n0 n1 HKI HMT hsm HI64
     rw [hM] at n2 n3 HKJ HMT hsm
     have hi8 : i < 4000 := by omega
     have hj8 : j < 4000 := by omega
     clear q0 q1 q2 q3 hac hkI hkJ hkr hkr2 ex ey h2 hle2 HR
     have hb2 : (((2 : Nat) : Int) != 2) = false := rfl
     go_wp2_with fail
     go_cut [9, 10] (fun c9 c10 wc => ∃ p9 p10, c9 = .pointer (some ⟨p9, 0, none⟩) ∧ c10 = .pointer (some ⟨p10, 0, none⟩) ∧ wc.heap[p9]? = some (.cells #[.int .i64 N.kind, .slice xo N.l.length xc] 26 (0, 0)) ∧ wc.heap[p10]? = some (.cells #[.int .i64 M.kind, .slice yo M.l.length yc] 26 (0, 0)) ∧ wr.heap.size ≤ p9 ∧ wr.heap.size ≤ p10 ∧ Chg [] wr wc)
     case first =>
      refine wp_region_way (Chg [] wr) [0, 1, 2, 3, 4, 5, 6, 7, 8, 9, 10, 11] (Way.line [0, 1, 2, 3, 4, 5, 6, 7, 8, 9, 10, 11] (.fork 12 13 (.then_ 13 (Way.line [14, 15] .done)) (.then_ 12 (Way.line [14, 15] .done)))) (by kernel_rfl) (by kernel_rfl) ?_
      simp only [Way.line]
      have hS0 : Chg [] wr wr.drew := (Chg.refl [] wr).drew
      repeat
       first
        | (refine along_off rfl (by rfl) (by rfl) (fun _ _ _ h => h) hS0 ?_; simp only [Act.put, Z1, Z2, Z3, Z4, Z5, Z6])
        | (refine along_read (v := ?_) rfl (by rfl) (by rfl) (fun _ _ _ h => h) hS0 (fun w' hS' => ?_) ?_; rotate_left; (focus (have rd0 := hS'.cell a0 (by simp); have rd1 := hS'.cell a1 (by simp); have rd2 := hS'.cell n0 (by simp); have rd3 := hS'.cell n1 (by simp); have rd4 := hS'.cell n2 (by simp); have rd5 := hS'.cell n3 (by simp); clear hS'; go_simp; try with_reducible rfl)); simp only [Act.put, Z1, Z2, Z3, Z4, Z5, Z6])
        | (refine along_skip rfl (by rfl) (by rfl) hS0 ?_; simp only [Act.put, Z1, Z2, Z3, Z4, Z5, Z6])
      have hS1 := hS0.alloc (.cells #[.int .i64 0, .slice none 0 0] 26)
      have hS2 := hS1.alloc (.cells #[.int .i64 0, .slice none 0 0] 26)
      refine along_fork (by rfl) (by rfl) ?_ ?_
      ·skip
       refine along_op rfl (by rfl) (by rfl) (fun K hK => ?_)
       go_simp
       refine hK.out _ _ (fun _ => hS1) ?_
       clear hK K
       try simp only [Act.put, Z1, Z2, Z3, Z4, Z5, Z6]
       refine along_op rfl (by rfl) (by rfl) (fun K hK => ?_)
       go_simp
       refine hK.out _ _ (fun _ => hS2) ?_
       clear hK K
       try simp only [Act.put, Z1, Z2, Z3, Z4, Z5, Z6]
       refine along_op rfl (by rfl) (by rfl) (fun K hK => ?_)
       go_simp
       refine hK.out _ _ (fun _ => by first | exact ((Chg.refl [] wr).drew.alloc _).alloc _ | exact (((Chg.refl [] wr).alloc _).alloc _).drew) ?_
       clear hK K
       try simp only [Act.put, Z1, Z2, Z3, Z4, Z5, Z6]
       refine along_op rfl (by rfl) (by rfl) (fun K hK => ?_)
       go_simp
       refine hK.out _ _ (fun h => absurd h (Bool.eq_false_iff.1 (by kernel_rfl))) ?_
       clear hK K
       try simp only [Act.put, Z1, Z2, Z3, Z4, Z5, Z6]
       refine along_done ?_
       go_wp2
       go_meet
       case rel =>
        obtain ⟨t1, t2, t3⟩ := box_two wr #[.int .i64 N.kind, .slice xo N.l.length xc] #[.int .i64 M.kind, .slice yo M.l.length yc] 26 26
        exact ⟨wr.heap.size, wr.heap.size + 1, rfl, rfl, t1, t2, Nat.le_refl _, Nat.le_succ _, t3.drew⟩
      skip
      refine along_op rfl (by rfl) (by rfl) (fun K hK => ?_)
      go_simp
      refine hK.out _ _ (fun _ => hS1) ?_
      clear hK K
      try simp only [Act.put, Z1, Z2, Z3, Z4, Z5, Z6]
      refine along_op rfl (by rfl) (by rfl) (fun K hK => ?_)
      go_simp
      refine hK.out _ _ (fun _ => hS2) ?_
      clear hK K
      try simp only [Act.put, Z1, Z2, Z3, Z4, Z5, Z6]
      refine along_op rfl (by rfl) (by rfl) (fun K hK => ?_)
      go_simp
      refine hK.out _ _ (fun _ => by first | exact ((Chg.refl [] wr).drew.alloc _).alloc _ | exact (((Chg.refl [] wr).alloc _).alloc _).drew) ?_
      clear hK K
      try simp only [Act.put, Z1, Z2, Z3, Z4, Z5, Z6]
      refine along_op rfl (by rfl) (by rfl) (fun K hK => ?_)
      go_simp
      refine hK.out _ _ (fun h => absurd h (Bool.eq_false_iff.1 (by kernel_rfl))) ?_
      clear hK K
      try simp only [Act.put, Z1, Z2, Z3, Z4, Z5, Z6]
      refine along_done ?_
      go_wp2
      go_meet
      case rel =>
       obtain ⟨t1, t2, t3⟩ := box_two wr #[.int .i64 M.kind, .slice yo M.l.length yc] #[.int .i64 N.kind, .slice xo N.l.length xc] 26 26
       exact ⟨wr.heap.size + 1, wr.heap.size, rfl, rfl, t2, t1, Nat.le_succ _, Nat.le_refl _, t3.drew⟩
     case rest =>
      obtain ⟨p9, p10, rfl, rfl, h9, h10, hp9, hp10, hcc⟩ := hcut
      have H9 := Lib.hid h9
      have H10 := Lib.hid h10
      have HCC := Lib.hid hcc
      have b0 := (cell_of_row _ _ 0 _ _ _ h9).trans (show _ = some (Value.int .i64 N.kind) from rfl)
      have b1 := (cell_of_row _ _ 1 _ _ _ h9).trans (show _ = some (Value.slice xo N.l.length xc) from rfl)
      have d0 := (cell_of_row _ _ 0 _ _ _ h10).trans (show _ = some (Value.int .i64 M.kind) from rfl)
      have d1 := (cell_of_row _ _ 1 _ _ _ h10).trans (show _ = some (Value.slice yo M.l.length yc) from rfl)
      have HND9 := Lib.hid ((HND.out.fresh HCX.out).fresh hcc)
      have HWR := Lib.hid (HCX.out.tr hcc)
      clear h9 h10 hcc
      by_cases hun : N.kind ≠ M.kind ∨ (N.kind ≠ 1 ∧ N.kind ≠ 2)
      ·rw [if_pos hun] at HMT
       have hcase : (N.kind != M.kind) = true ∨ ((N.kind != M.kind) = false ∧ (N.kind != 1) = true ∧ (N.kind != 2) = true) := by
        by_cases q : N.kind = M.kind
        ·rcases hun with t | ⟨t1, t2⟩
         ·exact absurd q t
         exact Or.inr ⟨by simp [q], by simp [t1], by simp [t2]⟩
        exact Or.inl (by simp [q])
       clear hun
       rcases hcase with e1 | ⟨e1, e2, e3⟩
       all_goals
        go_wp2
        go_roundw
        case rel => exact ⟨k + 1, by omega, by congr 1, vs', by rw [HS.out, HMT.out]; exact HND9.out, by rw [HS.out, HMT.out]; exact hlen, by rw [HS.out, HMT.out]; exact HSU.out, HOB.out, HC.out.tr HWR.out⟩
        case measure => simp [intOf]; omega
      rw [if_neg hun] at HMT
      have e1 : (N.kind != M.kind) = false := by simp; exact Decidable.byContradiction fun q => hun (Or.inl q)
      have hk12 : N.kind = 1 ∨ N.kind = 2 := by
       rcases Decidable.em (N.kind = 1) with q | q
       ·exact Or.inl q
       rcases Decidable.em (N.kind = 2) with t | t
       ·exact Or.inr t
       exact absurd (Or.inr ⟨q, t⟩) hun
      have e2 : (N.kind != 1) = true ∧ (N.kind != 2) = false ∨ (N.kind != 1) = false := by rcases hk12 with q | q <;> simp [q]
      clear hun hk12
      have HCAT := Lib.hid (concatL2_any (.slice xo N.l.length xc) (.slice yo M.l.length yc) N.l M.l wc ((HKI.out.fresh HCC.out).base (Nat.zero_le _)) ((HKJ.out.fresh HCC.out).base (Nat.zero_le _)) (by omega))
      obtain ⟨T, hT⟩ : ∃ T, N.l ++ M.l = T := ⟨_, rfl⟩
      have hTl : T.length ≤ 400000 := by rw [← hT, List.length_append]; exact hsm
      rw [hT] at HCAT HMT
      have HBC := Lib.hid (show B ≤ wc.heap.size from Nat.le_trans HBW.out HWR.out.size)
      clear hT
      go_upto_region 13 with (fail)
      go_cut [63] (fun c63 wq => c63 = .bool false ∧ wq = wc)
      case first =>
       rcases e2 with ⟨e2, e3⟩ | e2
       all_goals
        go_wp2
        go_meet
        case rel => exact ⟨rfl, rfl⟩
      case rest =>
       obtain ⟨rfl, rfl⟩ := hcut
       clear e2 e1
       go_wp2_with fail
       refine HCAT.out.mono ?_
       rintro e w7 ⟨cv, rfl, hcr, hc7⟩
       obtain ⟨co, cc, rfl⟩ := hcr.shape
       have HCR := Lib.hid hcr
       have HC7 := Lib.hid hc7
       clear hcr hc7
       go_wp2_with fail
       go_loopw [11, 71] (fun c11 iv wx => ∃ t : Nat, t ≤ T.length ∧ iv = .int .i64 t ∧ LkRow wx w7.heap.size c11 ((T.take t).filter fun x => x.id ≠ id) ∧ Chg [] w7 wx) (fun _ iv _ => T.length - (intOf iv).toNat)
       case atStart => exact ⟨0, Nat.zero_le _, rfl, LkRow.nil _ _, Chg.refl _ _⟩
       case round =>
        obtain ⟨t, ht, rfl, hr, hcx⟩ := hrel
        obtain ⟨fo, fc, rfl⟩ := hr.shape
        have HR8 := Lib.hid hr
        have HC8 := Lib.hid hcx
        clear hr hcx
        by_cases htl : t < T.length
        ·obtain ⟨lo', lc', el, hlm, hsm2, hcell⟩ := HCR.out.lks
         simp only [Value.slice.injEq] at el
         obtain ⟨rfl, -, rfl⟩ := el
         obtain ⟨tb, toff, rfl, q0, q1, q2⟩ := hcell t htl
         have HI := Lib.hid (hsm2 t htl)
         have t0 := HC8.out.cel q0
         have t1 := HC8.out.cel q1
         have t2 := HC8.out.cel q2
         have HFS := Lib.hid (show (T.take (t + 1)).filter (fun x => decide (x.id ≠ id)) = (T.take t).filter (fun x => decide (x.id ≠ id)) ++ if (Plain.at0 T t).id ≠ id then [Plain.at0 T t] else [] by
          rw [Plain.lk_snoc htl, List.filter_append]
          congr 1
          by_cases q : (Plain.at0 T t).id = id <;> simp [q])
         have hfl : ((T.take t).filter fun x => decide (x.id ≠ id)).length < 4294967290 := by
          have h1 := List.length_filter_le (fun x : Plain.Lk => decide (x.id ≠ id)) (T.take t)
          rw [List.length_take] at h1
          omega
         obtain ⟨L, hL⟩ : ∃ L, Plain.at0 T t = L := ⟨_, rfl⟩
         rw [hL] at t0 t1 t2 HI HFS
         obtain ⟨F, hF⟩ : ∃ F, (T.take t).filter (fun x => decide (x.id ≠ id)) = F := ⟨_, rfl⟩
         rw [hF] at HR8 HFS hfl ⊢
         have HBX := Lib.hid (heap_alloc_new wr (.cells #[.int .i64 L.a, .int .i64 L.b, .int .i64 L.id] 50))
         have HCB := Lib.hid ((Chg.refl [] wr).alloc (.cells #[.int .i64 L.a, .int .i64 L.b, .int .i64 L.id] 50))
         have R8 := Lib.hid (HR8.out.fresh HCB.out)
         have HZ8 := Lib.hid (Nat.le_trans HC8.out.size HCB.out.size)
         clear q0 q1 q2 hcell hsm2 hlm hL hF
         by_cases hne : L.id = id
         ·rw [if_neg (by simp [hne]), List.append_nil] at HFS
          have hb : (L.id != id) = false := by simp [hne]
          clear hne
          go_wp2
          go_roundw
          case rel => exact ⟨t + 1, by omega, by go_num, by rw [HFS.out]; exact R8.out, HC8.out.tr HCB.out⟩
          case measure => simp [intOf]; omega
         rw [if_pos hne] at HFS
         have hb : (L.id != id) = true := by simp [hne]
         have e0 := (cell_of_row _ _ 0 _ _ _ HBX.out).trans (show _ = some (Value.int .i64 L.a) from rfl)
         have e1 := (cell_of_row _ _ 1 _ _ _ HBX.out).trans (show _ = some (Value.int .i64 L.b) from rfl)
         have e2 := (cell_of_row _ _ 2 _ _ _ HBX.out).trans (show _ = some (Value.int .i64 L.id) from rfl)
         go_wp2_with (at_builtin; refine wl_lk rfl _ _ rfl (w0 := wr.alloc (.cells #[.int .i64 L.a, .int .i64 L.b, .int .i64 L.id] 50)) (v := .slice fo F.length fc) (l := F) L rfl (by simp; rfl) R8.out HI.out HZ8.out hfl rfl ?_; intro v9 w9 r9 c9 f9; have R9 := Lib.hid r9; have C9 := Lib.hid c9; clear r9 c9 f9)
         go_roundw
         case rel => exact ⟨t + 1, by omega, by go_num, by rw [HFS.out]; exact R9.out, (HC8.out.tr HCB.out).trans C9.out (fun j hj => Or.inr (R8.out.low j hj).1)⟩
         case measure => simp [intOf]; omega
        have e : t = T.length := by omega
        subst e
        rw [List.take_length] at HR8 ⊢
        obtain ⟨F, hF⟩ : ∃ F, T.filter (fun x => decide (x.id ≠ id)) = F := ⟨_, rfl⟩
        rw [hF] at HR8 HMT ⊢
        have HC79 := Lib.hid (HC7.out.tr HC8.out)
        have HN8 := Lib.hid (HND9.out.fresh HC79.out)
        have a0 := HC79.out.cel (HCC.out.cel a0)
        have a1 := HC79.out.cel (HCC.out.cel a1)
        have b0 := HC79.out.cel b0
        obtain ⟨pcs, hpc⟩ := owns_kind HN8.out.out (show (Value.slice (some ⟨pb, 0, none⟩) ps.length pc).ownBlock = some pb from rfl)
        have f0 := free_at hpc (i * 2)
        have f1 := free_at hpc (i * 2 + 1)
        obtain ⟨pb2, ep2, q0, q1, -⟩ := HN8.out.some hli
        cases ep2
        have HABP := Lib.hid (show ab ≠ pb from fun e => by
         obtain ⟨cs, r, hh⟩ := row_kind (HR2.out.chg (HCC.out.tr HC79.out) (by simp)) ab (by simp [foot, Value.ownBlock])
         rw [e, hpc] at hh
         simp at hh)
        have HPB := Lib.hid (show ∀ j, j ∈ [pb] → j ∈ (Value.slice no ns.length nc).ownBlock.toList from fun j hj => by have e : (Value.slice (some ⟨pb, 0, none⟩) ps.length pc).ownBlock = (Value.slice no ns.length nc).ownBlock := HOB.out; rw [← e]; simpa [Value.ownBlock] using hj)
        have HSET := Lib.hid (ndSet ⟨N.kind, F⟩ HN8.out hli HI64.out (HR8.out.base (Nat.zero_le _)))
        clear hF d0 d1 b1 htl ht n0 n1 n2 n3
        go_wp2_with fail
        have hS0 : Chg [] wr wr.drew := (Chg.refl [] wr).drew
        refine wp_region_way (Chg [] wr) [0, 1, 2, 3, 4, 5, 6, 7, 8] (Way.line [0, 1, 2, 3, 4, 5, 6, 7, 8, 9] .done) (by kernel_rfl) (by kernel_rfl) ?_
        simp only [Way.line]
        repeat
         first
          | (refine along_off rfl (by rfl) (by rfl) (fun _ _ _ h => h) hS0 ?_; simp only [Act.put, Z1, Z2, Z3, Z4, Z5, Z6])
          | (refine along_read (v := ?_) rfl (by rfl) (by rfl) (fun _ _ _ h => h) hS0 (fun w' hS' => ?_) ?_; rotate_left; (focus (have rd0 := hS'.cell a0 (by simp); have rd1 := hS'.cell b0 (by simp); clear hS'; go_simp; try with_reducible rfl)); simp only [Act.put, Z1, Z2, Z3, Z4, Z5, Z6])
          | (refine along_skip rfl (by rfl) (by rfl) hS0 ?_; simp only [Act.put, Z1, Z2, Z3, Z4, Z5, Z6])
        refine along_op rfl (by rfl) (by rfl) (fun K hK => ?_)
        go_simp
        refine hK.out _ _ (fun h => absurd h (Bool.eq_false_iff.1 (by kernel_rfl))) ?_
        clear hK K
        try simp only [Act.put, Z1, Z2, Z3, Z4, Z5, Z6]
        refine along_done ?_
        obtain ⟨hn9, hc9⟩ := HSET.out
        have HN9 := Lib.hid (hn9.fresh (Chg.refl [] _).drew)
        have HC9 := Lib.hid hc9.drew
        clear hn9 hc9 f0 f1 hpc q0 q1 hS0
        generalize (((wr.setCell ⟨pb, i * 2, none⟩ (.int .i64 N.kind)).setCell ⟨pb, i * 2 + 1, none⟩ (.slice fo F.length fc))).drew = w9 at *
        have a0 := HC9.out.cell a0 (by simpa using HABP.out)
        have a1 := HC9.out.cell a1 (by simpa using HABP.out)
        have hsl : (ps.set i ⟨N.kind, F⟩).length = ps.length := List.length_set
        have HOW9 := Lib.hid (show w9.ownsRow B 26 2 (.slice (some ⟨pb, 0, none⟩) ps.length pc) ps.length (ndCells (ps.set i ⟨N.kind, F⟩) (vs'.set i (.slice fo F.length fc))) by have := HN9.out.out; rwa [hsl] at this)
        have hps : ps.length ≤ 200000 := by omega
        go_wp2_with fail
        have hS0 : Chg [] w9 w9.drew := (Chg.refl [] w9).drew
        refine wp_region_way (Chg [] w9) [0, 1, 2, 3, 4, 5, 6, 7] (Way.line [0, 1, 2, 3, 4, 5, 6, 7, 8, 9] .done) (by kernel_rfl) (by kernel_rfl) ?_
        simp only [Way.line]
        repeat
         first
          | (refine along_off rfl (by rfl) (by rfl) (fun _ _ _ h => h) hS0 ?_; simp only [Act.put, Z1, Z2, Z3, Z4, Z5, Z6])
          | (refine along_read (v := ?_) rfl (by rfl) (by rfl) (fun _ _ _ h => h) hS0 (fun w' hS' => ?_) ?_; rotate_left; (focus (have rd0 := hS'.cell a0 (by simp); have rd1 := hS'.cell a1 (by simp); clear hS'; go_simp; try with_reducible rfl)); simp only [Act.put, Z1, Z2, Z3, Z4, Z5, Z6])
          | (refine along_skip rfl (by rfl) (by rfl) hS0 ?_; simp only [Act.put, Z1, Z2, Z3, Z4, Z5, Z6])
        refine along_op rfl (by rfl) (by rfl) (fun K hK => ?_)
        go_simp
        have hwj : IntKind.i64.wrap ((j : Int) + 1) = (j : Int) + 1 := by rw [IntKind.wrap_i64]; omega
        rw [hwj]
        refine (delN_any pb pc j B ps.length _ _ (owns_chg HOW9.out hS0 (by simp)) HN9.out.ones hlj hps).mono ?_
        rintro e wA ⟨rfl, hdr, hdc⟩
        have HDD := Lib.hid (ndDel HN9.out (i := j) (by rw [hsl]; exact hlj) (by rw [hsl]; exact hdr) (hS0.mono (by simp) |>.trans hdc (fun j hj => Or.inl hj)))
        have HDC := Lib.hid (show Chg [pb] w9 wA from (hS0.mono (by simp)).trans hdc (fun j hj => Or.inl hj))
        rw [hsl] at HDD
        refine hK.out _ _ (fun h => absurd h (Bool.eq_false_iff.1 (by kernel_rfl))) ?_
        clear hK K hS0 hdr hdc
        try simp only [Act.put, Z1, Z2, Z3, Z4, Z5, Z6]
        refine along_op rfl (by rfl) (by rfl) (fun K hK => ?_)
        go_simp
        refine hK.out _ _ (fun h => absurd h (Bool.eq_false_iff.1 (by kernel_rfl))) ?_
        clear hK K
        try simp only [Act.put, Z1, Z2, Z3, Z4, Z5, Z6]
        refine along_done ?_
        go_wp2
        go_roundw
        case rel => exact ⟨k + 1, by omega, by congr 1, _, by rw [HS.out, HMT.out]; exact HDD.out, by rw [HS.out]; exact Nat.le_trans HMS.out.2 hlen, by rw [HS.out]; exact Nat.le_trans HMS.out.1 HSU.out, HOB.out, ((((HC.out.tr HWR.out).tr HC79.out).trans HC9.out (fun j hj => Or.inl (HPB.out j hj))).trans HDC.out (fun j hj => Or.inl (HPB.out j hj)))⟩
        case measure => simp [intOf]; omega
    have hb2 : (((Plain.atK ps id).length : Int) != 2) = true := by simp; omega
    have HMN := Lib.hid (Plain.mergeS_no h2)
    have HND9 := Lib.hid (HND.out.fresh HCX.out)
    rw [List.length_map]
    clear h2
    go_wp2
    go_roundw
    case rel => exact ⟨k + 1, by omega, by congr 1, vs', by rw [HS.out, HMN.out]; exact HND9.out, by rw [HS.out, HMN.out]; exact hlen, by rw [HS.out, HMN.out]; exact HSU.out, HOB.out, HC.out.tr HCX.out⟩
    case measure => simp [intOf]; omega
  have e : k = m := by omega
  subst e
  have hge : ¬ (-1 - (k : Int)) ≥ -(k : Int) := by omega
  clear hk hlt
  go_wp2
  go_ret
  exact ⟨_, rfl, ⟨_, HND.out⟩, HC.out⟩
namespace Plain
def ordK (a b : Int) : Int := if a ≥ 0 ∧ b ≥ 0 then a - b else b - a
end Plain
theorem order_any (a b : Int) (w : World) (ha : -1000000 ≤ a) (ha2 : a ≤ 1000000) (hb : -1000000 ≤ b) (hb2 : b ≤ 1000000) :
  Calls Tryz.prog 75 #[.int .i64 a, .int .i64 b] w fun e w' => e = .returned (.int .i64 (Plain.ordK a b)) ∧ w' = w := by
 unfold Plain.ordK
 by_cases h1 : a ≥ 0
 ·by_cases h2 : b ≥ 0
  ·rw [if_pos ⟨h1, h2⟩]
   go_enter Tryz.func75, Tryz.ntmps75
   go_wp2
   go_ret
   exact ⟨rfl, rfl⟩
  rw [if_neg (fun h => h2 h.2)]
  go_enter Tryz.func75, Tryz.ntmps75
  go_wp2
  go_ret
  exact ⟨rfl, rfl⟩
 rw [if_neg (fun h => h1 h.1)]
 go_enter Tryz.func75, Tryz.ntmps75
 go_wp2
 go_ret
 exact ⟨rfl, rfl⟩
theorem tlen_any (p : Nat) (ao : Option Addr) (n c : Nat) (w : World) (h0 : w.cell? ⟨p, 0, none⟩ = some (.slice ao n c)) : Calls Tryz.prog 12 #[.pointer (some ⟨p, 0, none⟩)] w fun e w' => e = .returned (.int .i64 n) ∧ w' = w := by
 go_enter Tryz.func12, Tryz.ntmps12
 go_wp2
 go_ret
 exact ⟨rfl, rfl⟩
theorem tnode_any (p : Nat) (v : Value) (vs : List Value) (ns : List Plain.Nd) (B : Nat) (k : Nat) (w : World) (h0 : w.cell? ⟨p, 0, none⟩ = some v) (hr : NdRow w B v vs ns) (hk : k < ns.length) (_hn : ns.length ≤ 100000) (hl : (Plain.nd0 ns k).l.length ≤ 1000000) : Calls Tryz.prog 8 #[.pointer (some ⟨p, 0, none⟩), .int .i64 k] w fun e w' => ∃ u, e = .returned (.tuple #[.agg #[.int .i64 (Plain.nd0 ns k).kind, u], .bool true]) ∧ LkRow w' w.heap.size u (Plain.nd0 ns k).l ∧ Chg [] w w' := by
 obtain ⟨ao, c, rfl⟩ := hr.shape
 obtain ⟨g, rfl, q0, q1, -⟩ := hr.some hk
 obtain ⟨hkI, hkr⟩ := hr.row k hk
 obtain ⟨xo, xc, ex⟩ := hkr.shape
 rw [ex] at q1 hkr
 have HKR := Lib.hid hkr
 obtain ⟨N, hN⟩ : ∃ N, Plain.nd0 ns k = N := ⟨_, rfl⟩
 rw [hN] at q0 q1 HKR hl ⊢
 have HC := Lib.hid ((Chg.refl [] w).alloc (.cells #[.int .i64 0, .slice none 0 0] 26))
 have HX := Lib.hid (heap_alloc_new w (.cells #[.int .i64 0, .slice none 0 0] 26))
 have h0 := HC.out.cel h0
 have q0 := HC.out.cel q0
 have q1 := HC.out.cel q1
 clear hr hkI hkr ex hN
 go_enter Tryz.func8, Tryz.ntmps8
 go_wp2_with fail
 have HSZ := Lib.hid (show w.heap.size < (w.alloc (.cells #[.int .i64 0, .slice none 0 0] 26)).heap.size by simp)
 generalize w.alloc (.cells #[.int .i64 0, .slice none 0 0] 26) = wa at *
 have hS0 : Chg [] wa wa.drew := (Chg.refl [] wa).drew
 refine wp_region_way (Chg [] wa) [0, 1, 2, 3, 4, 5, 6, 7, 8, 9, 10, 11, 12, 13, 14, 15] (Way.line [0, 1, 2, 3, 4, 5, 6, 7, 8, 9, 10, 11, 12, 13, 14, 15, 16, 17, 18, 19] .done) (by kernel_rfl) (by kernel_rfl) ?_
 simp only [Way.line]
 repeat
  first
   | (refine along_off rfl (by rfl) (by rfl) (fun _ _ _ h => h) hS0 ?_; simp only [Act.put, Z1, Z2, Z3, Z4, Z5, Z6])
   | (refine along_read (v := ?_) rfl (by rfl) (by rfl) (fun _ _ _ h => h) hS0 (fun w' hS' => ?_) ?_; rotate_left; (focus (have rd0 := hS'.cell h0 (by simp); have rd1 := hS'.cell q0 (by simp); have rd2 := hS'.cell q1 (by simp); clear hS'; go_simp; try with_reducible rfl)); simp only [Act.put, Z1, Z2, Z3, Z4, Z5, Z6])
   | (refine along_skip rfl (by rfl) (by rfl) hS0 ?_; simp only [Act.put, Z1, Z2, Z3, Z4, Z5, Z6])
 refine along_op rfl (by rfl) (by rfl) (fun K hK => ?_)
 go_simp
 refine (cloneL_any _ N.l 0 _ (by omega) ((HKR.out.fresh HC.out).fresh hS0)).mono ?_
 rintro e w2 ⟨u, rfl, hu, hc2⟩
 obtain ⟨uo, uc, rfl⟩ := hu.shape
 have HU := Lib.hid hu
 have HC2 := Lib.hid (hS0.trans hc2 (fun _ h => nomatch h))
 refine hK.out _ _ (fun _ => HC2.out) ?_
 clear hK K hS0 hu hc2
 try simp only [Act.put, Z1, Z2, Z3, Z4, Z5, Z6]
 refine along_op rfl (by rfl) (by rfl) (fun K hK => ?_)
 go_simp
 refine hK.out _ _ (fun h => absurd h (Bool.eq_false_iff.1 (by kernel_rfl))) ?_
 clear hK K
 try simp only [Act.put, Z1, Z2, Z3, Z4, Z5, Z6]
 have HXX := Lib.hid (HC2.out.hp HX.out)
 have x0 := (cell_of_row _ _ 0 _ _ _ HXX.out).trans (show _ = some (Value.int .i64 0) from rfl)
 have x1 := (cell_of_row _ _ 1 _ _ _ HXX.out).trans (show _ = some (Value.slice none 0 0) from rfl)
 have f0 := free_at HXX.out 0
 have f1 := free_at HXX.out 1
 refine along_op rfl (by rfl) (by rfl) (fun K hK => ?_)
 go_simp
 refine hK.out _ _ (fun h => absurd h (Bool.eq_false_iff.1 (by kernel_rfl))) ?_
 clear hK K
 try simp only [Act.put, Z1, Z2, Z3, Z4, Z5, Z6]
 refine along_op rfl (by rfl) (by rfl) (fun K hK => ?_)
 go_simp
 refine hK.out _ _ (fun h => absurd h (Bool.eq_false_iff.1 (by kernel_rfl))) ?_
 clear hK K
 try simp only [Act.put, Z1, Z2, Z3, Z4, Z5, Z6]
 refine along_done ?_
 obtain ⟨-, o0, o1, hc9⟩ := store2 (.int .i64 N.kind) (.slice uo N.l.length uc) HXX.out _ rfl
 have HR9 := Lib.hid (HU.out.chg hc9 (by
  intro b hb hm
  have e := List.mem_singleton.1 hm
  obtain ⟨cs, r, hh⟩ := HU.out.kind b hb
  rw [e, HXX.out] at hh
  simp at hh))
 have HC9 := Lib.hid (show Chg [] w _ from (HC.out.tr HC2.out).trans hc9 (fun j hj => Or.inr (by rw [List.mem_singleton.1 hj]; exact Nat.le_refl _)))
 clear hc9
 go_wp2
 refine bodyPost_ret (v := .tuple #[.agg #[.int .i64 N.kind, .slice uo N.l.length uc], .bool true]) (by simp [results, Tryz.results8, go_sem, o0, o1]) rfl ?_
 exact ⟨_, rfl, HR9.out.base (Nat.le_of_lt HSZ.out), HC9.out⟩
def Soft (W : World) (own : List Nat) : Prop := ∀ j ∈ own, (∃ cs t r, W.heap[j]? = some (.cells cs t r)) ∨ ∃ es c, W.heap[j]? = some (.map es c)
def Hard (W : World) (own : List Nat) : Prop := ∀ j ∈ own, (∀ cs t r, W.heap[j]? ≠ some (.cells cs t r)) ∧ ∀ es c, W.heap[j]? ≠ some (.map es c)
def Calmly {σ : Type} (B : Nat) (J : Nat → σ → World → Prop) : Prop := ∀ k s W W' own, J k s W → Chg own W W' → (∀ j ∈ own, B ≤ j) → Hard W own → J k s W'
def Moves {σ : Type} (J : Nat → σ → World → Prop) (k : Nat) (W W' : World) : Prop := ∃ s own, J k s W' ∧ Chg own W W' ∧ Soft W own
theorem Soft.nil (W : World) : Soft W [] := fun j hj => by cases hj
theorem Hard.nil (W : World) : Hard W [] := fun j hj => by cases hj
def Gives3 {σ : Type} (g : Nat) (lb : Array Value) (n : Nat) (View : σ → World → Prop) (Rd : Nat → σ → World → World → Value → Value → Prop) : Prop :=
 ∀ (l : Nat) (J : Nat → σ → World → Prop) (s : σ) (W : World), Calmly W.heap.size J → J 0 s W → (∀ k s W1, J k s W1 → View s W1) →
  (∀ k s W0 W1 v1 v2, J k s W0 → W.heap.size ≤ W0.heap.size → Chg [] W0 W1 → k < n → Rd k s W0 W1 v1 v2 → YieldAt Fence.wide 7 Tryz.prog l #[v1, v2] W1 fun e W' => e = .returned (.bool true) ∧ Moves J (k + 1) W1 W') →
  Calls Tryz.prog g (#[.func (.yield l) #[] #[]] ++ lb) W fun e W' => (∃ v, e = .returned v) ∧ ∃ s', J n s' W'
theorem range_own3 {σ : Type} {gop : Operand} {t1 t2 : Tmp} {assign body : Code} {Q : Exit → Act → World → Prop} {a : Act} {w : World} {gf : Nat} {lb : Array Value} {n : Nat} {View : σ → World → Prop} {Rd : Nat → σ → World → World → Value → Value → Prop}
  (hg : a.eval gop = .func (.func gf) #[] lb) (eg : ∀ args w, (callFunc gf args).run Tryz.prog w = .ok (.enter gf args) w) (hseq : Gives3 gf lb n View Rd)
  (hRd : ∀ k s W0 W W' v1 v2 own, Rd k s W0 W v1 v2 → Chg own W W' → Hard W own → Rd k s W0 W' v1 v2)
  (I : Nat → σ → World → Prop) (s0 : σ) (hI : Calmly w.heap.size I) (h0 : I 0 s0 w) (hview : ∀ k s W, I k s W → View s W)
  (asg : World → Value → Value → World) (a1 : World → Value → Value → Act) (hasg : ∀ W v1 v2, Chg [] W (asg W v1 v2))
  (hassign : ∀ l k s W0 W v1 v2 K, Rd k s W0 W v1 v2 → K (a1 W v1 v2) (asg W v1 v2) → assign.wpIn (Fence.wide.inRound l) 7 Tryz.prog (Exit.then K (fun _ _ _ => False)) { tmps := (a.tmps.setIfInBounds t1 v1).setIfInBounds t2 v2, defers := [] } W)
  (hbody : ∀ l k s W0 W W2 v1 v2, I k s W0 → Chg [] W0 W → w.heap.size ≤ W0.heap.size → Chg [l] (asg W v1 v2) W2 → (∃ r, W2.heap[l]? = some (.loop r)) → l < W.heap.size → w.heap.size ≤ l → I k s W2 → k < n → Rd k s W0 W2 v1 v2 → body.wpIn (Fence.wide.inRound l) 7 Tryz.prog (fun e _ W' => e = .normal ∧ Moves I (k + 1) W2 W') (a1 W v1 v2) W2)
  (hdone : ∀ D s W, w.heap.size ≤ D → I n s W → W.heap[D]? = some (.deferred (some [])) → Q .normal { a with defers := { target := .collected D, args := #[] } :: a.defers } W) :
  (Code.rangeFunc gop #[t1, t2] assign body).wpIn Fence.wide 9 Tryz.prog Q a w := by
 refine wpIn_rangeFunc fun fn hfn => ?_
 obtain ⟨rec, hrec⟩ : ∃ rec : LoopState → Loop, rec = fun st => { state := st, pending := none, fn, tmps := a.tmps, params := #[t1, t2], assign, body, defers := w.heap.size } := ⟨_, rfl⟩
 obtain ⟨W1, hW1⟩ : ∃ W1, (w.alloc (.deferred (some []))).alloc (.loop (rec .ready)) = W1 := ⟨_, rfl⟩
 have c1 : Chg [] w W1 := by rw [← hW1]; exact ((Chg.refl [] w).alloc _).alloc _
 have s1 : W1.heap.size = w.heap.size + 2 := by rw [← hW1]; simp
 have hL1 : W1.heap[w.heap.size + 1]? = some (.loop (rec .ready)) := by
  rw [← hW1]; have := heap_alloc_new (w.alloc (.deferred (some []))) (.loop (rec .ready)); rwa [World.size_alloc] at this
 have hD1 : W1.heap[w.heap.size]? = some (.deferred (some [])) := by
  rw [← hW1]; exact ((Chg.refl [] _).alloc _).hp (heap_alloc_new w _)
 refine ⟨w.heap.size + 1, [{ target := .collected w.heap.size, args := #[] }], W1, { target := .fn (.func gf) lb, args := #[.func (.yield (w.heap.size + 1)) #[] #[]] }, W1, gf, #[.func (.yield (w.heap.size + 1)) #[] #[]] ++ lb, W1, ?_, ?_, ?_, ?_, fun _ => by decide, callsIn_wide.2 ?_⟩
 ·rw [← hW1, hrec]; exact run_enterLoop_outer _ _ _ _ _
 ·simp only [resolve, hg]
  simp [go_sem]
 ·intro f' _; trivial
 ·simp [invoke, go_sem, eg]
 obtain ⟨D, hD⟩ : ∃ D, w.heap.size = D := ⟨_, rfl⟩
 rw [hD] at hL1 hD1 s1 hI hdone hbody ⊢
 have nc : ∀ {W : World} {r : Loop}, W.heap[D + 1]? = some (.loop r) → Hard W [D + 1] := fun h j hj => by
  rw [List.mem_singleton.1 hj, h]
  exact ⟨fun _ _ _ e => (by cases e), fun _ _ e => (by cases e)⟩
 have ge : ∀ j ∈ [D + 1], D ≤ j := fun j hj => by rw [List.mem_singleton.1 hj]; exact Nat.le_succ _
 refine (hseq (D + 1) (fun k s W => I k s W ∧ W.heap[D + 1]? = some (.loop (rec .ready)) ∧ W.heap[D]? = some (.deferred (some []))) s0 W1 ?_
  ⟨hI _ _ _ _ _ h0 c1 (by simp) (Hard.nil _), hL1, hD1⟩ (fun k s W1 h => hview _ _ _ h.1) ?_).mono ?_
 ·rintro k s W W' own ⟨i1, i4, i5⟩ hc ho hh
  have hn : D + 1 ∉ own ∧ D ∉ own := ⟨fun h => by have := ho _ h; omega, fun h => by have := ho _ h; omega⟩
  exact ⟨hI _ _ _ _ _ i1 hc (fun j hj => by have := ho j hj; omega) hh, hc.heap i4 hn.1, hc.heap i5 hn.2⟩
 ·rintro k s W0 W v1 v2 ⟨i0, i4, i5⟩ hsz0 hc0 hk hr
  have i1 := hI _ _ _ _ _ i0 hc0 (by simp) (Hard.nil _)
  have i4 := hc0.hp i4
  have i5 := hc0.hp i5
  have hy : (Instr.yield (D + 1) #[v1, v2]).run Tryz.prog W = .ok (.round (D + 1) fn ((a.tmps.setIfInBounds t1 v1).setIfInBounds t2 v2) assign body) W := by
   have := run_yield (P := Tryz.prog) (args := #[v1, v2]) i4 (by grind)
   rw [hrec] at this
   simpa using this
  refine ⟨fn, _, assign, body, hy, roundIn_of_wpIn hfn (hassign _ k s W0 W v1 v2 _ hr ?_)⟩
  have ca := hasg W v1 v2
  obtain ⟨Wa, hWa⟩ : ∃ Wa, asg W v1 v2 = Wa := ⟨_, rfl⟩
  have hbd := hbody (D + 1) k s W0 W
  rw [hWa] at ca ⊢
  have j0 := hI _ _ _ _ _ i1 ca (by simp) (Hard.nil _)
  have r0 := hRd _ _ _ _ _ _ _ _ hr ca (Hard.nil _)
  have hlW : D + 1 < W.heap.size := lt_of_block i4
  have i4W := i4
  have i4 := ca.hp i4
  have i5 := ca.hp i5
  refine ⟨_, run_beginRound i4 (by rw [hrec]), ?_⟩
  have c2 := chg_put (W := Wa) (l := D + 1) (.loop { rec .ready with state := .busy })
  have l2 : (Wa.putObj (D + 1) (.loop { rec .ready with state := .busy })).heap[D + 1]? = some (.loop { rec .ready with state := .busy }) := World.putObj_heap_same (lt_of_block i4)
  have j1 := hI _ _ _ _ _ j0 c2 ge (nc i4)
  have r2 := hRd _ _ _ _ _ _ _ _ r0 c2 (nc i4)
  have d2 := c2.heap i5 (by simp)
  have hb := hbd _ v1 v2 i0 hc0 (by omega) (by rw [hWa]; exact c2) ⟨_, l2⟩ hlW (by omega) j1 hk r2
  have csz := ca.size
  have hne : ∀ {own : List Nat} {W : World}, Soft W own → (∃ r, W.heap[D + 1]? = some (.loop r)) → W.heap[D]? = some (.deferred (some [])) → D + 1 ∉ own ∧ D ∉ own := by
   intro own W hs h1 h2
   obtain ⟨r, h1⟩ := h1
   constructor
   ·intro q
    rcases hs _ q with ⟨_, _, _, e⟩ | ⟨_, _, e⟩
    ·rw [h1] at e; cases e
    rw [h1] at e; cases e
   intro q
   rcases hs _ q with ⟨_, _, _, e⟩ | ⟨_, _, e⟩
   ·rw [h2] at e; cases e
   rw [h2] at e; cases e
  generalize hW2 : Wa.putObj (D + 1) (.loop { rec .ready with state := .busy }) = W2 at *
  refine wpIn_mono hb ?_
  rintro e a3 W3 ⟨rfl, s', own, h1, h2, h3⟩
  have hn := hne h3 ⟨_, l2⟩ d2
  have l3 := h2.heap l2 hn.1
  have d3 := h2.heap d2 hn.2
  have hr3 := run_endRound (P := Tryz.prog) none l3
  have hre : ({ rec .ready with state := .ready, pending := none } : Loop) = rec .ready := by rw [hrec]
  refine ⟨_, _, hr3, rfl, s', own.filter (· < W.heap.size), ⟨hI _ _ _ _ _ h1 (chg_put _) ge (nc l3), ?_, ?_⟩, ?_, ?_⟩
  ·rw [World.putObj_heap_same (lt_of_block l3)]; exact congrArg (fun r => some (Obj.loop r)) hre
  ·exact (chg_put (W := W3) (l := D + 1) _).heap d3 (by simp)
  ·have cAll : Chg (own ++ [D + 1]) W (W3.putObj (D + 1) (.loop { rec .ready with state := .ready, pending := none })) := (((ca.mono (own' := own ++ [D + 1]) (fun j hj => by cases hj)).trans c2 fun j hj => Or.inl (List.mem_append_right _ hj)).trans h2 fun j hj => Or.inl (List.mem_append_left _ hj)).trans (chg_put _) fun j hj => Or.inl (List.mem_append_right _ hj)
   refine ⟨cAll.os, cAll.tape, cAll.output, cAll.size, fun k hk hn' => ?_⟩
   by_cases ek : k = D + 1
   ·rw [ek, i4W, World.putObj_heap_same (lt_of_block l3)]
    exact congrArg (fun r => some (Obj.loop r)) hre
   refine cAll.block k hk fun q => ?_
   rcases List.mem_append.1 q with q | q
   ·exact hn' (List.mem_filter.2 ⟨q, decide_eq_true hk⟩)
   exact ek (List.mem_singleton.1 q)
  intro j hj
  obtain ⟨hj1, hj2⟩ := List.mem_filter.1 hj
  have hjw : j < W.heap.size := of_decide_eq_true hj2
  have hjd : j ∉ [D + 1] := fun q => hn.1 (by rw [← List.mem_singleton.1 q]; exact hj1)
  have e : W2.heap[j]? = W.heap[j]? := (c2.block j (by omega) hjd).trans (ca.block j hjw (by simp))
  have h4 := h3 j hj1
  rw [e] at h4
  exact h4
 rintro e W2 ⟨⟨v, rfl⟩, s', i1, i4, i5⟩
 have c4 := chg_put (W := W2) (l := D + 1) (.loop { rec .ready with state := .exhausted })
 exact ⟨none, _, by have := run_endLoop (P := Tryz.prog) i4 (by grind); rw [hrec] at this ⊢; exact this, hdone D s' _ (Nat.le_refl _) (hI _ _ _ _ _ i1 c4 ge (nc i4)) (c4.heap i5 (by simp))⟩
end Go.Proofs.YtpcgklagmcnhaaaGreat
