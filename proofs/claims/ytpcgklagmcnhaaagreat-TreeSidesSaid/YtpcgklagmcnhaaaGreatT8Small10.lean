/- law 10's small. Conditions: a graph, a part, a plan, a list of ints that lie in memory and read so. -/
import Derived.Test.YtpcgklagmcnhaaaGreatT8NSet
namespace Go.Proofs.YtpcgklagmcnhaaaGreat
open Go.RowKit Go.Maps
namespace Plain
end Plain
namespace Plain
end Plain
namespace Plain
end Plain
end Go.Proofs.YtpcgklagmcnhaaaGreat
namespace Go.Proofs.YtpcgklagmcnhaaaGreat
open Go.RowKit Go.Maps
namespace Plain
def orL : List Int → List Int → List Int
 | [], b => b
 | x :: a, [] => x :: a
 | x :: a, y :: b => if x ≤ y then (if x = y then x :: orL a b else x :: orL a (y :: b)) else y :: orL (x :: a) b
termination_by a b => a.length + b.length
theorem orL_nil (a : List Int) : orL a [] = a := by cases a <;> simp [orL]
theorem nil_orL (b : List Int) : orL [] b = b := by simp [orL]
theorem mem_orL {x : Int} : ∀ {a b : List Int}, x ∈ orL a b ↔ x ∈ a ∨ x ∈ b
 | [], b => by simp [orL]
 | y :: a, [] => by simp [orL]
 | y :: a, z :: b => by
  rw [orL]
  split
  ·split
   ·rename_i h; subst h
    rw [List.mem_cons, mem_orL, List.mem_cons, List.mem_cons]
    exact ⟨fun h => h.elim (fun h => Or.inl (Or.inl h)) (fun h => h.elim (fun h => Or.inl (Or.inr h)) (fun h => Or.inr (Or.inr h))), fun h => h.elim (fun h => h.elim Or.inl (fun h => Or.inr (Or.inl h))) (fun h => h.elim Or.inl (fun h => Or.inr (Or.inr h)))⟩
   have ih := mem_orL (x := x) (a := a) (b := z :: b)
   simp only [List.mem_cons, or_assoc] at ih ⊢
   rw [ih]
  rw [List.mem_cons, mem_orL, List.mem_cons (b := z)]
  exact ⟨fun h => h.elim (fun h => Or.inr (Or.inl h)) (fun h => h.elim Or.inl (fun h => Or.inr (Or.inr h))), fun h => h.elim (fun h => Or.inr (Or.inl h)) (fun h => h.elim Or.inl (fun h => Or.inr (Or.inr h)))⟩
termination_by a b => a.length + b.length
theorem orL_rise : ∀ {a b : List Int}, a.Pairwise (· < ·) → b.Pairwise (· < ·) → (orL a b).Pairwise (· < ·)
 | [], b, _, hb => by rw [nil_orL]; exact hb
 | y :: a, [], ha, _ => by rw [orL_nil]; exact ha
 | y :: a, z :: b, ha, hb => by
  have ha1 := List.pairwise_cons.1 ha
  have hb1 := List.pairwise_cons.1 hb
  rw [orL]
  split
  ·split
   ·rename_i h; subst h
    refine List.pairwise_cons.2 ⟨fun x hx => ?_, orL_rise ha1.2 hb1.2⟩
    exact (mem_orL.1 hx).elim (ha1.1 x) (hb1.1 x)
   rename_i h1 h2
   refine List.pairwise_cons.2 ⟨fun x hx => ?_, orL_rise ha1.2 hb⟩
   rcases mem_orL.1 hx with h | h
   ·exact ha1.1 x h
   rcases List.mem_cons.1 h with h | h
   ·omega
   have := hb1.1 x h; omega
  rename_i h1
  refine List.pairwise_cons.2 ⟨fun x hx => ?_, orL_rise ha hb1.2⟩
  rcases mem_orL.1 hx with h | h
  ·rcases List.mem_cons.1 h with h | h
   ·omega
   have := ha1.1 x h; omega
  exact hb1.1 x h
termination_by a b => a.length + b.length
theorem drop_at {a : List Int} {i : Nat} (h : i < a.length) : a.drop i = a.getD i 0 :: a.drop (i + 1) := by
 rw [List.drop_eq_getElem_cons h, show a.getD i 0 = a[i] by simp [List.getD, h]]
theorem orL_eq {a b : List Int} {i k : Nat} (hi : i < a.length) (hk : k < b.length) (h : a.getD i 0 = b.getD k 0) : orL (a.drop i) (b.drop k) = [a.getD i 0] ++ orL (a.drop (i + 1)) (b.drop (k + 1)) := by
 rw [drop_at hi, drop_at hk, orL, if_pos (by omega), if_pos h]; rfl
theorem orL_lt {a b : List Int} {i k : Nat} (hi : i < a.length) (hk : k < b.length) (h : a.getD i 0 ≤ b.getD k 0) (hn : ¬ a.getD i 0 = b.getD k 0) : orL (a.drop i) (b.drop k) = [a.getD i 0] ++ orL (a.drop (i + 1)) (b.drop k) := by
 rw [drop_at hi, drop_at hk, orL, if_pos h, if_neg hn]; rfl
theorem orL_gt {a b : List Int} {i k : Nat} (hi : i < a.length) (hk : k < b.length) (h : ¬ a.getD i 0 ≤ b.getD k 0) : orL (a.drop i) (b.drop k) = [b.getD k 0] ++ orL (a.drop i) (b.drop (k + 1)) := by
 rw [drop_at hi, drop_at hk, orL, if_neg h]; rfl
theorem orL_left {a b : List Int} {i : Nat} (hi : i < a.length) : orL (a.drop i) (b.drop b.length) = [a.getD i 0] ++ orL (a.drop (i + 1)) (b.drop b.length) := by
 rw [drop_at hi, List.drop_length, orL_nil, orL_nil]; rfl
theorem orL_right {a b : List Int} {k : Nat} (hk : k < b.length) : orL (a.drop a.length) (b.drop k) = [b.getD k 0] ++ orL (a.drop a.length) (b.drop (k + 1)) := by
 rw [drop_at hk, List.drop_length, nil_orL, nil_orL]; rfl
end Plain
set_option maxRecDepth 100000 in
set_option maxHeartbeats 4000000 in
theorem refOrL_any (va vb : Value) (a b : List Int) (w : World) (hla : a.length ≤ 1000000) (hlb : b.length ≤ 1000000) (ha : IntsAt w va a) (hb : IntsAt w vb b) :
  Calls Tryz.prog 21 #[va, vb] w fun e w' => ∃ ov, e = .returned ov ∧ RowAt w' w.heap.size ov (Plain.orL a b) ∧ Chg [] w w' := by
 have HA := Lib.hid ha
 have HB := Lib.hid hb
 obtain ⟨ao, ac, rfl, hia, -, -⟩ := ha
 obtain ⟨bo, bc, rfl, hib, -, -⟩ := hb
 have HIA := Lib.hid hia
 have HIB := Lib.hid hib
 clear hia hib
 go_enter Tryz.func21, Tryz.ntmps21
 go_wp2
 go_loopw [5, 6, 7] (fun ov c d wr => ∃ (i k : Nat) (M : List Int), c = .int .i64 i ∧ d = .int .i64 k ∧ i ≤ a.length ∧ k ≤ b.length ∧ M.length ≤ i + k ∧ RowAt wr w.heap.size ov M ∧ Hid (M ++ Plain.orL (a.drop i) (b.drop k) = Plain.orL a b) ∧ Chg [] w wr) (fun _ c d _ => a.length - (intOf c).toNat + (b.length - (intOf d).toNat))
 case atStart => exact ⟨0, 0, [], rfl, rfl, Nat.zero_le _, Nat.zero_le _, Nat.le_refl _, rowNil' _ _, Lib.hid (by simp), Chg.refl _ _⟩
 case round =>
  obtain ⟨i, k, M, rfl, rfl, hi, hk, hml, hrow, HM, hc⟩ := hrel
  have HROW := Lib.hid hrow
  have HC := Lib.hid hc
  have HBS := Lib.hid (show w.heap.size ≤ wr.heap.size from hc.size)
  obtain ⟨oo, oc, rfl⟩ := hrow.shape
  clear hrow
  by_cases hia : i < a.length
  ·have bi : decide ((i : Int) < (a.length : Int)) = true := decide_eq_true (by omega)
   obtain ⟨ab, aoff, rfl, ca⟩ := IntsAt.cellAt HA.out hia
   have acell := hc.cel ca
   have hma := Plain.getD_mem hia
   have IX := HIA.out _ hma
   have HL1 := Lib.hid (Plain.orL_left (a := a) (b := b) hia)
   have HL2 := Lib.hid (fun k (hk : k < b.length) => Plain.orL_eq (a := a) (b := b) hia hk)
   have HL3 := Lib.hid (fun k (hk : k < b.length) => Plain.orL_lt (a := a) (b := b) hia hk)
   have HL4 := Lib.hid (fun k (hk : k < b.length) => Plain.orL_gt (a := a) (b := b) hia hk)
   obtain ⟨x, hx⟩ : ∃ x, a.getD i 0 = x := ⟨_, rfl⟩
   rw [hx] at acell hma IX HL1 HL2 HL3 HL4
   clear ca hma hx
   by_cases hkb : k < b.length
   ·have bk : ((k : Int) == (b.length : Int)) = false := by rw [beq_eq_false_iff_ne]; omega
    have bk2 : decide ((k : Int) < (b.length : Int)) = true := decide_eq_true (by omega)
    obtain ⟨bb, boff, rfl, cb⟩ := IntsAt.cellAt HB.out hkb
    have bcell := hc.cel cb
    have hmb := Plain.getD_mem hkb
    have IY := HIB.out _ hmb
    have HL2 := Lib.hid (HL2.out k hkb)
    have HL3 := Lib.hid (HL3.out k hkb)
    have HL4 := Lib.hid (HL4.out k hkb)
    obtain ⟨y, hy⟩ : ∃ y, b.getD k 0 = y := ⟨_, rfl⟩
    rw [hy] at bcell hmb IY HL2 HL3 HL4
    clear cb hmb hy
    clear hc
    by_cases hxy : x ≤ y
    ·have bxy : decide (x ≤ y) = true := decide_eq_true hxy
     by_cases hexy : x = y
     ·have be : (x == y) = true := by rw [beq_iff_eq]; exact hexy
      have HMX := Lib.hid (show (M ++ [x]) ++ _ = Plain.orL a b from by rw [List.append_assoc, ← HL2.out hexy]; exact HM.out)
      clear hexy hxy
      go_wp2
      have hS0 : Chg [] wr wr.drew := (Chg.refl [] wr).drew
      refine wp_region_way (Chg [] wr) [0, 1, 2, 3, 4, 5, 6, 7, 8, 9, 10, 11, 12, 13, 14, 15, 16, 17, 18, 19, 20] (Way.line [0, 1, 2, 3, 4, 5, 6, 7, 8, 9, 10, 11, 12, 13, 14, 15, 16, 17, 18, 19, 20] .done) (by kernel_rfl) (by kernel_rfl) ?_
      simp only [Way.line]
      repeat
       first
        | (refine along_off rfl (by rfl) (by rfl) (fun _ _ _ h => h) hS0 ?_; simp only [Act.put, Z1, Z2, Z3, Z4, Z5, Z6])
        | (refine along_read (v := ?_) rfl (by rfl) (by rfl) (fun _ _ _ h => h) hS0 (fun w' hS' => ?_) ?_; rotate_left; (focus (have rd0 := hS'.cell acell (by simp); have rd1 := hS'.cell bcell (by simp); clear hS'; go_simp; try with_reducible rfl)); simp only [Act.put, Z1, Z2, Z3, Z4, Z5, Z6])
        | (refine along_skip rfl (by rfl) (by rfl) hS0 ?_; simp only [Act.put, Z1, Z2, Z3, Z4, Z5, Z6])
      refine along_done ?_
      have HC2 := Lib.hid (HC.out.tr hS0)
      have HROW2 := Lib.hid (HROW.out.chg hS0 (by simp))
      have acell := hS0.cel acell
      have bcell := hS0.cel bcell
      have HBS2 := Lib.hid (Nat.le_trans HBS.out hS0.size)
      clear hS0
      generalize wr.drew = wq at *
      go_wp2
      have hS0 : Chg [] wq wq.drew := (Chg.refl [] wq).drew
      refine wp_region_way (Chg [] wq) [0, 1, 2, 3, 4, 5, 6, 7, 8, 9, 10, 11, 12, 13, 14] (Way.line [0, 1, 2, 3, 4, 5, 6, 7, 8, 9, 10, 11, 12, 13, 14] .done) (by kernel_rfl) (by kernel_rfl) ?_
      simp only [Way.line]
      repeat
       first
        | (refine along_off rfl (by rfl) (by rfl) (fun _ _ _ h => h) hS0 ?_; simp only [Act.put, Z1, Z2, Z3, Z4, Z5, Z6])
        | (refine along_read (v := ?_) rfl (by rfl) (by rfl) (fun _ _ _ h => h) hS0 (fun w' hS' => ?_) ?_; rotate_left; (focus (have rd0 := hS'.cell acell (by simp); have rd1 := hS'.cell bcell (by simp); clear hS'; go_simp; try with_reducible rfl)); simp only [Act.put, Z1, Z2, Z3, Z4, Z5, Z6])
        | (refine along_skip rfl (by rfl) (by rfl) hS0 ?_; simp only [Act.put, Z1, Z2, Z3, Z4, Z5, Z6])
      refine along_done ?_
      have HC3 := Lib.hid (HC2.out.tr hS0)
      have HROW3 := Lib.hid (HROW2.out.chg hS0 (by simp))
      have acell := hS0.cel acell
      have HBS3 := Lib.hid (Nat.le_trans HBS2.out hS0.size)
      clear hS0 bcell
      generalize wq.drew = wz at *
      go_wp2_with (at_builtin; refine wl_push rfl _ _ rfl (B := w.heap.size) (v := .slice oo _ oc) rfl rfl HROW3.out IX HBS3.out (by omega) rfl ?_; intro v6 w6 r6 c6 f6; have R6 := Lib.hid r6; have C6 := Lib.hid c6; clear r6 c6 f6)
      go_roundw
      case rel => exact ⟨i + 1, k + 1, M ++ [x], by go_num, by go_num, by omega, by omega, by simp; omega, R6.out, HMX, HC3.out.trans C6.out (fun j hj => Or.inr (by rw [HROW3.out.foot] at hj; exact (HROW3.out.low j hj).1))⟩
      case measure => simp [intOf]; omega
     have be : (x == y) = false := by rw [beq_eq_false_iff_ne]; exact hexy
     have HMX := Lib.hid (show (M ++ [x]) ++ _ = Plain.orL a b from by rw [List.append_assoc, ← HL3.out hxy hexy]; exact HM.out)
     clear hexy hxy
     go_wp2
     have hS0 : Chg [] wr wr.drew := (Chg.refl [] wr).drew
     refine wp_region_way (Chg [] wr) [0, 1, 2, 3, 4, 5, 6, 7, 8, 9, 10, 11, 12, 13, 14, 15, 16, 17, 18, 19, 20] (Way.line [0, 1, 2, 3, 4, 5, 6, 7, 8, 9, 10, 11, 12, 13, 14, 15, 16, 17, 18, 19, 20] .done) (by kernel_rfl) (by kernel_rfl) ?_
     simp only [Way.line]
     repeat
      first
       | (refine along_off rfl (by rfl) (by rfl) (fun _ _ _ h => h) hS0 ?_; simp only [Act.put, Z1, Z2, Z3, Z4, Z5, Z6])
       | (refine along_read (v := ?_) rfl (by rfl) (by rfl) (fun _ _ _ h => h) hS0 (fun w' hS' => ?_) ?_; rotate_left; (focus (have rd0 := hS'.cell acell (by simp); have rd1 := hS'.cell bcell (by simp); clear hS'; go_simp; try with_reducible rfl)); simp only [Act.put, Z1, Z2, Z3, Z4, Z5, Z6])
       | (refine along_skip rfl (by rfl) (by rfl) hS0 ?_; simp only [Act.put, Z1, Z2, Z3, Z4, Z5, Z6])
     refine along_done ?_
     have HC2 := Lib.hid (HC.out.tr hS0)
     have HROW2 := Lib.hid (HROW.out.chg hS0 (by simp))
     have acell := hS0.cel acell
     have bcell := hS0.cel bcell
     have HBS2 := Lib.hid (Nat.le_trans HBS.out hS0.size)
     clear hS0
     generalize wr.drew = wq at *
     go_wp2
     have hS0 : Chg [] wq wq.drew := (Chg.refl [] wq).drew
     refine wp_region_way (Chg [] wq) [0, 1, 2, 3, 4, 5, 6, 7, 8, 9, 10, 11, 12, 13, 14] (Way.line [0, 1, 2, 3, 4, 5, 6, 7, 8, 9, 10, 11, 12, 13, 14] .done) (by kernel_rfl) (by kernel_rfl) ?_
     simp only [Way.line]
     repeat
      first
       | (refine along_off rfl (by rfl) (by rfl) (fun _ _ _ h => h) hS0 ?_; simp only [Act.put, Z1, Z2, Z3, Z4, Z5, Z6])
       | (refine along_read (v := ?_) rfl (by rfl) (by rfl) (fun _ _ _ h => h) hS0 (fun w' hS' => ?_) ?_; rotate_left; (focus (have rd0 := hS'.cell acell (by simp); have rd1 := hS'.cell bcell (by simp); clear hS'; go_simp; try with_reducible rfl)); simp only [Act.put, Z1, Z2, Z3, Z4, Z5, Z6])
       | (refine along_skip rfl (by rfl) (by rfl) hS0 ?_; simp only [Act.put, Z1, Z2, Z3, Z4, Z5, Z6])
     refine along_done ?_
     have HC3 := Lib.hid (HC2.out.tr hS0)
     have HROW3 := Lib.hid (HROW2.out.chg hS0 (by simp))
     have acell := hS0.cel acell
     have HBS3 := Lib.hid (Nat.le_trans HBS2.out hS0.size)
     clear hS0 bcell
     generalize wq.drew = wz at *
     go_wp2_with (at_builtin; refine wl_push rfl _ _ rfl (B := w.heap.size) (v := .slice oo _ oc) rfl rfl HROW3.out IX HBS3.out (by omega) rfl ?_; intro v6 w6 r6 c6 f6; have R6 := Lib.hid r6; have C6 := Lib.hid c6; clear r6 c6 f6)
     go_roundw
     case rel => exact ⟨i + 1, k, M ++ [x], by go_num, by go_num, by omega, by omega, by simp; omega, R6.out, HMX, HC3.out.trans C6.out (fun j hj => Or.inr (by rw [HROW3.out.foot] at hj; exact (HROW3.out.low j hj).1))⟩
     case measure => simp [intOf]; omega
    have bxy : decide (x ≤ y) = false := decide_eq_false hxy
    have HMY := Lib.hid (show (M ++ [y]) ++ _ = Plain.orL a b from by rw [List.append_assoc, ← HL4.out hxy]; exact HM.out)
    clear hxy
    go_wp2
    have hS0 : Chg [] wr wr.drew := (Chg.refl [] wr).drew
    refine wp_region_way (Chg [] wr) [0, 1, 2, 3, 4, 5, 6, 7, 8, 9, 10, 11, 12, 13, 14, 15, 16, 17, 18, 19, 20] (Way.line [0, 1, 2, 3, 4, 5, 6, 7, 8, 9, 10, 11, 12, 13, 14, 15, 16, 17, 18, 19, 20] .done) (by kernel_rfl) (by kernel_rfl) ?_
    simp only [Way.line]
    repeat
     first
      | (refine along_off rfl (by rfl) (by rfl) (fun _ _ _ h => h) hS0 ?_; simp only [Act.put, Z1, Z2, Z3, Z4, Z5, Z6])
      | (refine along_read (v := ?_) rfl (by rfl) (by rfl) (fun _ _ _ h => h) hS0 (fun w' hS' => ?_) ?_; rotate_left; (focus (have rd0 := hS'.cell acell (by simp); have rd1 := hS'.cell bcell (by simp); clear hS'; go_simp; try with_reducible rfl)); simp only [Act.put, Z1, Z2, Z3, Z4, Z5, Z6])
      | (refine along_skip rfl (by rfl) (by rfl) hS0 ?_; simp only [Act.put, Z1, Z2, Z3, Z4, Z5, Z6])
    refine along_done ?_
    have HC2 := Lib.hid (HC.out.tr hS0)
    have HROW2 := Lib.hid (HROW.out.chg hS0 (by simp))
    have acell := hS0.cel acell
    have bcell := hS0.cel bcell
    have HBS2 := Lib.hid (Nat.le_trans HBS.out hS0.size)
    clear hS0
    generalize wr.drew = wq at *
    clear acell
    go_wp2_with (at_builtin; refine wl_push rfl _ _ rfl (B := w.heap.size) (v := .slice oo _ oc) rfl rfl HROW2.out IY HBS2.out (by omega) rfl ?_; intro v6 w6 r6 c6 f6; have R6 := Lib.hid r6; have C6 := Lib.hid c6; clear r6 c6 f6)
    go_roundw
    case rel => exact ⟨i, k + 1, M ++ [y], by go_num, by go_num, by omega, by omega, by simp; omega, R6.out, HMY, HC2.out.trans C6.out (fun j hj => Or.inr (by rw [HROW2.out.foot] at hj; exact (HROW2.out.low j hj).1))⟩
    case measure => simp [intOf]; omega
   obtain rfl : k = b.length := by omega
   have bk : ((b.length : Int) == (b.length : Int)) = true := by simp
   have bk2 : decide ((b.length : Int) < (b.length : Int)) = false := decide_eq_false (by omega)
   have HMX := Lib.hid (show (M ++ [x]) ++ _ = Plain.orL a b from by rw [List.append_assoc, ← HL1.out]; exact HM.out)
   clear hc
   go_wp2
   have hS0 : Chg [] wr wr.drew := (Chg.refl [] wr).drew
   refine wp_region_way (Chg [] wr) [0, 1, 2, 3, 4, 5, 6, 7, 8, 9, 10, 11, 12, 13, 14, 15, 16, 17, 18, 19, 20] (Way.line [0, 1, 2, 3, 4, 5, 6, 7, 8, 9, 10, 11, 12, 13, 14, 15, 16, 17, 18, 19, 20] .done) (by kernel_rfl) (by kernel_rfl) ?_
   simp only [Way.line]
   repeat
    first
     | (refine along_off rfl (by rfl) (by rfl) (fun _ _ _ h => h) hS0 ?_; simp only [Act.put, Z1, Z2, Z3, Z4, Z5, Z6])
     | (refine along_read (v := ?_) rfl (by rfl) (by rfl) (fun _ _ _ h => h) hS0 (fun w' hS' => ?_) ?_; rotate_left; (focus (have rd0 := hS'.cell acell (by simp); clear hS'; go_simp; try with_reducible rfl)); simp only [Act.put, Z1, Z2, Z3, Z4, Z5, Z6])
     | (refine along_skip rfl (by rfl) (by rfl) hS0 ?_; simp only [Act.put, Z1, Z2, Z3, Z4, Z5, Z6])
   refine along_done ?_
   have HC2 := Lib.hid (HC.out.tr hS0)
   have HROW2 := Lib.hid (HROW.out.chg hS0 (by simp))
   have acell := hS0.cel acell
   have HBS2 := Lib.hid (Nat.le_trans HBS.out hS0.size)
   clear hS0
   generalize wr.drew = wq at *
   go_wp2
   have hS0 : Chg [] wq wq.drew := (Chg.refl [] wq).drew
   refine wp_region_way (Chg [] wq) [0, 1, 2, 3, 4, 5, 6, 7, 8, 9, 10, 11, 12, 13, 14] (Way.line [0, 1, 2, 3, 4, 5, 6, 7, 8, 9, 10, 11, 12, 13, 14] .done) (by kernel_rfl) (by kernel_rfl) ?_
   simp only [Way.line]
   repeat
    first
     | (refine along_off rfl (by rfl) (by rfl) (fun _ _ _ h => h) hS0 ?_; simp only [Act.put, Z1, Z2, Z3, Z4, Z5, Z6])
     | (refine along_read (v := ?_) rfl (by rfl) (by rfl) (fun _ _ _ h => h) hS0 (fun w' hS' => ?_) ?_; rotate_left; (focus (have rd0 := hS'.cell acell (by simp); clear hS'; go_simp; try with_reducible rfl)); simp only [Act.put, Z1, Z2, Z3, Z4, Z5, Z6])
     | (refine along_skip rfl (by rfl) (by rfl) hS0 ?_; simp only [Act.put, Z1, Z2, Z3, Z4, Z5, Z6])
   refine along_done ?_
   have HC3 := Lib.hid (HC2.out.tr hS0)
   have HROW3 := Lib.hid (HROW2.out.chg hS0 (by simp))
   have acell := hS0.cel acell
   have HBS3 := Lib.hid (Nat.le_trans HBS2.out hS0.size)
   clear hS0
   generalize wq.drew = wz at *
   go_wp2_with (at_builtin; refine wl_push rfl _ _ rfl (B := w.heap.size) (v := .slice oo _ oc) rfl rfl HROW3.out IX HBS3.out (by omega) rfl ?_; intro v6 w6 r6 c6 f6; have R6 := Lib.hid r6; have C6 := Lib.hid c6; clear r6 c6 f6)
   go_roundw
   case rel => exact ⟨i + 1, b.length, M ++ [x], by go_num, by go_num, by omega, by omega, by simp; omega, R6.out, HMX, HC3.out.trans C6.out (fun j hj => Or.inr (by rw [HROW3.out.foot] at hj; exact (HROW3.out.low j hj).1))⟩
   case measure => simp [intOf]; omega
  obtain rfl : i = a.length := by omega
  have bi : decide ((a.length : Int) < (a.length : Int)) = false := decide_eq_false (by omega)
  by_cases hkb : k < b.length
  ·have bk : ((k : Int) == (b.length : Int)) = false := by rw [beq_eq_false_iff_ne]; omega
   have bk2 : decide ((k : Int) < (b.length : Int)) = true := decide_eq_true (by omega)
   obtain ⟨bb, boff, rfl, cb⟩ := IntsAt.cellAt HB.out hkb
   have bcell := hc.cel cb
   have hmb := Plain.getD_mem hkb
   have IY := HIB.out _ hmb
   have HL5 := Lib.hid (Plain.orL_right (a := a) (b := b) hkb)
   obtain ⟨y, hy⟩ : ∃ y, b.getD k 0 = y := ⟨_, rfl⟩
   rw [hy] at bcell hmb IY HL5
   have HMY := Lib.hid (show (M ++ [y]) ++ _ = Plain.orL a b from by rw [List.append_assoc, ← HL5.out]; exact HM.out)
   clear cb hmb hy
   clear hc
   go_wp2
   have hS0 : Chg [] wr wr.drew := (Chg.refl [] wr).drew
   refine wp_region_way (Chg [] wr) [0, 1, 2, 3, 4, 5, 6, 7, 8, 9, 10, 11, 12, 13, 14, 15, 16, 17, 18, 19, 20] (Way.line [0, 1, 2, 3, 4, 5, 6, 7, 8, 9, 10, 11, 12, 13, 14, 15, 16, 17, 18, 19, 20] .done) (by kernel_rfl) (by kernel_rfl) ?_
   simp only [Way.line]
   repeat
    first
     | (refine along_off rfl (by rfl) (by rfl) (fun _ _ _ h => h) hS0 ?_; simp only [Act.put, Z1, Z2, Z3, Z4, Z5, Z6])
     | (refine along_read (v := ?_) rfl (by rfl) (by rfl) (fun _ _ _ h => h) hS0 (fun w' hS' => ?_) ?_; rotate_left; (focus (have rd0 := hS'.cell bcell (by simp); clear hS'; go_simp; try with_reducible rfl)); simp only [Act.put, Z1, Z2, Z3, Z4, Z5, Z6])
     | (refine along_skip rfl (by rfl) (by rfl) hS0 ?_; simp only [Act.put, Z1, Z2, Z3, Z4, Z5, Z6])
   refine along_done ?_
   have HC2 := Lib.hid (HC.out.tr hS0)
   have HROW2 := Lib.hid (HROW.out.chg hS0 (by simp))
   have bcell := hS0.cel bcell
   have HBS2 := Lib.hid (Nat.le_trans HBS.out hS0.size)
   clear hS0
   generalize wr.drew = wq at *
   go_wp2_with (at_builtin; refine wl_push rfl _ _ rfl (B := w.heap.size) (v := .slice oo _ oc) rfl rfl HROW2.out IY HBS2.out (by omega) rfl ?_; intro v6 w6 r6 c6 f6; have R6 := Lib.hid r6; have C6 := Lib.hid c6; clear r6 c6 f6)
   go_roundw
   case rel => exact ⟨a.length, k + 1, M ++ [y], by go_num, by go_num, by omega, by omega, by simp; omega, R6.out, HMY, HC2.out.trans C6.out (fun j hj => Or.inr (by rw [HROW2.out.foot] at hj; exact (HROW2.out.low j hj).1))⟩
   case measure => simp [intOf]; omega
  obtain rfl : k = b.length := by omega
  have bk2 : decide ((b.length : Int) < (b.length : Int)) = false := decide_eq_false (by omega)
  clear hc
  have HZ := Lib.hid (show M = Plain.orL a b by have := HM.out; rwa [List.drop_length, List.drop_length, Plain.nil_orL, List.append_nil] at this)
  go_wp2
  go_ret
  exact ⟨_, rfl, by rw [← HZ.out]; exact HROW.out, HC.out⟩
end Go.Proofs.YtpcgklagmcnhaaaGreat
