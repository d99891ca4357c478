/- rest.To's last part: the lists by their first numbers. Conditions: what each law says. -/
import Derived.Test.YtpcgklagmcnhaaaGreatT8Around9
-- READS ONLY
namespace Go.Proofs.YtpcgklagmcnhaaaGreat
open Go.RowKit Go.Maps
end Go.Proofs.YtpcgklagmcnhaaaGreat
-- READS ONLY
namespace Go.Proofs.YtpcgklagmcnhaaaGreat
open Go.RowKit Go.Maps
namespace Plain
def andOf (b a : List Int) : List Int := a.filter fun x => decide (x ∈ b)
theorem andOf_snoc (b : List Int) {a : List Int} {k : Nat} (hk : k < a.length) : andOf b (a.take (k + 1)) = if a.getD k 0 ∈ b then andOf b (a.take k) ++ [a.getD k 0] else andOf b (a.take k) := by
 unfold andOf
 rw [take_snoc hk, List.filter_append]
 by_cases h : a.getD k 0 ∈ b
 ·rw [if_pos h, List.filter_cons_of_pos (by simpa using h)]; rfl
 rw [if_neg h, List.filter_cons_of_neg (by simpa using h)]; simp
theorem andOf_len (b a : List Int) : (andOf b a).length ≤ a.length := List.length_filter_le _ _
end Plain
set_option maxRecDepth 100000 in
set_option maxHeartbeats 2000000 in
theorem refAnd_any (va vb : Value) (a b : List Int) (w : World) (hl : a.length < 1000000000) (ha : IntsAt w va a) (hb : IntsAt w vb b) :
  Calls Tryz.prog 19 #[va, vb] w fun e w' => ∃ ov, e = .returned ov ∧ RowAt w' w.heap.size ov (Plain.andOf b a) ∧ Chg [] w w' := by
 have HA := Lib.hid ha
 have HB := Lib.hid hb
 obtain ⟨ao, ac, rfl, -, -, -⟩ := ha
 clear hb
 go_enter Tryz.func19, Tryz.ntmps19
 go_wp2
 go_loopw [5, 6] (fun ov c wr => ∃ k : Nat, k ≤ a.length ∧ c = .int .i64 k ∧ RowAt wr w.heap.size ov (Plain.andOf b (a.take k)) ∧ Chg [] w wr) (fun _ c _ => a.length - (intOf c).toNat)
 case atStart => exact ⟨0, Nat.zero_le _, rfl, rowNil' _ _, Chg.refl _ _⟩
 case round =>
  obtain ⟨k, hk, rfl, hrow, hc⟩ := hrel
  have HROW := Lib.hid hrow
  have HC := Lib.hid hc
  have HW := Lib.hid (show w.heap.size ≤ wr.heap.size from hc.size)
  obtain ⟨oo, oc, rfl⟩ := hrow.shape
  have hkl := Nat.le_trans (Plain.andOf_len b (a.take k)) (List.length_take_le k a)
  clear hrow
  by_cases hlt : k < a.length
  ·obtain ⟨rb, roff, rfl, rc⟩ := IntsAt.cellAt HA.out hlt
   have rcell := hc.cell rc (by simp)
   have IX : I64 (a.getD k 0) := by obtain ⟨_, _, -, h, -, -⟩ := HA.out; exact h _ (Plain.getD_mem hlt)
   have HNX := Lib.hid (Plain.andOf_snoc b hlt)
   obtain ⟨x, hx⟩ : ∃ x, a.getD k 0 = x := ⟨_, rfl⟩
   rw [hx] at rcell HNX IX
   obtain ⟨M, hM⟩ : ∃ M, Plain.andOf b (a.take k) = M := ⟨_, rfl⟩
   rw [hM] at HNX HROW hkl ⊢
   have HRC := Lib.hid rcell
   clear rc hx hc hM
   go_wp2_with fail
   refine (in_any _ b x _ (HB.out.fresh HC.out)).mono ?_
   rintro e w2 ⟨rfl, hc2⟩
   have HC2 := Lib.hid (HC.out.trans hc2 (by simp))
   have HROW2 := Lib.hid (HROW.out.chg hc2 (by simp))
   have HW2 := Lib.hid (Nat.le_trans HW.out hc2.size)
   clear rcell
   have rcell := hc2.cell HRC.out (by simp)
   clear hc2
   by_cases h : x ∈ b
   ·have HS := Lib.hid (HNX.out.trans (if_pos h))
    rw [decide_eq_true h]
    have hml : M.length < 4294967290 := by omega
    clear h
    go_wp2_with (at_builtin; refine wl_push rfl _ _ rfl (B := w.heap.size) (v := .slice oo _ oc) rfl rfl HROW2.out IX HW2.out hml rfl ?_; intro v6 w6 r6 c6 f6; have R6 := Lib.hid r6; have C6 := Lib.hid c6; clear r6 c6 f6)
    go_roundw
    case rel => exact ⟨k + 1, by omega, by go_num, by rw [HS.out]; exact R6.out, HC2.out.trans C6.out (fun j hj => Or.inr (by rw [HROW2.out.foot] at hj; exact (HROW2.out.low j hj).1))⟩
    case measure => simp [intOf]; omega
   have HS := Lib.hid (HNX.out.trans (if_neg h))
   rw [decide_eq_false h]
   clear h
   go_wp2
   go_roundw
   case rel => exact ⟨k + 1, by omega, by go_num, by rw [HS.out]; exact HROW2.out, HC2.out⟩
   case measure => simp [intOf]; omega
  have e : k = a.length := by omega
  subst e
  rw [List.take_length] at HROW hkl ⊢
  clear hc
  go_wp2
  go_ret
  exact ⟨_, rfl, HROW.out, HC.out⟩
namespace Plain
end Plain
namespace Plain
end Plain
namespace Plain
end Plain
end Go.Proofs.YtpcgklagmcnhaaaGreat
namespace Go.Proofs.YtpcgklagmcnhaaaGreat.Plain
open Classical in
noncomputable def reps (R : Int → Int → Prop) : List Int → List Int
 | [] => []
 | x :: K => if ∃ y ∈ reps R K, R x y then reps R K else x :: reps R K
noncomputable def cnt (R : Int → Int → Prop) (K : List Int) : Nat := (reps R K).length
def tw : List Int → Int → Int
 | [], d => d
 | e :: S, d => tw S (swp (2 * e) (2 * e + 1) d)
end Go.Proofs.YtpcgklagmcnhaaaGreat.Plain
