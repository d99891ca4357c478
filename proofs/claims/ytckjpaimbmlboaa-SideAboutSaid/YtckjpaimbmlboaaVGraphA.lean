/- package graph: contracts of rising, Right. Conditions: lists and a graph that lie in memory and read so. -/
import Derived.Test.YtckjpaimbmlboaaVEuler
import Derived.Shelf.Small.Bits
import Derived.Shelf.Small.Wraps
import Derived.Shelf.Strconv.Itoa0
import Derived.Shelf.Slices.Equal
import Derived.Ground.Names2Prog
import Derived.Shelf.Slices.Clone
import Derived.Shelf.Slices.SearchI
import Derived.Shelf.Slices.In.SortNone
import Derived.Shelf.Slices.Empties
import Derived.Shelf.Slices.Empties2
import Derived.Ground.SlsfProg
import Derived.Shelf.SlSortCmp.Insertion
import Derived.Shelf.SlSortCmp.SiftDown1
import Derived.Shelf.SlSortCmp.HeapSort1
import Derived.Shelf.SlSortCmp.Insertion1
import Derived.Shelf.SlSortCmp.Median1
import Derived.Shelf.SlSortCmp.Pivot1
import Derived.Shelf.SlSortCmp.ReverseRange1
import Derived.Shelf.SlSortCmp.PartialInsertion1
import Derived.Shelf.SlSortCmp.PartitionEqual1
import Derived.Shelf.SlSortCmp.Partition1
import Derived.Shelf.SlSortCmp.Pdq1
import Derived.Shelf.SlSortCmp.Whole1
import Derived.Shelf.SlSortCmp.NoneTotal
import Derived.Test.YtckjpaimbmlboaaProg
namespace Go.Proofs.Ytckjpaimbmlboaa
open Go.RowKit Go.Maps
theorem rising_any (v : Value) (l : List Int) (n : Int) (w : World) (_hn : I64 n) (h : IntsAt w v l) :
  Calls Try.prog 80 #[v, .int .i64 n] w fun e w' => e = .returned (.bool (Plain.rises l n)) ∧ Chg [] w w' := by
 obtain ⟨ao, cap, rfl, hsm, hm, hcell⟩ := h
 have HSM := Lib.hid hsm
 have HCE := Lib.hid hcell
 clear hsm hcell
 go_enter Try.func80, Try.ntmps80
 go_wp2
 go_loopw [9] (fun c wr => ∃ k : Nat, k ≤ l.length ∧ c = .int .i64 k ∧ Chg [] w wr ∧ Hid ((List.range k).all (Plain.risesAt l n) = true)) (fun c _ => l.length - (intOf c).toNat)
 case atStart => exact ⟨0, Nat.zero_le _, rfl, Chg.refl _ _, rfl⟩
 case round =>
  obtain ⟨k, hk, rfl, hc, hall⟩ := hrel
  have HC := Lib.hid hc
  by_cases hlt : k < l.length
  ·obtain ⟨b, off, rfl, hfc⟩ := HCE.out (by intro e; rw [e] at hlt; simp at hlt)
   have c0 := hc.cell (hfc k hlt) (by simp)
   have hz := HSM.out (l.getD k 0) (by simp [List.getD, hlt])
   have HF := Lib.hid (fun h => Plain.all_range_false (p := Plain.risesAt l n) hlt h)
   have HS := Lib.hid (Plain.all_range_succ (Plain.risesAt l n) k)
   cases k with
   | zero =>
    have HR := Lib.hid (show Plain.risesAt l n 0 = !(decide (l.getD 0 0 < 0) || decide (n ≤ l.getD 0 0)) by simp [Plain.risesAt])
    rw [Nat.add_zero] at c0
    clear hfc hc
    generalize l.getD 0 0 = z at *
    by_cases h1 : z < 0
    ·go_wp2
     go_ret
     exact ⟨ret_bool (by rw [HR.out] at HF; exact (HF.out (by simp [h1])).symm), HC.out⟩
    by_cases h2 : n ≤ z
    ·go_wp2
     go_ret
     exact ⟨ret_bool (by rw [HR.out] at HF; exact (HF.out (by simp [h2])).symm), HC.out⟩
    go_wp2
    go_roundw
    case rel => exact ⟨1, by omega, by go_num, HC.out, Lib.hid (by rw [HS.out, HR.out, hall.out]; simp [h1, h2])⟩
    case measure => simp [intOf]; omega
   | succ m =>
    have c1 := hc.cell (hfc m (by omega)) (by simp)
    have HR := Lib.hid (show Plain.risesAt l n (m + 1) = !(decide (l.getD (m + 1) 0 < 0) || decide (n ≤ l.getD (m + 1) 0) || decide (l.getD (m + 1) 0 ≤ l.getD m 0)) by simp [Plain.risesAt])
    have hm1 : (((m + 1 : Nat) : Int) - 1) = (m : Int) := by omega
    have hy := HSM.out (l.getD m 0) (by simp [List.getD, show m < l.length by omega])
    clear hfc hc
    generalize l.getD (m + 1) 0 = z at *
    generalize l.getD m 0 = y at *
    by_cases h1 : z < 0
    ·go_wp2
     go_ret
     exact ⟨ret_bool (by rw [HR.out] at HF; exact (HF.out (by simp [h1])).symm), HC.out⟩
    by_cases h2 : n ≤ z
    ·go_wp2
     go_ret
     exact ⟨ret_bool (by rw [HR.out] at HF; exact (HF.out (by simp [h2])).symm), HC.out⟩
    by_cases h3 : z ≤ y
    ·go_wp2
     go_ret
     exact ⟨ret_bool (by rw [HR.out] at HF; exact (HF.out (by simp [h3])).symm), HC.out⟩
    go_wp2
    go_roundw
    case rel => exact ⟨m + 2, by omega, by go_num, HC.out, Lib.hid (by rw [HS.out, HR.out, hall.out]; simp [h1, h2, h3])⟩
    case measure => simp [intOf]; omega
  have e : k = l.length := by omega
  subst e
  go_wp2
  go_ret
  exact ⟨ret_bool hall.out.symm, HC.out⟩
theorem graphRight_any (v : Value) (g : Plain.Gr) (w : World) (h : GrAt w v g) :
  Calls Try.prog 79 #[v] w fun e w' => e = .returned (.int .i64 g.err) ∧ Chg [] w w' := by
 obtain ⟨eo, cap, rfl, hn, hm, hsm, hcell⟩ := h
 have HSM := Lib.hid hsm
 have HCE := Lib.hid hcell
 have HN := Lib.hid hn
 have hmin : -9223372036854775808 ≤ g.n := by have h := hn; unfold I64 at h; simp only [Lit.wf, Bool.and_eq_true, decide_eq_true_eq] at h; exact h.1
 clear hsm hcell
 go_enter Try.func79, Try.ntmps79
 have HC1 := Lib.hid ((Chg.refl [] w).alloc (.cells #[.int .i64 g.n, .slice eo g.e.length cap] 24))
 by_cases h1 : g.n < 0
 ·have HE := Lib.hid (show g.err = 3 by unfold Plain.Gr.err; rw [if_pos h1])
  go_wp2
  go_ret
  exact ⟨ret_int HE.out.symm, HC1.out⟩
 by_cases h2 : 1024 < g.n
 ·have HE := Lib.hid (show g.err = 2 by unfold Plain.Gr.err; rw [if_neg h1, if_pos (Or.inl h2)])
  go_wp2
  go_ret
  exact ⟨ret_int HE.out.symm, HC1.out⟩
 have hsub : (1024 : Int) - g.n ≤ 1024 := by omega
 by_cases h3 : 1024 - g.n < (g.e.length : Int)
 ·have HE := Lib.hid (show g.err = 2 by unfold Plain.Gr.err; rw [if_neg h1, if_pos (Or.inr h3)])
  go_wp2
  go_ret
  exact ⟨ret_int HE.out.symm, HC1.out⟩
 have HER := Lib.hid (show g.err = if (List.range g.e.length).all g.okEdge then 0 else 3 by unfold Plain.Gr.err; rw [if_neg h1, if_neg (by omega)])
 have hcn : (w.alloc (.cells #[.int .i64 g.n, .slice eo g.e.length cap] 24)).cell? ⟨w.heap.size, 0, none⟩ = some (.int .i64 g.n) := by rw [cell_of_row _ _ 0 _ _ _ (heap_alloc_new w _)]; rfl
 have HCN := Lib.hid hcn
 clear hcn
 go_wp2
 generalize (w.alloc (.cells #[.int .i64 g.n, .slice eo g.e.length cap] 24)) = w1 at *
 generalize w.heap.size = gb at *
 go_loopw [23] (fun c wr => ∃ k : Nat, k ≤ g.e.length ∧ c = .int .i64 k ∧ Chg [] w1 wr ∧ Hid ((List.range k).all g.okEdge = true)) (fun c _ => g.e.length - (intOf c).toNat)
 case atStart => exact ⟨0, Nat.zero_le _, rfl, Chg.refl _ _, rfl⟩
 case round =>
  obtain ⟨k, hk, rfl, hc, hall⟩ := hrel
  have HC := Lib.hid hc
  have cn := fun o => cellNew (hc.cell HCN.out (by simp)) o
  by_cases hlt : k < g.e.length
  ·obtain ⟨b, off, rfl, hc0, hc1⟩ := HCE.out k hlt
   have c0 := hc.cell (HC1.out.cell hc0 (by simp)) (by simp)
   have c1 := hc.cell (HC1.out.cell hc1 (by simp)) (by simp)
   obtain ⟨z1, z2⟩ := HSM.out k hlt
   have HF := Lib.hid (fun h => Plain.all_range_false (p := g.okEdge) hlt h)
   have HS := Lib.hid (Plain.all_range_succ g.okEdge k)
   have HR := Lib.hid (show g.okEdge k = !(decide ((g.ends k).1 < 0) || decide (g.n ≤ (g.ends k).1) || decide ((g.ends k).2 < 0) || decide (g.n ≤ (g.ends k).2)) from rfl)
   clear hc0 hc1 hc
   generalize (g.ends k).1 = x at *
   generalize (g.ends k).2 = y at *
   by_cases p1 : x < 0
   ·have HE := Lib.hid (HER.out.trans (if_neg (by rw [HF.out (by rw [HR.out]; simp [p1])]; decide)))
    go_wp2
    go_ret
    exact ⟨ret_int HE.out.symm, HC1.out.trans (HC.out.alloc _) (by simp)⟩
   skip
   by_cases p2 : g.n ≤ x
   ·have HE := Lib.hid (HER.out.trans (if_neg (by rw [HF.out (by rw [HR.out]; simp [p2])]; decide)))
    go_wp2
    go_ret
    exact ⟨ret_int HE.out.symm, HC1.out.trans (HC.out.alloc _) (by simp)⟩
   skip
   by_cases p3 : y < 0
   ·have HE := Lib.hid (HER.out.trans (if_neg (by rw [HF.out (by rw [HR.out]; simp [p3])]; decide)))
    go_wp2
    go_ret
    exact ⟨ret_int HE.out.symm, HC1.out.trans (HC.out.alloc _) (by simp)⟩
   skip
   by_cases p4 : g.n ≤ y
   ·have HE := Lib.hid (HER.out.trans (if_neg (by rw [HF.out (by rw [HR.out]; simp [p4])]; decide)))
    go_wp2
    go_ret
    exact ⟨ret_int HE.out.symm, HC1.out.trans (HC.out.alloc _) (by simp)⟩
   skip
   have HK := Lib.hid (show (List.range (k + 1)).all g.okEdge = true by rw [HS.out, HR.out, hall.out]; simp [p1, p2, p3, p4])
   go_wp2
   go_roundw
   case rel => exact ⟨k + 1, by omega, by go_num, HC.out.alloc _, HK⟩
   case measure => simp [intOf]; omega
  have e : k = g.e.length := by omega
  subst e
  have HE := Lib.hid (HER.out.trans (if_pos hall.out))
  go_wp2
  go_ret
  exact ⟨ret_int HE.out.symm, HC1.out.trans HC.out (by simp)⟩
end Go.Proofs.Ytckjpaimbmlboaa
namespace Go.Proofs
open Go.Shelf
def Try.laysNm215_ren : Go.Shelf.Ren := ⟨fun | 15 => 61 | n => n, fun | 22 => 25 | 3 => 3 | 4 => 4 | n => n, fun | n => n⟩
theorem Try.laysNm215 : Go.Proofs.Lays2.n15 Try.prog Try.laysNm215_ren := {
 mixed := by kernel_rfl
 f15 := Try.func61.trans (congrArg some (by kernel_rfl))
 t3 := Try.underlying3
 a3 := Try.isAgg3
 z3 := Try.sizeOf3
 v3 := Try.zeroValue3
 t4 := Try.underlying4
 a4 := Try.isAgg4
 z4 := Try.sizeOf4
 v4 := Try.zeroValue4
 t22 := Try.underlying25
 a22 := Try.isAgg25
 z22 := Try.sizeOf25
 v22 := Try.zeroValue25
 i3 := by kernel_rfl }
open Go.RowKit Go.Lib in
theorem Try.slices_Clone_int (b off n c : Nat) (zs : List Int) (w : World) (hz : n ≤ zs.length) (hbig : n * 8 ≤ 140737488355328) (hc : ∀ j, j < zs.length → w.cell? ⟨b, off + j, none⟩ = some (.int .i64 (zs.getD j 0))) :
  Calls Try.prog 61 #[.slice (some ⟨b, off, none⟩) n c] w fun e w' => ∃ v', e = .returned v' ∧ w'.ownsRow w.heap.size 3 1 v' n ((zs.take n).map (Value.int .i64)) ∧ v' ≠ .slice none 0 0 ∧ Below w.heap.size w w' := Any.slices_Clone_int Try.laysNm215 b off n c zs w hz hbig hc
def Try.laysNm225_ren : Go.Shelf.Ren := ⟨fun | 25 => 81 | 31 => 96 | 32 => 105 | 37 => 85 | n => n, fun | 22 => 25 | 3 => 3 | 4 => 4 | 40 => 107 | 0 => 0 | n => n, fun | n => n⟩
theorem Try.laysNm225 : Go.Proofs.Lays2.n25 Try.prog Try.laysNm225_ren := {
 mixed := by kernel_rfl
 f25 := Try.func81.trans (congrArg some (by kernel_rfl))
 f31 := Try.func96.trans (congrArg some (by kernel_rfl))
 f32 := Try.func105.trans (congrArg some (by kernel_rfl))
 f37 := Try.func85.trans (congrArg some (by kernel_rfl))
 t0 := Try.underlying0
 a0 := Try.isAgg0
 z0 := Try.sizeOf0
 v0 := Try.zeroValue0
 t3 := Try.underlying3
 a3 := Try.isAgg3
 z3 := Try.sizeOf3
 v3 := Try.zeroValue3
 t4 := Try.underlying4
 a4 := Try.isAgg4
 z4 := Try.sizeOf4
 v4 := Try.zeroValue4
 t22 := Try.underlying25
 a22 := Try.isAgg25
 z22 := Try.sizeOf25
 v22 := Try.zeroValue25
 t40 := Try.underlying107
 a40 := Try.isAgg107
 z40 := Try.sizeOf107
 v40 := Try.zeroValue107 }
open Go.RowKit Go.Lib in
theorem Try.slices_BinarySearch_int (b off n c : Nat) (zs : List Int) (x : Int) (w : World) (hz : n ≤ zs.length) (hbig : n < 4611686018427387904) (hc : ∀ j, j < zs.length → w.cell? ⟨b, off + j, none⟩ = some (.int .i64 (zs.getD j 0))) (hs : (zs.take n).Pairwise (· ≤ ·)) :
  Calls Try.prog 81 #[.slice (some ⟨b, off, none⟩) n c, .int .i64 x] w fun e w' => e = .returned (.tuple #[.int .i64 ((zs.take n).countP (· < x) : Nat), .bool ((zs.take n).contains x)]) ∧ ∃ q, w' = w.drewN q := Any.slices_BinarySearch_int Try.laysNm225 b off n c zs x w hz hbig hc hs
def Try.lays189_ren : Go.Shelf.Ren := ⟨fun | 189 => 36 | 125 => 70 | 257 => 69 | 128 => 99 | 129 => 100 | 294 => 90 | 295 => 91 | 296 => 92 | 297 => 93 | 298 => 94 | 299 => 95 | 216 => 96 | 300 => 97 | 301 => 98 | 328 => 117 | 329 => 118 | 330 => 119 | 331 => 120 | 332 => 121 | 215 => 85 | 343 => 129 | n => n, fun | 28 => 25 | 3 => 3 | 46 => 107 | 0 => 0 | 51 => 135 | 53 => 137 | 4 => 4 | 183 => 129 | 182 => 128 | 131 => 43 | 5 => 5 | 9 => 9 | 218 => 147 | 222 => 151 | 228 => 160 | 229 => 161 | n => n, fun | n => n⟩
theorem Try.lays189 : Go.Proofs.Lays.n189 Try.prog Try.lays189_ren := {
 mixed := by kernel_rfl
 f125 := Try.func70.trans (congrArg some (by kernel_rfl))
 f128 := Try.func99.trans (congrArg some (by kernel_rfl))
 f129 := Try.func100.trans (congrArg some (by kernel_rfl))
 f189 := Try.func36.trans (congrArg some (by kernel_rfl))
 f215 := Try.func85.trans (congrArg some (by kernel_rfl))
 f216 := Try.func96.trans (congrArg some (by kernel_rfl))
 f257 := Try.func69.trans (congrArg some (by kernel_rfl))
 f294 := Try.func90.trans (congrArg some (by kernel_rfl))
 f295 := Try.func91.trans (congrArg some (by kernel_rfl))
 f296 := Try.func92.trans (congrArg some (by kernel_rfl))
 f297 := Try.func93.trans (congrArg some (by kernel_rfl))
 f298 := Try.func94.trans (congrArg some (by kernel_rfl))
 f299 := Try.func95.trans (congrArg some (by kernel_rfl))
 f300 := Try.func97.trans (congrArg some (by kernel_rfl))
 f301 := Try.func98.trans (congrArg some (by kernel_rfl))
 f328 := Try.func117.trans (congrArg some (by kernel_rfl))
 f329 := Try.func118.trans (congrArg some (by kernel_rfl))
 f330 := Try.func119.trans (congrArg some (by kernel_rfl))
 f331 := Try.func120.trans (congrArg some (by kernel_rfl))
 f332 := Try.func121.trans (congrArg some (by kernel_rfl))
 f343 := Try.func129.trans (congrArg some (by kernel_rfl))
 t0 := Try.underlying0
 a0 := Try.isAgg0
 z0 := Try.sizeOf0
 v0 := Try.zeroValue0
 t3 := Try.underlying3
 a3 := Try.isAgg3
 z3 := Try.sizeOf3
 v3 := Try.zeroValue3
 t4 := Try.underlying4
 a4 := Try.isAgg4
 z4 := Try.sizeOf4
 v4 := Try.zeroValue4
 t5 := Try.underlying5
 a5 := Try.isAgg5
 z5 := Try.sizeOf5
 v5 := Try.zeroValue5
 t9 := Try.underlying9
 a9 := Try.isAgg9
 z9 := Try.sizeOf9
 v9 := Try.zeroValue9
 t28 := Try.underlying25
 a28 := Try.isAgg25
 z28 := Try.sizeOf25
 v28 := Try.zeroValue25
 t46 := Try.underlying107
 a46 := Try.isAgg107
 z46 := Try.sizeOf107
 v46 := Try.zeroValue107
 t51 := Try.underlying135
 a51 := Try.isAgg135
 z51 := Try.sizeOf135
 v51 := Try.zeroValue135
 t53 := Try.underlying137
 a53 := Try.isAgg137
 z53 := Try.sizeOf137
 v53 := Try.zeroValue137
 t131 := Try.underlying43
 a131 := Try.isAgg43
 z131 := Try.sizeOf43
 v131 := Try.zeroValue43
 t182 := Try.underlying128
 a182 := Try.isAgg128
 z182 := Try.sizeOf128
 v182 := Try.zeroValue128
 t183 := Try.underlying129
 a183 := Try.isAgg129
 z183 := Try.sizeOf129
 v183 := Try.zeroValue129
 t218 := Try.underlying147
 a218 := Try.isAgg147
 z218 := Try.sizeOf147
 v218 := Try.zeroValue147
 t222 := Try.underlying151
 a222 := Try.isAgg151
 z222 := Try.sizeOf151
 v222 := Try.zeroValue151
 t228 := Try.underlying160
 a228 := Try.isAgg160
 z228 := Try.sizeOf160
 v228 := Try.zeroValue160
 t229 := Try.underlying161
 a229 := Try.isAgg161
 z229 := Try.sizeOf161
 v229 := Try.zeroValue161 }
open Go.RowKit Go.Sort in
theorem Try.slices_Sort_int_none (p : Option Addr) (cap : Nat) (w : World) :
  Calls Try.prog 36 #[.slice p 0 cap] w fun e w' => e = .returned (.tuple #[]) ∧ w' = w := Any.slices_Sort_int_none Try.lays189 p cap w
open Go.RowKit Go.Lib in
theorem Try.slices_BinarySearch_int_empty (a : Option Addr) (c : Nat) (x : Int) (w : World) :
  Calls Try.prog 81 #[.slice a 0 c, .int .i64 x] w fun e w' => e = .returned (.tuple #[.int .i64 0, .bool false]) ∧ w' = w := Any.slices_BinarySearch_int_empty Try.laysNm225 a c x w
end Go.Proofs
