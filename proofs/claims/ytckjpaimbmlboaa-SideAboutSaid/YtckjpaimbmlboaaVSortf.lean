/- slices.SortFunc at this program, laid by the kit's own tools in plain words. Condition: what the structure says. -/
import Derived.Test.YtckjpaimbmlboaaVPlanR
namespace Go.Proofs
open Go.Shelf
def Try.sortRows_ren : Go.Shelf.Ren := ⟨fun | 6 => 58 | 15 => 70 | 14 => 84 | 28 => 99 | 29 => 100 | 20 => 108 | 21 => 109 | 22 => 110 | 23 => 111 | 24 => 112 | 25 => 113 | 26 => 114 | 27 => 115 | 46 => 124 | 47 => 118 | 48 => 119 | 49 => 125 | 50 => 126 | 57 => 132 | n => n, fun | 22 => 28 | 24 => 25 | 25 => 93 | 3 => 3 | 39 => 107 | 0 => 0 | 53 => 135 | 55 => 137 | 4 => 4 | 46 => 129 | 45 => 128 | 50 => 43 | 5 => 5 | 9 => 9 | 66 => 147 | 70 => 151 | 76 => 160 | 77 => 161 | n => n, fun | n => n⟩
theorem Try.sortRows : Go.Proofs.SlLaysF.n6 Try.prog Try.sortRows_ren := {
 mixed := by kernel_rfl
 f6 := ⟨Try.f58.name, by decide, Try.func58.trans (congrArg some (by kernel_rfl))⟩
 f14 := ⟨Try.f84.name, by decide, Try.func84.trans (congrArg some (by kernel_rfl))⟩
 f15 := Try.func70.trans (congrArg some (by kernel_rfl))
 f20 := ⟨Try.f108.name, by decide, Try.func108.trans (congrArg some (by kernel_rfl))⟩
 f21 := ⟨Try.f109.name, by decide, Try.func109.trans (congrArg some (by kernel_rfl))⟩
 f22 := ⟨Try.f110.name, by decide, Try.func110.trans (congrArg some (by kernel_rfl))⟩
 f23 := ⟨Try.f111.name, by decide, Try.func111.trans (congrArg some (by kernel_rfl))⟩
 f24 := ⟨Try.f112.name, by decide, Try.func112.trans (congrArg some (by kernel_rfl))⟩
 f25 := ⟨Try.f113.name, by decide, Try.func113.trans (congrArg some (by kernel_rfl))⟩
 f26 := ⟨Try.f114.name, by decide, Try.func114.trans (congrArg some (by kernel_rfl))⟩
 f27 := ⟨Try.f115.name, by decide, Try.func115.trans (congrArg some (by kernel_rfl))⟩
 f28 := Try.func99.trans (congrArg some (by kernel_rfl))
 f29 := Try.func100.trans (congrArg some (by kernel_rfl))
 f46 := ⟨Try.f124.name, by decide, Try.func124.trans (congrArg some (by kernel_rfl))⟩
 f47 := Try.func118.trans (congrArg some (by kernel_rfl))
 f48 := Try.func119.trans (congrArg some (by kernel_rfl))
 f49 := ⟨Try.f125.name, by decide, Try.func125.trans (congrArg some (by kernel_rfl))⟩
 f50 := ⟨Try.f126.name, by decide, Try.func126.trans (congrArg some (by kernel_rfl))⟩
 f57 := ⟨Try.f132.name, by decide, Try.func132.trans (congrArg some (by kernel_rfl))⟩
 t0 := Try.underlying0
 a0 := Try.isAgg0
 z0 := Try.sizeOf0
 v0 := Try.zeroValue0
 t3 := Try.underlying3
 a3 := Try.isAgg3
 z3 := Try.sizeOf3
 v3 := Try.zeroValue3
 t4 := Try.underlying4
 a4 := Try.isAgg4
 z4 := Try.sizeOf4
 v4 := Try.zeroValue4
 t5 := Try.underlying5
 a5 := Try.isAgg5
 z5 := Try.sizeOf5
 v5 := Try.zeroValue5
 t9 := Try.underlying9
 a9 := Try.isAgg9
 z9 := Try.sizeOf9
 v9 := Try.zeroValue9
 t22 := Try.underlying28
 a22 := Try.isAgg28
 z22 := Try.sizeOf28
 v22 := Try.zeroValue28
 a24 := Try.isAgg25
 z24 := Try.sizeOf25
 t25 := Try.underlying93
 a25 := Try.isAgg93
 z25 := Try.sizeOf93
 v25 := Try.zeroValue93
 t39 := Try.underlying107
 a39 := Try.isAgg107
 z39 := Try.sizeOf107
 v39 := Try.zeroValue107
 t45 := Try.underlying128
 a45 := Try.isAgg128
 z45 := Try.sizeOf128
 v45 := Try.zeroValue128
 t46 := Try.underlying129
 a46 := Try.isAgg129
 z46 := Try.sizeOf129
 v46 := Try.zeroValue129
 t50 := Try.underlying43
 a50 := Try.isAgg43
 z50 := Try.sizeOf43
 v50 := Try.zeroValue43
 t53 := Try.underlying135
 a53 := Try.isAgg135
 z53 := Try.sizeOf135
 v53 := Try.zeroValue135
 t55 := Try.underlying137
 a55 := Try.isAgg137
 z55 := Try.sizeOf137
 v55 := Try.zeroValue137
 t66 := Try.underlying147
 a66 := Try.isAgg147
 z66 := Try.sizeOf147
 v66 := Try.zeroValue147
 t70 := Try.underlying151
 a70 := Try.isAgg151
 z70 := Try.sizeOf151
 v70 := Try.zeroValue151
 t76 := Try.underlying160
 a76 := Try.isAgg160
 z76 := Try.sizeOf160
 v76 := Try.zeroValue160
 t77 := Try.underlying161
 a77 := Try.isAgg161
 z77 := Try.sizeOf161
 v77 := Try.zeroValue161 }
end Go.Proofs
namespace Go.Proofs.Ytckjpaimbmlboaa
open Go.RowKit Go.Maps
section
open Go.Sort
variable {α : Type} [Inhabited α]
theorem sorted_heap {enc : α → Value} {w : World} {g n : Nat} {os : Array Obj} {cur : Array Value} {e : TypeId} {fr : Nat × Nat} (d : Array α) (hb : w.heap[g]? = some (.cells cur e fr)) :
  (sortWorld enc w g 0 n d os).heap[g]? = some (.cells (putCells enc 0 d cur) e fr) := by
 have hg : g < w.heap.size := (Array.getElem?_eq_some_iff.1 hb).1
 unfold sortWorld
 rw [heap_grow_old _ _ (by simpa using hg)]
 simp [putRow, mapBlock, Sort.ahead, Array.getElem?_modify, hb, onCells]
theorem sorted_chg (enc : α → Value) (w : World) (g n : Nat) (os : Array Obj) (d : Array α) : Chg [g] w (sortWorld enc w g 0 n d os) := by
 refine ⟨rfl, rfl, rfl, by simp [sortWorld], fun k hk hne => ?_⟩
 unfold sortWorld
 rw [heap_grow_old _ _ (by simpa using hk)]
 have : g ≠ k := fun e => hne (by simp [e])
 simp [putRow, mapBlock, Sort.ahead, Array.getElem?_modify, this]
theorem sorted_take (enc : α → Value) (cur : Array Value) (d : Array α) (h : d.size ≤ cur.size) : (putCells enc 0 d cur).toList.take d.size = d.toList.map enc := by
 apply List.ext_getElem?
 intro j
 by_cases hj : j < d.size
 ·rw [List.getElem?_take_of_lt hj, Array.getElem?_toList]
  simp [putCells, hj, show j < cur.size by omega]
 rw [List.getElem?_take_eq_none (by omega), List.getElem?_eq_none (by simp; omega)]
theorem sorted_owns {enc : α → Value} {w : World} {base g cap n : Nat} {e : TypeId} {os : Array Obj} {xs : List Value} {d : Array α} (h : w.ownsRow base e 1 (.slice (some ⟨g, 0, none⟩) xs.length cap) xs.length xs) (hd : d.size = xs.length) :
  (sortWorld enc w g 0 n d os).ownsRow base e 1 (.slice (some ⟨g, 0, none⟩) xs.length cap) xs.length (d.toList.map enc) := by
 rcases h.2 with ⟨h, -⟩ | ⟨g', cap', cur, hv, hg, hh, h1, h2, h3, h4⟩
 ·cases h
 cases hv
 exact ⟨by simp [hd], .inr ⟨g, cap, _, rfl, hg, sorted_heap d hh, h1, h2, by simp [putCells, h3], by rw [Nat.mul_one, ← hd]; exact sorted_take enc cur d (by omega)⟩⟩
theorem sorted_holds {enc : α → Value} {w : World} {base g cap : Nat} {e : TypeId} {xs : List Value} {d : Array α} (h : w.ownsRow base e 1 (.slice (some ⟨g, 0, none⟩) xs.length cap) xs.length xs) (hd : d.toList.map enc = xs) : Holds enc w g 0 d := by
 have hs : d.size = xs.length := by rw [← hd]; simp
 rcases h.2 with ⟨h, -⟩ | ⟨g', cap', cur, hv, hg, hh, h1, h2, h3, h4⟩
 ·cases h
 cases hv
 intro j hj
 refine ⟨?_, by simp [World.frozen?, hh]⟩
 have e1 : (cur.toList.take (xs.length * 1))[j]? = xs[j]? := by rw [h4]
 rw [List.getElem?_take_of_lt (by omega)] at e1
 simp only [World.cell?, hh, Nat.zero_add, Option.isSome_none, Bool.false_eq_true, if_false]
 rw [← Array.getElem?_toList, e1, ← hd]
 simp [hj]
end
theorem nan_any (x : Int) (w : World) : Calls Try.prog 85 #[.int .i64 x] w fun e w' => e = .returned (.bool false) ∧ w = w' := by
 have b1 : (x != x) = false := by simp
 go_enter Try.func85, Try.ntmps85
 go_wp2
 go_ret
 exact ⟨rfl, rfl⟩
theorem compare_any (x y : Int) (w : World) : Calls Try.prog 60 #[.int .i64 x, .int .i64 y] w fun e w' => e = .returned (.int .i64 (Lib.compareInt x y)) ∧ w = w' := by
 have HC := Lib.hid (show Lib.compareInt x y = if x < y then -1 else if y < x then 1 else 0 from rfl)
 go_enter Try.func60, Try.ntmps60
 go_wp2_with fail
 refine (nan_any x _).mono ?_
 rintro e w1 ⟨rfl, rfl⟩
 go_wp2_with fail
 refine (nan_any y _).mono ?_
 rintro e w1 ⟨rfl, rfl⟩
 by_cases h1 : x < y
 ·have HR := Lib.hid (show Lib.compareInt x y = -1 by rw [HC.out, if_pos h1])
  have b1 : decide (x < y) = true := decide_eq_true h1
  go_wp2
  go_ret
  exact ⟨ret_int HR.out.symm, rfl⟩
 by_cases h2 : y < x
 ·have HR := Lib.hid (show Lib.compareInt x y = 1 by rw [HC.out, if_neg h1, if_pos h2])
  have b1 : decide (x < y) = false := decide_eq_false h1
  have b2 : decide (x > y) = true := decide_eq_true h2
  go_wp2
  go_ret
  exact ⟨ret_int HR.out.symm, rfl⟩
 have HR := Lib.hid (show Lib.compareInt x y = 0 by rw [HC.out, if_neg h1, if_neg h2])
 have b1 : decide (x < y) = false := decide_eq_false h1
 have b2 : decide (x > y) = false := decide_eq_false h2
 go_wp2
 go_ret
 exact ⟨ret_int HR.out.symm, rfl⟩
theorem order1_any (ga oa gb ob n m c c' : Nat) (x y : Int) (w : World) (hn : 0 < n) (hm : 0 < m) (h1 : w.cell? ⟨ga, oa, none⟩ = some (.int .i64 x)) (h2 : w.cell? ⟨gb, ob, none⟩ = some (.int .i64 y)) :
  Calls Try.prog 71 #[.slice (some ⟨ga, oa, none⟩) n c, .slice (some ⟨gb, ob, none⟩) m c'] w fun e w' => e = .returned (.int .i64 (Lib.compareInt x y)) ∧ ∃ q, w' = w.drewN q := by
 have i3 : (0 : Int) < (n : Int) := by omega
 have i4 : (0 : Int) < (m : Int) := by omega
 obtain ⟨r, hr⟩ : ∃ r, Lib.compareInt x y = r := ⟨_, rfl⟩
 have HR := Lib.hid hr
 rw [hr]
 clear hr
 go_enter Try.func71, Try.ntmps71
 go_wp2
 have hS0 : (fun w' : World => w'.cell? ⟨ga, oa, none⟩ = some (.int .i64 x) ∧ w'.cell? ⟨gb, ob, none⟩ = some (.int .i64 y)) w.drew := ⟨h1, h2⟩
 refine wp_region_way (fun w' : World => w'.cell? ⟨ga, oa, none⟩ = some (.int .i64 x) ∧ w'.cell? ⟨gb, ob, none⟩ = some (.int .i64 y)) [0, 1, 2, 3, 4, 5] (Way.line [0, 1, 2, 3, 4, 5, 6, 7] .done) (by kernel_rfl) (by kernel_rfl) ?_
 simp only [Way.line]
 repeat
  first
   | (refine along_off rfl (by rfl) (by rfl) (fun _ _ _ h => h) hS0 ?_; simp only [Act.put, Z1, Z2, Z3, Z4, Z5, Z6])
   | (refine along_read (v := ?_) rfl (by rfl) (by rfl) (fun _ _ _ h => h) hS0 (fun w' hS' => ?_) ?_; rotate_left; (focus ((try dsimp only at hS'); go_simp; try with_reducible rfl)); simp only [Act.put, Z1, Z2, Z3, Z4, Z5, Z6])
   | (refine along_skip rfl (by rfl) (by rfl) hS0 ?_; simp only [Act.put, Z1, Z2, Z3, Z4, Z5, Z6])
 refine along_op rfl (by rfl) (by rfl) (fun K hK => ?_)
 go_simp
 refine (compare_any x y _).mono ?_
 rw [HR.out]
 rintro e w7 ⟨rfl, rfl⟩
 refine hK.out _ _ (fun _ => hS0) ?_
 clear hK K
 try simp only [Act.put, Z1, Z2, Z3, Z4, Z5, Z6]
 refine along_op rfl (by rfl) (by rfl) (fun K hK => ?_)
 go_simp
 refine hK.out _ _ (fun _ => hS0) ?_
 clear hK K
 try simp only [Act.put, Z1, Z2, Z3, Z4, Z5, Z6]
 refine along_done ?_
 go_wp2
 go_ret
 exact ⟨rfl, 1, rfl⟩
def RowIn (w : World) (B : Nat) : Type := {z : Value × List Int // w.ownsRow B 3 1 z.1 z.2.length (ints z.2) ∧ z.2 ≠ []}
def RowIn.val {w : World} {B : Nat} (z : RowIn w B) : Value := z.1.1
def RowIn.key {w : World} {B : Nat} (z : RowIn w B) : Int := z.1.2.getD 0 0
def RowIn.cmp {w : World} {B : Nat} (y z : RowIn w B) : Int := Lib.compareInt y.key z.key
theorem RowIn.at_ {w : World} {B : Nat} (z : RowIn w B) : ∃ b n c, z.val = .slice (some ⟨b, 0, none⟩) n c ∧ 0 < n ∧ w.cell? ⟨b, 0, none⟩ = some (.int .i64 z.key) := by
 obtain ⟨⟨v, l⟩, h, hne⟩ := z
 have hl : 0 < l.length := List.length_pos_iff.2 hne
 dsimp only at h hne
 obtain ⟨g, cap, rfl⟩ := owns_some h hl
 refine ⟨g, _, cap, rfl, hl, ?_⟩
 have := h.cellAt 0 (by simpa using hl)
 rw [this]
 cases l with
 | nil => exact absurd rfl hne
 | cons x l => rfl
theorem RowIn.one {w : World} {B : Nat} : OneCell (RowIn.val (w := w) (B := B)) := fun z => by
 obtain ⟨b, n, c, e, -, -⟩ := z.at_
 rw [e]; rfl
theorem RowIn.lt {w : World} {B : Nat} (y z : RowIn w B) : ltOf RowIn.cmp y z = decide (y.key < z.key) := by
 unfold ltOf RowIn.cmp Lib.compareInt
 by_cases h1 : y.key < z.key
 ·simp [h1]
 by_cases h2 : z.key < y.key <;> simp [h1, h2]
theorem RowIn.swo {w : World} {B : Nat} : Go.Sort.SWO (ltOf (RowIn.cmp (w := w) (B := B))) where
 irrefl x := by rw [RowIn.lt]; simp
 trans x y z h1 h2 := by rw [RowIn.lt] at *; simp at *; omega
 ntrans x y z h1 h2 := by rw [RowIn.lt] at *; simp at *; omega
theorem RowIn.cell {w : World} {B g : Nat} [Inhabited (RowIn w B)] (z : RowIn w B) (hg : ∀ b, z.val.ownBlock = some b → b ≠ g) (m : Nat) (os : Array Obj) (d : Array (RowIn w B)) : ∃ b n c, z.val = .slice (some ⟨b, 0, none⟩) n c ∧ 0 < n ∧ (Go.Proofs.sortWorld RowIn.val w g 0 m d os).cell? ⟨b, 0, none⟩ = some (.int .i64 z.key) := by
 obtain ⟨b, n, c, e, hn, hc⟩ := z.at_
 refine ⟨b, n, c, e, hn, (sorted_chg RowIn.val w g m os d).cell hc ?_⟩
 have := hg b (by rw [e]; rfl)
 simpa using this
theorem getD_at (xs : List Value) {i : Nat} (h : i < xs.length) : xs.getD i undef = xs[i] := by simp [List.getD, h]
theorem getBang {α : Type} [Inhabited α] (d : Array α) {i : Nat} (h : i < d.size) : d[i]! = d.toList[i]'(by simpa using h) := by
 rw [getElem!_pos d i h]; simp
theorem RowsOwn.sorted {w : World} {B g cap m : Nat} {vs : List Value} {ll : List (List Int)} {os : Array Obj} [Inhabited (RowIn w B)] {d d' : Array (RowIn w B)} (h : RowsOwn w B (.slice (some ⟨g, 0, none⟩) vs.length cap) vs ll)
  (hv : d.toList.map RowIn.val = vs) (hl : d.toList.map (fun z => z.1.2) = ll) (hp : d'.toList.Perm d.toList) (hs : Go.Sort.SortedIn (ltOf RowIn.cmp) 0 d.size d') (hg : ∀ z : RowIn w B, ∀ b, z.val.ownBlock = some b → b ≠ g) :
  ∃ vs' ll', RowsOwn (Go.Proofs.sortWorld RowIn.val w g 0 m d' os) B (.slice (some ⟨g, 0, none⟩) vs.length cap) vs' ll' ∧ vs'.length = vs.length ∧ ll'.Perm ll ∧ ll'.Pairwise (fun a b => a.getD 0 0 ≤ b.getD 0 0) := by
 have hsz : d'.size = d.size := by have := hp.length_eq; simpa using this
 have hvl : d.size = vs.length := by rw [← hv]; simp
 have hpv : (d'.toList.map RowIn.val).Perm vs := by rw [← hv]; exact hp.map _
 have hsome : ∀ v ∈ vs, v.ownBlock ≠ none := by
  intro v hm
  rw [← hv] at hm
  obtain ⟨z, -, rfl⟩ := List.mem_map.1 hm
  obtain ⟨b, n, c, e, -, -⟩ := z.at_
  rw [e]; simp [Value.ownBlock]
 have hap : vs.Pairwise (fun a b => a.ownBlock ≠ b.ownBlock) := by
  rw [List.pairwise_iff_getElem]
  intro i j hi hj hij
  have := h.apart i j hi hj (by omega)
  have gi : vs.getD i undef = vs[i] := by simp [List.getD, hi]
  have gj : vs.getD j undef = vs[j] := by simp [List.getD, hj]
  rw [gi, gj] at this
  rcases this with q | q
  ·exact absurd q (hsome _ (List.getElem_mem hi))
  exact q
 have hap' : (d'.toList.map RowIn.val).Pairwise (fun a b => a.ownBlock ≠ b.ownBlock) := (hpv.pairwise_iff (fun h e => h e.symm)).2 hap
 have hlen : (d'.toList.map RowIn.val).length = vs.length := hpv.length_eq
 refine ⟨d'.toList.map RowIn.val, d'.toList.map (fun z => z.1.2), ⟨?_, by simp, fun k hk => ?_, fun k l hk hl hne => ?_⟩, hlen, by rw [← hl]; exact hp.map _, ?_⟩
 ·rw [hlen]
  exact sorted_owns h.out (by omega)
 ·have hk' : k < d'.toList.length := by simpa using hk
  have e1 : (d'.toList.map RowIn.val).getD k undef = (d'.toList[k]).val := by simp [List.getD, show k < d'.size by simpa using hk']
  have e2 : (d'.toList.map (fun z : RowIn w B => z.1.2)).getD k [] = (d'.toList[k]).1.2 := by simp [List.getD, show k < d'.size by simpa using hk']
  rw [e1, e2]
  refine owns_chg (d'.toList[k]).2.1 (sorted_chg RowIn.val w g m os d') (fun b hb e => ?_)
  exact hg _ b hb (by simpa using e)
 ·refine Or.inr ?_
  rw [getD_at _ hk, getD_at _ hl]
  rcases Nat.lt_or_gt_of_ne hne with q | q
  ·exact List.pairwise_iff_getElem.1 hap' k l hk hl q
  exact fun e => List.pairwise_iff_getElem.1 hap' l k hl hk q e.symm
 rw [List.pairwise_iff_getElem]
 intro i j hi hj hij
 have hi' : i < d'.size := by simpa using hi
 have hj' : j < d'.size := by simpa using hj
 have := hs i j (Nat.zero_le _) hij (by omega)
 rw [RowIn.lt, getBang d' hi', getBang d' hj'] at this
 simp only [List.getElem_map]
 have h2 := of_decide_eq_false this
 unfold RowIn.key at h2
 omega
theorem rows_in {w : World} {B : Nat} : ∀ (vs : List Value) (ll : List (List Int)), vs.length = ll.length → (∀ k, k < vs.length → w.ownsRow B 3 1 (vs.getD k undef) (ll.getD k []).length (ints (ll.getD k [])) ∧ ll.getD k [] ≠ []) → ∃ d : List (RowIn w B), d.map RowIn.val = vs ∧ d.map (fun z => z.1.2) = ll
 | [], [], _, _ => ⟨[], rfl, rfl⟩
 | [], _ :: _, h, _ => by simp at h
 | _ :: _, [], h, _ => by simp at h
 | v :: vs, l :: ll, h, hq => by
  obtain ⟨d, h1, h2⟩ := rows_in vs ll (by simpa using h) (fun k hk => hq (k + 1) (by simpa using hk))
  have q : w.ownsRow B 3 1 v l.length (ints l) ∧ l ≠ [] := hq 0 (by simp)
  exact ⟨⟨(v, l), q⟩ :: d, congrArg (v :: ·) h1, congrArg (l :: ·) h2⟩
set_option maxHeartbeats 1000000 in
theorem order_any (v : Value) (vs : List Value) (ll : List (List Int)) (B : Nat) (w : World) (hn : vs.length < 4294967296) (h : RowsOwn w B v vs ll) (hne : ∀ l ∈ ll, l ≠ []) :
  Calls Try.prog 37 #[v] w fun e w' => e = .returned (.tuple #[]) ∧ ∃ vs' ll', RowsOwn w' B v vs' ll' ∧ vs'.length = vs.length ∧ ll'.Perm ll ∧ ll'.Pairwise (fun a b => a.getD 0 0 ≤ b.getD 0 0) ∧ Chg v.ownBlock.toList w w' := by
 by_cases h0 : vs.length = 0
 ·obtain ⟨ao, cap, rfl⟩ := owns_shape h.out
  have hl0 : ll = [] := List.length_eq_zero_iff.1 (by rw [← h.len, h0])
  have HH := Lib.hid h
  have hcon := AnyF.slices_SortFunc_none { Try.sortRows with } ao cap (.func (.func 71) #[] #[]) w
  change Calls Try.prog 58 _ _ _ at hcon
  rw [h0]
  clear h
  go_enter Try.func37, Try.ntmps37
  go_wp2_with (go_at_call 58; refine hcon.mono ?_; rintro e w' ⟨rfl, rfl⟩)
  refine bodyPost_end (v := .tuple #[]) (by simp [results, Try.results37, go_sem]) rfl ?_
  refine ⟨rfl, vs, ll, by rw [← h0]; exact HH.out, h0, List.Perm.refl _, by rw [hl0]; exact List.Pairwise.nil, Chg.refl _ _⟩
 obtain ⟨g, cap, rfl⟩ := owns_some h.out (by omega)
 have hrow : ∀ k, k < vs.length → w.ownsRow B 3 1 (vs.getD k undef) (ll.getD k []).length (ints (ll.getD k [])) ∧ ll.getD k [] ≠ [] := fun k hk => ⟨h.rows k hk, hne _ (by have := h.len; simp [List.getD, show k < ll.length by omega])⟩
 haveI : Inhabited (RowIn w B) := ⟨⟨(vs.getD 0 undef, ll.getD 0 []), hrow 0 (by omega)⟩⟩
 obtain ⟨dl, hvl, hll⟩ := rows_in vs ll h.len hrow
 obtain ⟨d, hd⟩ : ∃ d : Array (RowIn w B), d = dl.toArray := ⟨_, rfl⟩
 have hv : d.toList.map RowIn.val = vs := by rw [hd]; exact hvl
 have hl : d.toList.map (fun z => z.1.2) = ll := by rw [hd]; exact hll
 have hds : d.size = vs.length := by rw [← hv]; simp
 have hg : ∀ z : RowIn w B, ∀ b, z.val.ownBlock = some b → b ≠ g := fun z b hb e => by
  rcases owns_two z.2.1 h.out (by decide) with q | q
  ·rw [show z.1.1.ownBlock = some b from hb] at q; cases q
  exact q (by rw [show z.1.1.ownBlock = some b from hb, e]; rfl)
 have hgb : g < w.heap.size := owns_lt h.out rfl
 have eg : ∀ args w, (callFunc 71 args).run Try.prog w = .ok (.enter 71 args) w := enters_of Try.func71 (by kernel_rfl) rfl
 have hcmp : CmpLays1 (α := RowIn w B) Try.prog 71 #[] RowIn.val RowIn.cmp g 0 d.size w := by
  refine CmpReads.lays (fun m os dk _ x y => ?_)
  obtain ⟨b1, n1, c1, e1, hn1, hc1⟩ := x.cell (hg x) m os dk
  obtain ⟨b2, n2, c2, e2, hn2, hc2⟩ := y.cell (hg y) m os dk
  rw [e1, e2]
  exact order1_any b1 0 b2 0 n1 n2 c1 c2 x.key y.key _ hn1 hn2 hc1 hc2
 have hcon := Any.slices_SortFunc Try.sortRows RowIn.val RowIn.one RowIn.cmp RowIn.swo 71 #[] g 0 cap d w eg hcmp (sorted_holds h.out hv) hgb (by omega)
 change Calls Try.prog 58 _ _ _ at hcon
 rw [hds] at hcon
 have hres : ∀ d' n os, Go.Sort.PermIn 0 vs.length d d' → Go.Sort.SortedIn (ltOf RowIn.cmp) 0 vs.length d' → ∃ vs' ll', RowsOwn (Go.Proofs.sortWorld RowIn.val w g 0 n d' os) B (.slice (some ⟨g, 0, none⟩) vs.length cap) vs' ll' ∧ vs'.length = vs.length ∧ ll'.Perm ll ∧ ll'.Pairwise (fun a b => a.getD 0 0 ≤ b.getD 0 0) := by
  intro d' n os hp hs
  refine RowsOwn.sorted h hv hl ?_ (by rw [hds]; exact hs) hg
  obtain ⟨p1, -, p3⟩ := hp
  have q1 : (d'.extract 0 vs.length) = d' := by rw [← hds, ← p1]; simp
  have q2 : (d.extract 0 vs.length) = d := by rw [← hds]; simp
  rw [q1, q2] at p3
  exact p3
 have HRES := Lib.hid hres
 have HCH := Lib.hid (fun (d' : Array (RowIn w B)) n os => sorted_chg RowIn.val w g n os d')
 clear hres h hrow hd hvl hll hds hv hl hg hgb eg hcmp hne
 generalize vs.length = L at *
 go_enter Try.func37, Try.ntmps37
 go_wp2_with (go_at_call 58; refine hcon.mono ?_; rintro e w' ⟨rfl, d', n, os, hp, hs, rfl⟩)
 refine bodyPost_end (v := .tuple #[]) (by simp [results, Try.results37, go_sem]) rfl ?_
 obtain ⟨vs', ll', r1, r2, r3, r4⟩ := HRES.out d' n os hp hs
 exact ⟨rfl, vs', ll', r1, r2, r3, r4, HCH.out d' n os⟩
end Go.Proofs.Ytckjpaimbmlboaa
