/- slices.SortFunc at links by number$2, at rows of three numbers by number$1: contracts. Conditions: rows of the call's own, numbers that aren't great. -/
import Derived.Test.YtpcgklagmcnhaaaGreatT7Lays
namespace Go.Proofs.YtpcgklagmcnhaaaGreat
open Go.RowKit Go.Maps Go.Sort
namespace Plain
theorem ordK_swo {α : Type} (f : α → Int) (hf : ∀ x, -1000000 ≤ f x ∧ f x ≤ 1000000) : Go.Sort.SWO (ltOf fun x y : α => ordK (f x) (f y)) where
 irrefl x := by
  have := hf x
  unfold ltOf ordK
  rw [decide_eq_false_iff_not]
  dsimp only
  split <;> omega
 trans x y z h1 h2 := by
  have := hf x; have := hf y; have := hf z
  unfold ltOf ordK at *
  rw [decide_eq_true_iff] at *
  dsimp only at *
  split at h1 <;> split at h2 <;> split <;> omega
 ntrans x y z h1 h2 := by
  have := hf x; have := hf y; have := hf z
  unfold ltOf ordK at *
  rw [decide_eq_false_iff_not] at *
  dsimp only at *
  split at h1 <;> split at h2 <;> split <;> omega
end Plain
theorem cmpLk_d (x y : Plain.Lk) (w : World) (ha : -1000000 ≤ x.id) (ha2 : x.id ≤ 1000000) (hb : -1000000 ≤ y.id) (hb2 : y.id ≤ 1000000) :
  Calls Tryz.prog 74 #[.agg #[.int .i64 x.a, .int .i64 x.b, .int .i64 x.id], .agg #[.int .i64 y.a, .int .i64 y.b, .int .i64 y.id]] w fun e w' => e = .returned (.int .i64 (Plain.ordK x.id y.id)) ∧ Chg [] w w' ∧ w.drawn ≤ w'.drawn := by
 obtain ⟨xa, xb, a⟩ := x
 obtain ⟨ya, yb, b⟩ := y
 have HC := Lib.hid (((Chg.refl [] w).alloc (.cells #[.int .i64 xa, .int .i64 xb, .int .i64 a] 50)).alloc (.cells #[.int .i64 ya, .int .i64 yb, .int .i64 b] 50))
 go_enter Tryz.func74, Tryz.ntmps74
 go_wp2_with fail
 refine (order_any a b _ ha ha2 hb hb2).mono ?_
 rintro e w2 ⟨rfl, rfl⟩
 go_wp2
 go_ret
 exact ⟨rfl, HC.out, Nat.le_refl _⟩
structure LkIn where
 lk : Plain.Lk
 ok : -1000000 ≤ lk.id ∧ lk.id ≤ 1000000
def LkIn.enc (z : LkIn) : List Value := [.int .i64 z.lk.a, .int .i64 z.lk.b, .int .i64 z.lk.id]
theorem LkIn.one (z : LkIn) : ∀ v ∈ z.enc, v.oneCell' = true := by
 intro v hv
 unfold LkIn.enc at hv
 simp at hv
 rcases hv with rfl | rfl | rfl <;> rfl
theorem lks_in : ∀ (l : List Plain.Lk), (∀ x ∈ l, -1000000 ≤ x.id ∧ x.id ≤ 1000000) → ∃ zs : List LkIn, zs.map LkIn.lk = l
 | [], _ => ⟨[], rfl⟩
 | x :: l, h => by
  obtain ⟨zs, q1⟩ := lks_in l fun y hy => h y (List.mem_cons_of_mem _ hy)
  exact ⟨⟨x, h x (by simp)⟩ :: zs, by rw [List.map_cons, q1]⟩
theorem lks_cells : ∀ (zs : List LkIn), zs.flatMap LkIn.enc = lkCells (zs.map LkIn.lk)
 | [] => rfl
 | z :: zs => by
  rw [List.flatMap_cons, lks_cells zs]
  rfl
set_option maxHeartbeats 1000000 in
theorem sortLk_any (v : Value) (l : List Plain.Lk) (B : Nat) (w : World) (h : LkRow w B v l) (hn : l.length ≤ 1000000) (hl : ∀ x ∈ l, -1000000 ≤ x.id ∧ x.id ≤ 1000000) :
  Calls Tryz.prog 73 #[v, .func (.func 74) #[] #[]] w fun e w' => e = .returned (.tuple #[]) ∧ ∃ l', LkRow w' B v l' ∧ l'.Perm l ∧ l'.Pairwise (fun x y => ¬ Plain.ordK y.id x.id < 0) ∧ Chg v.ownBlock.toList w w' := by
 obtain ⟨ao, cap, rfl⟩ := h.shape
 by_cases h0 : l.length = 0
 ·have hcon := AnyF.slices_SortFunc_none { Tryz.sortLinks with } ao cap (.func (.func 74) #[] #[]) w
  change Calls Tryz.prog 73 _ _ _ at hcon
  have hns : l = [] := List.length_eq_zero_iff.1 h0
  subst hns
  refine hcon.mono ?_
  rintro e w' ⟨rfl, rfl⟩
  exact ⟨rfl, [], h, List.Perm.refl _, List.Pairwise.nil, Chg.refl _ _⟩
 obtain ⟨zs, q1⟩ := lks_in l hl
 have hzl : zs.length = l.length := by rw [← q1]; simp
 obtain ⟨z0, hz0⟩ : ∃ z0 : LkIn, z0 ∈ zs := by
  cases zs with
  | nil => rw [← hzl] at h0; simp at h0
  | cons z zs => exact ⟨z, by simp⟩
 haveI : Inhabited LkIn := ⟨z0⟩
 obtain ⟨g, cap', eg0⟩ := owns_some h.1 (by omega)
 cases eg0
 have hout := h.1
 rw [← q1, ← lks_cells, q1, ← hzl] at hout
 have eg : ∀ args w, (callFunc 74 args).run Tryz.prog w = .ok (.enter 74 args) w := enters_of Tryz.func74 (by kernel_rfl) rfl
 have hcon := sortK_any Tryz.sortLinks 3 (fun w => by kernel_rfl) (fun w => by kernel_rfl) LkIn.enc (fun _ => rfl) LkIn.one (fun x y => Plain.ordK x.lk.id y.lk.id) (Plain.ordK_swo (fun x : LkIn => x.lk.id) fun x => x.ok) 74 eg g cap B 50 zs w hout (by omega) fun W hW x y =>
  cmpLk_d x.lk y.lk W x.ok.1 x.ok.2 y.ok.1 y.ok.2
 change Calls Tryz.prog 73 _ _ _ at hcon
 rw [hzl] at hcon
 refine hcon.mono ?_
 rintro e w' ⟨rfl, ys, hp, hs, how, hc⟩
 have hyl : ys.length = l.length := by rw [hp.length_eq, hzl]
 have hpl : (ys.map LkIn.lk).Perm l := by rw [← q1]; exact hp.map _
 refine ⟨rfl, ys.map LkIn.lk, ?_, hpl, ?_, hc⟩
 ·rw [lks_cells] at how
  refine ⟨?_, fun x hx => h.2.1 x (hpl.mem_iff.1 hx), by rw [hpl.length_eq]; exact h.2.2⟩
  rw [hpl.length_eq]
  exact how
 rw [List.pairwise_map]
 refine hs.imp fun {x y} hxy => ?_
 unfold ltOf at hxy
 rw [decide_eq_false_iff_not] at hxy
 exact hxy
structure Plain.T3 where
 a : Int
 b : Int
 c : Int
namespace Plain
def T3.list (t : T3) : List Int := [t.a, t.b, t.c]
instance : Inhabited T3 := ⟨⟨0, 0, 0⟩⟩
end Plain
def t3Cells (l : List Plain.T3) : List Value := l.flatMap fun t => [.int .i64 t.a, .int .i64 t.b, .int .i64 t.c]
def T3Row (w : World) (B : Nat) (v : Value) (l : List Plain.T3) : Prop := w.ownsRow B 123 3 v l.length (t3Cells l) ∧ ∀ t ∈ l, I64 t.a ∧ I64 t.b ∧ I64 t.c
theorem ints_box {w : World} {b : Nat} {t : TypeId} {x y z : Int} (h : w.heap[b]? = some (.cells #[.int .i64 x, .int .i64 y, .int .i64 z] t (0, 0))) (hx : I64 x ∧ I64 y ∧ I64 z) : IntsAt w (.slice (some ⟨b, 0, none⟩) 3 3) [x, y, z] := by
 have hc := fun i => cell_of_row w b i _ _ _ h
 refine ⟨_, 3, rfl, ?_, by simp, fun _ => ⟨b, 0, rfl, fun i hi => ?_⟩⟩
 ·simpa using hx
 have hi : i < 3 := hi
 rcases (show i = 0 ∨ i = 1 ∨ i = 2 by omega) with rfl | rfl | rfl
 ·exact (hc 0).trans rfl
 ·exact (hc 1).trans rfl
 exact (hc 2).trans rfl
theorem cmpT3_d (x y : Plain.T3) (w : World) (hx : I64 x.a ∧ I64 x.b ∧ I64 x.c) (hy : I64 y.a ∧ I64 y.b ∧ I64 y.c) :
  Calls Tryz.prog 72 #[.agg #[.int .i64 x.a, .int .i64 x.b, .int .i64 x.c], .agg #[.int .i64 y.a, .int .i64 y.b, .int .i64 y.c]] w fun e w' => e = .returned (.int .i64 (Plain.cmpL x.list y.list)) ∧ Chg [] w w' ∧ w.drawn ≤ w'.drawn := by
 obtain ⟨wb, hwb⟩ : ∃ wb, (w.alloc (.cells #[.int .i64 x.a, .int .i64 x.b, .int .i64 x.c] 123)).alloc (.cells #[.int .i64 y.a, .int .i64 y.b, .int .i64 y.c] 123) = wb := ⟨_, rfl⟩
 obtain ⟨t1, t2, t3⟩ := box_two w #[.int .i64 x.a, .int .i64 x.b, .int .i64 x.c] #[.int .i64 y.a, .int .i64 y.b, .int .i64 y.c] 123 123
 have HDB := Lib.hid (show w.drawn ≤ ((w.alloc (.cells #[.int .i64 x.a, .int .i64 x.b, .int .i64 x.c] 123)).alloc (.cells #[.int .i64 y.a, .int .i64 y.b, .int .i64 y.c] 123)).drawn from Nat.le_refl _)
 rw [hwb] at t1 t2 t3 HDB
 have HC := Lib.hid t3
 have T1 := Lib.hid t1
 have T2 := Lib.hid t2
 have q0 := lt_of_block t1
 have q1 := lt_of_block t2
 clear t1 t2 t3
 go_enter Tryz.func72, Tryz.ntmps72
 go_wp2_with fail
 clear hwb
 have hS0 : Chg [] wb wb.drew := (Chg.refl [] wb).drew
 refine wp_region_way (Chg [] wb) [0, 1] (Way.line [0, 1, 2, 3] .done) (by kernel_rfl) (by kernel_rfl) ?_
 simp only [Way.line]
 repeat
  first
   | (refine along_off rfl (by rfl) (by rfl) (fun _ _ _ h => h) hS0 ?_; simp only [Act.put, Z1, Z2, Z3, Z4, Z5, Z6])
   | (refine along_read (v := ?_) rfl (by rfl) (by rfl) (fun _ _ _ h => h) hS0 (fun w' hS' => ?_) ?_; rotate_left; (focus (skip; clear hS'; go_simp; try with_reducible rfl)); simp only [Act.put, Z1, Z2, Z3, Z4, Z5, Z6])
   | (refine along_skip rfl (by rfl) (by rfl) hS0 ?_; simp only [Act.put, Z1, Z2, Z3, Z4, Z5, Z6])
 refine along_op rfl (by rfl) (by rfl) (fun K hK => ?_)
 go_simp
 refine (compareL_any _ _ x.list y.list _ ((ints_box T1.out hx).chg hS0 (by simp)) ((ints_box T2.out hy).chg hS0 (by simp))).mono ?_
 rintro e w4 ⟨rfl, rfl⟩
 refine hK.out _ _ (fun _ => hS0) ?_
 clear hK K
 try simp only [Act.put, Z1, Z2, Z3, Z4, Z5, Z6]
 refine along_op rfl (by rfl) (by rfl) (fun K hK => ?_)
 go_simp
 refine hK.out _ _ (fun _ => hS0) ?_
 clear hK K
 try simp only [Act.put, Z1, Z2, Z3, Z4, Z5, Z6]
 refine along_done ?_
 go_wp2
 go_ret
 exact ⟨rfl, HC.out.tr hS0, Nat.le_trans HDB.out (Nat.le_succ _)⟩
structure T3In where
 t : Plain.T3
 ok : I64 t.a ∧ I64 t.b ∧ I64 t.c
def T3In.enc (z : T3In) : List Value := [.int .i64 z.t.a, .int .i64 z.t.b, .int .i64 z.t.c]
theorem T3In.one (z : T3In) : ∀ v ∈ z.enc, v.oneCell' = true := by
 intro v hv
 unfold T3In.enc at hv
 simp at hv
 rcases hv with rfl | rfl | rfl <;> rfl
theorem t3s_in : ∀ (l : List Plain.T3), (∀ t ∈ l, I64 t.a ∧ I64 t.b ∧ I64 t.c) → ∃ zs : List T3In, zs.map T3In.t = l
 | [], _ => ⟨[], rfl⟩
 | x :: l, h => by
  obtain ⟨zs, q1⟩ := t3s_in l fun y hy => h y (List.mem_cons_of_mem _ hy)
  exact ⟨⟨x, h x (by simp)⟩ :: zs, by rw [List.map_cons, q1]⟩
theorem t3s_cells : ∀ (zs : List T3In), zs.flatMap T3In.enc = t3Cells (zs.map T3In.t)
 | [] => rfl
 | z :: zs => by
  rw [List.flatMap_cons, t3s_cells zs]
  rfl
set_option maxHeartbeats 1000000 in
theorem sortT3_any (v : Value) (l : List Plain.T3) (B : Nat) (w : World) (h : T3Row w B v l) (hn : l.length ≤ 1000000) :
  Calls Tryz.prog 71 #[v, .func (.func 72) #[] #[]] w fun e w' => e = .returned (.tuple #[]) ∧ ∃ l', T3Row w' B v l' ∧ l'.Perm l ∧ l'.Pairwise (fun x y => ¬ Plain.cmpL y.list x.list < 0) ∧ Chg v.ownBlock.toList w w' := by
 obtain ⟨ao, cap, rfl⟩ := owns_shape h.1
 by_cases h0 : l.length = 0
 ·have hcon := AnyF.slices_SortFunc_none { Tryz.sortTrips with } ao cap (.func (.func 72) #[] #[]) w
  change Calls Tryz.prog 71 _ _ _ at hcon
  have hns : l = [] := List.length_eq_zero_iff.1 h0
  subst hns
  refine hcon.mono ?_
  rintro e w' ⟨rfl, rfl⟩
  exact ⟨rfl, [], h, List.Perm.refl _, List.Pairwise.nil, Chg.refl _ _⟩
 obtain ⟨zs, q1⟩ := t3s_in l h.2
 have hzl : zs.length = l.length := by rw [← q1]; simp
 obtain ⟨z0, hz0⟩ : ∃ z0 : T3In, z0 ∈ zs := by
  cases zs with
  | nil => rw [← hzl] at h0; simp at h0
  | cons z zs => exact ⟨z, by simp⟩
 haveI : Inhabited T3In := ⟨z0⟩
 obtain ⟨g, cap', eg0⟩ := owns_some h.1 (by omega)
 cases eg0
 have hout := h.1
 rw [← q1, ← t3s_cells, q1, ← hzl] at hout
 have eg : ∀ args w, (callFunc 72 args).run Tryz.prog w = .ok (.enter 72 args) w := enters_of Tryz.func72 (by kernel_rfl) rfl
 have hcon := sortK_any Tryz.sortTrips 3 (fun w => by kernel_rfl) (fun w => by kernel_rfl) T3In.enc (fun _ => rfl) T3In.one (fun x y => Plain.cmpL x.t.list y.t.list) (Plain.cmpL_swo (fun x : T3In => x.t.list)) 72 eg g cap B 123 zs w hout (by omega) fun W hW x y =>
  cmpT3_d x.t y.t W x.ok y.ok
 change Calls Tryz.prog 71 _ _ _ at hcon
 rw [hzl] at hcon
 refine hcon.mono ?_
 rintro e w' ⟨rfl, ys, hp, hs, how, hc⟩
 have hpl : (ys.map T3In.t).Perm l := by rw [← q1]; exact hp.map _
 refine ⟨rfl, ys.map T3In.t, ?_, hpl, ?_, hc⟩
 ·rw [t3s_cells] at how
  refine ⟨?_, fun x hx => h.2 x (hpl.mem_iff.1 hx)⟩
  rw [hpl.length_eq]
  exact how
 rw [List.pairwise_map]
 refine hs.imp fun {x y} hxy => ?_
 unfold ltOf at hxy
 rw [decide_eq_false_iff_not] at hxy
 exact hxy
end Go.Proofs.YtpcgklagmcnhaaaGreat
namespace Go.Proofs.YtpcgklagmcnhaaaGreat
open Go.RowKit Go.Maps Go.ChangeShapes
namespace Plain
def occ (l : List Lk) (i : Nat) (id : Int) : List Int := (l.filter fun x => decide (x.id < 0 ∧ x.id = id)).map fun _ => (i : Int)
def atF (ns : List Nd) (k j : Nat) (id : Int) : List Int := ((List.range k).flatMap fun i => occ (nd0 ns i).l i id) ++ occ ((nd0 ns k).l.take j) k id
def pre (ns : List Nd) (k : Nat) : Nat := sumK (ns.take k)
theorem occ_snoc (l : List Lk) (x : Lk) (i : Nat) (id : Int) : occ (l ++ [x]) i id = occ l i id ++ if x.id < 0 ∧ id = x.id then [(i : Int)] else [] := by
 unfold occ
 rw [List.filter_append, List.map_append]
 congr 1
 by_cases h : x.id < 0 ∧ x.id = id
 ·rw [if_pos ⟨h.1, h.2.symm⟩]
  rw [List.filter_cons, if_pos (decide_eq_true h)]
  rfl
 rw [if_neg (fun q => h ⟨q.1, q.2.symm⟩), List.filter_cons, if_neg (by rw [decide_eq_true_iff]; exact h)]
 rfl
theorem atF_zero (ns : List Nd) : atF ns 0 0 = fun _ => [] := by
 funext id
 simp [atF, occ]
theorem atF_next (ns : List Nd) (k : Nat) : atF ns k (nd0 ns k).l.length = atF ns (k + 1) 0 := by
 funext id
 unfold atF
 rw [List.range_succ, List.flatMap_append, List.take_length]
 simp [occ]
theorem atF_step {ns : List Nd} {k j : Nat} (hj : j < (nd0 ns k).l.length) (id : Int) : atF ns k (j + 1) id = atF ns k j id ++ if (at0 (nd0 ns k).l j).id < 0 ∧ id = (at0 (nd0 ns k).l j).id then [(k : Int)] else [] := by
 unfold atF
 rw [lk_snoc hj, occ_snoc, List.append_assoc]
theorem atF_skip {ns : List Nd} {k j : Nat} (hj : j < (nd0 ns k).l.length) (h : ¬ (at0 (nd0 ns k).l j).id < 0) : atF ns k (j + 1) = atF ns k j := by
 funext id
 rw [atF_step hj, if_neg (fun q => h q.1), List.append_nil]
theorem atF_put {ns : List Nd} {k j : Nat} (hj : j < (nd0 ns k).l.length) (h : (at0 (nd0 ns k).l j).id < 0) : atF ns k (j + 1) = fun y => if y = (at0 (nd0 ns k).l j).id then atF ns k j (at0 (nd0 ns k).l j).id ++ [(k : Int)] else atF ns k j y := by
 funext id
 rw [atF_step hj]
 by_cases e : id = (at0 (nd0 ns k).l j).id
 ·rw [if_pos ⟨h, e⟩, if_pos e, e]
 rw [if_neg (fun q => e q.2), if_neg e, List.append_nil]
theorem pre_succ {ns : List Nd} {k : Nat} (hk : k < ns.length) : pre ns (k + 1) = pre ns k + (nd0 ns k).l.length := by
 unfold pre sumK
 rw [List.take_succ_eq_append_getElem hk, List.map_append, List.sum_append]
 simp [nd0, List.getD, hk]
theorem pre_le : ∀ (ns : List Nd) (k : Nat), pre ns k ≤ sumK ns
 | [], k => by simp [pre, sumK]
 | n :: ns, 0 => by simp [pre, sumK]
 | n :: ns, k + 1 => by
  have ih := pre_le ns k
  unfold pre sumK at *
  simp only [List.take_succ_cons, List.map_cons, List.sum_cons]
  omega
end Plain
theorem SMap.keep {w w' : World} {b n : Nat} {f : Int → List Int} {own : List Nat} (h : SMap w b n f) (hc : Chg own w w') (hb0 : b ∉ own) (ho : ∀ j ∈ own, j ≤ b ∨ ∀ cs r, w.heap[j]? ≠ some (.cells cs 3 r)) : SMap w' b n f := by
 obtain ⟨D, ⟨es, clock, hb, F, hs, rfl, hbb, hlen, hap⟩, hD⟩ := h
 have hk : ∀ {v : Value} {zs : List Int}, w.ownsInts (b + 1) 3 .i64 v zs → w'.ownsInts (b + 1) 3 .i64 v zs := fun {v zs} hi => ⟨owns_chg hi.1 hc (fun c hcb hm => by
  rcases ho c hm with q | q
  ·have := (hi.1.lt c hcb).1; omega
  obtain ⟨cs, hh⟩ := owns_kind hi.1 hcb
  exact q _ _ hh), hi.2⟩
 have hst : ∀ x ∈ es.toList, ∀ z, rowElem (H := Unit) w (b + 1) 3 .i64 x.val = some z → rowElem w' (b + 1) 3 .i64 x.val = some z := fun x hx z hz => by
  obtain ⟨zs, hi, rfl⟩ := rowElem_inv hz
  exact rowElem_mk (hk hi)
 obtain ⟨F1, hmap, _⟩ := F.stay hst
 refine ⟨_, ⟨es, clock, hc.heap hb hb0, F1, hs, rfl, hbb, fun x hx zs hi => ?_, hap⟩, by rw [hmap]; exact hD⟩
 obtain ⟨y, hy⟩ := F.reads x hx
 obtain ⟨z, hz, _⟩ := Go.WideElems.rd_val hy
 obtain ⟨zs0, ho0, _⟩ := rowElem_inv hz
 rw [hi.unique (hk ho0)]
 exact hlen x hx zs0 ho0
theorem SMap.obj {w : World} {b n : Nat} {f : Int → List Int} (h : SMap w b n f) : ∃ es c, w.heap[b]? = some (.map es c) := by
 obtain ⟨D, ⟨es, clock, hb, -⟩, -⟩ := h
 exact ⟨es, clock, hb⟩
theorem SMap.hard {w w' : World} {b n : Nat} {f : Int → List Int} {own : List Nat} (h : SMap w b n f) (hc : Chg own w w') (hh : Hard w own) : SMap w' b n f := by
 obtain ⟨es, c, hb⟩ := h.obj
 exact h.keep hc (fun q => (hh b q).2 _ _ hb) fun j hj => Or.inr fun cs r => (hh j hj).1 cs _ r
theorem NdRow.hard {w w' : World} {B : Nat} {v : Value} {vs : List Value} {ns : List Plain.Nd} {own : List Nat} (h : NdRow w B v vs ns) (hc : Chg own w w') (hh : Hard w own) : NdRow w' B v vs ns := by
 refine ⟨owns_chg h.out hc fun b hb hm => ?_, h.len, fun i hi => ⟨(h.row i hi).1, (h.row i hi).2.chg hc fun b hb hm => ?_⟩⟩
 ·obtain ⟨cs, e⟩ := owns_kind h.out hb
  exact (hh b hm).1 _ _ _ e
 obtain ⟨cs, r, e⟩ := (h.row i hi).2.kind b hb
 exact (hh b hm).1 _ _ _ e
theorem heap_hard {w w' : World} {own : List Nat} {b : Nat} {cs : Array Value} {t : TypeId} {r : Nat × Nat} (h : w.heap[b]? = some (.cells cs t r)) (hc : Chg own w w') (hh : Hard w own) : w'.heap[b]? = some (.cells cs t r) := hc.heap h fun q => (hh b q).1 _ _ _ h
end Go.Proofs.YtpcgklagmcnhaaaGreat
namespace Go.Proofs.YtpcgklagmcnhaaaGreat
open Go.RowKit Go.Maps
def TwoBox (p cb b : Nat) (W : World) : Prop := W.heap[cb]? = some (.cells #[.pointer (some ⟨p, 0, none⟩)] 23 (0, 0)) ∧ W.heap[b]? = some (.cells #[.pointer (some ⟨p, 0, none⟩)] 23 (0, 0))
theorem TwoBox.fresh {p cb b : Nat} {W W' : World} (h : TwoBox p cb b W) (hc : Chg [] W W') : TwoBox p cb b W' := ⟨hc.hp h.1, hc.hp h.2⟩
def NumJ (w : World) (p cb b2 mb : Nat) (ns0 : List Plain.Nd) (k : Nat) (ns : List Plain.Nd) (W : World) : Prop :=
 ns = ns0 ∧ Chg [] w W ∧ W.heap[b2]? = some (.cells #[.map (some mb)] 121 (0, 0)) ∧ TwoBox p cb w.heap.size W ∧ ∃ m, m ≤ Plain.pre ns k ∧ SMap W mb m (Plain.atF ns k 0)
theorem NumJ.calm {w : World} {p cb b2 mb B : Nat} {ns0 : List Plain.Nd} (hB : w.heap.size ≤ B) : Calmly B (NumJ w p cb b2 mb ns0) := by
 rintro k ns W W' own ⟨h1, h3, h4, h5, m, h6, h7⟩ hc ho hh
 exact ⟨h1, h3.trans hc (fun j hj => Or.inr (Nat.le_trans hB (ho j hj))), heap_hard h4 hc hh, ⟨heap_hard h5.1 hc hh, heap_hard h5.2 hc hh⟩, m, h6, h7.hard hc hh⟩
section
variable {o : Oper} {a : Act} {K : Act → World → Prop} {Q : Exit → Act → World → Prop} {w : World}
theorem op_slook (m x : Operand) (hop : o.op = Op.lookup 121 m x false) {b n : Nat} {f : Int → List Int} (h : SMap w b n f) (hn : n < 4294967296) (hm : a.eval m = .map (some b)) {k : Int} (hk : I64 k) (hx : a.eval x = .int .i64 k)
  (hK : ∀ v, RowAt w (b + 1) v (f k) → (f k).length ≤ n → SBack w b n f k v → K (a.put o.dst v) w) : o.wp Tryz.prog a w K Q := by
 obtain ⟨v, hrun, r1, r2, r3⟩ := h.look hn hk
 unfold Oper.wp
 simp [execOp, hop, hm, hx, hrun, Result.andThen]
 exact hK v r1 r2 r3
theorem op_sback {w0 : World} (m x u : Operand) (hop : o.op = Op.mapUpdate 121 m x u) {b n : Nat} {f : Int → List Int} {k z : Int} {v v' : Value} (hb : SBack w0 b n f k v) (hm : a.eval m = .map (some b)) (hx : a.eval x = .int .i64 k) (hu : a.eval u = v')
  (hrow : RowAt w (b + 1) v' (f k ++ [z])) (hc : Chg (foot v) w0 w) (hf : ∀ j ∈ foot v', j ∈ foot v ∨ w0.heap.size ≤ j)
  (hK : ∀ w2, SMap w2 b (n + 1) (fun y => if y = k then f k ++ [z] else f y) → Chg [b] w w2 → K (a.put o.dst undef) w2) : o.wp Tryz.prog a w K Q := by
 obtain ⟨w2, hrun, r1, r2⟩ := hb w v' z hrow hc hf
 unfold Oper.wp
 simp [execOp, hop, hm, hx, hu, hrun, Result.andThen]
 exact hK w2 r1 r2
end
theorem ints_one {w : World} {b : Nat} {x : Int} {t : TypeId} (h : w.heap[b]? = some (.cells #[.int .i64 x] t (0, 0))) (hx : I64 x) : IntsAt w (.slice (some ⟨b, 0, none⟩) 1 1) [x] := by
 refine ⟨_, 1, rfl, by simpa using hx, by simp, fun _ => ⟨b, 0, rfl, fun i hi => ?_⟩⟩
 have hi : i < 1 := hi
 obtain rfl : i = 0 := by omega
 exact (cell_of_row w b 0 _ _ _ h).trans rfl
theorem moves_more {W wr w' : World} {own own2 : List Nat} (h1 : Chg own W wr) (h2 : Soft W own) (h3 : Chg own2 wr w') (h4 : Soft wr own2) : ∃ own3, Chg own3 W w' ∧ Soft W own3 := by
 refine ⟨(own ++ own2).filter (· < W.heap.size), ?_, ?_⟩
 ·have hc : Chg (own ++ own2) W w' := (h1.mono fun j hj => Or.inl (List.mem_append_left _ hj)).trans h3 fun j hj => Or.inl (List.mem_append_right _ hj)
  exact ⟨hc.os, hc.tape, hc.output, hc.size, fun k hk hn => hc.block k hk fun q => hn (List.mem_filter.2 ⟨q, decide_eq_true hk⟩)⟩
 intro j hj
 obtain ⟨hj1, hj2⟩ := List.mem_filter.1 hj
 have hjw : j < W.heap.size := of_decide_eq_true hj2
 by_cases ho : j ∈ own
 ·exact h2 j ho
 rcases List.mem_append.1 hj1 with q | q
 ·exact absurd q ho
 have h5 := h4 j q
 rw [h1.block j hjw ho] at h5
 exact h5
theorem row_soft {w : World} {B : Nat} {v : Value} {l : List Int} (h : RowAt w B v l) : Soft w (foot v) := fun j hj => by
 obtain ⟨cs, e⟩ := owns_kind h.1 (by rw [h.foot] at hj; simpa using hj)
 exact Or.inl ⟨_, _, _, e⟩
theorem row_not {w : World} {B : Nat} {v : Value} {l : List Int} {b : Nat} {cs : Array Value} {t : TypeId} {r : Nat × Nat} (h : RowAt w B v l) (hb : w.heap[b]? = some (.cells cs t r)) (ht : t ≠ 3) : b ∉ foot v := fun hj => by
 obtain ⟨cs', e⟩ := owns_kind h.1 (by rw [h.foot] at hj; simpa using hj)
 rw [hb] at e
 simp at e
 exact ht e.2.1
theorem normal_only {c : Code} {Q : Exit → Act → World → Prop} {a : Act} {w : World} (h : c.wp Tryz.prog (Exit.then (fun a w => Q .normal a w) fun _ _ _ => False) a w) : c.wp Tryz.prog Q a w :=
 wp_mono h fun e a w hh => by cases e <;> first | exact hh | exact hh.elim
theorem leaves_past {fn : Func} {tmps : Array Value} {R : Ending → World → Prop} : ∀ {ds : List Nat} {W : World}, ds.Nodup → (∀ D ∈ ds, W.heap[D]? = some (.deferred (some []))) → (∀ W', Chg ds W W' → LeavesIn Fence.wide 9 Tryz.prog fn tmps R [] .returning W') →
  LeavesInM Fence.wide 9 Tryz.prog fn tmps R (ds.map fun D => { target := .collected D, args := #[] }) .returning W
 | [], W, _, _, h => h W (Chg.refl _ _)
 | D :: ds, W, hn, hd, h => by
  obtain ⟨h1, h2⟩ := List.nodup_cons.1 hn
  refine ⟨by simp, .inl ⟨_, _, rfl, run_takeDeferred (hd D (by simp)), leaves_past h2 (fun D' q => (chg_put (W := W) (l := D) _).heap (hd D' (by simp [q])) (fun r => h1 (by rw [← List.mem_singleton.1 r]; exact q))) fun W' hc => h W' ?_⟩⟩
  exact ((chg_put (W := W) (l := D) (.deferred none)).mono (own' := D :: ds) (by simp)).trans hc fun j hj => Or.inl (by simp [hj])
def numAct (a : Act) (t1 t2 s1 s2 : Tmp) (W : World) (k : Nat) (kind : Int) (u : Value) : Act :=
 { tmps := (((a.tmps.setIfInBounds t1 (.int .i64 k)).setIfInBounds t2 (.agg #[.int .i64 kind, u])).setIfInBounds s1 (.int .i64 k)).setIfInBounds s2 (.pointer (some ⟨W.heap.size, 0, none⟩)), defers := [] }
theorem range_nodes {gop : Operand} {t1 t2 : Tmp} (s1 s2 : Tmp) {assign body : Code} {Q : Exit → Act → World → Prop} {a : Act} {w : World} {p cb n : Nat} (hn : n ≤ 100000)
  (hg : a.eval gop = .func (.func 32) #[] #[.pointer (some ⟨cb, 0, none⟩)])
  (I : Nat → List Plain.Nd → World → Prop) (s0 : List Plain.Nd) (hI : Calmly w.heap.size I) (h0 : I 0 s0 w) (hview : ∀ k s W, I k s W → NdView p cb n s W)
  (hassign : ∀ l (k : Nat) (kind : Int) (uo : Option Addr) (m uc : Nat) W K, K (numAct a t1 t2 s1 s2 W k kind (.slice uo m uc)) (W.alloc (.cells #[.int .i64 kind, .slice uo m uc] 26)) → assign.wpIn (Fence.wide.inRound l) 7 Tryz.prog (Exit.then K (fun _ _ _ => False)) { tmps := (a.tmps.setIfInBounds t1 (.int .i64 k)).setIfInBounds t2 (.agg #[.int .i64 kind, .slice uo m uc]), defers := [] } W)
  (hbody : ∀ l k s W0 W W2 (N : Plain.Nd) uo uc, Plain.nd0 s k = N → I k s W0 → Chg [] W0 W → w.heap.size ≤ W0.heap.size → (∃ r, W2.heap[l]? = some (.loop r)) → I k s W2 → k < n → I64 N.kind → Chg [l] W W2 → w.heap.size ≤ l → LkRow W2 W0.heap.size (.slice uo N.l.length uc) N.l → W2.heap[W.heap.size]? = some (.cells #[.int .i64 N.kind, .slice uo N.l.length uc] 26 (0, 0)) → body.wpIn (Fence.wide.inRound l) 7 Tryz.prog (fun e _ W' => e = .normal ∧ Moves I (k + 1) W2 W') (numAct a t1 t2 s1 s2 W k N.kind (.slice uo N.l.length uc)) W2)
  (hdone : ∀ D s W, w.heap.size ≤ D → I n s W → W.heap[D]? = some (.deferred (some [])) → Q .normal { a with defers := { target := .collected D, args := #[] } :: a.defers } W) :
  (Code.rangeFunc gop #[t1, t2] assign body).wpIn Fence.wide 9 Tryz.prog Q a w := by
 refine range_own3 hg (enters_of Tryz.func32 (by kernel_rfl) rfl) (nodes1_gives p cb n hn) NdRd.stays I s0 hI h0 hview
  (fun W _ v2 => W.alloc (.cells (match v2 with | .agg cs => cs | _ => #[]) 26))
  (fun W v1 v2 => { tmps := (((a.tmps.setIfInBounds t1 v1).setIfInBounds t2 v2).setIfInBounds s1 v1).setIfInBounds s2 (.pointer (some ⟨W.heap.size, 0, none⟩)), defers := [] }) (fun W _ _ => (Chg.refl [] W).alloc _) ?_ ?_ hdone
 ·rintro l k s W0 W v1 v2 K ⟨rfl, u, rfl, -, h4⟩ hK
  obtain ⟨uo, uc, rfl⟩ := h4.shape
  exact hassign l k _ uo _ uc W K hK
 rintro l k s W0 W W2 v1 v2 h1 h2 h3 h4 h5 h6 h7 h8 h9 ⟨rfl, u, rfl, i3, i4⟩
 obtain ⟨uo, uc, rfl⟩ := i4.shape
 have hb := h4.heap (heap_alloc_new W (.cells #[.int .i64 (Plain.nd0 s k).kind, .slice uo (Plain.nd0 s k).l.length uc] 26)) (by simp; omega)
 exact hbody l k s W0 W W2 _ uo uc rfl h1 h2 h3 h5 h8 h9 i3 (((Chg.refl [] W).alloc _ |>.mono (own' := [l]) (fun j hj => by cases hj)).trans h4 fun j hj => Or.inl hj) h7 i4 hb
namespace Plain
structure GotT (f : Int → List Int) (left : Int → Bool) (rows : List T3) : Prop where
 nodup : (rows.map T3.c).Nodup
 mem : ∀ t, t ∈ rows ↔ I64 t.c ∧ left t.c = false ∧ f t.c = [t.a, t.b]
theorem GotT.start {f : Int → List Int} {left : Int → Bool} (h : ∀ x, I64 x → left x = false → f x = []) : GotT f left [] :=
 ⟨List.nodup_nil, fun t => ⟨fun q => (by cases q), fun ⟨h1, h2, h3⟩ => by rw [h _ h1 h2] at h3; cases h3⟩⟩
theorem GotT.skip {f : Int → List Int} {left : Int → Bool} {rows : List T3} (h : GotT f left rows) {x : Int} (h1 : (f x).length ≠ 2) : GotT f (fun z => left z && !decide (z = x)) rows := by
 refine ⟨h.nodup, fun t => (h.mem t).trans ⟨fun ⟨q1, q2, q3⟩ => ⟨q1, by rw [q2]; rfl, q3⟩, fun ⟨q1, q2, q3⟩ => ⟨q1, ?_, q3⟩⟩⟩
 by_cases e : t.c = x
 ·rw [← e, q3] at h1
  exact absurd rfl h1
 simpa [e] using q2
theorem GotT.more {f : Int → List Int} {left : Int → Bool} {rows : List T3} (h : GotT f left rows) {x a b : Int} (ix : I64 x) (hl : left x = true) (h1 : f x = [a, b]) : GotT f (fun z => left z && !decide (z = x)) (rows ++ [⟨a, b, x⟩]) := by
 refine ⟨?_, fun t => ?_⟩
 ·rw [List.map_append]
  refine List.nodup_append.2 ⟨h.nodup, by simp, fun m hm l hl2 e => ?_⟩
  obtain ⟨t, ht, rfl⟩ := List.mem_map.1 hm
  have h3 := ((h.mem t).1 ht).2.1
  rw [e, List.mem_singleton.1 hl2] at h3
  have h4 : left x = false := h3
  rw [hl] at h4
  cases h4
 rw [List.mem_append, List.mem_singleton, h.mem t]
 constructor
 ·rintro (⟨q1, q2, q3⟩ | rfl)
  ·exact ⟨q1, by rw [q2]; rfl, q3⟩
  exact ⟨ix, by simp, h1⟩
 rintro ⟨q1, q2, q3⟩
 by_cases e : t.c = x
 ·refine Or.inr ?_
  obtain ⟨ta, tb, tc⟩ := t
  dsimp only at *
  subst e
  rw [h1] at q3
  simp at q3
  rw [q3.1, q3.2]
 exact Or.inl ⟨q1, by simpa [e] using q2, q3⟩
theorem atF_ne {ns : List Nd} {n : Nat} {id : Int} (h : atF ns n 0 id ≠ []) : id < 0 ∧ ∃ i, i < n ∧ ∃ x ∈ (nd0 ns i).l, x.id = id := by
 obtain ⟨y, hy⟩ := List.exists_mem_of_ne_nil _ h
 unfold atF at hy
 rw [List.take_zero] at hy
 simp only [occ, List.filter_nil, List.map_nil, List.append_nil] at hy
 obtain ⟨i, hi, hm⟩ := List.mem_flatMap.1 hy
 obtain ⟨x, hx, -⟩ := List.mem_map.1 hm
 obtain ⟨h1, h2⟩ := List.mem_filter.1 hx
 have h2 := of_decide_eq_true h2
 exact ⟨by rw [← h2.2]; exact h2.1, i, List.mem_range.1 hi, x, h1, h2.2⟩
theorem GotT.small {f : Int → List Int} {left : Int → Bool} {rows : List T3} (h : GotT f left rows) (hf : ∀ x, f x ≠ [] → -1000000 ≤ x ∧ x < 0) : rows.length ≤ 1000000 := by
 have h1 := len_le_of_sub (l := rows.map T3.c) (m := (List.range 1000000).map fun i : Nat => -1 - (i : Int)) h.nodup fun y hy => by
  obtain ⟨t, ht, rfl⟩ := List.mem_map.1 hy
  have h3 := ((h.mem t).1 ht).2.2
  have h4 := hf t.c (by rw [h3]; simp)
  exact List.mem_map.2 ⟨(-1 - t.c).toNat, List.mem_range.2 (by omega), by omega⟩
 simpa using h1
end Plain
theorem lit_same (x y : Int) : (Lit.int .i64 y).sameKey (.int .i64 x) = decide (y = x) := by
 simp [Lit.sameKey]
theorem elemT3 : Elem 122 123 (.agg #[.int .i64 0, .int .i64 0, .int .i64 0]) 3 24 := ⟨Tryz.underlying122, by kernel_rfl, rfl, by decide, by decide⟩
theorem T3Row.nil (w : World) (B : Nat) : T3Row w B (.slice none 0 0) [] := ⟨World.ownsRow_nil _ _ _ _, by simp⟩
theorem T3Row.chg {w w' : World} {B : Nat} {v : Value} {l : List Plain.T3} {own : List Nat} (h : T3Row w B v l) (hc : Chg own w w') (hn : ∀ b, v.ownBlock = some b → b ∉ own) : T3Row w' B v l := ⟨owns_chg h.1 hc hn, h.2⟩
theorem T3Row.shape {w : World} {B : Nat} {v : Value} {l : List Plain.T3} (h : T3Row w B v l) : ∃ ao c, v = .slice ao l.length c := owns_shape h.1
theorem op_catT {o : Oper} {a : Act} {K : Act → World → Prop} {Q : Exit → Act → World → Prop} {w w0 : World} (s x : Operand) (ho : o.op = .call { callee := .builtin .append, args := #[s, x], argTypes := #[122, 122] })
  {B : Nat} {v : Value} {l : List Plain.T3} (t : Plain.T3) (hs : a.eval s = v) (hx : a.eval x = .slice (some ⟨w0.heap.size, 0, none⟩) 1 1) (h : T3Row w0 B v l) (hi : I64 t.a ∧ I64 t.b ∧ I64 t.c) (hB : B ≤ w0.heap.size) (hn : l.length < 4294967290) (hw : w = w0.alloc (.cells #[.int .i64 t.a, .int .i64 t.b, .int .i64 t.c] 123))
  (hK : ∀ v' w', T3Row w' B v' (l ++ [t]) → Chg v.ownBlock.toList w0 w' → (∀ b ∈ v'.ownBlock.toList, b ∈ v.ownBlock.toList ∨ w0.heap.size ≤ b) → K (a.put o.dst v') w') : o.wp Tryz.prog a w K Q := by
 subst hw
 have hc := (Chg.refl [] w0).alloc (.cells #[.int .i64 t.a, .int .i64 t.b, .int .i64 t.c] 123)
 have h' := h.chg hc (by simp)
 refine wp_spread elemT3 s x ho hs hx h'.1 (B' := w0.heap.size) (World.ownsRow_lit w0 #[.int .i64 t.a, .int .i64 t.b, .int .i64 t.c] 1 (Nat.le_refl _) (by decide) rfl) (Nat.le_trans hB hc.size) (oneInts3' t.a t.b t.c) (by omega) fun v' w' r1 r2 r3 => ?_
 refine hK v' w' ⟨?_, fun y hy => (List.mem_append.1 hy).elim (h.2 y) fun q => by rw [List.mem_singleton.1 q]; exact hi⟩ ((hc.mono (by simp)).trans r2 fun j hj => Or.inl hj) (fun b hb => (r3 b hb).imp id fun q => Nat.le_trans hc.size q)
 rw [List.length_append]
 have e : t3Cells (l ++ [t]) = t3Cells l ++ [.int .i64 t.a, .int .i64 t.b, .int .i64 t.c] := by unfold t3Cells; rw [List.flatMap_append]; rfl
 rw [e]
 exact r1
namespace Plain
def t30 (rs : List T3) (j : Nat) : T3 := rs.getD j default
def numF (rs : List T3) : Nat → Int → Option Int
 | 0 => fun _ => none
 | j + 1 => fun y => if y = (t30 rs j).c then some (-1 - (j : Int)) else numF rs j y
theorem t3_snoc {rs : List T3} {j : Nat} (h : j < rs.length) : rs.take (j + 1) = rs.take j ++ [t30 rs j] := by
 rw [List.take_succ_eq_append_getElem h]
 simp [t30, List.getD, h]
end Plain
theorem elemT2 : Elem 71 75 (.agg #[.int .i64 0, .int .i64 0]) 2 16 := ⟨Tryz.underlying71, by kernel_rfl, rfl, by decide, by decide⟩
def t2Cells (l : List Plain.T3) : List Value := l.flatMap fun t => [.int .i64 t.a, .int .i64 t.b]
def T2Row (w : World) (B : Nat) (v : Value) (l : List Plain.T3) : Prop := w.ownsRow B 75 2 v l.length (t2Cells l)
theorem T2Row.nil (w : World) (B : Nat) : T2Row w B (.slice none 0 0) [] := World.ownsRow_nil _ _ _ _
theorem T2Row.shape {w : World} {B : Nat} {v : Value} {l : List Plain.T3} (h : T2Row w B v l) : ∃ ao c, v = .slice ao l.length c := owns_shape h
theorem oneInts2' (x y : Int) : ∀ u ∈ (#[Value.int .i64 x, .int .i64 y]).toList, u.oneCell' = true := by intro u hu; simp at hu; rcases hu with rfl | rfl <;> rfl
theorem op_cat2 {o : Oper} {a : Act} {K : Act → World → Prop} {Q : Exit → Act → World → Prop} {w w0 : World} (s x : Operand) (ho : o.op = .call { callee := .builtin .append, args := #[s, x], argTypes := #[71, 71] })
  {B : Nat} {v : Value} {l : List Plain.T3} (t : Plain.T3) (hs : a.eval s = v) (hx : a.eval x = .slice (some ⟨w0.heap.size, 0, none⟩) 1 1) (h : T2Row w0 B v l) (hB : B ≤ w0.heap.size) (hn : l.length < 4294967290) (hw : w = w0.alloc (.cells #[.int .i64 t.a, .int .i64 t.b] 75))
  (hK : ∀ v' w', T2Row w' B v' (l ++ [t]) → Chg v.ownBlock.toList w0 w' → (∀ b ∈ v'.ownBlock.toList, b ∈ v.ownBlock.toList ∨ w0.heap.size ≤ b) → K (a.put o.dst v') w') : o.wp Tryz.prog a w K Q := by
 subst hw
 have hc := (Chg.refl [] w0).alloc (.cells #[.int .i64 t.a, .int .i64 t.b] 75)
 have h' := owns_chg h hc (by simp)
 refine wp_spread elemT2 s x ho hs hx h' (B' := w0.heap.size) (World.ownsRow_lit w0 #[.int .i64 t.a, .int .i64 t.b] 1 (Nat.le_refl _) (by decide) rfl) (Nat.le_trans hB hc.size) (oneInts2' t.a t.b) (by omega) fun v' w' r1 r2 r3 => ?_
 refine hK v' w' ?_ ((hc.mono (by simp)).trans r2 fun j hj => Or.inl hj) (fun b hb => (r3 b hb).imp id fun q => Nat.le_trans hc.size q)
 unfold T2Row
 rw [List.length_append]
 have e : t2Cells (l ++ [t]) = t2Cells l ++ [.int .i64 t.a, .int .i64 t.b] := by unfold t2Cells; rw [List.flatMap_append]; rfl
 rw [e]
 exact r1
theorem T3Row.cell {w : World} {B n c j : Nat} {ao : Option Addr} {l : List Plain.T3} (h : T3Row w B (.slice ao n c) l) (hj : j < l.length) : ∃ g, ao = some ⟨g, 0, none⟩ ∧ w.cell? ⟨g, j * 3, none⟩ = some (.int .i64 (Plain.t30 l j).a) ∧ w.cell? ⟨g, j * 3 + 1, none⟩ = some (.int .i64 (Plain.t30 l j).b) ∧ w.cell? ⟨g, j * 3 + 2, none⟩ = some (.int .i64 (Plain.t30 l j).c) := by
 rcases h.1.2 with ⟨q, h0⟩ | ⟨g, cap, cur, q, hb, hh, hnc, hcm, hcs, hys⟩
 ·omega
 cases q
 have hat : ∀ i, i < 3 → (t3Cells l)[j * 3 + i]? = [Value.int .i64 (Plain.t30 l j).a, .int .i64 (Plain.t30 l j).b, .int .i64 (Plain.t30 l j).c][i]? := fun i hi => by
  have h1 := flatMap_at (enc := fun t : Plain.T3 => [Value.int .i64 t.a, .int .i64 t.b, .int .i64 t.c]) (k := 3) (fun _ => rfl) l (j * 3 + i) (by omega)
  rw [show (j * 3 + i) / 3 = j by omega, show (j * 3 + i) % 3 = i by omega] at h1
  rw [show t3Cells l = l.flatMap fun t : Plain.T3 => [Value.int .i64 t.a, .int .i64 t.b, .int .i64 t.c] from rfl, h1]
  simp [Plain.t30, List.getD, hj]
 have hc : ∀ i, i < 3 → w.cell? ⟨g, j * 3 + i, none⟩ = [Value.int .i64 (Plain.t30 l j).a, .int .i64 (Plain.t30 l j).b, .int .i64 (Plain.t30 l j).c][i]? := fun i hi => by
  rw [cell_of_row w _ (j * 3 + i) cur 123 (0, 0) hh, ← hat i hi, ← hys, List.getElem?_take, if_pos (by omega)]
  simp
 exact ⟨g, rfl, hc 0 (by decide), hc 1 (by decide), hc 2 (by decide)⟩
namespace Plain
def renK (f : Int → Option Int) (x : Lk) : Lk := if x.id < 0 then ⟨min x.a x.b, max x.a x.b, (f x.id).getD 0⟩ else x
structure NumDone (f : Int → Option Int) (ns : List Nd) (k : Nat) (ms : List Nd) : Prop where
 len : ms.length = ns.length
 done : ∀ i, i < k → (nd0 ms i).kind = (nd0 ns i).kind ∧ (nd0 ms i).l.Perm ((nd0 ns i).l.map (renK f)) ∧ (nd0 ms i).l.Pairwise fun x y => ¬ ordK y.id x.id < 0
 rest : ∀ i, k ≤ i → nd0 ms i = nd0 ns i
theorem NumDone.start (f : Int → Option Int) (ns : List Nd) : NumDone f ns 0 ns := ⟨rfl, fun i hi => by omega, fun _ _ => rfl⟩
theorem NumDone.lens {f : Int → Option Int} {ns ms : List Nd} {k : Nat} (h : NumDone f ns k ms) (i : Nat) : (nd0 ms i).l.length = (nd0 ns i).l.length := by
 by_cases hi : i < k
 ·rw [(h.done i hi).2.1.length_eq, List.length_map]
 rw [h.rest i (by omega)]
theorem NumDone.step {f : Int → Option Int} {ns ms : List Nd} {k : Nat} {l : List Lk} (h : NumDone f ns k ms) (hk : k < ns.length) (hp : l.Perm ((nd0 ns k).l.map (renK f))) (ho : l.Pairwise fun x y => ¬ ordK y.id x.id < 0) : NumDone f ns (k + 1) (ms.set k ⟨(nd0 ns k).kind, l⟩) := by
 refine ⟨by rw [List.length_set]; exact h.len, fun i hi => ?_, fun i hi => ?_⟩
 ·by_cases e : i = k
  ·subst e
   rw [nd0_same _ (by rw [h.len]; exact hk)]
   exact ⟨rfl, hp, ho⟩
  rw [nd0_set _ (by omega)]
  exact h.done i (by omega)
 rw [nd0_set _ (by omega)]
 exact h.rest i (by omega)
end Plain
structure NumJ2 (wb : World) (p cb t1 ib bi B m : Nat) (f : Int → Option Int) (v ev : Value) (ns : List Plain.Nd) (k : Nat) (ms : List Plain.Nd) (W : World) : Prop where
 done : Plain.NumDone f ns k ms
 row : ∃ vs, NdRow W B v vs ms
 tree : W.heap[p]? = some (.cells #[v, ev] 73 (0, 0))
 vars : TwoBox p cb t1 W
 ids : W.heap[bi]? = some (.cells #[.map (some ib)] 126 (0, 0))
 map : IMap W ib m f
 chg : Chg (p :: v.ownBlock.toList) wb W
theorem IMap.obj {w : World} {b n : Nat} {f : Int → Option Int} (h : IMap w b n f) : ∃ es c, w.heap[b]? = some (.map es c) := by
 obtain ⟨D, ⟨es, clock, hb, -⟩, -⟩ := h
 exact ⟨es, clock, hb⟩
theorem NumJ2.calm {wb : World} {p cb t1 ib bi B m N : Nat} {f : Int → Option Int} {v ev : Value} {ns : List Plain.Nd} (hN : wb.heap.size ≤ N) : Calmly N (NumJ2 wb p cb t1 ib bi B m f v ev ns) := by
 rintro k ms W W' own ⟨h1, ⟨vs, h2⟩, h3, h4, h5, h6, h7⟩ hc ho hh
 refine ⟨h1, ⟨vs, h2.hard hc hh⟩, heap_hard h3 hc hh, ⟨heap_hard h4.1 hc hh, heap_hard h4.2 hc hh⟩, heap_hard h5 hc hh, h6.chg hc fun q => ?_, h7.trans hc fun j hj => Or.inr (Nat.le_trans hN (ho j hj))⟩
 obtain ⟨es, c, e⟩ := h6.obj
 exact (hh _ q).2 _ _ e
theorem NumJ2.view {wb : World} {p cb t1 ib bi B m : Nat} {f : Int → Option Int} {v ev : Value} {ns : List Plain.Nd} (hL : Plain.sumK ns ≤ 400000) {k : Nat} {ms : List Plain.Nd} {W : World} (h : NumJ2 wb p cb t1 ib bi B m f v ev ns k ms W) : NdView p cb ns.length ms W := by
 obtain ⟨vs, hr⟩ := h.row
 exact ⟨(cell_of_row _ _ 0 _ _ _ h.vars.1).trans rfl, h.done.len, fun i hi => by rw [h.done.lens]; exact Nat.le_trans (Plain.sumK_one hi) hL, v, vs, B, (cell_of_row _ _ 0 _ _ _ h.tree).trans rfl, hr⟩
def NumEnd (w : World) (p B : Nat) (v : Value) (ns : List Plain.Nd) (w' : World) : Prop :=
 ∃ rs ms vs' ev, (∀ t, t ∈ rs ↔ I64 t.c ∧ Plain.atF ns ns.length 0 t.c = [t.a, t.b]) ∧ (rs.map Plain.T3.c).Nodup ∧ rs.Pairwise (fun x y => ¬ Plain.cmpL y.list x.list < 0) ∧ Plain.NumDone (Plain.numF rs rs.length) ns ns.length ms ∧ w'.heap[p]? = some (.cells #[v, ev] 73 (0, 0)) ∧ T2Row w' w.heap.size ev rs ∧ NdRow w' B v vs' ms ∧ Chg (p :: v.ownBlock.toList) w w'
namespace Plain
def mixK (f : Lk → Lk) (l : List Lk) (j : Nat) : List Lk := (l.take j).map f ++ l.drop j
theorem mixK_all (f : Lk → Lk) (l : List Lk) : mixK f l l.length = l.map f := by simp [mixK]
theorem mixK_len (f : Lk → Lk) (l : List Lk) (j : Nat) : (mixK f l j).length = l.length := by
 unfold mixK
 rw [List.length_append, List.length_map, List.length_take, List.length_drop]
 omega
theorem mixK_at {f : Lk → Lk} {l : List Lk} {j : Nat} (hj : j < l.length) : at0 (mixK f l j) j = at0 l j := by
 unfold mixK at0
 rw [List.getD_eq_getElem?_getD, List.getD_eq_getElem?_getD, List.getElem?_append_right (by simp; omega)]
 simp only [List.length_map, List.length_take, List.getElem?_drop]
 rw [show j + (j - min j l.length) = j by omega]
theorem mixK_step {f : Lk → Lk} {l : List Lk} {j : Nat} (hj : j < l.length) : (mixK f l j).set j (f (at0 l j)) = mixK f l (j + 1) := by
 have h1 : l.drop j = at0 l j :: l.drop (j + 1) := by
  rw [List.drop_eq_getElem_cons hj]
  simp [at0, List.getD, hj]
 have h2 : ((l.take j).map f).length = j := by simp; omega
 unfold mixK
 rw [h1, lk_snoc hj, List.map_append, List.set_append_right _ _ (by omega), h2, Nat.sub_self, List.set_cons_zero, List.append_assoc]
 rfl
theorem mixK_skip {f : Lk → Lk} {l : List Lk} {j : Nat} (hj : j < l.length) (h : f (at0 l j) = at0 l j) : mixK f l (j + 1) = mixK f l j := by
 rw [← mixK_step hj, h, ← mixK_at (f := f) hj]
 unfold at0
 rw [List.getD_eq_getElem?_getD, List.getElem?_eq_getElem (by rw [mixK_len]; exact hj), Option.getD_some, List.set_getElem_self]
theorem numF_range (rs : List T3) : ∀ (k : Nat) (y : Int), -(k : Int) ≤ (numF rs k y).getD 0 ∧ (numF rs k y).getD 0 ≤ 0
 | 0, y => by simp [numF]
 | k + 1, y => by
  have ih := numF_range rs k y
  unfold numF
  split
  ·simp only [Option.getD_some]; omega
  omega
theorem min_i64 {x y : Int} (hx : I64 x) (hy : I64 y) : I64 (min x y) := by
 rcases Int.le_total x y with h | h
 ·rw [Int.min_eq_left h]; exact hx
 rw [Int.min_eq_right h]; exact hy
theorem max_i64 {x y : Int} (hx : I64 x) (hy : I64 y) : I64 (max x y) := by
 rcases Int.le_total x y with h | h
 ·rw [Int.max_eq_right h]; exact hy
 rw [Int.max_eq_left h]; exact hx
end Plain
theorem run_min2 {P : Program} (w : World) (ts : Array TypeId) (t : TypeId) (x y : Int) : (Builtin.min_ ts t #[.int .i64 x, .int .i64 y]).run P w = .ok (.int .i64 (min x y)) w := by
 have e : (if y < x then y else x) = min x y := by split <;> omega
 simp [Builtin.min_, Builtin.min2, e]
theorem run_max2 {P : Program} (w : World) (ts : Array TypeId) (t : TypeId) (x y : Int) : (Builtin.max_ ts t #[.int .i64 x, .int .i64 y]).run P w = .ok (.int .i64 (max x y)) w := by
 have e : (if y > x then y else x) = max x y := by split <;> omega
 simp [Builtin.max_, Builtin.max2, e]
theorem lkCells_set : ∀ {l : List Plain.Lk} {i : Nat} (x : Plain.Lk), i < l.length → (((lkCells l).set (i * 3) (.int .i64 x.a)).set (i * 3 + 1) (.int .i64 x.b)).set (i * 3 + 2) (.int .i64 x.id) = lkCells (l.set i x)
 | y :: l, 0, x, _ => rfl
 | y :: l, i + 1, x, h => by
  have ih := lkCells_set (l := l) (i := i) x (by simpa using h)
  have e : lkCells (y :: l) = .int .i64 y.a :: .int .i64 y.b :: .int .i64 y.id :: lkCells l := rfl
  rw [e, show (i + 1) * 3 = i * 3 + 1 + 1 + 1 by omega]
  simp only [List.set_cons_succ]
  rw [ih]
  rfl
theorem lkSet {w : World} {B g n c i : Nat} {l : List Plain.Lk} (x : Plain.Lk) (h : LkRow w B (.slice (some ⟨g, 0, none⟩) n c) l) (hi : i < l.length) (hx : I64 x.a ∧ I64 x.b ∧ I64 x.id) :
  LkRow (((w.setCell ⟨g, i * 3, none⟩ (.int .i64 x.a)).setCell ⟨g, i * 3 + 1, none⟩ (.int .i64 x.b)).setCell ⟨g, i * 3 + 2, none⟩ (.int .i64 x.id)) B (.slice (some ⟨g, 0, none⟩) n c) (l.set i x) ∧ Chg [g] w (((w.setCell ⟨g, i * 3, none⟩ (.int .i64 x.a)).setCell ⟨g, i * 3 + 1, none⟩ (.int .i64 x.b)).setCell ⟨g, i * 3 + 2, none⟩ (.int .i64 x.id)) := by
 have hn : n = l.length := by
  obtain ⟨a, b, e⟩ := h.shape
  simp only [Value.slice.injEq] at e
  exact e.2.1
 subst hn
 refine ⟨⟨?_, fun y hy => ?_, by rw [List.length_set]; exact h.2.2⟩, (((Chg.refl _ _).setCell (Or.inl (by simp)) _).setCell (Or.inl (by simp)) _).setCell (Or.inl (by simp)) _⟩
 ·have h1 := (((h.1.stored (i * 3) (.int .i64 x.a)).1.stored (i * 3 + 1) (.int .i64 x.b)).1.stored (i * 3 + 2) (.int .i64 x.id)).1
  rw [lkCells_set x hi] at h1
  rw [List.length_set]
  exact h1
 rcases List.mem_or_eq_of_mem_set hy with q | q
 ·exact h.2.1 y q
 rw [q]; exact hx
theorem ndFar {w w' : World} {B : Nat} {v : Value} {vs : List Value} {ns : List Plain.Nd} {own : List Nat} (h : NdRow w B v vs ns) (hc : Chg own w w') (hv : ∀ b, v.ownBlock = some b → b ∉ own) (hr : ∀ i, i < ns.length → ∀ b ∈ foot (vs.getD i undef), b ∉ own) : NdRow w' B v vs ns :=
 ⟨owns_chg h.out hc hv, h.len, fun i hi => ⟨(h.row i hi).1, (h.row i hi).2.chg hc (hr i hi)⟩⟩
theorem ndSame {W W' : World} {B B' : Nat} {v : Value} {vs vs' : List Value} {ms : List Plain.Nd} (h : NdRow W B v vs ms) (h' : NdRow W' B' v vs' ms) (hb : ∀ b, v.ownBlock = some b → W'.heap[b]? = W.heap[b]?) : vs = vs' := by
 have hc : ndCells ms vs = ndCells ms vs' := by
  rcases h.out.2 with ⟨q, h0⟩ | ⟨g, cap, cur, q, -, hh, hnc, hcm, hcs, hys⟩
  ·have e := h.len; have e' := h'.len
   have : ms = [] := List.length_eq_zero_iff.1 h0
   subst this
   simp only [List.length_nil, List.length_eq_zero_iff] at e e'
   rw [e, e']
  rcases h'.out.2 with ⟨q', h0⟩ | ⟨g', cap', cur', q', -, hh', -, -, -, hys'⟩
  ·rw [q] at q'; cases q'
  rw [q] at q'
  cases q'
  subst q
  rw [hb g rfl, hh] at hh'
  simp at hh'
  subst hh'
  rw [← hys, ← hys']
 refine List.ext_getElem (by rw [h.len, h'.len]) fun i h1 h2 => ?_
 have hi : i < ms.length := by rw [← h.len]; exact h1
 have e1 := (ndCells_get h.len hi).2
 have e2 := (ndCells_get h'.len hi).2
 rw [hc, e2] at e1
 simpa [List.getD, h1, h2, eq_comm] using e1
theorem ndSet1 {w : World} {B g n c i : Nat} {vs : List Value} {ns : List Plain.Nd} {v : Value} {l : List Plain.Lk} (h : NdRow w B (.slice (some ⟨g, 0, none⟩) n c) vs ns) (hi : i < ns.length) (hl : LkRow w 0 v l) :
  NdRow (w.setCell ⟨g, i * 2 + 1, none⟩ v) B (.slice (some ⟨g, 0, none⟩) n c) (vs.set i v) (ns.set i ⟨(Plain.nd0 ns i).kind, l⟩) ∧ Chg [g] w (w.setCell ⟨g, i * 2 + 1, none⟩ v) := by
 have hn : n = ns.length := by
  obtain ⟨a, b, e⟩ := h.shape
  simp only [Value.slice.injEq] at e
  exact e.2.1
 subst hn
 have hch : Chg [g] w (w.setCell ⟨g, i * 2 + 1, none⟩ v) := (Chg.refl _ _).setCell (Or.inl (by simp)) _
 have hoff : ∀ b ∈ [g], ∀ cs t r, w.heap[b]? = some (.cells cs t r) → t ≠ 50 := fun b hb cs t r hh => by
  rw [List.mem_singleton.1 hb] at hh
  obtain ⟨cs2, h2⟩ := owns_kind h.out (show (Value.slice (some ⟨g, 0, none⟩) ns.length c).ownBlock = some g from rfl)
  rw [h2] at hh
  simp at hh
  rw [← hh.2.1]; decide
 have hself : (ndCells ns vs).set (i * 2) (.int .i64 (Plain.nd0 ns i).kind) = ndCells ns vs := by
  have h1 := (ndCells_get h.len hi).1
  refine List.ext_getElem? fun j => ?_
  rw [List.getElem?_set]
  split
  ·rename_i e
   subst e
   obtain ⟨hlt, -⟩ := List.getElem?_eq_some_iff.1 h1
   rw [if_pos hlt, h1]
  rfl
 refine ⟨⟨?_, by simp [h.len], fun j hj => ?_⟩, hch⟩
 ·have h1 := (h.out.stored (i * 2 + 1) v).1
  have h2 := ndCells_set (⟨(Plain.nd0 ns i).kind, l⟩ : Plain.Nd) v h.len hi
  dsimp only at h2
  rw [hself] at h2
  rw [h2] at h1
  rw [List.length_set]
  exact h1
 rw [List.length_set] at hj
 have hl2 := h.len
 by_cases e : i = j
 ·subst e
  have e1 : Plain.nd0 (ns.set i ⟨(Plain.nd0 ns i).kind, l⟩) i = ⟨(Plain.nd0 ns i).kind, l⟩ := Plain.nd0_same _ hi
  have e2 : (vs.set i v).getD i undef = v := by simp [List.getD, show i < vs.length by omega]
  rw [e1, e2]
  exact ⟨(h.row i hi).1, hl.off hch hoff⟩
 rw [Plain.nd0_set _ e]
 have e2 : (vs.set i v).getD j undef = vs.getD j undef := by rw [List.getD_eq_getElem?_getD, List.getD_eq_getElem?_getD, List.getElem?_set_ne e]
 rw [e2]
 exact ⟨(h.row j hj).1, (h.row j hj).2.off hch hoff⟩
end Go.Proofs.YtpcgklagmcnhaaaGreat
