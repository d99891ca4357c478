/- slices.SortFunc at links by number$2, at rows of three numbers by number$1: contracts. Conditions: rows of the call's own, numbers that aren't great. -/
import Derived.Test.YtpcgklagmcnhaaaGreatT9Lays
namespace Go.Proofs.YtpcgklagmcnhaaaGreat
open Go.RowKit Go.Maps Go.Sort
namespace Plain
theorem ordK_swo {α : Type} (f : α → Int) (hf : ∀ x, -1000000 ≤ f x ∧ f x ≤ 1000000) : Go.Sort.SWO (ltOf fun x y : α => ordK (f x) (f y)) where
 irrefl x := by
  have := hf x
  unfold ltOf ordK
  rw [decide_eq_false_iff_not]
  dsimp only
  split <;> omega
 trans x y z h1 h2 := by
  have := hf x; have := hf y; have := hf z
  unfold ltOf ordK at *
  rw [decide_eq_true_iff] at *
  dsimp only at *
  split at h1 <;> split at h2 <;> split <;> omega
 ntrans x y z h1 h2 := by
  have := hf x; have := hf y; have := hf z
  unfold ltOf ordK at *
  rw [decide_eq_false_iff_not] at *
  dsimp only at *
  split at h1 <;> split at h2 <;> split <;> omega
end Plain
theorem cmpLk_d (x y : Plain.Lk) (w : World) (ha : -1000000 ≤ x.id) (ha2 : x.id ≤ 1000000) (hb : -1000000 ≤ y.id) (hb2 : y.id ≤ 1000000) :
  Calls Tryz.prog 74 #[.agg #[.int .i64 x.a, .int .i64 x.b, .int .i64 x.id], .agg #[.int .i64 y.a, .int .i64 y.b, .int .i64 y.id]] w fun e w' => e = .returned (.int .i64 (Plain.ordK x.id y.id)) ∧ Chg [] w w' ∧ w.drawn ≤ w'.drawn := by
 obtain ⟨xa, xb, a⟩ := x
 obtain ⟨ya, yb, b⟩ := y
 have HC := Lib.hid (((Chg.refl [] w).alloc (.cells #[.int .i64 xa, .int .i64 xb, .int .i64 a] 50)).alloc (.cells #[.int .i64 ya, .int .i64 yb, .int .i64 b] 50))
 go_enter Tryz.func74, Tryz.ntmps74
 go_wp2_with fail
 refine (order_any a b _ ha ha2 hb hb2).mono ?_
 rintro e w2 ⟨rfl, rfl⟩
 go_wp2
 go_ret
 exact ⟨rfl, HC.out, Nat.le_refl _⟩
structure LkIn where
 lk : Plain.Lk
 ok : -1000000 ≤ lk.id ∧ lk.id ≤ 1000000
def LkIn.enc (z : LkIn) : List Value := [.int .i64 z.lk.a, .int .i64 z.lk.b, .int .i64 z.lk.id]
theorem LkIn.one (z : LkIn) : ∀ v ∈ z.enc, v.oneCell' = true := by
 intro v hv
 unfold LkIn.enc at hv
 simp at hv
 rcases hv with rfl | rfl | rfl <;> rfl
theorem lks_in : ∀ (l : List Plain.Lk), (∀ x ∈ l, -1000000 ≤ x.id ∧ x.id ≤ 1000000) → ∃ zs : List LkIn, zs.map LkIn.lk = l
 | [], _ => ⟨[], rfl⟩
 | x :: l, h => by
  obtain ⟨zs, q1⟩ := lks_in l fun y hy => h y (List.mem_cons_of_mem _ hy)
  exact ⟨⟨x, h x (by simp)⟩ :: zs, by rw [List.map_cons, q1]⟩
theorem lks_cells : ∀ (zs : List LkIn), zs.flatMap LkIn.enc = lkCells (zs.map LkIn.lk)
 | [] => rfl
 | z :: zs => by
  rw [List.flatMap_cons, lks_cells zs]
  rfl
set_option maxHeartbeats 1000000 in
theorem sortLk_any (v : Value) (l : List Plain.Lk) (B : Nat) (w : World) (h : LkRow w B v l) (hn : l.length ≤ 1000000) (hl : ∀ x ∈ l, -1000000 ≤ x.id ∧ x.id ≤ 1000000) :
  Calls Tryz.prog 73 #[v, .func (.func 74) #[] #[]] w fun e w' => e = .returned (.tuple #[]) ∧ ∃ l', LkRow w' B v l' ∧ l'.Perm l ∧ l'.Pairwise (fun x y => ¬ Plain.ordK y.id x.id < 0) ∧ Chg v.ownBlock.toList w w' := by
 obtain ⟨ao, cap, rfl⟩ := h.shape
 by_cases h0 : l.length = 0
 ·have hcon := AnyF.slices_SortFunc_none { Tryz.sortLinks with } ao cap (.func (.func 74) #[] #[]) w
  change Calls Tryz.prog 73 _ _ _ at hcon
  have hns : l = [] := List.length_eq_zero_iff.1 h0
  subst hns
  refine hcon.mono ?_
  rintro e w' ⟨rfl, rfl⟩
  exact ⟨rfl, [], h, List.Perm.refl _, List.Pairwise.nil, Chg.refl _ _⟩
 obtain ⟨zs, q1⟩ := lks_in l hl
 have hzl : zs.length = l.length := by rw [← q1]; simp
 obtain ⟨z0, hz0⟩ : ∃ z0 : LkIn, z0 ∈ zs := by
  cases zs with
  | nil => rw [← hzl] at h0; simp at h0
  | cons z zs => exact ⟨z, by simp⟩
 haveI : Inhabited LkIn := ⟨z0⟩
 obtain ⟨g, cap', eg0⟩ := owns_some h.1 (by omega)
 cases eg0
 have hout := h.1
 rw [← q1, ← lks_cells, q1, ← hzl] at hout
 have eg : ∀ args w, (callFunc 74 args).run Tryz.prog w = .ok (.enter 74 args) w := enters_of Tryz.func74 (by kernel_rfl) rfl
 have hcon := sortK_any Tryz.sortLinks 3 (fun w => by kernel_rfl) (fun w => by kernel_rfl) LkIn.enc (fun _ => rfl) LkIn.one (fun x y => Plain.ordK x.lk.id y.lk.id) (Plain.ordK_swo (fun x : LkIn => x.lk.id) fun x => x.ok) 74 eg g cap B 50 zs w hout (by omega) fun W hW x y =>
  cmpLk_d x.lk y.lk W x.ok.1 x.ok.2 y.ok.1 y.ok.2
 change Calls Tryz.prog 73 _ _ _ at hcon
 rw [hzl] at hcon
 refine hcon.mono ?_
 rintro e w' ⟨rfl, ys, hp, hs, how, hc⟩
 have hyl : ys.length = l.length := by rw [hp.length_eq, hzl]
 have hpl : (ys.map LkIn.lk).Perm l := by rw [← q1]; exact hp.map _
 refine ⟨rfl, ys.map LkIn.lk, ?_, hpl, ?_, hc⟩
 ·rw [lks_cells] at how
  refine ⟨?_, fun x hx => h.2.1 x (hpl.mem_iff.1 hx), by rw [hpl.length_eq]; exact h.2.2⟩
  rw [hpl.length_eq]
  exact how
 rw [List.pairwise_map]
 refine hs.imp fun {x y} hxy => ?_
 unfold ltOf at hxy
 rw [decide_eq_false_iff_not] at hxy
 exact hxy
structure Plain.T3 where
 a : Int
 b : Int
 c : Int
namespace Plain
def T3.list (t : T3) : List Int := [t.a, t.b, t.c]
instance : Inhabited T3 := ⟨⟨0, 0, 0⟩⟩
end Plain
def t3Cells (l : List Plain.T3) : List Value := l.flatMap fun t => [.int .i64 t.a, .int .i64 t.b, .int .i64 t.c]
def T3Row (w : World) (B : Nat) (v : Value) (l : List Plain.T3) : Prop := w.ownsRow B 123 3 v l.length (t3Cells l) ∧ ∀ t ∈ l, I64 t.a ∧ I64 t.b ∧ I64 t.c
theorem ints_box {w : World} {b : Nat} {t : TypeId} {x y z : Int} (h : w.heap[b]? = some (.cells #[.int .i64 x, .int .i64 y, .int .i64 z] t (0, 0))) (hx : I64 x ∧ I64 y ∧ I64 z) : IntsAt w (.slice (some ⟨b, 0, none⟩) 3 3) [x, y, z] := by
 have hc := fun i => cell_of_row w b i _ _ _ h
 refine ⟨_, 3, rfl, ?_, by simp, fun _ => ⟨b, 0, rfl, fun i hi => ?_⟩⟩
 ·simpa using hx
 have hi : i < 3 := hi
 rcases (show i = 0 ∨ i = 1 ∨ i = 2 by omega) with rfl | rfl | rfl
 ·exact (hc 0).trans rfl
 ·exact (hc 1).trans rfl
 exact (hc 2).trans rfl
theorem cmpT3_d (x y : Plain.T3) (w : World) (hx : I64 x.a ∧ I64 x.b ∧ I64 x.c) (hy : I64 y.a ∧ I64 y.b ∧ I64 y.c) :
  Calls Tryz.prog 72 #[.agg #[.int .i64 x.a, .int .i64 x.b, .int .i64 x.c], .agg #[.int .i64 y.a, .int .i64 y.b, .int .i64 y.c]] w fun e w' => e = .returned (.int .i64 (Plain.cmpL x.list y.list)) ∧ Chg [] w w' ∧ w.drawn ≤ w'.drawn := by
 obtain ⟨wb, hwb⟩ : ∃ wb, (w.alloc (.cells #[.int .i64 x.a, .int .i64 x.b, .int .i64 x.c] 123)).alloc (.cells #[.int .i64 y.a, .int .i64 y.b, .int .i64 y.c] 123) = wb := ⟨_, rfl⟩
 obtain ⟨t1, t2, t3⟩ := box_two w #[.int .i64 x.a, .int .i64 x.b, .int .i64 x.c] #[.int .i64 y.a, .int .i64 y.b, .int .i64 y.c] 123 123
 have HDB := Lib.hid (show w.drawn ≤ ((w.alloc (.cells #[.int .i64 x.a, .int .i64 x.b, .int .i64 x.c] 123)).alloc (.cells #[.int .i64 y.a, .int .i64 y.b, .int .i64 y.c] 123)).drawn from Nat.le_refl _)
 rw [hwb] at t1 t2 t3 HDB
 have HC := Lib.hid t3
 have T1 := Lib.hid t1
 have T2 := Lib.hid t2
 have q0 := lt_of_block t1
 have q1 := lt_of_block t2
 clear t1 t2 t3
 go_enter Tryz.func72, Tryz.ntmps72
 go_wp2_with fail
 clear hwb
 have hS0 : Chg [] wb wb.drew := (Chg.refl [] wb).drew
 refine wp_region_way (Chg [] wb) [0, 1] (Way.line [0, 1, 2, 3] .done) (by kernel_rfl) (by kernel_rfl) ?_
 simp only [Way.line]
 repeat
  first
   | (refine along_off rfl (by rfl) (by rfl) (fun _ _ _ h => h) hS0 ?_; simp only [Act.put, Z1, Z2, Z3, Z4, Z5, Z6])
   | (refine along_read (v := ?_) rfl (by rfl) (by rfl) (fun _ _ _ h => h) hS0 (fun w' hS' => ?_) ?_; rotate_left; (focus (skip; clear hS'; go_simp; try with_reducible rfl)); simp only [Act.put, Z1, Z2, Z3, Z4, Z5, Z6])
   | (refine along_skip rfl (by rfl) (by rfl) hS0 ?_; simp only [Act.put, Z1, Z2, Z3, Z4, Z5, Z6])
 refine along_op rfl (by rfl) (by rfl) (fun K hK => ?_)
 go_simp
 refine (compareL_any _ _ x.list y.list _ ((ints_box T1.out hx).chg hS0 (by simp)) ((ints_box T2.out hy).chg hS0 (by simp))).mono ?_
 rintro e w4 ⟨rfl, rfl⟩
 refine hK.out _ _ (fun _ => hS0) ?_
 clear hK K
 try simp only [Act.put, Z1, Z2, Z3, Z4, Z5, Z6]
 refine along_op rfl (by rfl) (by rfl) (fun K hK => ?_)
 go_simp
 refine hK.out _ _ (fun _ => hS0) ?_
 clear hK K
 try simp only [Act.put, Z1, Z2, Z3, Z4, Z5, Z6]
 refine along_done ?_
 go_wp2
 go_ret
 exact ⟨rfl, HC.out.tr hS0, Nat.le_trans HDB.out (Nat.le_succ _)⟩
structure T3In where
 t : Plain.T3
 ok : I64 t.a ∧ I64 t.b ∧ I64 t.c
def T3In.enc (z : T3In) : List Value := [.int .i64 z.t.a, .int .i64 z.t.b, .int .i64 z.t.c]
theorem T3In.one (z : T3In) : ∀ v ∈ z.enc, v.oneCell' = true := by
 intro v hv
 unfold T3In.enc at hv
 simp at hv
 rcases hv with rfl | rfl | rfl <;> rfl
theorem t3s_in : ∀ (l : List Plain.T3), (∀ t ∈ l, I64 t.a ∧ I64 t.b ∧ I64 t.c) → ∃ zs : List T3In, zs.map T3In.t = l
 | [], _ => ⟨[], rfl⟩
 | x :: l, h => by
  obtain ⟨zs, q1⟩ := t3s_in l fun y hy => h y (List.mem_cons_of_mem _ hy)
  exact ⟨⟨x, h x (by simp)⟩ :: zs, by rw [List.map_cons, q1]⟩
theorem t3s_cells : ∀ (zs : List T3In), zs.flatMap T3In.enc = t3Cells (zs.map T3In.t)
 | [] => rfl
 | z :: zs => by
  rw [List.flatMap_cons, t3s_cells zs]
  rfl
set_option maxHeartbeats 1000000 in
theorem sortT3_any (v : Value) (l : List Plain.T3) (B : Nat) (w : World) (h : T3Row w B v l) (hn : l.length ≤ 1000000) :
  Calls Tryz.prog 71 #[v, .func (.func 72) #[] #[]] w fun e w' => e = .returned (.tuple #[]) ∧ ∃ l', T3Row w' B v l' ∧ l'.Perm l ∧ l'.Pairwise (fun x y => ¬ Plain.cmpL y.list x.list < 0) ∧ Chg v.ownBlock.toList w w' := by
 obtain ⟨ao, cap, rfl⟩ := owns_shape h.1
 by_cases h0 : l.length = 0
 ·have hcon := AnyF.slices_SortFunc_none { Tryz.sortTrips with } ao cap (.func (.func 72) #[] #[]) w
  change Calls Tryz.prog 71 _ _ _ at hcon
  have hns : l = [] := List.length_eq_zero_iff.1 h0
  subst hns
  refine hcon.mono ?_
  rintro e w' ⟨rfl, rfl⟩
  exact ⟨rfl, [], h, List.Perm.refl _, List.Pairwise.nil, Chg.refl _ _⟩
 obtain ⟨zs, q1⟩ := t3s_in l h.2
 have hzl : zs.length = l.length := by rw [← q1]; simp
 obtain ⟨z0, hz0⟩ : ∃ z0 : T3In, z0 ∈ zs := by
  cases zs with
  | nil => rw [← hzl] at h0; simp at h0
  | cons z zs => exact ⟨z, by simp⟩
 haveI : Inhabited T3In := ⟨z0⟩
 obtain ⟨g, cap', eg0⟩ := owns_some h.1 (by omega)
 cases eg0
 have hout := h.1
 rw [← q1, ← t3s_cells, q1, ← hzl] at hout
 have eg : ∀ args w, (callFunc 72 args).run Tryz.prog w = .ok (.enter 72 args) w := enters_of Tryz.func72 (by kernel_rfl) rfl
 have hcon := sortK_any Tryz.sortTrips 3 (fun w => by kernel_rfl) (fun w => by kernel_rfl) T3In.enc (fun _ => rfl) T3In.one (fun x y => Plain.cmpL x.t.list y.t.list) (Plain.cmpL_swo (fun x : T3In => x.t.list)) 72 eg g cap B 123 zs w hout (by omega) fun W hW x y =>
  cmpT3_d x.t y.t W x.ok y.ok
 change Calls Tryz.prog 71 _ _ _ at hcon
 rw [hzl] at hcon
 refine hcon.mono ?_
 rintro e w' ⟨rfl, ys, hp, hs, how, hc⟩
 have hpl : (ys.map T3In.t).Perm l := by rw [← q1]; exact hp.map _
 refine ⟨rfl, ys.map T3In.t, ?_, hpl, ?_, hc⟩
 ·rw [t3s_cells] at how
  refine ⟨?_, fun x hx => h.2 x (hpl.mem_iff.1 hx)⟩
  rw [hpl.length_eq]
  exact how
 rw [List.pairwise_map]
 refine hs.imp fun {x y} hxy => ?_
 unfold ltOf at hxy
 rw [decide_eq_false_iff_not] at hxy
 exact hxy
end Go.Proofs.YtpcgklagmcnhaaaGreat
namespace Go.Proofs.YtpcgklagmcnhaaaGreat
open Go.RowKit Go.Maps Go.ChangeShapes
namespace Plain
def occ (l : List Lk) (i : Nat) (id : Int) : List Int := (l.filter fun x => decide (x.id < 0 ∧ x.id = id)).map fun _ => (i : Int)
def atF (ns : List Nd) (k j : Nat) (id : Int) : List Int := ((List.range k).flatMap fun i => occ (nd0 ns i).l i id) ++ occ ((nd0 ns k).l.take j) k id
def pre (ns : List Nd) (k : Nat) : Nat := sumK (ns.take k)
theorem occ_snoc (l : List Lk) (x : Lk) (i : Nat) (id : Int) : occ (l ++ [x]) i id = occ l i id ++ if x.id < 0 ∧ id = x.id then [(i : Int)] else [] := by
 unfold occ
 rw [List.filter_append, List.map_append]
 congr 1
 by_cases h : x.id < 0 ∧ x.id = id
 ·rw [if_pos ⟨h.1, h.2.symm⟩]
  rw [List.filter_cons, if_pos (decide_eq_true h)]
  rfl
 rw [if_neg (fun q => h ⟨q.1, q.2.symm⟩), List.filter_cons, if_neg (by rw [decide_eq_true_iff]; exact h)]
 rfl
theorem atF_zero (ns : List Nd) : atF ns 0 0 = fun _ => [] := by
 funext id
 simp [atF, occ]
theorem atF_next (ns : List Nd) (k : Nat) : atF ns k (nd0 ns k).l.length = atF ns (k + 1) 0 := by
 funext id
 unfold atF
 rw [List.range_succ, List.flatMap_append, List.take_length]
 simp [occ]
theorem atF_step {ns : List Nd} {k j : Nat} (hj : j < (nd0 ns k).l.length) (id : Int) : atF ns k (j + 1) id = atF ns k j id ++ if (at0 (nd0 ns k).l j).id < 0 ∧ id = (at0 (nd0 ns k).l j).id then [(k : Int)] else [] := by
 unfold atF
 rw [lk_snoc hj, occ_snoc, List.append_assoc]
theorem atF_skip {ns : List Nd} {k j : Nat} (hj : j < (nd0 ns k).l.length) (h : ¬ (at0 (nd0 ns k).l j).id < 0) : atF ns k (j + 1) = atF ns k j := by
 funext id
 rw [atF_step hj, if_neg (fun q => h q.1), List.append_nil]
theorem atF_put {ns : List Nd} {k j : Nat} (hj : j < (nd0 ns k).l.length) (h : (at0 (nd0 ns k).l j).id < 0) : atF ns k (j + 1) = fun y => if y = (at0 (nd0 ns k).l j).id then atF ns k j (at0 (nd0 ns k).l j).id ++ [(k : Int)] else atF ns k j y := by
 funext id
 rw [atF_step hj]
 by_cases e : id = (at0 (nd0 ns k).l j).id
 ·rw [if_pos ⟨h, e⟩, if_pos e, e]
 rw [if_neg (fun q => e q.2), if_neg e, List.append_nil]
theorem pre_succ {ns : List Nd} {k : Nat} (hk : k < ns.length) : pre ns (k + 1) = pre ns k + (nd0 ns k).l.length := by
 unfold pre sumK
 rw [List.take_succ_eq_append_getElem hk, List.map_append, List.sum_append]
 simp [nd0, List.getD, hk]
theorem pre_le : ∀ (ns : List Nd) (k : Nat), pre ns k ≤ sumK ns
 | [], k => by simp [pre, sumK]
 | n :: ns, 0 => by simp [pre, sumK]
 | n :: ns, k + 1 => by
  have ih := pre_le ns k
  unfold pre sumK at *
  simp only [List.take_succ_cons, List.map_cons, List.sum_cons]
  omega
end Plain
theorem SMap.keep {w w' : World} {b n : Nat} {f : Int → List Int} {own : List Nat} (h : SMap w b n f) (hc : Chg own w w') (hb0 : b ∉ own) (ho : ∀ j ∈ own, j ≤ b ∨ ∀ cs r, w.heap[j]? ≠ some (.cells cs 3 r)) : SMap w' b n f := by
 obtain ⟨D, ⟨es, clock, hb, F, hs, rfl, hbb, hlen, hap⟩, hD⟩ := h
 have hk : ∀ {v : Value} {zs : List Int}, w.ownsInts (b + 1) 3 .i64 v zs → w'.ownsInts (b + 1) 3 .i64 v zs := fun {v zs} hi => ⟨owns_chg hi.1 hc (fun c hcb hm => by
  rcases ho c hm with q | q
  ·have := (hi.1.lt c hcb).1; omega
  obtain ⟨cs, hh⟩ := owns_kind hi.1 hcb
  exact q _ _ hh), hi.2⟩
 have hst : ∀ x ∈ es.toList, ∀ z, rowElem (H := Unit) w (b + 1) 3 .i64 x.val = some z → rowElem w' (b + 1) 3 .i64 x.val = some z := fun x hx z hz => by
  obtain ⟨zs, hi, rfl⟩ := rowElem_inv hz
  exact rowElem_mk (hk hi)
 obtain ⟨F1, hmap, _⟩ := F.stay hst
 refine ⟨_, ⟨es, clock, hc.heap hb hb0, F1, hs, rfl, hbb, fun x hx zs hi => ?_, hap⟩, by rw [hmap]; exact hD⟩
 obtain ⟨y, hy⟩ := F.reads x hx
 obtain ⟨z, hz, _⟩ := Go.WideElems.rd_val hy
 obtain ⟨zs0, ho0, _⟩ := rowElem_inv hz
 rw [hi.unique (hk ho0)]
 exact hlen x hx zs0 ho0
theorem SMap.obj {w : World} {b n : Nat} {f : Int → List Int} (h : SMap w b n f) : ∃ es c, w.heap[b]? = some (.map es c) := by
 obtain ⟨D, ⟨es, clock, hb, -⟩, -⟩ := h
 exact ⟨es, clock, hb⟩
theorem SMap.hard {w w' : World} {b n : Nat} {f : Int → List Int} {own : List Nat} (h : SMap w b n f) (hc : Chg own w w') (hh : Hard w own) : SMap w' b n f := by
 obtain ⟨es, c, hb⟩ := h.obj
 exact h.keep hc (fun q => (hh b q).2 _ _ hb) fun j hj => Or.inr fun cs r => (hh j hj).1 cs _ r
theorem NdRow.hard {w w' : World} {B : Nat} {v : Value} {vs : List Value} {ns : List Plain.Nd} {own : List Nat} (h : NdRow w B v vs ns) (hc : Chg own w w') (hh : Hard w own) : NdRow w' B v vs ns := by
 refine ⟨owns_chg h.out hc fun b hb hm => ?_, h.len, fun i hi => ⟨(h.row i hi).1, (h.row i hi).2.chg hc fun b hb hm => ?_⟩⟩
 ·obtain ⟨cs, e⟩ := owns_kind h.out hb
  exact (hh b hm).1 _ _ _ e
 obtain ⟨cs, r, e⟩ := (h.row i hi).2.kind b hb
 exact (hh b hm).1 _ _ _ e
theorem cell_hard {w w' : World} {own : List Nat} {p : Addr} {v : Value} (h : w.cell? p = some v) (hc : Chg own w w') (hh : Hard w own) : w'.cell? p = some v :=
 hc.cell h fun q => by
  unfold World.cell? at h
  cases e : w.heap[p.block]? with
  | none => rw [e] at h; cases h
  | some o =>
   rw [e] at h
   cases o with
   | cells cs t r => exact (hh _ q).1 _ _ _ e
   | _ => cases h
theorem heap_hard {w w' : World} {own : List Nat} {b : Nat} {cs : Array Value} {t : TypeId} {r : Nat × Nat} (h : w.heap[b]? = some (.cells cs t r)) (hc : Chg own w w') (hh : Hard w own) : w'.heap[b]? = some (.cells cs t r) := hc.heap h fun q => (hh b q).1 _ _ _ h
end Go.Proofs.YtpcgklagmcnhaaaGreat
namespace Go.Proofs.YtpcgklagmcnhaaaGreat
open Go.RowKit Go.Maps
def TwoBox (p cb b : Nat) (W : World) : Prop := W.heap[cb]? = some (.cells #[.pointer (some ⟨p, 0, none⟩)] 23 (0, 0)) ∧ W.heap[b]? = some (.cells #[.pointer (some ⟨p, 0, none⟩)] 23 (0, 0))
theorem TwoBox.fresh {p cb b : Nat} {W W' : World} (h : TwoBox p cb b W) (hc : Chg [] W W') : TwoBox p cb b W' := ⟨hc.hp h.1, hc.hp h.2⟩
def NumJ (w : World) (p cb b2 mb : Nat) (ns0 : List Plain.Nd) (k : Nat) (ns : List Plain.Nd) (W : World) : Prop :=
 ns = ns0 ∧ Chg [] w W ∧ W.heap[b2]? = some (.cells #[.map (some mb)] 121 (0, 0)) ∧ TwoBox p cb w.heap.size W ∧ ∃ m, m ≤ Plain.pre ns k ∧ SMap W mb m (Plain.atF ns k 0)
theorem NumJ.calm {w : World} {p cb b2 mb B : Nat} {ns0 : List Plain.Nd} (hB : w.heap.size ≤ B) : Calmly B (NumJ w p cb b2 mb ns0) := by
 rintro k ns W W' own ⟨h1, h3, h4, h5, m, h6, h7⟩ hc ho hh
 exact ⟨h1, h3.trans hc (fun j hj => Or.inr (Nat.le_trans hB (ho j hj))), heap_hard h4 hc hh, ⟨heap_hard h5.1 hc hh, heap_hard h5.2 hc hh⟩, m, h6, h7.hard hc hh⟩
section
variable {o : Oper} {a : Act} {K : Act → World → Prop} {Q : Exit → Act → World → Prop} {w : World}
theorem op_slook (m x : Operand) (hop : o.op = Op.lookup 121 m x false) {b n : Nat} {f : Int → List Int} (h : SMap w b n f) (hn : n < 4294967296) (hm : a.eval m = .map (some b)) {k : Int} (hk : I64 k) (hx : a.eval x = .int .i64 k)
  (hK : ∀ v, RowAt w (b + 1) v (f k) → (f k).length ≤ n → SBack w b n f k v → K (a.put o.dst v) w) : o.wp Tryz.prog a w K Q := by
 obtain ⟨v, hrun, r1, r2, r3⟩ := h.look hn hk
 unfold Oper.wp
 simp [execOp, hop, hm, hx, hrun, Result.andThen]
 exact hK v r1 r2 r3
theorem op_sback {w0 : World} (m x u : Operand) (hop : o.op = Op.mapUpdate 121 m x u) {b n : Nat} {f : Int → List Int} {k z : Int} {v v' : Value} (hb : SBack w0 b n f k v) (hm : a.eval m = .map (some b)) (hx : a.eval x = .int .i64 k) (hu : a.eval u = v')
  (hrow : RowAt w (b + 1) v' (f k ++ [z])) (hc : Chg (foot v) w0 w) (hf : ∀ j ∈ foot v', j ∈ foot v ∨ w0.heap.size ≤ j)
  (hK : ∀ w2, SMap w2 b (n + 1) (fun y => if y = k then f k ++ [z] else f y) → Chg [b] w w2 → K (a.put o.dst undef) w2) : o.wp Tryz.prog a w K Q := by
 obtain ⟨w2, hrun, r1, r2⟩ := hb w v' z hrow hc hf
 unfold Oper.wp
 simp [execOp, hop, hm, hx, hu, hrun, Result.andThen]
 exact hK w2 r1 r2
end
theorem ints_one {w : World} {b : Nat} {x : Int} {t : TypeId} (h : w.heap[b]? = some (.cells #[.int .i64 x] t (0, 0))) (hx : I64 x) : IntsAt w (.slice (some ⟨b, 0, none⟩) 1 1) [x] := by
 refine ⟨_, 1, rfl, by simpa using hx, by simp, fun _ => ⟨b, 0, rfl, fun i hi => ?_⟩⟩
 have hi : i < 1 := hi
 obtain rfl : i = 0 := by omega
 exact (cell_of_row w b 0 _ _ _ h).trans rfl
theorem moves_more {W wr w' : World} {own own2 : List Nat} (h1 : Chg own W wr) (h2 : Soft W own) (h3 : Chg own2 wr w') (h4 : Soft wr own2) : ∃ own3, Chg own3 W w' ∧ Soft W own3 := by
 refine ⟨(own ++ own2).filter (· < W.heap.size), ?_, ?_⟩
 ·have hc : Chg (own ++ own2) W w' := (h1.mono fun j hj => Or.inl (List.mem_append_left _ hj)).trans h3 fun j hj => Or.inl (List.mem_append_right _ hj)
  exact ⟨hc.os, hc.tape, hc.output, hc.size, fun k hk hn => hc.block k hk fun q => hn (List.mem_filter.2 ⟨q, decide_eq_true hk⟩)⟩
 intro j hj
 obtain ⟨hj1, hj2⟩ := List.mem_filter.1 hj
 have hjw : j < W.heap.size := of_decide_eq_true hj2
 by_cases ho : j ∈ own
 ·exact h2 j ho
 rcases List.mem_append.1 hj1 with q | q
 ·exact absurd q ho
 have h5 := h4 j q
 rw [h1.block j hjw ho] at h5
 exact h5
theorem row_soft {w : World} {B : Nat} {v : Value} {l : List Int} (h : RowAt w B v l) : Soft w (foot v) := fun j hj => by
 obtain ⟨cs, e⟩ := owns_kind h.1 (by rw [h.foot] at hj; simpa using hj)
 exact Or.inl ⟨_, _, _, e⟩
theorem row_not {w : World} {B : Nat} {v : Value} {l : List Int} {b : Nat} {cs : Array Value} {t : TypeId} {r : Nat × Nat} (h : RowAt w B v l) (hb : w.heap[b]? = some (.cells cs t r)) (ht : t ≠ 3) : b ∉ foot v := fun hj => by
 obtain ⟨cs', e⟩ := owns_kind h.1 (by rw [h.foot] at hj; simpa using hj)
 rw [hb] at e
 simp at e
 exact ht e.2.1
theorem normal_only {c : Code} {Q : Exit → Act → World → Prop} {a : Act} {w : World} (h : c.wp Tryz.prog (Exit.then (fun a w => Q .normal a w) fun _ _ _ => False) a w) : c.wp Tryz.prog Q a w :=
 wp_mono h fun e a w hh => by cases e <;> first | exact hh | exact hh.elim
theorem leaves_past {fn : Func} {tmps : Array Value} {R : Ending → World → Prop} : ∀ {ds : List Nat} {W : World}, ds.Nodup → (∀ D ∈ ds, W.heap[D]? = some (.deferred (some []))) → (∀ W', Chg ds W W' → LeavesIn Fence.wide 9 Tryz.prog fn tmps R [] .returning W') →
  LeavesInM Fence.wide 9 Tryz.prog fn tmps R (ds.map fun D => { target := .collected D, args := #[] }) .returning W
 | [], W, _, _, h => h W (Chg.refl _ _)
 | D :: ds, W, hn, hd, h => by
  obtain ⟨h1, h2⟩ := List.nodup_cons.1 hn
  refine ⟨by simp, .inl ⟨_, _, rfl, run_takeDeferred (hd D (by simp)), leaves_past h2 (fun D' q => (chg_put (W := W) (l := D) _).heap (hd D' (by simp [q])) (fun r => h1 (by rw [← List.mem_singleton.1 r]; exact q))) fun W' hc => h W' ?_⟩⟩
  exact ((chg_put (W := W) (l := D) (.deferred none)).mono (own' := D :: ds) (by simp)).trans hc fun j hj => Or.inl (by simp [hj])
def numAct (a : Act) (t1 t2 s1 s2 : Tmp) (W : World) (k : Nat) (kind : Int) (u : Value) : Act :=
 { tmps := (((a.tmps.setIfInBounds t1 (.int .i64 k)).setIfInBounds t2 (.agg #[.int .i64 kind, u])).setIfInBounds s1 (.int .i64 k)).setIfInBounds s2 (.pointer (some ⟨W.heap.size, 0, none⟩)), defers := [] }
theorem range_nodes {gop : Operand} {t1 t2 : Tmp} (s1 s2 : Tmp) {assign body : Code} {Q : Exit → Act → World → Prop} {a : Act} {w : World} {p cb n : Nat} (hn : n ≤ 100000)
  (hg : a.eval gop = .func (.func 32) #[] #[.pointer (some ⟨cb, 0, none⟩)])
  (I : Nat → List Plain.Nd → World → Prop) (s0 : List Plain.Nd) (hI : Calmly w.heap.size I) (h0 : I 0 s0 w) (hview : ∀ k s W, I k s W → NdView p cb n s W)
  (hassign : ∀ l (k : Nat) (kind : Int) (uo : Option Addr) (m uc : Nat) W K, K (numAct a t1 t2 s1 s2 W k kind (.slice uo m uc)) (W.alloc (.cells #[.int .i64 kind, .slice uo m uc] 26)) → assign.wpIn (Fence.wide.inRound l) 7 Tryz.prog (Exit.then K (fun _ _ _ => False)) { tmps := (a.tmps.setIfInBounds t1 (.int .i64 k)).setIfInBounds t2 (.agg #[.int .i64 kind, .slice uo m uc]), defers := [] } W)
  (hbody : ∀ l k s W0 W W2 (N : Plain.Nd) uo uc, Plain.nd0 s k = N → I k s W0 → Chg [] W0 W → w.heap.size ≤ W0.heap.size → (∃ r, W2.heap[l]? = some (.loop r)) → I k s W2 → k < n → I64 N.kind → Chg [l] W W2 → w.heap.size ≤ l → LkRow W2 W0.heap.size (.slice uo N.l.length uc) N.l → W2.heap[W.heap.size]? = some (.cells #[.int .i64 N.kind, .slice uo N.l.length uc] 26 (0, 0)) → body.wpIn (Fence.wide.inRound l) 7 Tryz.prog (fun e _ W' => e = .normal ∧ Moves I (k + 1) W2 W') (numAct a t1 t2 s1 s2 W k N.kind (.slice uo N.l.length uc)) W2)
  (hdone : ∀ D s W, w.heap.size ≤ D → I n s W → W.heap[D]? = some (.deferred (some [])) → Q .normal { a with defers := { target := .collected D, args := #[] } :: a.defers } W) :
  (Code.rangeFunc gop #[t1, t2] assign body).wpIn Fence.wide 9 Tryz.prog Q a w := by
 refine range_own3 hg (enters_of Tryz.func32 (by kernel_rfl) rfl) (nodes1_gives p cb n hn) NdRd.stays I s0 hI h0 hview
  (fun W _ v2 => W.alloc (.cells (match v2 with | .agg cs => cs | _ => #[]) 26))
  (fun W v1 v2 => { tmps := (((a.tmps.setIfInBounds t1 v1).setIfInBounds t2 v2).setIfInBounds s1 v1).setIfInBounds s2 (.pointer (some ⟨W.heap.size, 0, none⟩)), defers := [] }) (fun W _ _ => (Chg.refl [] W).alloc _) ?_ ?_ hdone
 ·rintro l k s W0 W v1 v2 K ⟨rfl, u, rfl, -, h4⟩ hK
  obtain ⟨uo, uc, rfl⟩ := h4.shape
  exact hassign l k _ uo _ uc W K hK
 rintro l k s W0 W W2 v1 v2 h1 h2 h3 h4 h5 h6 h7 h8 h9 ⟨rfl, u, rfl, i3, i4⟩
 obtain ⟨uo, uc, rfl⟩ := i4.shape
 have hb := h4.heap (heap_alloc_new W (.cells #[.int .i64 (Plain.nd0 s k).kind, .slice uo (Plain.nd0 s k).l.length uc] 26)) (by simp; omega)
 exact hbody l k s W0 W W2 _ uo uc rfl h1 h2 h3 h5 h8 h9 i3 (((Chg.refl [] W).alloc _ |>.mono (own' := [l]) (fun j hj => by cases hj)).trans h4 fun j hj => Or.inl hj) h7 i4 hb
end Go.Proofs.YtpcgklagmcnhaaaGreat
