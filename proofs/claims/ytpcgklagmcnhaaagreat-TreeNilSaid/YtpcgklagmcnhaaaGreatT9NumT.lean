/- tree.number's rows of three numbers: appends, what a pass over its first map gathers. Conditions: what each law says. -/
import Derived.Test.YtpcgklagmcnhaaaGreatT9SortLk
namespace Go.Proofs.YtpcgklagmcnhaaaGreat
open Go.RowKit Go.Maps
namespace Plain
structure GotT (f : Int → List Int) (left : Int → Bool) (rows : List T3) : Prop where
 nodup : (rows.map T3.c).Nodup
 mem : ∀ t, t ∈ rows ↔ I64 t.c ∧ left t.c = false ∧ f t.c = [t.a, t.b]
theorem GotT.start {f : Int → List Int} {left : Int → Bool} (h : ∀ x, I64 x → left x = false → f x = []) : GotT f left [] :=
 ⟨List.nodup_nil, fun t => ⟨fun q => (by cases q), fun ⟨h1, h2, h3⟩ => by rw [h _ h1 h2] at h3; cases h3⟩⟩
theorem GotT.skip {f : Int → List Int} {left : Int → Bool} {rows : List T3} (h : GotT f left rows) {x : Int} (h1 : (f x).length ≠ 2) : GotT f (fun z => left z && !decide (z = x)) rows := by
 refine ⟨h.nodup, fun t => (h.mem t).trans ⟨fun ⟨q1, q2, q3⟩ => ⟨q1, by rw [q2]; rfl, q3⟩, fun ⟨q1, q2, q3⟩ => ⟨q1, ?_, q3⟩⟩⟩
 by_cases e : t.c = x
 ·rw [← e, q3] at h1
  exact absurd rfl h1
 simpa [e] using q2
theorem GotT.more {f : Int → List Int} {left : Int → Bool} {rows : List T3} (h : GotT f left rows) {x a b : Int} (ix : I64 x) (hl : left x = true) (h1 : f x = [a, b]) : GotT f (fun z => left z && !decide (z = x)) (rows ++ [⟨a, b, x⟩]) := by
 refine ⟨?_, fun t => ?_⟩
 ·rw [List.map_append]
  refine List.nodup_append.2 ⟨h.nodup, by simp, fun m hm l hl2 e => ?_⟩
  obtain ⟨t, ht, rfl⟩ := List.mem_map.1 hm
  have h3 := ((h.mem t).1 ht).2.1
  rw [e, List.mem_singleton.1 hl2] at h3
  have h4 : left x = false := h3
  rw [hl] at h4
  cases h4
 rw [List.mem_append, List.mem_singleton, h.mem t]
 constructor
 ·rintro (⟨q1, q2, q3⟩ | rfl)
  ·exact ⟨q1, by rw [q2]; rfl, q3⟩
  exact ⟨ix, by simp, h1⟩
 rintro ⟨q1, q2, q3⟩
 by_cases e : t.c = x
 ·refine Or.inr ?_
  obtain ⟨ta, tb, tc⟩ := t
  dsimp only at *
  subst e
  rw [h1] at q3
  simp at q3
  rw [q3.1, q3.2]
 exact Or.inl ⟨q1, by simpa [e] using q2, q3⟩
theorem atF_ne {ns : List Nd} {n : Nat} {id : Int} (h : atF ns n 0 id ≠ []) : id < 0 ∧ ∃ i, i < n ∧ ∃ x ∈ (nd0 ns i).l, x.id = id := by
 obtain ⟨y, hy⟩ := List.exists_mem_of_ne_nil _ h
 unfold atF at hy
 rw [List.take_zero] at hy
 simp only [occ, List.filter_nil, List.map_nil, List.append_nil] at hy
 obtain ⟨i, hi, hm⟩ := List.mem_flatMap.1 hy
 obtain ⟨x, hx, -⟩ := List.mem_map.1 hm
 obtain ⟨h1, h2⟩ := List.mem_filter.1 hx
 have h2 := of_decide_eq_true h2
 exact ⟨by rw [← h2.2]; exact h2.1, i, List.mem_range.1 hi, x, h1, h2.2⟩
theorem GotT.small {f : Int → List Int} {left : Int → Bool} {rows : List T3} (h : GotT f left rows) (hf : ∀ x, f x ≠ [] → -1000000 ≤ x ∧ x < 0) : rows.length ≤ 1000000 := by
 have h1 := len_le_of_sub (l := rows.map T3.c) (m := (List.range 1000000).map fun i : Nat => -1 - (i : Int)) h.nodup fun y hy => by
  obtain ⟨t, ht, rfl⟩ := List.mem_map.1 hy
  have h3 := ((h.mem t).1 ht).2.2
  have h4 := hf t.c (by rw [h3]; simp)
  exact List.mem_map.2 ⟨(-1 - t.c).toNat, List.mem_range.2 (by omega), by omega⟩
 simpa using h1
end Plain
theorem lit_same (x y : Int) : (Lit.int .i64 y).sameKey (.int .i64 x) = decide (y = x) := by
 simp [Lit.sameKey]
theorem elemT3 : Elem 122 123 (.agg #[.int .i64 0, .int .i64 0, .int .i64 0]) 3 24 := ⟨Tryz.underlying122, by kernel_rfl, rfl, by decide, by decide⟩
theorem T3Row.nil (w : World) (B : Nat) : T3Row w B (.slice none 0 0) [] := ⟨World.ownsRow_nil _ _ _ _, by simp⟩
theorem T3Row.chg {w w' : World} {B : Nat} {v : Value} {l : List Plain.T3} {own : List Nat} (h : T3Row w B v l) (hc : Chg own w w') (hn : ∀ b, v.ownBlock = some b → b ∉ own) : T3Row w' B v l := ⟨owns_chg h.1 hc hn, h.2⟩
theorem T3Row.shape {w : World} {B : Nat} {v : Value} {l : List Plain.T3} (h : T3Row w B v l) : ∃ ao c, v = .slice ao l.length c := owns_shape h.1
theorem op_catT {o : Oper} {a : Act} {K : Act → World → Prop} {Q : Exit → Act → World → Prop} {w w0 : World} (s x : Operand) (ho : o.op = .call { callee := .builtin .append, args := #[s, x], argTypes := #[122, 122] })
  {B : Nat} {v : Value} {l : List Plain.T3} (t : Plain.T3) (hs : a.eval s = v) (hx : a.eval x = .slice (some ⟨w0.heap.size, 0, none⟩) 1 1) (h : T3Row w0 B v l) (hi : I64 t.a ∧ I64 t.b ∧ I64 t.c) (hB : B ≤ w0.heap.size) (hn : l.length < 4294967290) (hw : w = w0.alloc (.cells #[.int .i64 t.a, .int .i64 t.b, .int .i64 t.c] 123))
  (hK : ∀ v' w', T3Row w' B v' (l ++ [t]) → Chg v.ownBlock.toList w0 w' → (∀ b ∈ v'.ownBlock.toList, b ∈ v.ownBlock.toList ∨ w0.heap.size ≤ b) → K (a.put o.dst v') w') : o.wp Tryz.prog a w K Q := by
 subst hw
 have hc := (Chg.refl [] w0).alloc (.cells #[.int .i64 t.a, .int .i64 t.b, .int .i64 t.c] 123)
 have h' := h.chg hc (by simp)
 refine wp_spread elemT3 s x ho hs hx h'.1 (B' := w0.heap.size) (World.ownsRow_lit w0 #[.int .i64 t.a, .int .i64 t.b, .int .i64 t.c] 1 (Nat.le_refl _) (by decide) rfl) (Nat.le_trans hB hc.size) (oneInts3' t.a t.b t.c) (by omega) fun v' w' r1 r2 r3 => ?_
 refine hK v' w' ⟨?_, fun y hy => (List.mem_append.1 hy).elim (h.2 y) fun q => by rw [List.mem_singleton.1 q]; exact hi⟩ ((hc.mono (by simp)).trans r2 fun j hj => Or.inl hj) (fun b hb => (r3 b hb).imp id fun q => Nat.le_trans hc.size q)
 rw [List.length_append]
 have e : t3Cells (l ++ [t]) = t3Cells l ++ [.int .i64 t.a, .int .i64 t.b, .int .i64 t.c] := by unfold t3Cells; rw [List.flatMap_append]; rfl
 rw [e]
 exact r1
namespace Plain
def t30 (rs : List T3) (j : Nat) : T3 := rs.getD j default
def numF (rs : List T3) : Nat → Int → Option Int
 | 0 => fun _ => none
 | j + 1 => fun y => if y = (t30 rs j).c then some (-1 - (j : Int)) else numF rs j y
theorem t3_snoc {rs : List T3} {j : Nat} (h : j < rs.length) : rs.take (j + 1) = rs.take j ++ [t30 rs j] := by
 rw [List.take_succ_eq_append_getElem h]
 simp [t30, List.getD, h]
end Plain
theorem elemT2 : Elem 71 75 (.agg #[.int .i64 0, .int .i64 0]) 2 16 := ⟨Tryz.underlying71, by kernel_rfl, rfl, by decide, by decide⟩
def t2Cells (l : List Plain.T3) : List Value := l.flatMap fun t => [.int .i64 t.a, .int .i64 t.b]
def T2Row (w : World) (B : Nat) (v : Value) (l : List Plain.T3) : Prop := w.ownsRow B 75 2 v l.length (t2Cells l)
theorem T2Row.nil (w : World) (B : Nat) : T2Row w B (.slice none 0 0) [] := World.ownsRow_nil _ _ _ _
theorem T2Row.shape {w : World} {B : Nat} {v : Value} {l : List Plain.T3} (h : T2Row w B v l) : ∃ ao c, v = .slice ao l.length c := owns_shape h
theorem oneInts2' (x y : Int) : ∀ u ∈ (#[Value.int .i64 x, .int .i64 y]).toList, u.oneCell' = true := by intro u hu; simp at hu; rcases hu with rfl | rfl <;> rfl
theorem op_cat2 {o : Oper} {a : Act} {K : Act → World → Prop} {Q : Exit → Act → World → Prop} {w w0 : World} (s x : Operand) (ho : o.op = .call { callee := .builtin .append, args := #[s, x], argTypes := #[71, 71] })
  {B : Nat} {v : Value} {l : List Plain.T3} (t : Plain.T3) (hs : a.eval s = v) (hx : a.eval x = .slice (some ⟨w0.heap.size, 0, none⟩) 1 1) (h : T2Row w0 B v l) (hB : B ≤ w0.heap.size) (hn : l.length < 4294967290) (hw : w = w0.alloc (.cells #[.int .i64 t.a, .int .i64 t.b] 75))
  (hK : ∀ v' w', T2Row w' B v' (l ++ [t]) → Chg v.ownBlock.toList w0 w' → (∀ b ∈ v'.ownBlock.toList, b ∈ v.ownBlock.toList ∨ w0.heap.size ≤ b) → K (a.put o.dst v') w') : o.wp Tryz.prog a w K Q := by
 subst hw
 have hc := (Chg.refl [] w0).alloc (.cells #[.int .i64 t.a, .int .i64 t.b] 75)
 have h' := owns_chg h hc (by simp)
 refine wp_spread elemT2 s x ho hs hx h' (B' := w0.heap.size) (World.ownsRow_lit w0 #[.int .i64 t.a, .int .i64 t.b] 1 (Nat.le_refl _) (by decide) rfl) (Nat.le_trans hB hc.size) (oneInts2' t.a t.b) (by omega) fun v' w' r1 r2 r3 => ?_
 refine hK v' w' ?_ ((hc.mono (by simp)).trans r2 fun j hj => Or.inl hj) (fun b hb => (r3 b hb).imp id fun q => Nat.le_trans hc.size q)
 unfold T2Row
 rw [List.length_append]
 have e : t2Cells (l ++ [t]) = t2Cells l ++ [.int .i64 t.a, .int .i64 t.b] := by unfold t2Cells; rw [List.flatMap_append]; rfl
 rw [e]
 exact r1
theorem T3Row.cell {w : World} {B n c j : Nat} {ao : Option Addr} {l : List Plain.T3} (h : T3Row w B (.slice ao n c) l) (hj : j < l.length) : ∃ g, ao = some ⟨g, 0, none⟩ ∧ w.cell? ⟨g, j * 3, none⟩ = some (.int .i64 (Plain.t30 l j).a) ∧ w.cell? ⟨g, j * 3 + 1, none⟩ = some (.int .i64 (Plain.t30 l j).b) ∧ w.cell? ⟨g, j * 3 + 2, none⟩ = some (.int .i64 (Plain.t30 l j).c) := by
 rcases h.1.2 with ⟨q, h0⟩ | ⟨g, cap, cur, q, hb, hh, hnc, hcm, hcs, hys⟩
 ·omega
 cases q
 have hat : ∀ i, i < 3 → (t3Cells l)[j * 3 + i]? = [Value.int .i64 (Plain.t30 l j).a, .int .i64 (Plain.t30 l j).b, .int .i64 (Plain.t30 l j).c][i]? := fun i hi => by
  have h1 := flatMap_at (enc := fun t : Plain.T3 => [Value.int .i64 t.a, .int .i64 t.b, .int .i64 t.c]) (k := 3) (fun _ => rfl) l (j * 3 + i) (by omega)
  rw [show (j * 3 + i) / 3 = j by omega, show (j * 3 + i) % 3 = i by omega] at h1
  rw [show t3Cells l = l.flatMap fun t : Plain.T3 => [Value.int .i64 t.a, .int .i64 t.b, .int .i64 t.c] from rfl, h1]
  simp [Plain.t30, List.getD, hj]
 have hc : ∀ i, i < 3 → w.cell? ⟨g, j * 3 + i, none⟩ = [Value.int .i64 (Plain.t30 l j).a, .int .i64 (Plain.t30 l j).b, .int .i64 (Plain.t30 l j).c][i]? := fun i hi => by
  rw [cell_of_row w _ (j * 3 + i) cur 123 (0, 0) hh, ← hat i hi, ← hys, List.getElem?_take, if_pos (by omega)]
  simp
 exact ⟨g, rfl, hc 0 (by decide), hc 1 (by decide), hc 2 (by decide)⟩
namespace Plain
def renK (f : Int → Option Int) (x : Lk) : Lk := if x.id < 0 then ⟨min x.a x.b, max x.a x.b, (f x.id).getD 0⟩ else x
structure NumDone (f : Int → Option Int) (ns : List Nd) (k : Nat) (ms : List Nd) : Prop where
 len : ms.length = ns.length
 done : ∀ i, i < k → (nd0 ms i).kind = (nd0 ns i).kind ∧ (nd0 ms i).l.Perm ((nd0 ns i).l.map (renK f)) ∧ (nd0 ms i).l.Pairwise fun x y => ¬ ordK y.id x.id < 0
 rest : ∀ i, k ≤ i → nd0 ms i = nd0 ns i
theorem NumDone.start (f : Int → Option Int) (ns : List Nd) : NumDone f ns 0 ns := ⟨rfl, fun i hi => by omega, fun _ _ => rfl⟩
theorem NumDone.lens {f : Int → Option Int} {ns ms : List Nd} {k : Nat} (h : NumDone f ns k ms) (i : Nat) : (nd0 ms i).l.length = (nd0 ns i).l.length := by
 by_cases hi : i < k
 ·rw [(h.done i hi).2.1.length_eq, List.length_map]
 rw [h.rest i (by omega)]
theorem NumDone.step {f : Int → Option Int} {ns ms : List Nd} {k : Nat} {l : List Lk} (h : NumDone f ns k ms) (hk : k < ns.length) (hp : l.Perm ((nd0 ns k).l.map (renK f))) (ho : l.Pairwise fun x y => ¬ ordK y.id x.id < 0) : NumDone f ns (k + 1) (ms.set k ⟨(nd0 ns k).kind, l⟩) := by
 refine ⟨by rw [List.length_set]; exact h.len, fun i hi => ?_, fun i hi => ?_⟩
 ·by_cases e : i = k
  ·subst e
   rw [nd0_same _ (by rw [h.len]; exact hk)]
   exact ⟨rfl, hp, ho⟩
  rw [nd0_set _ (by omega)]
  exact h.done i (by omega)
 rw [nd0_set _ (by omega)]
 exact h.rest i (by omega)
end Plain
structure NumJ2 (wb : World) (p cb t1 ib bi B m : Nat) (f : Int → Option Int) (v ev : Value) (ns : List Plain.Nd) (k : Nat) (ms : List Plain.Nd) (W : World) : Prop where
 done : Plain.NumDone f ns k ms
 row : ∃ vs, NdRow W B v vs ms
 tree : W.heap[p]? = some (.cells #[v, ev] 73 (0, 0))
 vars : TwoBox p cb t1 W
 ids : W.heap[bi]? = some (.cells #[.map (some ib)] 126 (0, 0))
 map : IMap W ib m f
 chg : Chg (p :: v.ownBlock.toList) wb W
theorem IMap.obj {w : World} {b n : Nat} {f : Int → Option Int} (h : IMap w b n f) : ∃ es c, w.heap[b]? = some (.map es c) := by
 obtain ⟨D, ⟨es, clock, hb, -⟩, -⟩ := h
 exact ⟨es, clock, hb⟩
theorem NumJ2.calm {wb : World} {p cb t1 ib bi B m N : Nat} {f : Int → Option Int} {v ev : Value} {ns : List Plain.Nd} (hN : wb.heap.size ≤ N) : Calmly N (NumJ2 wb p cb t1 ib bi B m f v ev ns) := by
 rintro k ms W W' own ⟨h1, ⟨vs, h2⟩, h3, h4, h5, h6, h7⟩ hc ho hh
 refine ⟨h1, ⟨vs, h2.hard hc hh⟩, heap_hard h3 hc hh, ⟨heap_hard h4.1 hc hh, heap_hard h4.2 hc hh⟩, heap_hard h5 hc hh, h6.chg hc fun q => ?_, h7.trans hc fun j hj => Or.inr (Nat.le_trans hN (ho j hj))⟩
 obtain ⟨es, c, e⟩ := h6.obj
 exact (hh _ q).2 _ _ e
theorem NumJ2.view {wb : World} {p cb t1 ib bi B m : Nat} {f : Int → Option Int} {v ev : Value} {ns : List Plain.Nd} (hL : Plain.sumK ns ≤ 400000) {k : Nat} {ms : List Plain.Nd} {W : World} (h : NumJ2 wb p cb t1 ib bi B m f v ev ns k ms W) : NdView p cb ns.length ms W := by
 obtain ⟨vs, hr⟩ := h.row
 exact ⟨(cell_of_row _ _ 0 _ _ _ h.vars.1).trans rfl, h.done.len, fun i hi => by rw [h.done.lens]; exact Nat.le_trans (Plain.sumK_one hi) hL, v, vs, B, (cell_of_row _ _ 0 _ _ _ h.tree).trans rfl, hr⟩
def NumEnd (w : World) (p B : Nat) (v : Value) (ns : List Plain.Nd) (w' : World) : Prop :=
 ∃ rs ms vs' ev, (∀ t, t ∈ rs ↔ I64 t.c ∧ Plain.atF ns ns.length 0 t.c = [t.a, t.b]) ∧ (rs.map Plain.T3.c).Nodup ∧ rs.Pairwise (fun x y => ¬ Plain.cmpL y.list x.list < 0) ∧ Plain.NumDone (Plain.numF rs rs.length) ns ns.length ms ∧ w'.heap[p]? = some (.cells #[v, ev] 73 (0, 0)) ∧ T2Row w' w.heap.size ev rs ∧ NdRow w' B v vs' ms ∧ Chg (p :: v.ownBlock.toList) w w'
namespace Plain
def mixK (f : Lk → Lk) (l : List Lk) (j : Nat) : List Lk := (l.take j).map f ++ l.drop j
theorem mixK_all (f : Lk → Lk) (l : List Lk) : mixK f l l.length = l.map f := by simp [mixK]
theorem mixK_len (f : Lk → Lk) (l : List Lk) (j : Nat) : (mixK f l j).length = l.length := by
 unfold mixK
 rw [List.length_append, List.length_map, List.length_take, List.length_drop]
 omega
theorem mixK_at {f : Lk → Lk} {l : List Lk} {j : Nat} (hj : j < l.length) : at0 (mixK f l j) j = at0 l j := by
 unfold mixK at0
 rw [List.getD_eq_getElem?_getD, List.getD_eq_getElem?_getD, List.getElem?_append_right (by simp; omega)]
 simp only [List.length_map, List.length_take, List.getElem?_drop]
 rw [show j + (j - min j l.length) = j by omega]
theorem mixK_step {f : Lk → Lk} {l : List Lk} {j : Nat} (hj : j < l.length) : (mixK f l j).set j (f (at0 l j)) = mixK f l (j + 1) := by
 have h1 : l.drop j = at0 l j :: l.drop (j + 1) := by
  rw [List.drop_eq_getElem_cons hj]
  simp [at0, List.getD, hj]
 have h2 : ((l.take j).map f).length = j := by simp; omega
 unfold mixK
 rw [h1, lk_snoc hj, List.map_append, List.set_append_right _ _ (by omega), h2, Nat.sub_self, List.set_cons_zero, List.append_assoc]
 rfl
theorem mixK_skip {f : Lk → Lk} {l : List Lk} {j : Nat} (hj : j < l.length) (h : f (at0 l j) = at0 l j) : mixK f l (j + 1) = mixK f l j := by
 rw [← mixK_step hj, h, ← mixK_at (f := f) hj]
 unfold at0
 rw [List.getD_eq_getElem?_getD, List.getElem?_eq_getElem (by rw [mixK_len]; exact hj), Option.getD_some, List.set_getElem_self]
theorem numF_range (rs : List T3) : ∀ (k : Nat) (y : Int), -(k : Int) ≤ (numF rs k y).getD 0 ∧ (numF rs k y).getD 0 ≤ 0
 | 0, y => by simp [numF]
 | k + 1, y => by
  have ih := numF_range rs k y
  unfold numF
  split
  ·simp only [Option.getD_some]; omega
  omega
theorem min_i64 {x y : Int} (hx : I64 x) (hy : I64 y) : I64 (min x y) := by
 rcases Int.le_total x y with h | h
 ·rw [Int.min_eq_left h]; exact hx
 rw [Int.min_eq_right h]; exact hy
theorem max_i64 {x y : Int} (hx : I64 x) (hy : I64 y) : I64 (max x y) := by
 rcases Int.le_total x y with h | h
 ·rw [Int.max_eq_right h]; exact hy
 rw [Int.max_eq_left h]; exact hx
end Plain
theorem run_min2 {P : Program} (w : World) (ts : Array TypeId) (t : TypeId) (x y : Int) : (Builtin.min_ ts t #[.int .i64 x, .int .i64 y]).run P w = .ok (.int .i64 (min x y)) w := by
 have e : (if y < x then y else x) = min x y := by split <;> omega
 simp [Builtin.min_, Builtin.min2, e]
theorem run_max2 {P : Program} (w : World) (ts : Array TypeId) (t : TypeId) (x y : Int) : (Builtin.max_ ts t #[.int .i64 x, .int .i64 y]).run P w = .ok (.int .i64 (max x y)) w := by
 have e : (if y > x then y else x) = max x y := by split <;> omega
 simp [Builtin.max_, Builtin.max2, e]
theorem lkCells_set : ∀ {l : List Plain.Lk} {i : Nat} (x : Plain.Lk), i < l.length → (((lkCells l).set (i * 3) (.int .i64 x.a)).set (i * 3 + 1) (.int .i64 x.b)).set (i * 3 + 2) (.int .i64 x.id) = lkCells (l.set i x)
 | y :: l, 0, x, _ => rfl
 | y :: l, i + 1, x, h => by
  have ih := lkCells_set (l := l) (i := i) x (by simpa using h)
  have e : lkCells (y :: l) = .int .i64 y.a :: .int .i64 y.b :: .int .i64 y.id :: lkCells l := rfl
  rw [e, show (i + 1) * 3 = i * 3 + 1 + 1 + 1 by omega]
  simp only [List.set_cons_succ]
  rw [ih]
  rfl
theorem lkSet {w : World} {B g n c i : Nat} {l : List Plain.Lk} (x : Plain.Lk) (h : LkRow w B (.slice (some ⟨g, 0, none⟩) n c) l) (hi : i < l.length) (hx : I64 x.a ∧ I64 x.b ∧ I64 x.id) :
  LkRow (((w.setCell ⟨g, i * 3, none⟩ (.int .i64 x.a)).setCell ⟨g, i * 3 + 1, none⟩ (.int .i64 x.b)).setCell ⟨g, i * 3 + 2, none⟩ (.int .i64 x.id)) B (.slice (some ⟨g, 0, none⟩) n c) (l.set i x) ∧ Chg [g] w (((w.setCell ⟨g, i * 3, none⟩ (.int .i64 x.a)).setCell ⟨g, i * 3 + 1, none⟩ (.int .i64 x.b)).setCell ⟨g, i * 3 + 2, none⟩ (.int .i64 x.id)) := by
 have hn : n = l.length := by
  obtain ⟨a, b, e⟩ := h.shape
  simp only [Value.slice.injEq] at e
  exact e.2.1
 subst hn
 refine ⟨⟨?_, fun y hy => ?_, by rw [List.length_set]; exact h.2.2⟩, (((Chg.refl _ _).setCell (Or.inl (by simp)) _).setCell (Or.inl (by simp)) _).setCell (Or.inl (by simp)) _⟩
 ·have h1 := (((h.1.stored (i * 3) (.int .i64 x.a)).1.stored (i * 3 + 1) (.int .i64 x.b)).1.stored (i * 3 + 2) (.int .i64 x.id)).1
  rw [lkCells_set x hi] at h1
  rw [List.length_set]
  exact h1
 rcases List.mem_or_eq_of_mem_set hy with q | q
 ·exact h.2.1 y q
 rw [q]; exact hx
theorem ndFar {w w' : World} {B : Nat} {v : Value} {vs : List Value} {ns : List Plain.Nd} {own : List Nat} (h : NdRow w B v vs ns) (hc : Chg own w w') (hv : ∀ b, v.ownBlock = some b → b ∉ own) (hr : ∀ i, i < ns.length → ∀ b ∈ foot (vs.getD i undef), b ∉ own) : NdRow w' B v vs ns :=
 ⟨owns_chg h.out hc hv, h.len, fun i hi => ⟨(h.row i hi).1, (h.row i hi).2.chg hc (hr i hi)⟩⟩
theorem ndSame {W W' : World} {B B' : Nat} {v : Value} {vs vs' : List Value} {ms : List Plain.Nd} (h : NdRow W B v vs ms) (h' : NdRow W' B' v vs' ms) (hb : ∀ b, v.ownBlock = some b → W'.heap[b]? = W.heap[b]?) : vs = vs' := by
 have hc : ndCells ms vs = ndCells ms vs' := by
  rcases h.out.2 with ⟨q, h0⟩ | ⟨g, cap, cur, q, -, hh, hnc, hcm, hcs, hys⟩
  ·have e := h.len; have e' := h'.len
   have : ms = [] := List.length_eq_zero_iff.1 h0
   subst this
   simp only [List.length_nil, List.length_eq_zero_iff] at e e'
   rw [e, e']
  rcases h'.out.2 with ⟨q', h0⟩ | ⟨g', cap', cur', q', -, hh', -, -, -, hys'⟩
  ·rw [q] at q'; cases q'
  rw [q] at q'
  cases q'
  subst q
  rw [hb g rfl, hh] at hh'
  simp at hh'
  subst hh'
  rw [← hys, ← hys']
 refine List.ext_getElem (by rw [h.len, h'.len]) fun i h1 h2 => ?_
 have hi : i < ms.length := by rw [← h.len]; exact h1
 have e1 := (ndCells_get h.len hi).2
 have e2 := (ndCells_get h'.len hi).2
 rw [hc, e2] at e1
 simpa [List.getD, h1, h2, eq_comm] using e1
theorem ndSet1 {w : World} {B g n c i : Nat} {vs : List Value} {ns : List Plain.Nd} {v : Value} {l : List Plain.Lk} (h : NdRow w B (.slice (some ⟨g, 0, none⟩) n c) vs ns) (hi : i < ns.length) (hl : LkRow w 0 v l) :
  NdRow (w.setCell ⟨g, i * 2 + 1, none⟩ v) B (.slice (some ⟨g, 0, none⟩) n c) (vs.set i v) (ns.set i ⟨(Plain.nd0 ns i).kind, l⟩) ∧ Chg [g] w (w.setCell ⟨g, i * 2 + 1, none⟩ v) := by
 have hn : n = ns.length := by
  obtain ⟨a, b, e⟩ := h.shape
  simp only [Value.slice.injEq] at e
  exact e.2.1
 subst hn
 have hch : Chg [g] w (w.setCell ⟨g, i * 2 + 1, none⟩ v) := (Chg.refl _ _).setCell (Or.inl (by simp)) _
 have hoff : ∀ b ∈ [g], ∀ cs t r, w.heap[b]? = some (.cells cs t r) → t ≠ 50 := fun b hb cs t r hh => by
  rw [List.mem_singleton.1 hb] at hh
  obtain ⟨cs2, h2⟩ := owns_kind h.out (show (Value.slice (some ⟨g, 0, none⟩) ns.length c).ownBlock = some g from rfl)
  rw [h2] at hh
  simp at hh
  rw [← hh.2.1]; decide
 have hself : (ndCells ns vs).set (i * 2) (.int .i64 (Plain.nd0 ns i).kind) = ndCells ns vs := by
  have h1 := (ndCells_get h.len hi).1
  refine List.ext_getElem? fun j => ?_
  rw [List.getElem?_set]
  split
  ·rename_i e
   subst e
   obtain ⟨hlt, -⟩ := List.getElem?_eq_some_iff.1 h1
   rw [if_pos hlt, h1]
  rfl
 refine ⟨⟨?_, by simp [h.len], fun j hj => ?_⟩, hch⟩
 ·have h1 := (h.out.stored (i * 2 + 1) v).1
  have h2 := ndCells_set (⟨(Plain.nd0 ns i).kind, l⟩ : Plain.Nd) v h.len hi
  dsimp only at h2
  rw [hself] at h2
  rw [h2] at h1
  rw [List.length_set]
  exact h1
 rw [List.length_set] at hj
 have hl2 := h.len
 by_cases e : i = j
 ·subst e
  have e1 : Plain.nd0 (ns.set i ⟨(Plain.nd0 ns i).kind, l⟩) i = ⟨(Plain.nd0 ns i).kind, l⟩ := Plain.nd0_same _ hi
  have e2 : (vs.set i v).getD i undef = v := by simp [List.getD, show i < vs.length by omega]
  rw [e1, e2]
  exact ⟨(h.row i hi).1, hl.off hch hoff⟩
 rw [Plain.nd0_set _ e]
 have e2 : (vs.set i v).getD j undef = vs.getD j undef := by rw [List.getD_eq_getElem?_getD, List.getD_eq_getElem?_getD, List.getElem?_set_ne e]
 rw [e2]
 exact ⟨(h.row j hj).1, (h.row j hj).2.off hch hoff⟩
end Go.Proofs.YtpcgklagmcnhaaaGreat
