/- Plain words on worlds, and laws at operations, used by all walks of this seat: what a call may change, maps from int to int as functions, slices of int that are read. -/
import Derived.Test.YtfgbkpbakignhaaRows
import Derived.WalkKit
import Derived.WalkLawsBesides
import Derived.WalkSpells
import Derived.Maps.OwnSet
import Derived.Maps.RangeWalk
import Derived.Maps.AppendAt
import Derived.Defers
import Derived.Recover
import Derived.Lib.Hide
import Derived.Test.YtfgbkpbakignhaaVPerm
import Derived.Test.YtfgbkpbakignhaaVRot
namespace Go.Proofs.Ytfgbkpbakignhaa
open Go.RowKit Go.Maps

/-- w' is w with new blocks, and with writes to the blocks of 'own' alone. -/
structure Chg (own : List Nat) (w w' : World) : Prop where
  os : w'.os = w.os
  tape : w'.tape = w.tape
  output : w'.output = w.output
  size : w.heap.size ≤ w'.heap.size
  block : ∀ k, k < w.heap.size → k ∉ own → w'.heap[k]? = w.heap[k]?

theorem Chg.refl (own : List Nat) (w : World) : Chg own w w := ⟨rfl, rfl, rfl, Nat.le_refl _, fun _ _ _ => rfl⟩

/-- One step behind another: what the second writes is 'own' or new since the beginning. -/
theorem Chg.trans {own own' : List Nat} {a b c : World} (h : Chg own a b) (k : Chg own' b c) (hs : ∀ j ∈ own', j ∈ own ∨ a.heap.size ≤ j) : Chg own a c :=
  ⟨k.os.trans h.os, k.tape.trans h.tape, k.output.trans h.output, Nat.le_trans h.size k.size, fun i hi hn =>
    (k.block i (Nat.lt_of_lt_of_le hi h.size) (fun e => by rcases hs i e with h1 | h1; exact hn h1; omega)).trans (h.block i hi hn)⟩

theorem Chg.mono {own own' : List Nat} {a b : World} (h : Chg own a b) (hs : ∀ j ∈ own, j ∈ own' ∨ a.heap.size ≤ j) : Chg own' a b :=
  ⟨h.os, h.tape, h.output, h.size, fun i hi hn => h.block i hi (fun e => by rcases hs i e with h1 | h1; exact hn h1; omega)⟩

theorem Chg.drew {own : List Nat} {a w : World} (h : Chg own a w) : Chg own a w.drew := ⟨h.os, h.tape, h.output, h.size, h.block⟩

theorem Chg.alloc {own : List Nat} {a w : World} (h : Chg own a w) (o : Obj) : Chg own a (w.alloc o) :=
  h.trans (own' := []) ⟨rfl, rfl, rfl, by simp, fun k hk _ => Below.heap_alloc _ _ _ hk⟩ (by simp)

theorem Chg.setCell {own : List Nat} {a w : World} (h : Chg own a w) {p : Addr} (hp : p.block ∈ own ∨ a.heap.size ≤ p.block) (u : Value) : Chg own a (w.setCell p u) :=
  h.trans (own' := [p.block]) ⟨rfl, rfl, rfl, by simp [World.setCell], fun k _ hn => Below.heap_setCell _ _ _ _ (by simpa using hn)⟩ (by simpa using hp)

theorem Chg.grown {own : List Nat} {a w w' : World} {row : Option Nat} (h : Chg own a w) (hg : w.grownBy w' row) (hr : ∀ k, row = some k → k ∈ own ∨ a.heap.size ≤ k) : Chg own a w' :=
  h.trans (own' := row.toList) ⟨hg.os, hg.tape, hg.output, hg.size, fun k hk hn => hg.block k hk (fun e => hn (by simp [← e]))⟩ (fun j hj => hr j (by simpa using hj))

theorem Chg.below {a w : World} (h : Chg [] a w) : Below a.heap.size a w := ⟨h.os, h.tape, h.output, h.size, fun k hk => h.block k hk (by simp)⟩

theorem Chg.grownBy {a w : World} {own : List Nat} (h : Chg own a w) {row : Option Nat} (hr : ∀ k ∈ own, some k = row) : a.grownBy w row :=
  ⟨h.os, h.tape, h.output, h.size, fun k hk hn => h.block k hk (fun e => hn (hr k e))⟩

theorem Chg.of_below {a w : World} {B : Nat} (h : Below B a w) (hB : a.heap.size ≤ B) : Chg [] a w := ⟨h.os, h.tape, h.output, h.size, fun k hk _ => h.block k (by omega)⟩

/-- A cell that was there and is none of 'own'. -/
theorem Chg.cell {own : List Nat} {a w : World} (h : Chg own a w) {p : Addr} {v : Value} (hc : a.cell? p = some v) (hn : p.block ∉ own) : w.cell? p = some v :=
  (World.cell?_of_block (w := a) (h.block p.block (World.block_lt_of_cell? a p hc) hn)).trans hc

theorem Chg.frozen {own : List Nat} {a w : World} (h : Chg own a w) {p : Addr} {v : Value} (hc : a.cell? p = some v) (hf : a.frozen? p = false) (hn : p.block ∉ own) : w.frozen? p = false :=
  (World.frozen?_of_block (w := a) (h.block p.block (World.block_lt_of_cell? a p hc) hn)).trans hf

/-- A cell that is there, behind a new block. -/
theorem cellNew {w : World} {p : Addr} {v : Value} (h : w.cell? p = some v) (o : Obj) : (w.alloc o).cell? p = some v := ((Chg.refl [] w).alloc o).cell h (by simp)

theorem oneInt (x : Int) : ∀ u ∈ (#[Value.int .i64 x]).toList, u.oneCell' = true := by intro u hu; simp at hu; subst hu; rfl
theorem oneSlice (a : Option Addr) (n c : Nat) : ∀ u ∈ (#[Value.slice a n c]).toList, u.oneCell' = true := by intro u hu; simp at hu; subst hu; rfl

theorem Chg.heap {own : List Nat} {a w : World} (h : Chg own a w) {k : Nat} {o : Obj} (hc : a.heap[k]? = some o) (hn : k ∉ own) : w.heap[k]? = some o :=
  (h.block k (lt_of_block hc) hn).trans hc

theorem heap_setCell_same {w : World} {b : Nat} {cs : Array Value} {t : TypeId} {r : Nat × Nat} (h : w.heap[b]? = some (.cells cs t r)) (i : Nat) (u : Value) : (w.setCell ⟨b, i, none⟩ u).heap[b]? = some (.cells (cs.setIfInBounds i u) t r) := by
  have hlt := lt_of_block h
  have h' : w.heap[b] = .cells cs t r := by simpa [Array.getElem?_eq_getElem hlt] using h
  show (w.heap.modify b _)[b]? = _
  rw [Array.getElem?_eq_getElem (by simpa using hlt), Array.getElem_modify_self, h']
  rfl

theorem ret_bool {a b : Bool} (h : a = b) : Ending.returned (.bool a) = .returned (.bool b) := by rw [h]
theorem ret_int {a b : Int} (h : a = b) : Ending.returned (.int .i64 a) = .returned (.int .i64 b) := by rw [h]

/-- A block of four cells. -/
theorem four {w : World} {b : Nat} {a0 a1 a2 a3 : Value} {t : TypeId} (h : w.heap[b]? = some (.cells #[a0, a1, a2, a3] t (0, 0))) :
    w.cell? ⟨b, 0, none⟩ = some a0 ∧ w.cell? ⟨b, 1, none⟩ = some a1 ∧ w.cell? ⟨b, 2, none⟩ = some a2 ∧ w.cell? ⟨b, 3, none⟩ = some a3 ∧ w.frozen? ⟨b, 1, none⟩ = false ∧ w.frozen? ⟨b, 2, none⟩ = false ∧ w.frozen? ⟨b, 3, none⟩ = false := by
  simp [World.cell?, World.frozen?, h]

/-! ### maps from int to int, as functions -/
theorem keyedInt : Keyed Try.prog 3 := int_keyed Try.underlying3
theorem zeroInt (w : World) : (zeroValue 3).run Try.prog w = .ok (.int .i64 0) w := by kernel_rfl

theorem infoInt : (Try.prog.info? 3).map (fun i => (i.zero, i.size, i.bytes)) = some (some (.int .i64 0), 1, 8) := by kernel_rfl

/-- An int of Go's. -/
def I64 (x : Int) : Prop := (Lit.int .i64 x).wf = true
theorem I64.mk {x : Int} (h1 : -9223372036854775808 ≤ x) (h2 : x ≤ 9223372036854775807) : I64 x := WalkArith.wf_i64 (by omega)

/-- Block b is a map of at most n entries; at x it holds f x. -/
def IMap (w : World) (b n : Nat) (f : Int → Option Int) : Prop :=
  ∃ D : DataW Unit, w.ownsMap Try.prog 3 (plainElem Try.prog 3) b n D ∧
    ∀ x, I64 x → Maps.has D (.int .i64 x) = (f x).isSome ∧ D.atKey (.int .i64 x) (.lit (.int .i64 0)) = .lit (.int .i64 ((f x).getD 0))

theorem IMap.made (w : World) : IMap (w.alloc (.map #[] 0)) w.heap.size 0 (fun _ => none) :=
  ⟨.map [], World.ownsMap_made _ _ _ _, fun _ _ => ⟨rfl, rfl⟩⟩

theorem IMap.lt {w : World} {b n : Nat} {f : Int → Option Int} (h : IMap w b n f) : b < w.heap.size := by obtain ⟨D, h, _⟩ := h; exact h.lt

theorem IMap.mono {w : World} {b n n' : Nat} {f : Int → Option Int} (h : IMap w b n f) (hn : n ≤ n') : IMap w b n' f := by obtain ⟨D, h, g⟩ := h; exact ⟨D, h.mono hn, g⟩

theorem IMap.chg {w w' : World} {own : List Nat} {b n : Nat} {f : Int → Option Int} (h : IMap w b n f) (hc : Chg own w w') (hb : b ∉ own) : IMap w' b n f := by
  obtain ⟨D, ⟨es, clock, he, r⟩, g⟩ := h
  exact ⟨D, ⟨es, clock, hc.heap he hb, r⟩, g⟩

theorem IMap.kept {w w' : World} {row : Option Nat} {b n : Nat} {f : Int → Option Int} (h : IMap w b n f) (hc : w.grownBy w' row) (hb : some b ≠ row) : IMap w' b n f := by
  obtain ⟨D, h, g⟩ := h
  exact ⟨D, h.kept hc hb, g⟩

theorem IMap.alloc {w : World} {b n : Nat} {f : Int → Option Int} (h : IMap w b n f) (o : Obj) : IMap (w.alloc o) b n f := h.kept (World.grownBy_alloc w o none) (by simp)

/-- A map's block is no block of cells. -/
theorem IMap.ne {w : World} {b n : Nat} {f : Int → Option Int} (h : IMap w b n f) {k : Nat} {cs : Array Value} {t : TypeId} {r : Nat × Nat} (hk : w.heap[k]? = some (.cells cs t r)) : k ≠ b := by
  obtain ⟨D, ⟨es, clock, he, _⟩, _⟩ := h
  intro e
  rw [e, he] at hk
  cases hk

theorem litNe {x y : Int} (h : x ≠ y) : (Lit.int .i64 x) ≠ .int .i64 y := fun e => h (by cases e; rfl)

section
variable (w : World) {ops : Array Oper} {rest : List Oper} {o : Oper} {a : Act} {Q : Exit → Act → World → Prop}

/-- 'v, ok := m[k]', the key there. -/
theorem wp_look_hit (hg : o.guard = none) (m x : Operand) (hop : o.op = Op.lookup 33 m x true) {b n : Nat} {f : Int → Option Int} (h : IMap w b n f) (hm : a.eval m = .map (some b))
    {k v : Int} (hk : I64 k) (hx : a.eval x = .int .i64 k) (hf : Hid (f k = some v)) (hK : wpList Try.prog ops Q rest (a.put o.dst (.tuple #[.int .i64 v, .bool true])) w) : wpList Try.prog ops Q (o :: rest) a w := by
  obtain ⟨D, hown, hv⟩ := h
  refine wpList_lookup_own_ok_int w hg m x _ hop _ _ .i64 keyedInt Try.underlying33 Try.underlying3 (zeroInt _) b n D hm hown _ _ hx (keyOf_int_mk Try.underlying3 hk) (fun c hat _ => ?_)
  obtain ⟨h1, h2⟩ := hv k hk
  rw [hf.out] at h1 h2
  rw [h2] at hat
  cases hat
  rw [h1]
  exact hK

/-- 'v, ok := m[k]', the key not there. -/
theorem wp_look_miss (hg : o.guard = none) (m x : Operand) (hop : o.op = Op.lookup 33 m x true) {b n : Nat} {f : Int → Option Int} (h : IMap w b n f) (hm : a.eval m = .map (some b))
    {k : Int} (hk : I64 k) (hx : a.eval x = .int .i64 k) (hf : Hid (f k = none)) (hK : wpList Try.prog ops Q rest (a.put o.dst (.tuple #[.int .i64 0, .bool false])) w) : wpList Try.prog ops Q (o :: rest) a w := by
  obtain ⟨D, hown, hv⟩ := h
  refine wpList_lookup_own_ok_int w hg m x _ hop _ _ .i64 keyedInt Try.underlying33 Try.underlying3 (zeroInt _) b n D hm hown _ _ hx (keyOf_int_mk Try.underlying3 hk) (fun c hat _ => ?_)
  obtain ⟨h1, h2⟩ := hv k hk
  rw [hf.out] at h1 h2
  rw [h2] at hat
  cases hat
  rw [h1]
  exact hK

/-- 'm[k]'. -/
theorem wp_look (hg : o.guard = none) (m x : Operand) (hop : o.op = Op.lookup 33 m x false) {b n : Nat} {f : Int → Option Int} (h : IMap w b n f) (hm : a.eval m = .map (some b))
    {k : Int} (hk : I64 k) (hx : a.eval x = .int .i64 k) {v : Int} (hf : Hid ((f k).getD 0 = v)) (hK : wpList Try.prog ops Q rest (a.put o.dst (.int .i64 v)) w) : wpList Try.prog ops Q (o :: rest) a w := by
  obtain ⟨D, hown, hv⟩ := h
  refine wpList_lookup_own_int w hg m x _ hop _ _ .i64 keyedInt Try.underlying33 Try.underlying3 (zeroInt _) b n D hm hown _ _ hx (keyOf_int_mk Try.underlying3 hk) (fun c hat _ => ?_)
  obtain ⟨h1, h2⟩ := hv k hk
  rw [h2, hf.out] at hat
  cases hat
  exact hK

/-- 'm[k] = v'. -/
theorem wp_store (hg : o.guard = none) (m x u : Operand) (hop : o.op = Op.mapUpdate 33 m x u) {b n : Nat} {f : Int → Option Int} (h : IMap w b n f) (hn : n < maxLen) (hm : a.eval m = .map (some b))
    {k v : Int} (hk : I64 k) (hv : I64 v) (hx : a.eval x = .int .i64 k) (hu : a.eval u = .int .i64 v)
    (hK : ∀ w', IMap w' b (n + 1) (fun y => if y = k then some v else f y) → w.grownBy w' (some b) → wpList Try.prog ops Q rest (a.put o.dst undef) w') : wpList Try.prog ops Q (o :: rest) a w := by
  obtain ⟨D, hown, hD⟩ := h
  refine wpList_mapUpdate_own w hg m x u _ hop _ _ keyedInt Try.underlying33 _ b n D hm hown hn _ _ _ hx hu (keyOf_int_mk Try.underlying3 hk) _ [] (plainElem_int Try.underlying3 hv) (fun w' h1 h2 => hK w' ⟨_, h1, fun y hy => ?_⟩ h2)
  by_cases e : y = k
  · subst e
    have hkl := keyedInt.key (keyOf_int_mk Try.underlying3 hk)
    rw [has_put_same hown.isMap hkl, atKey_put_same hown.isMap hkl]
    simp
  · rw [has_put_other (litNe e), atKey_put_other (litNe e)]
    simp only [if_neg e]
    exact hD y hy

/-- 'delete(m, k)'. -/
theorem wp_delete (hg : o.guard = none) (m x : Operand) (hop : o.op = Op.call { callee := Callee.builtin Builtin.delete, args := #[m, x], argTypes := #[33, 3] }) {b n : Nat} {f : Int → Option Int} (h : IMap w b n f) (hm : a.eval m = .map (some b))
    {k : Int} (hk : I64 k) (hx : a.eval x = .int .i64 k)
    (hK : ∀ w', IMap w' b n (fun y => if y = k then none else f y) → w.grownBy w' (some b) → wpList Try.prog ops Q rest (a.put o.dst (.tuple #[])) w') : wpList Try.prog ops Q (o :: rest) a w := by
  obtain ⟨D, hown, hD⟩ := h
  refine wpList_delete_own w hg m x _ _ hop _ keyedInt Try.underlying33 _ b n D hm hown _ _ hx (keyOf_int_mk Try.underlying3 hk) (fun w' h1 h2 => hK w' ⟨_, h1, fun y hy => ?_⟩ h2.grown)
  by_cases e : y = k
  · subst e
    rw [has_del_same, atKey_del_same]
    simp
  · rw [has_del_other (litNe e), atKey_del_other (litNe e)]
    simp only [if_neg e]
    exact hD y hy

end

/-! ### slices that are read -/
/-- v is a []int that reads as l. -/
def IntsAt (w : World) (v : Value) (l : List Int) : Prop :=
  ∃ ao cap, v = .slice ao l.length cap ∧ (∀ x ∈ l, I64 x) ∧ l.length ≤ 9223372036854775807 ∧ (l ≠ [] → ∃ b off, ao = some ⟨b, off, none⟩ ∧ ∀ i, i < l.length → w.cell? ⟨b, off + i, none⟩ = some (.int .i64 (l.getD i 0)))

theorem IntsAt.nil (w : World) : IntsAt w (.slice none 0 0) [] := ⟨none, 0, rfl, by simp, by simp, by simp⟩

theorem IntsAt.chg {w w' : World} {v : Value} {l : List Int} {own : List Nat} (h : IntsAt w v l) (hc : Chg own w w') (hn : ∀ b n c, v = .slice (some b) n c → b.block ∉ own) : IntsAt w' v l := by
  obtain ⟨ao, cap, rfl, h1, h2, h3⟩ := h
  refine ⟨ao, cap, rfl, h1, h2, fun hl => ?_⟩
  obtain ⟨b, off, rfl, h4⟩ := h3 hl
  exact ⟨b, off, rfl, fun i hi => hc.cell (h4 i hi) (show b ∉ own from hn ⟨b, off, none⟩ _ _ rfl)⟩

theorem IntsAt.fresh {w w' : World} {v : Value} {l : List Int} (h : IntsAt w v l) (hc : Chg [] w w') : IntsAt w' v l := h.chg hc (by simp)

/-! ### append -/
/-- A slice type t over elements e: their zero value, cells, bytes. -/
structure Elem (t e : TypeId) (z : Value) (size bytes : Nat) : Prop where
  ht : Try.prog.underlying t = some (.slice e)
  hi : (Try.prog.info? e).map (fun i => (i.zero, i.size, i.bytes)) = some (some z, size, bytes)
  hz : z.cells.size = size
  h0 : 0 < size
  hb : bytes ≤ 1024

theorem elemInt : Elem 25 3 (.int .i64 0) 1 8 := ⟨Try.underlying25, by kernel_rfl, rfl, by decide, by decide⟩
theorem elemRow : Elem 28 25 (.slice none 0 0) 1 24 := ⟨Try.underlying28, by kernel_rfl, rfl, by decide, by decide⟩

/-- What an append of one element leaves. -/
theorem run_app {t e : TypeId} {z : Value} {size bytes : Nat} (E : Elem t e z size bytes) {w0 w : World} {B : Nat} {v : Value} {n : Nat} {xs : List Value} (hown : w0.ownsRow B e size v n xs) (hB : B ≤ w0.heap.size) {cs : Array Value} (hcs : cs.size = size) (h1 : ∀ u ∈ cs.toList, u.oneCell' = true) (hn : n < 68719476736)
    (hw : w = w0.alloc (.cells cs e) ∨ w = (w0.alloc (.cells cs e)).drew) (ty : TypeId) :
    ∃ g cap w', (Builtin.append_ #[t, t] ty #[v, .slice (some ⟨w0.heap.size, 0, none⟩) 1 1]).run Try.prog w = .ok (.slice (some ⟨g, 0, none⟩) (n + 1) cap) w' ∧
      w'.ownsRow B e size (.slice (some ⟨g, 0, none⟩) (n + 1) cap) (n + 1) (xs ++ cs.toList) ∧ Chg v.ownBlock.toList w0 w' ∧ (v.ownBlock = some g ∨ w0.heap.size ≤ g) := by
  have hown' : w.ownsRow B e size v n xs := by rcases hw with rfl | rfl; exact hown.alloc _; exact hown.alloc _
  have hch : Chg [] w0 w := by rcases hw with rfl | rfl; exact (Chg.refl _ _).alloc _; exact ((Chg.refl _ _).alloc _).drew
  have hsz : w.heap.size = w0.heap.size + 1 := by rcases hw with rfl | rfl <;> simp [World.drew]
  have hnews : ∀ j u, cs.toList[j]? = some u → w.cell? ((⟨w0.heap.size, 0, none⟩ : Addr).add j) = some u := by
    intro j u hu
    have hadd : (⟨w0.heap.size, 0, none⟩ : Addr).add j = ⟨w0.heap.size, j, none⟩ := by unfold Addr.add; split <;> simp_all
    have hblk : w.heap[w0.heap.size]? = some (.cells cs e (0, 0)) := by rcases hw with rfl | rfl <;> exact heap_alloc_new _ _
    rw [hadd, cell_of_row w _ j cs e (0, 0) hblk]
    simpa using hu
  obtain ⟨i0, hi, hz0, hz1, hz2⟩ := info_parts E.hi
  have hb := E.hb
  obtain ⟨v', w', hr, h2, h3, h4, h5⟩ := run_append_own_at (P := Try.prog) w B t ty e i0 z size bytes E.ht hi hz0 hz1 hz2 E.hz E.h0 v n xs hown' ⟨w0.heap.size, 0, none⟩ 1 1 cs.toList (by simpa using hcs) hnews h1 (by unfold maxLen; omega) (Nat.le_trans (Nat.mul_le_mul_left _ hb) (by omega)) (by omega)
  obtain ⟨g, cap, rfl⟩ : ∃ g cap, v' = .slice (some ⟨g, 0, none⟩) (n + 1) cap := by
    rcases h2.2 with ⟨_, e⟩ | ⟨g, cap, _, rfl, _⟩
    · omega
    · exact ⟨_, _, rfl⟩
  refine ⟨g, cap, w', hr, h2, (hch.mono (by simp)).grown h3 (fun j hj => Or.inl (by rw [hj]; simp)), ?_⟩
  rcases h5 with h4 | h4
  · exact Or.inl h4.symm
  · simp only [Value.ownBlock, Option.some.injEq] at h4
    exact Or.inr (by omega)

section
variable {ops : Array Oper} {rest : List Oper} {o : Oper} {a : Act} {Q : Exit → Act → World → Prop}

/-- 's = append(s, x)', s nil or the call's own; x's cells lie in a block of their own, just laid. -/
theorem wp_app {t e : TypeId} {z : Value} {size bytes : Nat} (E : Elem t e z size bytes) {w0 : World} (hg : o.guard = none) (s x : Operand) (ho : o.op = .call { callee := .builtin .append, args := #[s, x], argTypes := #[t, t] })
    {B : Nat} {v : Value} {n m : Nat} {xs : List Value} {cs : Array Value} (hs : a.eval s = v) (hx : a.eval x = .slice (some ⟨m, 0, none⟩) 1 1) (hm : m = w0.heap.size) (hown : w0.ownsRow B e size v n xs) (hB : B ≤ w0.heap.size) (hcs : cs.size = size) (h1 : ∀ u ∈ cs.toList, u.oneCell' = true) (hn : n < 68719476736)
    (hK : ∀ g cap w', w'.ownsRow B e size (.slice (some ⟨g, 0, none⟩) (n + 1) cap) (n + 1) (xs ++ cs.toList) → Chg v.ownBlock.toList w0 w' → (v.ownBlock = some g ∨ w0.heap.size ≤ g) →
      wpList Try.prog ops Q rest (a.put o.dst (.slice (some ⟨g, 0, none⟩) (n + 1) cap)) w') : wpList Try.prog ops Q (o :: rest) a (w0.alloc (.cells cs e)) := by
  subst hm
  refine wpList_plain hg fun K hK' => ?_
  obtain ⟨g, cap, w', hr, r1, r2, r3⟩ := run_app E hown hB hcs h1 hn (Or.inl rfl) o.type
  unfold Oper.wp execOp
  simp only [ho, resolve, invoke, builtin, Sem.run_bind, Sem.run_pure, Result.andThen_ok, List.map_toArray, List.map_cons, List.map_nil, hs, hx, hr]
  exact hK' _ _ (hK g cap w' r1 r2 r3)

/-- The same, at a step of a region that draws its order. -/
theorem step_app {t e : TypeId} {z : Value} {size bytes : Nat} (E : Elem t e z size bytes) {w0 w : World} {K : Act → World → Prop} {F : Prop} (hg : o.guard = none) (s x : Operand) (ho : o.op = .call { callee := .builtin .append, args := #[s, x], argTypes := #[t, t] })
    {B : Nat} {v : Value} {n m : Nat} {xs : List Value} {cs : Array Value} (hs : a.eval s = v) (hx : a.eval x = .slice (some ⟨m, 0, none⟩) 1 1) (hm : m = w0.heap.size) (hown : w0.ownsRow B e size v n xs) (hB : B ≤ w0.heap.size) (hcs : cs.size = size) (h1 : ∀ u ∈ cs.toList, u.oneCell' = true) (hn : n < 68719476736)
    (hw : w = w0.alloc (.cells cs e) ∨ w = (w0.alloc (.cells cs e)).drew)
    (hK : ∀ g cap w', w'.ownsRow B e size (.slice (some ⟨g, 0, none⟩) (n + 1) cap) (n + 1) (xs ++ cs.toList) → Chg v.ownBlock.toList w0 w' → (v.ownBlock = some g ∨ w0.heap.size ≤ g) →
      K (a.put o.dst (.slice (some ⟨g, 0, none⟩) (n + 1) cap)) w') : if Region.wanted o (yielded ops a.tmps) = true then Oper.wp Try.prog o a w K Q else F := by
  subst hm
  have hw' : Region.wanted o (yielded ops a.tmps) = true := by simp [Region.wanted, hg]
  rw [if_pos hw']
  obtain ⟨g, cap, w', hr, r1, r2, r3⟩ := run_app E hown hB hcs h1 hn hw o.type
  unfold Oper.wp execOp
  simp only [ho, resolve, invoke, builtin, Sem.run_bind, Sem.run_pure, Result.andThen_ok, List.map_toArray, List.map_cons, List.map_nil, hs, hx, hr]
  exact hK g cap w' r1 r2 r3

/-- 's = append(s, x)' of ints. -/
theorem wp_app_int {w0 : World} (hg : o.guard = none) (s x : Operand) (ho : o.op = .call { callee := .builtin .append, args := #[s, x], argTypes := #[25, 25] })
    {v : Value} {n m : Nat} {xs : List Value} {k : Int} {B : Nat} (hs : a.eval s = v) (hx : a.eval x = .slice (some ⟨m, 0, none⟩) 1 1) (hm : m = w0.heap.size) (hown : w0.ownsRow B 3 1 v n xs) (hB : B ≤ w0.heap.size) (hn : n < 68719476736)
    (hK : ∀ g cap w', w'.ownsRow B 3 1 (.slice (some ⟨g, 0, none⟩) (n + 1) cap) (n + 1) (xs ++ [.int .i64 k]) → Chg v.ownBlock.toList w0 w' → (v.ownBlock = some g ∨ w0.heap.size ≤ g) →
      wpList Try.prog ops Q rest (a.put o.dst (.slice (some ⟨g, 0, none⟩) (n + 1) cap)) w') : wpList Try.prog ops Q (o :: rest) a (w0.alloc (.cells #[.int .i64 k] 3)) :=
  wp_app elemInt hg s x ho hs hx hm hown hB rfl (by intro u hu; simp at hu; subst hu; rfl) hn hK

/-- 'make([]T, n)'. -/
theorem wp_make {t e : TypeId} {z : Value} {size bytes : Nat} (E : Elem t e z size bytes) {w : World} (hg : o.guard = none) (l c : Operand) (hop : o.op = Op.makeSlice t l c) {B n : Nat} (hl : a.eval l = .int .i64 n) (hc : a.eval c = .int .i64 n) (hB : B ≤ w.heap.size) (hn : n < 68719476736)
    (hK : ∀ w', w'.ownsRow B e size (.slice (some ⟨w.heap.size, 0, none⟩) n n) n (madeCells z.cells (n * size)).toList → Chg [] w w' → wpList Try.prog ops Q rest (a.put o.dst (.slice (some ⟨w.heap.size, 0, none⟩) n n)) w') :
    wpList Try.prog ops Q (o :: rest) a w := by
  obtain ⟨i0, hi, hz0, hz1, hz2⟩ := info_parts E.hi
  have hb := E.hb
  refine wpList_make_full w hg l c t hop B e i0 z size E.ht hi hz0 hz1 .i64 .i64 _ _ n hl hc rfl rfl ?_ (by unfold maxLen; omega) hB (fun w' h1 h2 => hK w' h1 ((Chg.refl _ _).grown h2 (by simp)))
  rw [hz2]
  exact Nat.le_trans (Nat.mul_le_mul_right _ hb) (by omega)
end

end Go.Proofs.Ytfgbkpbakignhaa
/- Graphs, parts, lists of lists as they lie in memory and are read. No condition beyond what each law says. -/
namespace Go.Proofs.Ytfgbkpbakignhaa
open Go.RowKit Go.Maps

/-- v is an api.Graph that reads as g. -/
def GrAt (w : World) (v : Value) (g : Plain.Gr) : Prop :=
  ∃ eo cap, v = .agg #[.int .i64 g.n, .slice eo g.e.length cap] ∧ I64 g.n ∧ g.e.length ≤ 9223372036854775807 ∧
    (∀ i, i < g.e.length → I64 (g.ends i).1 ∧ I64 (g.ends i).2) ∧
    (∀ i, i < g.e.length → ∃ b off, eo = some ⟨b, off, none⟩ ∧ w.cell? ⟨b, off + i * 2, none⟩ = some (.int .i64 (g.ends i).1) ∧ w.cell? ⟨b, off + i * 2 + 1, none⟩ = some (.int .i64 (g.ends i).2))

/-- v is an api.Part that reads as p. -/
def PtAt (w : World) (v : Value) (p : Plain.Pt) : Prop := ∃ v1 v2, v = .agg #[v1, v2] ∧ IntsAt w v1 p.v ∧ IntsAt w v2 p.e

/-- A slice's length is within its capacity. -/
def CapOk (v : Value) : Prop := ∃ ao n cap, v = .slice ao n cap ∧ n ≤ cap ∧ cap ≤ 9223372036854775807

/-- v is a [][]int that reads as ll. -/
def RowsAt (w : World) (v : Value) (ll : List (List Int)) : Prop :=
  ∃ ao cap, v = .slice ao ll.length cap ∧ ll.length ≤ 9223372036854775807 ∧
    ∀ i, i < ll.length → ∃ b off u, ao = some ⟨b, off, none⟩ ∧ w.cell? ⟨b, off + i, none⟩ = some u ∧ CapOk u ∧ IntsAt w u (ll.getD i [])

theorem GrAt.fresh {w w' : World} {v : Value} {g : Plain.Gr} (h : GrAt w v g) (hc : Chg [] w w') : GrAt w' v g := by
  obtain ⟨eo, cap, e, h1, h2, h3, h4⟩ := h
  refine ⟨eo, cap, e, h1, h2, h3, fun i hi => ?_⟩
  obtain ⟨b, off, e1, c1, c2⟩ := h4 i hi
  exact ⟨b, off, e1, hc.cell c1 (by simp), hc.cell c2 (by simp)⟩

theorem PtAt.fresh {w w' : World} {v : Value} {p : Plain.Pt} (h : PtAt w v p) (hc : Chg [] w w') : PtAt w' v p := by
  obtain ⟨v1, v2, e, h1, h2⟩ := h
  exact ⟨v1, v2, e, h1.fresh hc, h2.fresh hc⟩

theorem RowsAt.fresh {w w' : World} {v : Value} {ll : List (List Int)} (h : RowsAt w v ll) (hc : Chg [] w w') : RowsAt w' v ll := by
  obtain ⟨ao, cap, e, h1, h2⟩ := h
  refine ⟨ao, cap, e, h1, fun i hi => ?_⟩
  obtain ⟨b, off, u, e1, c1, c2, c3⟩ := h2 i hi
  exact ⟨b, off, u, e1, hc.cell c1 (by simp), c2, c3.fresh hc⟩

end Go.Proofs.Ytfgbkpbakignhaa
/- darts in the program and the document's answer: contracts of walk.target, face.leaves, ref04.Tail, ref04.In. Conditions: a graph, a list that lie in memory and read so; a dart of it. -/
namespace Go.Proofs.Ytfgbkpbakignhaa
open Go.RowKit Go.Maps

/-- A dart, by its edge and which way. -/
theorem dart_even (g : Plain.Gr) (e : Nat) : g.tail ((2 * e : Nat) : Int) = (g.ends e).1 ∧ g.head ((2 * e : Nat) : Int) = (g.ends e).2 := by
  unfold Plain.Gr.tail Plain.Gr.head Plain.Gr.at
  rw [if_pos (by omega), if_pos (by omega), show (((2 * e : Nat) : Int) / 2).toNat = e by omega]
  exact ⟨rfl, rfl⟩
theorem dart_odd (g : Plain.Gr) (e : Nat) : g.tail ((2 * e + 1 : Nat) : Int) = (g.ends e).2 ∧ g.head ((2 * e + 1 : Nat) : Int) = (g.ends e).1 := by
  unfold Plain.Gr.tail Plain.Gr.head Plain.Gr.at
  rw [if_neg (by omega), if_neg (by omega), show (((2 * e + 1 : Nat) : Int) / 2).toNat = e by omega]
  exact ⟨rfl, rfl⟩

theorem quo_even (e : Nat) : Int.tmod ((2 * e : Nat) : Int) 2 = 0 ∧ Int.tdiv ((2 * e : Nat) : Int) 2 = (e : Int) := by
  rw [Int.tmod_eq_emod_of_nonneg (by omega), Int.tdiv_eq_ediv_of_nonneg (by omega)]
  omega
theorem quo_odd (e : Nat) : Int.tmod ((2 * e + 1 : Nat) : Int) 2 = 1 ∧ Int.tdiv ((2 * e + 1 : Nat) : Int) 2 = (e : Int) := by
  rw [Int.tmod_eq_emod_of_nonneg (by omega), Int.tdiv_eq_ediv_of_nonneg (by omega)]
  omega

theorem target_any (v : Value) (g : Plain.Gr) (d : Nat) (w : World) (hd : d / 2 < g.e.length) (hm : g.e.length < 4294967296) (h : GrAt w v g) :
    Calls Try.prog 63 #[v, .int .i64 d] w fun e w' => e = .returned (.int .i64 (g.head d)) ∧ Chg [] w w' := by
  obtain ⟨eo, cap, rfl, -, -, -, hcell⟩ := h
  obtain ⟨b, off, rfl, hc0, hc1⟩ := hcell (d / 2) hd
  have HC1 := Lib.hid ((Chg.refl [] w).alloc (.cells #[.int .i64 g.n, .slice (some ⟨b, off, none⟩) g.e.length cap] 24))
  obtain ⟨e, he⟩ : ∃ e, d / 2 = e := ⟨_, rfl⟩
  rw [he] at hd hc0 hc1
  have c0 := fun o => cellNew hc0 o
  have c1 := fun o => cellNew hc1 o
  clear hcell hc0 hc1
  rcases (show d = 2 * e ∨ d = 2 * e + 1 by omega) with rfl | rfl
  · obtain ⟨q1, q2⟩ := quo_even e
    have HE := Lib.hid (dart_even g e).2
    rw [HE.out]
    clear he
    generalize ((2 * e : Nat) : Int) = dd at *
    generalize (g.ends e).1 = x at *
    generalize (g.ends e).2 = y at *
    go_enter Try.func63, Try.ntmps63
    go_wp2
    go_ret
    exact ⟨rfl, HC1.out⟩
  · obtain ⟨q1, q2⟩ := quo_odd e
    have HE := Lib.hid (dart_odd g e).2
    rw [HE.out]
    clear he
    generalize ((2 * e + 1 : Nat) : Int) = dd at *
    generalize (g.ends e).1 = x at *
    generalize (g.ends e).2 = y at *
    go_enter Try.func63, Try.ntmps63
    go_wp2
    go_ret
    exact ⟨rfl, HC1.out⟩

theorem leaves_any (v : Value) (g : Plain.Gr) (d : Nat) (w : World) (hd : d / 2 < g.e.length) (hm : g.e.length < 4294967296) (h : GrAt w v g) :
    Calls Try.prog 55 #[v, .int .i64 d] w fun e w' => e = .returned (.int .i64 (g.tail d)) ∧ Chg [] w w' := by
  obtain ⟨eo, cap, rfl, -, -, -, hcell⟩ := h
  obtain ⟨b, off, rfl, hc0, hc1⟩ := hcell (d / 2) hd
  have HC1 := Lib.hid ((Chg.refl [] w).alloc (.cells #[.int .i64 g.n, .slice (some ⟨b, off, none⟩) g.e.length cap] 24))
  obtain ⟨e, he⟩ : ∃ e, d / 2 = e := ⟨_, rfl⟩
  rw [he] at hd hc0 hc1
  have c0 := fun o => cellNew hc0 o
  have c1 := fun o => cellNew hc1 o
  clear hcell hc0 hc1
  rcases (show d = 2 * e ∨ d = 2 * e + 1 by omega) with rfl | rfl
  · obtain ⟨q1, q2⟩ := quo_even e
    have HE := Lib.hid (dart_even g e).1
    rw [HE.out]
    clear he
    generalize ((2 * e : Nat) : Int) = dd at *
    generalize (g.ends e).1 = x at *
    generalize (g.ends e).2 = y at *
    go_enter Try.func55, Try.ntmps55
    go_wp2
    go_ret
    exact ⟨rfl, HC1.out⟩
  · obtain ⟨q1, q2⟩ := quo_odd e
    have HE := Lib.hid (dart_odd g e).1
    rw [HE.out]
    clear he
    generalize ((2 * e + 1 : Nat) : Int) = dd at *
    generalize (g.ends e).1 = x at *
    generalize (g.ends e).2 = y at *
    go_enter Try.func55, Try.ntmps55
    go_wp2
    go_ret
    exact ⟨rfl, HC1.out⟩

theorem take_snoc_mem {l : List Int} {x : Int} {k : Nat} (hk : k < l.length) : x ∈ l.take (k + 1) ↔ x ∈ l.take k ∨ l.getD k 0 = x := by
  rw [List.take_succ_eq_append_getElem hk]
  simp only [List.mem_append, List.mem_singleton, List.getD, List.getElem?_eq_getElem hk, Option.getD_some]
  exact or_congr_right eq_comm

theorem in_any (v : Value) (l : List Int) (x : Int) (w : World) (h : IntsAt w v l) :
    Calls Try.prog 17 #[v, .int .i64 x] w fun e w' => e = .returned (.bool (decide (x ∈ l))) ∧ Chg [] w w' := by
  obtain ⟨ao, cap, rfl, hsm, hm, hcell⟩ := h
  have HCE := Lib.hid hcell
  clear hsm hcell
  go_enter Try.func17, Try.ntmps17
  go_wp2
  go_loopw [5] (fun c wr => ∃ k : Nat, k ≤ l.length ∧ c = .int .i64 k ∧ Chg [] w wr ∧ Hid (x ∉ l.take k)) (fun c _ => l.length - (intOf c).toNat)
  case atStart => exact ⟨0, Nat.zero_le _, rfl, Chg.refl _ _, Lib.hid (by simp)⟩
  case round =>
    obtain ⟨k, hk, rfl, hc, hall⟩ := hrel
    have HC := Lib.hid hc
    by_cases hlt : k < l.length
    · obtain ⟨b, off, rfl, hfc⟩ := HCE.out (by intro e; rw [e] at hlt; simp at hlt)
      have c0 := hc.cell (hfc k hlt) (by simp)
      have HS := Lib.hid (take_snoc_mem (x := x) hlt)
      have HIN := Lib.hid (fun (e : l.getD k 0 = x) => (show x ∈ l from List.mem_of_mem_take ((take_snoc_mem (x := x) hlt).2 (Or.inr e))))
      clear hfc hc
      generalize l.getD k 0 = z at *
      by_cases h1 : z = x
      · have HE := Lib.hid (decide_eq_true (HIN.out h1))
        subst h1
        go_wp2
        go_ret
        exact ⟨ret_bool HE.out.symm, HC.out⟩
      · have h2 : (z == x) = false := by rw [beq_eq_false_iff_ne]; exact h1
        go_wp2
        go_roundw
        case rel => exact ⟨k + 1, by omega, by go_num, HC.out, Lib.hid (fun q => (HS.out.1 q).elim hall.out h1)⟩
        case measure => simp [intOf]; omega
    · have e : k = l.length := by omega
      subst e
      have HE := Lib.hid (decide_eq_false (by have := hall.out; rwa [List.take_length] at this))
      go_wp2
      go_ret
      exact ⟨ret_bool HE.out.symm, HC.out⟩

end Go.Proofs.Ytfgbkpbakignhaa
