/- Turns, walks around faces; the parity of a piece. No program here. -/
import Derived.Test.YtpcgklagmcnhaaaGreatT7Perm
import Derived.Test.YtpcgklagmcnhaaaGreatRows
import Derived.WalkLawsBesides
import Derived.WalkSpells
import Derived.Maps.OwnSet
import Derived.Maps.RangeWalk
import Derived.Maps.AppendAt
import Derived.Defers
import Derived.Recover
import Derived.Lib.Hide
namespace Go.Proofs.YtpcgklagmcnhaaaGreat.Plain
def turnAt (turn : List (List Int)) (v : Int) : List Int := turn.getD v.toNat []
structure TurnsOk (g : Gr) (p : Pt) (turn : List (List Int)) : Prop where
 len : (turn.length : Int) = g.n
 nodup : ∀ v, (turnAt turn v).Nodup
 mem : ∀ v, 0 ≤ v → v < g.n → ∀ d, d ∈ turnAt turn v ↔ d ∈ p.darts ∧ g.tail d = v
def before (g : Gr) (turn : List (List Int)) (d : Int) : Int := ahead (turnAt turn (g.tail d)) d
def nextDart (g : Gr) (turn : List (List Int)) (d : Int) : Int := before g turn (twin d)
def busy (turn : List (List Int)) (U : List Int) : List Int := U.filter fun v => !(turnAt turn v).isEmpty
abbrev Face := Int × List Int
structure FacesOk (g : Gr) (p : Pt) (turn : List (List Int)) (W : List Face) : Prop where
 rings : Rings (nextDart g turn) ((W.filter fun f => !f.2.isEmpty).map (·.2))
 all : ((W.filter fun f => !f.2.isEmpty).map (·.2)).flatten.Perm p.darts
 key : ∀ f ∈ W, ∀ d l, f.2 = d :: l → f.1 = d
 lone : ((W.filter fun f => f.2.isEmpty).map (·.1)).Perm ((p.v.filter fun v => (turnAt turn v).isEmpty).map fun v => -1 - v)
structure PartOk (g : Gr) (p : Pt) : Prop where
 vn : p.v.Nodup
 en : p.e.Nodup
 vr : ∀ v ∈ p.v, 0 ≤ v ∧ v < g.n
 er : ∀ e ∈ p.e, 0 ≤ e
 ends : ∀ e ∈ p.e, (g.at e).1 ∈ p.v ∧ (g.at e).2 ∈ p.v
theorem mem_getD {l : List Int} {x : Int} (h : x ∈ l) : ∃ i, i < l.length ∧ l.getD i 0 = x := by
 obtain ⟨i, hi, rfl⟩ := List.getElem_of_mem h
 exact ⟨i, hi, by grind⟩
theorem Pt.ok_of_err {g : Gr} {p : Pt} (h : p.err g = 0) : PartOk g p := by
 obtain ⟨h1, h2, h3, h4⟩ := Pt.err_ok h
 refine ⟨rises_nodup h2, rises_nodup h3, fun v hv => ?_, fun e he => ?_, fun e he => ?_⟩
 ·obtain ⟨i, hi, rfl⟩ := mem_getD hv
  have := rises_at h2 hi
  grind
 ·obtain ⟨i, hi, rfl⟩ := mem_getD he
  exact (rises_at h3 hi).1
 obtain ⟨i, hi, rfl⟩ := mem_getD he
 exact h4 i hi
theorem PartOk.tail_mem {g : Gr} {p : Pt} (h : PartOk g p) {d : Int} (hd : d ∈ p.darts) : g.tail d ∈ p.v ∧ g.head d ∈ p.v := by
 have := h.ends _ (mem_darts.1 hd)
 all_goals grind [Gr.tail, Gr.head]
theorem near_dart {g : Gr} {p : Pt} {d : Int} (hd : d ∈ p.darts) : Near g p (g.tail d) (g.head d) := by
 refine ⟨d / 2, mem_darts.1 hd, ?_⟩
 all_goals grind [Gr.tail, Gr.head]
theorem roots_nodup {g : Gr} {p : Pt} (h : PartOk g p) : (roots g p).Nodup := by
 classical
 exact List.Pairwise.filter _ h.vn
theorem tail_even (g : Gr) (e : Int) : g.tail (2 * e) = (g.at e).1 ∧ g.head (2 * e) = (g.at e).2 := by
 grind [Gr.tail, Gr.head]
end Go.Proofs.YtpcgklagmcnhaaaGreat.Plain
namespace Go.Proofs.YtpcgklagmcnhaaaGreat
open Go.RowKit Go.Maps
structure Chg (own : List Nat) (w w' : World) : Prop where
 os : w'.os = w.os
 tape : w'.tape = w.tape
 output : w'.output = w.output
 size : w.heap.size ≤ w'.heap.size
 block : ∀ k, k < w.heap.size → k ∉ own → w'.heap[k]? = w.heap[k]?
theorem Chg.refl (own : List Nat) (w : World) : Chg own w w := ⟨rfl, rfl, rfl, Nat.le_refl _, fun _ _ _ => rfl⟩
theorem Chg.trans {own own' : List Nat} {a b c : World} (h : Chg own a b) (k : Chg own' b c) (hs : ∀ j ∈ own', j ∈ own ∨ a.heap.size ≤ j) : Chg own a c :=
 ⟨k.os.trans h.os, k.tape.trans h.tape, k.output.trans h.output, Nat.le_trans h.size k.size, fun i hi hn =>
  (k.block i (Nat.lt_of_lt_of_le hi h.size) (fun e => by rcases hs i e with h1 | h1; exact hn h1; omega)).trans (h.block i hi hn)⟩
theorem Chg.mono {own own' : List Nat} {a b : World} (h : Chg own a b) (hs : ∀ j ∈ own, j ∈ own' ∨ a.heap.size ≤ j) : Chg own' a b :=
 ⟨h.os, h.tape, h.output, h.size, fun i hi hn => h.block i hi (fun e => by rcases hs i e with h1 | h1; exact hn h1; omega)⟩
theorem Chg.drew {own : List Nat} {a w : World} (h : Chg own a w) : Chg own a w.drew := ⟨h.os, h.tape, h.output, h.size, h.block⟩
theorem Chg.alloc {own : List Nat} {a w : World} (h : Chg own a w) (o : Obj) : Chg own a (w.alloc o) :=
 h.trans (own' := []) ⟨rfl, rfl, rfl, by simp, fun k hk _ => Below.heap_alloc _ _ _ hk⟩ (by simp)
theorem Chg.setCell {own : List Nat} {a w : World} (h : Chg own a w) {p : Addr} (hp : p.block ∈ own ∨ a.heap.size ≤ p.block) (u : Value) : Chg own a (w.setCell p u) :=
 h.trans (own' := [p.block]) ⟨rfl, rfl, rfl, by simp [World.setCell], fun k _ hn => Below.heap_setCell _ _ _ _ (by simpa using hn)⟩ (by simpa using hp)
theorem Chg.grown {own : List Nat} {a w w' : World} {row : Option Nat} (h : Chg own a w) (hg : w.grownBy w' row) (hr : ∀ k, row = some k → k ∈ own ∨ a.heap.size ≤ k) : Chg own a w' :=
 h.trans (own' := row.toList) ⟨hg.os, hg.tape, hg.output, hg.size, fun k hk hn => hg.block k hk (fun e => hn (by simp [← e]))⟩ (fun j hj => hr j (by simpa using hj))
theorem Chg.below {a w : World} (h : Chg [] a w) : Below a.heap.size a w := ⟨h.os, h.tape, h.output, h.size, fun k hk => h.block k hk (by simp)⟩
theorem Chg.grownBy {a w : World} {own : List Nat} (h : Chg own a w) {row : Option Nat} (hr : ∀ k ∈ own, some k = row) : a.grownBy w row :=
 ⟨h.os, h.tape, h.output, h.size, fun k hk hn => h.block k hk (fun e => hn (hr k e))⟩
theorem Chg.of_below {a w : World} {B : Nat} (h : Below B a w) (hB : a.heap.size ≤ B) : Chg [] a w := ⟨h.os, h.tape, h.output, h.size, fun k hk _ => h.block k (by omega)⟩
theorem Chg.cell {own : List Nat} {a w : World} (h : Chg own a w) {p : Addr} {v : Value} (hc : a.cell? p = some v) (hn : p.block ∉ own) : w.cell? p = some v :=
 (World.cell?_of_block (w := a) (h.block p.block (World.block_lt_of_cell? a p hc) hn)).trans hc
theorem Chg.frozen {own : List Nat} {a w : World} (h : Chg own a w) {p : Addr} {v : Value} (hc : a.cell? p = some v) (hf : a.frozen? p = false) (hn : p.block ∉ own) : w.frozen? p = false :=
 (World.frozen?_of_block (w := a) (h.block p.block (World.block_lt_of_cell? a p hc) hn)).trans hf
theorem cellNew {w : World} {p : Addr} {v : Value} (h : w.cell? p = some v) (o : Obj) : (w.alloc o).cell? p = some v := ((Chg.refl [] w).alloc o).cell h (by simp)
theorem oneInt (x : Int) : ∀ u ∈ (#[Value.int .i64 x]).toList, u.oneCell' = true := by intro u hu; simp at hu; subst hu; rfl
theorem oneSlice (a : Option Addr) (n c : Nat) : ∀ u ∈ (#[Value.slice a n c]).toList, u.oneCell' = true := by intro u hu; simp at hu; subst hu; rfl
theorem Chg.heap {own : List Nat} {a w : World} (h : Chg own a w) {k : Nat} {o : Obj} (hc : a.heap[k]? = some o) (hn : k ∉ own) : w.heap[k]? = some o :=
 (h.block k (lt_of_block hc) hn).trans hc
theorem Chg.tr {own : List Nat} {a b c : World} (h : Chg own a b) (k : Chg [] b c) : Chg own a c := h.trans k (by simp)
theorem Chg.cel {a w : World} (h : Chg [] a w) {p : Addr} {v : Value} (hc : a.cell? p = some v) : w.cell? p = some v := h.cell hc (by simp)
theorem Chg.hp {a w : World} (h : Chg [] a w) {k : Nat} {o : Obj} (hc : a.heap[k]? = some o) : w.heap[k]? = some o := h.heap hc (by simp)
theorem heap_setCell_same {w : World} {b : Nat} {cs : Array Value} {t : TypeId} {r : Nat × Nat} (h : w.heap[b]? = some (.cells cs t r)) (i : Nat) (u : Value) : (w.setCell ⟨b, i, none⟩ u).heap[b]? = some (.cells (cs.setIfInBounds i u) t r) := by
 have hlt := lt_of_block h
 have h' : w.heap[b] = .cells cs t r := by simpa [Array.getElem?_eq_getElem hlt] using h
 show (w.heap.modify b _)[b]? = _
 grind
theorem ret_bool {a b : Bool} (h : a = b) : Ending.returned (.bool a) = .returned (.bool b) := by rw [h]
theorem ret_int {a b : Int} (h : a = b) : Ending.returned (.int .i64 a) = .returned (.int .i64 b) := by rw [h]
theorem four {w : World} {b : Nat} {a0 a1 a2 a3 : Value} {t : TypeId} (h : w.heap[b]? = some (.cells #[a0, a1, a2, a3] t (0, 0))) :
  w.cell? ⟨b, 0, none⟩ = some a0 ∧ w.cell? ⟨b, 1, none⟩ = some a1 ∧ w.cell? ⟨b, 2, none⟩ = some a2 ∧ w.cell? ⟨b, 3, none⟩ = some a3 ∧ w.frozen? ⟨b, 1, none⟩ = false ∧ w.frozen? ⟨b, 2, none⟩ = false ∧ w.frozen? ⟨b, 3, none⟩ = false := by
 simp [World.cell?, World.frozen?, h]
theorem keyedInt : Keyed Tryz.prog 3 := int_keyed Tryz.underlying3
theorem zeroInt (w : World) : (zeroValue 3).run Tryz.prog w = .ok (.int .i64 0) w := by kernel_rfl
def I64 (x : Int) : Prop := (Lit.int .i64 x).wf = true
theorem I64.mk {x : Int} (h1 : -9223372036854775808 ≤ x) (h2 : x ≤ 9223372036854775807) : I64 x := WalkArith.wf_i64 (by omega)
def IMap (w : World) (b n : Nat) (f : Int → Option Int) : Prop :=
 ∃ D : DataW Unit, w.ownsMap Tryz.prog 3 (plainElem Tryz.prog 3) b n D ∧
  ∀ x, I64 x → Maps.has D (.int .i64 x) = (f x).isSome ∧ D.atKey (.int .i64 x) (.lit (.int .i64 0)) = .lit (.int .i64 ((f x).getD 0))
theorem IMap.made (w : World) : IMap (w.alloc (.map #[] 0)) w.heap.size 0 (fun _ => none) :=
 ⟨.map [], World.ownsMap_made _ _ _ _, fun _ _ => ⟨rfl, rfl⟩⟩
theorem IMap.lt {w : World} {b n : Nat} {f : Int → Option Int} (h : IMap w b n f) : b < w.heap.size := by obtain ⟨D, h, _⟩ := h; exact h.lt
theorem IMap.mono {w : World} {b n n' : Nat} {f : Int → Option Int} (h : IMap w b n f) (hn : n ≤ n') : IMap w b n' f := by obtain ⟨D, h, g⟩ := h; exact ⟨D, h.mono hn, g⟩
theorem IMap.chg {w w' : World} {own : List Nat} {b n : Nat} {f : Int → Option Int} (h : IMap w b n f) (hc : Chg own w w') (hb : b ∉ own) : IMap w' b n f := by
 obtain ⟨D, ⟨es, clock, he, r⟩, g⟩ := h
 exact ⟨D, ⟨es, clock, hc.heap he hb, r⟩, g⟩
theorem IMap.kept {w w' : World} {row : Option Nat} {b n : Nat} {f : Int → Option Int} (h : IMap w b n f) (hc : w.grownBy w' row) (hb : some b ≠ row) : IMap w' b n f := by
 obtain ⟨D, h, g⟩ := h
 exact ⟨D, h.kept hc hb, g⟩
theorem IMap.alloc {w : World} {b n : Nat} {f : Int → Option Int} (h : IMap w b n f) (o : Obj) : IMap (w.alloc o) b n f := h.kept (World.grownBy_alloc w o none) (by simp)
theorem IMap.ne {w : World} {b n : Nat} {f : Int → Option Int} (h : IMap w b n f) {k : Nat} {cs : Array Value} {t : TypeId} {r : Nat × Nat} (hk : w.heap[k]? = some (.cells cs t r)) : k ≠ b := by
 obtain ⟨D, ⟨es, clock, he, _⟩, _⟩ := h
 grind
theorem litNe {x y : Int} (h : x ≠ y) : (Lit.int .i64 x) ≠ .int .i64 y := by grind
section
variable (w : World) {ops : Array Oper} {rest : List Oper} {o : Oper} {a : Act} {Q : Exit → Act → World → Prop}
theorem wp_look_hit (hg : o.guard = none) (m x : Operand) (hop : o.op = Op.lookup 126 m x true) {b n : Nat} {f : Int → Option Int} (h : IMap w b n f) (hm : a.eval m = .map (some b))
  {k v : Int} (hk : I64 k) (hx : a.eval x = .int .i64 k) (hf : Hid (f k = some v)) (hK : wpList Tryz.prog ops Q rest (a.put o.dst (.tuple #[.int .i64 v, .bool true])) w) : wpList Tryz.prog ops Q (o :: rest) a w := by
 obtain ⟨D, hown, hv⟩ := h
 refine wpList_lookup_own_ok_int w hg m x _ hop _ _ .i64 keyedInt Tryz.underlying126 Tryz.underlying3 (zeroInt _) b n D hm hown _ _ hx (keyOf_int_mk Tryz.underlying3 hk) (fun c hat _ => ?_)
 obtain ⟨h1, h2⟩ := hv k hk
 rw [hf.out] at h1 h2
 grind
theorem wp_look_miss (hg : o.guard = none) (m x : Operand) (hop : o.op = Op.lookup 126 m x true) {b n : Nat} {f : Int → Option Int} (h : IMap w b n f) (hm : a.eval m = .map (some b))
  {k : Int} (hk : I64 k) (hx : a.eval x = .int .i64 k) (hf : Hid (f k = none)) (hK : wpList Tryz.prog ops Q rest (a.put o.dst (.tuple #[.int .i64 0, .bool false])) w) : wpList Tryz.prog ops Q (o :: rest) a w := by
 obtain ⟨D, hown, hv⟩ := h
 refine wpList_lookup_own_ok_int w hg m x _ hop _ _ .i64 keyedInt Tryz.underlying126 Tryz.underlying3 (zeroInt _) b n D hm hown _ _ hx (keyOf_int_mk Tryz.underlying3 hk) (fun c hat _ => ?_)
 obtain ⟨h1, h2⟩ := hv k hk
 rw [hf.out] at h1 h2
 grind
theorem wp_look (hg : o.guard = none) (m x : Operand) (hop : o.op = Op.lookup 126 m x false) {b n : Nat} {f : Int → Option Int} (h : IMap w b n f) (hm : a.eval m = .map (some b))
  {k : Int} (hk : I64 k) (hx : a.eval x = .int .i64 k) {v : Int} (hf : Hid ((f k).getD 0 = v)) (hK : wpList Tryz.prog ops Q rest (a.put o.dst (.int .i64 v)) w) : wpList Tryz.prog ops Q (o :: rest) a w := by
 obtain ⟨D, hown, hv⟩ := h
 refine wpList_lookup_own_int w hg m x _ hop _ _ .i64 keyedInt Tryz.underlying126 Tryz.underlying3 (zeroInt _) b n D hm hown _ _ hx (keyOf_int_mk Tryz.underlying3 hk) (fun c hat _ => ?_)
 obtain ⟨h1, h2⟩ := hv k hk
 rw [h2, hf.out] at hat
 grind
theorem wp_store (hg : o.guard = none) (m x u : Operand) (hop : o.op = Op.mapUpdate 126 m x u) {b n : Nat} {f : Int → Option Int} (h : IMap w b n f) (hn : n < maxLen) (hm : a.eval m = .map (some b))
  {k v : Int} (hk : I64 k) (hv : I64 v) (hx : a.eval x = .int .i64 k) (hu : a.eval u = .int .i64 v)
  (hK : ∀ w', IMap w' b (n + 1) (fun y => if y = k then some v else f y) → w.grownBy w' (some b) → wpList Tryz.prog ops Q rest (a.put o.dst undef) w') : wpList Tryz.prog ops Q (o :: rest) a w := by
 obtain ⟨D, hown, hD⟩ := h
 refine wpList_mapUpdate_own w hg m x u _ hop _ _ keyedInt Tryz.underlying126 _ b n D hm hown hn _ _ _ hx hu (keyOf_int_mk Tryz.underlying3 hk) _ [] (plainElem_int Tryz.underlying3 hv) (fun w' h1 h2 => hK w' ⟨_, h1, fun y hy => ?_⟩ h2)
 by_cases e : y = k
 ·subst e
  have hkl := keyedInt.key (keyOf_int_mk Tryz.underlying3 hk)
  rw [has_put_same hown.isMap hkl, atKey_put_same hown.isMap hkl]
  simp
 rw [has_put_other (litNe e), atKey_put_other (litNe e)]
 grind
end
def IntsAt (w : World) (v : Value) (l : List Int) : Prop :=
 ∃ ao cap, v = .slice ao l.length cap ∧ (∀ x ∈ l, I64 x) ∧ l.length ≤ 9223372036854775807 ∧ (l ≠ [] → ∃ b off, ao = some ⟨b, off, none⟩ ∧ ∀ i, i < l.length → w.cell? ⟨b, off + i, none⟩ = some (.int .i64 (l.getD i 0)))
theorem IntsAt.nil (w : World) : IntsAt w (.slice none 0 0) [] := ⟨none, 0, rfl, by simp, by simp, by simp⟩
theorem IntsAt.chg {w w' : World} {v : Value} {l : List Int} {own : List Nat} (h : IntsAt w v l) (hc : Chg own w w') (hn : ∀ b n c, v = .slice (some b) n c → b.block ∉ own) : IntsAt w' v l := by
 obtain ⟨ao, cap, rfl, h1, h2, h3⟩ := h
 refine ⟨ao, cap, rfl, h1, h2, fun hl => ?_⟩
 obtain ⟨b, off, rfl, h4⟩ := h3 hl
 exact ⟨b, off, rfl, fun i hi => hc.cell (h4 i hi) (show b ∉ own from hn ⟨b, off, none⟩ _ _ rfl)⟩
theorem IntsAt.fresh {w w' : World} {v : Value} {l : List Int} (h : IntsAt w v l) (hc : Chg [] w w') : IntsAt w' v l := h.chg hc (by simp)
structure Elem (t e : TypeId) (z : Value) (size bytes : Nat) : Prop where
 ht : Tryz.prog.underlying t = some (.slice e)
 hi : (Tryz.prog.info? e).map (fun i => (i.zero, i.size, i.bytes)) = some (some z, size, bytes)
 hz : z.cells.size = size
 h0 : 0 < size
 hb : bytes ≤ 1024
theorem elemInt : Elem 31 3 (.int .i64 0) 1 8 := ⟨Tryz.underlying31, by kernel_rfl, rfl, by decide, by decide⟩
theorem elemRow : Elem 132 31 (.slice none 0 0) 1 24 := ⟨Tryz.underlying132, by kernel_rfl, rfl, by decide, by decide⟩
theorem run_app {t e : TypeId} {z : Value} {size bytes : Nat} (E : Elem t e z size bytes) {w0 w : World} {B : Nat} {v : Value} {n : Nat} {xs : List Value} (hown : w0.ownsRow B e size v n xs) (hB : B ≤ w0.heap.size) {cs : Array Value} (hcs : cs.size = size) (h1 : ∀ u ∈ cs.toList, u.oneCell' = true) (hn : n < 68719476736)
  (hw : w = w0.alloc (.cells cs e) ∨ w = (w0.alloc (.cells cs e)).drew) (ty : TypeId) :
  ∃ g cap w', (Builtin.append_ #[t, t] ty #[v, .slice (some ⟨w0.heap.size, 0, none⟩) 1 1]).run Tryz.prog w = .ok (.slice (some ⟨g, 0, none⟩) (n + 1) cap) w' ∧
   w'.ownsRow B e size (.slice (some ⟨g, 0, none⟩) (n + 1) cap) (n + 1) (xs ++ cs.toList) ∧ Chg v.ownBlock.toList w0 w' ∧ (v.ownBlock = some g ∨ w0.heap.size ≤ g) := by
 have hown' : w.ownsRow B e size v n xs := by rcases hw with rfl | rfl; exact hown.alloc _; exact hown.alloc _
 have hch : Chg [] w0 w := by rcases hw with rfl | rfl; exact (Chg.refl _ _).alloc _; exact ((Chg.refl _ _).alloc _).drew
 have hsz : w.heap.size = w0.heap.size + 1 := by rcases hw with rfl | rfl <;> simp [World.drew]
 have hnews : ∀ j u, cs.toList[j]? = some u → w.cell? ((⟨w0.heap.size, 0, none⟩ : Addr).add j) = some u := by
  intro j u hu
  have hadd : (⟨w0.heap.size, 0, none⟩ : Addr).add j = ⟨w0.heap.size, j, none⟩ := by unfold Addr.add; split <;> simp_all
  have hblk : w.heap[w0.heap.size]? = some (.cells cs e (0, 0)) := by rcases hw with rfl | rfl <;> exact heap_alloc_new _ _
  rw [hadd, cell_of_row w _ j cs e (0, 0) hblk]
  simpa using hu
 obtain ⟨i0, hi, hz0, hz1, hz2⟩ := info_parts E.hi
 have hb := E.hb
 obtain ⟨v', w', hr, h2, h3, h4, h5⟩ := run_append_own_at (P := Tryz.prog) w B t ty e i0 z size bytes E.ht hi hz0 hz1 hz2 E.hz E.h0 v n xs hown' ⟨w0.heap.size, 0, none⟩ 1 1 cs.toList (by grind) hnews h1 (by unfold maxLen; omega) (Nat.le_trans (Nat.mul_le_mul_left _ hb) (by omega)) (by omega)
 obtain ⟨g, cap, rfl⟩ : ∃ g cap, v' = .slice (some ⟨g, 0, none⟩) (n + 1) cap := by
  rcases h2.2 with ⟨_, e⟩ | ⟨g, cap, _, rfl, _⟩
  all_goals grind
 refine ⟨g, cap, w', hr, h2, (hch.mono (by simp)).grown h3 (fun j hj => Or.inl (by grind)), ?_⟩
 rcases h5 with h4 | h4
 ·exact Or.inl h4.symm
 simp only [Value.ownBlock, Option.some.injEq] at h4
 grind
section
variable {ops : Array Oper} {rest : List Oper} {o : Oper} {a : Act} {Q : Exit → Act → World → Prop}
theorem wp_app {t e : TypeId} {z : Value} {size bytes : Nat} (E : Elem t e z size bytes) {w0 : World} (hg : o.guard = none) (s x : Operand) (ho : o.op = .call { callee := .builtin .append, args := #[s, x], argTypes := #[t, t] })
  {B : Nat} {v : Value} {n m : Nat} {xs : List Value} {cs : Array Value} (hs : a.eval s = v) (hx : a.eval x = .slice (some ⟨m, 0, none⟩) 1 1) (hm : m = w0.heap.size) (hown : w0.ownsRow B e size v n xs) (hB : B ≤ w0.heap.size) (hcs : cs.size = size) (h1 : ∀ u ∈ cs.toList, u.oneCell' = true) (hn : n < 68719476736)
  (hK : ∀ g cap w', w'.ownsRow B e size (.slice (some ⟨g, 0, none⟩) (n + 1) cap) (n + 1) (xs ++ cs.toList) → Chg v.ownBlock.toList w0 w' → (v.ownBlock = some g ∨ w0.heap.size ≤ g) →
   wpList Tryz.prog ops Q rest (a.put o.dst (.slice (some ⟨g, 0, none⟩) (n + 1) cap)) w') : wpList Tryz.prog ops Q (o :: rest) a (w0.alloc (.cells cs e)) := by
 subst hm
 refine wpList_plain hg fun K hK' => ?_
 obtain ⟨g, cap, w', hr, r1, r2, r3⟩ := run_app E hown hB hcs h1 hn (Or.inl rfl) o.type
 unfold Oper.wp execOp
 simp only [ho, resolve, invoke, builtin, Sem.run_bind, Sem.run_pure, Result.andThen_ok, List.map_toArray, List.map_cons, List.map_nil, hs, hx, hr]
 exact hK' _ _ (hK g cap w' r1 r2 r3)
theorem step_app {t e : TypeId} {z : Value} {size bytes : Nat} (E : Elem t e z size bytes) {w0 w : World} {K : Act → World → Prop} {F : Prop} (hg : o.guard = none) (s x : Operand) (ho : o.op = .call { callee := .builtin .append, args := #[s, x], argTypes := #[t, t] })
  {B : Nat} {v : Value} {n m : Nat} {xs : List Value} {cs : Array Value} (hs : a.eval s = v) (hx : a.eval x = .slice (some ⟨m, 0, none⟩) 1 1) (hm : m = w0.heap.size) (hown : w0.ownsRow B e size v n xs) (hB : B ≤ w0.heap.size) (hcs : cs.size = size) (h1 : ∀ u ∈ cs.toList, u.oneCell' = true) (hn : n < 68719476736)
  (hw : w = w0.alloc (.cells cs e) ∨ w = (w0.alloc (.cells cs e)).drew)
  (hK : ∀ g cap w', w'.ownsRow B e size (.slice (some ⟨g, 0, none⟩) (n + 1) cap) (n + 1) (xs ++ cs.toList) → Chg v.ownBlock.toList w0 w' → (v.ownBlock = some g ∨ w0.heap.size ≤ g) →
   K (a.put o.dst (.slice (some ⟨g, 0, none⟩) (n + 1) cap)) w') : if Region.wanted o (yielded ops a.tmps) = true then Oper.wp Tryz.prog o a w K Q else F := by
 subst hm
 have hw' : Region.wanted o (yielded ops a.tmps) = true := by simp [Region.wanted, hg]
 rw [if_pos hw']
 obtain ⟨g, cap, w', hr, r1, r2, r3⟩ := run_app E hown hB hcs h1 hn hw o.type
 unfold Oper.wp execOp
 simp only [ho, resolve, invoke, builtin, Sem.run_bind, Sem.run_pure, Result.andThen_ok, List.map_toArray, List.map_cons, List.map_nil, hs, hx, hr]
 exact hK g cap w' r1 r2 r3
theorem wp_app_int {w0 : World} (hg : o.guard = none) (s x : Operand) (ho : o.op = .call { callee := .builtin .append, args := #[s, x], argTypes := #[31, 31] })
  {v : Value} {n m : Nat} {xs : List Value} {k : Int} {B : Nat} (hs : a.eval s = v) (hx : a.eval x = .slice (some ⟨m, 0, none⟩) 1 1) (hm : m = w0.heap.size) (hown : w0.ownsRow B 3 1 v n xs) (hB : B ≤ w0.heap.size) (hn : n < 68719476736)
  (hK : ∀ g cap w', w'.ownsRow B 3 1 (.slice (some ⟨g, 0, none⟩) (n + 1) cap) (n + 1) (xs ++ [.int .i64 k]) → Chg v.ownBlock.toList w0 w' → (v.ownBlock = some g ∨ w0.heap.size ≤ g) →
   wpList Tryz.prog ops Q rest (a.put o.dst (.slice (some ⟨g, 0, none⟩) (n + 1) cap)) w') : wpList Tryz.prog ops Q (o :: rest) a (w0.alloc (.cells #[.int .i64 k] 3)) :=
 wp_app elemInt hg s x ho hs hx hm hown hB rfl (by intro u hu; simp at hu; subst hu; rfl) hn hK
theorem wp_make {t e : TypeId} {z : Value} {size bytes : Nat} (E : Elem t e z size bytes) {w : World} (hg : o.guard = none) (l c : Operand) (hop : o.op = Op.makeSlice t l c) {B n : Nat} (hl : a.eval l = .int .i64 n) (hc : a.eval c = .int .i64 n) (hB : B ≤ w.heap.size) (hn : n < 68719476736)
  (hK : ∀ w', w'.ownsRow B e size (.slice (some ⟨w.heap.size, 0, none⟩) n n) n (madeCells z.cells (n * size)).toList → Chg [] w w' → wpList Tryz.prog ops Q rest (a.put o.dst (.slice (some ⟨w.heap.size, 0, none⟩) n n)) w') :
  wpList Tryz.prog ops Q (o :: rest) a w := by
 obtain ⟨i0, hi, hz0, hz1, hz2⟩ := info_parts E.hi
 have hb := E.hb
 refine wpList_make_full w hg l c t hop B e i0 z size E.ht hi hz0 hz1 .i64 .i64 _ _ n hl hc rfl rfl ?_ (by unfold maxLen; omega) hB (fun w' h1 h2 => hK w' h1 ((Chg.refl _ _).grown h2 (by simp)))
 rw [hz2]
 exact Nat.le_trans (Nat.mul_le_mul_right _ hb) (by omega)
end
theorem Z1 {α : Type} {xs : List α} {i : Nat} (h : i < xs.toArray.size) : xs.toArray[i]'h = xs[i]'(by simpa using h) := rfl
theorem Z2 {α : Type} {a : α} {xs : List α} {h : 0 < (a :: xs).length} : (a :: xs)[0]'h = a := rfl
theorem Z3 {α : Type} {a : α} {xs : List α} {i : Nat} {h : i + 1 < (a :: xs).length} : (a :: xs)[i + 1]'h = xs[i]'(Nat.lt_of_succ_lt_succ h) := rfl
theorem Z4 {α : Type} {l : List α} {i : Nat} {a : α} : l.toArray.setIfInBounds i a = (l.set i a).toArray := List.setIfInBounds_toArray ..
theorem Z5 {α : Type} {x : α} {xs : List α} {a : α} : (x :: xs).set 0 a = a :: xs := rfl
theorem lh {p : Prop} (h : p) : RowKit.Hid p := h
theorem Z6 {α : Type} {x : α} {xs : List α} {n : Nat} {a : α} : (x :: xs).set (n + 1) a = x :: xs.set n a := rfl
def GrAt (w : World) (v : Value) (g : Plain.Gr) : Prop :=
 ∃ eo cap, v = .agg #[.int .i64 g.n, .slice eo g.e.length cap] ∧ I64 g.n ∧ g.e.length ≤ 9223372036854775807 ∧
  (∀ i, i < g.e.length → I64 (g.ends i).1 ∧ I64 (g.ends i).2) ∧
  (∀ i, i < g.e.length → ∃ b off, eo = some ⟨b, off, none⟩ ∧ w.cell? ⟨b, off + i * 2, none⟩ = some (.int .i64 (g.ends i).1) ∧ w.cell? ⟨b, off + i * 2 + 1, none⟩ = some (.int .i64 (g.ends i).2))
def PtAt (w : World) (v : Value) (p : Plain.Pt) : Prop := ∃ v1 v2, v = .agg #[v1, v2] ∧ IntsAt w v1 p.v ∧ IntsAt w v2 p.e
def CapOk (v : Value) : Prop := ∃ ao n cap, v = .slice ao n cap ∧ n ≤ cap ∧ cap ≤ 9223372036854775807
def RowsAt (w : World) (v : Value) (ll : List (List Int)) : Prop :=
 ∃ ao cap, v = .slice ao ll.length cap ∧ ll.length ≤ 9223372036854775807 ∧
  ∀ i, i < ll.length → ∃ b off u, ao = some ⟨b, off, none⟩ ∧ w.cell? ⟨b, off + i, none⟩ = some u ∧ CapOk u ∧ IntsAt w u (ll.getD i [])
theorem GrAt.fresh {w w' : World} {v : Value} {g : Plain.Gr} (h : GrAt w v g) (hc : Chg [] w w') : GrAt w' v g := by
 obtain ⟨eo, cap, e, h1, h2, h3, h4⟩ := h
 refine ⟨eo, cap, e, h1, h2, h3, fun i hi => ?_⟩
 obtain ⟨b, off, e1, c1, c2⟩ := h4 i hi
 exact ⟨b, off, e1, hc.cell c1 (by simp), hc.cell c2 (by simp)⟩
theorem PtAt.fresh {w w' : World} {v : Value} {p : Plain.Pt} (h : PtAt w v p) (hc : Chg [] w w') : PtAt w' v p := by
 obtain ⟨v1, v2, e, h1, h2⟩ := h
 exact ⟨v1, v2, e, h1.fresh hc, h2.fresh hc⟩
end Go.Proofs.YtpcgklagmcnhaaaGreat
namespace Go.Proofs.YtpcgklagmcnhaaaGreat
structure St where
 all : List Int
 grp : List Nat
def pos (l : List Int) (x : Int) : Option Int := if x ∈ l then some ((l.idxOf x : Nat) : Int) else none
theorem pos_some {l : List Int} {x : Int} (h : x ∈ l) : pos l x = some ((l.idxOf x : Nat) : Int) := if_pos h
theorem pos_none {l : List Int} {x : Int} (h : x ∉ l) : pos l x = none := if_neg h
theorem pos_snoc {l : List Int} {x : Int} (h : x ∉ l) : (fun y => if y = x then some ((l.length : Nat) : Int) else pos l y) = pos (l ++ [x]) := by
 all_goals grind [pos]
def St.put (s : St) (x : Int) : St := if x ∈ s.all then s else ⟨s.all ++ [x], s.grp ++ [s.all.length]⟩
def St.count (s : St) : Nat := (List.range s.grp.length).countP fun i => s.grp.getD i 0 == i
def St.hd (s : St) (i : Nat) : Nat := s.grp.getD i 0
def Up (up grp : List Nat) : Prop := up.length = grp.length ∧ ∀ i, i < up.length → up.getD i 0 ≤ i ∧ grp.getD i 0 = if up.getD i 0 = i then i else grp.getD (up.getD i 0) 0
theorem Up.le {up grp : List Nat} (h : Up up grp) : ∀ i, i < up.length → grp.getD i 0 ≤ i ∧ up.getD (grp.getD i 0) 0 = grp.getD i 0 := by
 intro i
 induction i using Nat.strongRecOn with
 | _ i ih =>
  intro hi
  obtain ⟨h1, h2⟩ := h.2 i hi
  all_goals grind
theorem Up.fix {up grp : List Nat} (h : Up up grp) {i : Nat} (hi : i < up.length) (e : up.getD i 0 = i) : grp.getD i 0 = i := by
 have := (h.2 i hi).2
 grind
theorem Up.own {up grp : List Nat} (h : Up up grp) {i : Nat} (hi : i < up.length) : grp.getD (grp.getD i 0) 0 = grp.getD i 0 := by
 grind [Up.le, Up.fix]
theorem Up.next {up grp : List Nat} (h : Up up grp) {i : Nat} (hi : i < up.length) : grp.getD (up.getD i 0) 0 = grp.getD i 0 := by
 have := (h.2 i hi).2
 all_goals grind
theorem getD_set (l : List Nat) (i v j : Nat) (hi : i < l.length) : (l.set i v).getD j 0 = if j = i then v else l.getD j 0 := by
 all_goals grind
theorem Up.halve {up grp : List Nat} (h : Up up grp) {i : Nat} (hi : i < up.length) (e : up.getD i 0 ≠ i) : Up (up.set i (up.getD (up.getD i 0) 0)) grp := by
 have h1 := (h.2 i hi).1
 have h2 := (h.2 (up.getD i 0) (by omega)).1
 refine ⟨by simpa using h.1, fun j hj => ?_⟩
 rw [getD_set _ _ _ _ hi]
 by_cases ej : j = i
 ·subst ej
  simp only [if_true]
  rw [if_neg (by omega), h.next (by omega), h.next hi]
  grind
 rw [if_neg ej]
 exact h.2 j (by grind)
theorem Up.put {up grp : List Nat} (h : Up up grp) : Up (up ++ [up.length]) (grp ++ [grp.length]) := by
 refine ⟨by simp [h.1], fun i hi => ?_⟩
 by_cases e : i = up.length
 ·subst e
  simp [h.1]
 have hi' : i < up.length := by simp at hi; omega
 have h1 := h.2 i hi'
 have e1 : (up ++ [up.length]).getD i 0 = up.getD i 0 := by simp only [List.getD]; rw [List.getElem?_append_left hi']
 have e2 : (grp ++ [grp.length]).getD i 0 = grp.getD i 0 := by have := h.1; simp only [List.getD]; rw [List.getElem?_append_left (by omega)]
 have e3 : (grp ++ [grp.length]).getD (up.getD i 0) 0 = grp.getD (up.getD i 0) 0 := by have := h.1; simp only [List.getD]; rw [List.getElem?_append_left (by simpa [List.getD] using (by omega : up.getD i 0 < grp.length))]
 grind
def relabel (grp : List Nat) (i j : Nat) : List Nat := grp.map fun g => if g = max i j then min i j else g
theorem getD_map (grp : List Nat) (f : Nat → Nat) (i : Nat) (hi : i < grp.length) : (grp.map f).getD i 0 = f (grp.getD i 0) := by grind
theorem Up.join {up grp : List Nat} (h : Up up grp) {i j : Nat} (hi : i < up.length) (hj : j < up.length) (ei : up.getD i 0 = i) (ej : up.getD j 0 = j) (ne : i ≠ j) : Up (up.set (max i j) (min i j)) (relabel grp i j) := by
 have hl := h.1
 have hm : max i j < up.length := by omega
 refine ⟨by grind [relabel], fun k hk => ?_⟩
 have hk' : k < up.length := by simpa using hk
 obtain ⟨h1, h2⟩ := h.2 k hk'
 unfold relabel
 rw [getD_set _ _ _ _ hm, getD_map _ _ _ (by omega)]
 have gi := h.fix hi ei
 have gj := h.fix hj ej
 by_cases e : k = max i j
 all_goals grind
def St.join (s : St) (x y : Int) : St :=
 let t := (s.put x).put y
 ⟨t.all, relabel t.grp (t.hd (t.all.idxOf x)) (t.hd (t.all.idxOf y))⟩
def St.same (s : St) (x y : Int) : Bool := decide (x ∈ s.all) && decide (y ∈ s.all) && s.hd (s.all.idxOf x) == s.hd (s.all.idxOf y)
theorem relabel_self (grp : List Nat) (i : Nat) : relabel grp i i = grp := by
 unfold relabel
 rw [List.map_congr_left (g := id)]
 ·simp
 all_goals grind
theorem St.put_in {s : St} {x : Int} (h : x ∈ s.all) : s.put x = s := if_pos h
theorem St.put_new {s : St} {x : Int} (h : x ∉ s.all) : s.put x = ⟨s.all ++ [x], s.grp ++ [s.all.length]⟩ := if_neg h
theorem St.count_put {s : St} {x : Int} (h : x ∉ s.all) (hl : s.all.length = s.grp.length) : (s.put x).count = s.count + 1 := by
 rw [St.put_new h]
 unfold St.count
 simp only [List.length_append, List.length_cons, List.length_nil, Nat.zero_add]
 rw [List.range_succ, List.countP_append]
 congr 1
 ·refine List.countP_congr (fun i hi => ?_)
  grind
 simp [hl]
theorem St.count_le (s : St) : s.count ≤ s.grp.length := by
 unfold St.count
 have := List.countP_le_length (p := fun i => s.grp.getD i 0 == i) (l := List.range s.grp.length)
 grind
theorem countP_less (p q : Nat → Bool) (m : Nat) (hp : p m = true) (hq : q m = false) (h : ∀ k, k ≠ m → p k = q k) : ∀ n, m < n → (List.range n).countP p = (List.range n).countP q + 1
 | 0, hm => by omega
 | n + 1, hm => by
  rw [List.range_succ, List.countP_append, List.countP_append]
  by_cases e : m = n
  ·subst e
   have : (List.range m).countP p = (List.range m).countP q := List.countP_congr (fun k hk => by rw [h k (by have := List.mem_range.1 hk; omega)])
   simp [this, hp, hq]
  have ih := countP_less p q m hp hq h n (by omega)
  have : p n = q n := h n (Ne.symm e)
  simp only [List.countP_singleton, this, ih]
  omega
theorem St.count_relabel {all : List Int} {grp : List Nat} {i j : Nat} (hi : i < grp.length) (hj : j < grp.length) (ei : grp.getD i 0 = i) (ej : grp.getD j 0 = j) (ne : i ≠ j) :
  St.count ⟨all, grp⟩ = St.count ⟨all, relabel grp i j⟩ + 1 := by
 have gm : grp.getD (max i j) 0 = max i j := by
  all_goals grind
 have gn : grp.getD (min i j) 0 = min i j := by
  all_goals grind
 unfold St.count
 simp only [show (relabel grp i j).length = grp.length by simp [relabel]]
 refine countP_less _ _ (max i j) (by grind) ?_ ?_ _ (by omega)
 all_goals grind [relabel, getD_map]
def St.joins (s : St) (x y : Int) : Bool :=
 let t := (s.put x).put y
 t.hd (t.all.idxOf x) != t.hd (t.all.idxOf y)
theorem St.mem_put (s : St) (x : Int) : x ∈ (s.put x).all := by
 by_cases h : x ∈ s.all
 all_goals grind [St.put_in, St.put_new]
theorem St.mem_put_of {s : St} {x : Int} (y : Int) (h : x ∈ s.all) : x ∈ (s.put y).all := by
 by_cases hy : y ∈ s.all
 all_goals grind [St.put_in, St.put_new]
theorem St.idx_put_of {s : St} {x : Int} (y : Int) (h : x ∈ s.all) : (s.put y).all.idxOf x = s.all.idxOf x := by
 by_cases hy : y ∈ s.all
 all_goals grind [St.put_in, St.put_new]
theorem St.len_put (s : St) (x : Int) : s.all.length ≤ (s.put x).all.length ∧ (s.put x).all.length ≤ s.all.length + 1 := by
 by_cases h : x ∈ s.all
 all_goals grind [St.put_in, St.put_new]
theorem St.joins_eq (s : St) (x y : Int) : s.joins x y = (((s.put x).put y).hd ((s.put x).all.idxOf x) != ((s.put x).put y).hd (((s.put x).put y).all.idxOf y)) := by
 grind [St.joins, St.idx_put_of, St.mem_put]
theorem St.join_eq (s : St) (x y : Int) : s.join x y = ⟨((s.put x).put y).all, relabel ((s.put x).put y).grp (((s.put x).put y).hd ((s.put x).all.idxOf x)) (((s.put x).put y).hd (((s.put x).put y).all.idxOf y))⟩ := by
 grind [St.join, St.idx_put_of, St.mem_put]
structure St.Ok (s : St) : Prop where
 len : s.all.length = s.grp.length
 nodup : s.all.Nodup
 le : ∀ i, i < s.grp.length → s.hd i ≤ i
 own : ∀ i, i < s.grp.length → s.hd (s.hd i) = s.hd i
def St.heads (s : St) (k : Nat) : List Nat := (List.range k).filter fun i => s.hd i == i
def St.row (s : St) (k h : Nat) : List Int := ((List.range k).filter fun i => s.hd i == h).map fun i => s.all.getD i 0
def St.gr (s : St) (k : Nat) : List (List Int) := (s.heads k).map (s.row k)
def St.groups (s : St) : List (List Int) := s.gr s.all.length
theorem St.heads_succ (s : St) (k : Nat) : s.heads (k + 1) = if s.hd k = k then s.heads k ++ [k] else s.heads k := by
 unfold St.heads
 rw [List.range_succ, List.filter_append]
 grind
theorem St.row_succ (s : St) (k h : Nat) : s.row (k + 1) h = if s.hd k = h then s.row k h ++ [s.all.getD k 0] else s.row k h := by
 unfold St.row
 rw [List.range_succ, List.filter_append]
 grind
theorem St.mem_heads {s : St} {k h : Nat} : h ∈ s.heads k ↔ h < k ∧ s.hd h = h := by simp [St.heads]
theorem St.heads_nodup (s : St) (k : Nat) : (s.heads k).Nodup := List.Pairwise.filter _ List.nodup_range
def St.mid (s : St) (k : Nat) : List (List Int) := if s.hd k = k then s.gr k ++ [[]] else s.gr k
def St.rank (s : St) (k : Nat) : Nat := (s.heads (k + 1)).idxOf (s.hd k)
theorem St.rank_lt {s : St} (hs : s.Ok) {k : Nat} (hk : k < s.grp.length) : s.rank k < (s.heads (k + 1)).length :=
 List.idxOf_lt_length_iff.2 (St.mem_heads.2 ⟨by have := hs.le k hk; omega, hs.own k hk⟩)
theorem St.mid_length (s : St) (k : Nat) : (s.mid k).length = (s.heads (k + 1)).length := by
 grind [St.mid, St.heads_succ, St.hd, St.gr]
theorem St.row_none {s : St} (hs : s.Ok) {k : Nat} (hk : k < s.grp.length) : s.row k k = [] := by
 unfold St.row
 rw [List.map_eq_nil_iff, List.filter_eq_nil_iff]
 intro i hi
 have hi' : i < k := List.mem_range.1 hi
 have := hs.le i (by omega)
 simp; omega
theorem St.gr_succ {s : St} (hs : s.Ok) {k : Nat} (hk : k < s.grp.length) : s.gr (k + 1) = (s.mid k).set (s.rank k) ((s.mid k).getD (s.rank k) [] ++ [s.all.getD k 0]) := by
 have hr := St.rank_lt hs hk
 have hmid : s.mid k = (s.heads (k + 1)).map (s.row k) := by
  all_goals grind [St.mid, St.gr, St.heads_succ, St.hd, St.row_none]
 have hnd := s.heads_nodup (k + 1)
 have hget : (s.heads (k + 1))[s.rank k]'hr = s.hd k := List.getElem_idxOf hr
 unfold St.gr
 rw [hmid]
 apply List.ext_getElem
 ·simp
 intro i h1 h2
 simp only [List.length_map] at h1
 rw [List.getElem_map, s.row_succ]
 by_cases e : i = s.rank k
 ·subst e
  rw [List.getElem_set_self, if_pos hget.symm, hget]
  simp [List.getD, hr, hget]
 rw [List.getElem_set_ne (Ne.symm e), List.getElem_map, if_neg]
 intro e1
 apply e
 have : (s.heads (k + 1))[i] = (s.heads (k + 1))[s.rank k]'hr := by rw [hget]; exact e1.symm
 exact (List.getElem_inj hnd).1 this
theorem St.idx_heads {s : St} {k h : Nat} (hh : h < k) (e : s.hd h = h) : (s.heads (k + 1)).idxOf h = (s.heads k).idxOf h := by
 all_goals grind [St.heads_succ, St.hd, St.mem_heads]
theorem St.idx_new {s : St} {k : Nat} (e : s.hd k = k) : (s.heads (k + 1)).idxOf k = (s.heads k).length := by
 grind [St.heads_succ, St.mem_heads]
theorem St.heads_le (s : St) (k : Nat) : (s.heads k).length ≤ k := by
 grind [St.hd, St.heads]
theorem St.row_le (s : St) (k h : Nat) : (s.row k h).length ≤ k := by
 grind [St.hd, St.row]
theorem St.gr_len (s : St) (k q : Nat) : ((s.gr k).getD q []).length ≤ k := by
 grind [St.gr, St.row_le]
theorem St.mid_len (s : St) (k q : Nat) : ((s.mid k).getD q []).length ≤ k := by
 unfold St.mid
 by_cases h : s.hd k = k
 ·rw [if_pos h]
  have := s.gr_len k q
  all_goals grind
 all_goals grind [St.gr_len]
end Go.Proofs.YtpcgklagmcnhaaaGreat
