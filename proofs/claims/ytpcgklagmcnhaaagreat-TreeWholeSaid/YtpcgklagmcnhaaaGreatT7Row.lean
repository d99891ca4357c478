/- Rows of ints of a call's own: appends, stores, literals; lists of lists; calls inside drawn regions. Conditions: what each law says. -/
import Derived.Test.YtpcgklagmcnhaaaGreatT7Rows2
import Derived.Test.YtpcgklagmcnhaaaGreatT7Lin
import Derived.Laws.OwnMore
import Derived.Maps.OwnRows
import Derived.Maps.GroupsBeside
namespace Go.Proofs.YtpcgklagmcnhaaaGreat
open Go.RowKit Go.Maps
theorem run_spread {t e : TypeId} {z : Value} {size bytes : Nat} (E : Elem t e z size bytes) {w : World} {B B' : Nat} {v u : Value} {n m : Nat} {xs ys : List Value} (hown : w.ownsRow B e size v n xs) (hsrc : w.ownsRow B' e size u m ys) (hB : B ≤ w.heap.size)
  (h1 : ∀ y ∈ ys, y.oneCell' = true) (hn : n + m < 68719476736) (ty : TypeId) :
  ∃ v' w', (Builtin.append_ #[t, t] ty #[v, u]).run Tryz.prog w = .ok v' w' ∧ w'.ownsRow B e size v' (n + m) (xs ++ ys) ∧ Chg v.ownBlock.toList w w' ∧ (∀ b ∈ v'.ownBlock.toList, b ∈ v.ownBlock.toList ∨ w.heap.size ≤ b) := by
 obtain ⟨i0, hi, hz0, hz1, hz2⟩ := info_parts E.hi
 have hb := E.hb
 rcases hsrc.2 with ⟨rfl, rfl⟩ | ⟨g, cap, cur, rfl, hg, hh, hnc, hcm, hcs, hys⟩
 ·have hy : ys = [] := List.length_eq_zero_iff.1 (by rw [hsrc.1]; simp)
  subst hy
  exact ⟨v, w, run_append_owned_none w B t ty e i0 size E.ht hi v n xs hown, by grind, Chg.refl _ _, fun b hb => Or.inl hb⟩
 have hl := hsrc.1
 have hnews : ∀ j y, ys[j]? = some y → w.cell? ((⟨g, 0, none⟩ : Addr).add j) = some y := by
  intro j y hy
  have hadd : (⟨g, 0, none⟩ : Addr).add j = ⟨g, j, none⟩ := by unfold Addr.add; split <;> simp_all
  rw [hadd, cell_of_row w _ j cur e (0, 0) hh]
  all_goals grind
 obtain ⟨v', w', hr, h2, h3, -, h5⟩ := run_append_own_at (P := Tryz.prog) w B t ty e i0 z size bytes E.ht hi hz0 hz1 hz2 E.hz E.h0 v n xs hown ⟨g, 0, none⟩ m cap ys hl hnews h1 (by unfold maxLen; omega) (Nat.le_trans (Nat.mul_le_mul_left _ hb) (by omega)) hB
 refine ⟨v', w', hr, h2, (Chg.refl _ _).grown h3 (fun j hj => Or.inl (by grind)), fun b hb => ?_⟩
 all_goals grind
theorem wp_spread {t e : TypeId} {z : Value} {size bytes : Nat} (E : Elem t e z size bytes) {o : Oper} {a : Act} {K : Act → World → Prop} {Q : Exit → Act → World → Prop} {w : World} (s x : Operand) (ho : o.op = .call { callee := .builtin .append, args := #[s, x], argTypes := #[t, t] })
  {B B' : Nat} {v u : Value} {n m : Nat} {xs ys : List Value} (hs : a.eval s = v) (hx : a.eval x = u) (hown : w.ownsRow B e size v n xs) (hsrc : w.ownsRow B' e size u m ys) (hB : B ≤ w.heap.size)
  (h1 : ∀ y ∈ ys, y.oneCell' = true) (hn : n + m < 68719476736)
  (hK : ∀ v' w', w'.ownsRow B e size v' (n + m) (xs ++ ys) → Chg v.ownBlock.toList w w' → (∀ b ∈ v'.ownBlock.toList, b ∈ v.ownBlock.toList ∨ w.heap.size ≤ b) → K (a.put o.dst v') w') : o.wp Tryz.prog a w K Q := by
 obtain ⟨v', w', hr, r1, r2, r3⟩ := run_spread E hown hsrc hB h1 hn o.type
 unfold Oper.wp execOp
 simp only [ho, resolve, invoke, builtin, Sem.run_bind, Sem.run_pure, Result.andThen_ok, List.map_toArray, List.map_cons, List.map_nil, hs, hx, hr]
 exact hK v' w' r1 r2 r3
def RowAt (w : World) (B : Nat) (v : Value) (l : List Int) : Prop := w.ownsRow B 3 1 v l.length (ints l) ∧ (∀ x ∈ l, I64 x) ∧ l.length < 4294967296
theorem RowAt.ints {w : World} {B : Nat} {v : Value} {l : List Int} (h : RowAt w B v l) : IntsAt w v l := by
 obtain ⟨h, h1, h2⟩ := h
 rcases h.2 with ⟨rfl, h0⟩ | ⟨g, cap, cur, rfl, hg, hh, hnc, hcm, hcs, hys⟩
 ·have : l = [] := List.length_eq_zero_iff.1 h0
  subst this
  exact IntsAt.nil _
 refine ⟨_, cap, rfl, h1, by omega, fun _ => ⟨g, 0, rfl, fun i hi => ?_⟩⟩
 rw [Nat.zero_add, cell_of_row w _ i cur 3 (0, 0) hh]
 have : cur.toList[i]? = some (.int .i64 (l.getD i 0)) := by
  have q : (Go.Proofs.YtpcgklagmcnhaaaGreat.ints l)[i]? = some (.int .i64 (l.getD i 0)) := by simp [Go.Proofs.YtpcgklagmcnhaaaGreat.ints, List.getD, hi]
  rw [← hys, List.getElem?_take, if_pos (by omega)] at q
  exact q
 simpa using this
theorem RowAt.chg {w w' : World} {B : Nat} {v : Value} {l : List Int} {own : List Nat} (h : RowAt w B v l) (hc : Chg own w w') (hn : ∀ b ∈ v.ownBlock.toList, b ∉ own) : RowAt w' B v l :=
 ⟨owns_chg h.1 hc (fun b hb => hn b (by rw [hb]; simp)), h.2⟩
theorem RowAt.low {w : World} {B : Nat} {v : Value} {l : List Int} (h : RowAt w B v l) : ∀ b ∈ v.ownBlock.toList, B ≤ b ∧ b < w.heap.size := fun b hb => h.1.lt b (by simpa using hb)
theorem foot_slice (ao : Option Addr) (n c : Nat) : foot (.slice ao n c) = (Value.slice ao n c).ownBlock.toList := rfl
theorem RowAt.shape {w : World} {B : Nat} {v : Value} {l : List Int} (h : RowAt w B v l) : ∃ ao c, v = .slice ao l.length c := owns_shape h.1
theorem RowAt.foot {w : World} {B : Nat} {v : Value} {l : List Int} (h : RowAt w B v l) : foot v = v.ownBlock.toList := by
 obtain ⟨ao, c, rfl⟩ := h.shape
 rfl
theorem ints_ones {l : List Int} : ∀ y ∈ ints l, y.oneCell' = true := by
 intro y hy
 simp only [ints, List.mem_map] at hy
 obtain ⟨x, -, rfl⟩ := hy
 rfl
theorem wp_cat {o : Oper} {a : Act} {K : Act → World → Prop} {Q : Exit → Act → World → Prop} {w : World} (s x : Operand) (ho : o.op = .call { callee := .builtin .append, args := #[s, x], argTypes := #[31, 31] })
  {B B' : Nat} {v u : Value} {l m : List Int} (hs : a.eval s = v) (hx : a.eval x = u) (h1 : RowAt w B v l) (h2 : RowAt w B' u m) (hB : B ≤ w.heap.size) (hn : l.length + m.length < 4294967296)
  (hK : ∀ v' w', RowAt w' B v' (l ++ m) → Chg (foot v) w w' → (∀ b ∈ foot v', b ∈ foot v ∨ w.heap.size ≤ b) → K (a.put o.dst v') w') : o.wp Tryz.prog a w K Q :=
 wp_spread elemInt s x ho hs hx h1.1 h2.1 hB ints_ones (by omega) fun v' w' r1 r2 r3 => by
  have hr : RowAt w' B v' (l ++ m) := ⟨by rw [List.length_append]; simpa [ints] using r1, fun y hy => (List.mem_append.1 hy).elim (h1.2.1 y) (h2.2.1 y), by rw [List.length_append]; exact hn⟩
  exact hK v' w' hr (by rw [h1.foot]; exact r2) (fun b hb => by rw [h1.foot]; exact r3 b (by rw [← hr.foot]; exact hb))
theorem RowAt.base {w : World} {B B' : Nat} {v : Value} {l : List Int} (h : RowAt w B' v l) (hB : B ≤ B') : RowAt w B v l := by
 obtain ⟨⟨h0, h1⟩, h2⟩ := h
 refine ⟨⟨h0, h1.imp id ?_⟩, h2⟩
 rintro ⟨g, cap, cur, e, q, r⟩
 exact ⟨g, cap, cur, e, by omega, r⟩
section
variable {ops : Array Oper} {Q : Exit → Act → World → Prop} {fr : (Nat → Value) → Act} {z : Nat} {fin : List Nat} {w1 : World} {i : Nat} {rest : List (Oper × Info)} {L : List (Value → World → Prop)} {o : Oper} {d : Info}
end
theorem RowAt.some {w : World} {B : Nat} {ao : Option Addr} {n c : Nat} {l : List Int} (h : RowAt w B (.slice ao n c) l) (hl : 0 < l.length) : ∃ g, ao = some ⟨g, 0, none⟩ ∧ ∀ i, i < l.length → w.cell? ⟨g, i, none⟩ = .some (.int .i64 (l.getD i 0)) := by
 rcases h.1.2 with ⟨e, h0⟩ | ⟨g, cap, cur, e, -, hh, -⟩
 ·omega
 obtain ⟨ao', c', e1, h1, h2, h3⟩ := h.ints
 obtain ⟨b, off, rfl, h4⟩ := h3 (by intro q; rw [q] at hl; simp at hl)
 simp only [Value.slice.injEq] at e e1
 obtain ⟨rfl, -, -⟩ := e
 obtain ⟨e2, -, -⟩ := e1
 simp only [Option.some.injEq, Addr.mk.injEq] at e2
 obtain ⟨rfl, rfl, -⟩ := e2
 exact ⟨_, rfl, fun i hi => by simpa using h4 i hi⟩
theorem wl_cat {ops : Array Oper} {rest : List Oper} {o : Oper} {a : Act} {Q : Exit → Act → World → Prop} {w : World} (hg : o.guard = none) (s x : Operand) (ho : o.op = .call { callee := .builtin .append, args := #[s, x], argTypes := #[31, 31] })
  {B B' : Nat} {v u : Value} {l m : List Int} (hs : a.eval s = v) (hx : a.eval x = u) (h1 : RowAt w B v l) (h2 : RowAt w B' u m) (hB : B ≤ w.heap.size) (hn : l.length + m.length < 4294967296)
  (hK : ∀ v' w', RowAt w' B v' (l ++ m) → Chg (foot v) w w' → (∀ b ∈ foot v', b ∈ foot v ∨ w.heap.size ≤ b) → wpList Tryz.prog ops Q rest (a.put o.dst v') w') : wpList Tryz.prog ops Q (o :: rest) a w :=
 wpList_plain hg fun _ hK' => wp_cat s x ho hs hx h1 h2 hB hn fun v' w' r1 r2 r3 => hK' _ _ (hK v' w' r1 r2 r3)
theorem RowAt.set {w : World} {B g n c : Nat} {l : List Int} (h : RowAt w B (.slice (.some ⟨g, 0, none⟩) n c) l) (i : Nat) (x : Int) (hx : I64 x) : RowAt (w.setCell ⟨g, i, none⟩ (.int .i64 x)) B (.slice (.some ⟨g, 0, none⟩) n c) (l.set i x) := by
 obtain ⟨ao, c', e⟩ := h.shape
 simp only [Value.slice.injEq] at e
 obtain ⟨-, rfl, -⟩ := e
 refine ⟨?_, fun y hy => ?_, by rw [List.length_set]; exact h.2.2⟩
 ·have := (h.1.stored i (.int .i64 x)).1
  rw [List.length_set, _root_.Go.Proofs.YtpcgklagmcnhaaaGreat.ints, List.map_set]
  exact this
 rcases List.mem_or_eq_of_mem_set hy with q | q
 ·exact h.2.1 y q
 all_goals grind
theorem RowAt.free {w : World} {B g n c : Nat} {l : List Int} (h : RowAt w B (.slice (.some ⟨g, 0, none⟩) n c) l) (hl : 0 < l.length) (i : Nat) : w.frozen? ⟨g, i, none⟩ = false := by
 rcases h.1.2 with ⟨e, h0⟩ | ⟨g', cap, cur, e, -, hh, -⟩
 ·omega
 simp only [Value.slice.injEq, Option.some.injEq, Addr.mk.injEq] at e
 obtain ⟨⟨rfl, -⟩, -⟩ := e
 simp [World.frozen?, hh]
theorem owns_base {w : World} {B B' : Nat} {e : TypeId} {size : Nat} {v : Value} {n : Nat} {xs : List Value} (h : w.ownsRow B' e size v n xs) (hB : B ≤ B') : w.ownsRow B e size v n xs := by
 obtain ⟨h0, h1⟩ := h
 refine ⟨h0, h1.imp id ?_⟩
 rintro ⟨g, cap, cur, e, q, r⟩
 exact ⟨g, cap, cur, e, by omega, r⟩
theorem RowsOwn.base {w : World} {B B' : Nat} {ov : Value} {vs : List Value} {ll : List (List Int)} (h : RowsOwn w B' ov vs ll) (hB : B ≤ B') : RowsOwn w B ov vs ll :=
 ⟨owns_base h.out hB, h.len, fun k hk => owns_base (h.rows k hk) hB, h.apart⟩
theorem run_app_read {w : World} {B : Nat} {v u : Value} {l m : List Int} (h1 : RowAt w B v l) (h2 : IntsAt w u m) (hB : B ≤ w.heap.size) (hn : l.length + m.length < 4294967296) (ty : TypeId) :
  ∃ v' w', (Builtin.append_ #[31, 31] ty #[v, u]).run Tryz.prog w = .ok v' w' ∧ RowAt w' B v' (l ++ m) ∧ Chg (foot v) w w' ∧ (∀ b ∈ foot v', b ∈ foot v ∨ w.heap.size ≤ b) := by
 obtain ⟨i0, hi, hz0, hz1, hz2⟩ := info_parts elemInt.hi
 have hb := elemInt.hb
 obtain ⟨ao, cap, rfl, hsm, hml, hc⟩ := h2
 have fin : ∀ (ad : Addr), ao = some ad → (∀ j y, (ints m)[j]? = some y → w.cell? (ad.add j) = some y) → ∃ v' w', (Builtin.append_ #[31, 31] ty #[v, .slice ao m.length cap]).run Tryz.prog w = .ok v' w' ∧ RowAt w' B v' (l ++ m) ∧ Chg (foot v) w w' ∧ (∀ b ∈ foot v', b ∈ foot v ∨ w.heap.size ≤ b) := by
  rintro ad rfl hnews
  obtain ⟨v', w', hr, r2, r3, -, r5⟩ := run_append_own_at (P := Tryz.prog) w B 31 ty 3 i0 (.int .i64 0) 1 8 elemInt.ht hi hz0 hz1 hz2 elemInt.hz elemInt.h0 v l.length (ints l) h1.1 ad m.length cap (ints m) (by simp [ints]) hnews ints_ones (by unfold maxLen; omega) (Nat.le_trans (Nat.mul_le_mul_left _ (Nat.le_refl _)) (by omega)) hB
  have hrow : RowAt w' B v' (l ++ m) := ⟨by grind [ints], fun y hy => (List.mem_append.1 hy).elim (h1.2.1 y) (hsm y), by grind⟩
  refine ⟨v', w', hr, hrow, (Chg.refl _ _).grown r3 (fun j hj => Or.inl (by rw [h1.foot, hj]; simp)), fun b hb => ?_⟩
  rw [hrow.foot] at hb
  rw [h1.foot]
  all_goals grind
 cases ao with
 | none =>
  have hm0 : m = [] := by
   grind
  subst hm0
  refine ⟨v, w, ?_, by grind, Chg.refl _ _, fun b hb => Or.inl hb⟩
  rcases h1.1.2 with ⟨rfl, _⟩ | ⟨g, cap2, cur, rfl, _, _, hnc, _⟩
  ·simp [Builtin.append_, run_underlying elemInt.ht, sizeOf, typeInfo, hi, Builtin.lenOf, Builtin.firstCells]
  simp [Builtin.append_, run_underlying elemInt.ht, sizeOf, typeInfo, hi, Builtin.lenOf, Builtin.firstCells, hnc, storeCells]
 | some ad =>
  by_cases hm0 : m = []
  ·grind [ints]
  obtain ⟨b, off, e, hcc⟩ := hc hm0
  cases e
  refine fin ⟨b, off, none⟩ rfl fun j y hy => ?_
  have hadd : (⟨b, off, none⟩ : Addr).add j = ⟨b, off + j, none⟩ := by unfold Addr.add; split <;> simp_all
  grind [ints]
theorem wl_app_read {ops : Array Oper} {rest : List Oper} {o : Oper} {a : Act} {Q : Exit → Act → World → Prop} {w : World} (hg : o.guard = none) (s x : Operand) (ho : o.op = .call { callee := .builtin .append, args := #[s, x], argTypes := #[31, 31] })
  {B : Nat} {v u : Value} {l m : List Int} (hs : a.eval s = v) (hx : a.eval x = u) (h1 : RowAt w B v l) (h2 : IntsAt w u m) (hB : B ≤ w.heap.size) (hn : l.length + m.length < 4294967296)
  (hK : ∀ v' w', RowAt w' B v' (l ++ m) → Chg (foot v) w w' → (∀ b ∈ foot v', b ∈ foot v ∨ w.heap.size ≤ b) → wpList Tryz.prog ops Q rest (a.put o.dst v') w') : wpList Tryz.prog ops Q (o :: rest) a w := by
 refine wpList_plain hg fun K hK' => ?_
 obtain ⟨v', w', hr, r1, r2, r3⟩ := run_app_read h1 h2 hB hn o.type
 unfold Oper.wp execOp
 simp only [ho, resolve, invoke, builtin, Sem.run_bind, Sem.run_pure, Result.andThen_ok, List.map_toArray, List.map_cons, List.map_nil, hs, hx, hr]
 exact hK' _ _ (hK v' w' r1 r2 r3)
theorem wp_app_readK {o : Oper} {a : Act} {K : Act → World → Prop} {Q : Exit → Act → World → Prop} {w : World} (s x : Operand) (ho : o.op = .call { callee := .builtin .append, args := #[s, x], argTypes := #[31, 31] })
  {B : Nat} {v u : Value} {l m : List Int} (hs : a.eval s = v) (hx : a.eval x = u) (h1 : RowAt w B v l) (h2 : IntsAt w u m) (hB : B ≤ w.heap.size) (hn : l.length + m.length < 4294967296)
  (hK : ∀ v' w', RowAt w' B v' (l ++ m) → Chg (foot v) w w' → (∀ b ∈ foot v', b ∈ foot v ∨ w.heap.size ≤ b) → K (a.put o.dst v') w') : o.wp Tryz.prog a w K Q := by
 obtain ⟨v', w', hr, r1, r2, r3⟩ := run_app_read h1 h2 hB hn o.type
 unfold Oper.wp execOp
 simp only [ho, resolve, invoke, builtin, Sem.run_bind, Sem.run_pure, Result.andThen_ok, List.map_toArray, List.map_cons, List.map_nil, hs, hx, hr]
 exact hK v' w' r1 r2 r3
theorem row_kind {w : World} {B : Nat} {v : Value} {l : List Int} (h : RowAt w B v l) : ∀ j ∈ foot v, ∃ cs r, w.heap[j]? = some (.cells cs 3 r) := by
 intro j hj
 rw [h.foot] at hj
 rcases h.1.2 with ⟨rfl, _⟩ | ⟨g, c, cur, rfl, hb, hh, _⟩
 ·simp [Value.ownBlock] at hj
 simp [Value.ownBlock] at hj
 grind
namespace Plain
def lst (l : List Int) : Nat → Nat
 | 0 => 0
 | k + 1 => if l.getD k 0 < l.getD (lst l k) 0 then k else lst l k
def first (l : List Int) : List Int := l.drop (lst l l.length) ++ l.take (lst l l.length)
end Plain
theorem dart_even (g : Plain.Gr) (e : Nat) : g.tail ((2 * e : Nat) : Int) = (g.ends e).1 ∧ g.head ((2 * e : Nat) : Int) = (g.ends e).2 := by
 grind [Plain.Gr.tail, Plain.Gr.head, Plain.Gr.at]
theorem dart_odd (g : Plain.Gr) (e : Nat) : g.tail ((2 * e + 1 : Nat) : Int) = (g.ends e).2 ∧ g.head ((2 * e + 1 : Nat) : Int) = (g.ends e).1 := by
 grind [Plain.Gr.tail, Plain.Gr.head, Plain.Gr.at]
theorem quo_even (e : Nat) : Int.tmod ((2 * e : Nat) : Int) 2 = 0 ∧ Int.tdiv ((2 * e : Nat) : Int) 2 = (e : Int) := by
 grind
theorem quo_odd (e : Nat) : Int.tmod ((2 * e + 1 : Nat) : Int) 2 = 1 ∧ Int.tdiv ((2 * e + 1 : Nat) : Int) 2 = (e : Int) := by
 grind
theorem take_snoc_mem {l : List Int} {x : Int} {k : Nat} (hk : k < l.length) : x ∈ l.take (k + 1) ↔ x ∈ l.take k ∨ l.getD k 0 = x := by
 rw [List.take_succ_eq_append_getElem hk]
 grind
theorem in_any (v : Value) (l : List Int) (x : Int) (w : World) (h : IntsAt w v l) :
  Calls Tryz.prog 16 #[v, .int .i64 x] w fun e w' => e = .returned (.bool (decide (x ∈ l))) ∧ Chg [] w w' := by
 obtain ⟨ao, cap, rfl, hsm, hm, hcell⟩ := h
 have HCE := Lib.hid hcell
 clear hsm hcell
 go_enter Tryz.func16, Tryz.ntmps16
 go_wp2
 go_loopw [5] (fun c wr => ∃ k : Nat, k ≤ l.length ∧ c = .int .i64 k ∧ Chg [] w wr ∧ Hid (x ∉ l.take k)) (fun c _ => l.length - (intOf c).toNat)
 case atStart => exact ⟨0, Nat.zero_le _, rfl, Chg.refl _ _, Lib.hid (by simp)⟩
 case round =>
  obtain ⟨k, hk, rfl, hc, hall⟩ := hrel
  have HC := Lib.hid hc
  by_cases hlt : k < l.length
  ·obtain ⟨b, off, rfl, hfc⟩ := HCE.out (by grind)
   have c0 := hc.cell (hfc k hlt) (by simp)
   have HS := Lib.hid (take_snoc_mem (x := x) hlt)
   have HIN := Lib.hid (fun (e : l.getD k 0 = x) => (show x ∈ l from List.mem_of_mem_take ((take_snoc_mem (x := x) hlt).2 (Or.inr e))))
   clear hfc hc
   generalize l.getD k 0 = z at *
   by_cases h1 : z = x
   ·have HE := Lib.hid (decide_eq_true (HIN.out h1))
    subst h1
    go_wp2
    go_ret
    exact ⟨ret_bool HE.out.symm, HC.out⟩
   have h2 : (z == x) = false := by rw [beq_eq_false_iff_ne]; exact h1
   go_wp2
   go_roundw
   case rel => exact ⟨k + 1, by omega, by go_num, HC.out, Lib.hid (fun q => (HS.out.1 q).elim hall.out h1)⟩
   case measure => simp [intOf]; omega
  have e : k = l.length := by omega
  subst e
  have HE := Lib.hid (decide_eq_false (by have := hall.out; rwa [List.take_length] at this))
  go_wp2
  go_ret
  exact ⟨ret_bool HE.out.symm, HC.out⟩
end Go.Proofs.YtpcgklagmcnhaaaGreat
namespace Go.Proofs.YtpcgklagmcnhaaaGreat
open Go.RowKit Go.Maps Go.ChangeShapes
def SMap (w : World) (b n : Nat) (f : Int → List Int) : Prop :=
 ∃ D : DataW Unit, w.ownsGroups Tryz.prog 3 (b + 1) 3 .i64 b n D ∧
  ∀ x, I64 x → (f x = [] ∧ D.atKey (.int .i64 x) .nil = .nil) ∨ D.atKey (.int .i64 x) .nil = .slice (lits .i64 (f x)) []
theorem zeroRow (w : World) : (zeroValue 31).run Tryz.prog w = .ok (.slice none 0 0) w := by kernel_rfl
theorem SMap.made (w : World) : SMap (w.alloc (.map #[] 0)) w.heap.size 0 (fun _ => []) :=
 ⟨.map [], World.ownsGroups_made _ _ _ _ _, fun _ _ => Or.inl ⟨rfl, rfl⟩⟩
theorem SMap.lt {w : World} {b n : Nat} {f : Int → List Int} (h : SMap w b n f) : b < w.heap.size := by
 obtain ⟨D, ⟨es, clock, hb, -⟩, -⟩ := h
 grind
theorem lits_inj {a c : List Int} (h : (lits .i64 a : List (DataW Unit)) = lits .i64 c) : a = c := by
 induction a generalizing c with
 | nil => cases c with
  | nil => rfl
  | cons _ _ => simp [lits] at h
 | cons x a ih => cases c with
  | nil => simp [lits] at h
  | cons y c =>
   simp only [lits, List.map_cons, List.cons.injEq] at h
   obtain ⟨h1, h2⟩ := h
   have : x = y := by simpa using h1
   rw [this, ih h2]
theorem SMap.list {w : World} {f : Int → List Int} {D : DataW Unit} {x : Int} {v : Value} {zs : List Int} {base : Nat} (h : (f x = [] ∧ D.atKey (.int .i64 x) .nil = .nil) ∨ D.atKey (.int .i64 x) .nil = .slice (lits .i64 (f x)) []) (hat : D.atKey (.int .i64 x) .nil = rowDatum .i64 v zs) (ho : w.ownsInts base 3 .i64 v zs) : zs = f x := by
 rcases ho.datum (H := Unit) with ⟨e, rfl⟩ | e
 ·rw [e] at hat
  rcases h with ⟨h1, _⟩ | h2
  ·exact h1.symm
  rw [hat] at h2; cases h2
 rw [e] at hat
 rcases h with ⟨_, h2⟩ | h2
 ·rw [hat] at h2; cases h2
 rw [hat] at h2
 simp only [DataW.slice.injEq, and_true] at h2
 exact lits_inj h2
def SBack (w : World) (b n : Nat) (f : Int → List Int) (k : Int) (v : Value) : Prop :=
 ∀ (w1 : World) (v' : Value) (x : Int), RowAt w1 (b + 1) v' (f k ++ [x]) → Chg (foot v) w w1 → (∀ j ∈ foot v', j ∈ foot v ∨ w.heap.size ≤ j) →
  ∃ w2, (Instr.mapUpdate 121 (.map (some b)) (.int .i64 k) v').run Tryz.prog w1 = .ok () w2 ∧ SMap w2 b (n + 1) (fun y => if y = k then f k ++ [x] else f y) ∧ Chg [b] w1 w2
theorem owns_row {w : World} {B : Nat} {v : Value} {l : List Int} (h : w.ownsInts B 3 .i64 v l) (hn : l.length < 4294967296) : RowAt w B v l := ⟨h.1, h.2, hn⟩
theorem row_owns {w : World} {B : Nat} {v : Value} {l : List Int} (h : RowAt w B v l) : w.ownsInts B 3 .i64 v l := ⟨h.1, h.2.1⟩
theorem SMap.look {w : World} {b n : Nat} {f : Int → List Int} (h : SMap w b n f) (hn : n < 4294967296) {k : Int} (hk : I64 k) :
  ∃ v, (Instr.lookup 121 (.map (some b)) (.int .i64 k) false).run Tryz.prog w = .ok v w ∧ RowAt w (b + 1) v (f k) ∧ (f k).length ≤ n ∧ SBack w b n f k v := by
 obtain ⟨D, ho, hD⟩ := h
 have hkey := keyOf_int_mk Tryz.underlying3 hk
 obtain ⟨v, zs, hr, hat, hoi, hzl, hback⟩ := ho.at keyedInt Tryz.underlying121 (zeroRow w) (by unfold maxLen; omega) hkey
 obtain rfl := SMap.list (hD k hk) hat hoi
 refine ⟨v, hr, owns_row hoi (by omega), hzl, fun w1 v' x hrow hc hf => ?_⟩
 have hfo : foot v = v.ownBlock.toList := (owns_row hoi (by omega)).foot
 have hfo' : foot v' = v'.ownBlock.toList := hrow.foot
 have hgr : w.grownBy w1 v.ownBlock := hc.grownBy (fun j hj => by rw [hfo] at hj; exact (show v.ownBlock = some j by grind).symm)
 obtain ⟨g, c, e⟩ := owns_some hrow.1 (by simp)
 have hloc : v'.ownBlock = v.ownBlock ∨ ∃ g, v'.ownBlock = some g ∧ w.heap.size ≤ g := by
  have hb : v'.ownBlock = some g := by rw [e]; rfl
  rcases hf g (by grind) with q | q
  all_goals grind
 obtain ⟨w2, hr2, h2, h3⟩ := hback w1 v' (f k ++ [x]) hgr (row_owns hrow) (by simp; omega) hloc
 refine ⟨w2, hr2, ⟨_, h2, fun y hy => ?_⟩, (Chg.refl _ _).grown h3 (fun j hj => by cases hj; exact Or.inl (by simp))⟩
 have hdat : (rowDatum .i64 v' (f k ++ [x]) : DataW Unit) = .slice (lits .i64 (f k ++ [x])) [] := (row_owns hrow).datum_pos (by simp)
 obtain ⟨es, clock, hbm, F, hs, hDe, -⟩ := ho
 by_cases e1 : y = k
 ·subst e1
  right
  rw [atKey_put_same ⟨_, hDe⟩ (keyedInt.key hkey), hdat]
  simp
 rw [atKey_put_other (litNe e1)]
 grind
section
variable {ops : Array Oper} {rest : List Oper} {o : Oper} {a : Act} {Q : Exit → Act → World → Prop} {w : World}
end
end Go.Proofs.YtpcgklagmcnhaaaGreat
