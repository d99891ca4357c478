/- the document's answer for package sets: what a value of it is in memory; the contract of Add. Conditions: a value that stands in memory; few things. -/
import Derived.Test.YtgepchafbeifeaaRefA
import Derived.Test.YtgepchafbeifeaaRows2
import Derived.Test.YtgepchafbeifeaaLin
import Derived.Laws.OwnMore
import Derived.Maps.AppendAt
namespace Go.Proofs.Ytgepchafbeifeaa
open Go.RowKit Go.Maps

/-- What an append of a whole row leaves. -/
theorem run_spread {t e : TypeId} {z : Value} {size bytes : Nat} (E : Elem t e z size bytes) {w : World} {B B' : Nat} {v u : Value} {n m : Nat} {xs ys : List Value} (hown : w.ownsRow B e size v n xs) (hsrc : w.ownsRow B' e size u m ys) (hB : B ≤ w.heap.size)
    (h1 : ∀ y ∈ ys, y.oneCell' = true) (hn : n + m < 68719476736) (ty : TypeId) :
    ∃ v' w', (Builtin.append_ #[t, t] ty #[v, u]).run Try.prog w = .ok v' w' ∧ w'.ownsRow B e size v' (n + m) (xs ++ ys) ∧ Chg v.ownBlock.toList w w' ∧ (∀ b ∈ v'.ownBlock.toList, b ∈ v.ownBlock.toList ∨ w.heap.size ≤ b) := by
  obtain ⟨i0, hi, hz0, hz1, hz2⟩ := info_parts E.hi
  have hb := E.hb
  rcases hsrc.2 with ⟨rfl, rfl⟩ | ⟨g, cap, cur, rfl, hg, hh, hnc, hcm, hcs, hys⟩
  · have hy : ys = [] := List.length_eq_zero_iff.1 (by rw [hsrc.1]; simp)
    subst hy
    exact ⟨v, w, run_append_owned_none w B t ty e i0 size E.ht hi v n xs hown, by simpa using hown, Chg.refl _ _, fun b hb => Or.inl hb⟩
  · have hl := hsrc.1
    have hnews : ∀ j y, ys[j]? = some y → w.cell? ((⟨g, 0, none⟩ : Addr).add j) = some y := by
      intro j y hy
      have hadd : (⟨g, 0, none⟩ : Addr).add j = ⟨g, j, none⟩ := by unfold Addr.add; split <;> simp_all
      rw [hadd, cell_of_row w _ j cur e (0, 0) hh]
      rw [← hys] at hy
      rw [List.getElem?_take] at hy
      split at hy
      · simpa using hy
      · cases hy
    obtain ⟨v', w', hr, h2, h3, -, h5⟩ := run_append_own_at (P := Try.prog) w B t ty e i0 z size bytes E.ht hi hz0 hz1 hz2 E.hz E.h0 v n xs hown ⟨g, 0, none⟩ m cap ys hl hnews h1 (by unfold maxLen; omega) (Nat.le_trans (Nat.mul_le_mul_left _ hb) (by omega)) hB
    refine ⟨v', w', hr, h2, (Chg.refl _ _).grown h3 (fun j hj => Or.inl (by rw [hj]; simp)), fun b hb => ?_⟩
    rcases h5 with q | q
    · exact Or.inl (by rw [← q]; exact hb)
    · rw [q] at hb
      simp at hb
      exact Or.inr (by omega)

theorem wp_spread {t e : TypeId} {z : Value} {size bytes : Nat} (E : Elem t e z size bytes) {o : Oper} {a : Act} {K : Act → World → Prop} {Q : Exit → Act → World → Prop} {w : World} (s x : Operand) (ho : o.op = .call { callee := .builtin .append, args := #[s, x], argTypes := #[t, t] })
    {B B' : Nat} {v u : Value} {n m : Nat} {xs ys : List Value} (hs : a.eval s = v) (hx : a.eval x = u) (hown : w.ownsRow B e size v n xs) (hsrc : w.ownsRow B' e size u m ys) (hB : B ≤ w.heap.size)
    (h1 : ∀ y ∈ ys, y.oneCell' = true) (hn : n + m < 68719476736)
    (hK : ∀ v' w', w'.ownsRow B e size v' (n + m) (xs ++ ys) → Chg v.ownBlock.toList w w' → (∀ b ∈ v'.ownBlock.toList, b ∈ v.ownBlock.toList ∨ w.heap.size ≤ b) → K (a.put o.dst v') w') : o.wp Try.prog a w K Q := by
  obtain ⟨v', w', hr, r1, r2, r3⟩ := run_spread E hown hsrc hB h1 hn o.type
  unfold Oper.wp execOp
  simp only [ho, resolve, invoke, builtin, Sem.run_bind, Sem.run_pure, Result.andThen_ok, List.map_toArray, List.map_cons, List.map_nil, hs, hx, hr]
  exact hK v' w' r1 r2 r3

/-- A row of ints, whole. -/
def RowAt (w : World) (B : Nat) (v : Value) (l : List Int) : Prop := w.ownsRow B 3 1 v l.length (ints l) ∧ (∀ x ∈ l, I64 x) ∧ l.length < 4294967296

theorem RowAt.ints {w : World} {B : Nat} {v : Value} {l : List Int} (h : RowAt w B v l) : IntsAt w v l := by
  obtain ⟨h, h1, h2⟩ := h
  rcases h.2 with ⟨rfl, h0⟩ | ⟨g, cap, cur, rfl, hg, hh, hnc, hcm, hcs, hys⟩
  · have : l = [] := List.length_eq_zero_iff.1 h0
    subst this
    exact IntsAt.nil _
  · refine ⟨_, cap, rfl, h1, by omega, fun _ => ⟨g, 0, rfl, fun i hi => ?_⟩⟩
    rw [Nat.zero_add, cell_of_row w _ i cur 3 (0, 0) hh]
    have : cur.toList[i]? = some (.int .i64 (l.getD i 0)) := by
      have q : (Go.Proofs.Ytgepchafbeifeaa.ints l)[i]? = some (.int .i64 (l.getD i 0)) := by simp [Go.Proofs.Ytgepchafbeifeaa.ints, List.getD, hi]
      rw [← hys, List.getElem?_take, if_pos (by omega)] at q
      exact q
    simpa using this

theorem RowAt.chg {w w' : World} {B : Nat} {v : Value} {l : List Int} {own : List Nat} (h : RowAt w B v l) (hc : Chg own w w') (hn : ∀ b ∈ v.ownBlock.toList, b ∉ own) : RowAt w' B v l :=
  ⟨owns_chg h.1 hc (fun b hb => hn b (by rw [hb]; simp)), h.2⟩

theorem RowAt.low {w : World} {B : Nat} {v : Value} {l : List Int} (h : RowAt w B v l) : ∀ b ∈ v.ownBlock.toList, B ≤ b ∧ b < w.heap.size := fun b hb => h.1.lt b (by simpa using hb)

/-- A value of the document's answer: its things, their groups' numbers. -/
def RefAt (w : World) (B : Nat) (v : Value) (s : St) : Prop := ∃ va vg, v = .agg #[va, vg] ∧ RowAt w B va s.all ∧ RowAt w B vg (s.grp.map fun (k : Nat) => (k : Int))

theorem foot_slice (ao : Option Addr) (n c : Nat) : foot (.slice ao n c) = (Value.slice ao n c).ownBlock.toList := rfl

theorem RowAt.shape {w : World} {B : Nat} {v : Value} {l : List Int} (h : RowAt w B v l) : ∃ ao c, v = .slice ao l.length c := owns_shape h.1

theorem RowAt.foot {w : World} {B : Nat} {v : Value} {l : List Int} (h : RowAt w B v l) : foot v = v.ownBlock.toList := by
  obtain ⟨ao, c, rfl⟩ := h.shape
  rfl

theorem firm_row (B : Nat) (l : List Int) : Firm true (fun v w => RowAt w B v l) := by
  refine ⟨fun X u w w' hc hb h => h.chg hc (fun b q => hb b (by rw [h.foot]; exact q)), fun u w h b hb => (h.low b (by rw [← h.foot]; exact hb)).2⟩

theorem RefAt.foot {w : World} {B : Nat} {v : Value} {s : St} (h : RefAt w B v s) : ∃ va vg, v = .agg #[va, vg] ∧ foot v = va.ownBlock.toList ++ vg.ownBlock.toList := by
  obtain ⟨va, vg, rfl, -, -⟩ := h
  exact ⟨va, vg, rfl, by simp [Go.Proofs.Ytgepchafbeifeaa.foot]⟩

theorem firm_ref (B : Nat) (s : St) : Firm true (fun v w => RefAt w B v s) := by
  refine ⟨fun X u w w' hc hb h => ?_, fun u w h b hb => ?_⟩
  · obtain ⟨va, vg, rfl, ha, hg⟩ := h
    exact ⟨va, vg, rfl, ha.chg hc (fun b q => hb b (by simp only [foot, List.flatMap_cons, List.flatMap_nil, List.append_nil, List.mem_append]; exact Or.inl q)), hg.chg hc (fun b q => hb b (by simp only [foot, List.flatMap_cons, List.flatMap_nil, List.append_nil, List.mem_append]; exact Or.inr q))⟩
  · obtain ⟨va, vg, rfl, ha, hg⟩ := h
    simp only [foot, List.flatMap_cons, List.flatMap_nil, List.append_nil, List.mem_append] at hb
    rcases hb with q | q
    · exact (ha.low b q).2
    · exact (hg.low b q).2

theorem wp_lit0 {o : Oper} {a : Act} {K : Act → World → Prop} {Q : Exit → Act → World → Prop} {w : World} (ho : o.op = .buildSlice 35 0 #[]) {B : Nat} (hB : B ≤ w.heap.size)
    (hK : ∀ v w', RowAt w' B v [] → Chg [] w w' → (∀ b ∈ foot v, w.heap.size ≤ b) → K (a.put o.dst v) w') : o.wp Try.prog a w K Q := by
  have h := hK (.slice (some ⟨w.heap.size, 0, none⟩) 0 0) (w.alloc (.cells #[] 3)) ⟨World.ownsRow_lit w #[] 0 hB (by decide) rfl, by simp, by decide⟩ ((Chg.refl _ _).alloc _) (by simp [foot, Value.ownBlock])
  unfold Oper.wp execOp
  simp only [ho]
  clear hK hB
  go_simp
  exact h

theorem wp_lit1 {o : Oper} {a : Act} {K : Act → World → Prop} {Q : Exit → Act → World → Prop} {w : World} (x : Operand) (ho : o.op = .buildSlice 35 1 #[(0, x)]) {B : Nat} (hB : B ≤ w.heap.size) {k : Int} (hx : a.eval x = .int .i64 k) (hk : I64 k)
    (hK : ∀ v w', RowAt w' B v [k] → Chg [] w w' → (∀ b ∈ foot v, w.heap.size ≤ b) → K (a.put o.dst v) w') : o.wp Try.prog a w K Q := by
  have h := hK (.slice (some ⟨w.heap.size, 0, none⟩) 1 1) (w.alloc (.cells #[.int .i64 k] 3)) ⟨World.ownsRow_lit w #[.int .i64 k] 1 hB (by decide) rfl, by simpa using hk, by simp⟩ ((Chg.refl _ _).alloc _) (by simp [foot, Value.ownBlock])
  unfold Oper.wp execOp
  simp only [ho, List.map_toArray, List.map_cons, List.map_nil, hx]
  clear hK hB hx
  go_simp
  exact h


theorem ints_ones {l : List Int} : ∀ y ∈ ints l, y.oneCell' = true := by
  intro y hy
  simp only [ints, List.mem_map] at hy
  obtain ⟨x, -, rfl⟩ := hy
  rfl

theorem wp_cat {o : Oper} {a : Act} {K : Act → World → Prop} {Q : Exit → Act → World → Prop} {w : World} (s x : Operand) (ho : o.op = .call { callee := .builtin .append, args := #[s, x], argTypes := #[35, 35] })
    {B B' : Nat} {v u : Value} {l m : List Int} (hs : a.eval s = v) (hx : a.eval x = u) (h1 : RowAt w B v l) (h2 : RowAt w B' u m) (hB : B ≤ w.heap.size) (hn : l.length + m.length < 4294967296)
    (hK : ∀ v' w', RowAt w' B v' (l ++ m) → Chg (foot v) w w' → (∀ b ∈ foot v', b ∈ foot v ∨ w.heap.size ≤ b) → K (a.put o.dst v') w') : o.wp Try.prog a w K Q :=
  wp_spread elemInt s x ho hs hx h1.1 h2.1 hB ints_ones (by omega) fun v' w' r1 r2 r3 => by
    have hr : RowAt w' B v' (l ++ m) := ⟨by rw [List.length_append]; simpa [ints] using r1, fun y hy => (List.mem_append.1 hy).elim (h1.2.1 y) (h2.2.1 y), by rw [List.length_append]; exact hn⟩
    exact hK v' w' hr (by rw [h1.foot]; exact r2) (fun b hb => by rw [h1.foot]; exact r3 b (by rw [← hr.foot]; exact hb))

/-- A struct of two one-cell fields, laid. -/
theorem wp_store2 {o : Oper} {a : Act} {K : Act → World → Prop} {Q : Exit → Act → World → Prop} {w : World} (p x : Operand) (ho : o.op = .store 37 p x) {b : Nat} {u v u0 v0 : Value} (hp : a.eval p = .pointer (some ⟨b, 0, none⟩)) (hx : a.eval x = .agg #[u, v])
    (hu : ∃ b n c, u = .slice b n c) (hv : ∃ b n c, v = .slice b n c) (hb : w.heap[b]? = some (.cells #[u0, v0] 37 (0, 0)))
    (hK : ∀ w', Chg [b] w w' → w'.heap[b]? = some (.cells #[u, v] 37 (0, 0)) → K (a.put o.dst undef) w') : o.wp Try.prog a w K Q := by
  have hk := hK ((w.setCell ⟨b, 0, none⟩ u).setCell ⟨b, 1, none⟩ v) (((Chg.refl _ w).setCell (Or.inl (by simp)) u).setCell (Or.inl (by simp)) v) (by
    have := heap_setCell_same (heap_setCell_same hb 0 u) 1 v
    simpa using this)
  have c0 : w.cell? ⟨b, 0, none⟩ = some u0 := by rw [cell_of_row _ _ _ _ _ _ hb]; rfl
  have c1 : w.cell? ⟨b, 1, none⟩ = some v0 := by rw [cell_of_row _ _ _ _ _ _ hb]; rfl
  have z0 : w.frozen? ⟨b, 0, none⟩ = false := by simp [World.frozen?, hb]
  have z1 : w.frozen? ⟨b, 1, none⟩ = false := by simp [World.frozen?, hb]
  obtain ⟨b1, n1, d1, rfl⟩ := hu
  obtain ⟨b2, n2, d2, rfl⟩ := hv
  unfold Oper.wp execOp
  simp only [ho, hp, hx]
  clear hp hx hb hK
  go_simp
  exact hk

theorem RowAt.base {w : World} {B B' : Nat} {v : Value} {l : List Int} (h : RowAt w B' v l) (hB : B ≤ B') : RowAt w B v l := by
  obtain ⟨⟨h0, h1⟩, h2⟩ := h
  refine ⟨⟨h0, h1.imp id ?_⟩, h2⟩
  rintro ⟨g, cap, cur, e, q, r⟩
  exact ⟨g, cap, cur, e, by omega, r⟩

section
variable {ops : Array Oper} {Q : Exit → Act → World → Prop} {fr : (Nat → Value) → Act} {z : Nat} {fin : List Nat} {w1 : World} {i : Nat} {rest : List (Oper × Info)} {L : List (Value → World → Prop)} {o : Oper} {d : Info}

theorem wanted_plain (hg : o.guard = none) (a : Act) : Region.wanted o (yielded ops a.tmps) = true := by simp [Region.wanted, hg]

theorem lin_lit0 (ho : ops[i]? = some o) (hg : o.guard = none) (hop : o.op = .buildSlice 35 0 #[])
    (hn : Mono Try.prog ops Q (Chg [] w1) fr z fin (L ++ [fun v w => RowAt w w1.heap.size v []]) (i + 1) rest) (hl : d.lin = true := by rfl) : Mono Try.prog ops Q (Chg [] w1) fr z fin L i ((o, d) :: rest) :=
  lin_op _ ho (Or.inr (by rw [hl]; exact firm_row _ _)) (fun _ _ hG _ => ⟨wanted_plain hg _, fun _ hK => wp_lit0 hop hG.size fun v w2 h1 h2 h3 =>
    hK.out v w2 h1 (Or.inr (h2.mono (by simp))) (Or.inr (Or.inr fun b hb => Or.inr (h3 b hb))) (Or.inr (hG.trans h2 (by simp)))⟩) hn

theorem lin_lit1 (ho : ops[i]? = some o) (hg : o.guard = none) (x : Operand) (hop : o.op = .buildSlice 35 1 #[(0, x)]) (k : Int) (hk : I64 k)
    (hx : ∀ vals w, Chg [] w1 w → Facts L vals w d.deps → (fr vals).eval x = .int .i64 k)
    (hn : Mono Try.prog ops Q (Chg [] w1) fr z fin (L ++ [fun v w => RowAt w w1.heap.size v [k]]) (i + 1) rest) (hl : d.lin = true := by rfl) : Mono Try.prog ops Q (Chg [] w1) fr z fin L i ((o, d) :: rest) :=
  lin_op _ ho (Or.inr (by rw [hl]; exact firm_row _ _)) (fun vals w hG hF => ⟨wanted_plain hg _, fun _ hK => wp_lit1 x hop hG.size (hx vals w hG hF) hk fun v w2 h1 h2 h3 =>
    hK.out v w2 h1 (Or.inr (h2.mono (by simp))) (Or.inr (Or.inr fun b hb => Or.inr (h3 b hb))) (Or.inr (hG.trans h2 (by simp)))⟩) hn

theorem lin_cat (ho : ops[i]? = some o) (hg : o.guard = none) (s x : Operand) (hop : o.op = .call { callee := .builtin .append, args := #[s, x], argTypes := #[35, 35] }) (j : Nat) (l m : List Int)
    (h : ∀ vals w, Chg [] w1 w → Facts L vals w d.deps → (fr vals).eval s = vals j ∧ RowAt w w1.heap.size (vals j) l ∧ ∃ B, RowAt w B ((fr vals).eval x) m) (hln : l.length + m.length < 4294967296)
    (hn : Mono Try.prog ops Q (Chg [] w1) fr z fin (L ++ [fun v w => RowAt w w1.heap.size v (l ++ m)]) (i + 1) rest) (hl : d.lin = true := by rfl) (hj : j ∈ d.con := by simp) : Mono Try.prog ops Q (Chg [] w1) fr z fin L i ((o, d) :: rest) :=
  lin_op _ ho (Or.inr (by rw [hl]; exact firm_row _ _)) (fun vals w hG hF => ⟨wanted_plain hg _, fun _ hK => by
    obtain ⟨h1, h2, B, h3⟩ := h vals w hG hF
    refine wp_cat s x hop h1 rfl h2 h3 hG.size hln fun v w2 r1 r2 r3 => hK.out v w2 r1 (Or.inr (r2.mono fun b hb => Or.inl (mem_foots.2 ⟨j, hj, hb⟩))) (Or.inr (Or.inr fun b hb => (r3 b hb).imp (fun q => mem_foots.2 ⟨j, hj, q⟩) id)) (Or.inr (hG.trans r2 fun b hb => Or.inr ?_))
    rw [h2.foot] at hb
    exact (h2.low b hb).1⟩) hn
end

theorem wp_build2 {o : Oper} {a : Act} {K : Act → World → Prop} {Q : Exit → Act → World → Prop} {w : World} (x y : Operand) (ho : o.op = .build 37 #[(0, x), (1, y)]) {u v : Value} (hx : a.eval x = u) (hy : a.eval y = v)
    (hu : ∃ b n c, u = .slice b n c) (hv : ∃ b n c, v = .slice b n c) (hK : K (a.put o.dst (.agg #[u, v])) w) : o.wp Try.prog a w K Q := by
  obtain ⟨b, n, c, rfl⟩ := hu
  obtain ⟨b', n', c', rfl⟩ := hv
  unfold Oper.wp execOp
  simp only [ho, List.map_toArray, List.map_cons, List.map_nil, hx, hy]
  clear hx hy
  go_simp
  exact hK

set_option maxHeartbeats 1000000 in
theorem refadd_any (B : Nat) (v : Value) (s : St) (x : Int) (w : World) (hx : I64 x) (hn : s.all.length < 1000000) (hl : s.all.length = s.grp.length) (hB : B ≤ w.heap.size) (h : RefAt w B v s) :
    Calls Try.prog 14 #[v, .int .i64 x] w fun e w' => ∃ v', e = .returned v' ∧ RefAt w' B v' (s.put x) ∧ Chg [] w w' ∧ ∀ b ∈ foot v', b ∈ foot v ∨ w.heap.size ≤ b := by
  obtain ⟨va, vg, rfl, ha, hg⟩ := h
  obtain ⟨aa, ac, ea⟩ := owns_shape ha.1
  obtain ⟨ga, gc, eg⟩ := owns_shape hg.1
  rw [List.length_map] at eg
  subst ea eg
  have HL := Lib.hid hl
  have HA0 := Lib.hid ha
  have HG0 := Lib.hid hg
  clear hl
  go_enter Try.func14, Try.ntmps14
  go_wp2_with fail
  have hfi := ha.ints.fresh (((Chg.refl [] w).alloc (.cells #[.slice aa s.all.length ac, .slice ga s.grp.length gc] 37)).alloc (.cells #[.slice none 0 0, .slice none 0 0] 37))
  refine (find_any (.slice aa s.all.length ac) (.slice ga s.grp.length gc) s.all x _ hx hfi).mono ?_
  rintro e w1 ⟨rfl, hc1⟩
  have hbx := heap_alloc_new w (.cells #[.slice aa s.all.length ac, .slice ga s.grp.length gc] 37)
  have hby := heap_alloc_new (w.alloc (.cells #[.slice aa s.all.length ac, .slice ga s.grp.length gc] 37)) (.cells #[.slice none 0 0, .slice none 0 0] 37)
  have hbx1 := hc1.heap (((Chg.refl [] _).alloc _).heap hbx (by simp)) (by simp)
  have hby1 := hc1.heap hby (by simp)
  have hc := (((Chg.refl [] w).alloc _).alloc _).trans hc1 (by simp)
  have ha1 := ha.chg hc (by simp)
  have hg1 := hg.chg hc (by simp)
  simp only [World.size_alloc] at hby1
  have cx0 : w1.cell? ⟨w.heap.size, 0, none⟩ = some (.slice aa s.all.length ac) := by rw [cell_of_row _ _ _ _ _ _ hbx1]; rfl
  have cx1 : w1.cell? ⟨w.heap.size, 1, none⟩ = some (.slice ga s.grp.length gc) := by rw [cell_of_row _ _ _ _ _ _ hbx1]; rfl
  have cy0 : w1.cell? ⟨w.heap.size + 1, 0, none⟩ = some (.slice none 0 0) := by rw [cell_of_row _ _ _ _ _ _ hby1]; rfl
  have cy1 : w1.cell? ⟨w.heap.size + 1, 1, none⟩ = some (.slice none 0 0) := by rw [cell_of_row _ _ _ _ _ _ hby1]; rfl
  have zy0 : w1.frozen? ⟨w.heap.size + 1, 0, none⟩ = false := by simp [World.frozen?, hby1]
  have zy1 : w1.frozen? ⟨w.heap.size + 1, 1, none⟩ = false := by simp [World.frozen?, hby1]
  have HY := Lib.hid hby1
  clear hbx hby hc1 hbx1 hby1
  by_cases hin : x ∈ s.all
  · have e1 : findv s.all x = ((s.all.idxOf x : Nat) : Int) := if_pos hin
    rw [e1]
    have HC := Lib.hid hc
    have HA := Lib.hid ha1
    have HG := Lib.hid hg1
    clear hc ha1 hg1 ha hg hB e1
    go_wp2
    refine bodyPost_ret (v := .agg #[.slice aa s.all.length ac, .slice ga s.grp.length gc]) (by simp [results, Try.results14, go_sem, cy0, cy1]) rfl ?_
    have hf := (HC.out.setCell (p := ⟨w.heap.size + 1, 0, none⟩) (Or.inr (by simp)) (.slice aa s.all.length ac)).setCell (p := ⟨w.heap.size + 1, 1, none⟩) (Or.inr (by simp)) (.slice ga s.grp.length gc)
    rw [St.put_in hin]
    exact ⟨_, rfl, ⟨_, _, rfl, HA0.out.chg hf (by simp), HG0.out.chg hf (by simp)⟩, hf, fun b hb => Or.inl hb⟩
  · have e1 : findv s.all x = -1 := if_neg hin
    rw [e1]
    have HC := Lib.hid hc
    have HA := Lib.hid ha1
    have HG := Lib.hid hg1
    have HB := Lib.hid hB
    clear hc ha1 hg1 ha hg hB
    go_wp2
    have hB1 : B ≤ w1.heap.size := by have := HC.out.size; have := HB.out; omega
    refine wp_region_lin [⟨[],[],true⟩, ⟨[],[],false⟩, ⟨[1],[],false⟩, ⟨[0,2],[0],true⟩, ⟨[],[],false⟩, ⟨[4],[],true⟩, ⟨[3,5],[3,5],true⟩, ⟨[],[],true⟩, ⟨[],[],false⟩, ⟨[8],[],false⟩, ⟨[7,9],[7],true⟩, ⟨[],[],false⟩, ⟨[11],[],true⟩, ⟨[10,12],[10,12],true⟩, ⟨[6,13],[6,13],true⟩, ⟨[14],[14],false⟩] 15 [15] (fun w' => Chg [] w1 w') (by kernel_rfl) (by kernel_rfl) (Chg.refl [] w1).drew ?_
    (intro fr hfr; simp only [fillL, Act.put, List.setIfInBounds_toArray, List.set_cons_zero, List.set_cons_succ, Nat.reduceAdd] at hfr; obtain rfl := funext (fun vals => (hfr vals).symm); clear hfr; simp only [List.zip_cons_cons, List.zip_nil_right])
    refine lin_lit0 rfl rfl rfl ?_
    (refine lin_read (c := ?_) rfl ⟨rfl, rfl⟩ (fun vals w' hG hF => ?_) ?_; rotate_left; (focus ((try simp only [Facts, List.nil_append, List.cons_append, List.getD_cons_zero, List.getD_cons_succ, and_true] at hF); refine ⟨by rfl, ?_⟩; go_simp; try with_reducible rfl)))
    (refine lin_read (c := ?_) rfl ⟨rfl, rfl⟩ (fun vals w' hG hF => ?_) ?_; rotate_left; (focus ((try simp only [Facts, List.nil_append, List.cons_append, List.getD_cons_zero, List.getD_cons_succ, and_true] at hF); have q0 := hG.cell cx0 (by simp); refine ⟨by rfl, ?_⟩; go_simp; try with_reducible rfl)))
    refine lin_cat rfl rfl _ _ rfl 0 [] s.all (fun vals w' hG hF => ⟨rfl, hF.1, B, by rw [show Act.eval _ (.tmp 16) = vals 2 from rfl, show vals 2 = _ from hF.2.1]; exact HA.out.chg hG (by simp)⟩) (by simp only [List.length_nil]; omega) ?_
    (refine lin_read (c := ?_) rfl ⟨rfl, rfl⟩ (fun vals w' hG hF => ?_) ?_; rotate_left; (focus ((try simp only [Facts, List.nil_append, List.cons_append, List.getD_cons_zero, List.getD_cons_succ, and_true] at hF); refine ⟨by rfl, ?_⟩; go_simp; try with_reducible rfl)))
    refine lin_lit1 rfl rfl _ rfl x hx (fun vals w' hG hF => show vals 4 = _ from hF.1) ?_
    refine lin_cat rfl rfl _ _ rfl 3 s.all [x] (fun vals w' hG hF => ⟨rfl, hF.1, w1.heap.size, hF.2.1⟩) (by simp only [List.length_cons, List.length_nil]; omega) ?_
    refine lin_lit0 rfl rfl rfl ?_
    (refine lin_read (c := ?_) rfl ⟨rfl, rfl⟩ (fun vals w' hG hF => ?_) ?_; rotate_left; (focus ((try simp only [Facts, List.nil_append, List.cons_append, List.getD_cons_zero, List.getD_cons_succ, and_true] at hF); refine ⟨by rfl, ?_⟩; go_simp; try with_reducible rfl)))
    (refine lin_read (c := ?_) rfl ⟨rfl, rfl⟩ (fun vals w' hG hF => ?_) ?_; rotate_left; (focus ((try simp only [Facts, List.nil_append, List.cons_append, List.getD_cons_zero, List.getD_cons_succ, and_true] at hF); have q0 := hG.cell cx1 (by simp); refine ⟨by rfl, ?_⟩; go_simp; try with_reducible rfl)))
    refine lin_cat rfl rfl _ _ rfl 7 [] (s.grp.map fun (k : Nat) => (k : Int)) (fun vals w' hG hF => ⟨rfl, hF.1, B, by rw [show Act.eval _ (.tmp 23) = vals 9 from rfl, show vals 9 = _ from hF.2.1]; exact HG.out.chg hG (by simp)⟩) (by have := HL.out; simp only [List.length_nil, List.length_map]; omega) ?_
    (refine lin_read (c := ?_) rfl ⟨rfl, rfl⟩ (fun vals w' hG hF => ?_) ?_; rotate_left; (focus ((try simp only [Facts, List.nil_append, List.cons_append, List.getD_cons_zero, List.getD_cons_succ, and_true] at hF); refine ⟨by rfl, ?_⟩; go_simp; try with_reducible rfl)))
    refine lin_lit1 rfl rfl _ rfl s.all.length (I64.mk (by omega) (by omega)) (fun vals w' hG hF => show vals 11 = _ from hF.1) ?_
    refine lin_cat rfl rfl _ _ rfl 10 _ [((s.all.length : Nat) : Int)] (fun vals w' hG hF => ⟨rfl, hF.1, w1.heap.size, hF.2.1⟩) (by have := HL.out; simp only [List.length_cons, List.length_nil, List.length_append, List.length_map]; omega) ?_
    refine lin_op (fun v w' => RefAt w' w1.heap.size v (s.put x)) rfl (Or.inr (firm_ref _ _)) (fun vals w' hG hF => ⟨by rfl, fun K hK => ?_⟩) ?_
    · have f6 : RowAt w' w1.heap.size (vals 6) (s.all ++ [x]) := hF.1
      have f13 : RowAt w' w1.heap.size (vals 13) ((s.grp.map fun (k : Nat) => (k : Int)) ++ [((s.all.length : Nat) : Int)]) := hF.2.1
      refine wp_build2 _ _ rfl rfl rfl (by obtain ⟨ao, c, e⟩ := f6.shape; exact ⟨_, _, _, e⟩) (by obtain ⟨ao, c, e⟩ := f13.shape; exact ⟨_, _, _, e⟩) ?_
      refine hK.out _ _ ?_ (Or.inr (Chg.refl _ _)) (Or.inr (Or.inr fun b hb => Or.inl ?_)) (Or.inr hG)
      · rw [St.put_new hin]
        exact ⟨vals 6, vals 13, rfl, f6, by simpa using f13⟩
      · simp only [foot, List.flatMap_cons, List.flatMap_nil, List.append_nil, List.mem_append] at hb
        refine mem_foots.2 (hb.elim (fun q => ⟨6, by simp, ?_⟩) (fun q => ⟨13, by simp, ?_⟩))
        · rw [f6.foot]; exact q
        · rw [f13.foot]; exact q
    refine lin_op (fun _ w' => ∃ va vg, w'.cell? ⟨w.heap.size + 1, 0, none⟩ = some va ∧ w'.cell? ⟨w.heap.size + 1, 1, none⟩ = some vg ∧ RefAt w' B (.agg #[va, vg]) (s.put x) ∧ Chg [] w w' ∧ ∀ b ∈ foot (.agg #[va, vg]), w.heap.size ≤ b) rfl (Or.inl rfl) (fun vals w' hG hF => ⟨by rfl, fun K hK => ?_⟩) ?_
    · obtain ⟨va, vg, e, f1, f2⟩ := (show RefAt w' w1.heap.size (vals 14) (s.put x) from hF.1)
      refine wp_store2 (b := w.heap.size + 1) _ _ rfl rfl (show vals 14 = _ from e) (by obtain ⟨ao, c, e⟩ := f1.shape; exact ⟨_, _, _, e⟩) (by obtain ⟨ao, c, e⟩ := f2.shape; exact ⟨_, _, _, e⟩) (hG.heap HY.out (by simp)) fun w2 h2 h3 => ?_
      have hlt : w.heap.size + 1 < w1.heap.size := (Array.getElem?_eq_some_iff.1 HY.out).1
      have hne : ∀ b v l, RowAt w' w1.heap.size v l → b ∈ v.ownBlock.toList → b ≠ w.heap.size + 1 := fun b v l h hb => by have := (h.low b hb).1; omega
      refine hK.out undef _ ⟨va, vg, ?_, ?_, ⟨va, vg, rfl, (f1.chg h2 (fun b hb => ?_)).base hB1, (f2.chg h2 (fun b hb => ?_)).base hB1⟩, (HC.out.trans hG (by simp)).trans h2 (by simp), fun b hb => ?_⟩ (Or.inl rfl) (Or.inl rfl) (Or.inl rfl)
      · rw [cell_of_row _ _ _ _ _ _ h3]; rfl
      · rw [cell_of_row _ _ _ _ _ _ h3]; rfl
      · have := hne b va _ f1 hb; simp; omega
      · have := hne b vg _ f2 hb; simp; omega
      · simp only [foot, List.flatMap_cons, List.flatMap_nil, List.append_nil, List.mem_append] at hb
        have := HC.out.size
        rcases hb with q | q
        · have := (f1.low b q).1; omega
        · have := (f2.low b q).1; omega
    refine lin_nil fun vals w' _ hF => ?_
    obtain ⟨va, vg, c0, c1, hr, hch, hft⟩ := (show ∃ va vg, w'.cell? ⟨w.heap.size + 1, 0, none⟩ = some va ∧ w'.cell? ⟨w.heap.size + 1, 1, none⟩ = some vg ∧ RefAt w' B (.agg #[va, vg]) (s.put x) ∧ Chg [] w w' ∧ ∀ b ∈ foot (.agg #[va, vg]), w.heap.size ≤ b from hF.1)
    clear hF
    go_wp2
    refine bodyPost_ret (v := .agg #[va, vg]) (by simp [results, Try.results14, go_sem, c0, c1]) rfl ?_
    exact ⟨_, rfl, hr, hch, fun b hb => Or.inr (hft b hb)⟩

end Go.Proofs.Ytgepchafbeifeaa
