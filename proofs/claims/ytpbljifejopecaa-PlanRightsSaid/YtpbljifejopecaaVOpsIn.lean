/- Laws at operations: appends whose outcome is known; maps, in a walk inside a fence. Conditions: what each law says. -/
import Derived.Test.YtpbljifejopecaaVIter
namespace Go.Proofs.Ytpbljifejopecaa
open Go.RowKit Go.Maps

section
variable {ops : Array Oper} {rest : List Oper} {o : Oper} {a : Act} {Q : Exit → Act → World → Prop} {w w' : World} {F : Fence} {nF : Nat}

/-- An append whose outcome is known. -/
theorem wl_apprun (hg : o.guard = none) (s x : Operand) (t : TypeId) (ho : o.op = .call { callee := .builtin .append, args := #[s, x], argTypes := #[t, t] }) {v u r : Value} (hs : a.eval s = v) (hx : a.eval x = u)
    (hr : (Builtin.append_ #[t, t] o.type #[v, u]).run Try.prog w = .ok r w') (hK : wpList Try.prog ops Q rest (a.put o.dst r) w') : wpList Try.prog ops Q (o :: rest) a w := by
  refine wpList_plain hg fun K hK' => ?_
  unfold Oper.wp execOp
  simp only [ho, resolve, invoke, builtin, Sem.run_bind, Sem.run_pure, Result.andThen_ok, List.map_toArray, List.map_cons, List.map_nil, hs, hx, hr]
  exact hK' _ _ hK

theorem wi_apprun (hg : o.guard = none) (s x : Operand) (t : TypeId) (ho : o.op = .call { callee := .builtin .append, args := #[s, x], argTypes := #[t, t] }) {v u r : Value} (hs : a.eval s = v) (hx : a.eval x = u)
    (hr : (Builtin.append_ #[t, t] o.type #[v, u]).run Try.prog w = .ok r w') (hK : wpListIn F nF Try.prog ops Q rest (a.put o.dst r) w') : wpListIn F nF Try.prog ops Q (o :: rest) a w := by
  refine wpListIn_plain hg fun K hK' => ?_
  unfold Oper.wpIn
  refine ⟨by simp [Oper.about, ho, resolve, Target.leads, Sem.run_pure], ?_⟩
  rw [Oper.semAt_plain F _ _ (by rw [ho]; intro c hc'; cases hc')]
  unfold execOp
  simp only [ho, resolve, invoke, builtin, Sem.run_bind, Sem.run_pure, Result.andThen_ok, List.map_toArray, List.map_cons, List.map_nil, hs, hx, hr]
  exact hK' _ _ hK

variable (w)
/-- 'v, ok := m[k]', whatever there is. -/
theorem wi_look_any (hg : o.guard = none) (m x : Operand) (hop : o.op = Op.lookup 65 m x true) {b n : Nat} {f : Int → Option Int} (h : IMap w b n f) (hm : a.eval m = .map (some b))
    {k : Int} (hk : I64 k) (hx : a.eval x = .int .i64 k) {v : Int} {t : Bool} (hv : Hid ((f k).getD 0 = v)) (ht : Hid ((f k).isSome = t)) (hK : wpListIn F nF Try.prog ops Q rest (a.put o.dst (.tuple #[.int .i64 v, .bool t])) w) : wpListIn F nF Try.prog ops Q (o :: rest) a w := by
  obtain ⟨D, hown, hD⟩ := h
  refine wpListIn_lookup_own_ok_int w hg m x _ hop _ _ .i64 keyedInt Try.underlying65 Try.underlying3 (zeroInt _) b n D hm hown _ _ hx (keyOf_int_mk Try.underlying3 hk) (fun c hat _ => ?_)
  obtain ⟨h1, h2⟩ := hD k hk
  rw [h2, hv.out] at hat
  cases hat
  rw [h1, ht.out]
  exact hK

/-- 'm[k] = v'. -/
theorem wi_store (hg : o.guard = none) (m x u : Operand) (hop : o.op = Op.mapUpdate 65 m x u) {b n : Nat} {f : Int → Option Int} (h : IMap w b n f) (hn : n < maxLen) (hm : a.eval m = .map (some b))
    {k v : Int} (hk : I64 k) (hv : I64 v) (hx : a.eval x = .int .i64 k) (hu : a.eval u = .int .i64 v)
    (hK : ∀ w', IMap w' b (n + 1) (fun y => if y = k then some v else f y) → w.grownBy w' (some b) → wpListIn F nF Try.prog ops Q rest (a.put o.dst undef) w') : wpListIn F nF Try.prog ops Q (o :: rest) a w := by
  obtain ⟨D, hown, hD⟩ := h
  refine wpListIn_mapUpdate_own w hg m x u _ hop _ _ keyedInt Try.underlying65 _ b n D hm hown hn _ _ _ hx hu (keyOf_int_mk Try.underlying3 hk) _ [] (plainElem_int Try.underlying3 hv) (fun w' h1 h2 => hK w' ⟨_, h1, fun y hy => ?_⟩ h2)
  by_cases e : y = k
  · subst e
    have hkl := keyedInt.key (keyOf_int_mk Try.underlying3 hk)
    rw [has_put_same hown.isMap hkl, atKey_put_same hown.isMap hkl]
    simp
  · rw [has_put_other (litNe e), atKey_put_other (litNe e)]
    simp only [if_neg e]
    exact hD y hy

/-- 'delete(m, k)'. -/
theorem wi_delete (hg : o.guard = none) (m x : Operand) (hop : o.op = Op.call { callee := Callee.builtin Builtin.delete, args := #[m, x], argTypes := #[65, 3] }) {b n : Nat} {f : Int → Option Int} (h : IMap w b n f) (hm : a.eval m = .map (some b))
    {k : Int} (hk : I64 k) (hx : a.eval x = .int .i64 k)
    (hK : ∀ w', IMap w' b n (fun y => if y = k then none else f y) → w.grownBy w' (some b) → wpListIn F nF Try.prog ops Q rest (a.put o.dst (.tuple #[])) w') : wpListIn F nF Try.prog ops Q (o :: rest) a w := by
  obtain ⟨D, hown, hD⟩ := h
  refine wpListIn_delete_own w hg m x _ _ hop _ keyedInt Try.underlying65 _ b n D hm hown _ _ hx (keyOf_int_mk Try.underlying3 hk) (fun w' h1 h2 => hK w' ⟨_, h1, fun y hy => ?_⟩ h2.grown)
  by_cases e : y = k
  · subst e
    rw [has_del_same, atKey_del_same]
    simp
  · rw [has_del_other (litNe e), atKey_del_other (litNe e)]
    simp only [if_neg e]
    exact hD y hy
end

/-- What a loop over an iterator asks of an invariant, in the words used here. -/
theorem ownFrom_chg {β : Type} {B : Nat} {I : β → World → Prop} (h : ∀ s W W' own, I s W → Chg own W W' → (∀ j ∈ own, B ≤ j ∧ ∀ cs t r, W.heap[j]? ≠ some (.cells cs t r)) → I s W') : OwnFrom B I := by
  intro s W W' row hs hg hr
  refine h s W W' row.toList hs ((Chg.refl _ _).grown hg (fun j hj => Or.inl (by rw [hj]; simp))) (fun j hj => ?_)
  obtain ⟨h1, o, ho, hc⟩ := hr j (by simpa using hj)
  refine ⟨h1, fun cs t r e => ?_⟩
  rw [ho] at e
  cases e
  simp [Obj.isCells] at hc

theorem IntsAt.low {w : World} {v : Value} {l : List Int} (h : IntsAt w v l) (hl : l ≠ []) : ∃ b off n c, v = .slice (some ⟨b, off, none⟩) n c ∧ b < w.heap.size := by
  obtain ⟨ao, cap, rfl, -, -, h3⟩ := h
  obtain ⟨b, off, rfl, h4⟩ := h3 hl
  exact ⟨b, off, _, _, rfl, World.block_lt_of_cell? _ _ (h4 0 (List.length_pos_iff.2 hl))⟩

/-- A round that writes beyond the turns keeps what the iterator reads. -/
theorem itKeeps_chg {w2 A B : World} {own : List Nat} {Bs rb : Nat} {vd : Value} {ds : List Int} (hd : IntsAt w2 vd ds) (hrb : rb < w2.heap.size) (hc : Chg own A B) (ho : ∀ j ∈ own, w2.heap.size ≤ j ∧ j ≠ Bs) : ItKeeps Bs rb vd ds A B := by
  refine ⟨hc.size, fun h => ?_⟩
  obtain ⟨h1, h2, h3⟩ := h
  refine ⟨hc.cell h1 (fun e => (ho _ e).2 rfl), hc.cell h2 (fun e => by have := (ho _ e).1; simp at this; omega), ?_⟩
  by_cases hl : ds = []
  · subst hl
    obtain ⟨ao, cap, rfl, -, -, -⟩ := h3
    exact ⟨ao, cap, rfl, by simp, by simp, by simp⟩
  · obtain ⟨b, off, n, c, e, hb⟩ := hd.low hl
    refine h3.chg hc (fun b' n' c' e' hm => ?_)
    rw [e] at e'
    cases e'
    have := (ho _ hm).1
    simp at this
    omega

/-- A block that is no cells keeps it, too. -/
theorem itKeeps_put {W : World} {l Bs rb : Nat} {vd : Value} {ds : List Int} {o o' : Obj} (ho : W.heap[l]? = some o) (hc : o.isCells = false) : ItKeeps Bs rb vd ds W (W.putObj l o') := by
  have hch : Chg [l] W (W.putObj l o') := (Chg.refl _ _).grown (grownBy_putObj' W l o') (fun j hj => by cases hj; exact Or.inl (by simp))
  have hne : ∀ {b i : Nat} {v : Value}, W.cell? ⟨b, i, none⟩ = some v → b ≠ l := fun h e => by
    subst e
    unfold World.cell? at h
    simp only [ho] at h
    cases o <;> simp [Obj.isCells] at hc h
  refine ⟨hch.size, fun h => ?_⟩
  obtain ⟨h1, h2, h3⟩ := h
  refine ⟨hch.cell h1 (by simpa using hne h1), hch.cell h2 (by simpa using hne h2), ?_⟩
  obtain ⟨ao, cap, rfl, k1, k2, k3⟩ := h3
  refine ⟨ao, cap, rfl, k1, k2, fun hl => ?_⟩
  obtain ⟨b, off, rfl, k4⟩ := k3 hl
  exact ⟨b, off, rfl, fun i hi => hch.cell (k4 i hi) (by simpa using hne (k4 i hi))⟩

theorem itKeeps_trans {Bs rb : Nat} {vd : Value} {ds : List Int} {A B C : World} (h : ItKeeps Bs rb vd ds A B) (k : ItKeeps Bs rb vd ds B C) : ItKeeps Bs rb vd ds A C := ⟨Nat.le_trans h.1 k.1, fun x => k.2 (h.2 x)⟩

namespace Plain
theorem dart_small {g : Gr} {p : Pt} (h : p.err g = 0) {x : Int} (hx : x ∈ p.darts) : 0 ≤ x ∧ x < 2048 := by
  rw [mem_darts] at hx
  obtain ⟨i, hi, e⟩ := mem_getD hx
  have h1 := rises_at (Pt.err_ok h).2.2.1 hi
  have h2 := Gr.err_ok (Pt.err_ok h).1
  omega
end Plain

end Go.Proofs.Ytpbljifejopecaa
