/- package rota: the contracts of Darts and of its iterator. Conditions: turns that lie in memory and read so. -/
import Derived.RangeFuncNested
import Derived.RangeFuncBound
import Derived.RangeFuncCalls
import Derived.RangeFuncLeaves
import Derived.RangeFuncBox
import Derived.Shelf.Abstract
import Derived.Shelf.AbstractIn
import Derived.Shelf.RegionOpen
import Derived.OwnWalkIn
import Derived.TacticsInMore
import Derived.LoopNIn
import Derived.LoopIn
import Derived.Maps.OwnIn
import Derived.Test.YtfgbkpbakignhaaVNext
namespace Go.Proofs.Ytfgbkpbakignhaa
open Go.RowKit Go.Maps

theorem darts_any (rb : Nat) (w : World) :
    Calls Try.prog 31 #[.pointer (some ⟨rb, 0, none⟩)] w fun e w' => e = .returned (.func (.func 49) #[] #[.pointer (some ⟨w.heap.size, 0, none⟩)]) ∧ w' = w.alloc (.cells #[.pointer (some ⟨rb, 0, none⟩)] 68) := by
  go_enter Try.func31, Try.ntmps31
  go_wp2
  go_ret
  exact ⟨rfl, rfl⟩

/-- What the iterator reads: its box, the turns' list of darts. -/
def ItAt (W : World) (Bs rb : Nat) (vd : Value) (ds : List Int) : Prop := W.cell? ⟨Bs, 0, none⟩ = some (.pointer (some ⟨rb, 0, none⟩)) ∧ W.cell? ⟨rb, 3, none⟩ = some vd ∧ IntsAt W vd ds

theorem ItAt.chg {W W' : World} {own : List Nat} {Bs rb : Nat} {vd : Value} {ds : List Int} (h : ItAt W Bs rb vd ds) (hc : Chg own W W') (h1 : Bs ∉ own) (h2 : rb ∉ own) (h3 : ∀ b n c, vd = .slice (some b) n c → b.block ∉ own) : ItAt W' Bs rb vd ds :=
  ⟨hc.cell h.1 h1, hc.cell h.2.1 h2, h.2.2.chg hc h3⟩

/-- What a round keeps for it. -/
def ItKeeps (Bs rb : Nat) (vd : Value) (ds : List Int) (A B : World) : Prop := A.heap.size ≤ B.heap.size ∧ (ItAt A Bs rb vd ds → ItAt B Bs rb vd ds)

section
attribute [local go_sem] Oper.semAt_some
set_option maxRecDepth 100000 in
set_option maxHeartbeats 2000000 in
theorem darts1_in (α : Type) (enc : α → Int) (n : Nat) (hn : 1 ≤ n) (l Bs rb : Nat) (vd : Value) (xs : List α) (hl : xs.length < 4294967296) (J Jx : List α → World → Prop)
    (hY : ∀ pre x W, J pre W → pre.length < xs.length → YieldAt Fence.wide (n - 1) Try.prog l #[.int .i64 (enc x)] W fun e W' =>
      (e = .returned (.bool true) ∧ J (pre ++ [x]) W' ∧ ItKeeps Bs rb vd (xs.map enc) W W') ∨ (e = .returned (.bool false) ∧ Jx (pre ++ [x]) W'))
    (W : World) (hI : ItAt W Bs rb vd (xs.map enc)) (h0 : J [] W) :
    CallsIn Fence.wide n Try.prog 49 #[.func (.yield l) #[] #[], .pointer (some ⟨Bs, 0, none⟩)] W fun e W' => (∃ v, e = .returned v) ∧
      ((∃ ys, ys = xs ∧ J ys W') ∨ (∃ pre, (∃ k, k ≤ xs.length ∧ pre = xs.take k) ∧ Jx pre W')) := by
  have HIT := Lib.hid hI
  obtain ⟨hc1, hc2, hc3⟩ := hI
  obtain ⟨ao, cap, rfl, -, -, hcc⟩ := hc3
  rw [List.length_map] at hcc hc2
  have HIT2 : Hid (ItAt W Bs rb (.slice ao xs.length cap) (xs.map enc)) := by have := HIT.out; rw [List.length_map] at this; exact Lib.hid this
  have hY2 : Hid (∀ pre x W, J pre W → pre.length < xs.length → YieldAt Fence.wide (n - 1) Try.prog l #[.int .i64 (enc x)] W fun e W' =>
      (e = .returned (.bool true) ∧ J (pre ++ [x]) W' ∧ ItKeeps Bs rb (.slice ao xs.length cap) (xs.map enc) W W') ∨ (e = .returned (.bool false) ∧ Jx (pre ++ [x]) W')) := by
    have := hY; rw [List.length_map] at this; exact Lib.hid this
  clear hcc hY HIT
  refine callsIn_of_wp Try.func49 rfl trivial ?_ rfl
  simp only [Try.ntmps49, List.size_toArray, List.length_cons, List.length_nil, Nat.reduceAdd, Nat.reduceSub, Array.replicate_succ, Array.replicate_zero, List.push_toArray, List.append_toArray, List.nil_append, List.cons_append]
  gi_wp2
  gi_loopw [12] (fun i wr => ∃ k : Nat, k ≤ xs.length ∧ i = .int .i64 k ∧ J (xs.take k) wr ∧ Hid (ItAt wr Bs rb (.slice ao xs.length cap) (xs.map enc))) (fun i _ => xs.length - (intOf i).toNat)
  case atStart => exact ⟨0, Nat.zero_le _, rfl, by simpa using h0, HIT2⟩
  case round =>
    obtain ⟨k, hk, rfl, hJs, hit⟩ := hrel
    have HJ := Lib.hid hJs
    by_cases hlt : k < xs.length
    · obtain ⟨x, hx⟩ : ∃ x, xs[k]? = some x := ⟨xs[k], List.getElem?_eq_getElem hlt⟩
      have HTK := Lib.hid (show xs.take (k + 1) = xs.take k ++ [x] by
        rw [List.take_succ_eq_append_getElem hlt]
        congr 1
        rw [List.getElem?_eq_getElem hlt] at hx
        simpa using hx)
      obtain ⟨ao2, cap2, e, -, -, hcc⟩ := hit.out.2.2
      obtain ⟨b, off, e2, hcell⟩ := hcc (by intro q; have := congrArg List.length q; rw [List.length_map] at this; simp at this; subst this; simp at hlt)
      simp only [Value.slice.injEq] at e
      obtain ⟨e3, -, -⟩ := e
      rw [e2] at e3
      subst e3
      have ck := hcell k (by rw [List.length_map]; exact hlt)
      have hxe : (xs.map enc).getD k 0 = enc x := by simp [List.getD, hx]
      rw [hxe] at ck
      obtain ⟨fn, tmps, assign, body, hy, hR⟩ := hY2.out (xs.take k) x wr hJs (by rw [List.length_take]; omega)
      clear hx hcell hcc hxe hJs
      generalize enc x = z at *
      gi_wp2
      refine hR.mono ?_
      rintro e W3 (⟨rfl, hJ3, hk3⟩ | ⟨rfl, hJx3⟩)
      · have HJ3 := Lib.hid hJ3
        have HI3 := Lib.hid (hk3.2 hit.out)
        gi_wp2
        go_roundw
        case rel => exact ⟨k + 1, by omega, by go_num, by rw [HTK.out]; exact HJ3.out, HI3⟩
        case measure => simp [intOf]; omega
      · have HJ3 := Lib.hid hJx3
        gi_wp2
        refine bodyPost_ret (results_none rfl _ _ _) rfl ?_
        exact ⟨⟨_, rfl⟩, .inr ⟨_, ⟨k + 1, by omega, rfl⟩, by rw [HTK.out]; exact HJ3.out⟩⟩
    · have e : k = xs.length := by omega
      subst e
      gi_wp2
      go_end0
      exact ⟨⟨_, rfl⟩, .inl ⟨xs, rfl, by have := HJ.out; rwa [List.take_length] at this⟩⟩

theorem darts_stops (α : Type) (enc : α → Int) (n : Nat) (hn : 1 ≤ n) (Bs rb : Nat) (vd : Value) (xs : List α) (hl : xs.length < 4294967296) (w : World) (hI : ItAt w Bs rb vd (xs.map enc)) :
    SeqStopsK Fence.wide n Try.prog 49 #[.pointer (some ⟨Bs, 0, none⟩)] (fun x : α => #[Value.int .i64 (enc x)]) (ItKeeps Bs rb vd (xs.map enc)) (fun ys => ys = xs) (fun pre => ∃ k, k ≤ xs.length ∧ pre = xs.take k) xs.length w := fun l J Jx W hW _ _ hY h0 =>
  darts1_in α enc n hn l Bs rb vd xs hl J Jx hY W (by
    have hc : Chg [] w W := Chg.of_below hW (Nat.le_refl _)
    exact hI.chg hc (by simp) (by simp) (by simp)) h0
end

end Go.Proofs.Ytfgbkpbakignhaa
/- Laws at operations: appends whose outcome is known; maps, in a walk inside a fence. Conditions: what each law says. -/
namespace Go.Proofs.Ytfgbkpbakignhaa
open Go.RowKit Go.Maps

section
variable {ops : Array Oper} {rest : List Oper} {o : Oper} {a : Act} {Q : Exit → Act → World → Prop} {w w' : World} {F : Fence} {nF : Nat}

/-- An append whose outcome is known. -/
theorem wl_apprun (hg : o.guard = none) (s x : Operand) (t : TypeId) (ho : o.op = .call { callee := .builtin .append, args := #[s, x], argTypes := #[t, t] }) {v u r : Value} (hs : a.eval s = v) (hx : a.eval x = u)
    (hr : (Builtin.append_ #[t, t] o.type #[v, u]).run Try.prog w = .ok r w') (hK : wpList Try.prog ops Q rest (a.put o.dst r) w') : wpList Try.prog ops Q (o :: rest) a w := by
  refine wpList_plain hg fun K hK' => ?_
  unfold Oper.wp execOp
  simp only [ho, resolve, invoke, builtin, Sem.run_bind, Sem.run_pure, Result.andThen_ok, List.map_toArray, List.map_cons, List.map_nil, hs, hx, hr]
  exact hK' _ _ hK

theorem wi_apprun (hg : o.guard = none) (s x : Operand) (t : TypeId) (ho : o.op = .call { callee := .builtin .append, args := #[s, x], argTypes := #[t, t] }) {v u r : Value} (hs : a.eval s = v) (hx : a.eval x = u)
    (hr : (Builtin.append_ #[t, t] o.type #[v, u]).run Try.prog w = .ok r w') (hK : wpListIn F nF Try.prog ops Q rest (a.put o.dst r) w') : wpListIn F nF Try.prog ops Q (o :: rest) a w := by
  refine wpListIn_plain hg fun K hK' => ?_
  unfold Oper.wpIn
  refine ⟨by simp [Oper.about, ho, resolve, Target.leads, Sem.run_pure], ?_⟩
  rw [Oper.semAt_plain F _ _ (by rw [ho]; intro c hc'; cases hc')]
  unfold execOp
  simp only [ho, resolve, invoke, builtin, Sem.run_bind, Sem.run_pure, Result.andThen_ok, List.map_toArray, List.map_cons, List.map_nil, hs, hx, hr]
  exact hK' _ _ hK

variable (w)
/-- 'v, ok := m[k]', whatever there is. -/
theorem wi_look_any (hg : o.guard = none) (m x : Operand) (hop : o.op = Op.lookup 33 m x true) {b n : Nat} {f : Int → Option Int} (h : IMap w b n f) (hm : a.eval m = .map (some b))
    {k : Int} (hk : I64 k) (hx : a.eval x = .int .i64 k) {v : Int} {t : Bool} (hv : Hid ((f k).getD 0 = v)) (ht : Hid ((f k).isSome = t)) (hK : wpListIn F nF Try.prog ops Q rest (a.put o.dst (.tuple #[.int .i64 v, .bool t])) w) : wpListIn F nF Try.prog ops Q (o :: rest) a w := by
  obtain ⟨D, hown, hD⟩ := h
  refine wpListIn_lookup_own_ok_int w hg m x _ hop _ _ .i64 keyedInt Try.underlying33 Try.underlying3 (zeroInt _) b n D hm hown _ _ hx (keyOf_int_mk Try.underlying3 hk) (fun c hat _ => ?_)
  obtain ⟨h1, h2⟩ := hD k hk
  rw [h2, hv.out] at hat
  cases hat
  rw [h1, ht.out]
  exact hK

/-- 'm[k] = v'. -/
theorem wi_store (hg : o.guard = none) (m x u : Operand) (hop : o.op = Op.mapUpdate 33 m x u) {b n : Nat} {f : Int → Option Int} (h : IMap w b n f) (hn : n < maxLen) (hm : a.eval m = .map (some b))
    {k v : Int} (hk : I64 k) (hv : I64 v) (hx : a.eval x = .int .i64 k) (hu : a.eval u = .int .i64 v)
    (hK : ∀ w', IMap w' b (n + 1) (fun y => if y = k then some v else f y) → w.grownBy w' (some b) → wpListIn F nF Try.prog ops Q rest (a.put o.dst undef) w') : wpListIn F nF Try.prog ops Q (o :: rest) a w := by
  obtain ⟨D, hown, hD⟩ := h
  refine wpListIn_mapUpdate_own w hg m x u _ hop _ _ keyedInt Try.underlying33 _ b n D hm hown hn _ _ _ hx hu (keyOf_int_mk Try.underlying3 hk) _ [] (plainElem_int Try.underlying3 hv) (fun w' h1 h2 => hK w' ⟨_, h1, fun y hy => ?_⟩ h2)
  by_cases e : y = k
  · subst e
    have hkl := keyedInt.key (keyOf_int_mk Try.underlying3 hk)
    rw [has_put_same hown.isMap hkl, atKey_put_same hown.isMap hkl]
    simp
  · rw [has_put_other (litNe e), atKey_put_other (litNe e)]
    simp only [if_neg e]
    exact hD y hy

/-- 'delete(m, k)'. -/
theorem wi_delete (hg : o.guard = none) (m x : Operand) (hop : o.op = Op.call { callee := Callee.builtin Builtin.delete, args := #[m, x], argTypes := #[33, 3] }) {b n : Nat} {f : Int → Option Int} (h : IMap w b n f) (hm : a.eval m = .map (some b))
    {k : Int} (hk : I64 k) (hx : a.eval x = .int .i64 k)
    (hK : ∀ w', IMap w' b n (fun y => if y = k then none else f y) → w.grownBy w' (some b) → wpListIn F nF Try.prog ops Q rest (a.put o.dst (.tuple #[])) w') : wpListIn F nF Try.prog ops Q (o :: rest) a w := by
  obtain ⟨D, hown, hD⟩ := h
  refine wpListIn_delete_own w hg m x _ _ hop _ keyedInt Try.underlying33 _ b n D hm hown _ _ hx (keyOf_int_mk Try.underlying3 hk) (fun w' h1 h2 => hK w' ⟨_, h1, fun y hy => ?_⟩ h2.grown)
  by_cases e : y = k
  · subst e
    rw [has_del_same, atKey_del_same]
    simp
  · rw [has_del_other (litNe e), atKey_del_other (litNe e)]
    simp only [if_neg e]
    exact hD y hy
end

/-- What a loop over an iterator asks of an invariant, in the words used here. -/
theorem ownFrom_chg {β : Type} {B : Nat} {I : β → World → Prop} (h : ∀ s W W' own, I s W → Chg own W W' → (∀ j ∈ own, B ≤ j ∧ ∀ cs t r, W.heap[j]? ≠ some (.cells cs t r)) → I s W') : OwnFrom B I := by
  intro s W W' row hs hg hr
  refine h s W W' row.toList hs ((Chg.refl _ _).grown hg (fun j hj => Or.inl (by rw [hj]; simp))) (fun j hj => ?_)
  obtain ⟨h1, o, ho, hc⟩ := hr j (by simpa using hj)
  refine ⟨h1, fun cs t r e => ?_⟩
  rw [ho] at e
  cases e
  simp [Obj.isCells] at hc

theorem IntsAt.low {w : World} {v : Value} {l : List Int} (h : IntsAt w v l) (hl : l ≠ []) : ∃ b off n c, v = .slice (some ⟨b, off, none⟩) n c ∧ b < w.heap.size := by
  obtain ⟨ao, cap, rfl, -, -, h3⟩ := h
  obtain ⟨b, off, rfl, h4⟩ := h3 hl
  exact ⟨b, off, _, _, rfl, World.block_lt_of_cell? _ _ (h4 0 (List.length_pos_iff.2 hl))⟩

/-- A round that writes beyond the turns keeps what the iterator reads. -/
theorem itKeeps_chg {w2 A B : World} {own : List Nat} {Bs rb : Nat} {vd : Value} {ds : List Int} (hd : IntsAt w2 vd ds) (hrb : rb < w2.heap.size) (hc : Chg own A B) (ho : ∀ j ∈ own, w2.heap.size ≤ j ∧ j ≠ Bs) : ItKeeps Bs rb vd ds A B := by
  refine ⟨hc.size, fun h => ?_⟩
  obtain ⟨h1, h2, h3⟩ := h
  refine ⟨hc.cell h1 (fun e => (ho _ e).2 rfl), hc.cell h2 (fun e => by have := (ho _ e).1; simp at this; omega), ?_⟩
  by_cases hl : ds = []
  · subst hl
    obtain ⟨ao, cap, rfl, -, -, -⟩ := h3
    exact ⟨ao, cap, rfl, by simp, by simp, by simp⟩
  · obtain ⟨b, off, n, c, e, hb⟩ := hd.low hl
    refine h3.chg hc (fun b' n' c' e' hm => ?_)
    rw [e] at e'
    cases e'
    have := (ho _ hm).1
    simp at this
    omega

/-- A block that is no cells keeps it, too. -/
theorem itKeeps_put {W : World} {l Bs rb : Nat} {vd : Value} {ds : List Int} {o o' : Obj} (ho : W.heap[l]? = some o) (hc : o.isCells = false) : ItKeeps Bs rb vd ds W (W.putObj l o') := by
  have hch : Chg [l] W (W.putObj l o') := (Chg.refl _ _).grown (grownBy_putObj' W l o') (fun j hj => by cases hj; exact Or.inl (by simp))
  have hne : ∀ {b i : Nat} {v : Value}, W.cell? ⟨b, i, none⟩ = some v → b ≠ l := fun h e => by
    subst e
    unfold World.cell? at h
    simp only [ho] at h
    cases o <;> simp [Obj.isCells] at hc h
  refine ⟨hch.size, fun h => ?_⟩
  obtain ⟨h1, h2, h3⟩ := h
  refine ⟨hch.cell h1 (by simpa using hne h1), hch.cell h2 (by simpa using hne h2), ?_⟩
  obtain ⟨ao, cap, rfl, k1, k2, k3⟩ := h3
  refine ⟨ao, cap, rfl, k1, k2, fun hl => ?_⟩
  obtain ⟨b, off, rfl, k4⟩ := k3 hl
  exact ⟨b, off, rfl, fun i hi => hch.cell (k4 i hi) (by simpa using hne (k4 i hi))⟩

theorem itKeeps_trans {Bs rb : Nat} {vd : Value} {ds : List Int} {A B C : World} (h : ItKeeps Bs rb vd ds A B) (k : ItKeeps Bs rb vd ds B C) : ItKeeps Bs rb vd ds A C := ⟨Nat.le_trans h.1 k.1, fun x => k.2 (h.2 x)⟩

namespace Plain
theorem dart_small {g : Gr} {p : Pt} (h : p.err g = 0) {x : Int} (hx : x ∈ p.darts) : 0 ≤ x ∧ x < 2048 := by
  rw [mem_darts] at hx
  obtain ⟨i, hi, e⟩ := mem_getD hx
  have h1 := rises_at (Pt.err_ok h).2.2.1 hi
  have h2 := Gr.err_ok (Pt.err_ok h).1
  omega
end Plain

end Go.Proofs.Ytfgbkpbakignhaa
