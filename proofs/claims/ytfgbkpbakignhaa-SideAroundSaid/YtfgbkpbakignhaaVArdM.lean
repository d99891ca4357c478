/- side.Around's closure, slices.IndexFunc at it, an append to a stretch of a row: contracts. Conditions: what each theorem says. -/
import Derived.Test.YtfgbkpbakignhaaVFirstP
import Derived.Test.YtfgbkpbakignhaaVQueue
import Derived.Test.YtfgbkpbakignhaaVCycS
import Derived.Test.YtfgbkpbakignhaaVKit
import Derived.Test.YtfgbkpbakignhaaVSetsC
import Derived.Test.YtfgbkpbakignhaaVSums
import Derived.Test.YtfgbkpbakignhaaVWhole
import Derived.Test.YtfgbkpbakignhaaVMisc
import Derived.Test.YtfgbkpbakignhaaVSmall
namespace Go.Proofs.Ytfgbkpbakignhaa
open Go.RowKit Go.Maps

theorem run_qput2 {w : World} {H : Nat} {v : Value} {q : List Int} {x : Int} (hq : QRow w H v q) (hx : I64 x) (hH : H ≤ w.heap.size) (hn : q.length + 1 < 4294967296) (ty : TypeId) :
    ∃ v' w', (Builtin.append_ #[25, 25] ty #[v, .slice (some ⟨w.heap.size, 0, none⟩) 1 1]).run Try.prog (w.alloc (.cells #[.int .i64 x] 3)) = .ok v' w' ∧ QRow w' H v' (q ++ [x]) ∧ Chg v.ownBlock.toList w w' ∧ ∀ b ∈ v'.ownBlock.toList, b ∈ v.ownBlock.toList ∨ w.heap.size ≤ b := by
  obtain ⟨h1, h2, h3⟩ := hq
  have hca : Chg [] w (w.alloc (.cells #[.int .i64 x] 3)) := (Chg.refl [] w).alloc _
  have hsz : (w.alloc (.cells #[.int .i64 x] 3)).heap.size = w.heap.size + 1 := by simp
  obtain ⟨i0, hi, hz0, hz1, hz2⟩ := info_parts elemInt.hi
  have hxs : ∀ y ∈ q ++ [x], I64 y := fun y hy => (List.mem_append.1 hy).elim (h1 y) (fun e => by simp at e; subst e; exact hx)
  have hlen : (q ++ [x]).length < 4294967296 := by simp; omega
  have hnews : ∀ j u, [Value.int .i64 x][j]? = some u → (w.alloc (.cells #[.int .i64 x] 3)).cell? ((⟨w.heap.size, 0, none⟩ : Addr).add j) = some u := cell_one_new w _ _
  rcases h3 with ⟨rfl, rfl⟩ | ⟨g, off, cap, cur, rfl, hg, hh, hnc, hcm, hoc, hcs⟩
  · obtain ⟨g, c, w', hr, r1, r2, r3⟩ := run_app elemInt (w0 := w) (B := H) (v := .slice none 0 0) (n := 0) (xs := []) (World.ownsRow_nil _ _ _ _) hH (cs := #[.int .i64 x]) rfl (oneInt x) (by omega) (Or.inl rfl) ty
    refine ⟨_, w', hr, QRow.of_row ⟨by simpa [ints] using r1, by simpa using hx, by simp⟩, r2, fun b hb => ?_⟩
    have e : b = g := by simpa [Value.ownBlock] using hb
    subst e
    exact r3.imp (fun q => by cases q) id
  · have hh1 := hca.heap hh (by simp)
    by_cases hroom : q.length + 1 ≤ cap
    · have hr := run_append_room_cells (P := Try.prog) (w.alloc (.cells #[.int .i64 x] 3)) 25 ty 3 i0 elemInt.ht hi g off q.length cap ⟨w.heap.size, 0, none⟩ 1 1 [.int .i64 x] (by rw [hz1]; rfl) hnews (by intro u hu; simp at hu; subst hu; rfl) hroom
        (fun j hj => by
          have : j = 0 := by simpa using hj
          subst this
          have hlt : off + q.length < cur.size := by omega
          rw [hz1, cell_of_row _ g _ cur _ _ hh1]
          simp [hlt])
        (fun j hj => by simp [World.frozen?, hh1])
      rw [hz1, Nat.mul_one] at hr
      have hset : (w.alloc (.cells #[.int .i64 x] 3)).setCells g (off + q.length) [.int .i64 x] = (w.alloc (.cells #[.int .i64 x] 3)).setCell ⟨g, off + q.length, none⟩ (.int .i64 x) := rfl
      rw [hset] at hr
      refine ⟨_, _, hr, ⟨hxs, hlen, Or.inr ⟨g, off, cap, cur.setIfInBounds (off + q.length) (.int .i64 x), by simp, hg, heap_setCell_same hh1 _ _, by simp; omega, hcm, by simpa using hoc, fun i hi => ?_⟩⟩, ?_, fun b hb => Or.inl (by simpa [Value.ownBlock] using hb)⟩
      · by_cases e : i = q.length
        · subst e
          simp [List.getD, show off + q.length < cur.size by omega]
        · have hi' : i < q.length := by simp at hi; omega
          rw [Array.getElem?_setIfInBounds_ne (by omega), hcs i hi']
          simp [List.getD, hi', List.getElem?_append_left hi']
      · exact ((Chg.refl _ w).alloc _).setCell (Or.inl (by simp [Value.ownBlock])) _
    · have hold : ∀ j u, (ints q)[j]? = some u → (w.alloc (.cells #[.int .i64 x] 3)).cell? ((⟨g, off, none⟩ : Addr).add j) = some u := by
        intro j u hj
        rw [Addr.add_lit]
        exact qcells hh1 hcs j u hj
      obtain ⟨v', w', hr, r1, r2⟩ := run_append_arg_grows (P := Try.prog) (w.alloc (.cells #[.int .i64 x] 3)) 25 ty 3 i0 (.int .i64 0) 1 8 elemInt.ht hi hz0 hz1 hz2 elemInt.hz elemInt.h0 ⟨g, off, none⟩ q.length cap (ints q) (by simp [ints]) hold ⟨w.heap.size, 0, none⟩ 1 1 [.int .i64 x] rfl hnews (by omega) (by unfold maxLen; omega) (by omega)
      have hrow : RowAt w' (w.heap.size + 1) v' (q ++ [x]) := ⟨by rw [List.length_append]; rw [hsz] at r1; simpa [ints] using r1, hxs, hlen⟩
      exact ⟨v', w', hr, QRow.of_row (hrow.base (by omega)), (((Chg.refl [] w).alloc _).grown r2 (by simp)).mono (by simp), fun b hb => Or.inr (by have := (hrow.low b hb).1; omega)⟩

theorem wl_qput2 {ops : Array Oper} {rest : List Oper} {o : Oper} {a : Act} {Q : Exit → Act → World → Prop} {w : World} (hg : o.guard = none) (s x : Operand) (ho : o.op = .call { callee := .builtin .append, args := #[s, x], argTypes := #[25, 25] })
    {H : Nat} {v : Value} {q : List Int} {z : Int} (hs : a.eval s = v) (hx : a.eval x = .slice (some ⟨w.heap.size, 0, none⟩) 1 1) (hq : QRow w H v q) (hz : I64 z) (hH : H ≤ w.heap.size) (hn : q.length + 1 < 4294967296)
    (hK : ∀ v' w', QRow w' H v' (q ++ [z]) → Chg v.ownBlock.toList w w' → (∀ b ∈ v'.ownBlock.toList, b ∈ v.ownBlock.toList ∨ w.heap.size ≤ b) → wpList Try.prog ops Q rest (a.put o.dst v') w') : wpList Try.prog ops Q (o :: rest) a (w.alloc (.cells #[.int .i64 z] 3)) := by
  refine wpList_plain hg fun K hK' => ?_
  obtain ⟨v', w', hr, r1, r2, r3⟩ := run_qput2 hq hz hH hn o.type
  unfold Oper.wp execOp
  simp only [ho, resolve, invoke, builtin, Sem.run_bind, Sem.run_pure, Result.andThen_ok, List.map_toArray, List.map_cons, List.map_nil, hs, hx, hr]
  exact hK' _ _ (hK v' w' r1 r2 r3)

/-- What a stretch reads as, from a place on. -/
theorem QRow.cells {w : World} {H : Nat} {v : Value} {q : List Int} (h : QRow w H v q) (h0 : 0 < q.length) : ∃ g off cap, v = .slice (some ⟨g, off, none⟩) q.length cap ∧ H ≤ g ∧ q.length ≤ cap ∧ cap ≤ 9223372036854775807 ∧ ∀ i, i < q.length → w.cell? ⟨g, off + i, none⟩ = some (.int .i64 (q.getD i 0)) := by
  rcases h.2.2 with ⟨-, rfl⟩ | ⟨g, off, cap, cur, rfl, hg, hh, hnc, hcm, hoc, hcs⟩
  · simp at h0
  · exact ⟨g, off, cap, rfl, hg, hnc, hcm, fun i hi => (cell_of_row w g (off + i) cur _ _ hh).trans (hcs i hi)⟩
theorem QRow.ints {w : World} {H : Nat} {v : Value} {q : List Int} (h : QRow w H v q) : IntsAt w v q := by
  by_cases h0 : 0 < q.length
  · obtain ⟨g, off, cap, rfl, -, -, -, hc⟩ := h.cells h0
    exact ⟨_, cap, rfl, h.1, by have := h.2.1; omega, fun _ => ⟨g, off, rfl, hc⟩⟩
  · obtain rfl : q = [] := List.length_eq_zero_iff.1 (by omega)
    obtain ⟨ao, c, rfl⟩ := h.shape
    exact ⟨ao, c, rfl, by simp, by simp, fun hn => absurd rfl hn⟩
/-- Cut short, without room. -/
theorem QRow.cut {w : World} {H g off n cap : Nat} {q : List Int} (h : QRow w H (.slice (some ⟨g, off, none⟩) n cap) q) {i : Nat} (hi : i ≤ q.length) : QRow w H (.slice (some ⟨g, off, none⟩) i i) (q.take i) := by
  have hl : (q.take i).length = i := by rw [List.length_take]; omega
  refine ⟨fun x hx => h.1 x (List.mem_of_mem_take hx), by have := h.2.1; omega, ?_⟩
  rcases h.2.2 with ⟨e, -⟩ | ⟨g', off', cap', cur, e, hg, hh, hnc, hcm, hoc, hcs⟩
  · cases e
  · simp only [Value.slice.injEq, Option.some.injEq, Addr.mk.injEq, and_true] at e
    obtain ⟨⟨rfl, rfl⟩, rfl, rfl⟩ := e
    exact Or.inr ⟨g, off, i, cur, by rw [hl], hg, hh, by rw [hl]; exact Nat.le_refl _, by have := h.2.1; omega, by omega, fun j hj => by
      rw [hl] at hj
      rw [Plain.getD_take hj]
      exact hcs j (by omega)⟩

set_option maxRecDepth 100000 in
theorem here_any (gb tb n : Nat) (g : Plain.Gr) (eo : Option Addr) (cap : Nat) (t : Int) (w : World) (hn : n / 2 < g.e.length) (hgl : g.e.length < 4294967296) (hg : GrAt w (.agg #[.int .i64 g.n, .slice eo g.e.length cap]) g) (c0 : w.cell? ⟨gb, 0, none⟩ = some (.int .i64 g.n)) (c1 : w.cell? ⟨gb, 1, none⟩ = some (.slice eo g.e.length cap)) (ct : w.cell? ⟨tb, 0, none⟩ = some (.int .i64 t)) :
    Calls Try.prog 35 #[.int .i64 n, .pointer (some ⟨gb, 0, none⟩), .pointer (some ⟨tb, 0, none⟩)] w fun e w' => e = .returned (.bool (decide (g.tail n = t))) ∧ Chg [] w w' := by
  have HG := Lib.hid hg
  clear hg
  go_enter Try.func35, Try.ntmps35
  go_wp2
  have hS0 : Chg [] w w.drew := (Chg.refl [] w).drew
  refine wp_region_way (Chg [] w) [0, 1, 3, 4, 5] (Way.line [0, 1, 3, 2, 4, 5] .done) (by kernel_rfl) (by kernel_rfl) ?_
  simp only [Way.line]
  repeat
    first
      | (refine along_off rfl (by rfl) (by rfl) (fun _ _ _ h => h) hS0 ?_; simp only [Act.put, List.getElem_toArray, List.getElem_cons_zero, List.getElem_cons_succ, List.setIfInBounds_toArray, List.set_cons_zero, List.set_cons_succ])
      | (refine along_read (v := ?_) rfl (by rfl) (by rfl) (fun _ _ _ h => h) hS0 (fun w' hS' => ?_) ?_; rotate_left; (focus (have rd0 := hS'.cell c0 (by simp); have rd1 := hS'.cell c1 (by simp); have rd2 := hS'.cell ct (by simp); clear hS'; go_simp; try with_reducible rfl)); simp only [Act.put, List.getElem_toArray, List.getElem_cons_zero, List.getElem_cons_succ, List.setIfInBounds_toArray, List.set_cons_zero, List.set_cons_succ])
      | (refine along_skip rfl (by rfl) (by rfl) hS0 ?_; simp only [Act.put, List.getElem_toArray, List.getElem_cons_zero, List.getElem_cons_succ, List.setIfInBounds_toArray, List.set_cons_zero, List.set_cons_succ])
  refine along_op rfl (by rfl) (by rfl) (fun K hK => ?_)
  go_simp
  refine (leavesS_any _ g n _ hn hgl (HG.out.fresh hS0)).mono ?_
  rintro e w2 ⟨rfl, hcx⟩
  have hS1 := hS0.trans hcx (by simp)
  clear hS0 hcx
  have hS0 := hS1
  clear hS1
  refine hK.out _ _ (fun _ => hS0) ?_
  clear hK K
  try simp only [Act.put, List.getElem_toArray, List.getElem_cons_zero, List.getElem_cons_succ, List.setIfInBounds_toArray, List.set_cons_zero, List.set_cons_succ]
  obtain ⟨z, hz⟩ : ∃ z, g.tail (n : Int) = z := ⟨_, rfl⟩
  have HZ := Lib.hid hz
  rw [hz]
  clear hz
  by_cases q : z = t
  · have b1 : (z == t) = true := by rw [beq_iff_eq]; exact q
    have HQ := Lib.hid (show decide (g.tail (n : Int) = t) = true by rw [HZ.out]; exact decide_eq_true q)
    clear q
    repeat
      first
        | (refine along_off rfl (by rfl) (by rfl) (fun _ _ _ h => h) hS0 ?_; simp only [Act.put, List.getElem_toArray, List.getElem_cons_zero, List.getElem_cons_succ, List.setIfInBounds_toArray, List.set_cons_zero, List.set_cons_succ])
        | (refine along_read (v := ?_) rfl (by rfl) (by rfl) (fun _ _ _ h => h) hS0 (fun w' hS' => ?_) ?_; rotate_left; (focus (have rd0 := hS'.cell c0 (by simp); clear hS'; go_simp; try with_reducible rfl)); simp only [Act.put, List.getElem_toArray, List.getElem_cons_zero, List.getElem_cons_succ, List.setIfInBounds_toArray, List.set_cons_zero, List.set_cons_succ])
        | (refine along_skip rfl (by rfl) (by rfl) hS0 ?_; simp only [Act.put, List.getElem_toArray, List.getElem_cons_zero, List.getElem_cons_succ, List.setIfInBounds_toArray, List.set_cons_zero, List.set_cons_succ])
    refine along_done ?_
    have HCF := Lib.hid hS0
    clear hS0 c0 c1 ct
    go_wp2
    go_ret
    exact ⟨ret_bool HQ.out.symm, HCF.out⟩
  · have b1 : (z == t) = false := by rw [beq_eq_false_iff_ne]; exact q
    have HQ := Lib.hid (show decide (g.tail (n : Int) = t) = false by rw [HZ.out]; exact decide_eq_false q)
    clear q
    repeat
      first
        | (refine along_off rfl (by rfl) (by rfl) (fun _ _ _ h => h) hS0 ?_; simp only [Act.put, List.getElem_toArray, List.getElem_cons_zero, List.getElem_cons_succ, List.setIfInBounds_toArray, List.set_cons_zero, List.set_cons_succ])
        | (refine along_read (v := ?_) rfl (by rfl) (by rfl) (fun _ _ _ h => h) hS0 (fun w' hS' => ?_) ?_; rotate_left; (focus (have rd0 := hS'.cell c0 (by simp); clear hS'; go_simp; try with_reducible rfl)); simp only [Act.put, List.getElem_toArray, List.getElem_cons_zero, List.getElem_cons_succ, List.setIfInBounds_toArray, List.set_cons_zero, List.set_cons_succ])
        | (refine along_skip rfl (by rfl) (by rfl) hS0 ?_; simp only [Act.put, List.getElem_toArray, List.getElem_cons_zero, List.getElem_cons_succ, List.setIfInBounds_toArray, List.set_cons_zero, List.set_cons_succ])
    refine along_done ?_
    have HCF := Lib.hid hS0
    clear hS0 c0 c1 ct
    go_wp2
    go_ret
    exact ⟨ret_bool HQ.out.symm, HCF.out⟩

set_option maxRecDepth 100000 in
set_option maxHeartbeats 2000000 in
theorem index_any (gb tb : Nat) (g : Plain.Gr) (eo : Option Addr) (cap : Nat) (v : Value) (q : List Int) (t : Int) (w : World) (hq : ∀ d ∈ q, ∃ n : Nat, d = n ∧ n / 2 < g.e.length) (hql : q.length < 1000000000) (hgl : g.e.length < 4294967296) (hg : GrAt w (.agg #[.int .i64 g.n, .slice eo g.e.length cap]) g) (hv : IntsAt w v q) (c0 : w.cell? ⟨gb, 0, none⟩ = some (.int .i64 g.n)) (c1 : w.cell? ⟨gb, 1, none⟩ = some (.slice eo g.e.length cap)) (ct : w.cell? ⟨tb, 0, none⟩ = some (.int .i64 t)) :
    Calls Try.prog 34 #[v, .func (Fn.func 35) #[] #[.pointer (some ⟨gb, 0, none⟩), .pointer (some ⟨tb, 0, none⟩)]] w fun e w' => e = .returned (.int .i64 (ixOf (Plain.backAt g q t))) ∧ Chg [] w w' := by
  have HG := Lib.hid hg
  have HQ := Lib.hid hq
  have HV := Lib.hid hv
  have C0 := Lib.hid c0
  have C1 := Lib.hid c1
  have CT := Lib.hid ct
  obtain ⟨ao, ac, rfl, -, -, -⟩ := hv
  clear hg hq c0 c1 ct
  go_enter Try.func34, Try.ntmps34
  go_wp2
  go_loopw [8] (fun c wr => ∃ k : Nat, k ≤ q.length ∧ c = .int .i64 k ∧ Hid (∀ j, j < k → g.tail (q.getD j 0) ≠ t) ∧ Chg [] w wr) (fun c _ => q.length - (intOf c).toNat)
  case atStart => exact ⟨0, Nat.zero_le _, rfl, Lib.hid (by omega), Chg.refl _ _⟩
  case round =>
    obtain ⟨k, hk, rfl, HN, hc⟩ := hrel
    have HC := Lib.hid hc
    by_cases hlt : k < q.length
    · obtain ⟨rb, roff, rfl, rc⟩ := IntsAt.cellAt HV.out hlt
      have rcell := hc.cell rc (by simp)
      obtain ⟨n, e1, e2⟩ := HQ.out _ (Plain.getD_mem hlt)
      have HHIT := Lib.hid (fun (h : g.tail (q.getD k 0) = t) => Plain.backAt_hit hlt h HN.out)
      have HNN := Lib.hid (fun (h : g.tail (q.getD k 0) ≠ t) j (hj : j < k + 1) => (show g.tail (q.getD j 0) ≠ t from by
        by_cases e : j = k
        · rw [e]; exact h
        · exact HN.out j (by omega)))
      rw [e1] at rcell HHIT HNN
      clear rc e1 hc
      go_wp2_with fail
      refine (here_any gb tb n g eo cap t _ e2 hgl (HG.out.fresh HC.out) (HC.out.cell C0.out (by simp)) (HC.out.cell C1.out (by simp)) (HC.out.cell CT.out (by simp))).mono ?_
      rintro e w2 ⟨rfl, hc2⟩
      have HC2 := Lib.hid (HC.out.trans hc2 (by simp))
      clear hc2 rcell
      by_cases h : g.tail (n : Int) = t
      · have HI := Lib.hid (HHIT.out h)
        rw [decide_eq_true h]
        clear h
        go_wp2
        go_ret
        exact ⟨ret_int (show ((k : Nat) : Int) = _ by rw [HI.out]; rfl), HC2.out⟩
      · have HI := Lib.hid (HNN.out h)
        rw [decide_eq_false h]
        clear h
        go_wp2
        go_roundw
        case rel => exact ⟨k + 1, by omega, by go_num, HI, HC2.out⟩
        case measure => simp [intOf]; omega
    · have e : k = q.length := by omega
      subst e
      have HI := Lib.hid (Plain.backAt_miss HN.out)
      clear hc
      go_wp2
      go_ret
      exact ⟨ret_int (show (-1 : Int) = _ by rw [HI.out]; rfl), HC.out⟩
end Go.Proofs.Ytfgbkpbakignhaa
/- The drawing of a triangle and a lone vertex, plainly. No program here. -/
namespace Go.Proofs.Ytfgbkpbakignhaa.Plain
def g1 : Gr := ⟨4, [(0, 1), (1, 2), (2, 0)]⟩
def p1 : Pt := ⟨[0, 1, 2, 3], [0, 1, 2]⟩
def t1 : List (List Int) := [[0, 5], [1, 2], [3, 4], []]
def w1 : List Face := [(-4, []), (0, [0, 2, 4]), (1, [1, 5, 3])]

theorem err1 : p1.err g1 = 0 := by decide
theorem part1 : PartOk g1 p1 := Pt.ok_of_err err1
theorem near1 {u w : Int} (h : Near g1 p1 u w) : (u = 0 ∧ w = 1) ∨ (u = 1 ∧ w = 2) ∨ (u = 2 ∧ w = 0) ∨ (u = 1 ∧ w = 0) ∨ (u = 2 ∧ w = 1) ∨ (u = 0 ∧ w = 2) := by
  obtain ⟨e, he, h⟩ := h
  simp only [p1, List.mem_cons, List.not_mem_nil, or_false] at he
  have q0 : g1.at 0 = (0, 1) := rfl
  have q1 : g1.at 1 = (1, 2) := rfl
  have q2 : g1.at 2 = (2, 0) := rfl
  rcases he with rfl | rfl | rfl
  · rw [q0] at h; simp only [Prod.mk.injEq] at h; omega
  · rw [q1] at h; simp only [Prod.mk.injEq] at h; omega
  · rw [q2] at h; simp only [Prod.mk.injEq] at h; omega
theorem near01 : Near g1 p1 0 1 := ⟨0, by decide, Or.inl rfl⟩
theorem near02 : Near g1 p1 0 2 := ⟨2, by decide, Or.inr rfl⟩
theorem come1 (u : Int) : u ∈ ([0, 1, 2] : List Int) ↔ Come g1 p1 (-1) 0 u := by
  refine come_iff (by decide) (fun u hu => ?_) (fun u hu w hw _ => ?_) u
  · simp only [List.mem_cons, List.not_mem_nil, or_false] at hu
    rcases hu with rfl | rfl | rfl
    · exact .here
    · exact Come.step .here near01 (by decide)
    · exact Come.step .here near02 (by decide)
  · have := near1 hw
    simp only [List.mem_cons, List.not_mem_nil, or_false]
    omega
theorem come3 (u : Int) : u ∈ ([3] : List Int) ↔ Come g1 p1 (-1) 3 u := by
  refine come_iff (by decide) (fun u hu => ?_) (fun u hu w hw _ => ?_) u
  · rw [List.mem_singleton.1 hu]; exact .here
  · have := near1 hw
    rw [List.mem_singleton.1 hu] at this
    omega
theorem comp1 : comp g1 p1 0 = [0, 1, 2] := by
  have : comp g1 p1 0 = p1.v.filter fun u => decide (u ∈ ([0, 1, 2] : List Int)) := by
    unfold comp
    exact List.filter_congr fun u _ => by rw [decide_eq_decide]; exact (come1 u).symm
  rw [this]; decide
theorem comp3 : comp g1 p1 3 = [3] := by
  have : comp g1 p1 3 = p1.v.filter fun u => decide (u ∈ ([3] : List Int)) := by
    unfold comp
    exact List.filter_congr fun u _ => by rw [decide_eq_decide]; exact (come3 u).symm
  rw [this]; decide
theorem roots1 : roots g1 p1 = [0, 3] := by
  have h1 : ∀ v : Int, v ∈ p1.v → ((∀ u ∈ p1.v, Come g1 p1 (-1) v u → v ≤ u) ↔ v = 0 ∨ v = 3) := by
    intro v hv
    constructor
    · intro h
      simp only [p1, List.mem_cons, List.not_mem_nil, or_false] at hv
      rcases hv with rfl | rfl | rfl | rfl
      · exact Or.inl rfl
      · have := h 0 (by decide) (((come1 1).1 (by decide)).symm (by decide)).2; omega
      · have := h 0 (by decide) (((come1 2).1 (by decide)).symm (by decide)).2; omega
      · exact Or.inr rfl
    · rintro (rfl | rfl)
      · intro u hu _
        simp only [p1, List.mem_cons, List.not_mem_nil, or_false] at hu
        omega
      · intro u _ hc
        have := (come3 u).2 hc
        simp only [List.mem_cons, List.not_mem_nil, or_false] at this
        omega
  have : roots g1 p1 = p1.v.filter fun v => decide (v = 0 ∨ v = 3) := by
    unfold roots
    exact List.filter_congr fun u hu => by rw [decide_eq_decide]; exact h1 u hu
  rw [this]; decide
theorem turns1 : TurnsOk g1 p1 t1 := by
  refine turns_of_rows part1 rfl fun v hv => ?_
  have hv : (v : Int) < 4 := hv
  rcases (show v = 0 ∨ v = 1 ∨ v = 2 ∨ v = 3 by omega) with rfl | rfl | rfl | rfl <;> (unfold rowOk; decide)
theorem trk1 : Trk g1 p1 t1 [(0, [0, 2, 4]), (1, [1, 5, 3])] p1.darts := by
  refine ⟨⟨fun c hc => ?_, by decide⟩, by decide, fun f hf => ?_, by decide, fun f hf => ?_, by decide⟩
  · simp only [List.map_cons, List.map_nil, List.mem_cons, List.not_mem_nil, or_false] at hc
    rcases hc with rfl | rfl
    · exact ⟨by decide, by decide, show nextDart g1 t1 4 = 0 by decide⟩
    · exact ⟨by decide, by decide, show nextDart g1 t1 3 = 1 by decide⟩
  · simp only [List.mem_cons, List.not_mem_nil, or_false] at hf
    rcases hf with rfl | rfl
    · exact ⟨_, rfl⟩
    · exact ⟨_, rfl⟩
  · simp only [List.mem_cons, List.not_mem_nil, or_false] at hf
    rcases hf with rfl | rfl
    · exact ⟨[], [1, 2, 3, 4, 5], by decide, by decide⟩
    · exact ⟨[0], [2, 3, 4, 5], by decide, by decide⟩
theorem walks1 : WalksOk g1 p1 t1 w1 := trk1.walks part1
theorem walksOf1 : walksOf g1 p1 t1 = w1 := (walks1.eq err1).symm
theorem turnErr1 : turnErr g1 p1 t1 = 0 := turnErr_ok err1 turns1
theorem flat1 : Flat g1 p1 t1 := by
  intro r hr
  rw [walksOf1]
  rw [roots1] at hr
  unfold genusAt
  simp only [List.mem_cons, List.not_mem_nil, or_false] at hr
  rcases hr with rfl | rfl
  · rw [comp1]; decide
  · rw [comp3]; decide
theorem flatErr1 : flatErr g1 p1 t1 = 0 := flatErr_ok turnErr1 flat1
theorem pieceIx10 : pieceIx g1 p1 0 = 0 := pieceIx_eq part1 (by rw [roots1]; decide) (by rw [roots1]; show (0 : Int) ∈ comp g1 p1 0; rw [comp1]; decide)
theorem pieceIx11 : pieceIx g1 p1 1 = 0 := pieceIx_eq part1 (by rw [roots1]; decide) (by rw [roots1]; show (1 : Int) ∈ comp g1 p1 0; rw [comp1]; decide)
theorem pieceIx13 : pieceIx g1 p1 3 = 1 := pieceIx_eq part1 (by rw [roots1]; decide) (by rw [roots1]; show (3 : Int) ∈ comp g1 p1 3; rw [comp3]; decide)
theorem owner14 : ownerOf g1 p1 w1 (-4) = some 1 := by
  have : ownerOf g1 p1 w1 (-4) = some ((pieceIx g1 p1 3 : Nat) : Int) := rfl
  rw [this, pieceIx13]; rfl
theorem owner10 : ownerOf g1 p1 w1 0 = some 0 := by
  have : ownerOf g1 p1 w1 0 = some ((pieceIx g1 p1 0 : Nat) : Int) := rfl
  rw [this, pieceIx10]; rfl
theorem owner11 : ownerOf g1 p1 w1 1 = some 0 := by
  have : ownerOf g1 p1 w1 1 = some ((pieceIx g1 p1 1 : Nat) : Int) := rfl
  rw [this, pieceIx11]; rfl
theorem run1 {k : Int} (hk : k = 0 ∨ k = 1) : sameRun (ownerOf g1 p1 w1) [[-4, k]] (St.new (upTo 2), []) 1 = some ((St.new (upTo 2)).join 1 0, [-4, k]) := by
  have ho : ownerOf g1 p1 w1 k = some 0 := by rcases hk with rfl | rfl; exact owner10; exact owner11
  refine sameRun_next (c := (St.new (upTo 2), [])) rfl ?_ ?_
  · rcases hk with rfl | rfl <;> decide
  · refine listRun_next (c := (St.new (upTo 2), [-4])) (k := 1) ?_ ?_
    · refine listRun_next (c := (St.new (upTo 2), [])) (k := 0) rfl ?_
      exact keyStep_first (a := 1) owner14 (by simp)
    · refine keyStep_join (a := 0) (b := 1) (by decide) ho ?_ ?_ ?_ (by decide)
      · rcases hk with rfl | rfl <;> decide
      · rcases hk with rfl | rfl <;> decide
      · show (ownerOf g1 p1 w1 (-4)).getD 0 = 1
        rw [owner14]; rfl
theorem plan1w {k : Int} (hk : k = 0 ∨ k = 1) : planErr g1 p1 t1 [[-4, k]] = 0 := by
  rw [planErr_run flatErr1, roots1, walksOf1]
  show (match sameRun (ownerOf g1 p1 w1) [[-4, k]] (St.new (upTo 2), []) 1 with | none => (7 : Int) | some c => if 1 < c.1.count then 7 else 0) = 0
  rw [run1 hk]
  show (if 1 < ((St.new (upTo 2)).join 1 0).count then (7 : Int) else 0) = 0
  decide
end Go.Proofs.Ytfgbkpbakignhaa.Plain
/- Memory of the triangle and its drawing, as awake lays it. Condition: one place of the drawing's list is an int. -/
namespace Go.Proofs.Ytfgbkpbakignhaa
open Go.RowKit Go.Maps

theorem alloc_at (w : World) (o : Obj) (n : Nat) (h : w.heap.size = n) : (w.alloc o).heap[n]? = some o ∧ (w.alloc o).heap.size = n + 1 ∧ ∀ (b : Nat) (o' : Obj), w.heap[b]? = some o' → (w.alloc o).heap[b]? = some o' := by
  subst h
  exact ⟨heap_alloc_new w o, by simp, fun b o' hb => ((Chg.refl [] w).alloc o).heap hb (by simp)⟩
theorem ints_two {w : World} {b : Nat} {x y : Int} (h : w.heap[b]? = some (.cells #[.int .i64 x, .int .i64 y] 3)) (hx : I64 x) (hy : I64 y) : IntsAt w (.slice (some ⟨b, 0, none⟩) 2 2) [x, y] := by
  refine ⟨_, 2, rfl, by simp [hx, hy], by simp, fun _ => ⟨b, 0, rfl, fun i hi => ?_⟩⟩
  simp at hi
  rw [cell_of_row _ _ _ _ _ _ h]
  rcases i with _ | _ | i
  · rfl
  · rfl
  · omega
theorem ints_three {w : World} {b : Nat} {x y z : Int} (h : w.heap[b]? = some (.cells #[.int .i64 x, .int .i64 y, .int .i64 z] 3)) (hx : I64 x) (hy : I64 y) (hz : I64 z) : IntsAt w (.slice (some ⟨b, 0, none⟩) 3 3) [x, y, z] := by
  refine ⟨_, 3, rfl, by simp [hx, hy, hz], by simp, fun _ => ⟨b, 0, rfl, fun i hi => ?_⟩⟩
  simp at hi
  rw [cell_of_row _ _ _ _ _ _ h]
  rcases i with _ | _ | _ | i
  · rfl
  · rfl
  · rfl
  · omega
theorem lit_three (w : World) {x y z : Int} (hx : I64 x) (hy : I64 y) (hz : I64 z) : IntsAt (w.alloc (.cells #[.int .i64 x, .int .i64 y, .int .i64 z] 3)) (.slice (some ⟨w.heap.size, 0, none⟩) 3 3) [x, y, z] := ints_three (heap_alloc_new w _) hx hy hz
theorem capOk (b n : Nat) (h : n ≤ 100) : CapOk (.slice (some ⟨b, 0, none⟩) n n) := ⟨_, n, n, rfl, Nat.le_refl _, by omega⟩
theorem gr_tri {w : World} {b : Nat} (h : w.heap[b]? = some (.cells #[.int .i64 0, .int .i64 1, .int .i64 1, .int .i64 2, .int .i64 2, .int .i64 0] 42)) : GrAt w (.agg #[.int .i64 4, .slice (some ⟨b, 0, none⟩) 3 3]) Plain.g1 := by
  have hc := fun i => cell_of_row w b i _ _ _ h
  refine ⟨_, 3, rfl, I64.mk (by decide) (by decide), by decide, fun i hi => ?_, fun i hi => ⟨b, 0, rfl, ?_⟩⟩
  · have hi : i < 3 := hi
    rcases (show i = 0 ∨ i = 1 ∨ i = 2 by omega) with rfl | rfl | rfl
    · exact ⟨I64.mk (by decide) (by decide), I64.mk (by decide) (by decide)⟩
    · exact ⟨I64.mk (by decide) (by decide), I64.mk (by decide) (by decide)⟩
    · exact ⟨I64.mk (by decide) (by decide), I64.mk (by decide) (by decide)⟩
  · have hi : i < 3 := hi
    rcases (show i = 0 ∨ i = 1 ∨ i = 2 by omega) with rfl | rfl | rfl
    · exact ⟨(hc 0).trans rfl, (hc 1).trans rfl⟩
    · exact ⟨(hc 2).trans rfl, (hc 3).trans rfl⟩
    · exact ⟨(hc 4).trans rfl, (hc 5).trans rfl⟩
theorem pl_tri {w : World} {b0 b1 b2 b3 b4 b5 : Nat} {k : Int} (hk : I64 k) (h0 : w.heap[b0]? = some (.cells #[.int .i64 0, .int .i64 5] 3)) (h1 : w.heap[b1]? = some (.cells #[.int .i64 1, .int .i64 2] 3)) (h2 : w.heap[b2]? = some (.cells #[.int .i64 3, .int .i64 4] 3))
    (h3 : w.heap[b3]? = some (.cells #[.slice (some ⟨b0, 0, none⟩) 2 2, .slice (some ⟨b1, 0, none⟩) 2 2, .slice (some ⟨b2, 0, none⟩) 2 2, .slice none 0 0] 25)) (h4 : w.heap[b4]? = some (.cells #[.int .i64 (-4), .int .i64 k] 3)) (h5 : w.heap[b5]? = some (.cells #[.slice (some ⟨b4, 0, none⟩) 2 2] 25)) :
    PlAt w (.agg #[.slice (some ⟨b3, 0, none⟩) 4 4, .slice (some ⟨b5, 0, none⟩) 1 1]) Plain.t1 [[-4, k]] := by
  have i0 : ∀ x : Int, -100 ≤ x → x ≤ 100 → I64 x := fun x a b => I64.mk (by omega) (by omega)
  have hc3 := fun i => cell_of_row w b3 i _ _ _ h3
  have hc5 := fun i => cell_of_row w b5 i _ _ _ h5
  refine ⟨_, _, rfl, ⟨_, 4, rfl, by decide, fun i hi => ?_⟩, ⟨_, 1, rfl, by simp, fun i hi => ?_⟩⟩
  · have hi : i < 4 := hi
    rcases (show i = 0 ∨ i = 1 ∨ i = 2 ∨ i = 3 by omega) with rfl | rfl | rfl | rfl
    · exact ⟨b3, 0, _, rfl, (hc3 0).trans rfl, capOk _ _ (by decide), ints_two h0 (i0 _ (by decide) (by decide)) (i0 _ (by decide) (by decide))⟩
    · exact ⟨b3, 0, _, rfl, (hc3 1).trans rfl, capOk _ _ (by decide), ints_two h1 (i0 _ (by decide) (by decide)) (i0 _ (by decide) (by decide))⟩
    · exact ⟨b3, 0, _, rfl, (hc3 2).trans rfl, capOk _ _ (by decide), ints_two h2 (i0 _ (by decide) (by decide)) (i0 _ (by decide) (by decide))⟩
    · exact ⟨b3, 0, _, rfl, (hc3 3).trans rfl, ⟨none, 0, 0, rfl, by decide, by decide⟩, IntsAt.nil _⟩
  · have hi : i < 1 := by simpa using hi
    obtain rfl : i = 0 := by omega
    exact ⟨b5, 0, _, rfl, (hc5 0).trans rfl, capOk _ _ (by decide), ints_two h4 (i0 _ (by decide) (by decide)) hk⟩
end Go.Proofs.Ytfgbkpbakignhaa
