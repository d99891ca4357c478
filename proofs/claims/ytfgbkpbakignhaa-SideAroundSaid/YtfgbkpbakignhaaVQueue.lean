/- package walk: contracts of the queue's two closures. Conditions: the variable that holds the queue lies in memory and reads so. -/
import Derived.Test.YtfgbkpbakignhaaVRow
import Derived.ArgAppend
import Derived.Test.YtfgbkpbakignhaaVBase
import Derived.Maps.OwnRows
import Derived.Maps.GroupsBeside
namespace Go.Proofs.Ytfgbkpbakignhaa
open Go.RowKit Go.Maps

/-- v holds q: a stretch of a row of ints from block H on. -/
def QRow (w : World) (H : Nat) (v : Value) (q : List Int) : Prop :=
  (∀ x ∈ q, I64 x) ∧ q.length < 4294967296 ∧
  ((v = .slice none 0 0 ∧ q = []) ∨ ∃ g off cap cur, v = .slice (some ⟨g, off, none⟩) q.length cap ∧ H ≤ g ∧ w.heap[g]? = some (.cells cur 3 (0, 0)) ∧ q.length ≤ cap ∧ cap ≤ 9223372036854775807 ∧ off + cap ≤ cur.size ∧
    ∀ i, i < q.length → cur[off + i]? = some (.int .i64 (q.getD i 0)))

theorem QRow.chg {w w' : World} {H : Nat} {v : Value} {q : List Int} {own : List Nat} (h : QRow w H v q) (hc : Chg own w w') (hn : ∀ b ∈ v.ownBlock.toList, b ∉ own) : QRow w' H v q := by
  obtain ⟨h1, h2, h3⟩ := h
  refine ⟨h1, h2, h3.imp id ?_⟩
  rintro ⟨g, off, cap, cur, rfl, k1, k2, k3⟩
  exact ⟨g, off, cap, cur, rfl, k1, hc.heap k2 (hn g (by simp [Value.ownBlock])), k3⟩

theorem QRow.of_row {w : World} {H : Nat} {v : Value} {q : List Int} (h : RowAt w H v q) : QRow w H v q := by
  refine ⟨h.2.1, h.2.2, ?_⟩
  rcases h.1.2 with ⟨rfl, h0⟩ | ⟨g, cap, cur, rfl, hg, hh, hnc, hcm, hcs, hys⟩
  · exact Or.inl ⟨rfl, List.length_eq_zero_iff.1 h0⟩
  · refine Or.inr ⟨g, 0, cap, cur, rfl, hg, hh, hnc, hcm, by omega, fun i hi => ?_⟩
    have q1 : (ints q)[i]? = some (.int .i64 (q.getD i 0)) := by simp [ints, List.getD, hi]
    rw [← hys, List.getElem?_take, if_pos (by omega)] at q1
    rw [Nat.zero_add]
    simpa using q1

theorem qcells {w : World} {g off : Nat} {cur : Array Value} {q : List Int} (hh : w.heap[g]? = some (.cells cur 3 (0, 0))) (hq : ∀ i, i < q.length → cur[off + i]? = some (.int .i64 (q.getD i 0))) : ∀ j u, (ints q)[j]? = some u → w.cell? ⟨g, off + j, none⟩ = some u := by
  intro j u hj
  have hjl : j < q.length := by have := (List.getElem?_eq_some_iff.1 hj).1; simpa [ints] using this
  rw [cell_of_row w g (off + j) cur _ _ hh, hq j hjl, ← hj]
  simp [ints, List.getD, hjl]

/-- What an append of one number leaves. -/
theorem run_qput {w : World} {H : Nat} {v : Value} {q : List Int} {x : Int} (hq : QRow w H v q) (hx : I64 x) (hH : H ≤ w.heap.size) (hn : q.length + 1 < 4294967296) (ty : TypeId) :
    ∃ v' w', (Builtin.append_ #[25, 25] ty #[v, .slice (some ⟨w.heap.size, 0, none⟩) 1 1]).run Try.prog (w.alloc (.cells #[.int .i64 x] 3)) = .ok v' w' ∧ QRow w' H v' (q ++ [x]) ∧ Chg v.ownBlock.toList w w' := by
  obtain ⟨h1, h2, h3⟩ := hq
  have hca : Chg [] w (w.alloc (.cells #[.int .i64 x] 3)) := (Chg.refl [] w).alloc _
  have hsz : (w.alloc (.cells #[.int .i64 x] 3)).heap.size = w.heap.size + 1 := by simp
  obtain ⟨i0, hi, hz0, hz1, hz2⟩ := info_parts elemInt.hi
  have hxs : ∀ y ∈ q ++ [x], I64 y := fun y hy => (List.mem_append.1 hy).elim (h1 y) (fun e => by simp at e; subst e; exact hx)
  have hlen : (q ++ [x]).length < 4294967296 := by simp; omega
  have hnews : ∀ j u, [Value.int .i64 x][j]? = some u → (w.alloc (.cells #[.int .i64 x] 3)).cell? ((⟨w.heap.size, 0, none⟩ : Addr).add j) = some u := cell_one_new w _ _
  rcases h3 with ⟨rfl, rfl⟩ | ⟨g, off, cap, cur, rfl, hg, hh, hnc, hcm, hoc, hcs⟩
  · obtain ⟨g, c, w', hr, r1, r2, -⟩ := run_app elemInt (w0 := w) (B := H) (v := .slice none 0 0) (n := 0) (xs := []) (World.ownsRow_nil _ _ _ _) hH (cs := #[.int .i64 x]) rfl (oneInt x) (by omega) (Or.inl rfl) ty
    exact ⟨_, w', hr, QRow.of_row ⟨by simpa [ints] using r1, by simpa using hx, by simp⟩, r2⟩
  · have hh1 := hca.heap hh (by simp)
    by_cases hroom : q.length + 1 ≤ cap
    · have hr := run_append_room_cells (P := Try.prog) (w.alloc (.cells #[.int .i64 x] 3)) 25 ty 3 i0 elemInt.ht hi g off q.length cap ⟨w.heap.size, 0, none⟩ 1 1 [.int .i64 x] (by rw [hz1]; rfl) hnews (by intro u hu; simp at hu; subst hu; rfl) hroom
        (fun j hj => by
          have : j = 0 := by simpa using hj
          subst this
          have hlt : off + q.length < cur.size := by omega
          rw [hz1, cell_of_row _ g _ cur _ _ hh1]
          simp [hlt])
        (fun j hj => by simp [World.frozen?, hh1])
      rw [hz1, Nat.mul_one] at hr
      have hset : (w.alloc (.cells #[.int .i64 x] 3)).setCells g (off + q.length) [.int .i64 x] = (w.alloc (.cells #[.int .i64 x] 3)).setCell ⟨g, off + q.length, none⟩ (.int .i64 x) := rfl
      rw [hset] at hr
      refine ⟨_, _, hr, ⟨hxs, hlen, Or.inr ⟨g, off, cap, cur.setIfInBounds (off + q.length) (.int .i64 x), by simp, hg, heap_setCell_same hh1 _ _, by simp; omega, hcm, by simpa using hoc, fun i hi => ?_⟩⟩, ?_⟩
      · by_cases e : i = q.length
        · subst e
          simp [List.getD, show off + q.length < cur.size by omega]
        · have hi' : i < q.length := by simp at hi; omega
          rw [Array.getElem?_setIfInBounds_ne (by omega), hcs i hi']
          simp [List.getD, hi', List.getElem?_append_left hi']
      · exact ((Chg.refl _ w).alloc _).setCell (Or.inl (by simp [Value.ownBlock])) _
    · have hold : ∀ j u, (ints q)[j]? = some u → (w.alloc (.cells #[.int .i64 x] 3)).cell? ((⟨g, off, none⟩ : Addr).add j) = some u := by
        intro j u hj
        rw [Addr.add_lit]
        exact qcells hh1 hcs j u hj
      obtain ⟨v', w', hr, r1, r2⟩ := run_append_arg_grows (P := Try.prog) (w.alloc (.cells #[.int .i64 x] 3)) 25 ty 3 i0 (.int .i64 0) 1 8 elemInt.ht hi hz0 hz1 hz2 elemInt.hz elemInt.h0 ⟨g, off, none⟩ q.length cap (ints q) (by simp [ints]) hold ⟨w.heap.size, 0, none⟩ 1 1 [.int .i64 x] rfl hnews (by omega) (by unfold maxLen; omega) (by omega)
      have hrow : RowAt w' (w.heap.size + 1) v' (q ++ [x]) := ⟨by rw [List.length_append]; rw [hsz] at r1; simpa [ints] using r1, hxs, hlen⟩
      exact ⟨v', w', hr, QRow.of_row (hrow.base (by omega)), (((Chg.refl [] w).alloc _).grown r2 (by simp)).mono (by simp)⟩

theorem wl_qput {ops : Array Oper} {rest : List Oper} {o : Oper} {a : Act} {Q : Exit → Act → World → Prop} {w : World} (hg : o.guard = none) (s x : Operand) (ho : o.op = .call { callee := .builtin .append, args := #[s, x], argTypes := #[25, 25] })
    {H : Nat} {v : Value} {q : List Int} {z : Int} (hs : a.eval s = v) (hx : a.eval x = .slice (some ⟨w.heap.size, 0, none⟩) 1 1) (hq : QRow w H v q) (hz : I64 z) (hH : H ≤ w.heap.size) (hn : q.length + 1 < 4294967296)
    (hK : ∀ v' w', QRow w' H v' (q ++ [z]) → Chg v.ownBlock.toList w w' → wpList Try.prog ops Q rest (a.put o.dst v') w') : wpList Try.prog ops Q (o :: rest) a (w.alloc (.cells #[.int .i64 z] 3)) := by
  refine wpList_plain hg fun K hK' => ?_
  obtain ⟨v', w', hr, r1, r2⟩ := run_qput hq hz hH hn o.type
  unfold Oper.wp execOp
  simp only [ho, resolve, invoke, builtin, Sem.run_bind, Sem.run_pure, Result.andThen_ok, List.map_toArray, List.map_cons, List.map_nil, hs, hx, hr]
  exact hK' _ _ (hK v' w' r1 r2)

/-- The variable at B holds the queue q. -/
def QAt (w : World) (B H : Nat) (q : List Int) : Prop := ∃ v, w.heap[B]? = some (.cells #[v] 25 (0, 0)) ∧ QRow w H v q ∧ H ≤ B

/-- What may turn of it. -/
def QOwn (w : World) (H : Nat) (own : List Nat) : Prop := ∀ j ∈ own, H ≤ j ∧ ∃ cs t r, w.heap[j]? = some (.cells cs t r) ∧ (t = 3 ∨ t = 25)

theorem QRow.own {w : World} {H : Nat} {v : Value} {q : List Int} (h : QRow w H v q) : QOwn w H v.ownBlock.toList := by
  intro j hj
  rcases h.2.2 with ⟨rfl, -⟩ | ⟨g, off, cap, cur, rfl, hg, hh, -⟩
  · simp [Value.ownBlock] at hj
  · simp [Value.ownBlock] at hj
    subst hj
    exact ⟨hg, cur, _, _, hh, Or.inl rfl⟩

theorem QRow.shape {w : World} {H : Nat} {v : Value} {q : List Int} (h : QRow w H v q) : ∃ ao c, v = .slice ao q.length c := by
  rcases h.2.2 with ⟨rfl, rfl⟩ | ⟨g, off, cap, cur, rfl, -⟩
  · exact ⟨_, _, rfl⟩
  · exact ⟨_, _, rfl⟩

theorem QRow.ne {w : World} {H B : Nat} {v : Value} {q : List Int} {cs : Array Value} {r : Nat × Nat} (h : QRow w H v q) (hb : w.heap[B]? = some (.cells cs 25 r)) : ∀ j ∈ v.ownBlock.toList, j ≠ B := by
  intro j hj e
  subst e
  rcases h.2.2 with ⟨rfl, -⟩ | ⟨g, off, cap, cur, rfl, hg, hh, -⟩
  · simp [Value.ownBlock] at hj
  · simp [Value.ownBlock] at hj
    subst hj
    rw [hb] at hh
    simp at hh

theorem QAt.chg {w w' : World} {B H : Nat} {q : List Int} {own : List Nat} (h : QAt w B H q) (hc : Chg own w w') (hn : ∀ j ∈ own, ∀ cs t r, w.heap[j]? ≠ some (.cells cs t r)) : QAt w' B H q := by
  obtain ⟨v, hb, hq, hH⟩ := h
  refine ⟨v, hc.heap hb (fun e => hn B e _ _ _ hb), hq.chg hc (fun j hj e => ?_), hH⟩
  obtain ⟨-, cs, t, r, hh, -⟩ := hq.own j hj
  exact hn j e _ _ _ hh

theorem qput_any (B H : Nat) (q : List Int) (x : Int) (w : World) (hx : I64 x) (hH : H ≤ w.heap.size) (hn : q.length + 1 < 4294967296) (h : QAt w B H q) :
    Calls Try.prog 68 #[.int .i64 x, .pointer (some ⟨B, 0, none⟩)] w fun e w' => e = .returned (.tuple #[]) ∧ QAt w' B H (q ++ [x]) ∧ ∃ own, QOwn w H own ∧ Chg own w w' := by
  obtain ⟨v, hb, hq, hHB⟩ := h
  have c0 : w.cell? ⟨B, 0, none⟩ = some v := by rw [cell_of_row _ _ _ _ _ _ hb]; rfl
  have z0 : w.frozen? ⟨B, 0, none⟩ = false := by simp [World.frozen?, hb]
  have HNE := Lib.hid (hq.ne hb)
  have HOW : Hid (QOwn w H (B :: v.ownBlock.toList)) := by
    intro j hj
    rcases List.mem_cons.1 hj with rfl | hj
    · exact ⟨hHB, _, _, _, hb, Or.inr rfl⟩
    · exact hq.own j hj
  obtain ⟨ao, c, rfl⟩ := hq.shape
  have HQ := Lib.hid hq
  have HB := Lib.hid hb
  have HZ := Lib.hid z0
  have HC0 := Lib.hid c0
  clear hq hb
  go_enter Try.func68, Try.ntmps68
  go_wp2_with (at_builtin; refine wl_qput rfl _ _ rfl rfl rfl HQ.out hx hH hn ?_; intro v' w1 r1 c1; have NB : B ∉ (Value.slice ao q.length c).ownBlock.toList := fun e => HNE.out B e rfl; have k0 := c1.cell HC0.out NB; have kz := c1.frozen HC0.out HZ.out NB; have KB := Lib.hid (c1.heap HB.out NB); obtain ⟨ao', c', rfl⟩ := r1.shape; have R1 := Lib.hid r1; have C1 := Lib.hid c1; clear r1 c1 NB)
  refine bodyPost_end (v := .tuple #[]) (by simp [results, Try.results68, go_sem]) rfl ⟨rfl, ⟨_, heap_setCell_same KB.out 0 _, ?_, hHB⟩, _, HOW.out, ?_⟩
  · have hr := R1.out.chg ((Chg.refl [B] w1).setCell (p := ⟨B, 0, none⟩) (Or.inl (by simp)) (.slice ao' (q ++ [x]).length c')) (fun b hb => by simpa using R1.out.ne KB.out b hb)
    simpa using hr
  · exact ((show Chg (Value.slice ao q.length c).ownBlock.toList w w1 from C1.out).mono (fun j hj => Or.inl (List.mem_cons_of_mem _ hj))).setCell (Or.inl (by simp)) _

theorem qtake_none (B H : Nat) (w : World) (h : QAt w B H []) :
    Calls Try.prog 69 #[.pointer (some ⟨B, 0, none⟩)] w fun e w' => e = .returned (.tuple #[.int .i64 0, .bool false]) ∧ w = w' := by
  obtain ⟨v, hb, hq, hHB⟩ := h
  have c0 : w.cell? ⟨B, 0, none⟩ = some v := by rw [cell_of_row _ _ _ _ _ _ hb]; rfl
  obtain ⟨ao, c, rfl⟩ := hq.shape
  rw [List.length_nil] at c0
  clear hq hb
  go_enter Try.func69, Try.ntmps69
  go_wp2
  exact bodyPost_ret (v := .tuple #[.int .i64 0, .bool false]) (by simp [results, Try.results69, go_sem]) rfl ⟨rfl, rfl⟩

theorem qtake_some (B H : Nat) (x : Int) (q : List Int) (w : World) (h : QAt w B H (x :: q)) :
    Calls Try.prog 69 #[.pointer (some ⟨B, 0, none⟩)] w fun e w' => e = .returned (.tuple #[.int .i64 x, .bool true]) ∧ QAt w' B H q ∧ ∃ own, QOwn w H own ∧ Chg own w w' := by
  obtain ⟨v, hb, hq, hHB⟩ := h
  have c0 : w.cell? ⟨B, 0, none⟩ = some v := by rw [cell_of_row _ _ _ _ _ _ hb]; rfl
  have z0 : w.frozen? ⟨B, 0, none⟩ = false := by simp [World.frozen?, hb]
  have HNE := hq.ne hb
  have HOW : Hid (QOwn w H [B]) := by
    intro j hj
    simp at hj
    subst hj
    exact ⟨hHB, _, _, _, hb, Or.inr rfl⟩
  obtain ⟨h1, h2, h3⟩ := hq
  rcases h3 with ⟨-, e⟩ | ⟨g, off, cap, cur, rfl, hg, hh, hnc, hcm, hoc, hcs⟩
  · cases e
  · have hgB : g ≠ B := HNE g (by simp [Value.ownBlock])
    have ch : w.cell? ⟨g, off, none⟩ = some (.int .i64 x) := by
      rw [cell_of_row w g off cur _ _ hh]
      have := hcs 0 (by simp)
      simpa using this
    simp only [List.length_cons] at c0 hnc h2
    have fin : ∀ off' cap', Hid (off' + cap' ≤ cur.size ∧ q.length ≤ cap' ∧ cap' ≤ 9223372036854775807 ∧ ∀ i, i < q.length → cur[off' + i]? = some (.int .i64 (q.getD i 0))) → Hid (QAt (w.setCell ⟨B, 0, none⟩ (.slice (some ⟨g, off', none⟩) q.length cap')) B H q) := by
      intro off' cap' hk
      obtain ⟨k1, k2, k3, k4⟩ := hk.out
      refine Lib.hid ⟨_, heap_setCell_same hb 0 _, ⟨fun y hy => h1 y (by simp [hy]), by omega, Or.inr ⟨g, off', cap', cur, rfl, hg, ?_, k2, k3, k1, k4⟩⟩, hHB⟩
      exact ((Chg.refl [B] w).setCell (p := ⟨B, 0, none⟩) (Or.inl (by simp)) (.slice (some ⟨g, off', none⟩) q.length cap')).heap hh (by simpa using hgB)
    have hpos : (0 : Int) < ((q.length + 1 : Nat) : Int) := by omega
    have hl0 : (((q.length + 1 : Nat) : Int) == 0) = false := by rw [beq_eq_false_iff_ne]; omega
    have hl1 : q.length + 1 - 1 = q.length := by omega
    by_cases hcap : 1 = cap
    · subst hcap
      have hq0 : q.length = 0 := by omega
      have HF := fin off 0 (Lib.hid ⟨by omega, by omega, by omega, fun i hi => by omega⟩)
      clear fin hb hh hcs HNE h1 hg
      go_enter Try.func69, Try.ntmps69
      go_wp2
      refine bodyPost_ret (v := .tuple #[.int .i64 x, .bool true]) (by simp [results, Try.results69, go_sem]) rfl ⟨rfl, ?_, [B], HOW.out, (Chg.refl _ w).setCell (Or.inl (by simp)) _⟩
      have HF2 := HF.out
      rw [hq0] at HF2
      exact HF2
    · have HF := fin (off + 1) (cap - 1) (Lib.hid ⟨by omega, by omega, by omega, fun i hi => by
        have := hcs (i + 1) (by simp; omega)
        rw [show off + 1 + i = off + (i + 1) by omega, this]
        simp⟩)
      clear fin hb hh hcs HNE h1 hg
      go_enter Try.func69, Try.ntmps69
      go_wp2
      refine bodyPost_ret (v := .tuple #[.int .i64 x, .bool true]) (by simp [results, Try.results69, go_sem]) rfl ⟨rfl, HF.out, [B], HOW.out, (Chg.refl _ w).setCell (Or.inl (by simp)) _⟩

theorem queue_any (w : World) :
    Calls Try.prog 62 #[] w fun e w' => e = .returned (.tuple #[.func (.func 68) #[] #[.pointer (some ⟨w.heap.size, 0, none⟩)], .func (.func 69) #[] #[.pointer (some ⟨w.heap.size, 0, none⟩)]]) ∧ QAt w' w.heap.size w.heap.size [] ∧ Chg [] w w' := by
  have hmf : ∀ (fn : Fn) (first cap : Array Value) (w : World), (Instr.makeFunc fn first cap).run Try.prog w = .ok (.func fn first cap) w := fun _ _ _ _ => rfl
  have HQ : Hid (QAt (w.alloc (.cells #[.slice none 0 0] 25)) w.heap.size w.heap.size []) := ⟨_, heap_alloc_new w _, ⟨by simp, by simp, Or.inl ⟨rfl, rfl⟩⟩, Nat.le_refl _⟩
  have HC := Lib.hid ((Chg.refl [] w).alloc (.cells #[.slice none 0 0] 25))
  go_enter Try.func62, Try.ntmps62
  go_wp2
  refine bodyPost_ret (v := .tuple #[.func (.func 68) #[] #[.pointer (some ⟨w.heap.size, 0, none⟩)], .func (.func 69) #[] #[.pointer (some ⟨w.heap.size, 0, none⟩)]]) (by simp [results, Try.results62, go_sem]) rfl ⟨rfl, HQ.out, HC.out⟩

end Go.Proofs.Ytfgbkpbakignhaa
/- map[int][]int of a call's own, as a function to lists: look-up, the append of one number, the store. Conditions: what each law says. -/
namespace Go.Proofs.Ytfgbkpbakignhaa
open Go.RowKit Go.Maps Go.ChangeShapes

/-- Block b is a map of at most n entries; at x it holds the list f x (nothing: the empty one). -/
def SMap (w : World) (b n : Nat) (f : Int → List Int) : Prop :=
  ∃ D : DataW Unit, w.ownsGroups Try.prog 3 (b + 1) 3 .i64 b n D ∧
    ∀ x, I64 x → (f x = [] ∧ D.atKey (.int .i64 x) .nil = .nil) ∨ D.atKey (.int .i64 x) .nil = .slice (lits .i64 (f x)) []

theorem zeroRow (w : World) : (zeroValue 25).run Try.prog w = .ok (.slice none 0 0) w := by kernel_rfl

theorem SMap.made (w : World) : SMap (w.alloc (.map #[] 0)) w.heap.size 0 (fun _ => []) :=
  ⟨.map [], World.ownsGroups_made _ _ _ _ _, fun _ _ => Or.inl ⟨rfl, rfl⟩⟩

theorem SMap.lt {w : World} {b n : Nat} {f : Int → List Int} (h : SMap w b n f) : b < w.heap.size := by
  obtain ⟨D, ⟨es, clock, hb, -⟩, -⟩ := h
  exact (Array.getElem?_eq_some_iff.1 hb).1

theorem lits_inj {a c : List Int} (h : (lits .i64 a : List (DataW Unit)) = lits .i64 c) : a = c := by
  induction a generalizing c with
  | nil => cases c with
    | nil => rfl
    | cons _ _ => simp [lits] at h
  | cons x a ih => cases c with
    | nil => simp [lits] at h
    | cons y c =>
      simp only [lits, List.map_cons, List.cons.injEq] at h
      obtain ⟨h1, h2⟩ := h
      have : x = y := by simpa using h1
      rw [this, ih h2]

/-- What is owned at a key is the function's list. -/
theorem SMap.list {w : World} {f : Int → List Int} {D : DataW Unit} {x : Int} {v : Value} {zs : List Int} {base : Nat} (h : (f x = [] ∧ D.atKey (.int .i64 x) .nil = .nil) ∨ D.atKey (.int .i64 x) .nil = .slice (lits .i64 (f x)) []) (hat : D.atKey (.int .i64 x) .nil = rowDatum .i64 v zs) (ho : w.ownsInts base 3 .i64 v zs) : zs = f x := by
  rcases ho.datum (H := Unit) with ⟨e, rfl⟩ | e
  · rw [e] at hat
    rcases h with ⟨h1, _⟩ | h2
    · exact h1.symm
    · rw [hat] at h2; cases h2
  · rw [e] at hat
    rcases h with ⟨_, h2⟩ | h2
    · rw [hat] at h2; cases h2
    · rw [hat] at h2
      simp only [DataW.slice.injEq, and_true] at h2
      exact lits_inj h2

/-- The way back: a store of the list with one number more. -/
def SBack (w : World) (b n : Nat) (f : Int → List Int) (k : Int) (v : Value) : Prop :=
  ∀ (w1 : World) (v' : Value) (x : Int), RowAt w1 (b + 1) v' (f k ++ [x]) → Chg (foot v) w w1 → (∀ j ∈ foot v', j ∈ foot v ∨ w.heap.size ≤ j) →
    ∃ w2, (Instr.mapUpdate 96 (.map (some b)) (.int .i64 k) v').run Try.prog w1 = .ok () w2 ∧ SMap w2 b (n + 1) (fun y => if y = k then f k ++ [x] else f y) ∧ Chg [b] w1 w2

theorem owns_row {w : World} {B : Nat} {v : Value} {l : List Int} (h : w.ownsInts B 3 .i64 v l) (hn : l.length < 4294967296) : RowAt w B v l := ⟨h.1, h.2, hn⟩
theorem row_owns {w : World} {B : Nat} {v : Value} {l : List Int} (h : RowAt w B v l) : w.ownsInts B 3 .i64 v l := ⟨h.1, h.2.1⟩

theorem SMap.look {w : World} {b n : Nat} {f : Int → List Int} (h : SMap w b n f) (hn : n < 4294967296) {k : Int} (hk : I64 k) :
    ∃ v, (Instr.lookup 96 (.map (some b)) (.int .i64 k) false).run Try.prog w = .ok v w ∧ RowAt w (b + 1) v (f k) ∧ (f k).length ≤ n ∧ SBack w b n f k v := by
  obtain ⟨D, ho, hD⟩ := h
  have hkey := keyOf_int_mk Try.underlying3 hk
  obtain ⟨v, zs, hr, hat, hoi, hzl, hback⟩ := ho.at keyedInt Try.underlying96 (zeroRow w) (by unfold maxLen; omega) hkey
  obtain rfl := SMap.list (hD k hk) hat hoi
  refine ⟨v, hr, owns_row hoi (by omega), hzl, fun w1 v' x hrow hc hf => ?_⟩
  have hfo : foot v = v.ownBlock.toList := (owns_row hoi (by omega)).foot
  have hfo' : foot v' = v'.ownBlock.toList := hrow.foot
  have hgr : w.grownBy w1 v.ownBlock := hc.grownBy (fun j hj => by rw [hfo] at hj; exact (show v.ownBlock = some j by simpa using hj).symm)
  obtain ⟨g, c, e⟩ := owns_some hrow.1 (by simp)
  have hloc : v'.ownBlock = v.ownBlock ∨ ∃ g, v'.ownBlock = some g ∧ w.heap.size ≤ g := by
    have hb : v'.ownBlock = some g := by rw [e]; rfl
    rcases hf g (by rw [hfo', hb]; simp) with q | q
    · left
      rw [hfo] at q
      rw [hb]
      exact (show v.ownBlock = some g by simpa using q).symm
    · exact Or.inr ⟨g, hb, q⟩
  obtain ⟨w2, hr2, h2, h3⟩ := hback w1 v' (f k ++ [x]) hgr (row_owns hrow) (by simp; omega) hloc
  refine ⟨w2, hr2, ⟨_, h2, fun y hy => ?_⟩, (Chg.refl _ _).grown h3 (fun j hj => by cases hj; exact Or.inl (by simp))⟩
  have hdat : (rowDatum .i64 v' (f k ++ [x]) : DataW Unit) = .slice (lits .i64 (f k ++ [x])) [] := (row_owns hrow).datum_pos (by simp)
  obtain ⟨es, clock, hbm, F, hs, hDe, -⟩ := ho
  by_cases e1 : y = k
  · subst e1
    right
    rw [atKey_put_same ⟨_, hDe⟩ (keyedInt.key hkey), hdat]
    simp
  · rw [atKey_put_other (litNe e1)]
    simp only [if_neg e1]
    exact hD y hy

section
variable {ops : Array Oper} {rest : List Oper} {o : Oper} {a : Act} {Q : Exit → Act → World → Prop} {w : World}

/-- 'm[k]'. -/
theorem wl_slook (hg : o.guard = none) (m x : Operand) (hop : o.op = Op.lookup 96 m x false) {b n : Nat} {f : Int → List Int} (h : SMap w b n f) (hn : n < 4294967296) (hm : a.eval m = .map (some b)) {k : Int} (hk : I64 k) (hx : a.eval x = .int .i64 k)
    (hK : ∀ v, RowAt w (b + 1) v (f k) → (f k).length ≤ n → SBack w b n f k v → wpList Try.prog ops Q rest (a.put o.dst v) w) : wpList Try.prog ops Q (o :: rest) a w := by
  refine wpList_plain hg fun K' hK' => ?_
  obtain ⟨v, hrun, r1, r2, r3⟩ := h.look hn hk
  unfold Oper.wp
  simp [execOp, hop, hm, hx, hrun, Result.andThen]
  exact hK' _ _ (hK v r1 r2 r3)

/-- 'm[k] = append(m[k], x)': the store. -/
theorem wl_sback {w0 : World} (hg : o.guard = none) (m x u : Operand) (hop : o.op = Op.mapUpdate 96 m x u) {b n : Nat} {f : Int → List Int} {k z : Int} {v v' : Value} (hb : SBack w0 b n f k v) (hm : a.eval m = .map (some b)) (hx : a.eval x = .int .i64 k) (hu : a.eval u = v')
    (hrow : RowAt w (b + 1) v' (f k ++ [z])) (hc : Chg (foot v) w0 w) (hf : ∀ j ∈ foot v', j ∈ foot v ∨ w0.heap.size ≤ j)
    (hK : ∀ w2, SMap w2 b (n + 1) (fun y => if y = k then f k ++ [z] else f y) → Chg [b] w w2 → wpList Try.prog ops Q rest (a.put o.dst undef) w2) : wpList Try.prog ops Q (o :: rest) a w := by
  refine wpList_plain hg fun K' hK' => ?_
  obtain ⟨w2, hrun, r1, r2⟩ := hb w v' z hrow hc hf
  unfold Oper.wp
  simp [execOp, hop, hm, hx, hu, hrun, Result.andThen]
  exact hK' _ _ (hK w2 r1 r2)
end

end Go.Proofs.Ytfgbkpbakignhaa
