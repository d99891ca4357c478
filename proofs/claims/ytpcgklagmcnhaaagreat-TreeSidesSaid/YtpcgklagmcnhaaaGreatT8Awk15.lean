/- Law 15's awake: true; a nil tree's Mate, Beyond. No condition. -/
import Derived.Test.YtpcgklagmcnhaaaGreatT8NewW
namespace Go.Proofs.YtpcgklagmcnhaaaGreat
open Go.RowKit Go.Maps
set_option maxRecDepth 100000 in
set_option maxHeartbeats 4000000 in
theorem awake15_any (w : World) : Calls Tryz.prog 7 #[] w fun e w' => e = .returned (.bool true) ∧ Chg [] w w' := by
 have HXC := Lib.hid (show Chg [] w ((w.alloc (.cells #[.int .i64 0, .int .i64 1, .int .i64 1, .int .i64 2, .int .i64 2, .int .i64 3, .int .i64 3, .int .i64 0, .int .i64 0, .int .i64 2] 53)).alloc (.cells #[.int .i64 4, .slice (some ⟨w.heap.size, 0, none⟩) 5 5] 41)) from (show Chg [] w ((w.alloc (.cells #[.int .i64 0, .int .i64 1, .int .i64 1, .int .i64 2, .int .i64 2, .int .i64 3, .int .i64 3, .int .i64 0, .int .i64 0, .int .i64 2] 53)).alloc (.cells #[.int .i64 4, .slice (some ⟨w.heap.size, 0, none⟩) 5 5] 41)) from (((Chg.refl [] w).alloc _).alloc _)))
 have qbx0 := heap_alloc_new w (.cells #[.int .i64 0, .int .i64 1, .int .i64 1, .int .i64 2, .int .i64 2, .int .i64 3, .int .i64 3, .int .i64 0, .int .i64 0, .int .i64 2] 53)
 replace qbx0 := (show Chg [] (w.alloc (.cells #[.int .i64 0, .int .i64 1, .int .i64 1, .int .i64 2, .int .i64 2, .int .i64 3, .int .i64 3, .int .i64 0, .int .i64 0, .int .i64 2] 53)) ((w.alloc (.cells #[.int .i64 0, .int .i64 1, .int .i64 1, .int .i64 2, .int .i64 2, .int .i64 3, .int .i64 3, .int .i64 0, .int .i64 0, .int .i64 2] 53)).alloc (.cells #[.int .i64 4, .slice (some ⟨w.heap.size, 0, none⟩) 5 5] 41)) from ((Chg.refl [] (w.alloc (.cells #[.int .i64 0, .int .i64 1, .int .i64 1, .int .i64 2, .int .i64 2, .int .i64 3, .int .i64 3, .int .i64 0, .int .i64 0, .int .i64 2] 53))).alloc _)).heap qbx0 (by simp)
 have qbx1 := heap_alloc_new (w.alloc (.cells #[.int .i64 0, .int .i64 1, .int .i64 1, .int .i64 2, .int .i64 2, .int .i64 3, .int .i64 3, .int .i64 0, .int .i64 0, .int .i64 2] 53)) (.cells #[.int .i64 4, .slice (some ⟨w.heap.size, 0, none⟩) 5 5] 41)
 rw [show (w.alloc (.cells #[.int .i64 0, .int .i64 1, .int .i64 1, .int .i64 2, .int .i64 2, .int .i64 3, .int .i64 3, .int .i64 0, .int .i64 0, .int .i64 2] 53)).heap.size = w.heap.size + 1 by simp] at qbx1
 have HX := Lib.hid (fun (w2 : World) (hbx : Chg [] ((w.alloc (.cells #[.int .i64 0, .int .i64 1, .int .i64 1, .int .i64 2, .int .i64 2, .int .i64 3, .int .i64 3, .int .i64 0, .int .i64 0, .int .i64 2] 53)).alloc (.cells #[.int .i64 4, .slice (some ⟨w.heap.size, 0, none⟩) 5 5] 41)) w2) => (⟨hbx.heap qbx0 (by simp), hbx.cell ((cell_of_row _ _ 0 _ _ _ qbx1).trans rfl) (by simp), hbx.cell ((cell_of_row _ _ 1 _ _ _ qbx1).trans rfl) (by simp), by have hz := hbx.size; simpa using hz⟩ : w2.heap[w.heap.size]? = some (.cells #[.int .i64 0, .int .i64 1, .int .i64 1, .int .i64 2, .int .i64 2, .int .i64 3, .int .i64 3, .int .i64 0, .int .i64 0, .int .i64 2] 53 (0, 0)) ∧ w2.cell? ⟨w.heap.size + 1, 0, none⟩ = some (.int .i64 4) ∧ w2.cell? ⟨w.heap.size + 1, 1, none⟩ = some (.slice (some ⟨w.heap.size, 0, none⟩) 5 5) ∧ w.heap.size + 2 ≤ w2.heap.size))
 clear qbx0 qbx1
 have HXZ := Lib.hid (show ((w.alloc (.cells #[.int .i64 0, .int .i64 1, .int .i64 1, .int .i64 2, .int .i64 2, .int .i64 3, .int .i64 3, .int .i64 0, .int .i64 0, .int .i64 2] 53)).alloc (.cells #[.int .i64 4, .slice (some ⟨w.heap.size, 0, none⟩) 5 5] 41)).heap.size = w.heap.size + 2 by simp)
 obtain ⟨rb, ra0, ra1, hsz⟩ := HX.out _ (Chg.refl _ _)
 go_enter Tryz.func7, Tryz.ntmps7
 go_wp2_with fail
 generalize ((w.alloc (.cells #[.int .i64 0, .int .i64 1, .int .i64 1, .int .i64 2, .int .i64 2, .int .i64 3, .int .i64 3, .int .i64 0, .int .i64 0, .int .i64 2] 53)).alloc (.cells #[.int .i64 4, .slice (some ⟨w.heap.size, 0, none⟩) 5 5] 41)) = w1 at *
 have HGR := Lib.hid (show GrAt w1 (.agg #[.int .i64 Plain.g15.n, .slice (some ⟨w.heap.size, 0, none⟩) 5 5]) Plain.g15 from by
  refine ⟨_, 5, rfl, I64.mk (by decide) (by decide), by decide, fun i hi => ?_, fun i hi => ?_⟩
  ·have hi : i < 5 := hi
   rcases (show i = 0 ∨ i = 1 ∨ i = 2 ∨ i = 3 ∨ i = 4 by omega) with rfl | rfl | rfl | rfl | rfl <;> exact ⟨I64.mk (by decide) (by decide), I64.mk (by decide) (by decide)⟩
  have hi : i < 5 := hi
  have hc := fun j => cell_of_row _ _ j _ _ _ rb
  rcases (show i = 0 ∨ i = 1 ∨ i = 2 ∨ i = 3 ∨ i = 4 by omega) with rfl | rfl | rfl | rfl | rfl <;> exact ⟨_, 0, rfl, (hc _).trans rfl, (hc _).trans rfl⟩)
 clear rb
 have hS0 : Chg [] w1 w1.drew := (Chg.refl [] w1).drew
 refine wp_region_way (Chg [] w1) [0, 1, 4, 5, 6, 7, 8] (Way.line [0, 1, 2, 3, 4, 5, 6, 7, 8] .done) (by kernel_rfl) (by kernel_rfl) ?_
 simp only [Way.line]
 repeat (refine along_read (v := ?_) rfl (by rfl) (by rfl) (fun _ _ _ h => h) hS0 (fun w' hS' => ?_) ?_; rotate_left; (focus (have rd0 := hS'.cell ra0 (by simp); have rd1 := hS'.cell ra1 (by simp); clear hS'; go_simp; try with_reducible rfl)); simp only [Act.put, Z1, Z2, Z3, Z4, Z5, Z6])
 refine along_op rfl (by rfl) (by rfl) (fun K hK => ?_)
 go_simp
 refine (whole_any _ Plain.g15 4 _ rfl (by decide) (by decide) (HGR.out.fresh hS0)).mono ?_
 rintro e w2 ⟨v1, v2, rfl, r1, r2, hcx⟩
 have hS1 := hS0.trans hcx (by simp)
 clear hS0 hcx
 have hS0 := hS1
 clear hS1
 refine hK.out _ _ (fun _ => hS0) ?_
 clear hK K
 try simp only [Act.put, Z1, Z2, Z3, Z4, Z5, Z6]
 have HP2 := Lib.hid (show PtAt w2 (.agg #[v1, v2]) Plain.p15 from ⟨v1, v2, rfl, r1.ints, r2.ints⟩)
 clear r1 r2
 refine along_op rfl (by rfl) (by rfl) (fun K hK => ?_)
 go_simp
 refine (tnew_any _ _ Plain.g15 Plain.p15 _ (by decide) (by decide) (HGR.out.fresh hS0) HP2.out).mono ?_
 rintro e w3 ⟨hc3, -, hyes⟩
 obtain ⟨pb, ms, rs, rfl, htr, hof⟩ := hyes Plain.new15
 have HC3 := Lib.hid (hS0.tr hc3)
 obtain ⟨hl3, hk1, hlen, hid0⟩ := Plain.tree15 hof
 obtain ⟨hpb, tv, tvs, tev, th, tn, -⟩ := htr
 have TN := Lib.hid tn
 have TH := Lib.hid th
 have HH := Lib.hid hid0
 obtain ⟨no, nc, rfl⟩ := tn.shape
 refine hK.out _ _ (fun _ => HC3.out) ?_
 clear hK K hc3 hyes hof hS0 HP2 HGR tn hid0
 try simp only [Act.put, Z1, Z2, Z3, Z4, Z5, Z6]
 have hS0 := HC3.out
 repeat (refine along_read (v := ?_) rfl (by rfl) (by rfl) (fun _ _ _ h => h) hS0 (fun w' hS' => ?_) ?_; rotate_left; (focus (skip; clear hS'; go_simp; try with_reducible rfl)); simp only [Act.put, Z1, Z2, Z3, Z4, Z5, Z6])
 refine along_done ?_
 have t0 := (cell_of_row _ _ 0 _ _ _ th).trans (show _ = some (Value.slice no ms.length nc) from rfl)
 clear hS0 th
 go_wp2_with fail
 refine (tnode_any pb _ tvs ms w2.heap.size 1 _ t0 TN.out (by omega) (by omega) (by omega)).mono ?_
 rintro e w4 ⟨nu, rfl, hrow, hc4⟩
 obtain ⟨uo, uc, rfl⟩ := hrow.shape
 obtain ⟨ug, ucap, eug⟩ := owns_some hrow.1 (by omega)
 simp only [Value.slice.injEq] at eug
 obtain ⟨rfl, -, -⟩ := eug
 obtain ⟨lo', lc', el, -, -, hcell⟩ := hrow.lks
 simp only [Value.slice.injEq] at el
 obtain ⟨e1, -, -⟩ := el
 subst e1
 obtain ⟨tb, toff, e1, -, -, q2⟩ := hcell 0 (by omega)
 simp only [Option.some.injEq, Addr.mk.injEq] at e1
 obtain ⟨rfl, rfl, -⟩ := e1
 rw [HH.out] at q2
 rw [hk1, hlen]
 have HC4 := Lib.hid (HC3.out.tr hc4)
 have HCX := Lib.hid ((Chg.refl [] w4).alloc (.cells #[.int .i64 2, .slice (some ⟨ug, 0, none⟩) 3 uc] 26))
 have HBX := Lib.hid (heap_alloc_new w4 (.cells #[.int .i64 2, .slice (some ⟨ug, 0, none⟩) 3 uc] 26))
 have t0 := HCX.out.cel (hc4.cel t0)
 have q2 := HCX.out.cel q2
 have n0 := (cell_of_row _ _ 0 _ _ _ HBX.out).trans (show _ = some (Value.int .i64 2) from rfl)
 have n1 := (cell_of_row _ _ 1 _ _ _ HBX.out).trans (show _ = some (Value.slice (some ⟨ug, 0, none⟩) 3 uc) from rfl)
 have HL3 := Lib.hid hl3
 clear hrow hc4 hcell hlen hk1 hl3
 go_wp2_with fail
 refine (tlen_any pb _ ms.length nc _ t0).mono ?_
 rw [HL3.out]
 rintro e w5 ⟨rfl, rfl⟩
 go_wp2
 go_ret
 exact ⟨rfl, (HXC.out.tr HC4.out).tr HCX.out⟩
theorem T2Row.cell {w : World} {B n c j : Nat} {ao : Option Addr} {l : List Plain.T3} (h : T2Row w B (.slice ao n c) l) (hj : j < l.length) : ∃ g, ao = some ⟨g, 0, none⟩ ∧ w.cell? ⟨g, j * 2, none⟩ = some (.int .i64 (Plain.t30 l j).a) ∧ w.cell? ⟨g, j * 2 + 1, none⟩ = some (.int .i64 (Plain.t30 l j).b) := by
 rcases h.2 with ⟨q, h0⟩ | ⟨g, cap, cur, q, hb, hh, hnc, hcm, hcs, hys⟩
 ·omega
 cases q
 have hat : ∀ i, i < 2 → (t2Cells l)[j * 2 + i]? = [Value.int .i64 (Plain.t30 l j).a, .int .i64 (Plain.t30 l j).b][i]? := fun i hi => by
  have h1 := flatMap_at (enc := fun t : Plain.T3 => [Value.int .i64 t.a, .int .i64 t.b]) (k := 2) (fun _ => rfl) l (j * 2 + i) (by omega)
  rw [show (j * 2 + i) / 2 = j by omega, show (j * 2 + i) % 2 = i by omega] at h1
  rw [show t2Cells l = l.flatMap fun t : Plain.T3 => [Value.int .i64 t.a, .int .i64 t.b] from rfl, h1]
  simp [Plain.t30, List.getD, hj]
 have hc : ∀ i, i < 2 → w.cell? ⟨g, j * 2 + i, none⟩ = [Value.int .i64 (Plain.t30 l j).a, .int .i64 (Plain.t30 l j).b][i]? := fun i hi => by
  rw [cell_of_row w _ (j * 2 + i) cur 75 (0, 0) hh, ← hat i hi, ← hys, List.getElem?_take, if_pos (by omega)]
  simp
 exact ⟨g, rfl, hc 0 (by decide), hc 1 (by decide)⟩
def Plain.mateV (rs : List Plain.T3) (i id : Int) : Int × Bool := if i = (Plain.t30 rs (-1 - id).toNat).a then ((Plain.t30 rs (-1 - id).toNat).b, true) else if i = (Plain.t30 rs (-1 - id).toNat).b then ((Plain.t30 rs (-1 - id).toNat).a, true) else (0, false)
set_option maxRecDepth 100000 in
set_option maxHeartbeats 4000000 in
theorem tmate_any (pb : Nat) (v ev : Value) (rs : List Plain.T3) (B : Nat) (i : Int) (k : Nat) (w : World) (h0 : w.heap[pb]? = some (.cells #[v, ev] 73 (0, 0))) (hr : T2Row w B ev rs) (hk : k < rs.length) (hn : rs.length ≤ 1000000) :
  Calls Tryz.prog 9 #[.pointer (some ⟨pb, 0, none⟩), .int .i64 i, .int .i64 (-1 - (k : Int))] w fun e w' => e = .returned (.tuple #[.int .i64 (Plain.mateV rs i (-1 - (k : Int))).1, .bool (Plain.mateV rs i (-1 - (k : Int))).2]) ∧ Chg [] w w' := by
 obtain ⟨eo, ec, rfl⟩ := hr.shape
 obtain ⟨g, rfl, q0, q1⟩ := hr.cell hk
 have hm : Plain.mateV rs i (-1 - (k : Int)) = if i = (Plain.t30 rs k).a then ((Plain.t30 rs k).b, true) else if i = (Plain.t30 rs k).b then ((Plain.t30 rs k).a, true) else (0, false) := by
  unfold Plain.mateV
  rw [show (-1 - (-1 - (k : Int))).toNat = k by omega]
 rw [hm]
 obtain ⟨x, hx⟩ : ∃ x, (Plain.t30 rs k).a = x := ⟨_, rfl⟩
 obtain ⟨y, hy⟩ : ∃ y, (Plain.t30 rs k).b = y := ⟨_, rfl⟩
 rw [hx] at q0 ⊢
 rw [hy] at q1 ⊢
 have c1 := (cell_of_row _ _ 1 _ _ _ h0).trans (show _ = some (Value.slice (some ⟨g, 0, none⟩) rs.length ec) from rfl)
 have HB := Lib.hid (heap_alloc_new w (.cells #[.int .i64 x, .int .i64 y] 75))
 have HC := Lib.hid ((Chg.refl [] w).alloc (.cells #[.int .i64 x, .int .i64 y] 75))
 have b0 := (cell_of_row _ _ 0 _ _ _ HB.out).trans (show _ = some (Value.int .i64 x) from rfl)
 have b1 := (cell_of_row _ _ 1 _ _ _ HB.out).trans (show _ = some (Value.int .i64 y) from rfl)
 have hneg : (-1 - (k : Int)) < 0 := by omega
 have hkk : -1 - (-1 - (k : Int)) = (k : Int) := by omega
 have hkb : ¬ ((rs.length : Int) ≤ k) := by omega
 obtain ⟨id, hid⟩ : ∃ id, -1 - (k : Int) = id := ⟨_, rfl⟩
 rw [hid] at hneg hkk ⊢
 clear hm hx hy h0 hr hid
 by_cases h1 : i = x
 ·rw [if_pos h1]
  have e1 : (i == x) = true := by simpa using h1
  clear h1
  go_enter Tryz.func9, Tryz.ntmps9
  go_wp2
  refine bodyPost_ret (v := .tuple #[.int .i64 y, .bool true]) (by simp [results, Tryz.results9, go_sem]) rfl ?_
  exact ⟨rfl, HC.out⟩
 rw [if_neg h1]
 have e1 : (i == x) = false := by simpa using h1
 by_cases h2 : i = y
 ·rw [if_pos h2]
  have e2 : (i == y) = true := by simpa using h2
  clear h1 h2
  go_enter Tryz.func9, Tryz.ntmps9
  go_wp2
  refine bodyPost_ret (v := .tuple #[.int .i64 x, .bool true]) (by simp [results, Tryz.results9, go_sem]) rfl ?_
  exact ⟨rfl, HC.out⟩
 rw [if_neg h2]
 have e2 : (i == y) = false := by simpa using h2
 clear h1 h2
 go_enter Tryz.func9, Tryz.ntmps9
 go_wp2
 refine bodyPost_ret (v := .tuple #[.int .i64 0, .bool false]) (by simp [results, Tryz.results9, go_sem]) rfl ?_
 exact ⟨rfl, HC.out⟩
theorem elemSt : Elem 79 78 (.agg #[.int .i64 0, .int .i64 0]) 2 16 := ⟨Tryz.underlying79, by kernel_rfl, rfl, by decide, by decide⟩
def stCells (l : List (Nat × Int)) : List Value := l.flatMap fun p => [.int .i64 p.1, .int .i64 p.2]
def StRow (w : World) (B : Nat) (v : Value) (l : List (Nat × Int)) : Prop := w.ownsRow B 78 2 v l.length (stCells l)
theorem StRow.shape {w : World} {B : Nat} {v : Value} {l : List (Nat × Int)} (h : StRow w B v l) : ∃ ao c, v = .slice ao l.length c := owns_shape h
theorem StRow.cell {w : World} {B n c j : Nat} {ao : Option Addr} {l : List (Nat × Int)} (h : StRow w B (.slice ao n c) l) (hj : j < l.length) : ∃ g, ao = some ⟨g, 0, none⟩ ∧ w.cell? ⟨g, j * 2, none⟩ = some (.int .i64 (l.getD j default).1) ∧ w.cell? ⟨g, j * 2 + 1, none⟩ = some (.int .i64 (l.getD j default).2) := by
 rcases h.2 with ⟨q, h0⟩ | ⟨g, cap, cur, q, hb, hh, hnc, hcm, hcs, hys⟩
 ·omega
 cases q
 have hat : ∀ i, i < 2 → (stCells l)[j * 2 + i]? = [Value.int .i64 (l.getD j default).1, .int .i64 (l.getD j default).2][i]? := fun i hi => by
  have h1 := flatMap_at (enc := fun t : Nat × Int => [Value.int .i64 t.1, .int .i64 t.2]) (k := 2) (fun _ => rfl) l (j * 2 + i) (by omega)
  rw [show (j * 2 + i) / 2 = j by omega, show (j * 2 + i) % 2 = i by omega] at h1
  rw [show stCells l = l.flatMap fun t : Nat × Int => [Value.int .i64 t.1, .int .i64 t.2] from rfl, h1]
  simp [List.getD, hj]
 have hc : ∀ i, i < 2 → w.cell? ⟨g, j * 2 + i, none⟩ = [Value.int .i64 (l.getD j default).1, .int .i64 (l.getD j default).2][i]? := fun i hi => by
  rw [cell_of_row w _ (j * 2 + i) cur 78 (0, 0) hh, ← hat i hi, ← hys, List.getElem?_take, if_pos (by omega)]
  simp
 exact ⟨g, rfl, hc 0 (by decide), hc 1 (by decide)⟩
theorem StRow.pop {w : World} {B g c : Nat} {l : List (Nat × Int)} {p : Nat × Int} (h : StRow w B (.slice (some ⟨g, 0, none⟩) (l.length + 1) c) (l ++ [p])) : StRow w B (.slice (some ⟨g, 0, none⟩) l.length c) l := by
 unfold StRow at h
 rw [List.length_append] at h
 have h1 := owns_short h (m := l.length) (Nat.le_succ _)
 have e : (stCells (l ++ [p])).take (l.length * 2) = stCells l := by
  unfold stCells
  rw [List.flatMap_append, List.take_left']
  rw [flatMap_len (k := 2) (fun _ => rfl)]
 rw [e] at h1
 exact h1
theorem StRow.one (w : World) (m : Nat) (u : Int) : StRow (w.alloc (.cells #[.int .i64 m, .int .i64 u] 78)) w.heap.size (.slice (some ⟨w.heap.size, 0, none⟩) 1 1) [(m, u)] :=
 World.ownsRow_lit w #[.int .i64 m, .int .i64 u] 1 (Nat.le_refl _) (by decide) rfl
theorem wl_st {ops : Array Oper} {rest : List Oper} {o : Oper} {a : Act} {Q : Exit → Act → World → Prop} {w w0 : World} (hg : o.guard = none) (s x : Operand) (ho : o.op = .call { callee := .builtin .append, args := #[s, x], argTypes := #[79, 79] })
  {B : Nat} {v : Value} {l : List (Nat × Int)} (p : Nat × Int) (hs : a.eval s = v) (hx : a.eval x = .slice (some ⟨w0.heap.size, 0, none⟩) 1 1) (h : StRow w0 B v l) (hB : B ≤ w0.heap.size) (hn : l.length < 4294967290) (hw : w = w0.alloc (.cells #[.int .i64 p.1, .int .i64 p.2] 78))
  (hK : ∀ v' w', StRow w' B v' (l ++ [p]) → Chg v.ownBlock.toList w0 w' → (∀ b ∈ v'.ownBlock.toList, b ∈ v.ownBlock.toList ∨ w0.heap.size ≤ b) → wpList Tryz.prog ops Q rest (a.put o.dst v') w') : wpList Tryz.prog ops Q (o :: rest) a w := by
 subst hw
 have hc := (Chg.refl [] w0).alloc (.cells #[.int .i64 p.1, .int .i64 p.2] 78)
 have h' : StRow _ B v l := owns_chg h hc (by simp)
 refine wl_spread elemSt hg s x ho hs hx h' (B' := w0.heap.size) (StRow.one w0 p.1 p.2) (Nat.le_trans hB hc.size) (by intro u hu; simp [stCells] at hu; rcases hu with rfl | rfl <;> rfl) (by simp; omega) fun v' w' r1 r2 r3 => ?_
 refine hK v' w' ?_ ((hc.mono (by simp)).trans r2 fun j hj => Or.inl hj) (fun b hb => (r3 b hb).imp id fun q => Nat.le_trans hc.size q)
 unfold StRow
 rw [List.length_append]
 have e : stCells (l ++ [p]) = stCells l ++ stCells [p] := by unfold stCells; rw [List.flatMap_append]
 rw [e]
 exact r1
namespace Plain
def beyV (ms : List Nd) (rs : List T3) (i : Nat) (id : Int) : List Int := if id < 0 then beyM ms rs i id else [id]
def edJ (L : List Lk) (j : Nat) : List Int := (idsL (L.take j)).filter fun v => decide (0 ≤ v)
def outJ (L : List Lk) (u : Int) (f : Int → Nat) (j : Nat) : List (Nat × Int) := (((idsL (L.take j)).filter fun v => decide (v < 0)).filter fun w => decide (w ≠ u)).map fun w => (f w, w)
theorem idsL_snoc {L : List Lk} {j : Nat} (h : j < L.length) : idsL (L.take (j + 1)) = idsL (L.take j) ++ [(at0 L j).id] := by
 rw [lk_snoc h]; simp [idsL]
theorem edJ_put {L : List Lk} {j : Nat} (h : j < L.length) (h0 : 0 ≤ (at0 L j).id) : edJ L (j + 1) = edJ L j ++ [(at0 L j).id] := by
 unfold edJ
 rw [idsL_snoc h, List.filter_append, List.filter_cons, if_pos (decide_eq_true h0)]
 rfl
theorem edJ_skip {L : List Lk} {j : Nat} (h : j < L.length) (h0 : ¬ 0 ≤ (at0 L j).id) : edJ L (j + 1) = edJ L j := by
 unfold edJ
 rw [idsL_snoc h, List.filter_append, List.filter_cons, if_neg (by simpa using h0)]
 simp
theorem outJ_put {L : List Lk} {u : Int} {f : Int → Nat} {j : Nat} (h : j < L.length) (h0 : (at0 L j).id < 0) (h1 : (at0 L j).id ≠ u) : outJ L u f (j + 1) = outJ L u f j ++ [(f (at0 L j).id, (at0 L j).id)] := by
 unfold outJ
 rw [idsL_snoc h, List.filter_append, List.filter_cons, if_pos (decide_eq_true h0), List.filter_nil, List.filter_append, List.filter_cons, if_pos (decide_eq_true h1), List.map_append]
 rfl
theorem outJ_skip {L : List Lk} {u : Int} {f : Int → Nat} {j : Nat} (h : j < L.length) (h0 : ¬ (at0 L j).id < 0 ∨ (at0 L j).id = u) : outJ L u f (j + 1) = outJ L u f j := by
 unfold outJ
 rw [idsL_snoc h, List.filter_append, List.filter_append]
 rcases h0 with q | q
 ·rw [show ([(at0 L j).id].filter fun v => decide (v < 0)) = [] by rw [List.filter_cons, if_neg (by simpa using q)]; rfl]
  simp
 rw [show (([(at0 L j).id].filter fun v => decide (v < 0)).filter fun w => decide (w ≠ u)) = [] by
  rw [List.filter_eq_nil_iff]
  intro x hx
  rw [List.mem_singleton.1 (List.mem_filter.1 hx).1]
  simpa using q]
 simp
theorem beyF_nil (ed vl : Nat → List Int) (mt : Nat → Int → Nat) (f : Nat) (es : List Int) : beyF ed vl mt f [] es = es := by cases f <;> rfl
theorem beyF_cons {ms : List Nd} {rs : List T3} {f : Nat} {p : Nat × Int} {todo : List (Nat × Int)} {es : List Int} : beyF (edM ms) (vlM ms) (mtM rs) (f + 1) (p :: todo) es = beyF (edM ms) (vlM ms) (mtM rs) f ((outJ (nd0 ms p.1).l p.2 (mtM rs p.1) (nd0 ms p.1).l.length).reverse ++ todo) (es ++ edJ (nd0 ms p.1).l (nd0 ms p.1).l.length) := by
 unfold outJ edJ
 rw [List.take_length]
 rfl
theorem TreeP.mateV {E : List Int} {ms : List Nd} {rs : List T3} (h : TreeP E ms rs) {i : Nat} {v : Int} (hi : i < ms.length) (hv : v < 0) (hiv : v ∈ idsL (nd0 ms i).l) : Plain.mateV rs i v = ((mtM rs i v : Int), true) := by
 obtain ⟨h1, h2, h3, h4, h5⟩ := h.mt hi hv hiv
 unfold Plain.mateV
 rcases h5 with ⟨e1, e2⟩ | ⟨e1, e2⟩
 ·rw [if_pos e1.symm, e2]
 rw [if_neg (by rw [e1]; omega), if_pos e2.symm, e1]
theorem Bl_pos {s : Int → Nat → Bool} {n m : Nat} {u : Int} (h : m < n) : 1 ≤ (Bl s n m u).length := List.length_pos_of_mem (show m ∈ Bl s n m u from List.mem_filter.2 ⟨List.mem_range.2 h, by simp⟩)
theorem sum_len {s : Int → Nat → Bool} {n : Nat} : ∀ {todo : List (Nat × Int)}, (∀ p ∈ todo, p.1 < n) → todo.length ≤ (todo.map fun p => (Bl s n p.1 p.2).length).sum
 | [], _ => Nat.le_refl _
 | p :: todo, h => by
  have ih := sum_len (s := s) (todo := todo) fun q hq => h q (by simp [hq])
  have := Bl_pos (s := s) (u := p.2) (h p (by simp))
  rw [List.map_cons, List.sum_cons, List.length_cons]
  omega
end Plain
theorem tmate_at (pb : Nat) (v ev : Value) (rs : List Plain.T3) (B : Nat) (i id : Int) (w : World) (h0 : w.heap[pb]? = some (.cells #[v, ev] 73 (0, 0))) (hr : T2Row w B ev rs) (hid : id < 0) (hk : (-1 - id).toNat < rs.length) (hn : rs.length ≤ 1000000) :
  Calls Tryz.prog 9 #[.pointer (some ⟨pb, 0, none⟩), .int .i64 i, .int .i64 id] w fun e w' => e = .returned (.tuple #[.int .i64 (Plain.mateV rs i id).1, .bool (Plain.mateV rs i id).2]) ∧ Chg [] w w' := by
 obtain ⟨k, rfl⟩ : ∃ k : Nat, id = -1 - (k : Int) := ⟨(-1 - id).toNat, by omega⟩
 rw [show (-1 - (-1 - (k : Int))).toNat = k by omega] at hk
 exact tmate_any pb v ev rs B i k w h0 hr hk hn
set_option maxRecDepth 100000 in
set_option maxHeartbeats 8000000 in
theorem tbeyond_any (pb : Nat) (v ev : Value) (vs : List Value) (E : List Int) (ms : List Plain.Nd) (rs : List Plain.T3) (B : Nat) (w : World) (H : Plain.TreeP E ms rs) (h0 : w.heap[pb]? = some (.cells #[v, ev] 73 (0, 0))) (hn : NdRow w B v vs ms) (hr : T2Row w B ev rs) (hml : ms.length ≤ 100000) (hE : E.length ≤ 100000) (hrs : rs.length ≤ 100000) (hll : ∀ i, i < ms.length → (Plain.nd0 ms i).l.length ≤ 100000)
  (i : Nat) (hi : i < ms.length) (id : Int) (hid : id ∈ Plain.idsL (Plain.nd0 ms i).l) :
  Calls Tryz.prog 10 #[.pointer (some ⟨pb, 0, none⟩), .int .i64 i, .int .i64 id] w fun e w' => ∃ ov l, e = .returned (.tuple #[ov, .bool true]) ∧ RowAt w' w.heap.size ov l ∧ l.Pairwise (· ≤ ·) ∧ l.Perm (Plain.beyV ms rs i id) ∧ Chg [] w w' := by
 have HH := Lib.hid H
 have HN := Lib.hid hn
 have HR := Lib.hid hr
 have HT := Lib.hid h0
 have HLL := Lib.hid hll
 have HID := Lib.hid hid
 obtain ⟨no, nc, rfl⟩ := hn.shape
 obtain ⟨ng, rfl, n0, n1, -⟩ := hn.some hi
 obtain ⟨hkI, hkr⟩ := hn.row i hi
 have HKR := Lib.hid hkr
 obtain ⟨xo, xc, ex⟩ := hkr.shape
 rw [ex] at n1 HKR
 have t0 := (cell_of_row _ _ 0 _ _ _ h0).trans (show _ = some (Value.slice (some ⟨ng, 0, none⟩) ms.length nc) from rfl)
 have hlen := hll i hi
 obtain ⟨N, hN⟩ : ∃ N, Plain.nd0 ms i = N := ⟨_, rfl⟩
 have HNN := Lib.hid hN
 rw [hN] at n0 n1 HKR hkI hlen HID
 have I64id : I64 id := by
  obtain ⟨x, hx, rfl⟩ := List.mem_map.1 HID.out
  exact (HKR.out.2.1 x hx).2.2
 have hany : (N.l.any fun x => x.id == id) = true := by
  rw [List.any_eq_true]
  obtain ⟨x, hx, rfl⟩ := List.mem_map.1 HID.out
  exact ⟨x, hx, by simp⟩
 have hii : (i : Int) < ms.length := by omega
 clear hn hr h0 hll hid hkr ex hN H
 go_enter Tryz.func10, Tryz.ntmps10
 go_wp2_with fail
 refine (thas_any _ id _ N.l _ HKR.out.lks).mono ?_
 rw [hany]
 rintro e w2 ⟨rfl, hc2⟩
 have HC2 := Lib.hid hc2
 clear hc2 n0 n1
 by_cases hneg : id < 0
 ·obtain ⟨hm1, hm2, hm3, hm4, -⟩ := HH.out.mt hi hneg (by rw [HNN.out]; exact HID.out)
  have HMV := Lib.hid (HH.out.mateV hi hneg (by rw [HNN.out]; exact HID.out))
  obtain ⟨mt, hmt⟩ : ∃ mt, Plain.mtM rs i id = mt := ⟨_, rfl⟩
  have HMT := Lib.hid hmt
  rw [hmt] at hm1 hm2 hm3 HMV
  have HM3 := Lib.hid hm3
  have HT2 := Lib.hid (HC2.out.hp HT.out)
  clear hmt hm3
  go_wp2_with fail
  refine (tmate_at pb _ ev rs B i id _ HT2.out (owns_chg HR.out HC2.out (by simp)) hneg hm4 (by omega)).mono ?_
  rw [HMV.out]
  rintro e w3 ⟨rfl, hc3⟩
  have HC3 := Lib.hid (HC2.out.tr hc3)
  obtain ⟨s, hs, hu, hrun⟩ := HH.out.bey
  have HU := Lib.hid hu
  have HRUN := Lib.hid hrun
  have HBV := Lib.hid (show Plain.beyV ms rs i id = Plain.beyF (Plain.edM ms) (Plain.vlM ms) (Plain.mtM rs) ms.length [(mt, id)] [] by
   unfold Plain.beyV Plain.beyM
   rw [if_pos hneg, HMT.out])
  have HBL := Lib.hid (show (Plain.beyV ms rs i id).length ≤ E.length by
   have h1 := (HH.out.sides hi hneg (by rw [HNN.out]; exact HID.out)).length_eq
   rw [List.length_append] at h1
   unfold Plain.beyV
   rw [if_pos hneg]
   omega)
  have HS1 := Lib.hid (StRow.one w3 mt id)
  have HA1 := Lib.hid ((Chg.refl [] w3).alloc (.cells #[.int .i64 mt, .int .i64 id] 78))
  clear hc3 hs hu hrun HC2 HT2 HMV hm4 t0 hany I64id hkI hm2 hlen
  go_wp2_with fail
  go_loopg [8, 11] ms.length (fun fuel c8 c11 wr => fuel ≤ ms.length ∧ ∃ (todo : List (Nat × Int)) (es : List Int), RowAt wr w.heap.size c8 es ∧ StRow wr w.heap.size c11 todo.reverse ∧ Hid (Plain.beyF (Plain.edM ms) (Plain.vlM ms) (Plain.mtM rs) fuel todo es = Plain.beyV ms rs i id) ∧ (∀ p ∈ todo, p.1 < ms.length ∧ p.2 < 0 ∧ p.2 ∈ Plain.idsL (Plain.nd0 ms p.1).l) ∧ (todo.map fun p => (Plain.Bl s ms.length p.1 p.2).length).sum ≤ fuel ∧ Chg [] w wr)
  case atStart => exact ⟨Nat.le_refl _, [(mt, id)], [], rowNil' _ _, (owns_base HS1.out HC3.out.size), Lib.hid HBV.out.symm, (fun p hp => by rw [List.mem_singleton.1 hp]; exact ⟨hm1, hneg, HM3.out⟩), by simpa using Plain.Bl_len s ms.length mt id, HC3.out.tr HA1.out⟩
  case round =>
   obtain ⟨hf, todo, es, hes, hst, HBE, hval, hsum, hc⟩ := hrel
   have HES := Lib.hid hes
   have HST := Lib.hid hst
   have HV := Lib.hid hval
   have HC := Lib.hid hc
   have HSUM := Lib.hid hsum
   have hel : es.length ≤ 100000 := by
    have h1 := (HRUN.out gk todo es hval hsum).length_eq
    rw [HBE.out, List.length_append] at h1
    have := HBL.out
    omega
   have htl : todo.length ≤ 100000 := by have := Plain.sum_len (s := s) (n := ms.length) fun p hp => (hval p hp).1; omega
   obtain ⟨eo, ec, rfl⟩ := hes.shape
   obtain ⟨so, sc, rfl⟩ := hst.shape
   rw [List.length_reverse] at HST ⊢
   have HFF := Lib.hid hf
   clear hes hst hval hsum hc hm1 hf
   cases todo with
   | nil =>
    have HBE2 := Lib.hid (show es = Plain.beyV ms rs i id by rw [← HBE.out, Plain.beyF_nil])
    go_wp2_with fail
    refine (sortI_any _ es w.heap.size _ (by omega) HES.out).mono ?_
    rintro e w5 ⟨rfl, hr5, hc5⟩
    have hl5 : (es.mergeSort fun x y => decide (x ≤ y)).length = es.length := List.length_mergeSort _
    have HR5 := Lib.hid hr5
    have HC5 := Lib.hid (HC.out.trans hc5 fun j hj => Or.inr (HES.out.low j (by simpa using hj)).1)
    clear hr5 hc5
    go_wp2
    refine bodyPost_ret (v := .tuple #[.slice eo es.length ec, .bool true]) (by simp [results, Tryz.results10, go_sem]) rfl ?_
    refine ⟨_, _, rfl, HR5.out, ?_, by rw [← HBE2.out]; exact List.mergeSort_perm _ _, HC5.out⟩
    have := List.pairwise_mergeSort (le := fun x y : Int => decide (x ≤ y)) (fun a b c h1 h2 => by simp at *; omega) (fun a b => by simp; omega) es
    exact this.imp fun h => of_decide_eq_true h
   | cons p rest =>
    obtain ⟨m, u⟩ := p
    obtain ⟨hm, hu0, hmu⟩ := HV.out (m, u) (by simp)
    have hm : m < ms.length := hm
    have hu0 : u < 0 := hu0
    have hs2 := HSUM.out
    rw [List.map_cons, List.sum_cons] at hs2
    have HUL := Lib.hid (HU.out m u hm hu0 hmu).length_eq
    obtain ⟨f, rfl⟩ : ∃ f, gk = f + 1 := ⟨gk - 1, by have := Plain.Bl_pos (s := s) (u := u) hm; dsimp only at hs2; omega⟩
    have HSUM2 := Lib.hid (show (((Plain.outJ (Plain.nd0 ms m).l u (Plain.mtM rs m) (Plain.nd0 ms m).l.length).reverse ++ rest).map fun p => (Plain.Bl s ms.length p.1 p.2).length).sum ≤ f from by
     have h2 := HUL.out
     rw [List.length_cons, List.length_flatMap] at h2
     unfold Plain.outJ
     rw [List.take_length, List.map_append, List.sum_append, List.map_reverse, List.sum_reverse, List.map_map]
     have e : ((fun p : Nat × Int => (Plain.Bl s ms.length p.1 p.2).length) ∘ fun w => (Plain.mtM rs m w, w)) = fun w => (Plain.Bl s ms.length (Plain.mtM rs m w) w).length := rfl
     rw [e]
     unfold Plain.vlM at h2
     dsimp only at hs2
     omega)
    rw [List.reverse_cons, List.length_cons] at HST
    have h1l : ((rest.length + 1 : Nat) : Int) = rest.length + 1 := by omega
    have hrl : rest.length ≤ 100000 := by simp at htl; omega
    obtain ⟨sg, rfl, s0, s1⟩ := HST.out.cell (j := rest.length) (by simp)
    have e0 : (rest.reverse ++ [(m, u)]).getD rest.length default = (m, u) := by
     rw [List.getD_eq_getElem?_getD, List.getElem?_append_right (by simp)]
     simp
    rw [e0] at s0 s1
    have HPOP := Lib.hid (show StRow wr w.heap.size (.slice (some ⟨sg, 0, none⟩) rest.length sc) rest.reverse from by
     have := HST.out
     rw [show rest.length = rest.reverse.length by simp] at this ⊢
     exact this.pop)
    have hcap : rest.length + 1 ≤ sc := by
     rcases HST.out.2 with ⟨q, -⟩ | ⟨g', cap', cur, q, -, -, h3, -, -⟩
     ·cases q
     simp only [Value.slice.injEq] at q
     obtain ⟨-, -, rfl⟩ := q
     simpa using h3
    rw [Plain.beyF_cons] at HBE
    have HCX := Lib.hid ((Chg.refl [] wr).alloc (.cells #[.int .i64 m, .int .i64 u] 78))
    have HBX := Lib.hid (heap_alloc_new wr (.cells #[.int .i64 m, .int .i64 u] 78))
    have HCR := Lib.hid (HC.out.tr HCX.out)
    have b0 := (cell_of_row _ _ 0 _ _ _ HBX.out).trans (show _ = some (Value.int .i64 m) from rfl)
    have t0 := (cell_of_row _ _ 0 _ _ _ (HCR.out.hp HT.out)).trans (show _ = some (Value.slice (some ⟨ng, 0, none⟩) ms.length nc) from rfl)
    have HNR := Lib.hid (HN.out.fresh HCR.out)
    obtain ⟨ng2, eg2, -, n1, -⟩ := HNR.out.some hm
    simp only [Option.some.injEq, Addr.mk.injEq] at eg2
    obtain ⟨rfl, -⟩ := eg2
    obtain ⟨hkI2, hkr2⟩ := HN.out.row m hm
    obtain ⟨lo, lc, ex2⟩ := hkr2.shape
    rw [ex2] at n1 hkr2
    have hl2 := HLL.out m hm
    obtain ⟨M, hM⟩ : ∃ M, Plain.nd0 ms m = M := ⟨_, rfl⟩
    have HMM := Lib.hid hM
    rw [hM] at n1 hkr2 hl2 HBE HSUM2
    have HLK := Lib.hid hkr2
    have hmi : (m : Int) < ms.length := by omega
    clear e0 hmu hkI2 hkr2 ex2 hM hs2 htl
    go_wp2_with fail
    generalize hwx : wr.alloc (.cells #[.int .i64 m, .int .i64 u] 78) = wx at *
    have hS0 : Chg [] wx wx.drew := (Chg.refl [] wx).drew
    refine wp_region_way (Chg [] wx) [0, 1, 2, 3, 4, 5, 6, 7, 8, 9, 10] (Way.line [0, 1, 2, 3, 4, 5, 6, 7, 8, 9, 10] .done) (by kernel_rfl) (by kernel_rfl) ?_
    simp only [Way.line]
    repeat
     first
      | (refine along_off rfl (by rfl) (by rfl) (fun _ _ _ h => h) hS0 ?_; simp only [Act.put, Z1, Z2, Z3, Z4, Z5, Z6])
      | (refine along_read (v := ?_) rfl (by rfl) (by rfl) (fun _ _ _ h => h) hS0 (fun w' hS' => ?_) ?_; rotate_left; (focus (have rd0 := hS'.cell t0 (by simp); have rd1 := hS'.cell b0 (by simp); have rd2 := hS'.cell n1 (by simp); clear hS'; go_simp; try with_reducible rfl)); simp only [Act.put, Z1, Z2, Z3, Z4, Z5, Z6])
      | (refine along_skip rfl (by rfl) (by rfl) hS0 ?_; simp only [Act.put, Z1, Z2, Z3, Z4, Z5, Z6])
    refine along_done ?_
    have HCW := Lib.hid (HCR.out.tr hS0)
    have HBW := Lib.hid (hS0.hp HBX.out)
    have HES2 := Lib.hid ((HES.out.chg HCX.out (by simp)).chg hS0 (by simp))
    have HSG := Lib.hid (show sg < wr.heap.size from (HPOP.out.lt sg rfl).2)
    have HPO2 := Lib.hid (show StRow wx.drew w.heap.size (.slice (some ⟨sg, 0, none⟩) rest.length sc) rest.reverse from owns_chg (owns_chg HPOP.out HCX.out (by simp)) hS0 (by simp))
    have HBZ := Lib.hid (show w.heap.size ≤ wr.heap.size from HC.out.size)
    have HBB := Lib.hid (lt_of_block HBX.out)
    obtain ⟨tb, htb⟩ : ∃ b, wr.heap.size = b := ⟨_, rfl⟩
    rw [htb] at HBW HBZ HBB HSG ⊢
    have HOUTL := Lib.hid (show ∀ j, (Plain.outJ M.l u (Plain.mtM rs m) j).length ≤ M.l.length from fun j => by
     unfold Plain.outJ
     rw [List.length_map]
     refine Nat.le_trans (List.length_filter_le _ _) (Nat.le_trans (List.length_filter_le _ _) ?_)
     unfold Plain.idsL
     rw [List.length_map, List.length_take]
     omega)
    have HEDL := Lib.hid (show ∀ j, (Plain.edJ M.l j).length ≤ M.l.length from fun j => by
     unfold Plain.edJ
     refine Nat.le_trans (List.length_filter_le _ _) ?_
     unfold Plain.idsL
     rw [List.length_map, List.length_take]
     omega)
    clear hS0 t0 b0 n1 HCX HBX HES HPOP HNR HCR s0 s1 hcap HST HSUM hwx htb HC
    generalize wx.drew = wy at *
    go_wp2_with fail
    go_loopw [8, 11, 83] (fun c8 c11 iv wz => ∃ j : Nat, j ≤ M.l.length ∧ iv = .int .i64 j ∧ RowAt wz w.heap.size c8 (es ++ Plain.edJ M.l j) ∧ StRow wz w.heap.size c11 (rest.reverse ++ Plain.outJ M.l u (Plain.mtM rs m) j) ∧ wz.heap[tb]? = some (.cells #[.int .i64 m, .int .i64 u] 78 (0, 0)) ∧ (∀ b ∈ c11.ownBlock.toList, b ≠ tb) ∧ Chg [] w wz) (fun _ _ iv _ => M.l.length - (intOf iv).toNat)
    case atStart => exact ⟨0, Nat.zero_le _, rfl, by simpa [Plain.edJ, Plain.idsL] using HES2.out, by simpa [Plain.outJ, Plain.idsL] using HPO2.out, HBW.out, (fun b hb => by have h1 := HSG.out; have h2 : b = sg := (by simpa [Value.ownBlock] using hb); omega), HCW.out⟩
    case round =>
     obtain ⟨j, hj, rfl, hr1, hr2, hbx, hbn, hc⟩ := hrel
     have H1 := Lib.hid hr1
     have H2 := Lib.hid hr2
     have HBX := Lib.hid hbx
     have HBN := Lib.hid hbn
     have HC := Lib.hid hc
     obtain ⟨xo1, xc1, rfl⟩ := hr1.shape
     obtain ⟨yo1, yc1, rfl⟩ := hr2.shape
     obtain ⟨K1, hK1⟩ : ∃ K, es ++ Plain.edJ M.l j = K := ⟨_, rfl⟩
     obtain ⟨K2, hK2⟩ : ∃ K, rest.reverse ++ Plain.outJ M.l u (Plain.mtM rs m) j = K := ⟨_, rfl⟩
     have hl1 : K1.length ≤ 200000 := by have := HEDL.out j; rw [← hK1, List.length_append]; omega
     have hl2' : K2.length ≤ 200000 := by have := HOUTL.out j; rw [← hK2, List.length_append, List.length_reverse]; omega
     have HK1 := Lib.hid hK1
     have HK2 := Lib.hid hK2
     rw [hK1] at H1 ⊢
     rw [hK2] at H2 HBN ⊢
     clear hr1 hr2 hbn hc hK1 hK2
     by_cases hjl : j < M.l.length
     ·obtain ⟨lo', lc', el, -, hsm2, hcell⟩ := (HLK.out.fresh HC.out).lks
      simp only [Value.slice.injEq] at el
      obtain ⟨rfl, -, rfl⟩ := el
      obtain ⟨lb, loff, rfl, q0, q1, q2⟩ := hcell j hjl
      have HI := Lib.hid (hsm2 j hjl)
      have HP1 := Lib.hid (fun h => Plain.edJ_put (L := M.l) hjl h)
      have HP2 := Lib.hid (fun h => Plain.edJ_skip (L := M.l) hjl h)
      have HP3 := Lib.hid (fun h1 h2 => Plain.outJ_put (L := M.l) (u := u) (f := Plain.mtM rs m) hjl h1 h2)
      have HP4 := Lib.hid (fun h => Plain.outJ_skip (L := M.l) (u := u) (f := Plain.mtM rs m) hjl h)
      have HML := Lib.hid (show (Plain.at0 M.l j).id ∈ Plain.idsL (Plain.nd0 ms m).l from by
       rw [HMM.out]
       exact List.mem_map.2 ⟨_, Plain.at0_mem hjl, rfl⟩)
      obtain ⟨L, hL⟩ : ∃ L, Plain.at0 M.l j = L := ⟨_, rfl⟩
      rw [hL] at q0 q1 q2 HI HP1 HP2 HP3 HP4 HML
      have HBY := Lib.hid (heap_alloc_new wr (.cells #[.int .i64 L.a, .int .i64 L.b, .int .i64 L.id] 50))
      have HCY := Lib.hid ((Chg.refl [] wr).alloc (.cells #[.int .i64 L.a, .int .i64 L.b, .int .i64 L.id] 50))
      have y2 := (cell_of_row _ _ 2 _ _ _ HBY.out).trans (show _ = some (Value.int .i64 L.id) from rfl)
      have H1' := Lib.hid (H1.out.chg HCY.out (by simp))
      have H2' := Lib.hid (show StRow _ w.heap.size (.slice yo1 K2.length yc1) K2 from owns_chg H2.out HCY.out (by simp))
      have HBX' := Lib.hid (HCY.out.hp HBX.out)
      have HC' := Lib.hid (HC.out.tr HCY.out)
      have b0 := (cell_of_row _ _ 0 _ _ _ HBX'.out).trans (show _ = some (Value.int .i64 m) from rfl)
      have b1 := (cell_of_row _ _ 1 _ _ _ HBX'.out).trans (show _ = some (Value.int .i64 u) from rfl)
      have hll1 : K1.length < 4294967290 := by omega
      have hll2 : K2.length < 4294967290 := by omega
      have II := HI.out.2.2
      clear hcell hsm2 hL
      by_cases hge : 0 ≤ L.id
      ·have HP2 := Lib.hid (HP4.out (Or.inl (by omega)))
       have HP1 := Lib.hid (HP1.out hge)
       go_wp2_with (at_builtin; refine wl_push rfl _ _ rfl (w0 := wr.alloc (.cells #[.int .i64 L.a, .int .i64 L.b, .int .i64 L.id] 50)) (B := w.heap.size) (v := .slice xo1 K1.length xc1) (l := K1) (k := L.id) rfl (by simp; rfl) H1'.out II HC'.out.size hll1 rfl ?_; intro v7 w7 r7 c7 f7; have R7 := Lib.hid r7; have C7 := Lib.hid c7; clear r7 c7 f7)
       go_roundw
       case rel =>
        refine ⟨j + 1, by omega, by go_num, ?_, ?_, ?_, HBN.out, HC'.out.trans C7.out fun b hb => Or.inr ?_⟩
        ·rw [HP1.out, ← List.append_assoc, HK1.out]; exact R7.out
        ·rw [HP2.out, HK2.out]
         exact owns_chg H2'.out C7.out fun b hb q => by
          obtain ⟨cs, e1⟩ := owns_kind H2'.out hb
          obtain ⟨cs2, r2, e2⟩ := row_kind H1'.out b (by rw [H1'.out.foot]; exact q)
          rw [e1] at e2
          simp at e2
        ·refine C7.out.heap HBX'.out fun q => ?_
         obtain ⟨cs2, r2, e2⟩ := row_kind H1'.out tb (by rw [H1'.out.foot]; exact q)
         rw [HBX'.out] at e2
         simp at e2
        exact (H1'.out.low b (by rw [← H1'.out.foot]; exact hb)).1
       case measure => simp [intOf]; omega
      have HE1 := Lib.hid (HP2.out hge)
      have hn0 : L.id < 0 := by omega
      by_cases hu : L.id = u
      ·have HO1 := Lib.hid (HP4.out (Or.inr hu))
       have bu : (L.id != u) = false := by simpa using hu
       have hu2 := Lib.hid hu
       clear hu
       go_wp2
       go_roundw
       case rel => exact ⟨j + 1, by omega, by go_num, by rw [HE1.out, HK1.out]; exact H1'.out, by rw [HO1.out, HK2.out]; exact H2'.out, HBX'.out, HBN.out, HC'.out⟩
       case measure => simp [intOf]; omega
      have HO1 := Lib.hid (HP3.out hn0 hu)
      have bu : (L.id != u) = true := by simpa using hu
      have HMV := Lib.hid (HH.out.mateV hm hn0 HML.out)
      obtain ⟨-, -, -, hk4, -⟩ := HH.out.mt hm hn0 HML.out
      have HTB := Lib.hid (HC'.out.hp HT.out)
      have HRB := Lib.hid (show T2Row _ B ev rs from owns_chg HR.out HC'.out (by simp))
      clear hu
      go_wp2_with fail
      refine (tmate_at pb _ ev rs B m L.id _ HTB.out HRB.out hn0 hk4 (by omega)).mono ?_
      rw [HMV.out]
      rintro e w6 ⟨rfl, hc6⟩
      have HC6 := Lib.hid (HC'.out.tr hc6)
      have H16 := Lib.hid (H1'.out.chg hc6 (by simp))
      have H26 := Lib.hid (show StRow _ w.heap.size (.slice yo1 K2.length yc1) K2 from owns_chg H2'.out hc6 (by simp))
      have HBX6 := Lib.hid (hc6.hp HBX'.out)
      have y2 := hc6.cel y2
      have HTBL := Lib.hid (lt_of_block HBX6.out)
      clear hc6 b0 b1
      go_wp2_with (at_builtin; refine wl_st rfl _ _ rfl (w0 := w6) (B := w.heap.size) (v := .slice yo1 K2.length yc1) (l := K2) (Plain.mtM rs m L.id, L.id) rfl rfl H26.out HC6.out.size hll2 rfl ?_; intro v7 w7 r7 c7 f7; have R7 := Lib.hid r7; have C7 := Lib.hid c7; have F7 := Lib.hid f7; clear r7 c7 f7)
      go_roundw
      case rel =>
       refine ⟨j + 1, by omega, by go_num, ?_, ?_, ?_, ?_, HC6.out.trans C7.out fun b hb => Or.inr ?_⟩
       ·rw [HE1.out, HK1.out]
        exact H16.out.chg C7.out fun b hb q => by
         obtain ⟨cs, e1⟩ := owns_kind H26.out (b := b) (by simpa using q)
         obtain ⟨cs2, r2, e2⟩ := row_kind H16.out b (by rw [H16.out.foot]; exact hb)
         rw [e1] at e2
         simp at e2
       ·rw [HO1.out, ← List.append_assoc, HK2.out]; exact R7.out
       ·exact C7.out.heap HBX6.out fun q => HBN.out tb q rfl
       ·intro b hb e
        rcases F7.out b hb with q | q
        ·exact HBN.out b q e
        have := HTBL.out; omega
       exact (H26.out.lt b (by simpa using hb)).1
      case measure => simp [intOf]; omega
     have e : j = M.l.length := by omega
     subst e
     go_wp2_with fail
     go_roundg f
     case measure => omega
     case rel =>
      refine ⟨by have := HFF.out; omega, (Plain.outJ M.l u (Plain.mtM rs m) M.l.length).reverse ++ rest, es ++ Plain.edJ M.l M.l.length, by rw [HK1.out]; exact H1.out, by rw [List.reverse_append, List.reverse_reverse, HK2.out]; exact H2.out, Lib.hid HBE.out, fun p hp => ?_, HSUM2.out, HC.out⟩
      rcases List.mem_append.1 hp with q | q
      ·have q := List.mem_reverse.1 q
       unfold Plain.outJ at q
       rw [List.take_length] at q
       obtain ⟨x, hx, rfl⟩ := List.mem_map.1 q
       obtain ⟨hx1, -⟩ := List.mem_filter.1 hx
       obtain ⟨hx2, hx3⟩ := List.mem_filter.1 hx1
       rw [← HMM.out] at hx2
       obtain ⟨r1, -, r3, -⟩ := HH.out.mt hm (of_decide_eq_true hx3) hx2
       exact ⟨r1, of_decide_eq_true hx3, r3⟩
      exact HV.out p (by simp [q])
 have hge : 0 ≤ id := by omega
 have HBV := Lib.hid (show Plain.beyV ms rs i id = [id] by unfold Plain.beyV; rw [if_neg hneg])
 have HB := Lib.hid (row_lit1 (w := w2) (B := w.heap.size) HC2.out.size I64id)
 have HA := Lib.hid ((Chg.refl [] w2).alloc (.cells #[.int .i64 id] 3))
 clear hneg
 go_wp2
 refine bodyPost_ret (v := .tuple #[.slice (some ⟨w2.heap.size, 0, none⟩) 1 1, .bool true]) (by simp [results, Tryz.results10, go_sem]) rfl ?_
 exact ⟨_, [id], rfl, HB.out, List.pairwise_singleton _ _, by rw [HBV.out], HC2.out.tr HA.out⟩
end Go.Proofs.YtpcgklagmcnhaaaGreat
