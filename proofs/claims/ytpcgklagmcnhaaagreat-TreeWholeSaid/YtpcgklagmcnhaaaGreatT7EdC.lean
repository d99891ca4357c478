/- Edges in memory: the cells of a row of edges of the call's own; two boxes of two cells stored into. No condition beyond what each law says. -/
import Derived.Test.YtpcgklagmcnhaaaGreatT7BlkP
import Derived.Test.YtpcgklagmcnhaaaGreatT7Dfs5
namespace Go.Proofs.YtpcgklagmcnhaaaGreat
open Go.RowKit Go.Maps
theorem elemEd : Elem 39 53 (.agg #[.int .i64 0, .int .i64 0]) 2 16 := ⟨Tryz.underlying39, by kernel_rfl, rfl, by decide, by decide⟩
def edCells (l : List (Int × Int)) : List Value := l.flatMap fun x => [.int .i64 x.1, .int .i64 x.2]
theorem edCells_snoc (l : List (Int × Int)) (x : Int × Int) : edCells (l ++ [x]) = edCells l ++ [.int .i64 x.1, .int .i64 x.2] := by simp [edCells]
theorem edCells_get : ∀ {l : List (Int × Int)} {i : Nat}, i < l.length → (edCells l)[i * 2]? = some (.int .i64 (l.getD i (0, 0)).1) ∧ (edCells l)[i * 2 + 1]? = some (.int .i64 (l.getD i (0, 0)).2)
 | [], i, h => by simp at h
 | x :: l, 0, _ => ⟨rfl, rfl⟩
 | x :: l, i + 1, h => by
  have ih := edCells_get (l := l) (i := i) (by simpa using h)
  have e : edCells (x :: l) = .int .i64 x.1 :: .int .i64 x.2 :: edCells l := rfl
  rw [e, show (i + 1) * 2 = i * 2 + 1 + 1 by omega]
  refine ⟨?_, ?_⟩
  ·simpa using ih.1
  simpa using ih.2
theorem grAt_ed {w : World} {B : Nat} {v : Value} {g : Plain.Gr} (hn : I64 g.n) (hs : ∀ i, i < g.e.length → I64 (g.ends i).1 ∧ I64 (g.ends i).2) (hl : g.e.length ≤ 1000000) (h : w.ownsRow B 53 2 v g.e.length (edCells g.e)) : GrAt w (.agg #[.int .i64 g.n, v]) g := by
 rcases h.2 with ⟨rfl, h0⟩ | ⟨b, cap, cur, rfl, hb, hh, hnc, hcm, hcs, hys⟩
 ·exact ⟨none, 0, by rw [h0], hn, by omega, hs, fun i hi => by omega⟩
 refine ⟨_, cap, rfl, hn, by omega, hs, fun i hi => ⟨b, 0, rfl, ?_, ?_⟩⟩
 ·rw [Nat.zero_add, cell_of_row w _ (i * 2) cur 53 (0, 0) hh]
  have q := (edCells_get hi).1
  rw [← hys, List.getElem?_take, if_pos (by omega)] at q
  simpa [Plain.Gr.ends] using q
 rw [Nat.zero_add, cell_of_row w _ (i * 2 + 1) cur 53 (0, 0) hh]
 have q := (edCells_get hi).2
 rw [← hys, List.getElem?_take, if_pos (by omega)] at q
 simpa [Plain.Gr.ends] using q
theorem store22 {w : World} {P Q : Nat} {p0 p1 q0 q1 : Value} {t u : TypeId} (a b c d : Value) (hP : w.heap[P]? = some (.cells #[p0, p1] t (0, 0))) (hQ : w.heap[Q]? = some (.cells #[q0, q1] u (0, 0))) (hne : P ≠ Q) :
  ∀ w', w' = (((w.setCell ⟨P, 0, none⟩ a).setCell ⟨P, 1, none⟩ b).setCell ⟨Q, 0, none⟩ c).setCell ⟨Q, 1, none⟩ d →
  w'.cell? ⟨P, 0, none⟩ = some a ∧ w'.cell? ⟨P, 1, none⟩ = some b ∧ w'.cell? ⟨Q, 0, none⟩ = some c ∧ w'.cell? ⟨Q, 1, none⟩ = some d ∧ Chg [P, Q] w w' := by
 rintro w' rfl
 have hP1 := heap_setCell_same (heap_setCell_same hP 0 a) 1 b
 have hQ1 : ((w.setCell ⟨P, 0, none⟩ a).setCell ⟨P, 1, none⟩ b).heap[Q]? = some (.cells #[q0, q1] u (0, 0)) :=
  (((Chg.refl [P] w).setCell (Or.inl (by simp)) _).setCell (Or.inl (by simp)) _).heap hQ (by simpa using Ne.symm hne)
 have hQ2 := heap_setCell_same (heap_setCell_same hQ1 0 c) 1 d
 have hP2 := (((Chg.refl [Q] ((w.setCell ⟨P, 0, none⟩ a).setCell ⟨P, 1, none⟩ b)).setCell (p := ⟨Q, 0, none⟩) (Or.inl (by simp)) c).setCell (p := ⟨Q, 1, none⟩) (Or.inl (by simp)) d).heap hP1 (by simpa using hne)
 refine ⟨(cell_of_row _ _ 0 _ _ _ hP2).trans rfl, (cell_of_row _ _ 1 _ _ _ hP2).trans rfl, (cell_of_row _ _ 0 _ _ _ hQ2).trans rfl, (cell_of_row _ _ 1 _ _ _ hQ2).trans rfl, ?_⟩
 exact ((((Chg.refl _ _).setCell (Or.inl (by simp)) _).setCell (Or.inl (by simp)) _).setCell (Or.inl (by simp)) _).setCell (Or.inl (by simp)) _
theorem store2 {w : World} {P : Nat} {p0 p1 : Value} {t : TypeId} (a b : Value) (hP : w.heap[P]? = some (.cells #[p0, p1] t (0, 0))) :
  ∀ w', w' = (w.setCell ⟨P, 0, none⟩ a).setCell ⟨P, 1, none⟩ b → w'.heap[P]? = some (.cells #[a, b] t (0, 0)) ∧ w'.cell? ⟨P, 0, none⟩ = some a ∧ w'.cell? ⟨P, 1, none⟩ = some b ∧ Chg [P] w w' := by
 rintro w' rfl
 have hP1 : _ = some (Obj.cells #[a, b] t (0, 0)) := heap_setCell_same (heap_setCell_same hP 0 a) 1 b
 exact ⟨hP1, (cell_of_row _ _ 0 _ _ _ hP1).trans rfl, (cell_of_row _ _ 1 _ _ _ hP1).trans rfl, ((Chg.refl _ _).setCell (Or.inl (by simp)) _).setCell (Or.inl (by simp)) _⟩
theorem store3 {w : World} {P : Nat} {p0 p1 p2 : Value} {t : TypeId} (a b c : Value) (hP : w.heap[P]? = some (.cells #[p0, p1, p2] t (0, 0))) :
  ∀ w', w' = ((w.setCell ⟨P, 0, none⟩ a).setCell ⟨P, 1, none⟩ b).setCell ⟨P, 2, none⟩ c → w'.heap[P]? = some (.cells #[a, b, c] t (0, 0)) ∧ w'.cell? ⟨P, 0, none⟩ = some a ∧ w'.cell? ⟨P, 1, none⟩ = some b ∧ w'.cell? ⟨P, 2, none⟩ = some c ∧ Chg [P] w w' := by
 rintro w' rfl
 have hP1 : _ = some (Obj.cells #[a, b, c] t (0, 0)) := heap_setCell_same (heap_setCell_same (heap_setCell_same hP 0 a) 1 b) 2 c
 exact ⟨hP1, (cell_of_row _ _ 0 _ _ _ hP1).trans rfl, (cell_of_row _ _ 1 _ _ _ hP1).trans rfl, (cell_of_row _ _ 2 _ _ _ hP1).trans rfl, (((Chg.refl _ _).setCell (Or.inl (by simp)) _).setCell (Or.inl (by simp)) _).setCell (Or.inl (by simp)) _⟩
theorem owns_short {w : World} {B : Nat} {e : TypeId} {sz g n m c : Nat} {xs : List Value} (h : w.ownsRow B e sz (.slice (some ⟨g, 0, none⟩) n c) n xs) (hm : m ≤ n) : w.ownsRow B e sz (.slice (some ⟨g, 0, none⟩) m c) m (xs.take (m * sz)) := by
 obtain ⟨h0, h | ⟨g', cap, cur, e1, h1, h2, h3, h4, h5, h6⟩⟩ := h
 ·cases h.1
 cases e1
 have hle : m * sz ≤ n * sz := Nat.mul_le_mul_right _ hm
 refine ⟨by rw [List.length_take, h0]; exact Nat.min_eq_left hle, Or.inr ⟨g, c, cur, rfl, h1, h2, by omega, h4, h5, ?_⟩⟩
 rw [← h6, List.take_take, Nat.min_eq_left hle]
namespace Plain
structure Lk where
 a : Int
 b : Int
 id : Int
deriving DecidableEq, Inhabited
def endsK (l : List Lk) : List Int := l.flatMap fun x => [x.a, x.b]
def at0 (l : List Lk) (k : Nat) : Lk := l.getD k default
theorem endsK_snoc {l : List Lk} {k : Nat} (hk : k < l.length) : endsK (l.take (k + 1)) = endsK (l.take k) ++ [(at0 l k).a, (at0 l k).b] := by
 unfold endsK at0
 rw [List.take_succ_eq_append_getElem hk, List.flatMap_append]
 simp [List.getD, hk]
theorem endsK_len : ∀ l : List Lk, (endsK l).length = 2 * l.length
 | [] => rfl
 | e :: l => by
  have ih := endsK_len l
  unfold endsK at ih ⊢
  rw [List.flatMap_cons, List.length_append, ih]
  simp only [List.length_cons, List.length_nil]
  omega
def vertsK (l : List Lk) : List Int := tidy (endsK l)
end Plain
theorem elemLink : Elem 24 50 (.agg #[.int .i64 0, .int .i64 0, .int .i64 0]) 3 24 := ⟨Tryz.underlying24, by kernel_rfl, rfl, by decide, by decide⟩
def LksAt (w : World) (v : Value) (l : List Plain.Lk) : Prop :=
 ∃ lo cap, v = .slice lo l.length cap ∧ l.length ≤ 9223372036854775807 ∧ (∀ i, i < l.length → I64 (Plain.at0 l i).a ∧ I64 (Plain.at0 l i).b ∧ I64 (Plain.at0 l i).id) ∧
  (∀ i, i < l.length → ∃ b off, lo = some ⟨b, off, none⟩ ∧ w.cell? ⟨b, off + i * 3, none⟩ = some (.int .i64 (Plain.at0 l i).a) ∧ w.cell? ⟨b, off + i * 3 + 1, none⟩ = some (.int .i64 (Plain.at0 l i).b) ∧ w.cell? ⟨b, off + i * 3 + 2, none⟩ = some (.int .i64 (Plain.at0 l i).id))
theorem LksAt.fresh {w w' : World} {v : Value} {l : List Plain.Lk} (h : LksAt w v l) (hc : Chg [] w w') : LksAt w' v l := by
 obtain ⟨lo, cap, rfl, h1, h2, h3⟩ := h
 refine ⟨lo, cap, rfl, h1, h2, fun i hi => ?_⟩
 obtain ⟨b, off, e, c0, c1, c2⟩ := h3 i hi
 exact ⟨b, off, e, hc.cell c0 (by simp), hc.cell c1 (by simp), hc.cell c2 (by simp)⟩
theorem LksAt.shape {w : World} {v : Value} {l : List Plain.Lk} (h : LksAt w v l) : ∃ lo cap, v = .slice lo l.length cap := by
 obtain ⟨lo, cap, rfl, -⟩ := h
 exact ⟨lo, cap, rfl⟩
def lkCells (l : List Plain.Lk) : List Value := l.flatMap fun x => [.int .i64 x.a, .int .i64 x.b, .int .i64 x.id]
theorem lkCells_len (l : List Plain.Lk) : (lkCells l).length = l.length * 3 := by
 induction l with
 | nil => rfl
 | cons x l ih =>
  unfold lkCells at ih ⊢
  rw [List.flatMap_cons, List.length_append, ih]
  simp only [List.length_cons, List.length_nil]
  omega
theorem lkCells_app (l m : List Plain.Lk) : lkCells (l ++ m) = lkCells l ++ lkCells m := List.flatMap_append
theorem lkCells_get : ∀ {l : List Plain.Lk} {i : Nat}, i < l.length → (lkCells l)[i * 3]? = some (.int .i64 (Plain.at0 l i).a) ∧ (lkCells l)[i * 3 + 1]? = some (.int .i64 (Plain.at0 l i).b) ∧ (lkCells l)[i * 3 + 2]? = some (.int .i64 (Plain.at0 l i).id)
 | [], i, h => by simp at h
 | x :: l, 0, _ => ⟨rfl, rfl, rfl⟩
 | x :: l, i + 1, h => by
  have ih := lkCells_get (l := l) (i := i) (by simpa using h)
  have e : lkCells (x :: l) = .int .i64 x.a :: .int .i64 x.b :: .int .i64 x.id :: lkCells l := rfl
  have e2 : Plain.at0 (x :: l) (i + 1) = Plain.at0 l i := by simp [Plain.at0]
  rw [e, e2, show (i + 1) * 3 = i * 3 + 1 + 1 + 1 by omega]
  refine ⟨?_, ?_, ?_⟩
  ·simpa using ih.1
  ·rw [show i * 3 + 1 + 1 + 1 + 1 = i * 3 + 1 + 1 + 1 + 1 from rfl]; simpa using ih.2.1
  simpa using ih.2.2
theorem lkCells_one (l : List Plain.Lk) : ∀ u ∈ lkCells l, u.oneCell' = true := by
 intro u hu
 unfold lkCells at hu
 obtain ⟨x, -, hx⟩ := List.mem_flatMap.1 hu
 simp only [List.mem_cons, List.not_mem_nil, or_false] at hx
 rcases hx with rfl | rfl | rfl <;> rfl
def LkRow (w : World) (B : Nat) (v : Value) (l : List Plain.Lk) : Prop :=
 w.ownsRow B 50 3 v l.length (lkCells l) ∧ (∀ x ∈ l, I64 x.a ∧ I64 x.b ∧ I64 x.id) ∧ l.length < 4294967296
section
variable {w w' : World} {B : Nat} {v : Value} {l : List Plain.Lk}
theorem LkRow.nil (w : World) (B : Nat) : LkRow w B (.slice none 0 0) [] := ⟨World.ownsRow_nil _ _ _ _, by simp, by decide⟩
theorem LkRow.shape (h : LkRow w B v l) : ∃ ao c, v = .slice ao l.length c := owns_shape h.1
theorem LkRow.foot (h : LkRow w B v l) : foot v = v.ownBlock.toList := by
 obtain ⟨ao, c, rfl⟩ := h.shape
 rfl
theorem LkRow.low (h : LkRow w B v l) : ∀ b ∈ Go.Proofs.YtpcgklagmcnhaaaGreat.foot v, B ≤ b ∧ b < w.heap.size := fun b hb => h.1.lt b (by rw [h.foot] at hb; simpa using hb)
theorem LkRow.chg {own : List Nat} (h : LkRow w B v l) (hc : Chg own w w') (hn : ∀ b ∈ Go.Proofs.YtpcgklagmcnhaaaGreat.foot v, b ∉ own) : LkRow w' B v l :=
 ⟨owns_chg h.1 hc (fun b hb => hn b (by rw [h.foot, hb]; simp)), h.2⟩
theorem LkRow.fresh (h : LkRow w B v l) (hc : Chg [] w w') : LkRow w' B v l := h.chg hc (by simp)
theorem LkRow.base {B' : Nat} (h : LkRow w B' v l) (hB : B ≤ B') : LkRow w B v l := ⟨owns_base h.1 hB, h.2⟩
theorem LkRow.kind (h : LkRow w B v l) : ∀ b ∈ Go.Proofs.YtpcgklagmcnhaaaGreat.foot v, ∃ cs r, w.heap[b]? = some (.cells cs 50 r) := by
 intro b hb
 rcases h.1.2 with ⟨rfl, -⟩ | ⟨g, cap, cur, rfl, -, hg, -⟩
 ·simp [Go.Proofs.YtpcgklagmcnhaaaGreat.foot, Value.ownBlock] at hb
 simp [Go.Proofs.YtpcgklagmcnhaaaGreat.foot, Value.ownBlock] at hb
 subst hb
 exact ⟨_, _, hg⟩
theorem Plain.at0_mem {l : List Plain.Lk} {i : Nat} (hi : i < l.length) : Plain.at0 l i ∈ l := by
 unfold Plain.at0
 rw [List.getD_eq_getElem?_getD, List.getElem?_eq_getElem hi]
 exact List.getElem_mem hi
theorem LkRow.lks (h : LkRow w B v l) : LksAt w v l := by
 obtain ⟨h, h1, h2⟩ := h
 rcases h.2 with ⟨rfl, h0⟩ | ⟨b, cap, cur, rfl, hb, hh, hnc, hcm, hcs, hys⟩
 ·exact ⟨none, 0, by rw [h0], by omega, fun i hi => by omega, fun i hi => by omega⟩
 refine ⟨_, cap, rfl, by omega, fun i hi => h1 _ (Plain.at0_mem hi), fun i hi => ⟨b, 0, rfl, ?_, ?_, ?_⟩⟩
 ·rw [Nat.zero_add, cell_of_row w _ (i * 3) cur 50 (0, 0) hh]
  have q := (lkCells_get hi).1
  rw [← hys, List.getElem?_take, if_pos (by omega)] at q
  simpa using q
 ·rw [Nat.zero_add, cell_of_row w _ (i * 3 + 1) cur 50 (0, 0) hh]
  have q := (lkCells_get hi).2.1
  rw [← hys, List.getElem?_take, if_pos (by omega)] at q
  simpa using q
 rw [Nat.zero_add, cell_of_row w _ (i * 3 + 2) cur 50 (0, 0) hh]
 have q := (lkCells_get hi).2.2
 rw [← hys, List.getElem?_take, if_pos (by omega)] at q
 simpa using q
end
theorem Plain.endsK_le {l : List Plain.Lk} (k : Nat) : (Plain.endsK (l.take k)).length ≤ 2 * l.length := by
 rw [Plain.endsK_len, List.length_take]; omega
set_option maxRecDepth 100000 in
set_option maxHeartbeats 4000000 in
theorem vertices_any (v : Value) (l : List Plain.Lk) (w : World) (hl : l.length ≤ 100000000) (h : LksAt w v l) :
  Calls Tryz.prog 41 #[v] w fun e w' => ∃ ov, e = .returned ov ∧ RowAt w' w.heap.size ov (Plain.vertsK l) ∧ Chg [] w w' := by
 obtain ⟨lo, cap, rfl, hm, hsm, hcell⟩ := h
 have HSM := Lib.hid hsm
 have HCE := Lib.hid hcell
 have HLE := Lib.hid (fun k => Plain.endsK_le (l := l) k)
 clear hsm hcell
 obtain ⟨B, hB⟩ : ∃ B, w.heap.size = B := ⟨_, rfl⟩
 have HB := Lib.hid hB
 rw [hB]
 clear hB
 go_enter Tryz.func41, Tryz.ntmps41
 go_wp2_with fail
 go_loopw [3, 8] (fun c3 iv wr => ∃ k : Nat, k ≤ l.length ∧ iv = .int .i64 k ∧ RowAt wr B c3 (Plain.endsK (l.take k)) ∧ Chg [] w wr) (fun _ iv _ => l.length - (intOf iv).toNat)
 case atStart => exact ⟨0, Nat.zero_le _, rfl, rowNil' _ _, Chg.refl _ _⟩
 case round =>
  obtain ⟨k, hk, rfl, hr, hc⟩ := hrel
  obtain ⟨uo, uc, rfl⟩ := hr.shape
  have HR := Lib.hid hr
  have HC := Lib.hid hc
  have hle := HLE.out k
  clear hr hc
  by_cases hlt : k < l.length
  ·obtain ⟨b, off, rfl, c0, c1, c2⟩ := HCE.out k hlt
   obtain ⟨hi1, hi2, -⟩ := HSM.out k hlt
   have d0 := HC.out.cel c0
   have d1 := HC.out.cel c1
   have d2 := HC.out.cel c2
   have HEL := Lib.hid (Plain.endsK_snoc hlt)
   obtain ⟨x, hx⟩ : ∃ x, (Plain.at0 l k).a = x := ⟨_, rfl⟩
   obtain ⟨y, hy⟩ : ∃ y, (Plain.at0 l k).b = y := ⟨_, rfl⟩
   obtain ⟨z, hz⟩ : ∃ z, (Plain.at0 l k).id = z := ⟨_, rfl⟩
   obtain ⟨M, hM⟩ : ∃ M, Plain.endsK (l.take k) = M := ⟨_, rfl⟩
   rw [hx] at d0 hi1 HEL
   rw [hy] at d1 hi2 HEL
   rw [hz] at d2
   rw [hM] at HR HEL hle ⊢
   clear c0 c1 c2 hx hy hz hM
   have CB := Lib.hid (((Chg.refl [] wr).alloc (.cells #[.int .i64 x, .int .i64 y, .int .i64 z] 50)).alloc (.cells #[.int .i64 x, .int .i64 y] 3))
   have HLI := Lib.hid (show IntsAt ((wr.alloc (.cells #[.int .i64 x, .int .i64 y, .int .i64 z] 50)).alloc (.cells #[.int .i64 x, .int .i64 y] 3)) (.slice (some ⟨wr.heap.size + 1, 0, none⟩) 2 2) [x, y] by have := lit_two (wr.alloc (.cells #[.int .i64 x, .int .i64 y, .int .i64 z] 50)) hi1 hi2; simpa using this)
   have HSZ := Lib.hid (show B ≤ ((wr.alloc (.cells #[.int .i64 x, .int .i64 y, .int .i64 z] 50)).alloc (.cells #[.int .i64 x, .int .i64 y] 3)).heap.size by rw [← HB.out]; exact Nat.le_trans HC.out.size CB.out.size)
   have hsum : M.length + [x, y].length < 4294967296 := by simp; omega
   go_wp2_with (at_builtin; refine wl_app_read rfl _ _ rfl (B := B) (v := .slice uo M.length uc) rfl rfl (HR.out.chg CB.out (by simp)) HLI.out HSZ.out hsum ?_; intro v6 w6 r6 c6 f6; have R6 := Lib.hid r6; have C6 := Lib.hid c6; clear r6 c6 f6)
   go_roundw
   case rel => exact ⟨k + 1, by omega, by go_num, by rw [HEL.out]; exact R6.out, (HC.out.tr CB.out).trans C6.out (fun j hj => Or.inr (by
    have h1 := (HR.out.low j (by rw [← HR.out.foot]; exact hj)).1
    have := HB.out
    omega))⟩
   case measure => simp [intOf]; omega
  have e : k = l.length := by omega
  subst e
  rw [List.take_length] at HR hle ⊢
  have HV := Lib.hid (show Go.Lib.compact ((Plain.endsK l).mergeSort fun x y => decide (x ≤ y)) = Plain.vertsK l from rfl)
  obtain ⟨M, hM⟩ : ∃ M, Plain.endsK l = M := ⟨_, rfl⟩
  rw [hM] at HR hle HV ⊢
  have HML := Lib.hid (show M.length < 1000000000 by omega)
  clear hM hk hlt hle
  go_wp2_with fail
  refine (sortI_any _ M _ _ HML.out HR.out).mono ?_
  rintro e w5 ⟨rfl, hr5, hc5⟩
  have hsl : (M.mergeSort fun x y => decide (x ≤ y)).length = M.length := (List.mergeSort_perm _ _).length_eq
  have HC5 := Lib.hid (show Chg [] w w5 from HC.out.trans hc5 (fun b hb => Or.inr (by have := (HR.out.low b hb).1; have := HB.out; omega)))
  obtain ⟨S, hS⟩ : ∃ S, (M.mergeSort fun x y => decide (x ≤ y)) = S := ⟨_, rfl⟩
  rw [hS] at hsl hr5 HV
  have HR5 := Lib.hid hr5
  have HSL := Lib.hid hsl
  clear hr5 hc5 hsl hS
  go_wp2_with fail
  refine (compactI_any _ S _ _ (by rw [HSL.out]; exact HML.out) HR5.out).mono ?_
  rintro e w6 ⟨v6, rfl, hr6, hc6⟩
  rw [HV.out] at hr6
  have HC6 := Lib.hid (show Chg [] w w6 from HC5.out.trans hc6 (fun b hb => Or.inr (by have := (HR5.out.low b hb).1; have := HB.out; omega)))
  have HR6 := Lib.hid hr6
  clear hr6 hc6
  go_wp2
  go_ret
  exact ⟨_, rfl, HR6.out, HC6.out⟩
end Go.Proofs.YtpcgklagmcnhaaaGreat
namespace Go.Proofs.YtpcgklagmcnhaaaGreat.Plain
def nK (l : List Lk) : Int := l.foldl (fun n x => max (max n (x.a + 1)) (x.b + 1)) 0
def grK (l : List Lk) : Gr := ⟨nK l, l.map fun x => (x.a, x.b)⟩
def ixs (n : Nat) : List Int := (List.range n).map fun i : Nat => (i : Int)
def okK (l : List Lk) (k : Nat) : Bool :=
 !((l.take k).any fun y => y.id == (at0 l k).id) && decide (0 ≤ (at0 l k).a) && decide (0 ≤ (at0 l k).b) && decide ((at0 l k).a ≠ (at0 l k).b) && decide (max (at0 l k).a (at0 l k).b < 1024)
def wholeB (l : List Lk) : Bool := (List.range l.length).all (okK l) && spanErr (grK l) (ixs l.length) == 0
def ptK (l : List Lk) : Pt := bspan (grK l) (ixs l.length)
noncomputable def rightK (l : List Lk) : Bool := wholeB l && solidB (grK l) (ptK l)
structure Cl where
 s : St
 f : Int → Option Int
def clEnd (u v i : Int) (c : Cl) (x : Int) : Cl :=
 if x = u ∨ x = v then c else
 match c.f x with
 | some k => ⟨c.s.join k i, c.f⟩
 | none => ⟨c.s, fun y => if y = x then some i else c.f y⟩
def clRun (u v : Int) (l : List Lk) : Nat → Cl
 | 0 => ⟨St.new [], fun _ => none⟩
 | k + 1 => clEnd u v k (clEnd u v k ⟨(clRun u v l k).s.put k, (clRun u v l k).f⟩ (at0 l k).a) (at0 l k).b
def classesK (l : List Lk) (u v : Int) : List (List Int) := (clRun u v l l.length).s.groups
noncomputable def classesR (l : List Lk) (u v : Int) : List (List Int) := if u = v ∨ u ∉ vertsK l ∨ v ∉ vertsK l ∨ rightK l = false then [] else classesK l u v
def willK (m n : Nat) : Bool := decide (2 ≤ n) && decide (2 ≤ (m : Int) - n)
def ringsK (l : List Lk) : Bool := (endsK l).all fun x => (endsK l).count x == 2
def restU (g : Gr) (p : Pt) (u : Int) : Pt := ⟨p.v.filter fun v => v ≠ u, p.e.filter fun e => (g.at e).1 ≠ u ∧ (g.at e).2 ≠ u⟩
def goU (g : Gr) (l : List Int) (u : Int) : List Int := l.filterMap fun e => if (g.at e).1 = u then some (g.at e).2 else if (g.at e).2 = u then some (g.at e).1 else none
def cutsB (g : Gr) (p : Pt) : List Int := if p.err g ≠ 0 then [] else (ixs g.n.toNat).filter fun v => 1 < ((keysB g p).flatMap (blkV g p)).count v
def besideK (g : Gr) (p : Pt) (u : Int) : List Int := (restU g p u).v.filter fun v => !(decide (v < u) || (decide ((goU g p.e u).count v < 2) && !decide (v ∈ cutsB g (restU g p u))))
def firstC (l : List Lk) (u v : Int) : Option (Int × Int × List Int) := ((classesK l u v).find? fun c => willK l.length c.length).map fun c => (u, v, c)
def firstV (l : List Lk) (u : Int) : Option (Int × Int × List Int) := (besideK (grK l) (ptK l) u).findSome? fun v => firstC l u v
noncomputable def firstK (l : List Lk) : Option (Int × Int × List Int) := if rightK l = true ∧ ringsK l = false then (ptK l).v.findSome? fun u => firstV l u else none
noncomputable def kindK (l : List Lk) : Int × Bool :=
 if rightK l = false then (0, false) else if l.length = 1 then (0, true) else if ringsK l = true then (1, true) else if (vertsK l).length = 2 then (2, true) else if (firstK l).isSome then (4, true) else (3, true)
def offK (l : List Lk) (s : List Int) (k : Nat) : List Lk := ((List.range k).filter fun i : Nat => decide ((i : Int) ∈ s)).map (at0 l)
def leftK (l : List Lk) (s : List Int) (k : Nat) : List Lk := ((List.range k).filter fun i : Nat => !decide ((i : Int) ∈ s)).map (at0 l)
noncomputable def cutK (l : List Lk) (u v : Int) (s : List Int) (id : Int) : Option (List Lk × List Lk) :=
 if (classesR l u v).contains s = true ∧ willK l.length s.length = true ∧ id < 0 ∧ (l.any fun x => x.id == id) = false then some (offK l s l.length ++ [⟨u, v, id⟩], leftK l s l.length ++ [⟨u, v, id⟩]) else none
theorem lk_snoc {l : List Lk} {k : Nat} (hk : k < l.length) : l.take (k + 1) = l.take k ++ [at0 l k] := by
 unfold at0
 rw [List.take_succ_eq_append_getElem hk]
 simp [List.getD, hk]
theorem nK_snoc (l : List Lk) (x : Lk) : nK (l ++ [x]) = max (max (nK l) (x.a + 1)) (x.b + 1) := by simp [nK]
theorem nK_fold : ∀ (l : List Lk) (n : Int), 0 ≤ n → 0 ≤ l.foldl (fun n x => max (max n (x.a + 1)) (x.b + 1)) n
 | [], _, h => h
 | x :: l, n, h => nK_fold l (max (max n (x.a + 1)) (x.b + 1)) (by omega)
theorem nK_pos (l : List Lk) : 0 ≤ nK l := nK_fold l 0 (by omega)
def okL (l : List Lk) (k : Nat) : Prop := ∀ j, j < k → okK l j = true
theorem okK_iff {l : List Lk} {k : Nat} : okK l k = true ↔ ((l.take k).any fun y => y.id == (at0 l k).id) = false ∧ 0 ≤ (at0 l k).a ∧ 0 ≤ (at0 l k).b ∧ (at0 l k).a ≠ (at0 l k).b ∧ (at0 l k).a < 1024 ∧ (at0 l k).b < 1024 := by
 unfold okK
 simp only [Bool.and_eq_true, Bool.not_eq_true', decide_eq_true_eq]
 constructor
 ·rintro ⟨⟨⟨⟨h1, h2⟩, h3⟩, h4⟩, h5⟩
  exact ⟨h1, h2, h3, h4, by omega, by omega⟩
 rintro ⟨h1, h2, h3, h4, h5, h6⟩
 exact ⟨⟨⟨⟨h1, h2⟩, h3⟩, h4⟩, by omega⟩
theorem okL.succ {l : List Lk} {k : Nat} (h : okL l k) (hk : okK l k = true) : okL l (k + 1) := fun j hj => by
 rcases Nat.lt_succ_iff_lt_or_eq.1 hj with q | rfl
 ·exact h j q
 exact hk
theorem okL.nK {l : List Lk} : ∀ {k : Nat}, okL l k → k ≤ l.length → nK (l.take k) ≤ 1024
 | 0, _, _ => by simp [Plain.nK]
 | k + 1, h, hk => by
  have ih := okL.nK (k := k) (fun j hj => h j (by omega)) (by omega)
  have := okK_iff.1 (h k (by omega))
  rw [lk_snoc (by omega), nK_snoc]
  omega
theorem okL.all {l : List Lk} (h : okL l l.length) : (List.range l.length).all (okK l) = true := List.all_eq_true.2 fun j hj => h j (List.mem_range.1 hj)
theorem whole_no {l : List Lk} {k : Nat} (hk : k < l.length) (h : okK l k = false) : wholeB l = false := by
 unfold wholeB
 rw [all_range_false hk h, Bool.false_and]
theorem whole_end {l : List Lk} (h : okL l l.length) : wholeB l = (spanErr (grK l) (ixs l.length) == 0) := by
 unfold wholeB
 rw [h.all, Bool.true_and]
def idsF (l : List Lk) : Nat → Int → Option Int
 | 0 => fun _ => none
 | k + 1 => fun y => if y = (at0 l k).id then some (k : Int) else idsF l k y
theorem idsF_some (l : List Lk) : ∀ (k : Nat), k ≤ l.length → ∀ y, (idsF l k y).isSome = (l.take k).any fun x => x.id == y
 | 0, _, _ => by simp [idsF]
 | k + 1, hk, y => by
  have ih := idsF_some l k (by omega) y
  rw [lk_snoc (by omega), List.any_append]
  show (if y = (at0 l k).id then some (k : Int) else idsF l k y).isSome = _
  by_cases e : y = (at0 l k).id
  ·rw [if_pos e, e]; simp
  rw [if_neg e, ih]
  simp [Ne.symm e]
theorem ixs_snoc (n : Nat) : ixs (n + 1) = ixs n ++ [(n : Int)] := by simp [ixs, List.range_succ]
theorem ixs_len (n : Nat) : (ixs n).length = n := by simp [ixs]
theorem mem_ixs {n : Nat} {x : Int} : x ∈ ixs n ↔ 0 ≤ x ∧ x < n := by
 unfold ixs
 rw [List.mem_map]
 constructor
 ·rintro ⟨i, hi, rfl⟩
  have := List.mem_range.1 hi
  omega
 rintro ⟨h1, h2⟩
 exact ⟨x.toNat, List.mem_range.2 (by omega), by omega⟩
theorem grK_ends {l : List Lk} {i : Nat} (hi : i < l.length) : (grK l).ends i = ((at0 l i).a, (at0 l i).b) := by
 unfold Gr.ends grK at0
 simp [List.getD, hi]
theorem clEnd_all {u v i x : Int} {c : Cl} (h : ∀ k, c.f x = some k → k ∈ c.s.all) (hi : i ∈ c.s.all) : (clEnd u v i c x).s.all = c.s.all := by
 unfold clEnd
 split
 ·rfl
 cases hf : c.f x with
 | none => rfl
 | some k =>
  show (c.s.join k i).all = _
  unfold St.join
  simp only [St.put_in (h k hf), St.put_in hi]
theorem clEnd_f {u v i x : Int} {c : Cl} {L : List Int} (h : ∀ y k, c.f y = some k → k ∈ L) (hi : i ∈ L) : ∀ y k, (clEnd u v i c x).f y = some k → k ∈ L := by
 intro y k
 unfold clEnd
 split
 ·exact h y k
 cases hf : c.f x with
 | none =>
  show (if y = x then some i else c.f y) = some k → _
  split
  ·rintro ⟨⟩; exact hi
  exact h y k
 | some k' => exact h y k
def clAt (u v : Int) (l : List Lk) (k : Nat) : Nat → Cl
 | 0 => ⟨(clRun u v l k).s.put k, (clRun u v l k).f⟩
 | j + 1 => clEnd u v k (clAt u v l k j) ([(at0 l k).a, (at0 l k).b].getD j 0)
theorem clAt_two (u v : Int) (l : List Lk) (k : Nat) : clRun u v l (k + 1) = clAt u v l k 2 := rfl
theorem clRun_inv (u v : Int) (l : List Lk) : ∀ k, (clRun u v l k).s.all = ixs k ∧ ∀ y i, (clRun u v l k).f y = some i → i ∈ ixs k
 | 0 => ⟨rfl, fun _ _ h => by cases h⟩
 | k + 1 => by
  obtain ⟨h1, h2⟩ := clRun_inv u v l k
  have hn : (k : Int) ∉ (clRun u v l k).s.all := by rw [h1]; intro q; have := (mem_ixs.1 q).2; omega
  have hmono : ∀ x, x ∈ ixs k → x ∈ ixs (k + 1) := fun x hx => by rw [ixs_snoc]; exact List.mem_append_left _ hx
  have hk : (k : Int) ∈ ixs (k + 1) := by rw [ixs_snoc]; simp
  have h0 : (clAt u v l k 0).s.all = ixs (k + 1) := by
   show ((clRun u v l k).s.put k).all = _
   rw [St.put_new hn, h1, ixs_snoc]
  have f0 : ∀ y i, (clAt u v l k 0).f y = some i → i ∈ ixs (k + 1) := fun y i q => hmono _ (h2 y i q)
  have step : ∀ j, ((clAt u v l k j).s.all = ixs (k + 1) ∧ ∀ y i, (clAt u v l k j).f y = some i → i ∈ ixs (k + 1)) → (clAt u v l k (j + 1)).s.all = ixs (k + 1) ∧ ∀ y i, (clAt u v l k (j + 1)).f y = some i → i ∈ ixs (k + 1) := fun j ⟨a, b⟩ =>
   ⟨(clEnd_all (fun i q => by rw [a]; exact b _ i q) (by rw [a]; exact hk)).trans a, clEnd_f b hk⟩
  exact step 1 (step 0 ⟨h0, f0⟩)
theorem clAt_inv (u v : Int) (l : List Lk) (k : Nat) : ∀ j, (clAt u v l k j).s.all = ixs (k + 1) ∧ ∀ y i, (clAt u v l k j).f y = some i → i ∈ ixs (k + 1)
 | 0 => by
  obtain ⟨h1, h2⟩ := clRun_inv u v l k
  have hn : (k : Int) ∉ (clRun u v l k).s.all := by rw [h1]; intro q; have := (mem_ixs.1 q).2; omega
  exact ⟨by show ((clRun u v l k).s.put k).all = _; rw [St.put_new hn, h1, ixs_snoc], fun y i q => by rw [ixs_snoc]; exact List.mem_append_left _ (h2 y i q)⟩
 | j + 1 => by
  obtain ⟨a, b⟩ := clAt_inv u v l k j
  have hk : (k : Int) ∈ ixs (k + 1) := by rw [ixs_snoc]; simp
  exact ⟨(clEnd_all (fun i q => by rw [a]; exact b _ i q) (by rw [a]; exact hk)).trans a, clEnd_f b hk⟩
def cntF (M : List Int) : Int → Option Int := fun y => if M.count y = 0 then none else some (M.count y : Int)
theorem cntF_nil : cntF [] = fun _ => none := by funext y; simp [cntF]
theorem cntF_snoc (M : List Int) (x : Int) : (fun y => if y = x then some ((cntF M x).getD 0 + 1) else cntF M y) = cntF (M ++ [x]) := by
 funext y
 have hx : (cntF M x).getD 0 = (M.count x : Int) := by unfold cntF; split <;> simp_all
 by_cases e : y = x
 ·subst e
  rw [if_pos rfl, hx]
  unfold cntF
  rw [List.count_append]
  simp
 rw [if_neg e]
 unfold cntF
 rw [List.count_append]
 simp [Ne.symm e]
theorem cntF_get (M : List Int) (x : Int) : (cntF M x).getD 0 = (M.count x : Int) := by unfold cntF; split <;> simp_all
end Go.Proofs.YtpcgklagmcnhaaaGreat.Plain
