/- law 08's awake: true. -/
import Derived.Test.YtednbiophjndpaaGreatVRefP
import Derived.ProofKit
import Derived.OpenShut
import Derived.ChangeOld
import Derived.Deep.Strs
import Derived.Lib.SmallJoins
namespace Go.Proofs.YtednbiophjndpaaGreat
open Go.RowKit Go.Maps
theorem gr0_at (w : World) : GrAt w (.agg #[.int .i64 2, .slice none 0 0]) Plain.g0 := by
 exact ⟨none, 0, rfl, I64.mk (by decide) (by decide), by decide, fun i hi => absurd hi (by simp [Plain.g0]), fun i hi => absurd hi (by simp [Plain.g0])⟩
theorem t0_at (w : World) : RowsAt (w.alloc (.cells #[.slice none 0 0, .slice none 0 0] 25)) (.slice (some ⟨w.heap.size, 0, none⟩) 2 2) Plain.t0 := by
 have h := heap_alloc_new w (.cells #[.slice none 0 0, .slice none 0 0] 25)
 refine ⟨_, 2, rfl, by decide, fun i hi => ?_⟩
 have hi : i < 2 := hi
 rcases i with _ | _ | i
 ·exact ⟨_, 0, .slice none 0 0, rfl, (cell_of_row _ _ 0 _ _ _ h).trans rfl, ⟨none, 0, 0, rfl, by decide, by decide⟩, IntsAt.nil _⟩
 ·exact ⟨_, 0, .slice none 0 0, rfl, (cell_of_row _ _ 1 _ _ _ h).trans rfl, ⟨none, 0, 0, rfl, by decide, by decide⟩, IntsAt.nil _⟩
 omega
theorem s0_at (w w' : World) (hc : Chg [] (w.alloc (.cells #[.int .i64 (-2), .int .i64 (-1)] 3)) w') : RowsAt (w'.alloc (.cells #[.slice (some ⟨w.heap.size, 0, none⟩) 2 2] 25)) (.slice (some ⟨w'.heap.size, 0, none⟩) 1 1) Plain.s0 := by
 have h := heap_alloc_new w' (.cells #[.slice (some ⟨w.heap.size, 0, none⟩) 2 2] 25)
 refine ⟨_, 1, rfl, by decide, fun i hi => ?_⟩
 have hi : i < 1 := hi
 obtain rfl : i = 0 := by omega
 exact ⟨_, 0, _, rfl, (cell_of_row _ _ 0 _ _ _ h).trans rfl, ⟨_, 2, 2, rfl, by decide, by decide⟩, ((lit_two w (x := -2) (y := -1) (I64.mk (by decide) (by decide)) (I64.mk (by decide) (by decide))).fresh hc).fresh ((Chg.refl [] w').alloc _)⟩
theorem rowsNil (w : World) : RowsAt w (.slice none 0 0) [] := ⟨none, 0, rfl, by decide, fun i hi => absurd hi (by simp)⟩
theorem s0_len (i : Nat) : (Plain.s0.getD i []).length ≤ 10000 := by
 rcases i with _ | i
 ·decide
 simp [Plain.s0, List.getD]
set_option maxRecDepth 100000 in
set_option maxHeartbeats 4000000 in
theorem awake8_any (w : World) : Calls Tryz.prog 11 #[] w fun e w' => e = .returned (.bool true) ∧ Chg [] w w' := by
 have HC1 := Lib.hid ((Chg.refl [] w).alloc (.cells #[.int .i64 2, .slice none 0 0] 24))
 have b0 := (cell_of_row _ _ 0 _ _ _ (heap_alloc_new w (.cells #[.int .i64 2, .slice none 0 0] 24))).trans (show _ = some (Value.int .i64 2) from rfl)
 have b1 := (cell_of_row _ _ 1 _ _ _ (heap_alloc_new w (.cells #[.int .i64 2, .slice none 0 0] 24))).trans (show _ = some (Value.slice none 0 0) from rfl)
 have B0 := Lib.hid b0
 have B1 := Lib.hid b1
 go_enter Tryz.func11, Tryz.ntmps11
 go_wp2_with fail
 refine (whole_any _ Plain.g0 2 _ rfl (by decide) (by decide) (gr0_at _)).mono ?_
 rintro e w2 ⟨v1, v2, rfl, r1, r2, hc2⟩
 obtain ⟨a1, q1, rfl⟩ := r1.shape
 obtain ⟨a2, q2, rfl⟩ := r2.shape
 rw [show (Plain.upTo 2).length = 2 from rfl] at r1 ⊢
 rw [show (Plain.upTo Plain.g0.e.length).length = 0 from rfl] at r2 ⊢
 have c0 := hc2.cell b0 (by simp)
 have c1 := hc2.cell b1 (by simp)
 have c0n := fun o => cellNew c0 o
 have c1n := fun o => cellNew c1 o
 have d0 := (cell_of_row _ _ 0 _ _ _ (heap_alloc_new w2 (.cells #[.slice a1 2 q1, .slice a2 0 q2] 27))).trans (show _ = some (Value.slice a1 2 q1) from rfl)
 have d1 := (cell_of_row _ _ 1 _ _ _ (heap_alloc_new w2 (.cells #[.slice a1 2 q1, .slice a2 0 q2] 27))).trans (show _ = some (Value.slice a2 0 q2) from rfl)
 have HR1 := Lib.hid r1
 have HR2 := Lib.hid r2
 have HC2 := Lib.hid hc2
 clear r1 r2 hc2 b0 b1
 go_wp2_with fail
 have sA : (w2.alloc (.cells #[.slice a1 2 q1, .slice a2 0 q2] 27)).heap.size = w2.heap.size + 1 := by simp
 have ht := t0_at (w2.alloc (.cells #[.slice a1 2 q1, .slice a2 0 q2] 27))
 rw [sA] at ht
 have sB : ((w2.alloc (.cells #[.slice a1 2 q1, .slice a2 0 q2] 27)).alloc (.cells #[.slice none 0 0, .slice none 0 0] 25)).heap.size = w2.heap.size + 1 + 1 := by simp
 have sC : (((w2.alloc (.cells #[.slice a1 2 q1, .slice a2 0 q2] 27)).alloc (.cells #[.slice none 0 0, .slice none 0 0] 25)).alloc (.cells #[.int .i64 (-2), .int .i64 (-1)] 3)).heap.size = w2.heap.size + 1 + 1 + 1 := by simp
 have hs := s0_at ((w2.alloc (.cells #[.slice a1 2 q1, .slice a2 0 q2] 27)).alloc (.cells #[.slice none 0 0, .slice none 0 0] 25)) (((w2.alloc (.cells #[.slice a1 2 q1, .slice a2 0 q2] 27)).alloc (.cells #[.slice none 0 0, .slice none 0 0] 25)).alloc (.cells #[.int .i64 (-2), .int .i64 (-1)] 3)) (Chg.refl _ _)
 rw [sB, sC] at hs
 have cB := ((Chg.refl [] ((w2.alloc (.cells #[.slice a1 2 q1, .slice a2 0 q2] 27)).alloc (.cells #[.slice none 0 0, .slice none 0 0] 25))).alloc (.cells #[.int .i64 (-2), .int .i64 (-1)] 3)).alloc (.cells #[.slice (some ⟨w2.heap.size + 1 + 1, 0, none⟩) 2 2] 25)
 have cA := ((Chg.refl [] (w2.alloc (.cells #[.slice a1 2 q1, .slice a2 0 q2] 27))).alloc (.cells #[.slice none 0 0, .slice none 0 0] 25)).trans cB (by simp)
 have c2 := ((Chg.refl [] w2).alloc (.cells #[.slice a1 2 q1, .slice a2 0 q2] 27)).trans cA (by simp)
 have HPL := Lib.hid (show PlAt _ _ Plain.t0 Plain.s0 from ⟨_, _, rfl, ht.fresh cB, hs⟩)
 have HPT := Lib.hid (show ∀ wx, Chg [] w2 wx → PtAt wx (.agg #[.slice a1 2 q1, .slice a2 0 q2]) Plain.p0 from fun wx hx => ⟨_, _, rfl, HR1.out.ints.fresh hx, HR2.out.ints.fresh hx⟩)
 have HC4 := Lib.hid c2
 have D0 := Lib.hid (cA.cell d0 (by simp))
 have D1 := Lib.hid (cA.cell d1 (by simp))
 have C0 := Lib.hid c0
 have C1 := Lib.hid c1
 clear sA sB sC ht hs cB cA c2 c0n c1n d0 d1 c0 c1
 generalize ((((w2.alloc (.cells #[.slice a1 2 q1, .slice a2 0 q2] 27)).alloc (.cells #[.slice none 0 0, .slice none 0 0] 25)).alloc (.cells #[.int .i64 (-2), .int .i64 (-1)] 3)).alloc (.cells #[.slice (some ⟨w2.heap.size + 1 + 1, 0, none⟩) 2 2] 25)) = w4 at *
 refine (regions_any _ _ _ Plain.g0 Plain.p0 Plain.t0 Plain.s0 _ (by decide) (by decide) (by decide) (by decide) (by decide) s0_len (gr0_at _) (HPT.out _ HC4.out) HPL.out).mono ?_
 rintro e w5 ⟨ov, rfl, -, hres, hc5⟩
 obtain ⟨vs, ll, h1, h2, -, -⟩ := hres Plain.plan0
 obtain rfl := Plain.regs0 h2
 have hvl : vs.length = 1 := h1.len
 obtain ⟨g, cap, rfl⟩ := owns_some h1.out (by omega)
 have hrow := h1.rows 0 (by omega)
 have hcell := h1.out.cellAt 0 (by omega)
 obtain ⟨rb, rc, hrv⟩ := owns_some hrow (by decide)
 have hv0 : vs[0]? = some (Value.slice (some ⟨rb, 0, none⟩) 2 rc) := by
  rw [List.getElem?_eq_getElem (by omega), ← getD_at vs (by omega : 0 < vs.length), hrv]; rfl
 rw [hrv] at hrow
 have HI5 := Lib.hid (show IntsAt w5 (.slice (some ⟨rb, 0, none⟩) 2 rc) [-2, -1] from RowAt.ints (B := w4.heap.size) ⟨hrow, by simp; exact ⟨I64.mk (by decide) (by decide), I64.mk (by decide) (by decide)⟩, by simp⟩)
 rw [hvl, Plain.plan0]
 have HC5 := Lib.hid (HC4.out.trans hc5 (by simp))
 have k0 : w5.cell? ⟨g, 0, none⟩ = some (Value.slice (some ⟨rb, 0, none⟩) 2 rc) := hcell.trans hv0
 have D05 := Lib.hid (hc5.cell D0.out (by simp))
 have D15 := Lib.hid (hc5.cell D1.out (by simp))
 have hI1 : I64 (-2) := I64.mk (by decide) (by decide)
 have hI2 : I64 (-1) := I64.mk (by decide) (by decide)
 have HL5 := Lib.hid (lit_two w5 hI1 hI2)
 have CL5 := Lib.hid ((Chg.refl [] w5).alloc (.cells #[.int .i64 (-2), .int .i64 (-1)] 3))
 clear hres h1 h2 hrow hcell hv0 hrv hvl hc5 hI1 hI2
 go_wp2_with fail
 refine (equal_any _ _ [-2, -1] [-2, -1] _ (HI5.out.fresh CL5.out) HL5.out).mono ?_
 rintro e w6 ⟨rfl, hc6⟩
 have HC6 := Lib.hid ((HC5.out.trans CL5.out (by simp)).trans hc6 (by simp))
 have c0 := HC6.out.cell C0.out (by simp)
 have c1 := HC6.out.cell C1.out (by simp)
 have d0 := (CL5.out.trans hc6 (by simp)).cell D05.out (by simp)
 have d1 := (CL5.out.trans hc6 (by simp)).cell D15.out (by simp)
 rw [decide_eq_true (rfl : ([-2, -1] : List Int) = [-2, -1])]
 have HT6 := Lib.hid (t0_at w6)
 have CT6 := Lib.hid ((Chg.refl [] w6).alloc (.cells #[.slice none 0 0, .slice none 0 0] 25))
 clear k0 hc6
 go_wp2_with fail
 refine (right_any _ _ _ Plain.g0 Plain.p0 Plain.t0 [] _ (by decide) (by decide) (by decide) (by decide) (by decide) (by simp) (gr0_at _) (HPT.out _ (HC6.out.trans CT6.out (by simp))) ⟨_, _, rfl, HT6.out, rowsNil _⟩).mono ?_
 rintro e w7 ⟨rfl, hc7⟩
 rw [Plain.plan1]
 have HCF := Lib.hid (((HC1.out.trans HC2.out (by simp)).trans (HC6.out.trans CT6.out (by simp)) (by simp)).trans hc7 (by simp))
 clear c0 c1 d0 d1 hc7
 go_wp2
 go_ret
 exact ⟨rfl, HCF.out⟩
end Go.Proofs.YtednbiophjndpaaGreat
namespace Go.Proofs.YtednbiophjndpaaGreat
namespace Plain
theorem count_pos {s : St} (hs : s.Ok) (h : 0 < s.grp.length) : 0 < s.count := by
 unfold St.count
 rw [List.countP_pos_iff]
 refine ⟨0, List.mem_range.2 h, ?_⟩
 have := hs.le 0 h
 unfold St.hd at this
 simp
 simp at this
 omega
theorem all_le {n b : Nat} {f : Nat → Nat} (h : ((List.range n).all fun i => decide (f i ≤ b)) = true) : ∀ i, i < n → f i ≤ b := fun i hi => by
 have := List.all_eq_true.1 h i (List.mem_range.2 hi)
 exact of_decide_eq_true this
theorem getD_le {T : List (List Int)} {b : Nat} (h : ∀ i, i < T.length → (T.getD i []).length ≤ b) : ∀ i, (T.getD i []).length ≤ b := fun i => by
 by_cases hi : i < T.length
 ·exact h i hi
 simp [List.getD, Nat.not_lt.1 hi]
theorem sumLen_le {T : List (List Int)} {b : Nat} (h : ∀ i, (T.getD i []).length ≤ b) : ∀ k, sumLen T k ≤ k * b
 | 0 => by simp [sumLen]
 | k + 1 => by
  have := sumLen_le h k
  have h1 := h k
  have e : sumLen T (k + 1) = sumLen T k + (T.getD k []).length := rfl
  rw [e, Nat.succ_mul]
  omega
theorem small8_is {g : Gr} {p : Pt} {turn same : List (List Int)} (h : small8 g p turn same = true) : p.v.length ≤ 60 ∧ p.e.length ≤ 60 ∧ turn.length ≤ 100 ∧ sumLen turn turn.length ≤ 20000 ∧ same.length ≤ 60 ∧ ∀ i, (same.getD i []).length ≤ 60 := by
 unfold small8 small6 small4 at h
 simp only [Bool.and_eq_true] at h
 obtain ⟨⟨⟨⟨h4, h5⟩, h6⟩, h7⟩, h8⟩ := h
 have h5 := of_decide_eq_true h5
 have h6 := getD_le (all_le h6)
 have h9 := sumLen_le h6 turn.length
 have : turn.length * 200 ≤ 100 * 200 := Nat.mul_le_mul_right _ h5
 exact ⟨of_decide_eq_true h4.1.1.2, of_decide_eq_true h4.1.2, h5, by omega, of_decide_eq_true h7, getD_le (all_le h8)⟩
end Plain
end Go.Proofs.YtednbiophjndpaaGreat
namespace Go.Proofs.YtednbiophjndpaaGreat
open Go.ChangeShapes Go.WideShapes Go.ChangeAt Go.RowKit Go.Deep Go.Joins
section
variable {H : Type} {enc : TypeId × Value → H} {w : World} {base : Nat} {held : Bool}
theorem cellsInt : Tryz.prog.cellsOf 3 = 1 := by kernel_rfl
theorem cellsRow : Tryz.prog.cellsOf 25 = 1 := by kernel_rfl
theorem cellsEdge : Tryz.prog.cellsOf 96 = 2 := by kernel_rfl
theorem ints_open {fuel : Nat} {u : Value} {x : DataW H × List MemPlace} (h : DataW.trod enc Tryz.prog w base (fun _ => true) held fuel 25 [u] = some x) : ∃ l, IntsAt w u l ∧ CapOk u := by
 rcases open_ints Tryz.underlying25 Tryz.underlying3 cellsInt h with ⟨hcs, _⟩ | ⟨a, len', cap', zs, hcs, _, hl, hm, hz, _, hcell, hwz⟩
 ·simp at hcs
  subst hcs
  exact ⟨[], IntsAt.nil w, none, 0, 0, rfl, by decide, by decide⟩
 simp at hcs
 subst hcs
 have hz' : zs.length = cap' := by simpa using hz
 have hlen : (zs.take len').length = len' := by simp; omega
 unfold maxLen at hm
 refine ⟨zs.take len', ⟨some a, cap', by rw [hlen], fun y hy => hwz y (List.mem_of_mem_take hy), by rw [hlen]; omega, fun hne => ?_⟩, some a, len', cap', rfl, hl, by omega⟩
 obtain ⟨b, off, rfl, hc⟩ := ints_at hcell (by
  rcases Nat.eq_zero_or_pos zs.length with q | q
  ·rw [List.length_eq_zero_iff.1 q] at hne; simp at hne
  exact q)
 refine ⟨b, off, rfl, fun i hi => ?_⟩
 rw [hlen] at hi
 rw [hc i (by omega)]
 simp [List.getD, hi]
theorem rows_open {fuel : Nat} {u : Value} {x : DataW H × List MemPlace} (h : DataW.trod enc Tryz.prog w base (fun _ => true) held fuel 28 [u] = some x) : ∃ ll, RowsAt w u ll := by
 rcases open_slice Tryz.underlying28 h with ⟨hcs, _⟩ | ⟨a, len', cap', m, n, D, Pl, hcs, _, hl, hm, hmm, _, hx⟩
 ·simp at hcs
  subst hcs
  exact ⟨[], none, 0, rfl, by decide, fun i hi => absurd hi (by simp)⟩
 simp at hcs
 subst hcs
 simp only [if_true] at hmm
 subst hmm
 have each : ∀ i, i < m → ∃ l : List Int, ∃ u, w.cell? (a.add (i * 1)) = some u ∧ IntsAt w u l ∧ CapOk u := by
  intro i hi
  obtain ⟨cs', hc, ht⟩ := hx i hi
  rw [cellsRow] at hc
  obtain ⟨_, hlen, hat⟩ := World.cells?_some hc
  match cs', hlen with
  | [c0], _ =>
   obtain ⟨l, h1, h2⟩ := ints_open ht
   refine ⟨l, c0, ?_, h1, h2⟩
   have := hat 0 (by omega); rw [add_add] at this; simpa using this
 obtain ⟨f, hf⟩ := choose_lt each
 unfold maxLen at hm
 refine ⟨(List.range len').map f, some a, m, by simp, by simp; omega, fun i hi => ?_⟩
 have hi : i < len' := by simpa using hi
 obtain ⟨u, k0, k1, k2⟩ := hf i (by omega)
 obtain ⟨b, off, spot⟩ := a
 have hs : spot = none := by
  obtain ⟨u0, z0, -⟩ := hf 0 (by omega)
  have := World.cell?_spot z0
  simpa [Addr.add] using this
 subst hs
 refine ⟨b, off, u, rfl, ?_, k2, by simpa [List.getD, hi] using k1⟩
 have := k0
 rw [add_plain] at this
 simpa using this
set_option maxRecDepth 100000 in
theorem gr_open {r : Reach} {b0 : Nat} {v : Value} {d : DataW H} {p : List MemPlace} (hv : Value.okWide Tryz.prog w r b0 24 v) (h : DataW.Trod enc Tryz.prog w base (fun _ => true) held 24 v d p) : ∃ g, GrAt w v g := by
 obtain ⟨c0, c1, y0, y1, n, rfl, -, -, h0, h1⟩ := open_agg2 Tryz.underlying24 (by kernel_rfl) (by kernel_rfl) hv h
 obtain ⟨N, e0, _, w0⟩ := DataW.trod_int Tryz.underlying3 h0
 simp at e0
 subst e0
 rcases open_slice Tryz.underlying22 h1 with ⟨hcs, _⟩ | ⟨a, len', cap', m, n', D, Pl, hcs, _, hl, hm, hmm, _, hx⟩
 ·simp at hcs
  subst hcs
  exact ⟨⟨N, []⟩, none, 0, rfl, w0, Nat.zero_le _, fun i hi => absurd hi (by simp), fun i hi => absurd hi (by simp)⟩
 simp at hcs
 subst hcs
 simp only [if_true] at hmm
 subst hmm
 have each : ∀ i, i < m → ∃ y : Int × Int, (I64 y.1 ∧ I64 y.2) ∧ w.cell? (a.add (i * 2)) = some (.int .i64 y.1) ∧ w.cell? (a.add (i * 2 + 1)) = some (.int .i64 y.2) := by
  intro i hi
  obtain ⟨cs', hc, ht⟩ := hx i hi
  rw [cellsEdge] at hc
  obtain ⟨_, hlen, hat⟩ := World.cells?_some hc
  obtain ⟨y0, y1, n', _, _, k0, k1⟩ := trod_struct2 Tryz.underlying96 ht
  match cs', hlen with
  | [c0, c1], _ =>
   simp only [cellsInt, List.drop_zero, List.drop_succ_cons, List.take_succ_cons, List.take_zero] at k0 k1
   obtain ⟨x0, e0, _, q0⟩ := DataW.trod_int Tryz.underlying3 k0
   obtain ⟨x1, e1, _, q1⟩ := DataW.trod_int Tryz.underlying3 k1
   simp at e0 e1
   subst e0 e1
   refine ⟨(x0, x1), ⟨q0, q1⟩, ?_, ?_⟩
   ·have := hat 0 (by omega); rw [add_add] at this; simpa using this
   have := hat 1 (by omega); rw [add_add] at this; simpa using this
 obtain ⟨f, hf⟩ := choose_lt each
 unfold maxLen at hm
 have hg : ∀ i, i < len' → ((List.range len').map f).getD i (0, 0) = f i := fun i hi => by simp [List.getD, hi]
 refine ⟨⟨N, (List.range len').map f⟩, some a, m, by simp, w0, by simp; omega, fun i hi => ?_, fun i hi => ?_⟩
 ·have hi : i < len' := by simpa using hi
  show I64 (((List.range len').map f).getD i (0, 0)).1 ∧ I64 (((List.range len').map f).getD i (0, 0)).2
  rw [hg i hi]
  exact (hf i (by omega)).1
 have hi : i < len' := by simpa using hi
 obtain ⟨_, k0, k1⟩ := hf i (by omega)
 obtain ⟨b, off, spot⟩ := a
 have hs : spot = none := by
  have := World.cell?_spot (hf 0 (by omega)).2.1
  simpa [Addr.add] using this
 subst hs
 refine ⟨b, off, rfl, ?_, ?_⟩
 ·show _ = some (Value.int .i64 (((List.range len').map f).getD i (0, 0)).1)
  rw [hg i hi, ← add_plain]; exact k0
 show _ = some (Value.int .i64 (((List.range len').map f).getD i (0, 0)).2)
 rw [hg i hi, Nat.add_assoc, ← add_plain]; exact k1
set_option maxRecDepth 100000 in
theorem pt_open {r : Reach} {b0 : Nat} {v : Value} {d : DataW H} {p : List MemPlace} (hv : Value.okWide Tryz.prog w r b0 27 v) (h : DataW.Trod enc Tryz.prog w base (fun _ => true) held 27 v d p) : ∃ g, PtAt w v g := by
 obtain ⟨c0, c1, y0, y1, n, rfl, -, -, h0, h1⟩ := open_agg2 Tryz.underlying27 (by kernel_rfl) (by kernel_rfl) hv h
 obtain ⟨l0, k0, -⟩ := ints_open h0
 obtain ⟨l1, k1, -⟩ := ints_open h1
 exact ⟨⟨l0, l1⟩, c0, c1, rfl, k0, k1⟩
set_option maxRecDepth 100000 in
theorem pl_open {r : Reach} {b0 : Nat} {v : Value} {d : DataW H} {p : List MemPlace} (hv : Value.okWide Tryz.prog w r b0 30 v) (h : DataW.Trod enc Tryz.prog w base (fun _ => true) held 30 v d p) : ∃ turn same, PlAt w v turn same := by
 obtain ⟨c0, c1, y0, y1, n, rfl, -, -, h0, h1⟩ := open_agg2 Tryz.underlying30 (by kernel_rfl) (by kernel_rfl) hv h
 obtain ⟨l0, k0⟩ := rows_open h0
 obtain ⟨l1, k1⟩ := rows_open h1
 exact ⟨l0, l1, c0, c1, rfl, k0, k1⟩
end
end Go.Proofs.YtednbiophjndpaaGreat
namespace Go.Proofs.YtednbiophjndpaaGreat
open Go.RowKit Go.Maps
set_option maxRecDepth 100000 in
set_option maxHeartbeats 2000000 in
theorem rises_any (v : Value) (l : List Int) (n : Int) (w : World) (h : IntsAt w v l) (hl : l.length < 4294967296) :
  Calls Tryz.prog 76 #[v, .int .i64 n] w fun e w' => e = .returned (.bool (Plain.rises l n)) ∧ Chg [] w w' := by
 obtain ⟨ao, cap, rfl, hsm, hm, hcell⟩ := h
 have HSM := Lib.hid hsm
 have HCE := Lib.hid hcell
 clear hsm hcell
 go_enter Tryz.func76, Tryz.ntmps76
 go_wp2
 go_loopw [5] (fun c wr => ∃ k : Nat, k ≤ l.length ∧ c = .int .i64 k ∧ Chg [] w wr ∧ Hid ((List.range k).all (Plain.risesAt l n) = true)) (fun c _ => l.length - (intOf c).toNat)
 case atStart => exact ⟨0, Nat.zero_le _, rfl, Chg.refl _ _, rfl⟩
 case round =>
  obtain ⟨k, hk, rfl, hc, hall⟩ := hrel
  have HC := Lib.hid hc
  by_cases hlt : k < l.length
  ·obtain ⟨b, off, rfl, hfc⟩ := HCE.out (by intro e; rw [e] at hlt; simp at hlt)
   have c0 := hc.cell (hfc k hlt) (by simp)
   have HF := Lib.hid (fun h => Plain.all_range_false (p := Plain.risesAt l n) hlt h)
   have HS := Lib.hid (Plain.all_range_succ (Plain.risesAt l n) k)
   obtain ⟨z, hz⟩ : ∃ z, l.getD k 0 = z := ⟨_, rfl⟩
   obtain ⟨y, hy⟩ : ∃ y, l.getD (k - 1) 0 = y := ⟨_, rfl⟩
   have HR := Lib.hid (show Plain.risesAt l n k = !(decide (z < 0) || decide (n ≤ z) || (decide (0 < k) && decide (z ≤ y))) by unfold Plain.risesAt; rw [hz, hy])
   rw [hz] at c0
   obtain ⟨j, hj⟩ : ∃ j, k - 1 = j := ⟨_, rfl⟩
   have c1 : wr.cell? ⟨b, off + j, none⟩ = some (.int .i64 y) := by rw [← hy, hj]; exact hc.cell (hfc j (by omega)) (by simp)
   have e1 : 0 < k → IntKind.i64.wrap ((k : Int) - 1) = (j : Int) := fun h => by rw [IntWalk.i64_in _ (by omega)]; omega
   have i1 : (0 : Int) ≤ (j : Int) := by omega
   have i2 : (j : Int) < (l.length : Int) := by omega
   have i7 : j < l.length := by omega
   clear hfc hc hz hy hj
   go_wp2
   have hS0 : (fun w' : World => w'.cell? ⟨b, off + k, none⟩ = some (.int .i64 z) ∧ w'.cell? ⟨b, off + j, none⟩ = some (.int .i64 y)) wr.drew := ⟨c0, c1⟩
   refine wp_region_way (fun w' : World => w'.cell? ⟨b, off + k, none⟩ = some (.int .i64 z) ∧ w'.cell? ⟨b, off + j, none⟩ = some (.int .i64 y)) [0, 1, 2, 3, 4, 5, 6, 7, 8, 9, 10, 11, 12, 13, 14, 15, 16, 17, 18, 19, 20, 21, 22, 23, 24, 25, 26, 27, 28] (Way.line [0, 1, 2, 3, 4, 5, 6, 7, 8, 9, 10, 11, 12, 13, 14, 15, 16, 17, 18, 19, 20, 21, 22, 23, 24, 25, 26, 27, 28] .done) (by kernel_rfl) (by kernel_rfl) ?_
   simp only [Way.line]
   have HCD := Lib.hid HC.out.drew
   by_cases h1 : z < 0
   ·have b1 : decide (z < 0) = true := decide_eq_true h1
    have HE := Lib.hid (show Plain.rises l n = false from HF.out (by rw [HR.out, b1]; simp))
    clear h1 e1
    repeat
     first
      | (refine along_off rfl (by rfl) (by rfl) (fun _ _ _ h => h) hS0 ?_; simp only [Act.put, Z1, Z2, Z3, Z4, Z5, Z6])
      | (refine along_read (v := ?_) rfl (by rfl) (by rfl) (fun _ _ _ h => h) hS0 (fun w' hS' => ?_) ?_; rotate_left; (focus ((try dsimp only at hS'); go_simp; try with_reducible rfl)); simp only [Act.put, Z1, Z2, Z3, Z4, Z5, Z6])
      | (refine along_skip rfl (by rfl) (by rfl) hS0 ?_; simp only [Act.put, Z1, Z2, Z3, Z4, Z5, Z6])
    refine along_done ?_
    clear hS0 c0 c1
    go_wp2
    go_ret
    exact ⟨ret_bool HE.out.symm, HCD.out⟩
   have b1 : decide (z < 0) = false := decide_eq_false h1
   by_cases h2 : n ≤ z
   ·have b2 : decide (z ≥ n) = true := decide_eq_true h2
    have HE := Lib.hid (show Plain.rises l n = false from HF.out (by rw [HR.out, decide_eq_true h2]; simp))
    clear h1 h2 e1
    repeat
     first
      | (refine along_off rfl (by rfl) (by rfl) (fun _ _ _ h => h) hS0 ?_; simp only [Act.put, Z1, Z2, Z3, Z4, Z5, Z6])
      | (refine along_read (v := ?_) rfl (by rfl) (by rfl) (fun _ _ _ h => h) hS0 (fun w' hS' => ?_) ?_; rotate_left; (focus ((try dsimp only at hS'); go_simp; try with_reducible rfl)); simp only [Act.put, Z1, Z2, Z3, Z4, Z5, Z6])
      | (refine along_skip rfl (by rfl) (by rfl) hS0 ?_; simp only [Act.put, Z1, Z2, Z3, Z4, Z5, Z6])
    refine along_done ?_
    clear hS0 c0 c1
    go_wp2
    go_ret
    exact ⟨ret_bool HE.out.symm, HCD.out⟩
   have b2 : decide (z ≥ n) = false := decide_eq_false h2
   have b2' : decide (n ≤ z) = false := decide_eq_false h2
   by_cases h0 : 0 < k
   ·have b3 : decide ((k : Int) > 0) = true := decide_eq_true (by omega)
    have e2 := e1 h0
    by_cases h3 : z ≤ y
    ·have b4 : decide (z ≤ y) = true := decide_eq_true h3
     have HE := Lib.hid (show Plain.rises l n = false from HF.out (by rw [HR.out, b4, decide_eq_true h0]; simp))
     clear h1 h2 h3 e1
     repeat
      first
       | (refine along_off rfl (by rfl) (by rfl) (fun _ _ _ h => h) hS0 ?_; simp only [Act.put, Z1, Z2, Z3, Z4, Z5, Z6])
       | (refine along_read (v := ?_) rfl (by rfl) (by rfl) (fun _ _ _ h => h) hS0 (fun w' hS' => ?_) ?_; rotate_left; (focus ((try dsimp only at hS'); go_simp; try with_reducible rfl)); simp only [Act.put, Z1, Z2, Z3, Z4, Z5, Z6])
       | (refine along_skip rfl (by rfl) (by rfl) hS0 ?_; simp only [Act.put, Z1, Z2, Z3, Z4, Z5, Z6])
     refine along_done ?_
     clear hS0 c0 c1
     go_wp2
     go_ret
     exact ⟨ret_bool HE.out.symm, HCD.out⟩
    have b4 : decide (z ≤ y) = false := decide_eq_false h3
    have HE := Lib.hid (show (List.range (k + 1)).all (Plain.risesAt l n) = true by rw [HS.out, HR.out, hall.out, b1, b2', b4]; simp)
    clear h1 h2 h3 e1
    repeat
     first
      | (refine along_off rfl (by rfl) (by rfl) (fun _ _ _ h => h) hS0 ?_; simp only [Act.put, Z1, Z2, Z3, Z4, Z5, Z6])
      | (refine along_read (v := ?_) rfl (by rfl) (by rfl) (fun _ _ _ h => h) hS0 (fun w' hS' => ?_) ?_; rotate_left; (focus ((try dsimp only at hS'); go_simp; try with_reducible rfl)); simp only [Act.put, Z1, Z2, Z3, Z4, Z5, Z6])
      | (refine along_skip rfl (by rfl) (by rfl) hS0 ?_; simp only [Act.put, Z1, Z2, Z3, Z4, Z5, Z6])
    refine along_done ?_
    clear hS0 c0 c1
    go_wp2
    go_roundw
    case rel => exact ⟨k + 1, by omega, by go_num, HCD.out, HE⟩
    case measure => simp [intOf]; omega
   have b3 : decide ((k : Int) > 0) = false := decide_eq_false (by omega)
   have HE := Lib.hid (show (List.range (k + 1)).all (Plain.risesAt l n) = true by rw [HS.out, HR.out, hall.out, b1, b2', decide_eq_false h0]; simp)
   have b5 : decide (0 < k) = false := decide_eq_false h0
   clear h1 h2 e1
   repeat
    first
     | (refine along_off rfl (by rfl) (by rfl) (fun _ _ _ h => h) hS0 ?_; simp only [Act.put, Z1, Z2, Z3, Z4, Z5, Z6])
     | (refine along_read (v := ?_) rfl (by rfl) (by rfl) (fun _ _ _ h => h) hS0 (fun w' hS' => ?_) ?_; rotate_left; (focus ((try dsimp only at hS'); go_simp; try with_reducible rfl)); simp only [Act.put, Z1, Z2, Z3, Z4, Z5, Z6])
     | (refine along_skip rfl (by rfl) (by rfl) hS0 ?_; simp only [Act.put, Z1, Z2, Z3, Z4, Z5, Z6])
   refine along_done ?_
   clear hS0 c0 c1
   go_wp2
   go_roundw
   case rel => exact ⟨k + 1, by omega, by go_num, HCD.out, HE⟩
   case measure => simp [intOf]; omega
  have e : k = l.length := by omega
  subst e
  have HE := Lib.hid hall.out
  clear hc
  go_wp2
  go_ret
  exact ⟨ret_bool HE.out.symm, HC.out⟩
end Go.Proofs.YtednbiophjndpaaGreat
