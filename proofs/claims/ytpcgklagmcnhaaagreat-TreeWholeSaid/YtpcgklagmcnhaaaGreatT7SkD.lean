/- draw's sketch in plain words: what is drawn, what is left, and what a step keeps. No program here. -/
import Derived.Test.YtpcgklagmcnhaaaGreatT7Find
import Derived.Shelf.SlIterI.Sorted
import Derived.Ground.GgzProg
namespace Go.Proofs.YtpcgklagmcnhaaaGreat.Plain
theorem off_end {g : Gr} {v e : Int} : EndOf g e (off g v e) := by
 all_goals grind [off, EndOf]
theorem near_end {g : Gr} {p : Pt} {u w : Int} (h : Near g p u w) : ∃ e ∈ p.e, EndOf g e u ∧ EndOf g e w := by
 obtain ⟨e, he, h | h⟩ := h
 ·exact ⟨e, he, Or.inl (by rw [h]), Or.inr (by rw [h])⟩
 exact ⟨e, he, Or.inr (by rw [h]), Or.inl (by rw [h])⟩
end Go.Proofs.YtpcgklagmcnhaaaGreat.Plain
-- READS ONLY
namespace Go.Proofs.YtpcgklagmcnhaaaGreat
open Go.RowKit Go.Maps
namespace Plain
def endsL (g : Gr) (edges : List Int) : List Int := edges.flatMap fun e => [(g.at e).1, (g.at e).2]
theorem endsL_snoc {g : Gr} {l : List Int} {k : Nat} (hk : k < l.length) : endsL g (l.take (k + 1)) = endsL g (l.take k) ++ [(g.at (l.getD k 0)).1, (g.at (l.getD k 0)).2] := by
 unfold endsL
 rw [List.take_succ_eq_append_getElem hk, List.flatMap_append]
 grind
theorem endsL_len (g : Gr) : ∀ l : List Int, (endsL g l).length = 2 * l.length
 | [] => rfl
 | e :: l => by
  have ih := endsL_len g l
  unfold endsL at ih ⊢
  rw [List.flatMap_cons, List.length_append, ih]
  simp only [List.length_cons, List.length_nil]
  omega
def bspan (g : Gr) (edges : List Int) : Pt := ⟨tidy (endsL g edges), edges⟩
end Plain
set_option maxRecDepth 100000 in
set_option maxHeartbeats 4000000 in
theorem bspan_any (vg vl : Value) (g : Plain.Gr) (edges : List Int) (w : World) (hge : g.err = 0) (hl : edges.length ≤ 1024) (hes : ∀ e ∈ edges, 0 ≤ e ∧ e < g.e.length) (hg : GrAt w vg g) (he : IntsAt w vl edges) :
  Calls Tryz.prog 101 #[vg, vl] w fun e w' => ∃ v1 v2, e = .returned (.agg #[v1, v2]) ∧ RowAt w' w.heap.size v1 (Plain.bspan g edges).v ∧ RowAt w' w.heap.size v2 edges ∧ (∀ j ∈ foot v1, j ∉ foot v2) ∧ Chg [] w w' := by
 have HES := Lib.hid hes
 have HG := Lib.hid hg
 have HE := Lib.hid he
 have HGE := Lib.hid (Plain.Gr.err_ok hge)
 obtain ⟨eo, cap, rfl, -, hm, hsm, hcell⟩ := hg
 have HCE := Lib.hid hcell
 have HSM := Lib.hid hsm
 obtain ⟨lo, lc, rfl, hI, -, -⟩ := he
 clear hes hcell hI hge hsm
 have HXC := Lib.hid (show Chg [] w ((w.alloc (.cells #[.int .i64 g.n, .slice eo g.e.length cap] 41)).alloc (.cells #[.slice none 0 0, .slice none 0 0] 43)) from (show Chg [] w ((w.alloc (.cells #[.int .i64 g.n, .slice eo g.e.length cap] 41)).alloc (.cells #[.slice none 0 0, .slice none 0 0] 43)) from (((Chg.refl [] w).alloc _).alloc _)))
 have qbx0 := heap_alloc_new w (.cells #[.int .i64 g.n, .slice eo g.e.length cap] 41)
 replace qbx0 := (show Chg [] (w.alloc (.cells #[.int .i64 g.n, .slice eo g.e.length cap] 41)) ((w.alloc (.cells #[.int .i64 g.n, .slice eo g.e.length cap] 41)).alloc (.cells #[.slice none 0 0, .slice none 0 0] 43)) from ((Chg.refl [] (w.alloc (.cells #[.int .i64 g.n, .slice eo g.e.length cap] 41))).alloc _)).heap qbx0 (by simp)
 have qbx1 := heap_alloc_new (w.alloc (.cells #[.int .i64 g.n, .slice eo g.e.length cap] 41)) (.cells #[.slice none 0 0, .slice none 0 0] 43)
 rw [show (w.alloc (.cells #[.int .i64 g.n, .slice eo g.e.length cap] 41)).heap.size = w.heap.size + 1 by simp] at qbx1
 have HX := Lib.hid (fun (w2 : World) (hbx : Chg [] ((w.alloc (.cells #[.int .i64 g.n, .slice eo g.e.length cap] 41)).alloc (.cells #[.slice none 0 0, .slice none 0 0] 43)) w2) => (⟨hbx.cell ((cell_of_row _ _ 0 _ _ _ qbx0).trans rfl) (by simp), hbx.cell ((cell_of_row _ _ 1 _ _ _ qbx0).trans rfl) (by simp), hbx.heap qbx1 (by simp), by have hz := hbx.size; simpa using hz⟩ : w2.cell? ⟨w.heap.size, 0, none⟩ = some (.int .i64 g.n) ∧ w2.cell? ⟨w.heap.size, 1, none⟩ = some (.slice eo g.e.length cap) ∧ w2.heap[w.heap.size + 1]? = some (.cells #[.slice none 0 0, .slice none 0 0] 43 (0, 0)) ∧ w.heap.size + 2 ≤ w2.heap.size))
 clear qbx0 qbx1
 have HXZ := Lib.hid (show ((w.alloc (.cells #[.int .i64 g.n, .slice eo g.e.length cap] 41)).alloc (.cells #[.slice none 0 0, .slice none 0 0] 43)).heap.size = w.heap.size + 2 by simp)
 go_enter Tryz.func101, Tryz.ntmps101
 go_wp2_with fail
 generalize ((w.alloc (.cells #[.int .i64 g.n, .slice eo g.e.length cap] 41)).alloc (.cells #[.slice none 0 0, .slice none 0 0] 43)) = w1 at *
 refine (clone_any _ edges _ (by omega) (HE.out.fresh HXC.out)).mono ?_
 rintro e w3 ⟨v2, rfl, hr2, hc3⟩
 obtain ⟨o2, c2, rfl⟩ := hr2.shape
 have HR2 := Lib.hid hr2
 have HC3 := Lib.hid hc3
 clear hr2 hc3
 have HOB := Lib.hid (heap_alloc_new w3 (.cells #[.slice none 0 0, .slice o2 edges.length c2] 43))
 have HC4 := Lib.hid ((Chg.refl [] w3).alloc (.cells #[.slice none 0 0, .slice o2 edges.length c2] 43))
 have HLEN := Lib.hid (Plain.endsL_len g)
 go_wp2_with fail
 go_loopw [7, 13] (fun _ iv wr => ∃ k : Nat, k ≤ edges.length ∧ iv = .int .i64 k ∧ ∃ uo uc, wr.heap[w3.heap.size]? = some (.cells #[.slice uo (2 * k) uc, .slice o2 edges.length c2] 43 (0, 0)) ∧ RowAt wr w3.heap.size (.slice uo (2 * k) uc) (Plain.endsL g (edges.take k)) ∧ Chg [] w3 wr) (fun _ iv _ => edges.length - (intOf iv).toNat)
 case atStart => exact ⟨0, Nat.zero_le _, rfl, none, 0, HOB.out, rowNil' _ _, HC4.out⟩
 case round =>
  obtain ⟨k, hk, rfl, uo, uc, ho, hr, hc⟩ := hrel
  have HO := Lib.hid ho
  have HR := Lib.hid hr
  have HC := Lib.hid hc
  have HW := Lib.hid (HXC.out.trans (HC3.out.trans hc (by simp)) (by simp))
  obtain ⟨x0, x1, r8, -⟩ := HX.out wr (HC3.out.trans hc (by simp))
  have HR8 := Lib.hid r8
  have o0 := (cell_of_row _ _ 0 _ _ _ ho).trans (show _ = some (Value.slice uo (2 * k) uc) from rfl)
  have o1 := (cell_of_row _ _ 1 _ _ _ ho).trans (show _ = some (Value.slice o2 edges.length c2) from rfl)
  have f0 := free_at ho 0
  have f1 := free_at ho 1
  clear ho hr hc r8
  by_cases hlt : k < edges.length
  ·obtain ⟨rb, roff, rfl, rc⟩ := IntsAt.cellAt HE.out hlt
   have rcell := HW.out.cell rc (by simp)
   have her := HES.out _ (Plain.getD_mem hlt)
   have HEL := Lib.hid (Plain.endsL_snoc (g := g) hlt)
   obtain ⟨ei, hei⟩ : ∃ ei : Nat, edges.getD k 0 = (ei : Int) := ⟨(edges.getD k 0).toNat, by omega⟩
   rw [hei] at rcell her HEL
   have hel : ei < g.e.length := by omega
   obtain ⟨eb, eoff, rfl, hc0, hc1⟩ := HCE.out ei hel
   obtain ⟨hi1, hi2⟩ := HSM.out ei hel
   have c0 := HW.out.cell hc0 (by simp)
   have c1 := HW.out.cell hc1 (by simp)
   have hat : g.at (ei : Int) = g.ends ei := by grind [Plain.Gr.at]
   rw [hat] at HEL
   obtain ⟨x, hx⟩ : ∃ x, (g.ends ei).1 = x := ⟨_, rfl⟩
   obtain ⟨y, hy⟩ : ∃ y, (g.ends ei).2 = y := ⟨_, rfl⟩
   rw [hx] at c0 hi1 HEL
   rw [hy] at c1 hi2 HEL
   have hnf : w3.heap.size ∉ foot (.slice uo (2 * k) uc) := fun q => by
    obtain ⟨cs, r, hh⟩ := row_kind HR.out _ q
    rw [HO.out] at hh
    simp at hh
   have hlow : ∀ j ∈ foot (.slice uo (2 * k) uc), w3.heap.size ≤ j := fun j hj => (HR.out.low j (by rw [← HR.out.foot]; exact hj)).1
   have HLOW := Lib.hid hlow
   have hSB : Chg (foot (.slice uo (2 * k) uc)) wr wr.drew := (Chg.refl _ wr).drew
   have hx1n : w.heap.size ∉ foot (.slice uo (2 * k) uc) := fun q => by have := hlow _ q; have := HC3.out.size; have := HXZ.out; omega
   have hebn : eb ∉ foot (.slice uo (2 * k) uc) := fun q => by have := hlow _ q; have := HC3.out.size; have := HXZ.out; have := World.block_lt_of_cell? w _ hc0; simp at this; omega
   have hrbn : rb ∉ foot (.slice uo (2 * k) uc) := fun q => by have := hlow _ q; have := HC3.out.size; have := HXZ.out; have := World.block_lt_of_cell? w _ rc; simp at this; omega
   have hkl : k < 1024 := by omega
   have eik : ei < 1024 := by have := HGE.out.2.2.1; have := HGE.out.1; omega
   clear rc her hei hc0 hc1 hat hx hy hlow
   go_wp2_with fail
   refine wp_region_way (Chg (foot (.slice uo (2 * k) uc)) wr) [0, 1, 2, 3, 4, 5, 6, 7, 8, 9, 10, 11, 12, 13] (Way.line [0, 1, 2, 3, 4, 5, 6, 7, 8, 9, 10, 11, 12, 13, 14, 15, 16, 17] .done) (by kernel_rfl) (by kernel_rfl) ?_
   simp only [Way.line]
   repeat (refine along_read (v := ?_) rfl (by rfl) (by rfl) (fun _ _ _ h => h) hSB (fun w' hS' => ?_) ?_; rotate_left; (focus (have rd0 := hS'.cell o0 (by first | exact hnf | exact hx1n | exact hebn); have rd1 := hS'.cell x1 (by first | exact hnf | exact hx1n | exact hebn); have rd2 := hS'.cell c0 (by first | exact hnf | exact hx1n | exact hebn); have rd3 := hS'.cell c1 (by first | exact hnf | exact hx1n | exact hebn); clear hS'; go_simp; try with_reducible rfl)); simp only [Act.put, Z1, Z2, Z3, Z4, Z5, Z6])
   refine along_op rfl (by rfl) (by rfl) (fun K hK => ?_)
   go_simp
   have HLI := Lib.hid ((lit_two wr hi1 hi2).fresh (Chg.refl [] _).drew)
   refine hK.out _ _ (fun _ => hSB.alloc _) ?_
   clear hK K
   try simp only [Act.put, Z1, Z2, Z3, Z4, Z5, Z6]
   refine along_op rfl (by rfl) (by rfl) (fun K hK => ?_)
   simp only [List.getElem_toArray, List.getElem_cons_zero, List.getElem_cons_succ]
   have ca : Chg [] wr (wr.alloc (.cells #[.int .i64 x, .int .i64 y] 3)).drew := ((Chg.refl [] wr).alloc _).drew
   have hel2 : (Plain.endsL g (edges.take k)).length = 2 * k := by rw [HLEN.out, List.length_take]; omega
   refine wp_app_readK _ _ rfl (B := w3.heap.size) (v := .slice uo (2 * k) uc) rfl rfl (HR.out.chg ca (by simp)) HLI.out (Nat.le_trans HC.out.size ca.size) (by grind) fun v' w7 r7 c7 f7 => ?_
   rw [← HEL.out] at r7
   have R7 := Lib.hid r7
   have C7 := Lib.hid c7
   have CA := Lib.hid ca
   have hel3 : (Plain.endsL g (edges.take (k + 1))).length = 2 * k + 2 := by rw [HLEN.out, List.length_take]; omega
   obtain ⟨vo, vc, rfl⟩ := r7.shape
   rw [hel3] at R7
   refine hK.out _ _ (fun _ => (ca.mono (by simp)).trans c7 (fun j hj => Or.inl hj)) ?_
   have o7 := c7.cell (ca.cell o0 (by simp)) hnf
   have g7 := c7.frozen (ca.cell o0 (by simp)) (free_at (ca.heap HO.out (by simp)) 0) hnf
   have HO7 := Lib.hid (c7.heap (ca.heap HO.out (by simp)) hnf)
   rw [hel3]
   clear hK K r7 c7 f7 ca hel2 hel3
   try simp only [Act.put, List.setIfInBounds_toArray, List.set_cons_zero, List.set_cons_succ]
   refine along_op rfl (by rfl) (by rfl) (fun K hK => ?_)
   go_simp
   refine hK.out _ _ (fun h => absurd h (Bool.eq_false_iff.1 (by kernel_rfl))) ?_
   clear hK K
   try simp only [Act.put, Z1, Z2, Z3, Z4, Z5, Z6]
   refine along_op rfl (by rfl) (by rfl) (fun K hK => ?_)
   go_simp
   refine hK.out _ _ (fun h => absurd h (Bool.eq_false_iff.1 (by kernel_rfl))) ?_
   clear hK K
   try simp only [Act.put, Z1, Z2, Z3, Z4, Z5, Z6]
   refine along_done ?_
   have hset : Chg [w3.heap.size] w7 (w7.setCell ⟨w3.heap.size, 0, none⟩ (.slice vo (2 * k + 2) vc)) := by grind [Chg.refl, Chg.setCell]
   have HO8 := Lib.hid (heap_setCell_same HO7.out 0 (.slice vo (2 * k + 2) vc))
   have HR8b := Lib.hid (R7.out.chg hset (fun b hb q => by
    obtain ⟨cs, r, hh⟩ := row_kind R7.out b (by rw [R7.out.foot]; exact hb)
    rw [List.mem_singleton] at q
    rw [q, HO7.out] at hh
    simp at hh))
   have HC8 := Lib.hid (show Chg [] w3 (w7.setCell ⟨w3.heap.size, 0, none⟩ (.slice vo (2 * k + 2) vc)) from ((HC.out.trans CA.out (by simp)).trans C7.out (fun j hj => Or.inr (HLOW.out j hj))).trans hset (fun j hj => Or.inr (by grind)))
   clear hset o7 g7 o0 o1 f0 f1 x0 x1 c0 c1 rcell
   generalize (w7.setCell ⟨w3.heap.size, 0, none⟩ (.slice vo (2 * k + 2) vc)) = w8 at *
   go_wp2
   go_roundw
   case rel => exact ⟨k + 1, by omega, by go_num, vo, vc, HO8.out, HR8b.out, HC8.out⟩
   case measure => simp [intOf]; omega
  have e : k = edges.length := by omega
  subst e
  have hel2 : (Plain.endsL g edges).length = 2 * edges.length := HLEN.out edges
  have HR9 := Lib.hid (show RowAt wr w3.heap.size (.slice uo (Plain.endsL g edges).length uc) (Plain.endsL g edges) by rw [hel2]; have := HR.out; rwa [List.take_length] at this)
  have HO9 := Lib.hid (show wr.heap[w3.heap.size]? = some (.cells #[.slice uo (Plain.endsL g edges).length uc, .slice o2 edges.length c2] 43 (0, 0)) by rw [hel2]; exact HO.out)
  rw [← hel2] at o0
  have HEL2 := Lib.hid hel2
  have HML := Lib.hid (show (Plain.endsL g edges).length < 1000000000 by grind)
  clear HR HO hk hlt hel2 x0 x1
  obtain ⟨M, hM⟩ : ∃ M, Plain.endsL g edges = M := ⟨_, rfl⟩
  rw [hM] at HR9 HO9 o0 HEL2 HML
  have HM := Lib.hid hM
  have hnf : ∀ (wx : World) (v : Value) (q : List Int), RowAt wx w3.heap.size v q → (∃ cs, wx.heap[w3.heap.size]? = some (.cells cs 43 (0, 0))) → w3.heap.size ∉ v.ownBlock.toList := fun _ _ _ h ⟨cs0, h0⟩ q => by
   obtain ⟨cs, r, hh⟩ := row_kind h _ (by rw [h.foot]; exact q)
   grind
  have HNF := Lib.hid hnf
  clear hM hnf
  go_wp2_with fail
  refine (sortI_any _ M _ _ HML.out HR9.out).mono ?_
  rintro e w5 ⟨rfl, hr5, hc5⟩
  have hn5 := HNF.out _ _ _ HR9.out ⟨_, HO9.out⟩
  have o05 := hc5.cell o0 hn5
  have HO5 := Lib.hid (hc5.heap HO9.out hn5)
  have hsl : (M.mergeSort fun x y => decide (x ≤ y)).length = M.length := (List.mergeSort_perm _ _).length_eq
  have HTY := Lib.hid (show Go.Lib.compact (M.mergeSort fun x y => decide (x ≤ y)) = Plain.tidy M from rfl)
  have HC5 := Lib.hid (show Chg [] w3 w5 from HC.out.trans hc5 (fun b hb => Or.inr (HR9.out.low b hb).1))
  obtain ⟨S, hS⟩ : ∃ S, (M.mergeSort fun x y => decide (x ≤ y)) = S := ⟨_, rfl⟩
  rw [hS] at hsl hr5 HTY
  have HR5 := Lib.hid hr5
  have HSL := Lib.hid hsl
  clear hr5 hc5 hn5 hsl hS o0 o1 f0 f1
  go_wp2_with fail
  refine (compactI_any _ S _ _ (by rw [HSL.out]; exact HML.out) HR5.out).mono ?_
  rintro e w6 ⟨v6, rfl, hr6, hc6⟩
  rw [HTY.out] at hr6
  have hn6 := HNF.out _ _ _ HR5.out ⟨_, HO5.out⟩
  have ho6 := hc6.heap HO5.out hn6
  have p06 := hc6.cell o05 hn6
  have g06 := free_at ho6 0
  have HO6 := Lib.hid ho6
  have HC6 := Lib.hid (show Chg [] w3 w6 from HC5.out.trans hc6 (fun b hb => Or.inr (HR5.out.low b hb).1))
  have HR6 := Lib.hid hr6
  obtain ⟨o6, c6, rfl⟩ := hr6.shape
  have hnv := HNF.out _ _ _ hr6 ⟨_, ho6⟩
  have hset : Chg [w3.heap.size] w6 (w6.setCell ⟨w3.heap.size, 0, none⟩ (.slice o6 (Plain.tidy M).length c6)) := by grind [Chg.refl, Chg.setCell]
  have ho7 := heap_setCell_same ho6 0 (.slice o6 (Plain.tidy M).length c6)
  have HR7 := Lib.hid (hr6.chg hset (fun b hb q => hnv (by grind)))
  have HC7 := Lib.hid (show Chg [] w3 (w6.setCell ⟨w3.heap.size, 0, none⟩ (.slice o6 (Plain.tidy M).length c6)) from HC6.out.trans hset (fun j hj => Or.inr (by grind)))
  have HO7 := Lib.hid ho7
  have p16 := (cell_of_row _ _ 1 _ _ _ ho6).trans (show _ = some (Value.slice o2 edges.length c2) from rfl)
  obtain ⟨-, -, r86, -⟩ := HX.out w6 (HC3.out.trans HC6.out (by simp))
  have y06 := (cell_of_row _ _ 0 _ _ _ r86).trans (show _ = some (Value.slice none 0 0) from rfl)
  have y16 := (cell_of_row _ _ 1 _ _ _ r86).trans (show _ = some (Value.slice none 0 0) from rfl)
  have g16 := free_at r86 0
  have g26 := free_at r86 1
  have hne1 : ¬ w3.heap.size = w.heap.size + 1 := fun q => by have := HC3.out.size; have := HXZ.out; omega
  have hne2 : ¬ w.heap.size + 1 = w3.heap.size := by grind
  clear hr6 hc6 ho6 hnv hset ho7 hn6 o05
  obtain ⟨-, -, r87, -⟩ := HX.out (w6.setCell ⟨w3.heap.size, 0, none⟩ (.slice o6 (Plain.tidy M).length c6)) (HC3.out.trans HC7.out (by simp))
  have hs0 : Chg [w.heap.size + 1] (w6.setCell ⟨w3.heap.size, 0, none⟩ (.slice o6 (Plain.tidy M).length c6)) (((w6.setCell ⟨w3.heap.size, 0, none⟩ (.slice o6 (Plain.tidy M).length c6)).setCell ⟨w.heap.size + 1, 0, none⟩ (.slice o6 (Plain.tidy M).length c6)).setCell ⟨w.heap.size + 1, 1, none⟩ (.slice o2 edges.length c2)) := by grind [Chg.refl, Chg.setCell, Plain.tidy]
  have hheap := heap_setCell_same (heap_setCell_same r87 0 (.slice o6 (Plain.tidy M).length c6)) 1 (.slice o2 edges.length c2)
  have q0 := (cell_of_row _ _ 0 _ _ _ hheap).trans (show _ = some (Value.slice o6 (Plain.tidy M).length c6) from rfl)
  have q1 := (cell_of_row _ _ 1 _ _ _ hheap).trans (show _ = some (Value.slice o2 edges.length c2) from rfl)
  have HQ0 := Lib.hid q0
  have HQ1 := Lib.hid q1
  have hkind : ∀ {v : Value} {q : List Int} {B : Nat}, RowAt (w6.setCell ⟨w3.heap.size, 0, none⟩ (.slice o6 (Plain.tidy M).length c6)) B v q → ∀ b ∈ v.ownBlock.toList, b ∉ [w.heap.size + 1] := fun h b hb e => by
   obtain ⟨cs, r, hh⟩ := row_kind h b (by rw [h.foot]; exact hb)
   grind
  have hsz3 : w.heap.size + 2 ≤ w3.heap.size := by have := HC3.out.size; have := HXZ.out; omega
  have HRA := Lib.hid ((HR7.out.chg hs0 (hkind HR7.out)).base (show w.heap.size ≤ w3.heap.size by omega))
  have hr2 := HR2.out.chg HC7.out (by simp)
  have HRB := Lib.hid ((hr2.chg hs0 (hkind hr2)).base (show w.heap.size ≤ w1.heap.size by have := HXZ.out; omega))
  have HAP := Lib.hid (show ∀ j ∈ foot (.slice o6 (Plain.tidy M).length c6), j ∉ foot (.slice o2 edges.length c2) from fun j hj q => by
   have h1 := (HR7.out.low j (by rw [← HR7.out.foot]; exact hj)).1
   have h2 := (HR2.out.low j (by rw [← HR2.out.foot]; exact q)).2
   omega)
  have HCF := Lib.hid (show Chg [] w _ from (HXC.out.trans (HC3.out.trans HC7.out (by simp)) (by simp)).trans hs0 (fun j hj => Or.inr (by grind)))
  have HMT := Lib.hid (show (Plain.bspan g edges).v = Plain.tidy M by show Plain.tidy (Plain.endsL g edges) = _; rw [HM.out])
  clear q0 q1 hs0 hheap hkind hr2 hsz3 r87
  go_wp2
  refine bodyPost_ret (v := .agg #[.slice o6 (Plain.tidy M).length c6, .slice o2 edges.length c2]) (by have h0 := HQ0.out; have h1 := HQ1.out; simp [results, Tryz.results101, go_sem, h0, h1]) rfl ?_
  rw [HMT.out]
  exact ⟨_, _, rfl, HRA.out, HRB.out, HAP.out, HCF.out⟩
end Go.Proofs.YtpcgklagmcnhaaaGreat
namespace Go.Proofs
open Go.Shelf
def Tryz.keysM_ren : Go.Shelf.Ren := ⟨fun | 7 => 100 | 10 => 137 | n => n, fun | 23 => 121 | 26 => 3 | 3 => 31 | 28 => 161 | 0 => 0 | 27 => 160 | 33 => 171 | 4 => 4 | n => n, fun | n => n⟩
theorem Tryz.keysM : Go.Proofs.SlLaysZI.n7 Tryz.prog Tryz.keysM_ren := {
 mixed := by kernel_rfl
 f7 := ⟨Tryz.f100.name, by decide, Tryz.func100.trans (congrArg some (by kernel_rfl))⟩
 f10 := ⟨Tryz.f137.name, by decide, Tryz.func137.trans (congrArg some (by kernel_rfl))⟩
 t0 := Tryz.underlying0
 a0 := Tryz.isAgg0
 z0 := Tryz.sizeOf0
 v0 := Tryz.zeroValue0
 t4 := Tryz.underlying4
 a4 := Tryz.isAgg4
 z4 := Tryz.sizeOf4
 v4 := Tryz.zeroValue4
 t23 := Tryz.underlying121
 a23 := Tryz.isAgg121
 z23 := Tryz.sizeOf121
 v23 := Tryz.zeroValue121
 t26 := Tryz.underlying3
 a26 := Tryz.isAgg3
 z26 := Tryz.sizeOf3
 v26 := Tryz.zeroValue3
 t27 := Tryz.underlying160
 a27 := Tryz.isAgg160
 z27 := Tryz.sizeOf160
 v27 := Tryz.zeroValue160
 t28 := Tryz.underlying161
 a28 := Tryz.isAgg161
 z28 := Tryz.sizeOf161
 v28 := Tryz.zeroValue161
 t33 := Tryz.underlying171
 a33 := Tryz.isAgg171
 z33 := Tryz.sizeOf171
 v33 := Tryz.zeroValue171 }
def Tryz.sortedM_ren : Go.Shelf.Ren := ⟨fun | 6 => 99 | 8 => 136 | 9 => 31 | 11 => 168 | 13 => 59 | 12 => 58 | 23 => 95 | 24 => 96 | 14 => 86 | 15 => 87 | 16 => 88 | 17 => 89 | 18 => 90 | 19 => 91 | 20 => 92 | 21 => 93 | 22 => 94 | 25 => 129 | 26 => 130 | 27 => 131 | 28 => 132 | 29 => 133 | 30 => 116 | 31 => 165 | n => n, fun | 26 => 3 | 28 => 161 | 24 => 31 | 0 => 0 | 3 => 3 | 37 => 109 | 48 => 151 | 50 => 153 | 4 => 4 | 40 => 145 | 39 => 144 | 45 => 29 | 5 => 5 | 9 => 9 | 51 => 184 | 55 => 188 | 57 => 210 | 58 => 211 | 33 => 171 | n => n, fun | n => n⟩
theorem Tryz.sortedM : Go.Proofs.SlLaysZI.n6 Tryz.prog Tryz.sortedM_ren := {
 mixed := by kernel_rfl
 f6 := ⟨Tryz.f99.name, by decide, Tryz.func99.trans (congrArg some (by kernel_rfl))⟩
 f8 := ⟨Tryz.f136.name, by decide, Tryz.func136.trans (congrArg some (by kernel_rfl))⟩
 f11 := ⟨Tryz.f168.name, by decide, Tryz.func168.trans (congrArg some (by kernel_rfl))⟩
 t0 := Tryz.underlying0
 a0 := Tryz.isAgg0
 z0 := Tryz.sizeOf0
 v0 := Tryz.zeroValue0
 t24 := Tryz.underlying31
 a24 := Tryz.isAgg31
 z24 := Tryz.sizeOf31
 v24 := Tryz.zeroValue31
 t26 := Tryz.underlying3
 a26 := Tryz.isAgg3
 z26 := Tryz.sizeOf3
 v26 := Tryz.zeroValue3
 t28 := Tryz.underlying161
 a28 := Tryz.isAgg161
 z28 := Tryz.sizeOf161
 v28 := Tryz.zeroValue161
 i26 := by kernel_rfl }
end Go.Proofs
namespace Go.Proofs.YtpcgklagmcnhaaaGreat
open Go.RowKit Go.Maps Go.Sort
theorem sorts_in (m : Nat) : AnyZI.SortsIn Tryz.prog Tryz.sortedM_ren Fence.wide m :=
 ⟨fun blk off cap ss W hH hblk hsz => callsIn_wide.2 (Tryz.slices_Sort_int blk off cap ss W hH hblk hsz),
  fun p cap W => callsIn_wide.2 (Tryz.slices_Sort_int_none p cap W)⟩
theorem keys_any (b : Nat) (w : World) : Calls Tryz.prog 100 #[.map (some b)] w fun e w' =>
  e = .returned (.func (.func 137) #[] #[.pointer (some ⟨w.heap.size, 0, none⟩)]) ∧ w' = w.alloc (.cells #[.map (some b)] 121) :=
 (callsIn_wide (n := 5)).1 (AnyZI.keys_in Tryz.keysM Fence.wide 5 trivial rfl (some b) w)
theorem VMap.keys {w : World} {b n : Nat} {F : Int → Option Value} (h : VMap w b n F) : ∃ D : DataW Unit, w.ownsMap Tryz.prog 3 litRow b n D ∧ Maps.size D ≤ n ∧ (intKeys D).Nodup ∧ ∀ x, x ∈ intKeys D ↔ I64 x ∧ (F x).isSome = true := by
 obtain ⟨D, hown, hD⟩ := h
 obtain ⟨es, rfl, hpw, _⟩ := hown.entries keyedInt
 obtain ⟨es', e, hko⟩ := hown.keysOf
 obtain rfl : es = es' := by simpa using e
 have hk : ∀ p ∈ es, ∃ x, p.1 = .int .i64 x ∧ I64 x := fun p hp => by
  obtain ⟨v, hv⟩ := hko p hp
  obtain ⟨x, _, hx, hw⟩ := Maps.keyOf_i64 Tryz.underlying3 hv
  exact ⟨x, hx, hw⟩
 refine ⟨_, hown, hown.size_le, ?_, fun x => ?_⟩
 ·show (es.map fun p => Go.intOf p.1).Nodup
  refine List.pairwise_map.2 (hpw.imp_of_mem fun {p q} hp' hq' hne e => hne ?_)
  obtain ⟨a, ha, -⟩ := hk p hp'
  obtain ⟨c, hc, -⟩ := hk q hq'
  rw [ha, hc] at e ⊢
  exact congrArg _ e
 show x ∈ es.map (fun p => Go.intOf p.1) ↔ _
 rw [List.mem_map]
 constructor
 ·rintro ⟨p, hp, rfl⟩
  obtain ⟨a, ha, hi⟩ := hk p hp
  rw [ha]
  show I64 a ∧ (F a).isSome = true
  refine ⟨hi, ?_⟩
  rw [← (hD a hi).1, has_eq, List.any_eq_true]
  exact ⟨p, hp, by rw [ha]; simp [Lit.sameKey]⟩
 rintro ⟨hi, hs⟩
 rw [← (hD x hi).1, has_eq, List.any_eq_true] at hs
 obtain ⟨p, hp, hs⟩ := hs
 obtain ⟨a, ha, -⟩ := hk p hp
 rw [ha] at hs
 refine ⟨p, hp, ?_⟩
 rw [ha]
 simpa [Lit.sameKey, Go.intOf] using hs
theorem sorted_any (b n : Nat) (F : Int → Option Value) (ks : List Int) (w : World) (h : VMap w b n F) (hn : n ≤ 1000000) (hks : ks.Nodup) (hm : ∀ x, x ∈ ks ↔ I64 x ∧ (F x).isSome = true) :
  Calls Tryz.prog 99 #[.func (.func 137) #[] #[.pointer (some ⟨w.heap.size, 0, none⟩)]] (w.alloc (.cells #[.map (some b)] 121)) fun e w' =>
   ∃ v, e = .returned v ∧ RowAt w' w.heap.size v (ks.mergeSort fun x y => decide (x ≤ y)) ∧ Chg [] w w' := by
 obtain ⟨D, hown, hsz, hnd, hmem⟩ := h.keys
 have hbl := hown.lt
 have hseq : SeqGives Fence.wide 2 Tryz.prog 137 #[.pointer (some ⟨w.heap.size, 0, none⟩)] encZ (fun ss => ss.Perm (intKeys D)) (Maps.size D) (w.alloc (.cells #[.map (some b)] 121)) :=
  AnyZI.keys_gives (ρ := Tryz.keysM_ren) { Tryz.keysM with } Fence.wide _ trivial rfl (by omega) w.heap.size b n D _ (by simp) (by simp) (by
   obtain ⟨es, clock, hb, Ft, hs, hD⟩ := hown
   exact ⟨es, clock, (Below.heap_alloc _ _ b hbl).trans hb, Ft, hs, hD⟩)
 have cS := AnyZI.sorted_in Tryz.sortedM Fence.wide 5 trivial trivial trivial trivial rfl (by omega) (sorts_in _) (enters_of Tryz.func31 (by kernel_rfl) rfl) 137 #[.pointer (some ⟨w.heap.size, 0, none⟩)] trivial (enters_of Tryz.func137 (by kernel_rfl) rfl) _ _ (show Maps.size D ≤ maxLen by unfold maxLen; omega) (by omega) _ hseq
 refine ((callsIn_wide (n := 5)).1 cS).mono ?_
 rintro e w' ⟨v, ss, rfl, hS, hrow, -, hb⟩
 have hperm : ss.Perm ks := hS.trans ((List.perm_ext_iff_of_nodup hnd hks).2 fun x => by grind)
 have hsort : (ss.mergeSort fun x y => decide (x ≤ y)) = ks.mergeSort fun x y => decide (x ≤ y) := mergeSort_of_perm_i hperm
 have hlen : ss.length = (ks.mergeSort fun x y => decide (x ≤ y)).length := by rw [hperm.length_eq, (List.mergeSort_perm _ _).length_eq]
 rw [hsort] at hrow
 have hc : Chg [] w (w.alloc (.cells #[.map (some b)] 121)) := (Chg.refl _ _).alloc _
 refine ⟨v, rfl, ⟨?_, fun x hx => ?_, ?_⟩, hc.trans (Chg.of_below hb (Nat.le_refl _)) (by simp)⟩
 ·rw [hlen] at hrow
  exact owns_base hrow hc.size
 ·exact ((hm x).1 ((List.mergeSort_perm _ _).mem_iff.1 hx)).1
 have h1 : (intKeys D).length = Maps.size D := by
  obtain ⟨es, rfl, -⟩ := hown.entries keyedInt
  show (es.map _).length = es.length
  simp
 have := hS.length_eq
 omega
end Go.Proofs.YtpcgklagmcnhaaaGreat
