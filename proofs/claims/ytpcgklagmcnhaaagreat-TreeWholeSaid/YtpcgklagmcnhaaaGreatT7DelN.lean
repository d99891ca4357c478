/- slices.Delete of one node: contract. Conditions: nodes in a row of the call's own. -/
import Derived.Test.YtpcgklagmcnhaaaGreatT7TreeP
import Derived.Lib.AppendZeros
-- READS ONLY
namespace Go.Proofs.YtpcgklagmcnhaaaGreat
open Go.RowKit Go.Maps
theorem heap_setCells {g : Nat} {t : TypeId} : ∀ (vs : List Value) (o : Nat) (w : World) (cs : Array Value), w.heap[g]? = some (.cells cs t (0, 0)) → o + vs.length ≤ cs.size →
  ∃ cs' : Array Value, (w.setCells g o vs).heap[g]? = some (.cells cs' t (0, 0)) ∧ cs'.size = cs.size ∧ cs'.toList = cs.toList.take o ++ (vs ++ cs.toList.drop (o + vs.length))
 | [], o, w, cs, h, _ => ⟨cs, h, rfl, by simp⟩
 | v :: r, o, w, cs, h, hl => by
  rw [List.length_cons] at hl
  obtain ⟨cs', h1, h2, h3⟩ := heap_setCells r (o + 1) (w.setCell ⟨g, o, none⟩ v) (cs.setIfInBounds o v) (heap_setCell_same h o v) (by rw [Array.size_setIfInBounds]; omega)
  refine ⟨cs', h1, by simpa using h2, ?_⟩
  have e : (cs.setIfInBounds o v).toList = cs.toList.take o ++ v :: cs.toList.drop (o + 1) := by
   rw [Array.toList_setIfInBounds, List.set_eq_take_append_cons_drop, if_pos (by grind)]
  rw [h3, e]
  have hA : (cs.toList.take o).length = o := by grind
  generalize cs.toList.take o = A at *
  subst hA
  rw [show A ++ v :: cs.toList.drop (A.length + 1) = (A ++ [v]) ++ cs.toList.drop (A.length + 1) by simp]
  have hd : (A ++ [v]).drop (A.length + 1 + r.length) = [] := List.drop_eq_nil_of_le (by simp)
  have ht : ((A ++ [v]) ++ cs.toList.drop (A.length + 1)).take (A.length + 1) = A ++ [v] := by
   rw [show A.length + 1 = (A ++ [v]).length by simp, List.take_left]
  rw [ht, List.drop_append, hd, List.nil_append, List.drop_drop, List.append_assoc]
  simp only [List.length_append, List.length_cons, List.length_nil, List.nil_append, List.cons_append, Nat.zero_add]
  rw [show A.length + 1 + (A.length + 1 + r.length - (A.length + 1)) = A.length + (r.length + 1) by omega]
theorem chg_setCells {own : List Nat} {a : World} {g : Nat} (hg : g ∈ own) : ∀ (vs : List Value) (o : Nat) {w : World}, Chg own a w → Chg own a (w.setCells g o vs)
 | [], _, _, h => h
 | v :: r, o, _w, h => chg_setCells hg r (o + 1) (h.setCell (Or.inl hg) v)
theorem run_clear_wide (w : World) (t e ty : TypeId) (z : Value) (ht : Tryz.prog.underlying t = some (.slice e)) (hv : ∀ w, (zeroValue e).run Tryz.prog w = .ok z w) (b o n c : Nat) (hn : 0 < n) (L : List Value) (hL : (Builtin.zeroCells z.cells n).toList = L)
  (h1 : ∀ v ∈ L, v.oneCell' = true) (hc : ∀ j, j < L.length → (w.cell? ⟨b, o + j, none⟩).isSome = true) (hf : ∀ j, j < L.length → w.frozen? ⟨b, o + j, none⟩ = false) :
  (Builtin.clear_ #[t] ty #[.slice (some ⟨b, o, none⟩) n c]).run Tryz.prog w = .ok (.tuple #[]) (w.setCells b o L) := by
 have hst := run_storeCells_cells (P := Tryz.prog) b o L 0 w (by grind) (by grind) h1
 simp only [Nat.add_zero] at hst
 obtain ⟨m, rfl⟩ : ∃ m, n = m + 1 := ⟨n - 1, by omega⟩
 simp [Builtin.clear_, run_underlying ht, hv, hL, hst]
set_option maxRecDepth 100000 in
set_option maxHeartbeats 4000000 in
theorem delN_any (g c i B n : Nat) (xs : List Value) (w : World) (h : w.ownsRow B 26 2 (.slice (some ⟨g, 0, none⟩) n c) n xs) (hone : ∀ u ∈ xs, u.oneCell' = true) (hi : i < n) (hn : n ≤ 200000) :
  Calls Tryz.prog 67 #[.slice (some ⟨g, 0, none⟩) n c, .int .i64 i, .int .i64 ((i : Int) + 1)] w fun e w' => e = .returned (.slice (some ⟨g, 0, none⟩) (n - 1) c) ∧ w'.ownsRow B 26 2 (.slice (some ⟨g, 0, none⟩) (n - 1) c) (n - 1) (xs.take (2 * i) ++ xs.drop (2 * i + 2)) ∧ Chg [g] w w' := by
 have HN := Lib.hid h
 obtain ⟨cur, hB, hg, hnc, hcm, hcs, hcx⟩ : ∃ cur, B ≤ g ∧ w.heap[g]? = some (.cells cur 26 (0, 0)) ∧ n ≤ c ∧ c ≤ maxLen ∧ cur.size = c * 2 ∧ cur.toList.take (n * 2) = xs := by
  rcases h.2 with ⟨q, -⟩ | ⟨g', c', cur, q, k1, k2, k3, k4, k5, k6⟩
  all_goals grind
 have hxl := h.1
 have hm : c ≤ 9223372036854775807 := by simpa [maxLen] using hcm
 have hcellx : ∀ k, k < n * 2 → w.cell? ⟨g, k, none⟩ = some (xs.getD k undef) := fun k hk => by
  have := h.cells (g := g) rfl k (xs.getD k undef) (by simp [List.getD, show k < xs.length by omega])
  have hadd : (⟨g, 0, none⟩ : Addr).add k = ⟨g, k, none⟩ := by unfold Addr.add; split <;> simp_all
  rwa [hadd] at this
 -- the append
 obtain ⟨i0, hi0, hz0, hz1, hz2⟩ := info_parts elemNd.hi
 have hnl : (xs.drop (2 * i + 2)).length = (n - (i + 1)) * i0.size := by rw [List.length_drop, hxl, hz1]; omega
 have hfree : ∀ k, w.drew.frozen? ⟨g, k, none⟩ = false := fun k => by
  have := free_at hg k
  exact this
 have hrun : ∀ A : Addr, (∀ j u, (xs.drop (2 * i + 2))[j]? = some u → w.drew.cell? (A.add j) = some u) → (Builtin.append_ #[70, 70] 70 #[.slice (some ⟨g, 0, none⟩) i c, .slice (some A) (n - (i + 1)) (c - (i + 1))]).run Tryz.prog w.drew = .ok (.slice (some ⟨g, 0, none⟩) (i + (n - (i + 1))) c) (w.drew.setCells g (0 + i * i0.size) (xs.drop (2 * i + 2))) := fun A hA =>
  run_append_room_cells w.drew 70 70 26 i0 elemNd.ht hi0 g 0 i c A (n - (i + 1)) (c - (i + 1)) (xs.drop (2 * i + 2)) hnl hA (fun u hu => hone u (List.mem_of_mem_drop hu)) (by omega) (fun j hj => by
   rw [hnl, hz1] at hj
   rw [Nat.zero_add, hz1]
   have h1 := hcellx (i * 2 + j) (by omega)
   exact Option.isSome_iff_exists.2 ⟨_, h1⟩) (fun j hj => hfree _)
 rw [hz1, Nat.zero_add] at hrun
 have HRUN := Lib.hid hrun
 have hiN : (i : Int) < (n : Int) := by omega
 have hi0' : (0 : Int) ≤ (i : Int) + 1 := by omega
 have hi1' : (i : Int) + 1 ≤ (n : Int) := by omega
 obtain ⟨A, hA, hsrc⟩ : ∃ A : Addr, (if c = i + 1 then some (⟨g, 0, none⟩ : Addr) else some ⟨g, (i + 1) * 2, none⟩) = some A ∧ ∀ (j : Nat) (u : Value), (xs.drop (2 * i + 2))[j]? = some u → w.drew.cell? (A.add j) = some u := by
  have hadd : ∀ o j : Nat, (⟨g, o, none⟩ : Addr).add j = ⟨g, o + j, none⟩ := fun o j => by unfold Addr.add; split <;> simp_all
  by_cases q : c = i + 1
  ·refine ⟨⟨g, 0, none⟩, by rw [if_pos q], fun j u hu => ?_⟩
   have := (List.getElem?_eq_some_iff.1 hu).1
   rw [List.length_drop] at this
   omega
  refine ⟨⟨g, (i + 1) * 2, none⟩, by rw [if_neg q], fun j u hu => ?_⟩
  have hj := (List.getElem?_eq_some_iff.1 hu).1
  rw [List.length_drop] at hj
  rw [List.getElem?_drop] at hu
  rw [hadd, show (i + 1) * 2 + j = 2 * i + 2 + j by omega]
  have h1 := hcellx (2 * i + 2 + j) (by omega)
  rw [show xs.getD (2 * i + 2 + j) undef = u by simp [List.getD, hu]] at h1
  exact h1
 have HSRC := Lib.hid hsrc
 have hic : i ≤ c := by omega
 have hic1 : i + 1 ≤ c := by omega
 clear hrun hone hcellx hfree hnl h hsrc
 go_enter Tryz.func67, Tryz.ntmps67
 go_wp2_with fail
 have hS0 : Chg [] w w.drew := (Chg.refl [] w).drew
 refine wp_region_way (Chg [] w) [0, 1, 2, 3, 4] (Way.line [0, 1, 2, 3, 4, 5, 6, 7] .done) (by kernel_rfl) (by kernel_rfl) ?_
 simp only [Way.line]
 repeat (refine along_read (v := ?_) rfl (by rfl) (by rfl) (fun _ _ _ h => h) hS0 (fun w' hS' => ?_) ?_; rotate_left; (focus (skip; clear hS'; go_simp; try with_reducible rfl)); simp only [Act.put, Z1, Z2, Z3, Z4, Z5, Z6])
 refine along_op rfl (by rfl) (by rfl) (fun K hK => ?_)
 go_simp
 refine hK.out _ _ (fun _ => hS0) ?_
 clear hK K
 try simp only [Act.put, Z1, Z2, Z3, Z4, Z5, Z6]
 refine along_op rfl (by rfl) (by rfl) (fun K hK => ?_)
 simp only [List.getElem_toArray, List.getElem_cons_zero, List.getElem_cons_succ]
 refine wp_apprun (.tmp 22) (.tmp 25) 70 rfl rfl rfl (HRUN.out A HSRC.out) ?_
 refine hK.out _ _ (fun h => absurd h (Bool.eq_false_iff.1 (by kernel_rfl))) ?_
 clear hK K
 try simp only [Act.put, List.setIfInBounds_toArray, List.set_cons_zero, List.set_cons_succ]
 refine along_op rfl (by rfl) (by rfl) (fun K hK => ?_)
 go_simp
 refine hK.out _ _ (fun h => absurd h (Bool.eq_false_iff.1 (by kernel_rfl))) ?_
 clear hK K
 try simp only [Act.put, Z1, Z2, Z3, Z4, Z5, Z6]
 refine along_done ?_
 obtain ⟨m, rfl⟩ : ∃ m, n = m + 1 := ⟨n - 1, by omega⟩
 rw [show i + (m + 1 - (i + 1)) = m by omega]
 obtain ⟨cs1, k1, k2, k3⟩ := heap_setCells (xs.drop (2 * i + 2)) (i * 2) w.drew cur hg (by grind)
 have hch1 : Chg [g] w (w.drew.setCells g (i * 2) (xs.drop (2 * i + 2))) := chg_setCells (by simp) _ _ (Chg.refl [g] w).drew
 have HCH1 := Lib.hid hch1
 generalize w.drew.setCells g (i * 2) (xs.drop (2 * i + 2)) = w1 at *
 have HK1 := Lib.hid k1
 have HK3 := Lib.hid k3
 have hmc : m ≤ c := by omega
 have hm1c : m + 1 ≤ c := by omega
 have hcl : ∀ ty, (Builtin.clear_ #[70] ty #[.slice (some ⟨g, m * 2, none⟩) 1 (c - m)]).run Tryz.prog w1 = .ok (.tuple #[]) (w1.setCells g (m * 2) [.int .i64 0, .slice none 0 0]) := fun ty =>
  run_clear_wide w1 70 26 ty (.agg #[.int .i64 0, .slice none 0 0]) elemNd.ht (fun w => by simp [zeroValue, typeInfo, hi0, hz0]) g (m * 2) 1 (c - m) (by omega) [.int .i64 0, .slice none 0 0] (by kernel_rfl) (fun u hu => by
   simp at hu
   rcases hu with rfl | rfl <;> rfl) (fun j hj => by
   have hj : j < 2 := hj
   rw [cell_of_row _ _ _ _ _ _ k1, Array.getElem?_eq_getElem (by omega)]
   rfl) (fun j _ => free_at k1 _)
 obtain ⟨cs2, l1, l2, l3⟩ := heap_setCells [.int .i64 0, .slice none 0 0] (m * 2) w1 cs1 k1 (by simp; omega)
 have HCH2 := Lib.hid (chg_setCells (g := g) (own := [g]) (by simp) [.int .i64 0, .slice none 0 0] (m * 2) HCH1.out)
 have HL1 := Lib.hid l1
 have HL3 := Lib.hid l3
 clear HRUN HSRC hA hS0 hch1 k1 k3 l1 l3
 go_wp2
 go_ret
 clear hcl
 generalize w1.setCells g (m * 2) [.int .i64 0, .slice none 0 0] = w2 at *
 have hm' : m + 1 - 1 = m := by omega
 refine ⟨rfl, ?_, HCH2.out⟩
 rw [hm']
 have hlx := HN.out.1
 have htake : cs2.toList.take (m * 2) = xs.take (2 * i) ++ xs.drop (2 * i + 2) := by
  have e1 : cs2.toList.take (m * 2) = cs1.toList.take (m * 2) := by
   rw [HL3.out, List.take_append_of_le_length (by grind), List.take_take, Nat.min_self]
  have hA : (cur.toList.take (i * 2)).length = i * 2 := by rw [List.length_take, Array.length_toList]; omega
  have hB : (xs.drop (2 * i + 2)).length = m * 2 - i * 2 := by rw [List.length_drop]; omega
  rw [e1, HK3.out, ← List.append_assoc, List.take_append_of_le_length (by grind), List.take_of_length_le (by grind)]
  grind
 have hown : w2.ownsRow B 26 2 (.slice (some ⟨g, 0, none⟩) m c) m (xs.take (2 * i) ++ xs.drop (2 * i + 2)) := by
  refine ⟨?_, Or.inr ⟨g, c, cs2, rfl, hB, HL1.out, by omega, hcm, by omega, htake⟩⟩
  grind
 exact hown
set_option maxRecDepth 100000 in
set_option maxHeartbeats 1000000 in
theorem growL_any (n : Nat) (w : World) (hn : n < 100000000) :
  Calls Tryz.prog 107 #[.slice none 0 0, .int .i64 n] w fun e w' => ∃ v', e = .returned v' ∧ LkRow w' w.heap.size v' [] ∧ Chg [] w w' := by
 obtain ⟨i0, hi, hz0, hz1, hz2⟩ := info_parts elemLink.hi
 go_enter Tryz.func107, Tryz.ntmps107
 rcases n with _ | n
 ·go_wp2
  go_ret
  exact ⟨_, rfl, LkRow.nil _ _, Chg.refl _ _⟩
 have hr := Go.Lib.run_append_nil_zeros (P := Tryz.prog) w 24 3 24 50 i0 (.agg #[.int .i64 0, .int .i64 0, .int .i64 0]) .i64 .i64 elemLink.ht Tryz.underlying3 hi hz0 (n + 1) (by omega) (by omega) (by omega) (by rw [hz2]; omega)
 have hng : ((n + 1 : Nat) : Int) > 0 := by omega
 have hnn : ¬ ((n + 1 : Nat) : Int) < 0 := by omega
 generalize hN : n + 1 = N at *
 go_wp2_with (at_builtin; refine Go.Lib.wpList_append_run _ rfl _ _ _ _ rfl _ _ rfl rfl _ _ hr ?_)
 have hge := grownCap_ge w N 0 50
 have hle := grownCap_le_maxLen w N 0 50 (by unfold maxLen; omega)
 have hsz : (Builtin.zeroCells #[Value.int .i64 0, .int .i64 0, .int .i64 0] N ++ Builtin.zeroCells #[Value.int .i64 0, .int .i64 0, .int .i64 0] (grownCap w N 0 50 - N)).size = grownCap w N 0 50 * 3 := by
  simp only [Array.size_append, size_zeroCells]
  have e3 : (#[Value.int .i64 0, .int .i64 0, .int .i64 0] : Array Value).size = 3 := rfl
  rw [e3]
  omega
 generalize Builtin.zeroCells #[Value.int .i64 0, .int .i64 0, .int .i64 0] N ++ Builtin.zeroCells #[Value.int .i64 0, .int .i64 0, .int .i64 0] (grownCap w N 0 50 - N) = Z at *
 generalize grownCap w N 0 50 = G at *
 clear hr
 have hh := heap_alloc_new w (.cells Z 50)
 go_ret
 refine ⟨_, rfl, ⟨⟨by simp [lkCells], Or.inr ⟨w.heap.size, G, Z, rfl, Nat.le_refl _, hh, by simp, hle, hsz, by simp [lkCells]⟩⟩, by simp, by simp⟩, ((Chg.refl [] w).alloc _).drew⟩
def catK (Ls : List (List Plain.Lk)) (k : Nat) : List Plain.Lk := (Ls.take k).flatten
theorem catK_snoc {Ls : List (List Plain.Lk)} {k : Nat} (hk : k < Ls.length) : catK Ls (k + 1) = catK Ls k ++ Ls.getD k [] := by
 unfold catK
 rw [List.take_succ_eq_append_getElem hk, List.flatten_append]
 simp [List.getD, hk]
theorem catK_le (Ls : List (List Plain.Lk)) (k : Nat) : (catK Ls k).length ≤ Ls.flatten.length := by
 unfold catK
 have h : (Ls.take k).flatten ++ (Ls.drop k).flatten = Ls.flatten := by rw [← List.flatten_append, List.take_append_drop]
 rw [← h, List.length_append]
 omega
set_option maxRecDepth 100000 in
set_option maxHeartbeats 4000000 in
theorem concatL_any (bb n c : Nat) (vs : Nat → Value) (Ls : List (List Plain.Lk)) (w : World) (hn : Ls.length = n) (hnl : n < 1000000) (hl : Ls.flatten.length < 100000000) (hc : ∀ k, k < n → w.cell? ⟨bb, k, none⟩ = some (vs k) ∧ LkRow w 0 (vs k) (Ls.getD k [])) :
  Calls Tryz.prog 66 #[.slice (some ⟨bb, 0, none⟩) n c] w fun e w' => ∃ v', e = .returned v' ∧ LkRow w' w.heap.size v' Ls.flatten ∧ Chg [] w w' := by
 have HC := Lib.hid hc
 have HLE := Lib.hid (catK_le Ls)
 clear hc
 go_enter Tryz.func66, Tryz.ntmps66
 go_wp2_with fail
 go_loopw [3, 5, 11] (fun c3 _ c wr => ∃ k : Nat, k ≤ n ∧ c = .int .i64 k ∧ c3 = .int .i64 ((catK Ls k).length : Nat) ∧ wr = w) (fun _ _ c _ => n - (intOf c).toNat)
 case atStart => exact ⟨0, Nat.zero_le _, rfl, rfl, rfl⟩
 case round =>
  obtain ⟨k, hk, rfl, rfl, rfl⟩ := hrel
  by_cases hlt : k < n
  ·obtain ⟨hcell, hrow⟩ := HC.out k hlt
   obtain ⟨uo, uc, eu⟩ := hrow.shape
   rw [eu] at hcell
   have HSN := Lib.hid (show (catK Ls (k + 1)).length = (catK Ls k).length + (Ls.getD k []).length by rw [catK_snoc (by omega), List.length_append])
   have h1 := HLE.out k
   have h2 := HLE.out (k + 1)
   rw [HSN.out] at h2
   have hs0 : ¬ (((catK Ls k).length : Int) + ((Ls.getD k []).length : Int) < 0) := by omega
   obtain ⟨a, ha⟩ : ∃ a, (catK Ls k).length = a := ⟨_, rfl⟩
   obtain ⟨b, hb⟩ : ∃ b, (Ls.getD k []).length = b := ⟨_, rfl⟩
   rw [ha] at HSN h1 h2 hs0 ⊢
   rw [hb] at HSN h2 hs0 hcell
   clear ha hb eu hrow
   go_wp2
   go_roundw
   case rel => exact ⟨k + 1, by omega, by go_num, by rw [HSN.out]; go_num, trivial⟩
   case measure => simp [intOf]; omega
  have e : k = n := by omega
  subst e
  have HFL := Lib.hid (show catK Ls k = Ls.flatten by unfold catK; rw [List.take_of_length_le (by omega)])
  rw [HFL.out]
  obtain ⟨T, hT⟩ : ∃ T, Ls.flatten.length = T := ⟨_, rfl⟩
  have HT := Lib.hid hT
  rw [hT] at hl ⊢
  clear hT
  go_wp2_with fail
  refine (growL_any T _ hl).mono ?_
  rintro e w2 ⟨v2, rfl, hr2, hc2⟩
  obtain ⟨o2, c2, rfl⟩ := hr2.shape
  obtain ⟨B, hB⟩ : ∃ B, wr.heap.size = B := ⟨_, rfl⟩
  have HB := Lib.hid hB
  rw [hB] at hr2
  have HR2 := Lib.hid hr2
  have HC2 := Lib.hid hc2
  clear hr2 hc2 hlt hk hB
  go_wp2_with fail
  go_loopw [6, 8, 27] (fun c6 _ c wx => ∃ i : Nat, i ≤ k ∧ c = .int .i64 i ∧ LkRow wx B c6 (catK Ls i) ∧ Chg [] wr wx) (fun _ _ c _ => k - (intOf c).toNat)
  case atStart => exact ⟨0, Nat.zero_le _, rfl, HR2.out, HC2.out⟩
  case round =>
   obtain ⟨i, hi, rfl, hr, hcx⟩ := hrel
   have HR := Lib.hid hr
   have HCX := Lib.hid hcx
   obtain ⟨oo, oc, rfl⟩ := hr.shape
   clear hr hcx
   by_cases hli : i < k
   ·obtain ⟨hcell, hrow⟩ := HC.out i hli
    have HIN := Lib.hid (hrow.fresh HCX.out)
    obtain ⟨uo, uc, eu⟩ := hrow.shape
    have HSN := Lib.hid (catK_snoc (Ls := Ls) (k := i) (by omega))
    have h2 := HLE.out (i + 1)
    rw [HSN.out, HT.out, List.length_append] at h2
    have ck := HCX.out.cel hcell
    rw [eu] at ck
    have hIN := HIN.out
    rw [eu] at hIN
    have HIN2 := Lib.hid hIN
    obtain ⟨M, hM⟩ : ∃ M, catK Ls i = M := ⟨_, rfl⟩
    obtain ⟨L, hL⟩ : ∃ L, Ls.getD i [] = L := ⟨_, rfl⟩
    rw [hM] at HR HSN h2 ⊢
    rw [hL] at HSN h2 ck HIN2
    have HSZ := Lib.hid (by have := HCX.out.size; rwa [HB.out] at this)
    have hsum : M.length + L.length < 68719476736 := by omega
    have hsum2 : M.length + L.length < 4294967296 := by omega
    clear hcell eu hIN hM hL h2 hrow
    go_wp2_with (at_builtin; refine wl_spread elemLink rfl _ _ rfl (B := B) (v := .slice oo M.length oc) (u := .slice uo L.length uc) rfl rfl HR.out.1 HIN2.out.1 HSZ.out (lkCells_one _) hsum ?_; intro v6 w6 r6 c6 f6; have R6 := Lib.hid r6; have C6 := Lib.hid c6; clear r6 c6 f6)
    have HR6 := Lib.hid (show LkRow _ B v6 (M ++ L) from ⟨by rw [List.length_append, lkCells_app]; exact R6.out, fun y hy => (List.mem_append.1 hy).elim (HR.out.2.1 y) (HIN2.out.2.1 y), by rw [List.length_append]; exact hsum2⟩)
    go_roundw
    case rel => exact ⟨i + 1, by omega, by go_num, by rw [HSN.out]; exact HR6.out, HCX.out.trans C6.out (fun j hj => Or.inr (by rw [HB.out]; exact (HR.out.1.lt j (by simpa using hj)).1))⟩
    case measure => simp [intOf]; omega
   have e : i = k := by omega
   subst e
   rw [HFL.out] at HR ⊢
   clear hi hli
   go_wp2
   go_ret
   exact ⟨_, rfl, by rw [HB.out]; exact HR.out, HCX.out⟩
theorem concatL2_any (u v : Value) (l m : List Plain.Lk) (w : World) (h1 : LkRow w 0 u l) (h2 : LkRow w 0 v m) (hl : l.length + m.length < 1000000) :
  Calls Tryz.prog 66 #[.slice (some ⟨w.heap.size, 0, none⟩) 2 2] (w.alloc (.cells #[u, v] 24)) fun e w' => ∃ v', e = .returned v' ∧ LkRow w' w.heap.size v' (l ++ m) ∧ Chg [] w w' := by
 have hc := (Chg.refl [] w).alloc (.cells #[u, v] 24)
 have hb := heap_alloc_new w (.cells #[u, v] 24)
 refine (concatL_any w.heap.size 2 2 (fun k => if k = 0 then u else v) [l, m] _ rfl (by omega) (by simp; omega) (fun k hk => by
  rcases (show k = 0 ∨ k = 1 by omega) with rfl | rfl
  ·exact ⟨(cell_of_row _ _ 0 _ _ _ hb).trans rfl, h1.fresh hc⟩
  exact ⟨(cell_of_row _ _ 1 _ _ _ hb).trans rfl, h2.fresh hc⟩)).mono ?_
 rintro e w' ⟨v', rfl, hr, hc'⟩
 exact ⟨v', rfl, by simpa using hr.base hc.size, hc.tr hc'⟩
theorem cloneL_any (v : Value) (l : List Plain.Lk) (B : Nat) (w : World) (hl : l.length ≤ 100000000) (h : LkRow w B v l) :
  Calls Tryz.prog 29 #[v] w fun e w' => ∃ v', e = .returned v' ∧ LkRow w' w.heap.size v' l ∧ Chg [] w w' := by
 rcases h.1.2 with ⟨rfl, h0⟩ | ⟨g, cap, cur, rfl, hb, hh, hnc, hcm, hcs, hys⟩
 ·have e : l = [] := List.length_eq_zero_iff.1 h0
  subst e
  refine (AnyE.slices_Clone_nil Tryz.cloneLinks 0 0 w).mono ?_
  rintro e w' ⟨rfl, rfl⟩
  exact ⟨_, rfl, LkRow.nil _ _, Chg.refl _ _⟩
 obtain ⟨i0, hi, hz0, hz1, hz2⟩ := info_parts elemLink.hi
 have hcl : ∀ j u, (lkCells l)[j]? = some u → w.cell? ⟨g, 0 + j, none⟩ = some u := fun j u hu => by
  have h1 := h.1.cells (g := g) rfl j u hu
  have hadd : (⟨g, 0, none⟩ : Addr).add j = ⟨g, j, none⟩ := by unfold Addr.add; split <;> simp_all
  rw [hadd] at h1
  rw [Nat.zero_add]
  exact h1
 refine (AnyE.slices_Clone Tryz.cloneLinks i0 (.agg #[.int .i64 0, .int .i64 0, .int .i64 0]) 3 24 hi hz0 hz1 hz2 rfl (by decide) Tryz.sizeOf50 g 0 l.length cap (lkCells l) w (lkCells_len l) (by unfold maxLen; omega) (by omega) hcl (lkCells_one l)).mono ?_
 rintro e w' ⟨v', rfl, hr, -, hb⟩
 exact ⟨v', rfl, ⟨hr, h.2⟩, Chg.of_below hb (Nat.le_refl _)⟩
theorem ndCells_set : ∀ {ns : List Plain.Nd} {vs : List Value} {i : Nat} (n : Plain.Nd) (v : Value), vs.length = ns.length → i < ns.length → ((ndCells ns vs).set (i * 2) (.int .i64 n.kind)).set (i * 2 + 1) v = ndCells (ns.set i n) (vs.set i v)
 | m :: ns, u :: vs, 0, n, v, _, _ => rfl
 | m :: ns, u :: vs, i + 1, n, v, h, hi => by
  have ih := ndCells_set (ns := ns) (vs := vs) (i := i) n v (by simpa using h) (by simpa using hi)
  have e : ndCells (m :: ns) (u :: vs) = .int .i64 m.kind :: u :: ndCells ns vs := rfl
  rw [e, show (i + 1) * 2 = i * 2 + 1 + 1 by omega, List.set_cons_succ, List.set_cons_succ, List.set_cons_succ, List.set_cons_succ, ih]
  rfl
theorem ndCells_del : ∀ {ns : List Plain.Nd} {vs : List Value} {i : Nat}, vs.length = ns.length → i < ns.length → (ndCells ns vs).take (2 * i) ++ (ndCells ns vs).drop (2 * i + 2) = ndCells (ns.eraseIdx i) (vs.eraseIdx i)
 | m :: ns, u :: vs, 0, _, _ => rfl
 | m :: ns, u :: vs, i + 1, h, hi => by
  have ih := ndCells_del (ns := ns) (vs := vs) (i := i) (by simpa using h) (by simpa using hi)
  have e : ndCells (m :: ns) (u :: vs) = .int .i64 m.kind :: u :: ndCells ns vs := rfl
  rw [e, show 2 * (i + 1) = 2 * i + 1 + 1 by omega, List.take_succ_cons, List.take_succ_cons, show 2 * i + 1 + 1 + 2 = (2 * i + 2) + 1 + 1 by omega, List.drop_succ_cons, List.drop_succ_cons]
  show _ :: _ :: (_ ++ _) = _ :: _ :: _
  rw [ih]
theorem ndSet {w : World} {B g n c i : Nat} {vs : List Value} {ns : List Plain.Nd} {v : Value} (x : Plain.Nd) (h : NdRow w B (.slice (some ⟨g, 0, none⟩) n c) vs ns) (hi : i < ns.length) (hk : I64 x.kind) (hl : LkRow w 0 v x.l) :
  NdRow ((w.setCell ⟨g, i * 2, none⟩ (.int .i64 x.kind)).setCell ⟨g, i * 2 + 1, none⟩ v) B (.slice (some ⟨g, 0, none⟩) n c) (vs.set i v) (ns.set i x) ∧ Chg [g] w ((w.setCell ⟨g, i * 2, none⟩ (.int .i64 x.kind)).setCell ⟨g, i * 2 + 1, none⟩ v) := by
 have hn : n = ns.length := by
  obtain ⟨a, b, e⟩ := h.shape
  simp only [Value.slice.injEq] at e
  exact e.2.1
 subst hn
 have hch : Chg [g] w ((w.setCell ⟨g, i * 2, none⟩ (.int .i64 x.kind)).setCell ⟨g, i * 2 + 1, none⟩ v) := ((Chg.refl _ _).setCell (Or.inl (by simp)) _).setCell (Or.inl (by simp)) _
 have hoff : ∀ b ∈ [g], ∀ cs t r, w.heap[b]? = some (.cells cs t r) → t ≠ 50 := fun b hb cs t r hh => by
  rw [List.mem_singleton.1 hb] at hh
  obtain ⟨cs2, h2⟩ := owns_kind h.out (show (Value.slice (some ⟨g, 0, none⟩) ns.length c).ownBlock = some g from rfl)
  rw [h2] at hh
  simp at hh
  rw [← hh.2.1]; decide
 refine ⟨⟨?_, by simp [h.len], fun j hj => ?_⟩, hch⟩
 ·have h1 := ((h.out.stored (i * 2) (.int .i64 x.kind)).1.stored (i * 2 + 1) v).1
  rw [ndCells_set x v h.len hi] at h1
  rw [List.length_set]
  exact h1
 rw [List.length_set] at hj
 have hl2 := h.len
 by_cases e : i = j
 ·subst e
  have e1 : Plain.nd0 (ns.set i x) i = x := by unfold Plain.nd0; simp [List.getD, hi]
  have e2 : (vs.set i v).getD i undef = v := by simp [List.getD, show i < vs.length by omega]
  rw [e1, e2]
  exact ⟨hk, hl.off hch hoff⟩
 have e1 : Plain.nd0 (ns.set i x) j = Plain.nd0 ns j := by unfold Plain.nd0; rw [List.getD_eq_getElem?_getD, List.getD_eq_getElem?_getD, List.getElem?_set_ne e]
 have e2 : (vs.set i v).getD j undef = vs.getD j undef := by rw [List.getD_eq_getElem?_getD, List.getD_eq_getElem?_getD, List.getElem?_set_ne e]
 rw [e1, e2]
 exact ⟨(h.row j hj).1, (h.row j hj).2.off hch hoff⟩
theorem ndDel {w w' : World} {B g n c i : Nat} {vs : List Value} {ns : List Plain.Nd} (h : NdRow w B (.slice (some ⟨g, 0, none⟩) n c) vs ns) (hi : i < ns.length) (hr : w'.ownsRow B 26 2 (.slice (some ⟨g, 0, none⟩) (ns.length - 1) c) (ns.length - 1) ((ndCells ns vs).take (2 * i) ++ (ndCells ns vs).drop (2 * i + 2))) (hc : Chg [g] w w') :
  NdRow w' B (.slice (some ⟨g, 0, none⟩) (ns.length - 1) c) (vs.eraseIdx i) (ns.eraseIdx i) := by
 have hn : n = ns.length := by
  obtain ⟨a, b, e⟩ := h.shape
  simp only [Value.slice.injEq] at e
  exact e.2.1
 subst hn
 have hel : (ns.eraseIdx i).length = ns.length - 1 := List.length_eraseIdx_of_lt hi
 have hl2 := h.len
 have hoff : ∀ b ∈ [g], ∀ cs t r, w.heap[b]? = some (.cells cs t r) → t ≠ 50 := fun b hb cs t r hh => by
  rw [List.mem_singleton.1 hb] at hh
  obtain ⟨cs2, h2⟩ := owns_kind h.out (show (Value.slice (some ⟨g, 0, none⟩) ns.length c).ownBlock = some g from rfl)
  rw [h2] at hh
  simp at hh
  rw [← hh.2.1]; decide
 rw [ndCells_del h.len hi] at hr
 refine ⟨by rw [hel]; exact hr, by rw [hel, List.length_eraseIdx_of_lt (by omega)]; omega, fun j hj => ?_⟩
 rw [hel] at hj
 by_cases e : j < i
 ·have e1 : Plain.nd0 (ns.eraseIdx i) j = Plain.nd0 ns j := by unfold Plain.nd0; rw [List.getD_eq_getElem?_getD, List.getD_eq_getElem?_getD, List.getElem?_eraseIdx_of_lt e]
  have e2 : (vs.eraseIdx i).getD j undef = vs.getD j undef := by rw [List.getD_eq_getElem?_getD, List.getD_eq_getElem?_getD, List.getElem?_eraseIdx_of_lt e]
  rw [e1, e2]
  exact ⟨(h.row j (by omega)).1, (h.row j (by omega)).2.off hc hoff⟩
 have e1 : Plain.nd0 (ns.eraseIdx i) j = Plain.nd0 ns (j + 1) := by unfold Plain.nd0; rw [List.getD_eq_getElem?_getD, List.getD_eq_getElem?_getD, List.getElem?_eraseIdx_of_ge (by omega)]
 have e2 : (vs.eraseIdx i).getD j undef = vs.getD (j + 1) undef := by rw [List.getD_eq_getElem?_getD, List.getD_eq_getElem?_getD, List.getElem?_eraseIdx_of_ge (by omega)]
 rw [e1, e2]
 exact ⟨(h.row (j + 1) (by omega)).1, (h.row (j + 1) (by omega)).2.off hc hoff⟩
theorem ndCells_ones : ∀ {ns : List Plain.Nd} {vs : List Value}, (∀ v ∈ vs, v.oneCell' = true) → ∀ u ∈ ndCells ns vs, u.oneCell' = true
 | [], _, _, u, hu => by cases hu
 | _ :: _, [], _, u, hu => by cases hu
 | n :: ns, v :: vs, h, u, hu => by
  have e : ndCells (n :: ns) (v :: vs) = .int .i64 n.kind :: v :: ndCells ns vs := rfl
  rw [e] at hu
  rcases List.mem_cons.1 hu with rfl | hu
  ·rfl
  rcases List.mem_cons.1 hu with rfl | hu
  ·exact h _ (by simp)
  exact ndCells_ones (fun x hx => h x (List.mem_cons_of_mem _ hx)) u hu
theorem NdRow.ones {w : World} {B : Nat} {v : Value} {vs : List Value} {ns : List Plain.Nd} (h : NdRow w B v vs ns) : ∀ u ∈ ndCells ns vs, u.oneCell' = true :=
 ndCells_ones fun x hx => by
  obtain ⟨i, hi, rfl⟩ := List.getElem_of_mem hx
  have hl := h.len
  obtain ⟨ao, c, e⟩ := (h.row i (by omega)).2.shape
  have e1 : vs.getD i undef = vs[i] := by simp [List.getD, hi]
  rw [e1] at e
  rw [e]
  rfl
namespace Plain
def cmpL : List Int → List Int → Int
 | [], [] => 0
 | [], _ :: _ => -1
 | _ :: _, [] => 1
 | x :: a, y :: b => if x < y then -1 else if y < x then 1 else cmpL a b
theorem cmpL_at {a b : List Int} {k : Nat} (ha : k < a.length) (hb : k < b.length) : cmpL (a.drop k) (b.drop k) = if a.getD k 0 < b.getD k 0 then -1 else if b.getD k 0 < a.getD k 0 then 1 else cmpL (a.drop (k + 1)) (b.drop (k + 1)) := by
 rw [List.drop_eq_getElem_cons ha, List.drop_eq_getElem_cons hb]
 simp [cmpL, List.getD, ha, hb]
theorem cmpL_endb {a b : List Int} {k : Nat} (ha : k < a.length) (hb : b.length ≤ k) : cmpL (a.drop k) (b.drop k) = 1 := by
 rw [List.drop_eq_getElem_cons ha, List.drop_eq_nil_of_le hb]
 rfl
theorem cmpL_enda {a b : List Int} {k : Nat} (ha : a.length ≤ k) : cmpL (a.drop k) (b.drop k) = if k < b.length then -1 else 0 := by
 rw [List.drop_eq_nil_of_le ha]
 by_cases h : k < b.length
 ·rw [if_pos h, List.drop_eq_getElem_cons h]
  rfl
 rw [if_neg h, List.drop_eq_nil_of_le (by omega)]
 rfl
end Plain
set_option maxRecDepth 100000 in
set_option maxHeartbeats 4000000 in
theorem compareL_any (va vb : Value) (a b : List Int) (w : World) (h1 : IntsAt w va a) (h2 : IntsAt w vb b) :
  Calls Tryz.prog 40 #[va, vb] w fun e w' => e = .returned (.int .i64 (Plain.cmpL a b)) ∧ w' = w := by
 have H1 := Lib.hid h1
 have H2 := Lib.hid h2
 obtain ⟨ao, ac, rfl, -, hm1, -⟩ := h1
 obtain ⟨bo, bc, rfl, -, hm2, -⟩ := h2
 have H0 := Lib.hid (show Plain.cmpL (a.drop 0) (b.drop 0) = Plain.cmpL a b from rfl)
 go_enter Tryz.func40, Tryz.ntmps40
 go_wp2_with fail
 go_loopw [11] (fun iv wr => ∃ k : Nat, k ≤ a.length ∧ k ≤ b.length ∧ iv = .int .i64 k ∧ Hid (Plain.cmpL (a.drop k) (b.drop k) = Plain.cmpL a b) ∧ wr = w) (fun iv _ => a.length - (intOf iv).toNat)
 case atStart => exact ⟨0, Nat.zero_le _, Nat.zero_le _, rfl, H0, rfl⟩
 case round =>
  obtain ⟨k, hk, hkb, rfl, HK, rfl⟩ := hrel
  by_cases hlt : k < a.length
  ·obtain ⟨rb, roff, rfl, rc⟩ := IntsAt.cellAt H1.out hlt
   by_cases hlb : k < b.length
   ·obtain ⟨sb, soff, rfl, sc⟩ := IntsAt.cellAt H2.out hlb
    have HC := Lib.hid (HK.out.symm.trans (Plain.cmpL_at hlt hlb))
    obtain ⟨x, hx⟩ : ∃ x, a.getD k 0 = x := ⟨_, rfl⟩
    obtain ⟨y, hy⟩ : ∃ y, b.getD k 0 = y := ⟨_, rfl⟩
    rw [hx] at rc HC
    rw [hy] at sc HC
    clear hx hy
    go_wp2_with fail
    refine (compare_any x y _).mono ?_
    rintro e w2 ⟨rfl, rfl⟩
    by_cases h1 : x < y
    ·rw [if_pos h1] at HC
     rw [show Lib.compareInt x y = -1 from if_pos h1]
     clear h1
     go_wp2
     go_ret
     exact ⟨ret_int HC.out.symm, rfl⟩
    rw [if_neg h1] at HC
    by_cases h2 : y < x
    ·rw [if_pos h2] at HC
     rw [show Lib.compareInt x y = 1 from (if_neg h1).trans (if_pos h2)]
     clear h1 h2
     go_wp2
     go_ret
     exact ⟨ret_int HC.out.symm, rfl⟩
    rw [if_neg h2] at HC
    rw [show Lib.compareInt x y = 0 from (if_neg h1).trans (if_neg h2)]
    clear h1 h2
    go_wp2
    go_roundw
    case rel => exact ⟨k + 1, by omega, by omega, by go_num, Lib.hid HC.out.symm, trivial⟩
    case measure => simp [intOf]; omega
   have HC := Lib.hid (HK.out.symm.trans (Plain.cmpL_endb hlt (by omega)))
   go_wp2
   go_ret
   exact ⟨ret_int HC.out.symm, rfl⟩
  have HC := Lib.hid (HK.out.symm.trans (Plain.cmpL_enda (by omega)))
  by_cases hlb : k < b.length
  ·rw [if_pos hlb] at HC
   have hab : (a.length : Int) < (b.length : Int) := by omega
   go_wp2
   go_ret
   exact ⟨ret_int HC.out.symm, rfl⟩
  rw [if_neg hlb] at HC
  have hab : ¬ (a.length : Int) < (b.length : Int) := by omega
  go_wp2
  go_ret
  exact ⟨ret_int HC.out.symm, rfl⟩
end Go.Proofs.YtpcgklagmcnhaaaGreat
