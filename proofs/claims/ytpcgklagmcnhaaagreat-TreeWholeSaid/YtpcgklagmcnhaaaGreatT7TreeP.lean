/- Trees of skeletons in plain words: cutting. No program here. -/
import Derived.Test.YtpcgklagmcnhaaaGreatT7Beside
namespace Go.Proofs.YtpcgklagmcnhaaaGreat.Plain
noncomputable def cutF : Nat → List (List Lk) → List Nd → Int → List Nd × Int
 | 0, _, done, last => (done, last)
 | _ + 1, [], done, last => (done, last)
 | f + 1, one :: todo, done, last =>
  match (firstK one).bind fun s => cutK one s.1 s.2.1 s.2.2 (last - 1) with
  | some (side, left) => cutF f (side :: left :: todo) done (last - 1)
  | none => cutF f todo (done ++ [⟨(kindK one).1, one⟩]) last
def cutM (todo : List (List Lk)) : Nat := (todo.map fun l => max 1 (2 * l.length - 5)).sum
noncomputable def cutT (l : List Lk) : List Nd × Int := cutF (2 * l.length + 2) [l] [] 0
theorem cls_row {l : List Lk} {u v : Int} {s : List Int} (h : s ∈ classesK l u v) : ∃ q : Nat → Bool, s = ((List.range l.length).filter q).map fun i : Nat => (i : Int) := by
 unfold classesK St.groups St.gr at h
 obtain ⟨k, -, rfl⟩ := List.mem_map.1 h
 have hall := (clRun_inv u v l l.length).1
 refine ⟨fun i => (clRun u v l l.length).s.hd i == k, ?_⟩
 unfold St.row
 rw [hall, ixs_len]
 refine List.map_congr_left fun i hi => ?_
 have hi2 := List.mem_range.1 (List.mem_filter.1 hi).1
 simp [ixs, List.getD, hi2]
theorem classesR_mem {l : List Lk} {u v : Int} {s : List Int} (h : (classesR l u v).contains s = true) : s ∈ classesK l u v := by
 unfold classesR at h
 split at h
 ·simp at h
 simpa using h
theorem offK_row {l : List Lk} {s : List Int} {q : Nat → Bool} (h : s = ((List.range l.length).filter q).map fun i : Nat => (i : Int)) : offK l s l.length = ((List.range l.length).filter q).map (at0 l) ∧ leftK l s l.length = ((List.range l.length).filter fun i => !q i).map (at0 l) := by
 have hm : ∀ i, i ∈ List.range l.length → (decide ((i : Int) ∈ s)) = q i := fun i hi => by
  rw [h]
  by_cases hq : q i = true
  ·rw [hq, decide_eq_true_iff]
   exact List.mem_map.2 ⟨i, List.mem_filter.2 ⟨hi, hq⟩, rfl⟩
  rw [Bool.not_eq_true] at hq
  rw [hq, decide_eq_false_iff_not]
  intro c
  obtain ⟨j, hj, e⟩ := List.mem_map.1 c
  have e2 : j = i := by omega
  subst e2
  have := (List.mem_filter.1 hj).2
  rw [hq] at this
  cases this
 unfold offK leftK
 exact ⟨congrArg _ (List.filter_congr hm), congrArg _ (List.filter_congr fun i hi => by rw [hm i hi])⟩
theorem filter_two {α : Type} (q : α → Bool) : ∀ l : List α, (l.filter q).length + (l.filter fun x => !q x).length = l.length
 | [] => rfl
 | x :: l => by
  have ih := filter_two q l
  by_cases h : q x = true
  ·simp [h] at ih ⊢; omega
  simp [h] at ih ⊢; omega
theorem cutK_some {l : List Lk} {u v : Int} {s : List Int} {id : Int} {a b : List Lk} (h : cutK l u v s id = some (a, b)) :
  a = offK l s l.length ++ [⟨u, v, id⟩] ∧ b = leftK l s l.length ++ [⟨u, v, id⟩] ∧ id < 0 ∧ (∀ x ∈ l, x.id ≠ id) ∧ s ∈ classesK l u v ∧ 2 ≤ (offK l s l.length).length ∧ 2 ≤ (leftK l s l.length).length ∧ (offK l s l.length).length + (leftK l s l.length).length = l.length := by
 unfold cutK at h
 split at h
 ·rename_i hc
  obtain ⟨h1, h2, h3, h4⟩ := hc
  simp only [Option.some.injEq, Prod.mk.injEq] at h
  obtain ⟨rfl, rfl⟩ := h
  have hs := classesR_mem h1
  obtain ⟨q, hq⟩ := cls_row hs
  obtain ⟨e1, e2⟩ := offK_row hq
  have hl : s.length = ((List.range l.length).filter q).length := by rw [hq, List.length_map]
  have ht := filter_two q (List.range l.length)
  rw [List.length_range] at ht
  simp only [willK, Bool.and_eq_true, decide_eq_true_eq] at h2
  refine ⟨rfl, rfl, h3, fun x hx e => ?_, hs, ?_, ?_, ?_⟩
  ·rw [List.any_eq_false] at h4
   exact h4 x hx (by simp [e])
  ·rw [e1, List.length_map]; omega
  ·rw [e2, List.length_map]; omega
  rw [e1, e2, List.length_map, List.length_map]; omega
 cases h
theorem cutM_cons (l : List Lk) (t : List (List Lk)) : cutM (l :: t) = max 1 (2 * l.length - 5) + cutM t := by simp [cutM]
theorem cutM_pos (l : List Lk) (t : List (List Lk)) : cutM t < cutM (l :: t) := by rw [cutM_cons]; omega
theorem cutM_cut {l a b : List Lk} {t : List (List Lk)} {u v : Int} {s : List Int} {id : Int} (h : cutK l u v s id = some (a, b)) : cutM (a :: b :: t) < cutM (l :: t) ∧ a.length ≤ l.length ∧ b.length ≤ l.length ∧ 3 ≤ a.length ∧ 3 ≤ b.length := by
 obtain ⟨rfl, rfl, -, -, -, h1, h2, h3⟩ := cutK_some h
 rw [cutM_cons, cutM_cons, cutM_cons]
 simp only [List.length_append, List.length_cons, List.length_nil]
 omega
noncomputable def cutN (l : List Lk) (last : Int) : Option (List Lk × List Lk) := (firstK l).bind fun s => cutK l s.1 s.2.1 s.2.2 (last - 1)
theorem cutF_cut {f : Nat} {l a b : List Lk} {t : List (List Lk)} {done : List Nd} {last : Int} (h : cutN l last = some (a, b)) : cutF (f + 1) (l :: t) done last = cutF f (a :: b :: t) done (last - 1) := by
 show (match cutN l last with | some (side, left) => cutF f (side :: left :: t) done (last - 1) | none => cutF f t (done ++ [(⟨(kindK l).1, l⟩ : Nd)]) last) = _
 rw [h]
theorem cutF_done {f : Nat} {l : List Lk} {t : List (List Lk)} {done : List Nd} {last : Int} (h : cutN l last = none) : cutF (f + 1) (l :: t) done last = cutF f t (done ++ [⟨(kindK l).1, l⟩]) last := by
 show (match cutN l last with | some (side, left) => cutF f (side :: left :: t) done (last - 1) | none => cutF f t (done ++ [(⟨(kindK l).1, l⟩ : Nd)]) last) = _
 rw [h]
theorem cutN_some {l a b : List Lk} {last : Int} (h : cutN l last = some (a, b)) : ∃ u v s, firstK l = some (u, v, s) ∧ cutK l u v s (last - 1) = some (a, b) := by
 unfold cutN at h
 cases hf : firstK l with
 | none => rw [hf] at h; cases h
 | some s => rw [hf] at h; exact ⟨_, _, _, rfl, h⟩
end Go.Proofs.YtpcgklagmcnhaaaGreat.Plain
namespace Go.Proofs.YtpcgklagmcnhaaaGreat
open Go.RowKit Go.Maps
namespace Plain
theorem fs_at {α β : Type} {f : α → Option β} {d : α} {b : β} : ∀ {l : List α} {k : Nat}, k < l.length → (∀ i, i < k → f (l.getD i d) = none) → f (l.getD k d) = some b → l.findSome? f = some b
 | [], k, hk, _, _ => by simp at hk
 | x :: l, 0, _, _, h => by
  have h2 : f x = some b := h
  rw [List.findSome?_cons, h2]
 | x :: l, k + 1, hk, hb, h => by
  have h1 : f x = none := hb 0 (by omega)
  rw [List.findSome?_cons, h1]
  exact fs_at (k := k) (by simpa using hk) (fun i hi => hb (i + 1) (by omega)) h
theorem fs_no {α β : Type} {f : α → Option β} {d : α} : ∀ {l : List α}, (∀ i, i < l.length → f (l.getD i d) = none) → l.findSome? f = none
 | [], _ => rfl
 | x :: l, hb => by
  have h1 : f x = none := hb 0 (by simp)
  rw [List.findSome?_cons, h1]
  exact fs_no (d := d) fun i hi => hb (i + 1) (by simpa using hi)
theorem fc_at {l : List Lk} {u v : Int} {k : Nat} {C : List (List Int)} (hC : classesK l u v = C) (hk : k < C.length) (hb : ∀ i, i < k → willK l.length (C.getD i []).length = false) (h : willK l.length (C.getD k []).length = true) : firstC l u v = some (u, v, C.getD k []) := by
 have h1 : ∀ {D : List (List Int)} {k : Nat}, k < D.length → (∀ i, i < k → willK l.length (D.getD i []).length = false) → willK l.length (D.getD k []).length = true → D.find? (fun c => willK l.length c.length) = some (D.getD k []) := by
  intro D
  induction D with
  | nil => intro k hk; simp at hk
  | cons x D ih =>
   intro k hk hb h
   cases k with
   | zero =>
    have h2 : willK l.length x.length = true := h
    rw [List.find?_cons, h2]; rfl
   | succ k =>
    have h2 : willK l.length x.length = false := hb 0 (by omega)
    rw [List.find?_cons, h2]
    exact ih (by simpa using hk) (fun i hi => hb (i + 1) (by omega)) h
 unfold firstC
 rw [hC, h1 hk hb h]
 rfl
theorem fc_no {l : List Lk} {u v : Int} {C : List (List Int)} (hC : classesK l u v = C) (hb : ∀ i, i < C.length → willK l.length (C.getD i []).length = false) : firstC l u v = none := by
 unfold firstC
 rw [hC, List.find?_eq_none.2 fun c hc => by
  obtain ⟨i, hi, rfl⟩ := List.getElem_of_mem hc
  have := hb i hi
  simp [List.getD, hi] at this
  simp [this]]
 rfl
theorem first_no {l : List Lk} (h : ¬ (rightK l = true ∧ ringsK l = false)) : firstK l = none := if_neg h
theorem first_yes {l : List Lk} (h1 : rightK l = true) (h2 : ringsK l = false) : firstK l = (ptK l).v.findSome? fun u => firstV l u := if_pos ⟨h1, h2⟩
theorem ptK_v (l : List Lk) (u : Int) : u ∈ (ptK l).v ↔ ∃ i, i < l.length ∧ (u = (at0 l i).a ∨ u = (at0 l i).b) := by
 have h : u ∈ (ptK l).v ↔ u ∈ endsL (grK l) (ixs l.length) := (tidy_ok _).2 u
 rw [h]
 unfold endsL
 rw [List.mem_flatMap]
 constructor
 ·rintro ⟨e, he, hu⟩
  obtain ⟨h0, h1⟩ := mem_ixs.1 he
  have hi : e.toNat < l.length := by omega
  refine ⟨e.toNat, hi, ?_⟩
  have : (grK l).at e = ((at0 l e.toNat).a, (at0 l e.toNat).b) := grK_ends hi
  rw [this] at hu
  simpa using hu
 rintro ⟨i, hi, hu⟩
 refine ⟨(i : Int), mem_ixs.2 ⟨by omega, by omega⟩, ?_⟩
 have : (grK l).at (i : Int) = ((at0 l i).a, (at0 l i).b) := grK_ends hi
 rw [this]
 simpa using hu
theorem whole_ok {l : List Lk} (h : wholeB l = true) : okL l l.length ∧ spanErr (grK l) (ixs l.length) = 0 := by
 unfold wholeB at h
 rw [Bool.and_eq_true] at h
 exact ⟨fun j hj => List.all_eq_true.1 h.1 j (List.mem_range.2 hj), by simpa using h.2⟩
theorem rest_ne {l : List Lk} (h : wholeB l = true) {u : Int} (hu : u ∈ (ptK l).v) : (restU (grK l) (ptK l) u).v ≠ [] := by
 obtain ⟨i, hi, hu2⟩ := (ptK_v l u).1 hu
 have hok := okK_iff.1 ((whole_ok h).1 i hi)
 have key : ∀ y, y ∈ (ptK l).v → y ≠ u → (restU (grK l) (ptK l) u).v ≠ [] := fun y hy hne e => by
  have : y ∈ (restU (grK l) (ptK l) u).v := List.mem_filter.2 ⟨hy, by simpa using hne⟩
  rw [e] at this
  cases this
 rcases hu2 with rfl | rfl
 ·exact key _ ((ptK_v l _).2 ⟨i, hi, Or.inr rfl⟩) (Ne.symm hok.2.2.2.1)
 exact key _ ((ptK_v l _).2 ⟨i, hi, Or.inl rfl⟩) hok.2.2.2.1
end Plain
theorem RowsOwn.cell9 {w : World} {B : Nat} {ov : Value} {vs : List Value} {ll : List (List Int)} (h : RowsOwn w B ov vs ll) {k : Nat} (hk : k < ll.length) (hi : ∀ l ∈ ll, (∀ x ∈ l, I64 x) ∧ l.length < 4294967296) : ∃ g c uo uc, ov = .slice (some ⟨g, 0, none⟩) ll.length c ∧ w.cell? ⟨g, k, none⟩ = some (.slice uo (ll.getD k []).length uc) ∧ RowAt w B (.slice uo (ll.getD k []).length uc) (ll.getD k []) := by
 have hl := h.len
 obtain ⟨g, c, e⟩ := owns_some h.out (by omega)
 obtain ⟨uo, uc, e2⟩ := owns_shape (h.rows k (by omega))
 have hr := h.rows k (by omega)
 have hm : ll.getD k [] ∈ ll := by simp [List.getD, hk]
 have h1 := h.out.cells (g := g) (by rw [e]; rfl) k (vs.getD k undef) (by simp [List.getD, show k < vs.length by omega])
 have hadd : (⟨g, 0, none⟩ : Addr).add k = ⟨g, k, none⟩ := by unfold Addr.add; split <;> simp_all
 rw [hadd, e2] at h1
 rw [e2] at hr
 exact ⟨g, c, uo, uc, by rw [e, hl], h1, hr, (hi _ hm).1, (hi _ hm).2⟩
set_option maxRecDepth 100000 in
set_option maxHeartbeats 16000000 in
theorem pfirst_any (v : Value) (l : List Plain.Lk) (w : World) (hl : l.length ≤ 40000) (h : LksAt w v l) :
  Calls Tryz.prog 45 #[v] w fun e w' => ∃ u x so sn sc, e = .returned (.tuple #[.agg #[.int .i64 u, .int .i64 x, .slice so sn sc], .bool (Plain.firstK l).isSome]) ∧
   (∀ s, Plain.firstK l = some s → u = s.1 ∧ x = s.2.1 ∧ I64 u ∧ I64 x ∧ IntsAt w' (.slice so sn sc) s.2.2) ∧ Chg [] w w' := by
 have H := Lib.hid h
 have HPV := Lib.hid (Plain.ptK_small l)
 obtain ⟨lo, cap, rfl, -⟩ := h
 have HR0 := Lib.hid (heap_alloc_new w (.cells #[.int .i64 0, .int .i64 0, .slice none 0 0] 92))
 have HC0 := Lib.hid ((Chg.refl [] w).alloc (.cells #[.int .i64 0, .int .i64 0, .slice none 0 0] 92))
 go_enter Tryz.func45, Tryz.ntmps45
 go_wp2_with fail
 generalize w.alloc (.cells #[.int .i64 0, .int .i64 0, .slice none 0 0] 92) = w1 at *
 refine (pwhole_any _ l _ (by omega) (H.out.fresh HC0.out)).mono ?_
 rintro e w2 ⟨n, so, sn, sc, v1, v2, rfl, ⟨a1, n1, c1, rfl⟩, ⟨a2, n2, c2, rfl⟩, hgp, hc2⟩
 have HC2 := Lib.hid hc2
 have HR2 := Lib.hid (hc2.hp HR0.out)
 have HC3 := Lib.hid (((Chg.refl [] w2).alloc (.cells #[.int .i64 n, .slice so sn sc] 41)).alloc (.cells #[.slice a1 n1 c1, .slice a2 n2 c2] 43))
 have HBX := Lib.hid (show ∀ wx, Chg [] ((w2.alloc (.cells #[.int .i64 n, .slice so sn sc] 41)).alloc (.cells #[.slice a1 n1 c1, .slice a2 n2 c2] 43)) wx → wx.cell? ⟨w2.heap.size, 0, none⟩ = some (.int .i64 n) ∧ wx.cell? ⟨w2.heap.size, 1, none⟩ = some (.slice so sn sc) ∧ wx.cell? ⟨w2.heap.size + 1, 0, none⟩ = some (.slice a1 n1 c1) ∧ wx.cell? ⟨w2.heap.size + 1, 1, none⟩ = some (.slice a2 n2 c2) from fun wx hx => by
  have b0 := hx.hp (((Chg.refl [] _).alloc (.cells #[.slice a1 n1 c1, .slice a2 n2 c2] 43)).hp (heap_alloc_new w2 (.cells #[.int .i64 n, .slice so sn sc] 41)))
  have b1 := heap_alloc_new (w2.alloc (.cells #[.int .i64 n, .slice so sn sc] 41)) (.cells #[.slice a1 n1 c1, .slice a2 n2 c2] 43)
  rw [show (w2.alloc (.cells #[.int .i64 n, .slice so sn sc] 41)).heap.size = w2.heap.size + 1 by simp] at b1
  have b1 := hx.hp b1
  exact ⟨(cell_of_row _ _ 0 _ _ _ b0).trans rfl, (cell_of_row _ _ 1 _ _ _ b0).trans rfl, (cell_of_row _ _ 0 _ _ _ b1).trans rfl, (cell_of_row _ _ 1 _ _ _ b1).trans rfl⟩)
 clear hc2
 -- the answer where there is none
 have HNO := Lib.hid (show ∀ wx : World, Chg [] w2 wx → ∀ w', w' = ((wx.setCell ⟨w.heap.size, 0, none⟩ (.int .i64 0)).setCell ⟨w.heap.size, 1, none⟩ (.int .i64 0)).setCell ⟨w.heap.size, 2, none⟩ (.slice none 0 0) → w'.cell? ⟨w.heap.size, 0, none⟩ = some (.int .i64 0) ∧ w'.cell? ⟨w.heap.size, 1, none⟩ = some (.int .i64 0) ∧ w'.cell? ⟨w.heap.size, 2, none⟩ = some (.slice none 0 0) ∧ Chg [] w w' from fun wx hx w' hw => by
  obtain ⟨-, s0, s1, s2, sc⟩ := store3 (.int .i64 0) (.int .i64 0) (.slice none 0 0) (hx.hp HR2.out) w' hw
  exact ⟨s0, s1, s2, (HC0.out.tr (HC2.out.tr hx)).trans sc (fun j hj => Or.inr (by simp at hj; omega))⟩)
 have HSP := Lib.hid (show ∀ wx : World, Chg [] w2 wx → wx.cell? ⟨w.heap.size, 0, none⟩ = some (.int .i64 0) ∧ wx.cell? ⟨w.heap.size, 1, none⟩ = some (.int .i64 0) ∧ wx.cell? ⟨w.heap.size, 2, none⟩ = some (.slice none 0 0) ∧ wx.frozen? ⟨w.heap.size, 0, none⟩ = false ∧ wx.frozen? ⟨w.heap.size, 1, none⟩ = false ∧ wx.frozen? ⟨w.heap.size, 2, none⟩ = false from fun wx hx => by
  have hh := hx.hp HR2.out
  exact ⟨(cell_of_row _ _ 0 _ _ _ hh).trans rfl, (cell_of_row _ _ 1 _ _ _ hh).trans rfl, (cell_of_row _ _ 2 _ _ _ hh).trans rfl, free_at hh 0, free_at hh 1, free_at hh 2⟩)
 by_cases hw : Plain.wholeB l = true
 ·obtain ⟨hg, hp⟩ := hgp hw
  have HWB := Lib.hid hw
  have HG := Lib.hid hg
  have HP := Lib.hid hp
  rw [hw]
  clear hg hp hgp hw
  go_wp2_with fail
  refine (bsolid_any _ _ (Plain.grK l) (Plain.ptK l) _ (by have := HPV.out; omega) (HG.out.fresh HC3.out) (HP.out.fresh HC3.out)).mono ?_
  rintro e w3 ⟨rfl, hc3⟩
  have HC4 := Lib.hid (HC3.out.tr hc3)
  have HD4 := Lib.hid hc3
  have HRK := Lib.hid (show Plain.rightK l = Plain.solidB (Plain.grK l) (Plain.ptK l) by unfold Plain.rightK; rw [HWB.out, Bool.true_and])
  clear hc3
  by_cases hs : Plain.solidB (Plain.grK l) (Plain.ptK l) = true
  ·rw [hs] at HRK ⊢
   have HPE := Lib.hid (Plain.solidB_iff.1 hs).1
   clear hs
   go_wp2_with fail
   refine (rings_any _ l _ (by omega) (H.out.fresh (HC0.out.tr (HC2.out.tr HC4.out)))).mono ?_
   rintro e w4 ⟨rfl, hc4⟩
   have HC5 := Lib.hid (HC4.out.tr hc4)
   have HD5 := Lib.hid (HD4.out.tr hc4)
   clear hc4
   by_cases hr : Plain.ringsK l = true
   ·have HF := Lib.hid (Plain.first_no (l := l) (by rw [hr]; simp))
    rw [hr]
    obtain ⟨s0, s1, s2, f0, f1, f2⟩ := HSP.out _ HC5.out
    clear hr
    go_wp2
    obtain ⟨t0, t1, t2, tc⟩ := HNO.out _ HC5.out _ rfl
    refine bodyPost_ret (v := .tuple #[.agg #[.int .i64 0, .int .i64 0, .slice none 0 0], .bool false]) (by simp [results, Tryz.results45, go_sem, t0, t1, t2]) rfl ?_
    exact ⟨0, 0, none, 0, 0, by rw [HF.out]; rfl, fun s hs => by rw [HF.out] at hs; (cases hs), tc⟩
   rw [Bool.not_eq_true] at hr
   have HF := Lib.hid (Plain.first_yes HRK.out hr)
   rw [hr]
   clear hr
   obtain ⟨g0, g1, p0, p1⟩ := HBX.out _ HD5.out
   have HPW := Lib.hid (HP.out.fresh HC5.out)
   have HGW := Lib.hid (HG.out.fresh HC5.out)
   have HLW := Lib.hid (H.out.fresh (HC0.out.tr (HC2.out.tr HC5.out)))
   have HWW := Lib.hid (HC0.out.tr (HC2.out.tr HC5.out))
   obtain ⟨q1, q2, eq, hq1, hq2⟩ := HPW.out
   simp only [Value.agg.injEq, Array.mk.injEq, List.cons.injEq, and_true] at eq
   obtain ⟨rfl, rfl⟩ := eq
   have HPV1 := Lib.hid hq1
   have HRN := Lib.hid (fun u (hu : u ∈ (Plain.ptK l).v) => Plain.rest_ne HWB.out hu)
   obtain ⟨V, hV⟩ : ∃ V, (Plain.ptK l).v = V := ⟨_, rfl⟩
   rw [hV] at HPV1 HF HRN HPV
   have hn1 : n1 = V.length := by
    obtain ⟨_, _, e, -⟩ := HPV1.out
    simp only [Value.slice.injEq] at e
    exact e.2.1
   subst hn1
   have hVl : V.length ≤ 80000 := by have := HPV.out; omega
   have HSX := Lib.hid (show ∀ wx, Chg [] w4 wx → _ from fun wx hx => HSP.out wx (HC5.out.tr hx))
   have HR4 := Lib.hid (HC5.out.hp HR2.out)
   clear hq1 hq2 hV HSP HNO HBX HD4 HD5
   generalize hB2 : w2.heap.size = b2 at *
   go_wp2_with fail
   go_loopw [35] (fun iv wr => ∃ k : Nat, k ≤ V.length ∧ iv = .int .i64 k ∧ (∀ i, i < k → Plain.firstV l (V.getD i 0) = none) ∧ Chg [] w4 wr) (fun iv _ => V.length - (intOf iv).toNat)
   case atStart => exact ⟨0, Nat.zero_le _, rfl, fun i hi => by omega, Chg.refl _ _⟩
   case round =>
    obtain ⟨k, hk, rfl, hno, hc⟩ := hrel
    have HN := Lib.hid hno
    have HC := Lib.hid hc
    clear hno hc
    by_cases hlt : k < V.length
    ·obtain ⟨rb, roff, rfl, rc⟩ := IntsAt.cellAt HPV1.out hlt
     have ck := HC.out.cel rc
     have IU : I64 (V.getD k 0) := by
      obtain ⟨_, _, e, h1, -⟩ := HPV1.out
      exact h1 _ (Plain.getD_mem hlt)
     have HRU := Lib.hid (HRN.out _ (Plain.getD_mem hlt))
     have HFA := Lib.hid (fun s => Plain.fs_at (f := fun u => Plain.firstV l u) (b := s) hlt HN.out)
     have g0 := HC.out.cel g0
     have g1 := HC.out.cel g1
     have p0 := HC.out.cel p0
     have p1 := HC.out.cel p1
     have HNS := Lib.hid (show Plain.firstV l (V.getD k 0) = none → ∀ i, i < k + 1 → Plain.firstV l (V.getD i 0) = none from fun h i hi => by
      rcases Nat.lt_succ_iff_lt_or_eq.1 hi with q | rfl
      ·exact HN.out i q
      exact h)
     have HFV := Lib.hid (show Plain.firstV l (V.getD k 0) = (Plain.besideK (Plain.grK l) (Plain.ptK l) (V.getD k 0)).findSome? fun x => Plain.firstC l (V.getD k 0) x from rfl)
     obtain ⟨u, hu⟩ : ∃ u, V.getD k 0 = u := ⟨_, rfl⟩
     rw [hu] at ck IU HRU HFA HNS HFV
     clear rc hu
     go_wp2_with fail
     refine (beside_any _ _ (Plain.grK l) (Plain.ptK l) u _ IU HPE.out HRU.out (HGW.out.fresh HC.out) (HPW.out.fresh HC.out)).mono ?_
     rintro e w5 ⟨bv, rfl, hrb, hc5⟩
     obtain ⟨bo, bc, rfl⟩ := hrb.shape
     obtain ⟨L, hL⟩ : ∃ L, Plain.besideK (Plain.grK l) (Plain.ptK l) u = L := ⟨_, rfl⟩
     rw [hL] at hrb HFV ⊢
     have HRB := Lib.hid hrb.ints
     have HLL := hrb.2.2
     have HC5' := Lib.hid (HC.out.tr hc5)
     clear hrb hc5 hL
     go_wp2_with fail
     go_loopw [44] (fun iv wx => ∃ j : Nat, j ≤ L.length ∧ iv = .int .i64 j ∧ (∀ i, i < j → Plain.firstC l u (L.getD i 0) = none) ∧ Chg [] w4 wx ∧ Chg [] w5 wx) (fun iv _ => L.length - (intOf iv).toNat)
     case atStart => exact ⟨0, Nat.zero_le _, rfl, fun i hi => by omega, HC5'.out, Chg.refl _ _⟩
     case round =>
      obtain ⟨j, hj, rfl, hno2, hc6, hc7⟩ := hrel
      have HN2 := Lib.hid hno2
      have HC6 := Lib.hid hc6
      have HC7 := Lib.hid hc7
      clear hno2 hc6 hc7
      by_cases hjl : j < L.length
      ·obtain ⟨sb, soff, rfl, rc⟩ := IntsAt.cellAt HRB.out hjl
       have cj := HC7.out.cel rc
       have IX : I64 (L.getD j 0) := by
        obtain ⟨_, _, e, h1, -⟩ := HRB.out
        exact h1 _ (Plain.getD_mem hjl)
       have HFB := Lib.hid (fun s => Plain.fs_at (f := fun x => Plain.firstC l u x) (b := s) hjl HN2.out)
       have HNS2 := Lib.hid (show Plain.firstC l u (L.getD j 0) = none → ∀ i, i < j + 1 → Plain.firstC l u (L.getD i 0) = none from fun h i hi => by
        rcases Nat.lt_succ_iff_lt_or_eq.1 hi with q | rfl
        ·exact HN2.out i q
        exact h)
       obtain ⟨x, hx⟩ : ∃ x, L.getD j 0 = x := ⟨_, rfl⟩
       rw [hx] at cj IX HFB HNS2
       clear rc hx
       go_wp2_with fail
       refine (pclasses_any _ l u x _ (by omega) IU IX (HLW.out.fresh HC6.out)).mono ?_
       rintro e w8 ⟨cv, vs, rfl, hro, hc8⟩
       obtain ⟨C, hC⟩ : ∃ C, Plain.classesK l u x = C := ⟨_, rfl⟩
       have HCA := Lib.hid (fun k => Plain.fc_at (l := l) (k := k) hC)
       have HCN := Lib.hid (Plain.fc_no (l := l) hC)
       have HCR := Lib.hid (show ∀ c ∈ C, (∀ y ∈ c, I64 y) ∧ c.length ≤ 1000000 from fun c hcm => by
        rw [← hC] at hcm
        obtain ⟨q, rfl⟩ := Plain.cls_row hcm
        refine ⟨fun y hy => ?_, ?_⟩
        ·obtain ⟨i, hi, rfl⟩ := List.mem_map.1 hy
         have := List.mem_range.1 (List.mem_filter.1 hi).1
         exact I64.mk (by omega) (by omega)
        have h1 := List.length_filter_le q (List.range l.length)
        rw [List.length_range] at h1
        rw [List.length_map]
        omega)
       rw [hC] at hro
       have HRA := Lib.hid hro
       have hcl : C.length ≤ 9223372036854775807 := by
        have h1 := hro.len
        rcases hro.out.2 with ⟨-, h0⟩ | ⟨_, cap', _, _, _, _, h3, h4, _⟩
        ·omega
        unfold maxLen at h4; omega
       have HWS := Lib.hid (show w.heap.size < wr.heap.size from Nat.lt_of_lt_of_le (lt_of_block HR4.out) HC6.out.size)
       have HC9 := Lib.hid (HC6.out.tr hc8)
       have HC8 := Lib.hid (HC7.out.tr hc8)
       clear hro hc8 hC
       obtain ⟨tno, tc, rfl⟩ := owns_shape HRA.out.out
       have HLV := Lib.hid HRA.out.len
       rw [HLV.out] at HRA ⊢
       go_wp2_with fail
       go_loopw [53] (fun iv wx => ∃ i : Nat, i ≤ C.length ∧ iv = .int .i64 i ∧ (∀ j, j < i → Plain.willK l.length (C.getD j []).length = false) ∧ Chg [] w4 wx ∧ Chg [] w5 wx ∧ Chg [] w8 wx) (fun iv _ => C.length - (intOf iv).toNat)
       case atStart => exact ⟨0, Nat.zero_le _, rfl, fun i hi => by omega, HC9.out, HC8.out, Chg.refl _ _⟩
       case round =>
        obtain ⟨i, hi, rfl, hno3, hd4, hd5, hd8⟩ := hrel
        have HN3 := Lib.hid hno3
        have HD4 := Lib.hid hd4
        have HD5 := Lib.hid hd5
        have HD8 := Lib.hid hd8
        clear hno3 hd4 hd5 hd8
        by_cases hil : i < C.length
        ·obtain ⟨tb, tcc, uo, uc, et, rc, rr⟩ := HRA.out.cell9 hil (fun c hcm => ⟨(HCR.out c hcm).1, by have := (HCR.out c hcm).2; omega⟩)
         simp only [Value.slice.injEq] at et
         obtain ⟨rfl, -, rfl⟩ := et
         have ci := HD8.out.cel rc
         have HRI := Lib.hid (show RowAt wr _ _ _ from rr.chg HD8.out (by simp))
         have hcm := (HCR.out (C.getD i []) (by simp [List.getD, hil])).2
         have HA3 := Lib.hid (fun h => HFA.out _ (HFV.out.trans (HFB.out _ (HCA.out i hil HN3.out h))))
         have HNS3 := Lib.hid (show Plain.willK l.length (C.getD i []).length = false → ∀ j, j < i + 1 → Plain.willK l.length (C.getD j []).length = false from fun h j hj => by
          rcases Nat.lt_succ_iff_lt_or_eq.1 hj with q | rfl
          ·exact HN3.out j q
          exact h)
         obtain ⟨s0, s1, s2, f0, f1, f2⟩ := HSX.out _ HD4.out
         have HB4 := Lib.hid (HD4.out.hp HR4.out)
         obtain ⟨c, hc⟩ : ∃ c, C.getD i [] = c := ⟨_, rfl⟩
         rw [hc] at ci HRI hcm HA3 HNS3
         clear rc rr hc
         go_wp2_with fail
         refine (will_any _ l c.length _ (by omega) (by omega) (HLW.out.fresh HD4.out)).mono ?_
         rintro e w9 ⟨rfl, rfl⟩
         obtain ⟨wk, hwk⟩ : ∃ wk, Plain.willK l.length c.length = wk := ⟨_, rfl⟩
         rw [hwk] at HA3 HNS3 ⊢
         clear hwk
         cases wk
         ·go_wp2
          go_roundw
          case rel => exact ⟨i + 1, by omega, by go_num, HNS3.out trivial, HD4.out, HD5.out, HD8.out⟩
          case measure => simp [intOf]; omega
         have HFF := Lib.hid (HF.out.trans (HA3.out rfl))
         go_wp2
         obtain ⟨-, t0, t1, t2, tc⟩ := store3 (.int .i64 u) (.int .i64 x) (.slice uo c.length uc) HB4.out _ rfl
         refine bodyPost_ret (v := .tuple #[.agg #[.int .i64 u, .int .i64 x, .slice uo c.length uc], .bool true]) (by simp [results, Tryz.results45, go_sem, t0, t1, t2]) rfl ?_
         have hbw := lt_of_block HR0.out
         refine ⟨u, x, uo, _, uc, by rw [HFF.out]; rfl, fun s hs => ?_, (HWW.out.tr HD4.out).trans tc (fun j hj => Or.inr (by simp at hj; omega))⟩
         rw [HFF.out] at hs
         cases hs
         exact ⟨rfl, rfl, IU, IX, (HRI.out.chg tc (fun b hb e => by have h1 := (HRI.out.low b hb).1; have := HWS.out; simp at e; omega)).ints⟩
        have e : i = C.length := by omega
        subst e
        have HN4 := Lib.hid (HCN.out HN3.out)
        clear hil hi
        go_wp2
        go_roundw
        case rel => exact ⟨j + 1, by omega, by go_num, HNS2.out HN4.out, HD4.out, HD5.out⟩
        case measure => simp [intOf]; omega
      have e : j = L.length := by omega
      subst e
      have HN4 := Lib.hid (HFV.out.trans (Plain.fs_no HN2.out))
      clear hjl hj
      go_wp2
      go_roundw
      case rel => exact ⟨k + 1, by omega, by go_num, HNS.out HN4.out, HC6.out⟩
      case measure => simp [intOf]; omega
    have e : k = V.length := by omega
    subst e
    have HFF := Lib.hid (HF.out.trans (Plain.fs_no HN.out))
    obtain ⟨s0, s1, s2, f0, f1, f2⟩ := HSX.out _ HC.out
    have HB4 := Lib.hid (HC.out.hp HR4.out)
    clear hlt hk
    go_wp2
    obtain ⟨-, t0, t1, t2, tc⟩ := store3 (.int .i64 0) (.int .i64 0) (.slice none 0 0) HB4.out _ rfl
    refine bodyPost_ret (v := .tuple #[.agg #[.int .i64 0, .int .i64 0, .slice none 0 0], .bool false]) (by simp [results, Tryz.results45, go_sem, t0, t1, t2]) rfl ?_
    exact ⟨0, 0, none, 0, 0, by rw [HFF.out]; rfl, fun s hs => by rw [HFF.out] at hs; (cases hs), (HWW.out.tr HC.out).trans tc (fun j hj => Or.inr (by simp at hj; omega))⟩
  rw [Bool.not_eq_true] at hs
  have HF := Lib.hid (Plain.first_no (l := l) (by rw [HRK.out, hs]; simp))
  rw [hs]
  obtain ⟨s0, s1, s2, f0, f1, f2⟩ := HSP.out _ HC4.out
  clear hs
  go_wp2
  obtain ⟨t0, t1, t2, tc⟩ := HNO.out _ HC4.out _ rfl
  refine bodyPost_ret (v := .tuple #[.agg #[.int .i64 0, .int .i64 0, .slice none 0 0], .bool false]) (by simp [results, Tryz.results45, go_sem, t0, t1, t2]) rfl ?_
  exact ⟨0, 0, none, 0, 0, by rw [HF.out]; rfl, fun s hs => by rw [HF.out] at hs; (cases hs), tc⟩
 rw [Bool.not_eq_true] at hw
 have HF := Lib.hid (Plain.first_no (l := l) (by unfold Plain.rightK; rw [hw]; simp))
 rw [hw]
 obtain ⟨s0, s1, s2, f0, f1, f2⟩ := HSP.out _ HC3.out
 clear hw hgp
 go_wp2
 obtain ⟨t0, t1, t2, tc⟩ := HNO.out _ HC3.out _ rfl
 refine bodyPost_ret (v := .tuple #[.agg #[.int .i64 0, .int .i64 0, .slice none 0 0], .bool false]) (by simp [results, Tryz.results45, go_sem, t0, t1, t2]) rfl ?_
 exact ⟨0, 0, none, 0, 0, by rw [HF.out]; rfl, fun s hs => by rw [HF.out] at hs; (cases hs), tc⟩
theorem oneInts3' (x y z : Int) : ∀ u ∈ (#[Value.int .i64 x, .int .i64 y, .int .i64 z]).toList, u.oneCell' = true := by intro u hu; simp at hu; rcases hu with rfl | rfl | rfl <;> rfl
theorem op_litL {o : Oper} {a : Act} {K : Act → World → Prop} {Q : Exit → Act → World → Prop} {w : World} (x : Operand) (ho : o.op = .buildSlice 24 1 #[(0, x)]) {L : Plain.Lk} (hx : a.eval x = .agg #[.int .i64 L.a, .int .i64 L.b, .int .i64 L.id]) (hi : I64 L.a ∧ I64 L.b ∧ I64 L.id)
  (hK : ∀ v w', LkRow w' 0 v [L] → Chg [] w w' → (∀ b ∈ foot v, w.heap.size ≤ b) → K (a.put o.dst v) w') : o.wp Tryz.prog a w K Q := by
 have h := hK (.slice (some ⟨w.heap.size, 0, none⟩) 1 1) (w.alloc (.cells #[.int .i64 L.a, .int .i64 L.b, .int .i64 L.id] 50)) ⟨World.ownsRow_lit w #[.int .i64 L.a, .int .i64 L.b, .int .i64 L.id] 1 (Nat.zero_le _) (by decide) rfl, by simpa using hi, by simp⟩ ((Chg.refl _ _).alloc _) (by simp [foot, Value.ownBlock])
 unfold Oper.wp execOp
 simp only [ho, List.map_toArray, List.map_cons, List.map_nil, hx]
 clear hK hx
 go_simp
 exact h
theorem op_catL {o : Oper} {a : Act} {K : Act → World → Prop} {Q : Exit → Act → World → Prop} {w : World} (s x : Operand) (ho : o.op = .call { callee := .builtin .append, args := #[s, x], argTypes := #[24, 24] })
  {v u : Value} {l m : List Plain.Lk} (hs : a.eval s = v) (hx : a.eval x = u) (h1 : LkRow w 0 v l) (h2 : LkRow w 0 u m) (hn : l.length + m.length < 4294967296)
  (hK : ∀ v' w', LkRow w' 0 v' (l ++ m) → Chg (foot v) w w' → (∀ b ∈ foot v', b ∈ foot v ∨ w.heap.size ≤ b) → K (a.put o.dst v') w') : o.wp Tryz.prog a w K Q :=
 wp_spread elemLink s x ho hs hx h1.1 h2.1 (Nat.zero_le _) (lkCells_one _) (by omega) fun v' w' r1 r2 r3 => by
  have hr : LkRow w' 0 v' (l ++ m) := ⟨by rw [List.length_append, lkCells_app]; exact r1, fun y hy => (List.mem_append.1 hy).elim (h1.2.1 y) (h2.2.1 y), by rw [List.length_append]; exact hn⟩
  exact hK v' w' hr (by rw [h1.foot]; exact r2) (fun b hb => by rw [h1.foot]; exact r3 b (by rw [← hr.foot]; exact hb))
theorem wl_lk {ops : Array Oper} {rest : List Oper} {o : Oper} {a : Act} {Q : Exit → Act → World → Prop} {w w0 : World} (hg : o.guard = none) (s x : Operand) (ho : o.op = .call { callee := .builtin .append, args := #[s, x], argTypes := #[24, 24] })
  {B : Nat} {v : Value} {l : List Plain.Lk} (L : Plain.Lk) (hs : a.eval s = v) (hx : a.eval x = .slice (some ⟨w0.heap.size, 0, none⟩) 1 1) (h : LkRow w0 B v l) (hi : I64 L.a ∧ I64 L.b ∧ I64 L.id) (hB : B ≤ w0.heap.size) (hn : l.length < 4294967290) (hw : w = w0.alloc (.cells #[.int .i64 L.a, .int .i64 L.b, .int .i64 L.id] 50))
  (hK : ∀ v' w', LkRow w' B v' (l ++ [L]) → Chg (foot v) w0 w' → (∀ b ∈ foot v', b ∈ foot v ∨ w0.heap.size ≤ b) → wpList Tryz.prog ops Q rest (a.put o.dst v') w') : wpList Tryz.prog ops Q (o :: rest) a w := by
 subst hw
 have hc := (Chg.refl [] w0).alloc (.cells #[.int .i64 L.a, .int .i64 L.b, .int .i64 L.id] 50)
 have h' := h.fresh hc
 refine wl_spread elemLink hg s x ho hs hx h'.1 (B' := w0.heap.size) (World.ownsRow_lit w0 #[.int .i64 L.a, .int .i64 L.b, .int .i64 L.id] 1 (Nat.le_refl _) (by decide) rfl) (Nat.le_trans hB hc.size) (oneInts3' L.a L.b L.id) (by omega) fun v' w' r1 r2 r3 => ?_
 have hr : LkRow w' B v' (l ++ [L]) := ⟨by rw [List.length_append, lkCells_app]; exact r1, fun y hy => (List.mem_append.1 hy).elim (h.2.1 y) (fun q => by rw [List.mem_singleton.1 q]; exact hi), by rw [List.length_append]; simp; omega⟩
 exact hK v' w' hr (by rw [h.foot]; exact (hc.mono (by simp)).trans r2 fun j hj => Or.inl hj) (fun b hb => by
  rw [h.foot]
  exact (r3 b (by rw [← hr.foot]; exact hb)).imp id fun q => Nat.le_trans hc.size q)
def Lv (N : Nat) (w : World) (v : Value) (l : List Plain.Lk) (X : List Nat) : Prop := LkRow w 0 v l ∧ ∀ b ∈ foot v, b ∈ X ∨ N ≤ b
theorem Lv.step {N : Nat} {w w' : World} {v : Value} {l : List Plain.Lk} {X Y : List Nat} (h : Lv N w v l X) (hc : Chg Y w w') (h1 : ∀ b ∈ Y, b < N) (h2 : ∀ b ∈ X, b ∉ Y) : Lv N w' v l X :=
 ⟨h.1.chg hc fun b hb q => (h.2 b hb).elim (fun t => h2 b t q) (fun t => by have := h1 b q; omega), h.2⟩
theorem Lv.fresh {N : Nat} {w w' : World} {v : Value} {l : List Plain.Lk} {X : List Nat} (h : Lv N w v l X) (hc : Chg [] w w') : Lv N w' v l X := h.step hc (by simp) (by simp)
end Go.Proofs.YtpcgklagmcnhaaaGreat
