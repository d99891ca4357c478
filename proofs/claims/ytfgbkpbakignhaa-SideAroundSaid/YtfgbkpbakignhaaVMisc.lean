/- small functions of the document's answer and of plan: contracts of ref04.Equal, ref04.Twin, plan.corner. Conditions: lists, a graph and a walk that lie in memory and read so. -/
import Derived.Test.YtfgbkpbakignhaaVGraphB
import Derived.Test.YtfgbkpbakignhaaVBase
import Derived.Test.YtfgbkpbakignhaaVRot
import Derived.Test.YtfgbkpbakignhaaVWake
import Derived.Test.YtfgbkpbakignhaaVWhole
import Derived.Test.YtfgbkpbakignhaaVRegions
import Derived.Test.YtfgbkpbakignhaaVSmall
namespace Go.Proofs.Ytfgbkpbakignhaa
open Go.RowKit Go.Maps

theorem equal_step {a b : List Int} (hl : a.length = b.length) : (List.range a.length).all (fun i => decide (a.getD i 0 = b.getD i 0)) = decide (a = b) := by
  by_cases h : a = b
  · subst h
    rw [decide_eq_true rfl, List.all_eq_true]
    simp
  · rw [decide_eq_false h, List.all_eq_false]
    refine Classical.byContradiction fun q => h (List.ext_getElem hl fun i h1 h2 => ?_)
    refine Classical.byContradiction fun e => q ⟨i, List.mem_range.2 h1, ?_⟩
    simpa [List.getD, h1, h2] using e

theorem equal_any (va vb : Value) (a b : List Int) (w : World) (ha : IntsAt w va a) (hb : IntsAt w vb b) :
    Calls Try.prog 16 #[va, vb] w fun e w' => e = .returned (.bool (decide (a = b))) ∧ Chg [] w w' := by
  obtain ⟨ao, ac, rfl, -, ham, hac⟩ := ha
  obtain ⟨bo, bc, rfl, -, hbm, hbc⟩ := hb
  have HA := Lib.hid hac
  have HB := Lib.hid hbc
  clear hac hbc
  by_cases hl : a.length = b.length
  · have HE := Lib.hid (equal_step hl)
    have HL := Lib.hid hl
    have hb0 : ((a.length : Int) == (b.length : Int)) = true := by rw [hl]; simp
    go_enter Try.func16, Try.ntmps16
    rw [← hl]
    clear hb0 hl
    go_wp2
    go_loopw [5] (fun c wr => ∃ k : Nat, k ≤ a.length ∧ c = .int .i64 k ∧ Chg [] w wr ∧ Hid ((List.range k).all (fun i => decide (a.getD i 0 = b.getD i 0)) = true)) (fun c _ => a.length - (intOf c).toNat)
    case atStart => exact ⟨0, Nat.zero_le _, rfl, Chg.refl _ _, rfl⟩
    case round =>
      obtain ⟨k, hk, rfl, hc, hall⟩ := hrel
      have HC := Lib.hid hc
      by_cases hlt : k < a.length
      · obtain ⟨ab, aoff, rfl, hac⟩ := HA.out (by intro e; rw [e] at hlt; simp at hlt)
        have hkb : k < b.length := by have := HL.out; omega
        obtain ⟨bb, boff, rfl, hbc⟩ := HB.out (by intro e; rw [e] at hkb; simp at hkb)
        have c0 := hc.cell (hac k hlt) (by simp)
        have c1 := hc.cell (hbc k hkb) (by simp)
        have HF := Lib.hid (fun h => Plain.all_range_false (p := fun i => decide (a.getD i 0 = b.getD i 0)) hlt h)
        have HS := Lib.hid (Plain.all_range_succ (fun i => decide (a.getD i 0 = b.getD i 0)) k)
        have HK := Lib.hid (show (decide (a.getD k 0 = b.getD k 0)) = decide (a.getD k 0 = b.getD k 0) from rfl)
        obtain ⟨x, hx⟩ : ∃ x, a.getD k 0 = x := ⟨_, rfl⟩
        obtain ⟨y, hy⟩ : ∃ y, b.getD k 0 = y := ⟨_, rfl⟩
        have HX := Lib.hid hx
        have HY := Lib.hid hy
        rw [hx] at c0
        rw [hy] at c1
        clear hac hbc hc hx hy HK
        go_wp2
        have hS0 : (fun w' : World => w'.cell? ⟨ab, aoff + k, none⟩ = some (.int .i64 x) ∧ w'.cell? ⟨bb, boff + k, none⟩ = some (.int .i64 y)) wr.drew := ⟨c0, c1⟩
        refine wp_region_way (fun w' : World => w'.cell? ⟨ab, aoff + k, none⟩ = some (.int .i64 x) ∧ w'.cell? ⟨bb, boff + k, none⟩ = some (.int .i64 y)) [0, 1, 2, 3, 4, 5, 6, 7, 8] (Way.line [0, 1, 2, 3, 4, 5, 6, 7, 8] .done) (by kernel_rfl) (by kernel_rfl) ?_
        simp only [Way.line]
        repeat
          first
            | (refine along_off rfl (by rfl) (by rfl) (fun _ _ _ h => h) hS0 ?_; simp only [Act.put, List.getElem_toArray, List.getElem_cons_zero, List.getElem_cons_succ, List.setIfInBounds_toArray, List.set_cons_zero, List.set_cons_succ])
            | (refine along_read (v := ?_) rfl (by rfl) (by rfl) (fun _ _ _ h => h) hS0 (fun w' hS' => ?_) ?_; rotate_left; (focus ((try dsimp only at hS'); go_simp; try with_reducible rfl)); simp only [Act.put, List.getElem_toArray, List.getElem_cons_zero, List.getElem_cons_succ, List.setIfInBounds_toArray, List.set_cons_zero, List.set_cons_succ])
            | (refine along_skip rfl (by rfl) (by rfl) hS0 ?_; simp only [Act.put, List.getElem_toArray, List.getElem_cons_zero, List.getElem_cons_succ, List.setIfInBounds_toArray, List.set_cons_zero, List.set_cons_succ])
        refine along_done ?_
        have HCD := Lib.hid HC.out.drew
        clear hS0 c0 c1
        by_cases hxy : x = y
        · have HK2 := Lib.hid (show (List.range (k + 1)).all (fun i => decide (a.getD i 0 = b.getD i 0)) = true by rw [HS.out, hall.out, HX.out, HY.out]; simp [hxy])
          have b1 : (x == y) = true := by rw [beq_iff_eq]; exact hxy
          have b2 : (x != y) = false := by simp [hxy]
          clear hxy
          go_wp2
          go_roundw
          case rel => exact ⟨k + 1, by omega, by go_num, HCD.out, HK2⟩
          case measure => simp [intOf]; omega
        · have HE2 := Lib.hid (show decide (a = b) = false by rw [← HE.out]; exact HF.out (by rw [HX.out, HY.out]; exact decide_eq_false hxy))
          have b1 : (x == y) = false := by rw [beq_eq_false_iff_ne]; exact hxy
          have b2 : (x != y) = true := by simp [hxy]
          clear hxy
          go_wp2
          go_ret
          exact ⟨ret_bool HE2.out.symm, HCD.out⟩
      · have e : k = a.length := by omega
        subst e
        have HE2 := Lib.hid (HE.out.symm.trans hall.out)
        clear hc
        go_wp2
        go_ret
        exact ⟨ret_bool HE2.out.symm, HC.out⟩
  · have HE := Lib.hid (show decide (a = b) = false from decide_eq_false (fun e => hl (by rw [e])))
    have hb0 : ((a.length : Int) == (b.length : Int)) = false := by rw [beq_eq_false_iff_ne]; omega
    go_enter Try.func16, Try.ntmps16
    go_wp2
    go_ret
    exact ⟨ret_bool HE.out.symm, Chg.refl _ _⟩

end Go.Proofs.Ytfgbkpbakignhaa
/- law 08's awake: true. -/
namespace Go.Proofs.Ytfgbkpbakignhaa
open Go.RowKit Go.Maps

theorem gr0_at (w : World) : GrAt w (.agg #[.int .i64 2, .slice none 0 0]) Plain.g0 := by
  exact ⟨none, 0, rfl, I64.mk (by decide) (by decide), by decide, fun i hi => absurd hi (by simp [Plain.g0]), fun i hi => absurd hi (by simp [Plain.g0])⟩

theorem t0_at (w : World) : RowsAt (w.alloc (.cells #[.slice none 0 0, .slice none 0 0] 25)) (.slice (some ⟨w.heap.size, 0, none⟩) 2 2) Plain.t0 := by
  have h := heap_alloc_new w (.cells #[.slice none 0 0, .slice none 0 0] 25)
  refine ⟨_, 2, rfl, by decide, fun i hi => ?_⟩
  have hi : i < 2 := hi
  rcases i with _ | _ | i
  · exact ⟨_, 0, .slice none 0 0, rfl, (cell_of_row _ _ 0 _ _ _ h).trans rfl, ⟨none, 0, 0, rfl, by decide, by decide⟩, IntsAt.nil _⟩
  · exact ⟨_, 0, .slice none 0 0, rfl, (cell_of_row _ _ 1 _ _ _ h).trans rfl, ⟨none, 0, 0, rfl, by decide, by decide⟩, IntsAt.nil _⟩
  · omega
theorem s0_at (w w' : World) (hc : Chg [] (w.alloc (.cells #[.int .i64 (-2), .int .i64 (-1)] 3)) w') : RowsAt (w'.alloc (.cells #[.slice (some ⟨w.heap.size, 0, none⟩) 2 2] 25)) (.slice (some ⟨w'.heap.size, 0, none⟩) 1 1) Plain.s0 := by
  have h := heap_alloc_new w' (.cells #[.slice (some ⟨w.heap.size, 0, none⟩) 2 2] 25)
  refine ⟨_, 1, rfl, by decide, fun i hi => ?_⟩
  have hi : i < 1 := hi
  obtain rfl : i = 0 := by omega
  exact ⟨_, 0, _, rfl, (cell_of_row _ _ 0 _ _ _ h).trans rfl, ⟨_, 2, 2, rfl, by decide, by decide⟩, ((lit_two w (x := -2) (y := -1) (I64.mk (by decide) (by decide)) (I64.mk (by decide) (by decide))).fresh hc).fresh ((Chg.refl [] w').alloc _)⟩

theorem rowsNil (w : World) : RowsAt w (.slice none 0 0) [] := ⟨none, 0, rfl, by decide, fun i hi => absurd hi (by simp)⟩

theorem s0_len (i : Nat) : (Plain.s0.getD i []).length ≤ 10000 := by
  rcases i with _ | i
  · decide
  · simp [Plain.s0, List.getD]

end Go.Proofs.Ytfgbkpbakignhaa
/- law PlanEuler, plainly; what a small case is. No program here. -/
namespace Go.Proofs.Ytfgbkpbakignhaa

namespace Plain
theorem filter_split {α : Type} (q : α → Bool) : ∀ l : List α, (l.filter q).length + (l.filter fun x => !q x).length = l.length
  | [] => rfl
  | x :: l => by
    have := filter_split q l
    by_cases h : q x = true
    · simp [h]; omega
    · simp [h]; omega

theorem left_over {K M : List Int} (hK : K.Nodup) (hM : M.Nodup) (hs : ∀ x ∈ M, x ∈ K) : (K.filter fun x => decide (x ∉ M)).length + M.length = K.length := by
  have h1 := filter_split (fun x => decide (x ∈ M)) K
  have e : (K.filter fun x => decide (x ∉ M)) = K.filter fun x => !decide (x ∈ M) := List.filter_congr fun x _ => by simp
  have h2 := len_le_of_sub (hK.filter (fun x => decide (x ∈ M))) (m := M) (fun x hx => by simpa using (List.mem_filter.1 hx).2)
  have h3 := len_le_of_sub hM (m := K.filter fun x => decide (x ∈ M)) (fun x hx => List.mem_filter.2 ⟨hs x hx, by simpa using hx⟩)
  rw [e]
  omega

theorem singles_count {W : List Face} {M : List Int} (hK : (W.map (·.1)).Nodup) (hM : M.Nodup) (hs : ∀ x ∈ M, x ∈ W.map (·.1)) : (singles W M).length + M.length = W.length := by
  have h := left_over hK hM hs
  rw [List.length_map] at h
  have : (singles W M).length = ((W.map (·.1)).filter fun x => decide (x ∉ M)).length := by
    unfold singles
    rw [List.length_map, List.filter_map, List.length_map]
    rfl
  omega

theorem count_pos {s : St} (hs : s.Ok) (h : 0 < s.grp.length) : 0 < s.count := by
  unfold St.count
  rw [List.countP_pos_iff]
  refine ⟨0, List.mem_range.2 h, ?_⟩
  have := hs.le 0 h
  unfold St.hd at this
  simp
  simp at this
  omega

/-- How many regions a drawing has. -/
theorem plan_euler {g : Gr} {p : Pt} {turn same ll : List (List Int)} (h : planErr g p turn same = 0) (hW : WalksOk g p turn (walksOf g p turn)) (hl : ll.Perm (same ++ singles (walksOf g p turn) same.flatten)) :
    (((roots g p).length = 0 → ll.length = 0) ∧ ((roots g p).length ≠ 0 → p.v.length + ll.length = 1 + (roots g p).length + p.e.length)) := by
  obtain ⟨hf, c, hc, hcnt⟩ := planErr_zero h
  obtain ⟨hte, hflat⟩ := flatErr_zero hf
  obtain ⟨hpe, hto⟩ := turnErr_zero hte
  have hpo := Pt.ok_of_err hpe
  have heul := euler hpo hto hW.faces hflat
  obtain ⟨hok, hmet, -⟩ := sameRun_ok (fun y a h => ownerOf_lt hpo hW h) _ c (Nat.le_refl _) hc
  rw [List.take_length] at hmet
  have hnum := hok.num
  have hsub : ∀ x ∈ same.flatten, x ∈ (walksOf g p turn).map (·.1) := fun x hx => ownerOf_some (hok.has x (by rw [hmet]; exact hx))
  have hnd : same.flatten.Nodup := by rw [← hmet]; exact hok.nodup
  have hkn : ((walksOf g p turn).map (·.1)).Nodup := (walks_keys hpe hW).imp (fun h => by omega)
  have hsc := singles_count hkn hnd hsub
  have hll := hl.length_eq
  rw [List.length_append] at hll
  rw [hmet] at hnum
  have hgl : c.1.grp.length = (roots g p).length := by rw [← hok.ok.len, hok.all]; simp [upTo]
  constructor
  · intro h0
    have hcl := c.1.count_le
    have hv : p.v = [] := by
      cases hv : p.v with
      | nil => rfl
      | cons x l =>
        obtain ⟨r, hr, -⟩ := root_of (g := g) (p := p) (fun v hv => (hpo.vr v hv).1) (u := x) (by rw [hv]; simp)
        rw [List.length_eq_zero_iff.1 h0] at hr
        cases hr
    have hee : p.e = [] := by
      cases he : p.e with
      | nil => rfl
      | cons x l =>
        have := (hpo.ends x (by rw [he]; simp)).1
        rw [hv] at this
        cases this
    rw [hv, hee] at heul
    simp at heul
    omega
  · intro h0
    have := count_pos hok.ok (by omega)
    omega

/-! ### what is small -/
theorem all_le {n b : Nat} {f : Nat → Nat} (h : ((List.range n).all fun i => decide (f i ≤ b)) = true) : ∀ i, i < n → f i ≤ b := fun i hi => by
  have := List.all_eq_true.1 h i (List.mem_range.2 hi)
  exact of_decide_eq_true this

theorem getD_le {T : List (List Int)} {b : Nat} (h : ∀ i, i < T.length → (T.getD i []).length ≤ b) : ∀ i, (T.getD i []).length ≤ b := fun i => by
  by_cases hi : i < T.length
  · exact h i hi
  · simp [List.getD, Nat.not_lt.1 hi]

theorem sumLen_le {T : List (List Int)} {b : Nat} (h : ∀ i, (T.getD i []).length ≤ b) : ∀ k, sumLen T k ≤ k * b
  | 0 => by simp [sumLen]
  | k + 1 => by
    have := sumLen_le h k
    have h1 := h k
    have e : sumLen T (k + 1) = sumLen T k + (T.getD k []).length := rfl
    rw [e, Nat.succ_mul]
    omega

theorem small8_is {g : Gr} {p : Pt} {turn same : List (List Int)} (h : small8 g p turn same = true) : p.v.length ≤ 60 ∧ p.e.length ≤ 60 ∧ turn.length ≤ 100 ∧ sumLen turn turn.length ≤ 20000 ∧ same.length ≤ 60 ∧ ∀ i, (same.getD i []).length ≤ 60 := by
  unfold small8 small6 small4 at h
  simp only [Bool.and_eq_true] at h
  obtain ⟨⟨⟨⟨h4, h5⟩, h6⟩, h7⟩, h8⟩ := h
  have h5 := of_decide_eq_true h5
  have h6 := getD_le (all_le h6)
  have h9 := sumLen_le h6 turn.length
  have : turn.length * 200 ≤ 100 * 200 := Nat.mul_le_mul_right _ h5
  exact ⟨of_decide_eq_true h4.1.1.2, of_decide_eq_true h4.1.2, h5, by omega, of_decide_eq_true h7, getD_le (all_le h8)⟩
end Plain
end Go.Proofs.Ytfgbkpbakignhaa
/- The regions of a drawing: determined; each walk is in just one. No program here. -/
namespace Go.Proofs.Ytfgbkpbakignhaa

namespace Plain
theorem perm_sorted {f : List Int → Int} : ∀ {a b : List (List Int)}, a.Perm b → a.Pairwise (fun x y => f x ≤ f y) → b.Pairwise (fun x y => f x ≤ f y) → (∀ x ∈ a, ∀ y ∈ a, f x = f y → x = y) → a = b
  | [], b, h, _, _, _ => (List.Perm.nil_eq h)
  | x :: a, [], h, _, _, _ => absurd h.length_eq (by simp)
  | x :: a, y :: b, h, ha, hb, hi => by
    have hy : y ∈ x :: a := h.mem_iff.2 (by simp)
    have hx : x ∈ y :: b := h.mem_iff.1 (by simp)
    have h1 : f x ≤ f y := by
      rcases List.mem_cons.1 hy with q | q
      · rw [q]; exact Int.le_refl _
      · exact (List.pairwise_cons.1 ha).1 y q
    have h2 : f y ≤ f x := by
      rcases List.mem_cons.1 hx with q | q
      · rw [q]; exact Int.le_refl _
      · exact (List.pairwise_cons.1 hb).1 x q
    have e : x = y := hi x (by simp) y hy (by omega)
    subst e
    rw [perm_sorted ((List.perm_cons x).1 h) (List.pairwise_cons.1 ha).2 (List.pairwise_cons.1 hb).2 fun u hu v hv => hi u (by simp [hu]) v (by simp [hv])]

/-- What a right plan keeps to. -/
structure Parted (g : Gr) (p : Pt) (turn same : List (List Int)) : Prop where
  part : p.err g = 0
  turns : TurnsOk g p turn
  flat : Flat g p turn
  walks : WalksOk g p turn (walksOf g p turn)
  two : ∀ l ∈ same, 2 ≤ l.length
  nodup : same.flatten.Nodup
  keys : ∀ x ∈ same.flatten, x ∈ (walksOf g p turn).map (·.1)
  rise : ∀ l ∈ same, l.Pairwise (· < ·)
  many : same.flatten.length + 1 ≤ (roots g p).length + same.length ∨ (roots g p).length = 0

theorem parted {g : Gr} {p : Pt} {turn same : List (List Int)} (h : planErr g p turn same = 0) (hW : WalksOk g p turn (walksOf g p turn)) : Parted g p turn same := by
  obtain ⟨hf, c, hc, hcnt⟩ := planErr_zero h
  obtain ⟨hte, hflat⟩ := flatErr_zero hf
  obtain ⟨hpe, hto⟩ := turnErr_zero hte
  have hpo := Pt.ok_of_err hpe
  obtain ⟨hok, hmet, hl⟩ := sameRun_ok (fun y a h => ownerOf_lt hpo hW h) _ c (Nat.le_refl _) hc
  rw [List.take_length] at hmet
  refine ⟨hpe, hto, hflat, hW, fun l hl => ?_, by rw [← hmet]; exact hok.nodup, fun x hx => ownerOf_some (hok.has x (by rw [hmet]; exact hx)), fun l hl2 => ?_, ?_⟩
  · obtain ⟨i, hi, rfl⟩ := List.getElem_of_mem hl
    have := planErr_two h i hi
    simpa [List.getD, hi] using this
  · obtain ⟨i, hi, rfl⟩ := List.getElem_of_mem hl2
    have := (hl i hi).2
    simpa [List.getD, hi] using this
  · have hnum := hok.num
    rw [hmet] at hnum
    by_cases h0 : (roots g p).length = 0
    · exact Or.inr h0
    · have hgl : c.1.grp.length = (roots g p).length := by rw [← hok.ok.len, hok.all]; simp [upTo]
      have := count_pos hok.ok (by omega)
      exact Or.inl (by omega)

/-- All lists, and all walks that are in none. -/
noncomputable def allRegs (g : Gr) (p : Pt) (turn same : List (List Int)) : List (List Int) := same ++ singles (walksOf g p turn) same.flatten

theorem singles_flat (W : List Face) (M : List Int) : (singles W M).flatten = (W.map (·.1)).filter fun x => decide (x ∉ M) := by
  unfold singles
  induction W with
  | nil => rfl
  | cons f W ih =>
    by_cases h : f.1 ∈ M
    · rw [List.filter_cons_of_neg (by simpa using h), List.map_cons, List.filter_cons_of_neg (by simpa using h)]; exact ih
    · rw [List.filter_cons_of_pos (by simpa using h), List.map_cons, List.map_cons, List.filter_cons_of_pos (by simpa using h), List.flatten_cons, ih]; rfl

theorem Parted.keysNodup {g : Gr} {p : Pt} {turn same : List (List Int)} (h : Parted g p turn same) : ((walksOf g p turn).map (·.1)).Nodup :=
  (walks_keys h.part h.walks).imp fun hab => by omega

theorem Parted.all {g : Gr} {p : Pt} {turn same : List (List Int)} (h : Parted g p turn same) : (allRegs g p turn same).flatten.Perm ((walksOf g p turn).map (·.1)) := by
  unfold allRegs
  rw [List.flatten_append, singles_flat]
  refine (List.perm_ext_iff_of_nodup ?_ h.keysNodup).2 fun x => ?_
  · rw [List.nodup_append]
    refine ⟨h.nodup, h.keysNodup.filter _, fun a ha b hb e => ?_⟩
    subst e
    have := (List.mem_filter.1 hb).2
    simp only [decide_eq_true_eq] at this
    exact this ha
  · rw [List.mem_append, List.mem_filter]
    simp only [decide_eq_true_eq]
    constructor
    · rintro (q | q)
      · exact h.keys x q
      · exact q.1
    · intro q
      by_cases hx : x ∈ same.flatten
      · exact Or.inl hx
      · exact Or.inr ⟨q, hx⟩

theorem Parted.ne {g : Gr} {p : Pt} {turn same : List (List Int)} (h : Parted g p turn same) : ∀ l ∈ allRegs g p turn same, l ≠ [] := by
  intro l hl e
  subst e
  unfold allRegs at hl
  rcases List.mem_append.1 hl with q | q
  · have := h.two _ q; simp at this
  · unfold singles at q
    obtain ⟨f, -, e⟩ := List.mem_map.1 q
    cases e

/-- Regions in their order. -/
structure IsRegs (g : Gr) (p : Pt) (turn same ll : List (List Int)) : Prop where
  perm : ll.Perm (allRegs g p turn same)
  order : ll.Pairwise fun a b => a.getD 0 0 ≤ b.getD 0 0

theorem head_mem {l : List Int} (h : l ≠ []) : l.getD 0 0 ∈ l := by cases l <;> simp_all

theorem one_list {ll : List (List Int)} (hn : ll.flatten.Nodup) {l m : List Int} {x : Int} (hl : l ∈ ll) (hm : m ∈ ll) (h1 : x ∈ l) (h2 : x ∈ m) : l = m := by
  induction ll with
  | nil => simp at hl
  | cons a ll ih =>
    rw [List.flatten_cons, List.nodup_append] at hn
    rcases List.mem_cons.1 hl with q | q
    · rcases List.mem_cons.1 hm with r | r
      · rw [q, r]
      · subst q
        exact absurd rfl (hn.2.2 x h1 x (List.mem_flatten.2 ⟨m, r, h2⟩))
    · rcases List.mem_cons.1 hm with r | r
      · subst r
        exact absurd rfl (hn.2.2 x h2 x (List.mem_flatten.2 ⟨l, q, h1⟩))
      · exact ih hn.2.1 q r

theorem Parted.nodupAll {g : Gr} {p : Pt} {turn same : List (List Int)} (h : Parted g p turn same) : (allRegs g p turn same).flatten.Nodup := h.all.nodup_iff.2 h.keysNodup

theorem Parted.one {g : Gr} {p : Pt} {turn same ll mm : List (List Int)} (h : Parted g p turn same) (h1 : IsRegs g p turn same ll) (h2 : IsRegs g p turn same mm) : ll = mm := by
  refine perm_sorted (f := fun l => l.getD 0 0) (h1.perm.trans h2.perm.symm) h1.order h2.order fun x hx y hy e => ?_
  have mx := h1.perm.mem_iff.1 hx
  have my := h1.perm.mem_iff.1 hy
  have e : x.getD 0 0 = y.getD 0 0 := e
  exact one_list h.nodupAll mx my (head_mem (h.ne x mx)) (by rw [e]; exact head_mem (h.ne y my))

open Classical in
/-- The regions of a drawing. -/
noncomputable def regionsOf (g : Gr) (p : Pt) (turn same : List (List Int)) : List (List Int) := if h : ∃ ll, IsRegs g p turn same ll then Classical.choose h else []
theorem IsRegs.eq {g : Gr} {p : Pt} {turn same ll : List (List Int)} (h : Parted g p turn same) (hl : IsRegs g p turn same ll) : ll = regionsOf g p turn same := by
  have hex : ∃ ll, IsRegs g p turn same ll := ⟨ll, hl⟩
  unfold regionsOf
  rw [dif_pos hex]
  exact h.one hl (Classical.choose_spec hex)

/-- The region of a key: the first list that has it. -/
def regionAt (ll : List (List Int)) (key : Int) : Option Nat := ll.findIdx? fun l => decide (key ∈ l)

theorem regionAt_hit {ll : List (List Int)} (hn : ll.flatten.Nodup) {i : Nat} (hi : i < ll.length) {key : Int} (hk : key ∈ ll.getD i []) : regionAt ll key = some i := by
  have e : ll.getD i [] = ll[i] := by simp [List.getD, hi]
  rw [e] at hk
  unfold regionAt
  rw [List.findIdx?_eq_some_iff_getElem]
  refine ⟨hi, decide_eq_true hk, fun j hj => ?_⟩
  intro hm
  have hm := of_decide_eq_true hm
  have hp := (nodup_flat.1 hn).2
  have := List.pairwise_iff_getElem.1 hp j i (by omega) hi hj key hm key hk
  exact this rfl

theorem regionAt_lt {ll : List (List Int)} {key : Int} {i : Nat} (h : regionAt ll key = some i) : i < ll.length ∧ key ∈ ll.getD i [] := by
  unfold regionAt at h
  rw [List.findIdx?_eq_some_iff_getElem] at h
  obtain ⟨h1, h2, -⟩ := h
  exact ⟨h1, by simpa [List.getD, h1] using h2⟩
theorem regionAt_none {ll : List (List Int)} {key : Int} : regionAt ll key = none ↔ key ∉ ll.flatten := by
  unfold regionAt
  rw [List.findIdx?_eq_none_iff]
  simp only [List.mem_flatten, not_exists, not_and, decide_eq_false_iff_not]

/-- A drawing of one piece has no list. -/
theorem Parted.lone {g : Gr} {p : Pt} {turn same : List (List Int)} (h : Parted g p turn same) (h1 : (roots g p).length = 1) : same = [] := by
  have hm := h.many
  have h2 : ∀ {s : List (List Int)}, (∀ l ∈ s, 2 ≤ l.length) → 2 * s.length ≤ s.flatten.length := by
    intro s
    induction s with
    | nil => simp
    | cons a s ih =>
      intro hs
      have := ih fun l hl => hs l (by simp [hl])
      have := hs a (by simp)
      rw [List.flatten_cons, List.length_append, List.length_cons]
      omega
  have := h2 h.two
  have : same.length = 0 := by omega
  exact List.length_eq_zero_iff.1 this
theorem Parted.short {g : Gr} {p : Pt} {turn same : List (List Int)} (h : Parted g p turn same) (h1 : (roots g p).length = 1) : ∀ l ∈ allRegs g p turn same, l.length ≤ 1 := by
  intro l hl
  unfold allRegs at hl
  rw [h.lone h1] at hl
  rw [List.nil_append] at hl
  unfold singles at hl
  obtain ⟨f, -, rfl⟩ := List.mem_map.1 hl
  simp
end Plain
end Go.Proofs.Ytfgbkpbakignhaa
