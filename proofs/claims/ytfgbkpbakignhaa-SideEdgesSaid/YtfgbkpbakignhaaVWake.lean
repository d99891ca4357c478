/- The drawing of two vertices, no edges, one list: plainly. No program here. -/
import Derived.Test.YtfgbkpbakignhaaVRegions
import Derived.Test.YtfgbkpbakignhaaVWhole
import Derived.Test.YtfgbkpbakignhaaVMisc
import Derived.Test.YtfgbkpbakignhaaVSmall
namespace Go.Proofs.Ytfgbkpbakignhaa

namespace Plain
def g0 : Gr := ⟨2, []⟩
def p0 : Pt := ⟨[0, 1], []⟩
def t0 : List (List Int) := [[], []]
def s0 : List (List Int) := [[-2, -1]]
def w0 : List Face := [(-2, []), (-1, [])]

theorem err0 : p0.err g0 = 0 := by decide
theorem come0 {s a u : Int} (h : Come g0 p0 s a u) : u = a := by
  cases h with
  | here => rfl
  | step h1 h2 h3 => obtain ⟨e, he, -⟩ := h2; cases he
theorem comp0 (a : Int) : comp g0 p0 a = [0, 1].filter fun u => decide (u = a) := by
  classical
  unfold comp
  refine List.filter_congr fun u _ => ?_
  by_cases h : u = a
  · subst h; simp [Come.here]
  · simp only [h, decide_false, decide_eq_false_iff_not]
    exact fun q => h (come0 q)
theorem roots0 : roots g0 p0 = [0, 1] := by
  classical
  unfold roots
  refine List.filter_eq_self.2 fun u _ => ?_
  refine decide_eq_true fun x _ h => ?_
  rw [come0 h]; omega
theorem part0 : PartOk g0 p0 := Pt.ok_of_err err0
theorem turnAt0 (v : Int) : turnAt t0 v = [] := by
  unfold turnAt t0
  rcases v.toNat with _ | _ | n <;> simp [List.getD]
theorem turns0 : TurnsOk g0 p0 t0 := ⟨rfl, fun v => by rw [turnAt0]; exact List.nodup_nil, fun v _ _ d => by rw [turnAt0]; simp [p0, Pt.darts]⟩
theorem walks0 : WalksOk g0 p0 t0 w0 := (Trk.start g0 p0 t0).walks part0
theorem walksOf0 : walksOf g0 p0 t0 = w0 := (walks0.eq err0).symm
theorem turnErr0 : turnErr g0 p0 t0 = 0 := turnErr_ok err0 turns0
theorem flat0 : Flat g0 p0 t0 := by
  intro r hr
  rw [walksOf0]
  rw [roots0] at hr
  unfold genusAt
  rw [comp0]
  simp only [List.mem_cons, List.not_mem_nil, or_false] at hr
  rcases hr with rfl | rfl <;> decide
theorem flatErr0 : flatErr g0 p0 t0 = 0 := flatErr_ok turnErr0 flat0
theorem pieceIx0 {v : Int} {n : Nat} (hn : n < 2) (h : ([0, 1] : List Int).getD n 0 = v) (hv : v ∈ ([0, 1] : List Int)) : pieceIx g0 p0 v = n := by
  refine pieceIx_eq part0 (by rw [roots0]; exact hn) ?_
  rw [roots0, h, comp0]
  simp at hv ⊢
  exact hv
theorem owner2 : ownerOf g0 p0 w0 (-2) = some 1 := by
  have : ownerOf g0 p0 w0 (-2) = some ((pieceIx g0 p0 1 : Nat) : Int) := rfl
  rw [this, pieceIx0 (v := 1) (n := 1) (by decide) rfl (by decide)]; rfl
theorem owner1 : ownerOf g0 p0 w0 (-1) = some 0 := by
  have : ownerOf g0 p0 w0 (-1) = some ((pieceIx g0 p0 0 : Nat) : Int) := rfl
  rw [this, pieceIx0 (v := 0) (n := 0) (by decide) rfl (by decide)]; rfl
theorem run0 : sameRun (ownerOf g0 p0 w0) s0 (St.new (upTo 2), []) 1 = some ((St.new (upTo 2)).join 1 0, [-2, -1]) := by
  refine sameRun_next (c := (St.new (upTo 2), [])) rfl (by decide) ?_
  refine listRun_next (c := (St.new (upTo 2), [-2])) (k := 1) ?_ ?_
  · refine listRun_next (c := (St.new (upTo 2), [])) (k := 0) rfl ?_
    exact keyStep_first (a := 1) owner2 (by simp)
  · refine keyStep_join (a := 0) (b := 1) (by decide) owner1 (by decide) (by decide) ?_ (by decide)
    show (ownerOf g0 p0 w0 (-2)).getD 0 = 1
    rw [owner2]; rfl
theorem plan0 : planErr g0 p0 t0 s0 = 0 := by
  rw [planErr_run flatErr0, roots0, walksOf0]
  show (match sameRun (ownerOf g0 p0 w0) s0 (St.new (upTo 2), []) 1 with | none => (7 : Int) | some c => if 1 < c.1.count then 7 else 0) = 0
  rw [run0]
  decide
theorem plan1 : planErr g0 p0 t0 [] = 7 := by
  rw [planErr_run flatErr0, roots0]
  decide
theorem regs0 {ll : List (List Int)} (h : ll.Perm (s0 ++ singles (walksOf g0 p0 t0) s0.flatten)) : ll = [[-2, -1]] := by
  rw [walksOf0] at h
  have : s0 ++ singles w0 s0.flatten = [[-2, -1]] := by decide
  rw [this] at h
  exact List.perm_singleton.1 h
end Plain
end Go.Proofs.Ytfgbkpbakignhaa
/- law 08's awake: true. -/
namespace Go.Proofs.Ytfgbkpbakignhaa
open Go.RowKit Go.Maps

theorem gr0_at (w : World) : GrAt w (.agg #[.int .i64 2, .slice none 0 0]) Plain.g0 := by
  exact ⟨none, 0, rfl, I64.mk (by decide) (by decide), by decide, fun i hi => absurd hi (by simp [Plain.g0]), fun i hi => absurd hi (by simp [Plain.g0])⟩

theorem t0_at (w : World) : RowsAt (w.alloc (.cells #[.slice none 0 0, .slice none 0 0] 25)) (.slice (some ⟨w.heap.size, 0, none⟩) 2 2) Plain.t0 := by
  have h := heap_alloc_new w (.cells #[.slice none 0 0, .slice none 0 0] 25)
  refine ⟨_, 2, rfl, by decide, fun i hi => ?_⟩
  have hi : i < 2 := hi
  rcases i with _ | _ | i
  · exact ⟨_, 0, .slice none 0 0, rfl, (cell_of_row _ _ 0 _ _ _ h).trans rfl, ⟨none, 0, 0, rfl, by decide, by decide⟩, IntsAt.nil _⟩
  · exact ⟨_, 0, .slice none 0 0, rfl, (cell_of_row _ _ 1 _ _ _ h).trans rfl, ⟨none, 0, 0, rfl, by decide, by decide⟩, IntsAt.nil _⟩
  · omega
theorem s0_at (w w' : World) (hc : Chg [] (w.alloc (.cells #[.int .i64 (-2), .int .i64 (-1)] 3)) w') : RowsAt (w'.alloc (.cells #[.slice (some ⟨w.heap.size, 0, none⟩) 2 2] 25)) (.slice (some ⟨w'.heap.size, 0, none⟩) 1 1) Plain.s0 := by
  have h := heap_alloc_new w' (.cells #[.slice (some ⟨w.heap.size, 0, none⟩) 2 2] 25)
  refine ⟨_, 1, rfl, by decide, fun i hi => ?_⟩
  have hi : i < 1 := hi
  obtain rfl : i = 0 := by omega
  exact ⟨_, 0, _, rfl, (cell_of_row _ _ 0 _ _ _ h).trans rfl, ⟨_, 2, 2, rfl, by decide, by decide⟩, ((lit_two w (x := -2) (y := -1) (I64.mk (by decide) (by decide)) (I64.mk (by decide) (by decide))).fresh hc).fresh ((Chg.refl [] w').alloc _)⟩

theorem rowsNil (w : World) : RowsAt w (.slice none 0 0) [] := ⟨none, 0, rfl, by decide, fun i hi => absurd hi (by simp)⟩

theorem s0_len (i : Nat) : (Plain.s0.getD i []).length ≤ 10000 := by
  rcases i with _ | i
  · decide
  · simp [Plain.s0, List.getD]

end Go.Proofs.Ytfgbkpbakignhaa
/- law PlanEuler, plainly; what a small case is. No program here. -/
namespace Go.Proofs.Ytfgbkpbakignhaa

namespace Plain
theorem filter_split {α : Type} (q : α → Bool) : ∀ l : List α, (l.filter q).length + (l.filter fun x => !q x).length = l.length
  | [] => rfl
  | x :: l => by
    have := filter_split q l
    by_cases h : q x = true
    · simp [h]; omega
    · simp [h]; omega

theorem left_over {K M : List Int} (hK : K.Nodup) (hM : M.Nodup) (hs : ∀ x ∈ M, x ∈ K) : (K.filter fun x => decide (x ∉ M)).length + M.length = K.length := by
  have h1 := filter_split (fun x => decide (x ∈ M)) K
  have e : (K.filter fun x => decide (x ∉ M)) = K.filter fun x => !decide (x ∈ M) := List.filter_congr fun x _ => by simp
  have h2 := len_le_of_sub (hK.filter (fun x => decide (x ∈ M))) (m := M) (fun x hx => by simpa using (List.mem_filter.1 hx).2)
  have h3 := len_le_of_sub hM (m := K.filter fun x => decide (x ∈ M)) (fun x hx => List.mem_filter.2 ⟨hs x hx, by simpa using hx⟩)
  rw [e]
  omega

theorem singles_count {W : List Face} {M : List Int} (hK : (W.map (·.1)).Nodup) (hM : M.Nodup) (hs : ∀ x ∈ M, x ∈ W.map (·.1)) : (singles W M).length + M.length = W.length := by
  have h := left_over hK hM hs
  rw [List.length_map] at h
  have : (singles W M).length = ((W.map (·.1)).filter fun x => decide (x ∉ M)).length := by
    unfold singles
    rw [List.length_map, List.filter_map, List.length_map]
    rfl
  omega

theorem count_pos {s : St} (hs : s.Ok) (h : 0 < s.grp.length) : 0 < s.count := by
  unfold St.count
  rw [List.countP_pos_iff]
  refine ⟨0, List.mem_range.2 h, ?_⟩
  have := hs.le 0 h
  unfold St.hd at this
  simp
  simp at this
  omega

/-- How many regions a drawing has. -/
theorem plan_euler {g : Gr} {p : Pt} {turn same ll : List (List Int)} (h : planErr g p turn same = 0) (hW : WalksOk g p turn (walksOf g p turn)) (hl : ll.Perm (same ++ singles (walksOf g p turn) same.flatten)) :
    (((roots g p).length = 0 → ll.length = 0) ∧ ((roots g p).length ≠ 0 → p.v.length + ll.length = 1 + (roots g p).length + p.e.length)) := by
  obtain ⟨hf, c, hc, hcnt⟩ := planErr_zero h
  obtain ⟨hte, hflat⟩ := flatErr_zero hf
  obtain ⟨hpe, hto⟩ := turnErr_zero hte
  have hpo := Pt.ok_of_err hpe
  have heul := euler hpo hto hW.faces hflat
  obtain ⟨hok, hmet, -⟩ := sameRun_ok (fun y a h => ownerOf_lt hpo hW h) _ c (Nat.le_refl _) hc
  rw [List.take_length] at hmet
  have hnum := hok.num
  have hsub : ∀ x ∈ same.flatten, x ∈ (walksOf g p turn).map (·.1) := fun x hx => ownerOf_some (hok.has x (by rw [hmet]; exact hx))
  have hnd : same.flatten.Nodup := by rw [← hmet]; exact hok.nodup
  have hkn : ((walksOf g p turn).map (·.1)).Nodup := (walks_keys hpe hW).imp (fun h => by omega)
  have hsc := singles_count hkn hnd hsub
  have hll := hl.length_eq
  rw [List.length_append] at hll
  rw [hmet] at hnum
  have hgl : c.1.grp.length = (roots g p).length := by rw [← hok.ok.len, hok.all]; simp [upTo]
  constructor
  · intro h0
    have hcl := c.1.count_le
    have hv : p.v = [] := by
      cases hv : p.v with
      | nil => rfl
      | cons x l =>
        obtain ⟨r, hr, -⟩ := root_of (g := g) (p := p) (fun v hv => (hpo.vr v hv).1) (u := x) (by rw [hv]; simp)
        rw [List.length_eq_zero_iff.1 h0] at hr
        cases hr
    have hee : p.e = [] := by
      cases he : p.e with
      | nil => rfl
      | cons x l =>
        have := (hpo.ends x (by rw [he]; simp)).1
        rw [hv] at this
        cases this
    rw [hv, hee] at heul
    simp at heul
    omega
  · intro h0
    have := count_pos hok.ok (by omega)
    omega

/-! ### what is small -/
theorem all_le {n b : Nat} {f : Nat → Nat} (h : ((List.range n).all fun i => decide (f i ≤ b)) = true) : ∀ i, i < n → f i ≤ b := fun i hi => by
  have := List.all_eq_true.1 h i (List.mem_range.2 hi)
  exact of_decide_eq_true this

theorem getD_le {T : List (List Int)} {b : Nat} (h : ∀ i, i < T.length → (T.getD i []).length ≤ b) : ∀ i, (T.getD i []).length ≤ b := fun i => by
  by_cases hi : i < T.length
  · exact h i hi
  · simp [List.getD, Nat.not_lt.1 hi]

theorem sumLen_le {T : List (List Int)} {b : Nat} (h : ∀ i, (T.getD i []).length ≤ b) : ∀ k, sumLen T k ≤ k * b
  | 0 => by simp [sumLen]
  | k + 1 => by
    have := sumLen_le h k
    have h1 := h k
    have e : sumLen T (k + 1) = sumLen T k + (T.getD k []).length := rfl
    rw [e, Nat.succ_mul]
    omega

theorem small8_is {g : Gr} {p : Pt} {turn same : List (List Int)} (h : small8 g p turn same = true) : p.v.length ≤ 60 ∧ p.e.length ≤ 60 ∧ turn.length ≤ 100 ∧ sumLen turn turn.length ≤ 20000 ∧ same.length ≤ 60 ∧ ∀ i, (same.getD i []).length ≤ 60 := by
  unfold small8 small6 small4 at h
  simp only [Bool.and_eq_true] at h
  obtain ⟨⟨⟨⟨h4, h5⟩, h6⟩, h7⟩, h8⟩ := h
  have h5 := of_decide_eq_true h5
  have h6 := getD_le (all_le h6)
  have h9 := sumLen_le h6 turn.length
  have : turn.length * 200 ≤ 100 * 200 := Nat.mul_le_mul_right _ h5
  exact ⟨of_decide_eq_true h4.1.1.2, of_decide_eq_true h4.1.2, h5, by omega, of_decide_eq_true h7, getD_le (all_le h8)⟩
end Plain
end Go.Proofs.Ytfgbkpbakignhaa
/- The regions of a drawing: determined; each walk is in just one. No program here. -/
namespace Go.Proofs.Ytfgbkpbakignhaa

namespace Plain
theorem perm_sorted {f : List Int → Int} : ∀ {a b : List (List Int)}, a.Perm b → a.Pairwise (fun x y => f x ≤ f y) → b.Pairwise (fun x y => f x ≤ f y) → (∀ x ∈ a, ∀ y ∈ a, f x = f y → x = y) → a = b
  | [], b, h, _, _, _ => (List.Perm.nil_eq h)
  | x :: a, [], h, _, _, _ => absurd h.length_eq (by simp)
  | x :: a, y :: b, h, ha, hb, hi => by
    have hy : y ∈ x :: a := h.mem_iff.2 (by simp)
    have hx : x ∈ y :: b := h.mem_iff.1 (by simp)
    have h1 : f x ≤ f y := by
      rcases List.mem_cons.1 hy with q | q
      · rw [q]; exact Int.le_refl _
      · exact (List.pairwise_cons.1 ha).1 y q
    have h2 : f y ≤ f x := by
      rcases List.mem_cons.1 hx with q | q
      · rw [q]; exact Int.le_refl _
      · exact (List.pairwise_cons.1 hb).1 x q
    have e : x = y := hi x (by simp) y hy (by omega)
    subst e
    rw [perm_sorted ((List.perm_cons x).1 h) (List.pairwise_cons.1 ha).2 (List.pairwise_cons.1 hb).2 fun u hu v hv => hi u (by simp [hu]) v (by simp [hv])]

/-- What a right plan keeps to. -/
structure Parted (g : Gr) (p : Pt) (turn same : List (List Int)) : Prop where
  part : p.err g = 0
  turns : TurnsOk g p turn
  flat : Flat g p turn
  walks : WalksOk g p turn (walksOf g p turn)
  two : ∀ l ∈ same, 2 ≤ l.length
  nodup : same.flatten.Nodup
  keys : ∀ x ∈ same.flatten, x ∈ (walksOf g p turn).map (·.1)
  rise : ∀ l ∈ same, l.Pairwise (· < ·)
  many : same.flatten.length + 1 ≤ (roots g p).length + same.length ∨ (roots g p).length = 0

theorem parted {g : Gr} {p : Pt} {turn same : List (List Int)} (h : planErr g p turn same = 0) (hW : WalksOk g p turn (walksOf g p turn)) : Parted g p turn same := by
  obtain ⟨hf, c, hc, hcnt⟩ := planErr_zero h
  obtain ⟨hte, hflat⟩ := flatErr_zero hf
  obtain ⟨hpe, hto⟩ := turnErr_zero hte
  have hpo := Pt.ok_of_err hpe
  obtain ⟨hok, hmet, hl⟩ := sameRun_ok (fun y a h => ownerOf_lt hpo hW h) _ c (Nat.le_refl _) hc
  rw [List.take_length] at hmet
  refine ⟨hpe, hto, hflat, hW, fun l hl => ?_, by rw [← hmet]; exact hok.nodup, fun x hx => ownerOf_some (hok.has x (by rw [hmet]; exact hx)), fun l hl2 => ?_, ?_⟩
  · obtain ⟨i, hi, rfl⟩ := List.getElem_of_mem hl
    have := planErr_two h i hi
    simpa [List.getD, hi] using this
  · obtain ⟨i, hi, rfl⟩ := List.getElem_of_mem hl2
    have := (hl i hi).2
    simpa [List.getD, hi] using this
  · have hnum := hok.num
    rw [hmet] at hnum
    by_cases h0 : (roots g p).length = 0
    · exact Or.inr h0
    · have hgl : c.1.grp.length = (roots g p).length := by rw [← hok.ok.len, hok.all]; simp [upTo]
      have := count_pos hok.ok (by omega)
      exact Or.inl (by omega)

/-- All lists, and all walks that are in none. -/
noncomputable def allRegs (g : Gr) (p : Pt) (turn same : List (List Int)) : List (List Int) := same ++ singles (walksOf g p turn) same.flatten

theorem singles_flat (W : List Face) (M : List Int) : (singles W M).flatten = (W.map (·.1)).filter fun x => decide (x ∉ M) := by
  unfold singles
  induction W with
  | nil => rfl
  | cons f W ih =>
    by_cases h : f.1 ∈ M
    · rw [List.filter_cons_of_neg (by simpa using h), List.map_cons, List.filter_cons_of_neg (by simpa using h)]; exact ih
    · rw [List.filter_cons_of_pos (by simpa using h), List.map_cons, List.map_cons, List.filter_cons_of_pos (by simpa using h), List.flatten_cons, ih]; rfl

theorem Parted.keysNodup {g : Gr} {p : Pt} {turn same : List (List Int)} (h : Parted g p turn same) : ((walksOf g p turn).map (·.1)).Nodup :=
  (walks_keys h.part h.walks).imp fun hab => by omega

theorem Parted.all {g : Gr} {p : Pt} {turn same : List (List Int)} (h : Parted g p turn same) : (allRegs g p turn same).flatten.Perm ((walksOf g p turn).map (·.1)) := by
  unfold allRegs
  rw [List.flatten_append, singles_flat]
  refine (List.perm_ext_iff_of_nodup ?_ h.keysNodup).2 fun x => ?_
  · rw [List.nodup_append]
    refine ⟨h.nodup, h.keysNodup.filter _, fun a ha b hb e => ?_⟩
    subst e
    have := (List.mem_filter.1 hb).2
    simp only [decide_eq_true_eq] at this
    exact this ha
  · rw [List.mem_append, List.mem_filter]
    simp only [decide_eq_true_eq]
    constructor
    · rintro (q | q)
      · exact h.keys x q
      · exact q.1
    · intro q
      by_cases hx : x ∈ same.flatten
      · exact Or.inl hx
      · exact Or.inr ⟨q, hx⟩

theorem Parted.ne {g : Gr} {p : Pt} {turn same : List (List Int)} (h : Parted g p turn same) : ∀ l ∈ allRegs g p turn same, l ≠ [] := by
  intro l hl e
  subst e
  unfold allRegs at hl
  rcases List.mem_append.1 hl with q | q
  · have := h.two _ q; simp at this
  · unfold singles at q
    obtain ⟨f, -, e⟩ := List.mem_map.1 q
    cases e

/-- Regions in their order. -/
structure IsRegs (g : Gr) (p : Pt) (turn same ll : List (List Int)) : Prop where
  perm : ll.Perm (allRegs g p turn same)
  order : ll.Pairwise fun a b => a.getD 0 0 ≤ b.getD 0 0

theorem head_mem {l : List Int} (h : l ≠ []) : l.getD 0 0 ∈ l := by cases l <;> simp_all

theorem one_list {ll : List (List Int)} (hn : ll.flatten.Nodup) {l m : List Int} {x : Int} (hl : l ∈ ll) (hm : m ∈ ll) (h1 : x ∈ l) (h2 : x ∈ m) : l = m := by
  induction ll with
  | nil => simp at hl
  | cons a ll ih =>
    rw [List.flatten_cons, List.nodup_append] at hn
    rcases List.mem_cons.1 hl with q | q
    · rcases List.mem_cons.1 hm with r | r
      · rw [q, r]
      · subst q
        exact absurd rfl (hn.2.2 x h1 x (List.mem_flatten.2 ⟨m, r, h2⟩))
    · rcases List.mem_cons.1 hm with r | r
      · subst r
        exact absurd rfl (hn.2.2 x h2 x (List.mem_flatten.2 ⟨l, q, h1⟩))
      · exact ih hn.2.1 q r

theorem Parted.nodupAll {g : Gr} {p : Pt} {turn same : List (List Int)} (h : Parted g p turn same) : (allRegs g p turn same).flatten.Nodup := h.all.nodup_iff.2 h.keysNodup

theorem Parted.one {g : Gr} {p : Pt} {turn same ll mm : List (List Int)} (h : Parted g p turn same) (h1 : IsRegs g p turn same ll) (h2 : IsRegs g p turn same mm) : ll = mm := by
  refine perm_sorted (f := fun l => l.getD 0 0) (h1.perm.trans h2.perm.symm) h1.order h2.order fun x hx y hy e => ?_
  have mx := h1.perm.mem_iff.1 hx
  have my := h1.perm.mem_iff.1 hy
  have e : x.getD 0 0 = y.getD 0 0 := e
  exact one_list h.nodupAll mx my (head_mem (h.ne x mx)) (by rw [e]; exact head_mem (h.ne y my))

open Classical in
/-- The regions of a drawing. -/
noncomputable def regionsOf (g : Gr) (p : Pt) (turn same : List (List Int)) : List (List Int) := if h : ∃ ll, IsRegs g p turn same ll then Classical.choose h else []
theorem IsRegs.eq {g : Gr} {p : Pt} {turn same ll : List (List Int)} (h : Parted g p turn same) (hl : IsRegs g p turn same ll) : ll = regionsOf g p turn same := by
  have hex : ∃ ll, IsRegs g p turn same ll := ⟨ll, hl⟩
  unfold regionsOf
  rw [dif_pos hex]
  exact h.one hl (Classical.choose_spec hex)

/-- The region of a key: the first list that has it. -/
def regionAt (ll : List (List Int)) (key : Int) : Option Nat := ll.findIdx? fun l => decide (key ∈ l)

theorem regionAt_hit {ll : List (List Int)} (hn : ll.flatten.Nodup) {i : Nat} (hi : i < ll.length) {key : Int} (hk : key ∈ ll.getD i []) : regionAt ll key = some i := by
  have e : ll.getD i [] = ll[i] := by simp [List.getD, hi]
  rw [e] at hk
  unfold regionAt
  rw [List.findIdx?_eq_some_iff_getElem]
  refine ⟨hi, decide_eq_true hk, fun j hj => ?_⟩
  intro hm
  have hm := of_decide_eq_true hm
  have hp := (nodup_flat.1 hn).2
  have := List.pairwise_iff_getElem.1 hp j i (by omega) hi hj key hm key hk
  exact this rfl

theorem regionAt_lt {ll : List (List Int)} {key : Int} {i : Nat} (h : regionAt ll key = some i) : i < ll.length ∧ key ∈ ll.getD i [] := by
  unfold regionAt at h
  rw [List.findIdx?_eq_some_iff_getElem] at h
  obtain ⟨h1, h2, -⟩ := h
  exact ⟨h1, by simpa [List.getD, h1] using h2⟩
theorem regionAt_none {ll : List (List Int)} {key : Int} : regionAt ll key = none ↔ key ∉ ll.flatten := by
  unfold regionAt
  rw [List.findIdx?_eq_none_iff]
  simp only [List.mem_flatten, not_exists, not_and, decide_eq_false_iff_not]

/-- A drawing of one piece has no list. -/
theorem Parted.lone {g : Gr} {p : Pt} {turn same : List (List Int)} (h : Parted g p turn same) (h1 : (roots g p).length = 1) : same = [] := by
  have hm := h.many
  have h2 : ∀ {s : List (List Int)}, (∀ l ∈ s, 2 ≤ l.length) → 2 * s.length ≤ s.flatten.length := by
    intro s
    induction s with
    | nil => simp
    | cons a s ih =>
      intro hs
      have := ih fun l hl => hs l (by simp [hl])
      have := hs a (by simp)
      rw [List.flatten_cons, List.length_append, List.length_cons]
      omega
  have := h2 h.two
  have : same.length = 0 := by omega
  exact List.length_eq_zero_iff.1 this
theorem Parted.short {g : Gr} {p : Pt} {turn same : List (List Int)} (h : Parted g p turn same) (h1 : (roots g p).length = 1) : ∀ l ∈ allRegs g p turn same, l.length ≤ 1 := by
  intro l hl
  unfold allRegs at hl
  rw [h.lone h1] at hl
  rw [List.nil_append] at hl
  unfold singles at hl
  obtain ⟨f, -, rfl⟩ := List.mem_map.1 hl
  simp
end Plain
end Go.Proofs.Ytfgbkpbakignhaa
