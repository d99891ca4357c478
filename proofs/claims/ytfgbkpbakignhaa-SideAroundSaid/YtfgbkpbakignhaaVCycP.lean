/- What a cycle of darts is, plainly; the contract of side.leaves. Conditions: a graph that lies in memory and reads so; a dart of it. -/
import Derived.Test.YtfgbkpbakignhaaVSums
import Derived.Test.YtfgbkpbakignhaaVBase
import Derived.WalkKit
namespace Go.Proofs.Ytfgbkpbakignhaa
open Go.RowKit Go.Maps

namespace Plain
/-- At which of the first k places of a list a value of F is met first from behind. -/
def lastAt (F : Int → Int) (cy : List Int) : Nat → Int → Option Int
  | 0 => fun _ => none
  | k + 1 => fun v => if v = F (cy.getD k 0) then some (k : Int) else lastAt F cy k v
theorem lastAt_zero (F : Int → Int) (cy : List Int) : lastAt F cy 0 = fun _ => none := rfl
theorem lastAt_succ (F : Int → Int) (cy : List Int) (k : Nat) : lastAt F cy (k + 1) = fun v => if v = F (cy.getD k 0) then some (k : Int) else lastAt F cy k v := rfl
theorem lastAt_none {F : Int → Int} {cy : List Int} {k : Nat} {v : Int} : lastAt F cy k v = none ↔ ∀ i, i < k → F (cy.getD i 0) ≠ v := by
  induction k with
  | zero => simp [lastAt]
  | succ k ih =>
    rw [lastAt_succ]
    constructor
    · intro h i hi
      replace h : (if v = F (cy.getD k 0) then some (k : Int) else lastAt F cy k v) = none := h
      by_cases e : v = F (cy.getD k 0)
      · rw [if_pos e] at h; cases h
      · rw [if_neg e] at h
        by_cases hik : i < k
        · exact ih.1 h i hik
        · have : i = k := by omega
          subst this
          exact fun q => e q.symm
    · intro h
      show (if v = F (cy.getD k 0) then some (k : Int) else lastAt F cy k v) = none
      rw [if_neg (fun e => h k (by omega) e.symm)]
      exact ih.2 fun i hi => h i (by omega)

/-- The dart ahead of place k, around. -/
def befAt (cy : List Int) (k : Nat) : Int := if k = 0 then cy.getD (cy.length - 1) 0 else cy.getD (k - 1) 0
theorem befAt_zero (cy : List Int) : befAt cy 0 = cy.getD (cy.length - 1) 0 := rfl
theorem befAt_succ (cy : List Int) (k : Nat) : befAt cy (k + 1) = cy.getD k 0 := rfl
/-- Place k goes on from the place ahead and meets neither a vertex nor an edge anew. -/
def cycAt (g : Gr) (cy : List Int) (k : Nat) : Bool :=
  !((lastAt g.tail cy k (g.tail (cy.getD k 0))).isSome || (lastAt (· / 2) cy k (cy.getD k 0 / 2)).isSome) && decide (g.head (befAt cy k) = g.tail (cy.getD k 0))
def dartAt (p : Pt) (cy : List Int) (k : Nat) : Bool := decide (0 ≤ cy.getD k 0 ∧ cy.getD k 0 / 2 ∈ p.e)
/-- A cycle of the part. -/
def cycOk (g : Gr) (p : Pt) (cy : List Int) : Bool := decide (p.err g = 0) && !cy.isEmpty && (List.range cy.length).all (dartAt p cy) && (List.range cy.length).all (cycAt g cy)

theorem all_stop {f : Nat → Bool} {n k : Nat} (hk : k < n) (h : f k = false) : (List.range n).all f = false := by
  rw [List.all_eq_false]
  exact ⟨k, List.mem_range.2 hk, by simp [h]⟩
theorem all_go {f : Nat → Bool} {n : Nat} (h : ∀ i, i < n → f i = true) : (List.range n).all f = true := List.all_eq_true.2 fun i hi => h i (List.mem_range.1 hi)
theorem cyc_err {g : Gr} {p : Pt} {cy : List Int} (h : p.err g ≠ 0) : cycOk g p cy = false := by simp [cycOk, h]
theorem cyc_nil {g : Gr} {p : Pt} : cycOk g p [] = false := by simp [cycOk]
theorem cyc_dart {g : Gr} {p : Pt} {cy : List Int} {k : Nat} (hk : k < cy.length) (h : dartAt p cy k = false) : cycOk g p cy = false := by
  unfold cycOk; rw [all_stop hk h]; simp
theorem cyc_at {g : Gr} {p : Pt} {cy : List Int} {k : Nat} (hk : k < cy.length) (h : cycAt g cy k = false) : cycOk g p cy = false := by
  unfold cycOk; rw [all_stop hk h]; simp
theorem cyc_ok {g : Gr} {p : Pt} {cy : List Int} (h0 : p.err g = 0) (h1 : 0 < cy.length) (h2 : ∀ k, k < cy.length → dartAt p cy k = true) (h3 : ∀ k, k < cy.length → cycAt g cy k = true) : cycOk g p cy = true := by
  unfold cycOk
  rw [all_go h2, all_go h3, decide_eq_true h0]
  cases cy with
  | nil => simp at h1
  | cons a l => rfl
end Plain

theorem leavesS_any (v : Value) (g : Plain.Gr) (d : Nat) (w : World) (hd : d / 2 < g.e.length) (hm : g.e.length < 4294967296) (h : GrAt w v g) :
    Calls Try.prog 21 #[v, .int .i64 d] w fun e w' => e = .returned (.int .i64 (g.tail d)) ∧ Chg [] w w' := by
  obtain ⟨eo, cap, rfl, -, -, -, hcell⟩ := h
  obtain ⟨b, off, rfl, hc0, hc1⟩ := hcell (d / 2) hd
  have HC1 := Lib.hid ((Chg.refl [] w).alloc (.cells #[.int .i64 g.n, .slice (some ⟨b, off, none⟩) g.e.length cap] 24))
  obtain ⟨e, he⟩ : ∃ e, d / 2 = e := ⟨_, rfl⟩
  rw [he] at hd hc0 hc1
  have c0 := fun o => cellNew hc0 o
  have c1 := fun o => cellNew hc1 o
  clear hcell hc0 hc1
  rcases (show d = 2 * e ∨ d = 2 * e + 1 by omega) with rfl | rfl
  · obtain ⟨q1, q2⟩ := quo_even e
    have HE := Lib.hid (dart_even g e).1
    rw [HE.out]
    clear he
    generalize ((2 * e : Nat) : Int) = dd at *
    generalize (g.ends e).1 = x at *
    generalize (g.ends e).2 = y at *
    go_enter Try.func21, Try.ntmps21
    go_wp2
    go_ret
    exact ⟨rfl, HC1.out⟩
  · obtain ⟨q1, q2⟩ := quo_odd e
    have HE := Lib.hid (dart_odd g e).1
    rw [HE.out]
    clear he
    generalize ((2 * e + 1 : Nat) : Int) = dd at *
    generalize (g.ends e).1 = x at *
    generalize (g.ends e).2 = y at *
    go_enter Try.func21, Try.ntmps21
    go_wp2
    go_ret
    exact ⟨rfl, HC1.out⟩
end Go.Proofs.Ytfgbkpbakignhaa
/- Things in groups, in plain words: a list of things, and of each the place of the first of its group. No program here. -/
namespace Go.Proofs.Ytfgbkpbakignhaa

/-- Things, and of each place the place of its group's first one. -/
structure St where
  all : List Int
  grp : List Nat

/-- The place of a thing. -/
def pos (l : List Int) (x : Int) : Option Int := if x ∈ l then some ((l.idxOf x : Nat) : Int) else none

theorem pos_some {l : List Int} {x : Int} (h : x ∈ l) : pos l x = some ((l.idxOf x : Nat) : Int) := if_pos h
theorem pos_none {l : List Int} {x : Int} (h : x ∉ l) : pos l x = none := if_neg h

theorem pos_snoc {l : List Int} {x : Int} (h : x ∉ l) : (fun y => if y = x then some ((l.length : Nat) : Int) else pos l y) = pos (l ++ [x]) := by
  funext y
  by_cases e : y = x
  · subst e
    simp [pos, List.idxOf_append, h]
  · by_cases hy : y ∈ l
    · simp [pos, e, hy, List.idxOf_append]
    · simp [pos, e, hy]

def St.put (s : St) (x : Int) : St := if x ∈ s.all then s else ⟨s.all ++ [x], s.grp ++ [s.all.length]⟩

theorem beq_cast (a b : Nat) : ((a : Int) == (b : Int)) = (a == b) := by
  by_cases h : a = b
  · subst h; simp
  · rw [beq_eq_false_iff_ne.2 (by omega), beq_eq_false_iff_ne.2 h]

/-- How many groups. -/
def St.count (s : St) : Nat := (List.range s.grp.length).countP fun i => s.grp.getD i 0 == i

/-- The group of a place. -/
def St.hd (s : St) (i : Nat) : Nat := s.grp.getD i 0

/-- 'up' leads each place to its group's first one. -/
def Up (up grp : List Nat) : Prop := up.length = grp.length ∧ ∀ i, i < up.length → up.getD i 0 ≤ i ∧ grp.getD i 0 = if up.getD i 0 = i then i else grp.getD (up.getD i 0) 0

theorem Up.le {up grp : List Nat} (h : Up up grp) : ∀ i, i < up.length → grp.getD i 0 ≤ i ∧ up.getD (grp.getD i 0) 0 = grp.getD i 0 := by
  intro i
  induction i using Nat.strongRecOn with
  | _ i ih =>
    intro hi
    obtain ⟨h1, h2⟩ := h.2 i hi
    by_cases e : up.getD i 0 = i
    · rw [if_pos e] at h2
      rw [h2]
      exact ⟨Nat.le_refl _, e⟩
    · rw [if_neg e] at h2
      have := ih (up.getD i 0) (by omega) (by omega)
      rw [h2]
      exact ⟨by omega, this.2⟩

theorem Up.fix {up grp : List Nat} (h : Up up grp) {i : Nat} (hi : i < up.length) (e : up.getD i 0 = i) : grp.getD i 0 = i := by
  have := (h.2 i hi).2
  rwa [if_pos e] at this

theorem Up.own {up grp : List Nat} (h : Up up grp) {i : Nat} (hi : i < up.length) : grp.getD (grp.getD i 0) 0 = grp.getD i 0 := by
  have := h.le i hi
  exact h.fix (by omega) this.2

theorem Up.next {up grp : List Nat} (h : Up up grp) {i : Nat} (hi : i < up.length) : grp.getD (up.getD i 0) 0 = grp.getD i 0 := by
  have := (h.2 i hi).2
  by_cases e : up.getD i 0 = i
  · rw [e]
  · rw [if_neg e] at this
    exact this.symm

theorem getD_set (l : List Nat) (i v j : Nat) (hi : i < l.length) : (l.set i v).getD j 0 = if j = i then v else l.getD j 0 := by
  by_cases e : j = i
  · subst e; simp [hi]
  · simp [List.getD, List.getElem?_set_ne (Ne.symm e), e]

/-- A step that halves the way. -/
theorem Up.halve {up grp : List Nat} (h : Up up grp) {i : Nat} (hi : i < up.length) (e : up.getD i 0 ≠ i) : Up (up.set i (up.getD (up.getD i 0) 0)) grp := by
  have h1 := (h.2 i hi).1
  have h2 := (h.2 (up.getD i 0) (by omega)).1
  refine ⟨by simpa using h.1, fun j hj => ?_⟩
  rw [getD_set _ _ _ _ hi]
  by_cases ej : j = i
  · subst ej
    simp only [if_true]
    rw [if_neg (by omega), h.next (by omega), h.next hi]
    exact ⟨by omega, rfl⟩
  · rw [if_neg ej]
    exact h.2 j (by simpa using hj)

theorem Up.put {up grp : List Nat} (h : Up up grp) : Up (up ++ [up.length]) (grp ++ [grp.length]) := by
  refine ⟨by simp [h.1], fun i hi => ?_⟩
  by_cases e : i = up.length
  · subst e
    simp [h.1]
  · have hi' : i < up.length := by simp at hi; omega
    have h1 := h.2 i hi'
    have e1 : (up ++ [up.length]).getD i 0 = up.getD i 0 := by simp only [List.getD]; rw [List.getElem?_append_left hi']
    have e2 : (grp ++ [grp.length]).getD i 0 = grp.getD i 0 := by have := h.1; simp only [List.getD]; rw [List.getElem?_append_left (by omega)]
    have e3 : (grp ++ [grp.length]).getD (up.getD i 0) 0 = grp.getD (up.getD i 0) 0 := by have := h.1; simp only [List.getD]; rw [List.getElem?_append_left (by simpa [List.getD] using (by omega : up.getD i 0 < grp.length))]
    rw [e1, e2, e3]
    exact h1

/-- Two groups one: the later head becomes the earlier one. -/
def relabel (grp : List Nat) (i j : Nat) : List Nat := grp.map fun g => if g = max i j then min i j else g

theorem getD_map (grp : List Nat) (f : Nat → Nat) (i : Nat) (hi : i < grp.length) : (grp.map f).getD i 0 = f (grp.getD i 0) := by simp [List.getD, hi]

theorem Up.join {up grp : List Nat} (h : Up up grp) {i j : Nat} (hi : i < up.length) (hj : j < up.length) (ei : up.getD i 0 = i) (ej : up.getD j 0 = j) (ne : i ≠ j) : Up (up.set (max i j) (min i j)) (relabel grp i j) := by
  have hl := h.1
  have hm : max i j < up.length := by omega
  refine ⟨by simp [relabel, h.1], fun k hk => ?_⟩
  have hk' : k < up.length := by simpa using hk
  obtain ⟨h1, h2⟩ := h.2 k hk'
  unfold relabel
  rw [getD_set _ _ _ _ hm, getD_map _ _ _ (by omega)]
  have gi := h.fix hi ei
  have gj := h.fix hj ej
  by_cases e : k = max i j
  · subst e
    simp only [if_true]
    have gm : grp.getD (max i j) 0 = max i j := by
      rcases Nat.le_total i j with q | q
      · rw [Nat.max_eq_right q]; exact gj
      · rw [Nat.max_eq_left q]; exact gi
    have gn : grp.getD (min i j) 0 = min i j := by
      rcases Nat.le_total i j with q | q
      · rw [Nat.min_eq_left q]; exact gi
      · rw [Nat.min_eq_right q]; exact gj
    rw [getD_map _ _ _ (by omega), gm, gn, if_pos rfl, if_neg (by omega), if_neg (by omega)]
    exact ⟨by omega, rfl⟩
  · rw [if_neg e, getD_map _ _ _ (by omega), h2]
    refine ⟨h1, ?_⟩
    by_cases q : up.getD k 0 = k
    · rw [if_pos q, if_pos q, if_neg e]
    · rw [if_neg q, if_neg q]

/-- Joined? -/
def St.join (s : St) (x y : Int) : St :=
  let t := (s.put x).put y
  ⟨t.all, relabel t.grp (t.hd (t.all.idxOf x)) (t.hd (t.all.idxOf y))⟩

def St.same (s : St) (x y : Int) : Bool := decide (x ∈ s.all) && decide (y ∈ s.all) && s.hd (s.all.idxOf x) == s.hd (s.all.idxOf y)

theorem relabel_self (grp : List Nat) (i : Nat) : relabel grp i i = grp := by
  unfold relabel
  rw [List.map_congr_left (g := id)]
  · simp
  · intro g _; simp only [Nat.max_self, Nat.min_self, id]; split <;> omega

theorem St.put_in {s : St} {x : Int} (h : x ∈ s.all) : s.put x = s := if_pos h
theorem St.put_new {s : St} {x : Int} (h : x ∉ s.all) : s.put x = ⟨s.all ++ [x], s.grp ++ [s.all.length]⟩ := if_neg h

theorem St.count_put {s : St} {x : Int} (h : x ∉ s.all) (hl : s.all.length = s.grp.length) : (s.put x).count = s.count + 1 := by
  rw [St.put_new h]
  unfold St.count
  simp only [List.length_append, List.length_cons, List.length_nil, Nat.zero_add]
  rw [List.range_succ, List.countP_append]
  congr 1
  · refine List.countP_congr (fun i hi => ?_)
    have hi' : i < s.grp.length := List.mem_range.1 hi
    simp only [List.getD]
    rw [List.getElem?_append_left hi']
  · simp [hl]

theorem St.count_le (s : St) : s.count ≤ s.grp.length := by
  unfold St.count
  have := List.countP_le_length (p := fun i => s.grp.getD i 0 == i) (l := List.range s.grp.length)
  simpa using this

theorem countP_less (p q : Nat → Bool) (m : Nat) (hp : p m = true) (hq : q m = false) (h : ∀ k, k ≠ m → p k = q k) : ∀ n, m < n → (List.range n).countP p = (List.range n).countP q + 1
  | 0, hm => by omega
  | n + 1, hm => by
    rw [List.range_succ, List.countP_append, List.countP_append]
    by_cases e : m = n
    · subst e
      have : (List.range m).countP p = (List.range m).countP q := List.countP_congr (fun k hk => by rw [h k (by have := List.mem_range.1 hk; omega)])
      simp [this, hp, hq]
    · have ih := countP_less p q m hp hq h n (by omega)
      have : p n = q n := h n (Ne.symm e)
      simp only [List.countP_singleton, this, ih]
      omega

theorem St.count_relabel {all : List Int} {grp : List Nat} {i j : Nat} (hi : i < grp.length) (hj : j < grp.length) (ei : grp.getD i 0 = i) (ej : grp.getD j 0 = j) (ne : i ≠ j) :
    St.count ⟨all, grp⟩ = St.count ⟨all, relabel grp i j⟩ + 1 := by
  have gm : grp.getD (max i j) 0 = max i j := by
    rcases Nat.le_total i j with q | q
    · rw [Nat.max_eq_right q]; exact ej
    · rw [Nat.max_eq_left q]; exact ei
  have gn : grp.getD (min i j) 0 = min i j := by
    rcases Nat.le_total i j with q | q
    · rw [Nat.min_eq_left q]; exact ei
    · rw [Nat.min_eq_right q]; exact ej
  unfold St.count
  simp only [show (relabel grp i j).length = grp.length by simp [relabel]]
  refine countP_less _ _ (max i j) (by simp only [gm, beq_self_eq_true]) ?_ ?_ _ (by omega)
  · simp only [relabel]
    rw [getD_map _ _ _ (by omega), gm, if_pos rfl]
    exact beq_eq_false_iff_ne.2 (by omega)
  · intro k hk
    by_cases hl : k < grp.length
    · simp only [relabel]
      rw [getD_map _ _ _ hl]
      by_cases e : grp.getD k 0 = max i j
      · rw [e, if_pos rfl, beq_eq_false_iff_ne.2 (Ne.symm hk)]
        refine (beq_eq_false_iff_ne.2 (fun e2 => ?_)).symm
        rw [← e2, gn] at e
        omega
      · rw [if_neg e]
    · have e1 : grp.getD k 0 = 0 := by simp [List.getD, Nat.not_lt.1 hl]
      have e2 : (relabel grp i j).getD k 0 = 0 := by simp [List.getD, relabel, Nat.not_lt.1 hl]
      rw [e1, e2]

/-- Whether a Join joins. -/
def St.joins (s : St) (x y : Int) : Bool :=
  let t := (s.put x).put y
  t.hd (t.all.idxOf x) != t.hd (t.all.idxOf y)

theorem St.mem_put (s : St) (x : Int) : x ∈ (s.put x).all := by
  by_cases h : x ∈ s.all
  · rwa [St.put_in h]
  · rw [St.put_new h]; simp

theorem St.mem_put_of {s : St} {x : Int} (y : Int) (h : x ∈ s.all) : x ∈ (s.put y).all := by
  by_cases hy : y ∈ s.all
  · rwa [St.put_in hy]
  · rw [St.put_new hy]; simp [h]

theorem St.idx_put_of {s : St} {x : Int} (y : Int) (h : x ∈ s.all) : (s.put y).all.idxOf x = s.all.idxOf x := by
  by_cases hy : y ∈ s.all
  · rw [St.put_in hy]
  · rw [St.put_new hy]; simp [List.idxOf_append, h]

theorem St.len_put (s : St) (x : Int) : s.all.length ≤ (s.put x).all.length ∧ (s.put x).all.length ≤ s.all.length + 1 := by
  by_cases h : x ∈ s.all
  · rw [St.put_in h]; omega
  · rw [St.put_new h]; simp

theorem St.joins_eq (s : St) (x y : Int) : s.joins x y = (((s.put x).put y).hd ((s.put x).all.idxOf x) != ((s.put x).put y).hd (((s.put x).put y).all.idxOf y)) := by
  unfold St.joins
  rw [← St.idx_put_of (s := s.put x) y (s.mem_put x)]

theorem St.join_eq (s : St) (x y : Int) : s.join x y = ⟨((s.put x).put y).all, relabel ((s.put x).put y).grp (((s.put x).put y).hd ((s.put x).all.idxOf x)) (((s.put x).put y).hd (((s.put x).put y).all.idxOf y))⟩ := by
  unfold St.join
  rw [← St.idx_put_of (s := s.put x) y (s.mem_put x)]

/-- What all states keep to. -/
structure St.Ok (s : St) : Prop where
  len : s.all.length = s.grp.length
  nodup : s.all.Nodup
  le : ∀ i, i < s.grp.length → s.hd i ≤ i
  own : ∀ i, i < s.grp.length → s.hd (s.hd i) = s.hd i

/-! ### all groups -/
/-- The heads among the first k places. -/
def St.heads (s : St) (k : Nat) : List Nat := (List.range k).filter fun i => s.hd i == i
/-- The things of head h among the first k places. -/
def St.row (s : St) (k h : Nat) : List Int := ((List.range k).filter fun i => s.hd i == h).map fun i => s.all.getD i 0
/-- The groups of the first k things. -/
def St.gr (s : St) (k : Nat) : List (List Int) := (s.heads k).map (s.row k)
def St.groups (s : St) : List (List Int) := s.gr s.all.length

theorem St.heads_succ (s : St) (k : Nat) : s.heads (k + 1) = if s.hd k = k then s.heads k ++ [k] else s.heads k := by
  unfold St.heads
  rw [List.range_succ, List.filter_append]
  by_cases h : s.hd k = k <;> simp [h]

theorem St.row_succ (s : St) (k h : Nat) : s.row (k + 1) h = if s.hd k = h then s.row k h ++ [s.all.getD k 0] else s.row k h := by
  unfold St.row
  rw [List.range_succ, List.filter_append]
  by_cases e : s.hd k = h <;> simp [e]

theorem St.mem_heads {s : St} {k h : Nat} : h ∈ s.heads k ↔ h < k ∧ s.hd h = h := by simp [St.heads]

theorem St.heads_nodup (s : St) (k : Nat) : (s.heads k).Nodup := List.Pairwise.filter _ List.nodup_range

/-- The groups before the thing at place k goes in. -/
def St.mid (s : St) (k : Nat) : List (List Int) := if s.hd k = k then s.gr k ++ [[]] else s.gr k

/-- Where the thing at place k goes. -/
def St.rank (s : St) (k : Nat) : Nat := (s.heads (k + 1)).idxOf (s.hd k)

theorem St.rank_lt {s : St} (hs : s.Ok) {k : Nat} (hk : k < s.grp.length) : s.rank k < (s.heads (k + 1)).length :=
  List.idxOf_lt_length_iff.2 (St.mem_heads.2 ⟨by have := hs.le k hk; omega, hs.own k hk⟩)

theorem St.mid_length (s : St) (k : Nat) : (s.mid k).length = (s.heads (k + 1)).length := by
  unfold St.mid
  rw [s.heads_succ]
  by_cases h : s.hd k = k <;> simp [h, St.gr]

theorem St.row_none {s : St} (hs : s.Ok) {k : Nat} (hk : k < s.grp.length) : s.row k k = [] := by
  unfold St.row
  rw [List.map_eq_nil_iff, List.filter_eq_nil_iff]
  intro i hi
  have hi' : i < k := List.mem_range.1 hi
  have := hs.le i (by omega)
  simp; omega

theorem St.gr_succ {s : St} (hs : s.Ok) {k : Nat} (hk : k < s.grp.length) : s.gr (k + 1) = (s.mid k).set (s.rank k) ((s.mid k).getD (s.rank k) [] ++ [s.all.getD k 0]) := by
  have hr := St.rank_lt hs hk
  have hmid : s.mid k = (s.heads (k + 1)).map (s.row k) := by
    unfold St.mid St.gr
    rw [s.heads_succ]
    by_cases h : s.hd k = k
    · rw [if_pos h, if_pos h, List.map_append, List.map_singleton, St.row_none hs hk]
    · rw [if_neg h, if_neg h]
  have hnd := s.heads_nodup (k + 1)
  have hget : (s.heads (k + 1))[s.rank k]'hr = s.hd k := List.getElem_idxOf hr
  unfold St.gr
  rw [hmid]
  apply List.ext_getElem
  · simp
  · intro i h1 h2
    simp only [List.length_map] at h1
    rw [List.getElem_map, s.row_succ]
    by_cases e : i = s.rank k
    · subst e
      rw [List.getElem_set_self, if_pos hget.symm, hget]
      simp [List.getD, hr, hget]
    · rw [List.getElem_set_ne (Ne.symm e), List.getElem_map, if_neg]
      intro e1
      apply e
      have : (s.heads (k + 1))[i] = (s.heads (k + 1))[s.rank k]'hr := by rw [hget]; exact e1.symm
      exact (List.getElem_inj hnd).1 this

/-- Where the group of a head goes does not turn. -/
theorem St.idx_heads {s : St} {k h : Nat} (hh : h < k) (e : s.hd h = h) : (s.heads (k + 1)).idxOf h = (s.heads k).idxOf h := by
  rw [s.heads_succ]
  by_cases q : s.hd k = k
  · rw [if_pos q, List.idxOf_append, if_pos (St.mem_heads.2 ⟨hh, e⟩)]
  · rw [if_neg q]

theorem St.idx_new {s : St} {k : Nat} (e : s.hd k = k) : (s.heads (k + 1)).idxOf k = (s.heads k).length := by
  rw [s.heads_succ, if_pos e, List.idxOf_append, if_neg (fun h => by have := (St.mem_heads.1 h).1; omega)]
  simp

theorem St.rank_new {s : St} {k : Nat} (e : s.hd k = k) : s.rank k = (s.heads k).length := by
  unfold St.rank
  rw [e]
  exact St.idx_new e

theorem St.rank_old {s : St} {k : Nat} (h1 : s.hd k < k) (h2 : s.hd (s.hd k) = s.hd k) : s.rank k = (s.heads k).idxOf (s.hd k) := by
  unfold St.rank
  exact St.idx_heads h1 h2

theorem St.heads_le (s : St) (k : Nat) : (s.heads k).length ≤ k := by
  have := List.length_filter_le (fun i => s.hd i == i) (List.range k)
  simpa [St.heads] using this

theorem St.row_le (s : St) (k h : Nat) : (s.row k h).length ≤ k := by
  have := List.length_filter_le (fun i => s.hd i == h) (List.range k)
  simpa [St.row] using this

theorem St.gr_len (s : St) (k q : Nat) : ((s.gr k).getD q []).length ≤ k := by
  unfold St.gr
  simp only [List.getD, List.getElem?_map]
  cases (s.heads k)[q]? with
  | none => simp
  | some h => exact s.row_le k h

theorem St.mid_len (s : St) (k q : Nat) : ((s.mid k).getD q []).length ≤ k := by
  unfold St.mid
  by_cases h : s.hd k = k
  · rw [if_pos h]
    have := s.gr_len k q
    by_cases e : q < (s.gr k).length
    · simp only [List.getD] at this ⊢
      rwa [List.getElem?_append_left e]
    · simp only [List.getD]
      rw [List.getElem?_append_right (by omega)]
      cases hq : [([] : List Int)][q - (s.gr k).length]? with
      | none => simp
      | some l =>
        have := List.mem_of_getElem? hq
        simp at this
        subst this
        simp
  · rw [if_neg h]; exact s.gr_len k q

end Go.Proofs.Ytfgbkpbakignhaa
