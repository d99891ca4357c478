/- Things in classes: as many as all classes have. No program here. -/
import Derived.WalkKit
import Derived.Test.YtfgbkpbakignhaaVRot
namespace Go.Proofs.Ytfgbkpbakignhaa.Plain
/-- One of the rs alone is met by x. -/
theorem sum_one {β : Type} (f : β → Bool) : ∀ {R : List β}, R.Nodup → (∃ r ∈ R, f r = true) → (∀ r ∈ R, ∀ s ∈ R, f r = true → f s = true → r = s) → (R.map fun r => if f r then 1 else 0).sum = 1
  | [], _, h, _ => by obtain ⟨r, hr, _⟩ := h; simp at hr
  | a :: R, hn, h, hu => by
    rw [List.nodup_cons] at hn
    rw [List.map_cons, List.sum_cons]
    by_cases ha : f a = true
    · rw [if_pos ha]
      have : (R.map fun r => if f r then 1 else 0).sum = 0 := by
        have hz : ∀ r ∈ R, f r = false := fun r hr => by
          cases q : f r with
          | false => rfl
          | true => exact absurd hr (fun hr => hn.1 (by rw [hu a (by simp) r (by simp [hr]) ha q]; exact hr))
        have e : (R.map fun r => if f r then 1 else 0) = R.map fun _ => 0 := List.map_congr_left fun r hr => by rw [hz r hr]; rfl
        rw [e]
        clear e hz hu h hn
        induction R with
        | nil => rfl
        | cons _ _ ih => rw [List.map_cons, List.sum_cons, ih]
      rw [this]
    · rw [if_neg ha, Nat.zero_add]
      obtain ⟨r, hr, hf⟩ := h
      refine sum_one f hn.2 ⟨r, ?_, hf⟩ (fun r hr s hs => hu r (by simp [hr]) s (by simp [hs]))
      rcases List.mem_cons.1 hr with rfl | q
      · exact absurd hf ha
      · exact q

theorem sum_add {β : Type} (f g : β → Nat) : ∀ R : List β, (R.map fun r => f r + g r).sum = (R.map f).sum + (R.map g).sum
  | [] => rfl
  | a :: R => by simp only [List.map_cons, List.sum_cons, sum_add f g R]; omega

/-- Things in classes: as many as all classes have. -/
theorem sum_classes {α β : Type} (f : α → β → Bool) {R : List β} (hn : R.Nodup) : ∀ {L : List α}, (∀ x ∈ L, (∃ r ∈ R, f x r = true) ∧ ∀ r ∈ R, ∀ s ∈ R, f x r = true → f x s = true → r = s) → (R.map fun r => (L.filter fun x => f x r).length).sum = L.length
  | [], _ => by
    clear hn
    induction R with
    | nil => rfl
    | cons _ _ ih => simpa using ih
  | x :: L, h => by
    have e : (R.map fun r => ((x :: L).filter fun x => f x r).length) = R.map fun r => (if f x r then 1 else 0) + (L.filter fun x => f x r).length := by
      refine List.map_congr_left fun r _ => ?_
      rw [List.filter_cons]
      split <;> simp <;> omega
    rw [e, sum_add, sum_one (f x) hn (h x (by simp)).1 (h x (by simp)).2, sum_classes f hn fun y hy => h y (by simp [hy])]
    simp
    omega
end Go.Proofs.Ytfgbkpbakignhaa.Plain
/- Pieces on spheres: vertices, edges and walks. No program here. -/
namespace Go.Proofs.Ytfgbkpbakignhaa.Plain
/-- A right part, in what is used of it. -/
structure PartOk (g : Gr) (p : Pt) : Prop where
  vn : p.v.Nodup
  en : p.e.Nodup
  vr : ∀ v ∈ p.v, 0 ≤ v ∧ v < g.n
  er : ∀ e ∈ p.e, 0 ≤ e
  ends : ∀ e ∈ p.e, (g.at e).1 ∈ p.v ∧ (g.at e).2 ∈ p.v

theorem mem_getD {l : List Int} {x : Int} (h : x ∈ l) : ∃ i, i < l.length ∧ l.getD i 0 = x := by
  obtain ⟨i, hi, rfl⟩ := List.getElem_of_mem h
  exact ⟨i, hi, by simp [List.getD, hi]⟩

theorem Pt.ok_of_err {g : Gr} {p : Pt} (h : p.err g = 0) : PartOk g p := by
  obtain ⟨h1, h2, h3, h4⟩ := Pt.err_ok h
  refine ⟨rises_nodup h2, rises_nodup h3, fun v hv => ?_, fun e he => ?_, fun e he => ?_⟩
  · obtain ⟨i, hi, rfl⟩ := mem_getD hv
    have := rises_at h2 hi
    exact ⟨this.1, this.2.1⟩
  · obtain ⟨i, hi, rfl⟩ := mem_getD he
    exact (rises_at h3 hi).1
  · obtain ⟨i, hi, rfl⟩ := mem_getD he
    exact h4 i hi

theorem PartOk.tail_mem {g : Gr} {p : Pt} (h : PartOk g p) {d : Int} (hd : d ∈ p.darts) : g.tail d ∈ p.v ∧ g.head d ∈ p.v := by
  have := h.ends _ (mem_darts.1 hd)
  unfold Gr.tail Gr.head
  split
  · exact this
  · exact this.symm

theorem near_dart {g : Gr} {p : Pt} {d : Int} (hd : d ∈ p.darts) : Near g p (g.tail d) (g.head d) := by
  refine ⟨d / 2, mem_darts.1 hd, ?_⟩
  unfold Gr.tail Gr.head
  split
  · exact Or.inl rfl
  · exact Or.inr rfl

theorem comp_closed {g : Gr} {p : Pt} (h : PartOk g p) (a : Int) : Closed g p (comp g p a) := by
  intro d hd ht
  obtain ⟨_, h2⟩ := mem_comp.1 ht
  have hh := (h.tail_mem hd).2
  exact mem_comp.2 ⟨hh, h2.step (near_dart hd) (by have := h.vr _ hh; omega)⟩

theorem comp_nodup {g : Gr} {p : Pt} (h : PartOk g p) (a : Int) : (comp g p a).Nodup := by
  classical
  exact List.Pairwise.filter _ h.vn

theorem roots_nodup {g : Gr} {p : Pt} (h : PartOk g p) : (roots g p).Nodup := by
  classical
  exact List.Pairwise.filter _ h.vn

theorem tail_even (g : Gr) (e : Int) : g.tail (2 * e) = (g.at e).1 ∧ g.head (2 * e) = (g.at e).2 := by
  unfold Gr.tail Gr.head
  rw [if_pos (by omega), if_pos (by omega), show 2 * e / 2 = e by omega]
  exact ⟨rfl, rfl⟩

/-- A piece's edges: those that begin in it. -/
theorem sub_edges {g : Gr} {p : Pt} (h : PartOk g p) (a : Int) : (p.sub g (comp g p a)).e = p.e.filter fun e => decide (g.tail (2 * e) ∈ comp g p a) := by
  unfold Pt.sub
  refine List.filter_congr fun e he => ?_
  have hd : 2 * e ∈ p.darts := mem_darts.2 (by rwa [show 2 * e / 2 = e by omega])
  obtain ⟨e1, e2⟩ := tail_even g e
  have hc := closed_back (comp_closed h a) hd
  rw [e1, e2] at hc
  rw [e1]
  by_cases q : (g.at e).1 ∈ comp g p a
  · have := hc.2 q
    simp [q, this]
  · simp [q]

theorem sub_verts {g : Gr} {p : Pt} (a : Int) : (p.sub g (comp g p a)).v.length = (comp g p a).length := by
  unfold Pt.sub
  classical
  have : p.v.filter (fun v => decide (v ∈ comp g p a)) = comp g p a := by
    unfold comp
    refine List.filter_congr fun v hv => ?_
    simp [hv]
  rw [this]

/-- A walk's corner is a vertex of the part. -/
theorem corner_mem {g : Gr} {p : Pt} {turn : List (List Int)} {W : List Face} (h : PartOk g p) (hW : FacesOk g p turn W) : ∀ f ∈ W, f.corner g ∈ p.v := by
  intro f hf
  obtain ⟨k, l⟩ := f
  cases l with
  | nil =>
    have : k ∈ (W.filter fun f => f.2.isEmpty).map (·.1) := List.mem_map.2 ⟨(k, []), List.mem_filter.2 ⟨hf, rfl⟩, rfl⟩
    obtain ⟨v, hv, e⟩ := List.mem_map.1 (hW.lone.mem_iff.1 this)
    show -1 - k ∈ p.v
    rw [← e, show -1 - (-1 - v) = v by omega]
    exact (List.mem_filter.1 hv).1
  | cons d l =>
    have e : k = d := hW.key (k, d :: l) hf d l rfl
    subst e
    have : k ∈ p.darts := hW.all.mem_iff.1 (List.mem_flatten.2 ⟨k :: l, List.mem_map.2 ⟨(k, k :: l), List.mem_filter.2 ⟨hf, rfl⟩, rfl⟩, by simp⟩)
    exact (h.tail_mem this).1

/-- The genus of a piece, as Go reckons it. -/
noncomputable def genusAt (g : Gr) (p : Pt) (W : List Face) (r : Int) : Int :=
  (2 - ((comp g p r).length : Int) + ((p.e.filter fun e => decide (g.tail (2 * e) ∈ comp g p r)).length : Int) - ((W.filter fun f => decide (f.corner g ∈ comp g p r)).length : Int)).tdiv 2

theorem genus_zero {g : Gr} {p : Pt} {turn : List (List Int)} {W : List Face} (h : PartOk g p) (ht : TurnsOk g p turn) (hW : FacesOk g p turn W) {r : Int} (hz : genusAt g p W r = 0) :
    (comp g p r).length + (W.filter fun f => decide (f.corner g ∈ comp g p r)).length = 2 + (p.e.filter fun e => decide (g.tail (2 * e) ∈ comp g p r)).length := by
  have hev := piece_even ht h.en h.vn (fun d hd => h.vr _ (h.tail_mem hd).1) hW (comp_nodup h r) (fun v hv => ⟨(mem_comp.1 hv).1, h.vr _ (mem_comp.1 hv).1⟩) (comp_closed h r)
  unfold genusAt at hz
  have h2 := Int.natAbs_tdiv (2 - ((comp g p r).length : Int) + ((p.e.filter fun e => decide (g.tail (2 * e) ∈ comp g p r)).length : Int) - ((W.filter fun f => decide (f.corner g ∈ comp g p r)).length : Int)) 2
  rw [hz] at h2
  generalize (comp g p r).length = a at *
  generalize (p.e.filter fun e => decide (g.tail (2 * e) ∈ comp g p r)).length = b at *
  generalize (W.filter fun f => decide (f.corner g ∈ comp g p r)).length = c at *
  have h3 : (2 - (a : Int) + (b : Int) - (c : Int)).natAbs / 2 = 0 := h2.symm
  omega

theorem class_sum {α : Type} {g : Gr} {p : Pt} (h : PartOk g p) (f : α → Int) (L : List α) (hf : ∀ x ∈ L, f x ∈ p.v) : ((roots g p).map fun r => (L.filter fun x => decide (f x ∈ comp g p r)).length).sum = L.length := by
  refine sum_classes (fun x r => decide (f x ∈ comp g p r)) (roots_nodup h) fun x hx => ⟨?_, fun r hr s hs h1 h2 => ?_⟩
  · obtain ⟨r, hr, hc⟩ := root_of (g := g) (fun v hv => (h.vr v hv).1) (hf x hx)
    exact ⟨r, hr, decide_eq_true (mem_comp.2 ⟨hf x hx, hc⟩)⟩
  · exact root_one (fun v hv => (h.vr v hv).1) hr hs (mem_comp.1 (of_decide_eq_true h1)).2 (mem_comp.1 (of_decide_eq_true h2)).2

theorem sum_congr {α : Type} {f g : α → Nat} : ∀ {R : List α}, (∀ r ∈ R, f r = g r) → (R.map f).sum = (R.map g).sum
  | [], _ => rfl
  | a :: R, h => by rw [List.map_cons, List.map_cons, List.sum_cons, List.sum_cons, h a (by simp), sum_congr fun r hr => h r (by simp [hr])]

theorem sum_const (c : Nat) {α : Type} : ∀ R : List α, (R.map fun _ => c).sum = c * R.length
  | [] => rfl
  | a :: R => by rw [List.map_cons, List.sum_cons, sum_const c R, List.length_cons, Nat.mul_succ]; omega

/-- EULER: of turns all of whose pieces are on spheres. -/
theorem euler {g : Gr} {p : Pt} {turn : List (List Int)} {W : List Face} (h : PartOk g p) (ht : TurnsOk g p turn) (hW : FacesOk g p turn W) (hz : ∀ r ∈ roots g p, genusAt g p W r = 0) :
    p.v.length + W.length = 2 * (roots g p).length + p.e.length := by
  have e1 := class_sum h (fun v => v) p.v (fun _ hv => hv)
  have e2 := class_sum h (fun e => g.tail (2 * e)) p.e (fun e he => (h.tail_mem (mem_darts.2 (by rwa [show 2 * e / 2 = e by omega]))).1)
  have e3 := class_sum h (fun f : Face => f.corner g) W (corner_mem h hW)
  have e0 : (roots g p).map (fun r => (p.v.filter fun v => decide (v ∈ comp g p r)).length) = (roots g p).map fun r => (comp g p r).length := List.map_congr_left fun r _ => sub_verts r
  have e4 := sum_congr (R := roots g p) (f := fun r => (comp g p r).length + (W.filter fun f => decide (f.corner g ∈ comp g p r)).length) (g := fun r => 2 + (p.e.filter fun e => decide (g.tail (2 * e) ∈ comp g p r)).length) (fun r hr => genus_zero h ht hW (hz r hr))
  rw [sum_add, sum_add, sum_const] at e4
  rw [e0] at e1
  omega
end Go.Proofs.Ytfgbkpbakignhaa.Plain
/- Lists that are turns, met dart by dart. No program here. -/
namespace Go.Proofs.Ytfgbkpbakignhaa.Plain

theorem len_le_of_sub : ∀ {l m : List Int}, l.Nodup → (∀ x ∈ l, x ∈ m) → l.length ≤ m.length
  | [], _, _, _ => Nat.zero_le _
  | x :: l, m, h, hs => by
    rw [List.nodup_cons] at h
    obtain ⟨a, b, rfl⟩ := List.append_of_mem (hs x (by simp))
    have h2 := len_le_of_sub h.2 (m := a ++ b) (fun y hy => by
      have h3 := hs y (by simp [hy])
      have h4 : y ≠ x := fun e => h.1 (e ▸ hy)
      simp only [List.mem_append, List.mem_cons] at h3 ⊢
      rcases h3 with q | q | q
      · exact Or.inl q
      · exact absurd q h4
      · exact Or.inr q)
    simp only [List.length_append, List.length_cons] at h2 ⊢
    omega

/-- The darts in the first k rows and the first j of the next. -/
def seen (turn : List (List Int)) (k j : Nat) : List Int := (turn.take k).flatten ++ (turn.getD k []).take j

theorem take_snoc {l : List Int} {j : Nat} (hj : j < l.length) : l.take (j + 1) = l.take j ++ [l.getD j 0] := by
  rw [List.take_succ_eq_append_getElem hj]
  simp [List.getD, hj]
theorem nodup_flat {L : List (List Int)} : L.flatten.Nodup ↔ (∀ l ∈ L, l.Nodup) ∧ L.Pairwise fun a b => ∀ x ∈ a, ∀ y ∈ b, x ≠ y := List.pairwise_flatten
theorem seen_zero (turn : List (List Int)) : seen turn 0 0 = [] := by simp [seen]
theorem seen_next {turn : List (List Int)} {k j : Nat} (hj : j < (turn.getD k []).length) : seen turn k (j + 1) = seen turn k j ++ [(turn.getD k []).getD j 0] := by
  unfold seen
  rw [List.append_assoc, take_snoc hj]
theorem seen_row {turn : List (List Int)} {k : Nat} (hk : k < turn.length) : seen turn (k + 1) 0 = seen turn k (turn.getD k []).length := by
  unfold seen
  rw [List.take_succ_eq_append_getElem hk, List.take_zero, List.append_nil, List.flatten_append, List.take_length]
  simp [List.getD, hk]
theorem seen_all (turn : List (List Int)) : seen turn turn.length 0 = turn.flatten := by simp [seen]

/-- All that has been met is right. -/
structure Good (g : Gr) (p : Pt) (turn : List (List Int)) (k j : Nat) : Prop where
  nodup : (seen turn k j).Nodup
  rows : ∀ i, i < k → ∀ d ∈ turn.getD i [], d ∈ p.darts ∧ g.tail d = (i : Int)
  last : ∀ d ∈ (turn.getD k []).take j, d ∈ p.darts ∧ g.tail d = (k : Int)

theorem Good.start (g : Gr) (p : Pt) (turn : List (List Int)) : Good g p turn 0 0 := ⟨by rw [seen_zero]; exact List.nodup_nil, fun i hi => by omega, by simp⟩
theorem Good.next {g : Gr} {p : Pt} {turn : List (List Int)} {k j : Nat} (h : Good g p turn k j) (hj : j < (turn.getD k []).length) (hd : (turn.getD k []).getD j 0 ∈ p.darts) (ht : g.tail ((turn.getD k []).getD j 0) = (k : Int)) (hn : (turn.getD k []).getD j 0 ∉ seen turn k j) : Good g p turn k (j + 1) := by
  refine ⟨?_, h.rows, fun d hd' => ?_⟩
  · rw [seen_next hj, List.nodup_append]
    exact ⟨h.nodup, by simp, fun a ha b hb e => by simp at hb; subst hb; subst e; exact hn ha⟩
  · rw [take_snoc hj, List.mem_append] at hd'
    rcases hd' with q | q
    · exact h.last d q
    · have e : d = (turn.getD k []).getD j 0 := List.mem_singleton.1 q
      rw [e]; exact ⟨hd, ht⟩
theorem Good.row {g : Gr} {p : Pt} {turn : List (List Int)} {k : Nat} (h : Good g p turn k (turn.getD k []).length) (hk : k < turn.length) : Good g p turn (k + 1) 0 := by
  refine ⟨by rw [seen_row hk]; exact h.nodup, fun i hi d hd => ?_, by simp⟩
  by_cases e : i < k
  · exact h.rows i e d hd
  · obtain rfl : i = k := by omega
    exact h.last d (by rw [List.take_length]; exact hd)

theorem mem_turn {turn : List (List Int)} {v : Nat} {d : Int} (h : d ∈ turn.getD v []) : d ∈ turn.flatten := by
  by_cases hv : v < turn.length
  · refine List.mem_flatten.2 ⟨turn.getD v [], ?_, h⟩
    simp [List.getD, hv]
  · simp [List.getD, Nat.not_lt.1 hv] at h

theorem turn_of_mem {turn : List (List Int)} {d : Int} (h : d ∈ turn.flatten) : ∃ v, v < turn.length ∧ d ∈ turn.getD v [] := by
  obtain ⟨l, hl, hd⟩ := List.mem_flatten.1 h
  obtain ⟨i, hi, rfl⟩ := List.getElem_of_mem hl
  exact ⟨i, hi, by simpa [List.getD, hi] using hd⟩

/-- All have been met, and are as many as there are darts. -/
theorem Good.turns {g : Gr} {p : Pt} {turn : List (List Int)} (_hp : PartOk g p) (hn : (turn.length : Int) = g.n) (h : Good g p turn turn.length 0) (hl : turn.flatten.length = 2 * p.e.length) : TurnsOk g p turn := by
  have hnd : turn.flatten.Nodup := by have := h.nodup; rwa [seen_all] at this
  have hsub : ∀ d ∈ turn.flatten, d ∈ p.darts := fun d hd => by
    obtain ⟨v, hv, hd⟩ := turn_of_mem hd
    exact (h.rows v hv d hd).1
  have hsup : ∀ d ∈ p.darts, d ∈ turn.flatten := fun d hd => by
    refine Classical.byContradiction fun hno => ?_
    have := len_le_of_sub (l := d :: turn.flatten) (m := p.darts) (by rw [List.nodup_cons]; exact ⟨hno, hnd⟩) (fun x hx => by
      rcases List.mem_cons.1 hx with q | q
      · rw [q]; exact hd
      · exact hsub x q)
    rw [List.length_cons, darts_length] at this
    omega
  refine ⟨hn, fun v => ?_, fun v hv0 hv1 d => ⟨fun hd => ?_, fun hd => ?_⟩⟩
  · unfold turnAt
    by_cases hv : v.toNat < turn.length
    · have : turn.getD v.toNat [] ∈ turn := by simp [List.getD, hv]
      exact (nodup_flat.1 hnd).1 _ this
    · simp [List.getD, Nat.not_lt.1 hv]
  · have := h.rows v.toNat (by omega) d hd
    refine ⟨this.1, by omega⟩
  · obtain ⟨u, hu, hdu⟩ := turn_of_mem (hsup d hd.1)
    have := (h.rows u hu d hdu).2
    have e : u = v.toNat := by omega
    subst e
    exact hdu

theorem TurnsOk.row {g : Gr} {p : Pt} {turn : List (List Int)} (h : TurnsOk g p turn) {i : Nat} (hi : i < turn.length) {d : Int} (hd : d ∈ turn.getD i []) : d ∈ p.darts ∧ g.tail d = (i : Int) := by
  have := (h.mem (i : Int) (by omega) (by have := h.len; omega) d).1 (by unfold turnAt; simpa using hd)
  exact this

theorem TurnsOk.flat_nodup {g : Gr} {p : Pt} {turn : List (List Int)} (h : TurnsOk g p turn) : turn.flatten.Nodup := by
  rw [nodup_flat]
  refine ⟨fun l hl => ?_, ?_⟩
  · obtain ⟨i, hi, rfl⟩ := List.getElem_of_mem hl
    have := h.nodup (i : Int)
    unfold turnAt at this
    simpa [List.getD, hi] using this
  · rw [List.pairwise_iff_getElem]
    intro i j hi hj hij x hx y hy e
    subst e
    have h1 := (h.row hi (d := x) (by simpa [List.getD, hi] using hx)).2
    have h2 := (h.row hj (d := x) (by simpa [List.getD, hj] using hy)).2
    omega

theorem TurnsOk.flat_len {g : Gr} {p : Pt} {turn : List (List Int)} (hp : PartOk g p) (h : TurnsOk g p turn) : turn.flatten.length = 2 * p.e.length := by
  rw [← darts_length]
  refine Nat.le_antisymm (len_le_of_sub h.flat_nodup fun d hd => ?_) (len_le_of_sub (darts_nodup hp.en) fun d hd => ?_)
  · obtain ⟨v, hv, hd⟩ := turn_of_mem hd
    exact (h.row hv hd).1
  · have hv := hp.vr _ (hp.tail_mem hd).1
    have h1 : d ∈ turnAt turn (g.tail d) := (h.mem (g.tail d) hv.1 hv.2 d).2 ⟨hd, rfl⟩
    exact mem_turn h1

theorem seen_sub (turn : List (List Int)) (k j : Nat) : ∃ r, turn.flatten = seen turn k j ++ r := by
  by_cases hk : k < turn.length
  · refine ⟨(turn.getD k []).drop j ++ (turn.drop (k + 1)).flatten, ?_⟩
    have e : turn = turn.take k ++ turn.getD k [] :: turn.drop (k + 1) := by
      have : turn.getD k [] = turn[k] := by simp [List.getD, hk]
      rw [this, List.getElem_cons_drop, List.take_append_drop]
    conv => lhs; rw [e]
    unfold seen
    rw [List.flatten_append, List.flatten_cons, List.append_assoc, ← List.append_assoc ((turn.getD k []).take j), List.take_append_drop]
  · refine ⟨[], ?_⟩
    unfold seen
    rw [List.take_of_length_le (by omega)]
    simp [List.getD, Nat.not_lt.1 hk]

/-- In turns nothing is met twice. -/
theorem TurnsOk.once {g : Gr} {p : Pt} {turn : List (List Int)} (h : TurnsOk g p turn) {k j : Nat} (hj : j < (turn.getD k []).length) : (turn.getD k []).getD j 0 ∉ seen turn k j := by
  intro hm
  obtain ⟨r, hr⟩ := seen_sub turn k (j + 1)
  have hn := h.flat_nodup
  rw [hr, seen_next hj, List.nodup_append] at hn
  have := hn.1
  rw [List.nodup_append] at this
  exact this.2.2 _ hm _ (by simp) rfl

open Classical in
/-- The error of turns. -/
noncomputable def turnErr (g : Gr) (p : Pt) (turn : List (List Int)) : Int := if p.err g ≠ 0 then p.err g else if TurnsOk g p turn then 0 else 5

theorem turnErr_part {g : Gr} {p : Pt} {turn : List (List Int)} (h : p.err g ≠ 0) : turnErr g p turn = p.err g := if_pos h
theorem turnErr_bad {g : Gr} {p : Pt} {turn : List (List Int)} (h : p.err g = 0) (ht : ¬ TurnsOk g p turn) : turnErr g p turn = 5 := by
  unfold turnErr; rw [if_neg (by simp [h]), if_neg ht]
theorem turnErr_ok {g : Gr} {p : Pt} {turn : List (List Int)} (h : p.err g = 0) (ht : TurnsOk g p turn) : turnErr g p turn = 0 := by
  unfold turnErr; rw [if_neg (by simp [h]), if_pos ht]
theorem turnErr_zero {g : Gr} {p : Pt} {turn : List (List Int)} (h : turnErr g p turn = 0) : p.err g = 0 ∧ TurnsOk g p turn := by
  by_cases h1 : p.err g = 0
  · refine ⟨h1, Classical.byContradiction fun h2 => ?_⟩
    rw [turnErr_bad h1 h2] at h
    cases h
  · rw [turnErr_part h1] at h; exact absurd h h1

/-- What is known of the darts of the first k edges. -/
def leavesOf (g : Gr) (p : Pt) (k : Nat) : Int → Option Int := fun d => if d ∈ Pt.darts ⟨[], p.e.take k⟩ then some (g.tail d) else none
theorem darts_take {p : Pt} {k : Nat} (hk : k < p.e.length) : Pt.darts ⟨[], p.e.take (k + 1)⟩ = Pt.darts ⟨[], p.e.take k⟩ ++ [2 * p.e.getD k 0, 2 * p.e.getD k 0 + 1] := by
  unfold Pt.darts
  rw [List.take_succ_eq_append_getElem hk, List.flatMap_append]
  simp [List.getD, hk]
theorem leavesOf_zero (g : Gr) (p : Pt) : leavesOf g p 0 = fun _ => none := by funext d; simp [leavesOf, Pt.darts]
theorem leavesOf_all (g : Gr) (p : Pt) : leavesOf g p p.e.length = fun d => if d ∈ p.darts then some (g.tail d) else none := by
  funext d; unfold leavesOf; rw [List.take_length]; rfl
theorem leavesOf_next {g : Gr} {p : Pt} {k e : Nat} (hk : k < p.e.length) (he : p.e.getD k 0 = (e : Int)) :
    leavesOf g p (k + 1) = fun y => if y = 2 * (e : Int) + 1 then some (g.ends e).2 else if y = 2 * (e : Int) then some (g.ends e).1 else leavesOf g p k y := by
  funext y
  unfold leavesOf
  rw [darts_take hk, he]
  have t0 : g.tail (2 * (e : Int)) = (g.ends e).1 := by unfold Gr.tail Gr.at; rw [if_pos (by omega)]; congr 2; omega
  have t1 : g.tail (2 * (e : Int) + 1) = (g.ends e).2 := by unfold Gr.tail Gr.at; rw [if_neg (by omega)]; congr 2; omega
  simp only [List.mem_append, List.mem_cons, List.not_mem_nil, or_false]
  by_cases h1 : y = 2 * (e : Int) + 1
  · subst h1; simp [t1]
  · by_cases h2 : y = 2 * (e : Int)
    · subst h2; rw [if_neg h1, if_pos rfl, t0, if_pos (by simp)]
    · simp [h1, h2]
theorem leavesOf_new {g : Gr} {p : Pt} (hp : p.e.Pairwise (· < ·)) {k : Nat} (hk : k < p.e.length) {d : Int} (hd : d / 2 = p.e.getD k 0) : leavesOf g p k d = none := by
  unfold leavesOf
  refine if_neg fun h => ?_
  rw [mem_darts, hd] at h
  obtain ⟨i, hi, e⟩ := List.getElem_of_mem h
  rw [List.length_take] at hi
  rw [List.getElem_take] at e
  have := List.pairwise_iff_getElem.1 hp i k (by omega) hk (by omega)
  rw [e] at this
  simp [List.getD, hk] at this

end Go.Proofs.Ytfgbkpbakignhaa.Plain
/- Turns, told vertex by vertex: as many darts as leave it, each once, all of them. No program here. -/
namespace Go.Proofs.Ytfgbkpbakignhaa.Plain

/-- The darts of a part that leave a vertex. -/
def dartsAt (g : Gr) (p : Pt) (v : Int) : List Int := p.darts.filter fun d => decide (g.tail d = v)
/-- The same, of the first k darts. -/
def dartsTo (g : Gr) (p : Pt) (v : Int) (k : Nat) : List Int := (p.darts.take k).filter fun d => decide (g.tail d = v)
theorem dartsTo_zero (g : Gr) (p : Pt) (v : Int) : dartsTo g p v 0 = [] := by simp [dartsTo]
theorem dartsTo_all (g : Gr) (p : Pt) (v : Int) : dartsTo g p v p.darts.length = dartsAt g p v := by unfold dartsTo dartsAt; rw [List.take_length]
theorem dartsTo_next {g : Gr} {p : Pt} {v : Int} {k : Nat} (hk : k < p.darts.length) : dartsTo g p v (k + 1) = if g.tail (p.darts.getD k 0) = v then dartsTo g p v k ++ [p.darts.getD k 0] else dartsTo g p v k := by
  unfold dartsTo
  rw [take_snoc hk, List.filter_append]
  by_cases h : g.tail (p.darts.getD k 0) = v
  · rw [List.filter_cons_of_pos (by simpa using h), if_pos h]; rfl
  · rw [List.filter_cons_of_neg (by simpa using h), if_neg h]; simp
theorem dartsTo_len (g : Gr) (p : Pt) (v : Int) (k : Nat) : (dartsTo g p v k).length ≤ k :=
  Nat.le_trans (List.length_filter_le _ _) (by rw [List.length_take]; omega)
theorem mem_dartsAt {g : Gr} {p : Pt} {v d : Int} : d ∈ dartsAt g p v ↔ d ∈ p.darts ∧ g.tail d = v := by simp [dartsAt]
theorem dartsAt_nodup {g : Gr} {p : Pt} (h : p.e.Nodup) (v : Int) : (dartsAt g p v).Nodup := (darts_nodup h).filter _
theorem darts_getD {p : Pt} {i : Nat} (hi : i < p.e.length) (s : Nat) (hs : s < 2) : p.darts.getD (2 * i + s) 0 = 2 * p.e.getD i 0 + s := by
  obtain ⟨v, e⟩ := p
  unfold Pt.darts
  dsimp only at hi ⊢
  induction e generalizing i with
  | nil => simp at hi
  | cons a l ih =>
    rw [List.flatMap_cons]
    cases i with
    | zero => rcases (show s = 0 ∨ s = 1 by omega) with rfl | rfl <;> simp [List.getD]
    | succ i =>
      have := ih (i := i) (by simpa using hi)
      rw [show 2 * (i + 1) + s = (2 * i + s) + 2 by omega]
      simpa [List.getD] using this

/-- Is a vertex's turn right? -/
def rowOk (g : Gr) (p : Pt) (turn : List (List Int)) (v : Int) : Prop := (dartsAt g p v).length = (turnAt turn v).length ∧ (turnAt turn v).Nodup ∧ ∀ d ∈ dartsAt g p v, d ∈ turnAt turn v

theorem perm_of_sub {l m : List Int} (hl : l.Nodup) (h : ∀ x ∈ l, x ∈ m) (hlen : l.length = m.length) : ∀ x ∈ m, x ∈ l := by
  intro x hx
  refine Classical.byContradiction fun q => ?_
  have h1 := len_le_of_sub (l := x :: l) (m := m) (List.nodup_cons.2 ⟨q, hl⟩) (fun y hy => by rcases List.mem_cons.1 hy with r | r; exact r ▸ hx; exact h y r)
  simp at h1
  omega

theorem TurnsOk.rowOk {g : Gr} {p : Pt} {turn : List (List Int)} (hp : PartOk g p) (h : TurnsOk g p turn) {v : Int} (h0 : 0 ≤ v) (hn : v < g.n) : rowOk g p turn v := by
  have hm : ∀ d, d ∈ dartsAt g p v ↔ d ∈ turnAt turn v := fun d => by rw [mem_dartsAt, h.mem v h0 hn]
  exact ⟨((List.perm_ext_iff_of_nodup (dartsAt_nodup hp.en v) (h.nodup v)).2 hm).length_eq, h.nodup v, fun d hd => (hm d).1 hd⟩

theorem turns_of_rows {g : Gr} {p : Pt} {turn : List (List Int)} (hp : PartOk g p) (hl : (turn.length : Int) = g.n) (h : ∀ v : Nat, (v : Int) < g.n → Plain.rowOk g p turn v) : TurnsOk g p turn := by
  have hrow : ∀ v : Int, 0 ≤ v → v < g.n → Plain.rowOk g p turn v := fun v h0 hn => by
    have := h v.toNat (by omega)
    rwa [show ((v.toNat : Nat) : Int) = v by omega] at this
  refine ⟨hl, fun v => ?_, fun v h0 hn d => ?_⟩
  · by_cases h1 : v.toNat < turn.length
    · have := (hrow (v.toNat : Nat) (by omega) (by omega)).2.1
      unfold turnAt at this ⊢
      rwa [Int.toNat_natCast] at this
    · unfold turnAt
      rw [List.getD, List.getElem?_eq_none (by omega)]
      simp
  · obtain ⟨h1, -, h3⟩ := hrow v h0 hn
    rw [← mem_dartsAt]
    exact ⟨fun hd => perm_of_sub (dartsAt_nodup hp.en v) h3 h1 d hd, h3 d⟩

theorem Pt.edge_in {g : Gr} {p : Pt} (h : p.err g = 0) {e : Int} (he : e ∈ p.e) : 0 ≤ e ∧ e < g.e.length := by
  obtain ⟨i, hi, rfl⟩ := mem_getD he
  have := rises_at (Pt.err_ok h).2.2.1 hi
  exact ⟨this.1, this.2.1⟩
/-- A dart of a right part, as a number. -/
theorem Pt.dart_nat {g : Gr} {p : Pt} (h : p.err g = 0) {d : Int} (hd : d ∈ p.darts) : ∃ n : Nat, d = n ∧ n / 2 < g.e.length ∧ n < 2048 := by
  have h1 := edge_in h (mem_darts.1 hd)
  have h2 := Gr.err_ok (Pt.err_ok h).1
  exact ⟨d.toNat, by omega, by omega, by omega⟩

theorem turnErr_len {g : Gr} {p : Pt} {turn : List (List Int)} (h : p.err g = 0) (hl : (turn.length : Int) ≠ g.n) : turnErr g p turn = 5 := turnErr_bad h fun k => hl k.len
theorem turnErr_row {g : Gr} {p : Pt} {turn : List (List Int)} (h : p.err g = 0) {v : Nat} (hv : (v : Int) < g.n) (hr : ¬ Plain.rowOk g p turn v) : turnErr g p turn = 5 := turnErr_bad h fun k => hr (k.rowOk (Pt.ok_of_err h) (by omega) hv)
end Go.Proofs.Ytfgbkpbakignhaa.Plain
