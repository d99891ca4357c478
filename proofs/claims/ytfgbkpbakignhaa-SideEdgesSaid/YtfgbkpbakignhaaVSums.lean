/- Things in classes: as many as all classes have. No program here. -/
import Derived.WalkKit
import Derived.Test.YtfgbkpbakignhaaVGr
import Derived.Test.YtfgbkpbakignhaaVNest
namespace Go.Proofs.Ytfgbkpbakignhaa.Plain
/-- One of the rs alone is met by x. -/
theorem sum_one {β : Type} (f : β → Bool) : ∀ {R : List β}, R.Nodup → (∃ r ∈ R, f r = true) → (∀ r ∈ R, ∀ s ∈ R, f r = true → f s = true → r = s) → (R.map fun r => if f r then 1 else 0).sum = 1
  | [], _, h, _ => by obtain ⟨r, hr, _⟩ := h; simp at hr
  | a :: R, hn, h, hu => by
    rw [List.nodup_cons] at hn
    rw [List.map_cons, List.sum_cons]
    by_cases ha : f a = true
    · rw [if_pos ha]
      have : (R.map fun r => if f r then 1 else 0).sum = 0 := by
        have hz : ∀ r ∈ R, f r = false := fun r hr => by
          cases q : f r with
          | false => rfl
          | true => exact absurd hr (fun hr => hn.1 (by rw [hu a (by simp) r (by simp [hr]) ha q]; exact hr))
        have e : (R.map fun r => if f r then 1 else 0) = R.map fun _ => 0 := List.map_congr_left fun r hr => by rw [hz r hr]; rfl
        rw [e]
        clear e hz hu h hn
        induction R with
        | nil => rfl
        | cons _ _ ih => rw [List.map_cons, List.sum_cons, ih]
      rw [this]
    · rw [if_neg ha, Nat.zero_add]
      obtain ⟨r, hr, hf⟩ := h
      refine sum_one f hn.2 ⟨r, ?_, hf⟩ (fun r hr s hs => hu r (by simp [hr]) s (by simp [hs]))
      rcases List.mem_cons.1 hr with rfl | q
      · exact absurd hf ha
      · exact q

theorem sum_add {β : Type} (f g : β → Nat) : ∀ R : List β, (R.map fun r => f r + g r).sum = (R.map f).sum + (R.map g).sum
  | [] => rfl
  | a :: R => by simp only [List.map_cons, List.sum_cons, sum_add f g R]; omega

/-- Things in classes: as many as all classes have. -/
theorem sum_classes {α β : Type} (f : α → β → Bool) {R : List β} (hn : R.Nodup) : ∀ {L : List α}, (∀ x ∈ L, (∃ r ∈ R, f x r = true) ∧ ∀ r ∈ R, ∀ s ∈ R, f x r = true → f x s = true → r = s) → (R.map fun r => (L.filter fun x => f x r).length).sum = L.length
  | [], _ => by
    clear hn
    induction R with
    | nil => rfl
    | cons _ _ ih => simpa using ih
  | x :: L, h => by
    have e : (R.map fun r => ((x :: L).filter fun x => f x r).length) = R.map fun r => (if f x r then 1 else 0) + (L.filter fun x => f x r).length := by
      refine List.map_congr_left fun r _ => ?_
      rw [List.filter_cons]
      split <;> simp <;> omega
    rw [e, sum_add, sum_one (f x) hn (h x (by simp)).1 (h x (by simp)).2, sum_classes f hn fun y hy => h y (by simp [hy])]
    simp
    omega
end Go.Proofs.Ytfgbkpbakignhaa.Plain
/- Pieces on spheres: vertices, edges and walks. No program here. -/
namespace Go.Proofs.Ytfgbkpbakignhaa.Plain
/-- A right part, in what is used of it. -/
structure PartOk (g : Gr) (p : Pt) : Prop where
  vn : p.v.Nodup
  en : p.e.Nodup
  vr : ∀ v ∈ p.v, 0 ≤ v ∧ v < g.n
  er : ∀ e ∈ p.e, 0 ≤ e
  ends : ∀ e ∈ p.e, (g.at e).1 ∈ p.v ∧ (g.at e).2 ∈ p.v

theorem mem_getD {l : List Int} {x : Int} (h : x ∈ l) : ∃ i, i < l.length ∧ l.getD i 0 = x := by
  obtain ⟨i, hi, rfl⟩ := List.getElem_of_mem h
  exact ⟨i, hi, by simp [List.getD, hi]⟩

theorem Pt.ok_of_err {g : Gr} {p : Pt} (h : p.err g = 0) : PartOk g p := by
  obtain ⟨h1, h2, h3, h4⟩ := Pt.err_ok h
  refine ⟨rises_nodup h2, rises_nodup h3, fun v hv => ?_, fun e he => ?_, fun e he => ?_⟩
  · obtain ⟨i, hi, rfl⟩ := mem_getD hv
    have := rises_at h2 hi
    exact ⟨this.1, this.2.1⟩
  · obtain ⟨i, hi, rfl⟩ := mem_getD he
    exact (rises_at h3 hi).1
  · obtain ⟨i, hi, rfl⟩ := mem_getD he
    exact h4 i hi

theorem PartOk.tail_mem {g : Gr} {p : Pt} (h : PartOk g p) {d : Int} (hd : d ∈ p.darts) : g.tail d ∈ p.v ∧ g.head d ∈ p.v := by
  have := h.ends _ (mem_darts.1 hd)
  unfold Gr.tail Gr.head
  split
  · exact this
  · exact this.symm

theorem near_dart {g : Gr} {p : Pt} {d : Int} (hd : d ∈ p.darts) : Near g p (g.tail d) (g.head d) := by
  refine ⟨d / 2, mem_darts.1 hd, ?_⟩
  unfold Gr.tail Gr.head
  split
  · exact Or.inl rfl
  · exact Or.inr rfl

theorem comp_closed {g : Gr} {p : Pt} (h : PartOk g p) (a : Int) : Closed g p (comp g p a) := by
  intro d hd ht
  obtain ⟨_, h2⟩ := mem_comp.1 ht
  have hh := (h.tail_mem hd).2
  exact mem_comp.2 ⟨hh, h2.step (near_dart hd) (by have := h.vr _ hh; omega)⟩

theorem comp_nodup {g : Gr} {p : Pt} (h : PartOk g p) (a : Int) : (comp g p a).Nodup := by
  classical
  exact List.Pairwise.filter _ h.vn

theorem roots_nodup {g : Gr} {p : Pt} (h : PartOk g p) : (roots g p).Nodup := by
  classical
  exact List.Pairwise.filter _ h.vn

theorem tail_even (g : Gr) (e : Int) : g.tail (2 * e) = (g.at e).1 ∧ g.head (2 * e) = (g.at e).2 := by
  unfold Gr.tail Gr.head
  rw [if_pos (by omega), if_pos (by omega), show 2 * e / 2 = e by omega]
  exact ⟨rfl, rfl⟩

/-- A piece's edges: those that begin in it. -/
theorem sub_edges {g : Gr} {p : Pt} (h : PartOk g p) (a : Int) : (p.sub g (comp g p a)).e = p.e.filter fun e => decide (g.tail (2 * e) ∈ comp g p a) := by
  unfold Pt.sub
  refine List.filter_congr fun e he => ?_
  have hd : 2 * e ∈ p.darts := mem_darts.2 (by rwa [show 2 * e / 2 = e by omega])
  obtain ⟨e1, e2⟩ := tail_even g e
  have hc := closed_back (comp_closed h a) hd
  rw [e1, e2] at hc
  rw [e1]
  by_cases q : (g.at e).1 ∈ comp g p a
  · have := hc.2 q
    simp [q, this]
  · simp [q]

theorem sub_verts {g : Gr} {p : Pt} (a : Int) : (p.sub g (comp g p a)).v.length = (comp g p a).length := by
  unfold Pt.sub
  classical
  have : p.v.filter (fun v => decide (v ∈ comp g p a)) = comp g p a := by
    unfold comp
    refine List.filter_congr fun v hv => ?_
    simp [hv]
  rw [this]

/-- A walk's corner is a vertex of the part. -/
theorem corner_mem {g : Gr} {p : Pt} {turn : List (List Int)} {W : List Face} (h : PartOk g p) (hW : FacesOk g p turn W) : ∀ f ∈ W, f.corner g ∈ p.v := by
  intro f hf
  obtain ⟨k, l⟩ := f
  cases l with
  | nil =>
    have : k ∈ (W.filter fun f => f.2.isEmpty).map (·.1) := List.mem_map.2 ⟨(k, []), List.mem_filter.2 ⟨hf, rfl⟩, rfl⟩
    obtain ⟨v, hv, e⟩ := List.mem_map.1 (hW.lone.mem_iff.1 this)
    show -1 - k ∈ p.v
    rw [← e, show -1 - (-1 - v) = v by omega]
    exact (List.mem_filter.1 hv).1
  | cons d l =>
    have e : k = d := hW.key (k, d :: l) hf d l rfl
    subst e
    have : k ∈ p.darts := hW.all.mem_iff.1 (List.mem_flatten.2 ⟨k :: l, List.mem_map.2 ⟨(k, k :: l), List.mem_filter.2 ⟨hf, rfl⟩, rfl⟩, by simp⟩)
    exact (h.tail_mem this).1

/-- The genus of a piece, as Go reckons it. -/
noncomputable def genusAt (g : Gr) (p : Pt) (W : List Face) (r : Int) : Int :=
  (2 - ((comp g p r).length : Int) + ((p.e.filter fun e => decide (g.tail (2 * e) ∈ comp g p r)).length : Int) - ((W.filter fun f => decide (f.corner g ∈ comp g p r)).length : Int)).tdiv 2

theorem genus_zero {g : Gr} {p : Pt} {turn : List (List Int)} {W : List Face} (h : PartOk g p) (ht : TurnsOk g p turn) (hW : FacesOk g p turn W) {r : Int} (hz : genusAt g p W r = 0) :
    (comp g p r).length + (W.filter fun f => decide (f.corner g ∈ comp g p r)).length = 2 + (p.e.filter fun e => decide (g.tail (2 * e) ∈ comp g p r)).length := by
  have hev := piece_even ht h.en h.vn (fun d hd => h.vr _ (h.tail_mem hd).1) hW (comp_nodup h r) (fun v hv => ⟨(mem_comp.1 hv).1, h.vr _ (mem_comp.1 hv).1⟩) (comp_closed h r)
  unfold genusAt at hz
  have h2 := Int.natAbs_tdiv (2 - ((comp g p r).length : Int) + ((p.e.filter fun e => decide (g.tail (2 * e) ∈ comp g p r)).length : Int) - ((W.filter fun f => decide (f.corner g ∈ comp g p r)).length : Int)) 2
  rw [hz] at h2
  generalize (comp g p r).length = a at *
  generalize (p.e.filter fun e => decide (g.tail (2 * e) ∈ comp g p r)).length = b at *
  generalize (W.filter fun f => decide (f.corner g ∈ comp g p r)).length = c at *
  have h3 : (2 - (a : Int) + (b : Int) - (c : Int)).natAbs / 2 = 0 := h2.symm
  omega

theorem class_sum {α : Type} {g : Gr} {p : Pt} (h : PartOk g p) (f : α → Int) (L : List α) (hf : ∀ x ∈ L, f x ∈ p.v) : ((roots g p).map fun r => (L.filter fun x => decide (f x ∈ comp g p r)).length).sum = L.length := by
  refine sum_classes (fun x r => decide (f x ∈ comp g p r)) (roots_nodup h) fun x hx => ⟨?_, fun r hr s hs h1 h2 => ?_⟩
  · obtain ⟨r, hr, hc⟩ := root_of (g := g) (fun v hv => (h.vr v hv).1) (hf x hx)
    exact ⟨r, hr, decide_eq_true (mem_comp.2 ⟨hf x hx, hc⟩)⟩
  · exact root_one (fun v hv => (h.vr v hv).1) hr hs (mem_comp.1 (of_decide_eq_true h1)).2 (mem_comp.1 (of_decide_eq_true h2)).2

theorem sum_congr {α : Type} {f g : α → Nat} : ∀ {R : List α}, (∀ r ∈ R, f r = g r) → (R.map f).sum = (R.map g).sum
  | [], _ => rfl
  | a :: R, h => by rw [List.map_cons, List.map_cons, List.sum_cons, List.sum_cons, h a (by simp), sum_congr fun r hr => h r (by simp [hr])]

theorem sum_const (c : Nat) {α : Type} : ∀ R : List α, (R.map fun _ => c).sum = c * R.length
  | [] => rfl
  | a :: R => by rw [List.map_cons, List.sum_cons, sum_const c R, List.length_cons, Nat.mul_succ]; omega

/-- EULER: of turns all of whose pieces are on spheres. -/
theorem euler {g : Gr} {p : Pt} {turn : List (List Int)} {W : List Face} (h : PartOk g p) (ht : TurnsOk g p turn) (hW : FacesOk g p turn W) (hz : ∀ r ∈ roots g p, genusAt g p W r = 0) :
    p.v.length + W.length = 2 * (roots g p).length + p.e.length := by
  have e1 := class_sum h (fun v => v) p.v (fun _ hv => hv)
  have e2 := class_sum h (fun e => g.tail (2 * e)) p.e (fun e he => (h.tail_mem (mem_darts.2 (by rwa [show 2 * e / 2 = e by omega]))).1)
  have e3 := class_sum h (fun f : Face => f.corner g) W (corner_mem h hW)
  have e0 : (roots g p).map (fun r => (p.v.filter fun v => decide (v ∈ comp g p r)).length) = (roots g p).map fun r => (comp g p r).length := List.map_congr_left fun r _ => sub_verts r
  have e4 := sum_congr (R := roots g p) (f := fun r => (comp g p r).length + (W.filter fun f => decide (f.corner g ∈ comp g p r)).length) (g := fun r => 2 + (p.e.filter fun e => decide (g.tail (2 * e) ∈ comp g p r)).length) (fun r hr => genus_zero h ht hW (hz r hr))
  rw [sum_add, sum_add, sum_const] at e4
  rw [e0] at e1
  omega
end Go.Proofs.Ytfgbkpbakignhaa.Plain
/- Pieces, vertex by vertex and edge by edge. No program here. -/
namespace Go.Proofs.Ytfgbkpbakignhaa

/-- Pairs of rows, one a thing. -/
def pcs (V E : Int → List Int) (R : List Int) : List Cell := R.flatMap fun r => [.row (V r), .row (E r)]
theorem pcs_length (V E : Int → List Int) : ∀ R : List Int, (pcs V E R).length = R.length * 2
  | [] => rfl
  | r :: R => by
    have := pcs_length V E R
    unfold pcs at this ⊢
    rw [List.flatMap_cons, List.length_append, this, List.length_cons]
    simp only [List.length_cons, List.length_nil]
    omega
theorem pcs_snoc (V E : Int → List Int) (R : List Int) (r : Int) : pcs V E (R ++ [r]) = pcs V E R ++ [.row (V r), .row (E r)] := by simp [pcs]
theorem pcs_cons (V E : Int → List Int) (R : List Int) (r : Int) : pcs V E (r :: R) = .row (V r) :: .row (E r) :: pcs V E R := rfl
theorem pcs_even (V E : Int → List Int) : ∀ (R : List Int) (n : Nat), n < R.length → (pcs V E R)[n * 2]? = some (.row (V (R.getD n 0)))
  | [], n, h => by simp at h
  | r :: R, 0, _ => by rw [pcs_cons]; rfl
  | r :: R, n + 1, h => by
    rw [pcs_cons, show (n + 1) * 2 = n * 2 + 1 + 1 by omega, List.getElem?_cons_succ, List.getElem?_cons_succ, pcs_even V E R n (by simpa using h)]
    rfl
theorem pcs_odd (V E : Int → List Int) : ∀ (R : List Int) (n : Nat), n < R.length → (pcs V E R)[n * 2 + 1]? = some (.row (E (R.getD n 0)))
  | [], n, h => by simp at h
  | r :: R, 0, _ => by rw [pcs_cons]; rfl
  | r :: R, n + 1, h => by
    rw [pcs_cons, show (n + 1) * 2 + 1 = (n * 2 + 1) + 1 + 1 by omega, List.getElem?_cons_succ, List.getElem?_cons_succ, pcs_odd V E R n (by simpa using h)]
    rfl
theorem pcs_congr {V E V' E' : Int → List Int} : ∀ {R : List Int}, (∀ r ∈ R, V r = V' r ∧ E r = E' r) → pcs V E R = pcs V' E' R
  | [], _ => rfl
  | r :: R, h => by rw [pcs_cons, pcs_cons, (h r (by simp)).1, (h r (by simp)).2, pcs_congr fun s hs => h s (by simp [hs])]
theorem pcs_set_even {V V' E : Int → List Int} : ∀ {R : List Int} {n : Nat}, n < R.length → (∀ m, m < R.length → m ≠ n → V' (R.getD m 0) = V (R.getD m 0)) → pcs V' E R = (pcs V E R).set (n * 2) (.row (V' (R.getD n 0)))
  | [], n, h, _ => by simp at h
  | r :: R, 0, _, hm => by
    rw [pcs_cons, pcs_cons]
    show _ :: _ :: _ = _ :: _ :: _
    congr 2
    refine pcs_congr fun s hs => ⟨?_, rfl⟩
    obtain ⟨i, hi, e⟩ := List.getElem_of_mem hs
    have := hm (i + 1) (by simpa using hi) (by omega)
    simpa [List.getD, hi, e] using this
  | r :: R, n + 1, h, hm => by
    have ih := pcs_set_even (V := V) (V' := V') (E := E) (R := R) (n := n) (by simpa using h) (fun m hm1 hm2 => by simpa using hm (m + 1) (by simpa using hm1) (by omega))
    have h0 := hm 0 (by simp) (by omega)
    rw [pcs_cons, pcs_cons, ih, show (n + 1) * 2 = n * 2 + 1 + 1 by omega, List.set_cons_succ, List.set_cons_succ]
    simp at h0
    rw [h0]
    rfl
theorem pcs_set_odd {V E E' : Int → List Int} : ∀ {R : List Int} {n : Nat}, n < R.length → (∀ m, m < R.length → m ≠ n → E' (R.getD m 0) = E (R.getD m 0)) → pcs V E' R = (pcs V E R).set (n * 2 + 1) (.row (E' (R.getD n 0)))
  | [], n, h, _ => by simp at h
  | r :: R, 0, _, hm => by
    rw [pcs_cons, pcs_cons]
    show _ :: _ :: _ = _ :: _ :: _
    congr 2
    refine pcs_congr fun s hs => ⟨rfl, ?_⟩
    obtain ⟨i, hi, e⟩ := List.getElem_of_mem hs
    have := hm (i + 1) (by simpa using hi) (by omega)
    simpa [List.getD, hi, e] using this
  | r :: R, n + 1, h, hm => by
    have ih := pcs_set_odd (V := V) (E := E) (E' := E') (R := R) (n := n) (by simpa using h) (fun m hm1 hm2 => by simpa using hm (m + 1) (by simpa using hm1) (by omega))
    have h0 := hm 0 (by simp) (by omega)
    rw [pcs_cons, pcs_cons, ih, show (n + 1) * 2 + 1 = (n * 2 + 1) + 1 + 1 by omega, List.set_cons_succ, List.set_cons_succ]
    simp at h0
    rw [h0]
    rfl

namespace Plain
open Classical in
/-- The roots among the first k vertices. -/
noncomputable def rootsTo (g : Gr) (p : Pt) (k : Nat) : List Int := (p.v.take k).filter fun v => decide (∀ u ∈ p.v, Come g p (-1) v u → v ≤ u)

theorem rootsTo_zero (g : Gr) (p : Pt) : rootsTo g p 0 = [] := by simp [rootsTo]
theorem rootsTo_all (g : Gr) (p : Pt) : rootsTo g p p.v.length = roots g p := by unfold rootsTo roots; rw [List.take_length]
open Classical in
theorem rootsTo_mem {g : Gr} {p : Pt} {k : Nat} {r : Int} (h : r ∈ rootsTo g p k) : r ∈ roots g p ∧ r ∈ p.v.take k := by
  unfold rootsTo at h
  obtain ⟨h1, h2⟩ := List.mem_filter.1 h
  exact ⟨mem_roots.2 ⟨List.mem_of_mem_take h1, of_decide_eq_true h2⟩, h1⟩
open Classical in
theorem rootsTo_snoc {g : Gr} {p : Pt} {k : Nat} (hk : k < p.v.length) (h : p.v.getD k 0 ∈ roots g p) : rootsTo g p (k + 1) = rootsTo g p k ++ [p.v.getD k 0] := by
  unfold rootsTo
  have e : p.v.take (k + 1) = p.v.take k ++ [p.v.getD k 0] := by rw [List.take_succ_eq_append_getElem hk]; simp [List.getD, hk]
  rw [e, List.filter_append]
  congr 1
  rw [List.filter_cons_of_pos (by exact decide_eq_true (mem_roots.1 h).2), List.filter_nil]
open Classical in
theorem rootsTo_same {g : Gr} {p : Pt} {k : Nat} (hk : k < p.v.length) (h : p.v.getD k 0 ∉ roots g p) : rootsTo g p (k + 1) = rootsTo g p k := by
  unfold rootsTo
  have e : p.v.take (k + 1) = p.v.take k ++ [p.v.getD k 0] := by rw [List.take_succ_eq_append_getElem hk]; simp [List.getD, hk]
  have hv : p.v.getD k 0 ∈ p.v := by simp [List.getD, hk]
  rw [e, List.filter_append, List.filter_cons_of_neg (by
    intro q
    exact h (mem_roots.2 ⟨hv, of_decide_eq_true q⟩)), List.filter_nil, List.append_nil]
theorem rootsTo_len (g : Gr) (p : Pt) (k : Nat) : (rootsTo g p k).length ≤ p.v.length := by
  unfold rootsTo
  exact Nat.le_trans (List.length_filter_le _ _) (by rw [List.length_take]; omega)
theorem getD_mem {l : List Int} {n : Nat} (h : n < l.length) : l.getD n 0 ∈ l := by simp [List.getD, h]

/-- Which piece a vertex is in. -/
def PieceMap (g : Gr) (p : Pt) (R : List Int) (f : Int → Option Int) : Prop := ∀ y i, f y = some i ↔ ∃ n : Nat, i = (n : Int) ∧ n < R.length ∧ Come g p (-1) (R.getD n 0) y

theorem PieceMap.start (g : Gr) (p : Pt) : PieceMap g p [] (fun _ => none) := fun y i => by simp

open Classical in
theorem PieceMap.root {g : Gr} {p : Pt} {k : Nat} {f : Int → Option Int} (hp : PartOk g p) (hr : p.v.Pairwise (· < ·)) (h : PieceMap g p (rootsTo g p k) f) (hk : k < p.v.length) (hf : f (p.v.getD k 0) = none) : p.v.getD k 0 ∈ roots g p := by
  obtain ⟨r, hr1, hc⟩ := root_of (g := g) (fun v hv => (hp.vr v hv).1) (getD_mem hk)
  have hle := (mem_roots.1 hr1).2 _ (getD_mem hk) hc
  by_cases e : r = p.v.getD k 0
  · rw [← e]; exact hr1
  · exfalso
    have hrv := (mem_roots.1 hr1).1
    obtain ⟨j, hj, hje⟩ := mem_getD hrv
    have hjk : j < k := by
      rcases Nat.lt_or_ge j k with q | q
      · exact q
      · exfalso
        rcases Nat.eq_or_lt_of_le q with q | q
        · subst q; exact e hje.symm
        · have := List.pairwise_iff_getElem.1 hr k j hk hj q
          simp [List.getD, hk, hj] at hje hle
          omega
    have hm : r ∈ rootsTo g p k := by
      unfold rootsTo
      refine List.mem_filter.2 ⟨?_, decide_eq_true (mem_roots.1 hr1).2⟩
      rw [← hje]
      have : (p.v.take k)[j]? = some p.v[j] := by rw [List.getElem?_take, if_pos hjk, List.getElem?_eq_getElem hj]
      have e2 : p.v.getD j 0 = p.v[j] := by simp [List.getD, hj]
      rw [e2]
      exact List.mem_of_getElem? this
    obtain ⟨n, hn, hne⟩ := mem_getD hm
    have := (h (p.v.getD k 0) (n : Int)).2 ⟨n, rfl, hn, by rw [hne]; exact hc⟩
    rw [hf] at this
    cases this

theorem PieceMap.known {g : Gr} {p : Pt} {k : Nat} {f : Int → Option Int} (hp : PartOk g p) (h : PieceMap g p (rootsTo g p k) f) (hk : k < p.v.length) {i : Int} (hf : f (p.v.getD k 0) = some i) : p.v.getD k 0 ∉ roots g p := by
  intro hr
  obtain ⟨n, -, hn, hc⟩ := (h _ _).1 hf
  have hm := rootsTo_mem (getD_mem hn)
  have e := root_one (fun v hv => (hp.vr v hv).1) hm.1 hr hc .here
  have h2 := hm.2
  rw [e] at h2
  have hnd := hp.vn
  rw [← List.take_append_drop k p.v, List.nodup_append] at hnd
  have : p.v.getD k 0 ∈ p.v.drop k := by
    have e2 : p.v.getD k 0 = p.v[k] := by simp [List.getD, hk]
    rw [e2, List.drop_eq_getElem_cons hk]
    exact List.mem_cons_self
  exact hnd.2.2 _ h2 _ this rfl

theorem PieceMap.add {g : Gr} {p : Pt} {R : List Int} {f f' : Int → Option Int} (hp : PartOk g p) (h : PieceMap g p R f) (hR : ∀ r ∈ R, r ∈ roots g p) {v : Int} (hv : v ∈ roots g p) (hn : v ∉ R)
    (h1 : ∀ y, Come g p (-1) v y → f' y = some (R.length : Int)) (h2 : ∀ y, ¬ Come g p (-1) v y → f' y = f y) : PieceMap g p (R ++ [v]) f' := by
  intro y i
  have gl : ∀ n, n < R.length → (R ++ [v]).getD n 0 = R.getD n 0 := fun n hn => by simp [List.getD, List.getElem?_append_left hn]
  have gr : (R ++ [v]).getD R.length 0 = v := by simp [List.getD]
  by_cases hc : Come g p (-1) v y
  · rw [h1 y hc]
    constructor
    · intro e
      cases e
      exact ⟨R.length, rfl, by simp, by rw [gr]; exact hc⟩
    · rintro ⟨n, rfl, hn1, hn2⟩
      by_cases e : n < R.length
      · rw [gl n e] at hn2
        exact absurd (root_one (fun v hv => (hp.vr v hv).1) (hR _ (getD_mem e)) hv hn2 hc ▸ getD_mem e) hn
      · have : n = R.length := by simp at hn1; omega
        rw [this]
  · rw [h2 y hc, h y i]
    constructor
    · rintro ⟨n, rfl, hn1, hn2⟩
      exact ⟨n, rfl, by simp; omega, by rw [gl n hn1]; exact hn2⟩
    · rintro ⟨n, rfl, hn1, hn2⟩
      by_cases e : n < R.length
      · rw [gl n e] at hn2
        exact ⟨n, rfl, e, hn2⟩
      · have e2 : n = R.length := by simp at hn1; omega
        rw [e2, gr] at hn2
        exact absurd hn2 hc

/-- The vertices, the edges of a piece among the first ones. -/
noncomputable def vOf (g : Gr) (p : Pt) (k : Nat) (r : Int) : List Int := (p.v.take k).filter fun v => decide (v ∈ comp g p r)
noncomputable def eOf (g : Gr) (p : Pt) (k : Nat) (r : Int) : List Int := (p.e.take k).filter fun e => decide (g.tail (2 * e) ∈ comp g p r)

theorem take_snoc' {l : List Int} {j : Nat} (hj : j < l.length) : l.take (j + 1) = l.take j ++ [l.getD j 0] := by
  rw [List.take_succ_eq_append_getElem hj]
  simp [List.getD, hj]
theorem vOf_in {g : Gr} {p : Pt} {k : Nat} {r : Int} (hk : k < p.v.length) (h : p.v.getD k 0 ∈ comp g p r) : vOf g p (k + 1) r = vOf g p k r ++ [p.v.getD k 0] := by
  unfold vOf
  rw [take_snoc' hk, List.filter_append, List.filter_cons_of_pos (by simpa using h), List.filter_nil]
theorem vOf_out {g : Gr} {p : Pt} {k : Nat} {r : Int} (hk : k < p.v.length) (h : p.v.getD k 0 ∉ comp g p r) : vOf g p (k + 1) r = vOf g p k r := by
  unfold vOf
  rw [take_snoc' hk, List.filter_append, List.filter_cons_of_neg (by simpa using h), List.filter_nil, List.append_nil]
theorem eOf_in {g : Gr} {p : Pt} {k : Nat} {r : Int} (hk : k < p.e.length) (h : g.tail (2 * p.e.getD k 0) ∈ comp g p r) : eOf g p (k + 1) r = eOf g p k r ++ [p.e.getD k 0] := by
  unfold eOf
  rw [take_snoc' hk, List.filter_append, List.filter_cons_of_pos (by simpa using h), List.filter_nil]
theorem eOf_out {g : Gr} {p : Pt} {k : Nat} {r : Int} (hk : k < p.e.length) (h : g.tail (2 * p.e.getD k 0) ∉ comp g p r) : eOf g p (k + 1) r = eOf g p k r := by
  unfold eOf
  rw [take_snoc' hk, List.filter_append, List.filter_cons_of_neg (by simpa using h), List.filter_nil, List.append_nil]

theorem comp_one {g : Gr} {p : Pt} (hp : PartOk g p) {R : List Int} (hR : ∀ r ∈ R, r ∈ roots g p) (hn : R.Nodup) {v : Int} {n m : Nat} (h1 : n < R.length) (h2 : m < R.length) (hc : Come g p (-1) (R.getD n 0) v) (hm : v ∈ comp g p (R.getD m 0)) : m = n := by
  have e := root_one (fun v hv => (hp.vr v hv).1) (hR _ (getD_mem h1)) (hR _ (getD_mem h2)) hc (mem_comp.1 hm).2
  refine Classical.byContradiction fun hne => ?_
  have q := List.pairwise_iff_getElem.1 hn
  simp only [List.getD, List.getElem?_eq_getElem h1, List.getElem?_eq_getElem h2, Option.getD_some] at e
  rcases Nat.lt_or_ge n m with w | w
  · exact q n m h1 h2 w e
  · exact q m n h2 h1 (by omega) e.symm

theorem rootsTo_nodup {g : Gr} {p : Pt} (hp : PartOk g p) (k : Nat) : (rootsTo g p k).Nodup := by
  unfold rootsTo
  exact ((List.take_sublist k p.v).nodup hp.vn).filter _

theorem new_v {g : Gr} {p : Pt} (hp : PartOk g p) {k : Nat} (hk : k < p.v.length) : p.v.getD k 0 ∉ p.v.take k := by
  intro h2
  have hnd := hp.vn
  rw [← List.take_append_drop k p.v, List.nodup_append] at hnd
  have : p.v.getD k 0 ∈ p.v.drop k := by
    have e2 : p.v.getD k 0 = p.v[k] := by simp [List.getD, hk]
    rw [e2, List.drop_eq_getElem_cons hk]
    exact List.mem_cons_self
  exact hnd.2.2 _ h2 _ this rfl

/-- A root is met first of its piece. -/
theorem vOf_root {g : Gr} {p : Pt} (hr : p.v.Pairwise (· < ·)) {k : Nat} (hk : k < p.v.length) (h : p.v.getD k 0 ∈ roots g p) : vOf g p k (p.v.getD k 0) = [] := by
  unfold vOf
  rw [List.filter_eq_nil_iff]
  intro u hu hc
  have hc := (mem_comp.1 (of_decide_eq_true hc))
  have h1 := (mem_roots.1 h).2 u hc.1 hc.2
  obtain ⟨j, hj, e⟩ := List.getElem_of_mem hu
  rw [List.length_take] at hj
  rw [List.getElem_take] at e
  have := List.pairwise_iff_getElem.1 hr j k (by omega) hk (by omega)
  simp [List.getD, hk] at h1
  omega

theorem eOf_zero (g : Gr) (p : Pt) (r : Int) : eOf g p 0 r = [] := by simp [eOf]
open Classical in
theorem vOf_all (g : Gr) (p : Pt) (r : Int) : vOf g p p.v.length r = comp g p r := by
  unfold vOf
  rw [List.take_length]
  conv => rhs; unfold comp
  refine List.filter_congr fun v hv => ?_
  have := mem_comp (g := g) (p := p) (a := r) (u := v)
  simp [this, hv]
theorem eOf_all {g : Gr} {p : Pt} (h : PartOk g p) (r : Int) : eOf g p p.e.length r = (p.sub g (comp g p r)).e := by
  unfold eOf
  rw [List.take_length, sub_edges h r]
end Plain
end Go.Proofs.Ytfgbkpbakignhaa
