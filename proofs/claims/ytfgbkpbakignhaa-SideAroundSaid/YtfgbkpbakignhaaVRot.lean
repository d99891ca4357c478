/- Darts, turns: the thing ahead of one in a list, in rings. No program here. -/
import Derived.Test.YtfgbkpbakignhaaVPerm
namespace Go.Proofs.Ytfgbkpbakignhaa.Plain
/-- The other dart of an edge. -/
def twin (d : Int) : Int := if d % 2 = 0 then d + 1 else d - 1
def Gr.tail (g : Gr) (d : Int) : Int := if d % 2 = 0 then (g.at (d / 2)).1 else (g.at (d / 2)).2
def Gr.head (g : Gr) (d : Int) : Int := if d % 2 = 0 then (g.at (d / 2)).2 else (g.at (d / 2)).1
def Pt.darts (p : Pt) : List Int := p.e.flatMap fun e => [2 * e, 2 * e + 1]

theorem twin_twin (d : Int) : twin (twin d) = d := by unfold twin; split <;> split <;> omega
theorem twin_div (d : Int) : twin d / 2 = d / 2 := by unfold twin; split <;> omega
theorem tail_twin (g : Gr) (d : Int) : g.tail (twin d) = g.head d := by
  unfold Gr.tail Gr.head
  rw [twin_div]
  unfold twin
  split
  · rw [if_neg (by omega)]
  · rw [if_pos (by omega)]

theorem mem_darts {p : Pt} {d : Int} : d ∈ p.darts ↔ d / 2 ∈ p.e := by
  unfold Pt.darts
  simp only [List.mem_flatMap, List.mem_cons, List.not_mem_nil, or_false]
  constructor
  · rintro ⟨e, he, rfl | rfl⟩
    · rwa [show 2 * e / 2 = e by omega]
    · rwa [show (2 * e + 1) / 2 = e by omega]
  · intro h
    exact ⟨d / 2, h, by omega⟩

theorem twin_mem {p : Pt} {d : Int} (h : d ∈ p.darts) : twin d ∈ p.darts := by rw [mem_darts] at *; rwa [twin_div]

theorem darts_nodup {p : Pt} (h : p.e.Nodup) : p.darts.Nodup := by
  unfold Pt.darts
  generalize p.e = l at *
  induction l with
  | nil => simp
  | cons e l ih =>
    rw [List.nodup_cons] at h
    rw [List.flatMap_cons, List.nodup_append]
    refine ⟨by simp; omega, ih h.2, fun a ha b hb => ?_⟩
    have hb' : b / 2 ∈ l := mem_darts (p := ⟨[], l⟩).1 hb
    rintro rfl
    have : a / 2 = e := by simp at ha; omega
    exact h.1 (this ▸ hb')

theorem darts_length (p : Pt) : p.darts.length = 2 * p.e.length := by
  unfold Pt.darts
  generalize p.e = l
  induction l with
  | nil => rfl
  | cons e l ih => rw [List.flatMap_cons, List.length_append, ih]; simp; omega

/-- twin in rings: the edges. -/
theorem twin_rings {p : Pt} (h : p.e.Nodup) : Rings twin (p.e.map fun e => [2 * e, 2 * e + 1]) := by
  refine ⟨fun c hc => ?_, ?_⟩
  · obtain ⟨e, _, rfl⟩ := List.mem_map.1 hc
    show twin (2 * e) = 2 * e + 1 ∧ twin (2 * e + 1) = 2 * e
    unfold twin
    rw [if_pos (by omega), if_neg (by omega)]
    omega
  · have := darts_nodup h
    rwa [Pt.darts, List.flatMap_def] at this

/-! ### turns -/
/-- The thing ahead of x in a ring that is told as a list. -/
def ahead (l : List Int) (x : Int) : Int := l.getD ((l.idxOf x + l.length - 1) % l.length) 0
def behind (l : List Int) (x : Int) : Int := l.getD ((l.idxOf x + 1) % l.length) 0

theorem trail_of {p : Int → Int} {z : Int} : ∀ {l : List Int} {x : Int}, (∀ i, i < l.length → p ((x :: l).getD i 0) = (x :: l).getD (i + 1) 0) → p ((x :: l).getD l.length 0) = z → Trail p x l z
  | [], x, _, h => by show p x = z; simpa using h
  | y :: l, x, h, hz => by
    refine ⟨by simpa using h 0 (by simp), trail_of (fun i hi => ?_) (by simpa using hz)⟩
    have := h (i + 1) (by simpa using hi)
    simpa using this

theorem idxOf_at {l : List Int} (hn : l.Nodup) {i : Nat} (hi : i < l.length) : l.idxOf (l.getD i 0) = i := by
  have e : l.getD i 0 = l[i] := by simp [List.getD, hi]
  rw [e]
  have h1 : l.idxOf l[i] < l.length := List.idxOf_lt_length_iff.2 (List.getElem_mem hi)
  have h2 : l[l.idxOf l[i]] = l[i] := List.getElem_idxOf h1
  exact (List.getElem_inj hn).1 h2

theorem getD_reverse (l : List Int) (i : Nat) (hi : i < l.length) : l.reverse.getD i 0 = l.getD (l.length - 1 - i) 0 := by
  simp [List.getD, hi, show l.length - 1 - i < l.length by omega]

/-- A list's things, backward: a ring of 'ahead'. -/
theorem ahead_ring {l : List Int} (hn : l.Nodup) (h0 : l ≠ []) : Ring (ahead l) l.reverse := by
  have hl : 0 < l.length := List.length_pos_iff.2 h0
  have key : ∀ i, i < l.length → ahead l (l.reverse.getD i 0) = l.reverse.getD (if i + 1 = l.length then 0 else i + 1) 0 := by
    intro i hi
    have e1 : ahead l (l.reverse.getD i 0) = l.getD ((l.length - 1 - i + l.length - 1) % l.length) 0 := by
      rw [getD_reverse l i hi]
      unfold ahead
      rw [idxOf_at hn (by omega)]
    rw [e1]
    split
    · rename_i h
      rw [getD_reverse l 0 hl]
      congr 1
      rw [show l.length - 1 - i + l.length - 1 = l.length - 1 by omega, Nat.mod_eq_of_lt (by omega)]
      omega
    · rename_i h
      rw [getD_reverse l (i + 1) (by omega)]
      congr 1
      rw [show l.length - 1 - i + l.length - 1 = (l.length - 1 - (i + 1)) + l.length by omega, Nat.add_mod_right, Nat.mod_eq_of_lt (by omega)]
  have hlen : l.reverse.length = l.length := by simp
  generalize l.reverse = r at *
  cases r with
  | nil => simp at hlen; omega
  | cons x r =>
    simp only [List.length_cons] at hlen
    refine trail_of (fun i hi => ?_) ?_
    · rw [key i (by omega), if_neg (by omega)]
    · rw [key r.length (by omega), if_pos (by omega)]
      rfl

end Go.Proofs.Ytfgbkpbakignhaa.Plain
/- Turns, walks around faces; the parity of a piece. No program here. -/
namespace Go.Proofs.Ytfgbkpbakignhaa.Plain
def turnAt (turn : List (List Int)) (v : Int) : List Int := turn.getD v.toNat []

/-- What turns keep to. -/
structure TurnsOk (g : Gr) (p : Pt) (turn : List (List Int)) : Prop where
  len : (turn.length : Int) = g.n
  nodup : ∀ v, (turnAt turn v).Nodup
  mem : ∀ v, 0 ≤ v → v < g.n → ∀ d, d ∈ turnAt turn v ↔ d ∈ p.darts ∧ g.tail d = v

/-- The dart ahead of one in its turn; the dart behind one around its face. -/
def before (g : Gr) (turn : List (List Int)) (d : Int) : Int := ahead (turnAt turn (g.tail d)) d
def nextDart (g : Gr) (turn : List (List Int)) (d : Int) : Int := before g turn (twin d)

/-- The darts that leave the vertices of U. -/
def leaving (g : Gr) (p : Pt) (U : List Int) : List Int := p.darts.filter fun d => decide (g.tail d ∈ U)

/-- The vertices of U that darts leave. -/
def busy (turn : List (List Int)) (U : List Int) : List Int := U.filter fun v => !(turnAt turn v).isEmpty

theorem Ring.congr' {p q : Int → Int} {c : List Int} (h : Ring p c) (e : ∀ x ∈ c, p x = q x) : Ring q c := h.congr e

theorem before_rings {g : Gr} {p : Pt} {turn : List (List Int)} (h : TurnsOk g p turn) (hp : p.e.Nodup) {U : List Int} (hU : U.Nodup) (hn : ∀ v ∈ U, 0 ≤ v ∧ v < g.n) :
    Rings (before g turn) ((busy turn U).map fun v => (turnAt turn v).reverse) ∧ ((busy turn U).map fun v => (turnAt turn v).reverse).flatten.Perm (leaving g p U) := by
  have hB : (busy turn U).Nodup := List.Pairwise.filter _ hU
  have hBU : ∀ v ∈ busy turn U, v ∈ U ∧ turnAt turn v ≠ [] := by
    intro v hv
    have := List.mem_filter.1 hv
    refine ⟨this.1, fun e => ?_⟩
    have h2 := this.2
    rw [e] at h2
    simp at h2
  have hnd : ∀ {B : List Int}, B.Nodup → (∀ v ∈ B, v ∈ U) → (B.map fun v => (turnAt turn v).reverse).flatten.Nodup := by
    intro B
    induction B with
    | nil => intro _ _; simp
    | cons v B ih =>
      intro hB hs
      rw [List.nodup_cons] at hB
      rw [List.map_cons, List.flatten_cons, List.nodup_append]
      refine ⟨(List.reverse_perm _).nodup_iff.2 (h.nodup v), ih hB.2 (fun u hu => hs u (by simp [hu])), fun a ha b hb => ?_⟩
      rintro rfl
      have ha := List.mem_reverse.1 ha
      obtain ⟨l, hl, hbl⟩ := List.mem_flatten.1 hb
      obtain ⟨u, hu, rfl⟩ := List.mem_map.1 hl
      have hv := hn v (hs v (by simp))
      have hu' := hn u (hs u (by simp [hu]))
      have e1 := ((h.mem v hv.1 hv.2 a).1 ha).2
      have e2 := ((h.mem u hu'.1 hu'.2 a).1 (List.mem_reverse.1 hbl)).2
      exact hB.1 (by rw [← e1, e2]; exact hu)
  have hnodup := hnd hB (fun v hv => (hBU v hv).1)
  refine ⟨⟨fun c hc => ?_, hnodup⟩, ?_⟩
  · obtain ⟨v, hv, rfl⟩ := List.mem_map.1 hc
    have hv' := hn v (hBU v hv).1
    refine (ahead_ring (h.nodup v) (hBU v hv).2).congr fun x hx => ?_
    have := ((h.mem v hv'.1 hv'.2 x).1 (List.mem_reverse.1 hx)).2
    show ahead (turnAt turn v) x = ahead (turnAt turn (g.tail x)) x
    rw [this]
  · refine (List.perm_ext_iff_of_nodup hnodup ((darts_nodup hp).filter _)).2 fun d => ?_
    constructor
    · intro hd
      obtain ⟨l, hl, hdl⟩ := List.mem_flatten.1 hd
      obtain ⟨v, hv, rfl⟩ := List.mem_map.1 hl
      have hv' := hn v (hBU v hv).1
      obtain ⟨h1, h2⟩ := (h.mem v hv'.1 hv'.2 d).1 (List.mem_reverse.1 hdl)
      exact List.mem_filter.2 ⟨h1, by rw [h2]; simpa using (hBU v hv).1⟩
    · intro hd
      obtain ⟨h1, h2⟩ := List.mem_filter.1 hd
      have h2 : g.tail d ∈ U := by simpa using h2
      have hv' := hn _ h2
      have hdt := (h.mem _ hv'.1 hv'.2 d).2 ⟨h1, rfl⟩
      refine List.mem_flatten.2 ⟨_, List.mem_map.2 ⟨g.tail d, List.mem_filter.2 ⟨h2, ?_⟩, rfl⟩, List.mem_reverse.2 hdt⟩
      cases hq : turnAt turn (g.tail d) with
      | nil => rw [hq] at hdt; simp at hdt
      | cons _ _ => simp

/-- A walk around a face, as its key and its darts. -/
abbrev Face := Int × List Int

/-- What walks keep to: the darts of those that have some are rings of 'the next dart', all together all darts. -/
structure FacesOk (g : Gr) (p : Pt) (turn : List (List Int)) (W : List Face) : Prop where
  rings : Rings (nextDart g turn) ((W.filter fun f => !f.2.isEmpty).map (·.2))
  all : ((W.filter fun f => !f.2.isEmpty).map (·.2)).flatten.Perm p.darts
  key : ∀ f ∈ W, ∀ d l, f.2 = d :: l → f.1 = d
  lone : ((W.filter fun f => f.2.isEmpty).map (·.1)).Perm ((p.v.filter fun v => (turnAt turn v).isEmpty).map fun v => -1 - v)

/-- A vertex along a walk. -/
def Face.corner (g : Gr) (f : Face) : Int := match f.2 with | [] => -1 - f.1 | _ :: _ => g.tail f.1

/-- U is closed: no edge leads out of it. -/
def Closed (g : Gr) (p : Pt) (U : List Int) : Prop := ∀ d ∈ p.darts, g.tail d ∈ U → g.head d ∈ U

theorem next_tail {g : Gr} {p : Pt} {turn : List (List Int)} (h : TurnsOk g p turn) (hd0 : ∀ d ∈ p.darts, 0 ≤ g.tail d ∧ g.tail d < g.n) {d : Int} (hd : d ∈ p.darts) : nextDart g turn d ∈ p.darts ∧ g.tail (nextDart g turn d) = g.head d := by
  have ht := twin_mem hd
  have hv := hd0 _ ht
  have hm := (h.mem _ hv.1 hv.2 (twin d)).2 ⟨ht, rfl⟩
  have hlen : 0 < (turnAt turn (g.tail (twin d))).length := by
    cases hq : turnAt turn (g.tail (twin d)) with
    | nil => rw [hq] at hm; simp at hm
    | cons _ _ => simp
  have hin : nextDart g turn d ∈ turnAt turn (g.tail (twin d)) := by
    unfold nextDart before ahead
    have := Nat.mod_lt ((turnAt turn (g.tail (twin d))).idxOf (twin d) + (turnAt turn (g.tail (twin d))).length - 1) hlen
    simp [List.getD, this]
  obtain ⟨h1, h2⟩ := (h.mem _ hv.1 hv.2 _).1 hin
  exact ⟨h1, by rw [h2, tail_twin]⟩

theorem flatten_filter_perm {C : List (List Int)} {D : List Int} {f : Int → Bool} (hp : C.flatten.Perm D) (hf : ∀ c ∈ C, ∀ x ∈ c, ∀ y ∈ c, f x = f y) (hne : ∀ c ∈ C, c ≠ []) :
    ((C.filter fun c => f (c.headD 0)).flatten).Perm (D.filter f) := by
  refine List.Perm.trans (List.Perm.of_eq ?_) (hp.filter f)
  clear hp
  induction C with
  | nil => rfl
  | cons c C ih =>
    have ih := ih (fun d hd => hf d (by simp [hd])) (fun d hd => hne d (by simp [hd]))
    rw [List.flatten_cons (L := C), List.filter_append, ← ih]
    have hc := hf c (by simp)
    have hn := hne c (by simp)
    cases c with
    | nil => exact absurd rfl hn
    | cons x l =>
      by_cases hx : f x = true
      · rw [List.filter_cons_of_pos (p := fun c : List Int => f (c.headD 0)) (a := x :: l) (l := C) (show (fun c : List Int => f (c.headD 0)) (x :: l) = true from hx), List.flatten_cons, (List.filter_eq_self (p := f) (l := x :: l)).2 (fun y hy => by rw [hc y hy x (by simp)]; exact hx)]
      · rw [List.filter_cons_of_neg (p := fun c : List Int => f (c.headD 0)) (a := x :: l) (l := C) (show ¬ (fun c : List Int => f (c.headD 0)) (x :: l) = true from hx), (List.filter_eq_nil_iff (p := f) (l := x :: l)).2 (fun y hy => by rw [hc y hy x (by simp)]; exact hx)]
        rfl

theorem trail_const {p : Int → Int} {f : Int → Bool} {z : Int} : ∀ {l : List Int} {x : Int}, Trail p x l z → (∀ y ∈ x :: l, f (p y) = f y) → ∀ y ∈ x :: l, f y = f x
  | [], x, _, _, y, hy => by simp at hy; rw [hy]
  | a :: l, x, h, hf, y, hy => by
    have e : f a = f x := by rw [← h.1]; exact hf x (by simp)
    rcases List.mem_cons.1 hy with rfl | hy
    · rfl
    · rw [← e]
      exact trail_const h.2 (fun u hu => hf u (List.mem_cons_of_mem _ hu)) y hy

theorem ring_const {p : Int → Int} {f : Int → Bool} {c : List Int} (h : Ring p c) (hf : ∀ y ∈ c, f (p y) = f y) : ∀ x ∈ c, ∀ y ∈ c, f x = f y := by
  cases c with
  | nil => simp
  | cons a l => exact fun x hx y hy => (trail_const (show Trail p a l a from h) hf x hx).trans (trail_const (show Trail p a l a from h) hf y hy).symm

theorem closed_back {g : Gr} {p : Pt} {U : List Int} (hC : Closed g p U) {d : Int} (hd : d ∈ p.darts) : g.head d ∈ U ↔ g.tail d ∈ U := by
  refine ⟨fun h => ?_, hC d hd⟩
  have h2 := hC (twin d) (twin_mem hd) (by rw [tail_twin]; exact h)
  rwa [← tail_twin, twin_twin] at h2

theorem split_faces {g : Gr} : ∀ {W : List Face}, (∀ f ∈ W, ∀ d l, f.2 = d :: l → f.1 = d) → ∀ U : List Int,
    (W.filter fun f => decide (f.corner g ∈ U)).length = (((W.filter fun f => !f.2.isEmpty).map (·.2)).filter fun c => decide (g.tail (c.headD 0) ∈ U)).length + ((W.filter fun f => f.2.isEmpty).map (·.1)).countP fun k => decide (-1 - k ∈ U)
  | [], _, _ => rfl
  | (k, []) :: W, hk, U => by
    have ih := split_faces (g := g) (W := W) (fun f hf => hk f (by simp [hf])) U
    rw [List.filter_cons_of_neg (p := fun f : Face => !f.2.isEmpty) (by simp), List.filter_cons_of_pos (p := fun f : Face => f.2.isEmpty) (by simp), List.map_cons, List.countP_cons]
    by_cases q : -1 - k ∈ U
    · rw [List.filter_cons_of_pos (p := fun f : Face => decide (f.corner g ∈ U)) (show decide (Face.corner g (k, []) ∈ U) = true from decide_eq_true q), List.length_cons, ih]
      simp only [q, decide_true, if_true]
      omega
    · rw [List.filter_cons_of_neg (p := fun f : Face => decide (f.corner g ∈ U)) (Bool.eq_false_iff.1 (show decide (Face.corner g (k, []) ∈ U) = false from decide_eq_false q)), ih]
      simp only [q, decide_false, if_false, Bool.false_eq_true]
      omega
  | (k, d :: l) :: W, hk, U => by
    have ih := split_faces (g := g) (W := W) (fun f hf => hk f (by simp [hf])) U
    have e : k = d := hk (k, d :: l) (by simp) d l rfl
    subst e
    rw [List.filter_cons_of_pos (p := fun f : Face => !f.2.isEmpty) (by simp), List.filter_cons_of_neg (p := fun f : Face => f.2.isEmpty) (by simp), List.map_cons]
    by_cases q : g.tail k ∈ U
    · rw [List.filter_cons_of_pos (p := fun f : Face => decide (f.corner g ∈ U)) (show decide (Face.corner g (k, k :: l) ∈ U) = true from decide_eq_true q), List.filter_cons_of_pos (p := fun c : List Int => decide (g.tail (c.headD 0) ∈ U)) (by simpa using q), List.length_cons, List.length_cons, ih]
      omega
    · rw [List.filter_cons_of_neg (p := fun f : Face => decide (f.corner g ∈ U)) (Bool.eq_false_iff.1 (show decide (Face.corner g (k, k :: l) ∈ U) = false from decide_eq_false q)), List.filter_cons_of_neg (p := fun c : List Int => decide (g.tail (c.headD 0) ∈ U)) (by simpa using q), ih]

/-- THE PARITY OF A PIECE: vertices, edges and walks. -/
theorem piece_even {g : Gr} {p : Pt} {turn : List (List Int)} {W : List Face} (h : TurnsOk g p turn) (hp : p.e.Nodup) (hv : p.v.Nodup) (hd0 : ∀ d ∈ p.darts, 0 ≤ g.tail d ∧ g.tail d < g.n) (hW : FacesOk g p turn W)
    {U : List Int} (hU : U.Nodup) (hUV : ∀ v ∈ U, v ∈ p.v ∧ 0 ≤ v ∧ v < g.n) (hC : Closed g p U) :
    (U.length + (p.e.filter fun e => decide (g.tail (2 * e) ∈ U)).length + (W.filter fun f => decide (f.corner g ∈ U)).length) % 2 = 0 := by
  obtain ⟨hR, hRp⟩ := before_rings h hp hU (fun v hv => (hUV v hv).2)
  have hEn : (p.e.filter fun e => decide (g.tail (2 * e) ∈ U)).Nodup := List.Pairwise.filter _ hp
  have hA := twin_rings (p := ⟨U, p.e.filter fun e => decide (g.tail (2 * e) ∈ U)⟩) hEn
  have hAd : ((p.e.filter fun e => decide (g.tail (2 * e) ∈ U)).map fun e => [2 * e, 2 * e + 1]).flatten = Pt.darts ⟨U, p.e.filter fun e => decide (g.tail (2 * e) ∈ U)⟩ := by rw [Pt.darts, List.flatMap_def]
  have hAp : Pt.darts ⟨U, p.e.filter fun e => decide (g.tail (2 * e) ∈ U)⟩ |>.Perm (leaving g p U) := by
    refine (List.perm_ext_iff_of_nodup (darts_nodup hEn) ((darts_nodup hp).filter _)).2 fun d => ?_
    show _ ↔ d ∈ p.darts.filter fun d => decide (g.tail d ∈ U)
    rw [mem_darts]
    simp only [List.mem_filter, decide_eq_true_eq, mem_darts]
    refine and_congr_right fun hd => ?_
    by_cases hm : d % 2 = 0
    · rw [show 2 * (d / 2) = d by omega]
    · have e : 2 * (d / 2) = twin d := by unfold twin; rw [if_neg hm]; omega
      rw [e, tail_twin]
      exact closed_back hC (mem_darts.2 hd)
  obtain ⟨C, hCr, hCp, hmod⟩ := Rings.mul _ rfl hR hA (by rw [hAd]; exact hAp.trans hRp.symm)
  have hCp2 : C.flatten.Perm (leaving g p U) := by rw [hAd] at hCp; exact hCp.trans hAp
  -- the walks of U
  have hWr := hW.rings
  have hmem : ∀ c ∈ (W.filter fun f => !f.2.isEmpty).map (·.2), ∀ x ∈ c, x ∈ p.darts := fun c hc x hx => hW.all.mem_iff.1 (List.mem_flatten.2 ⟨c, hc, hx⟩)
  have hconst : ∀ c ∈ (W.filter fun f => !f.2.isEmpty).map (·.2), ∀ x ∈ c, ∀ y ∈ c, decide (g.tail x ∈ U) = decide (g.tail y ∈ U) := by
    intro c hc
    refine ring_const (f := fun d => decide (g.tail d ∈ U)) (hWr.ring c hc) fun y hy => ?_
    have hy' := hmem c hc y hy
    have h2 := (next_tail h hd0 hy').2
    simp only [h2, closed_back hC hy']
  have hne : ∀ c ∈ (W.filter fun f => !f.2.isEmpty).map (·.2), c ≠ [] := by
    intro c hc e
    have := hWr.ring c hc
    rw [e] at this
    exact this
  have hWp := flatten_filter_perm (f := fun d => decide (g.tail d ∈ U)) hW.all hconst hne
  have hWU : Rings (nextDart g turn) (((W.filter fun f => !f.2.isEmpty).map (·.2)).filter fun c => decide (g.tail (c.headD 0) ∈ U)) :=
    ⟨fun c hc => hWr.ring c (List.mem_filter.1 hc).1, hWp.nodup_iff.2 ((darts_nodup hp).filter _)⟩
  have hcount := Rings.count hWU (hCr.congr fun _ _ => rfl) (hWp.trans hCp2.symm)
  -- the lone ones
  have hlone := hW.lone.countP_eq fun k => decide (-1 - k ∈ U)
  have hsplit : (W.filter fun f => decide (f.corner g ∈ U)).length = (((W.filter fun f => !f.2.isEmpty).map (·.2)).filter fun c => decide (g.tail (c.headD 0) ∈ U)).length + ((W.filter fun f => f.2.isEmpty).map (·.1)).countP fun k => decide (-1 - k ∈ U) := by
    exact split_faces hW.key U
  have hiso : ((p.v.filter fun v => (turnAt turn v).isEmpty).map fun v => -1 - v).countP (fun k => decide (-1 - k ∈ U)) = (U.filter fun v => (turnAt turn v).isEmpty).length := by
    rw [List.countP_map, List.countP_eq_length_filter]
    refine List.Perm.length_eq ?_
    refine (List.perm_ext_iff_of_nodup ((hv.filter _).filter _) (hU.filter _)).2 fun v => ?_
    simp only [List.mem_filter, Function.comp, decide_eq_true_eq]
    rw [show -1 - (-1 - v) = v by omega]
    exact ⟨fun hh => ⟨hh.2, hh.1.2⟩, fun hh => ⟨⟨(hUV v hh.1).1, hh.2⟩, hh.1⟩⟩
  have hUl : U.length = (busy turn U).length + (U.filter fun v => (turnAt turn v).isEmpty).length := by
    unfold busy
    clear hC hRp hR hAp hAd hA hCp2 hCp hmod hCr hWp hWU hcount hconst hsplit hlone hiso hEn hUV hU
    induction U with
    | nil => rfl
    | cons v U ih =>
      simp only [List.filter_cons, List.length_cons]
      cases (turnAt turn v).isEmpty <;> simp <;> omega
  have hdl := darts_length ⟨U, p.e.filter fun e => decide (g.tail (2 * e) ∈ U)⟩
  rw [hAd] at hmod
  simp only [List.length_map] at hmod hdl
  rw [hsplit, hlone, hiso, hcount]
  omega
end Go.Proofs.Ytfgbkpbakignhaa.Plain
