/- A map of turns as one permutation of its darts and lone vertices: rings, pieces, Euler's inequality. No program here. -/
import Derived.Test.YtckjpaimbmlboaaVCut
import Derived.Test.YtckjpaimbmlboaaVKeep
namespace Go.Proofs.Ytckjpaimbmlboaa.Plain
theorem tw_eq : ∀ {S : List Int}, S.Nodup → ∀ x, tw S x = if x / 2 ∈ S then twin x else x
 | [], _, x => by simp [tw]
 | e :: S, h, x => by
  rw [List.nodup_cons] at h
  show tw S (swp (2 * e) (2 * e + 1) x) = _
  rw [tw_eq h.2]
  by_cases h1 : x = 2 * e
  ·subst h1
   have a1 : (2 * e + 1) / 2 = e := by omega
   have a2 : 2 * e / 2 = e := by omega
   rw [swp_left, a1, a2, if_neg h.1, if_pos (by simp)]
   unfold twin; rw [if_pos (by omega)]
  by_cases h2 : x = 2 * e + 1
  ·subst h2
   have a1 : (2 * e + 1) / 2 = e := by omega
   have a2 : 2 * e / 2 = e := by omega
   rw [swp_right, a1, a2, if_neg h.1, if_pos (by simp)]
   unfold twin; rw [if_neg (by omega)]; omega
  rw [swp_none h1 h2]
  have hne : x / 2 ≠ e := by omega
  by_cases h3 : x / 2 ∈ S
  ·rw [if_pos h3, if_pos (by simp [h3])]
  rw [if_neg h3, if_neg (by simp [h3, hne])]
theorem Come.congr {g : Gr} {p q : Pt} {s a b : Int} (he : p.e = q.e) (h : Come g p s a b) : Come g q s a b := by
 induction h with
 | here => exact .here
 | step _ hn hs ih =>
  obtain ⟨e, h1, h2⟩ := hn
  exact ih.step ⟨e, he ▸ h1, h2⟩ hs
theorem no_come {g : Gr} {p : Pt} (h : PartOk g p) {u : Int} (hc : Come g p (-1) (-1) u) (hu : u ≠ -1) : False := by
 induction hc with
 | here => exact hu rfl
 | @step u w _ hn hs ih =>
  by_cases e : u = -1
  ·obtain ⟨f, hf, q⟩ := hn
   have h1 := h.ends f hf
   have h2 := h.vr _ h1.1
   have h3 := h.vr _ h1.2
   rcases q with q | q
   ·rw [q] at h2; simp only at h2; omega
   rw [q] at h3; simp only at h3; omega
  exact ih e
def vert (g : Gr) (d : Int) : Int := if d < 0 then -1 - d else g.tail d
def ground (g : Gr) (p : Pt) (turn : List (List Int)) (U : List Int) : List Int := leaving g p U ++ (U.filter fun v => (turnAt turn v).isEmpty).map fun v => -1 - v
def bef (g : Gr) (turn : List (List Int)) (d : Int) : Int := if d < 0 then d else before g turn d
def bRings (turn : List (List Int)) (U : List Int) : List (List Int) := ((busy turn U).map fun v => (turnAt turn v).reverse) ++ (U.filter fun v => (turnAt turn v).isEmpty).map fun v => [-1 - v]
def edgesOf (g : Gr) (p : Pt) (U : List Int) : List Int := p.e.filter fun e => decide (g.tail (2 * e) ∈ U)
def walksIn (g : Gr) (W : List Face) (U : List Int) : List (List Int) := (W.filter fun f => decide (f.corner g ∈ U)).map marks
structure Stretch (g : Gr) (p : Pt) (U : List Int) : Prop where
 nodup : U.Nodup
 sub : ∀ v ∈ U, v ∈ p.v
 closed : Closed g p U
theorem dart_pos {g : Gr} {p : Pt} (h : PartOk g p) {d : Int} (hd : d ∈ p.darts) : 0 ≤ d := by
 have := h.er _ (mem_darts.1 hd); omega
theorem mem_ground {g : Gr} {p : Pt} {turn : List (List Int)} {U : List Int} {x : Int} : x ∈ ground g p turn U ↔ (x ∈ p.darts ∧ g.tail x ∈ U) ∨ ∃ v ∈ U, turnAt turn v = [] ∧ x = -1 - v := by
 unfold ground leaving
 rw [List.mem_append, List.mem_filter, List.mem_map]
 simp only [decide_eq_true_eq, List.mem_filter, List.isEmpty_iff]
 constructor
 ·rintro (h | ⟨v, ⟨h1, h2⟩, h3⟩)
  ·exact Or.inl h
  exact Or.inr ⟨v, h1, h2, h3.symm⟩
 rintro (h | ⟨v, h1, h2, h3⟩)
 ·exact Or.inl h
 exact Or.inr ⟨v, ⟨h1, h2⟩, h3.symm⟩
theorem vert_dart {g : Gr} {p : Pt} (h : PartOk g p) {d : Int} (hd : d ∈ p.darts) : vert g d = g.tail d := by
 unfold vert; rw [if_neg (by have := dart_pos h hd; omega)]
theorem vert_lone {g : Gr} {v : Int} (h : 0 ≤ v) : vert g (-1 - v) = v := by
 unfold vert; rw [if_pos (by omega)]; omega
theorem ground_vert {g : Gr} {p : Pt} {turn : List (List Int)} {U : List Int} (h : PartOk g p) (hU : Stretch g p U) {x : Int} (hx : x ∈ ground g p turn U) : vert g x ∈ U := by
 rcases mem_ground.1 hx with ⟨h1, h2⟩ | ⟨v, h1, -, rfl⟩
 ·rw [vert_dart h h1]; exact h2
 rw [vert_lone (h.vr v (hU.sub v h1)).1]; exact h1
theorem Stretch.all {g : Gr} {p : Pt} (h : PartOk g p) : Stretch g p p.v := ⟨h.vn, fun _ hv => hv, fun _d hd _ => (h.tail_mem hd).2⟩
theorem Stretch.comp {g : Gr} {p : Pt} (h : PartOk g p) (r : Int) : Stretch g p (comp g p r) := ⟨comp_nodup h r, fun _ hv => (mem_comp.1 hv).1, comp_closed h r⟩
theorem busy_len (turn : List (List Int)) : ∀ U : List Int, (busy turn U).length + (U.filter fun v => (turnAt turn v).isEmpty).length = U.length
 | [] => rfl
 | v :: U => by
  have ih := busy_len turn U
  unfold busy at ih ⊢
  simp only [List.filter_cons, List.length_cons]
  cases (turnAt turn v).isEmpty <;> simp <;> omega
theorem bRings_len (turn : List (List Int)) (U : List Int) : (bRings turn U).length = U.length := by
 unfold bRings
 rw [List.length_append, List.length_map, List.length_map, busy_len]
theorem flatten_singles (f : Int → Int) : ∀ L : List Int, (L.map fun v => [f v]).flatten = L.map f
 | [] => rfl
 | v :: L => by rw [List.map_cons, List.flatten_cons, flatten_singles f L]; rfl
theorem ground_nodup {g : Gr} {p : Pt} {turn : List (List Int)} {U : List Int} (h : PartOk g p) (hU : Stretch g p U) : (ground g p turn U).Nodup := by
 unfold ground
 rw [List.nodup_append]
 refine ⟨(darts_nodup h.en).filter _, List.Pairwise.map _ (fun a b (hab : a ≠ b) (e : -1 - a = -1 - b) => hab (by omega)) (hU.nodup.filter _), fun a ha b hb e => ?_⟩
 obtain ⟨v, hv, e2⟩ := List.mem_map.1 hb
 have h1 := dart_pos h (List.mem_filter.1 ha).1
 have h2 := (h.vr v (hU.sub v (List.mem_filter.1 hv).1)).1
 omega
theorem bef_rings {g : Gr} {p : Pt} {turn : List (List Int)} {U : List Int} (h : PartOk g p) (ht : TurnsOk g p turn) (hU : Stretch g p U) : Rings (bef g turn) (bRings turn U) ∧ (bRings turn U).flatten.Perm (ground g p turn U) := by
 obtain ⟨h1, h2⟩ := before_rings ht h.en hU.nodup (fun v hv => h.vr v (hU.sub v hv))
 have hp : (bRings turn U).flatten.Perm (ground g p turn U) := by
  unfold bRings ground
  rw [List.flatten_append, flatten_singles]
  exact h2.append_right _
 refine ⟨⟨fun c hc => ?_, hp.nodup_iff.2 (ground_nodup h hU)⟩, hp⟩
 unfold bRings at hc
 rcases List.mem_append.1 hc with q | q
 ·refine (h1.ring c q).congr fun x hx => ?_
  have hxd : x ∈ p.darts := (List.mem_filter.1 (h2.mem_iff.1 (List.mem_flatten.2 ⟨c, q, hx⟩))).1
  unfold bef
  rw [if_neg (by have := dart_pos h hxd; omega)]
 obtain ⟨v, hv, rfl⟩ := List.mem_map.1 q
 have := (h.vr v (hU.sub v (List.mem_filter.1 hv).1)).1
 show bef g turn (-1 - v) = -1 - v
 unfold bef
 rw [if_pos (by omega)]
theorem edges_in {g : Gr} {p : Pt} {turn : List (List Int)} {U : List Int} (_h : PartOk g p) (hU : Stretch g p U) {e : Int} (he : e ∈ edgesOf g p U) : 2 * e ∈ ground g p turn U ∧ 2 * e + 1 ∈ ground g p turn U := by
 unfold edgesOf at he
 obtain ⟨h1, h2⟩ := List.mem_filter.1 he
 have h2 := of_decide_eq_true h2
 have d1 : 2 * e ∈ p.darts := mem_darts.2 (by rwa [show 2 * e / 2 = e by omega])
 have d2 : 2 * e + 1 ∈ p.darts := mem_darts.2 (by rwa [show (2 * e + 1) / 2 = e by omega])
 have e2 : twin (2 * e) = 2 * e + 1 := by unfold twin; rw [if_pos (by omega)]
 refine ⟨mem_ground.2 (Or.inl ⟨d1, h2⟩), mem_ground.2 (Or.inl ⟨d2, ?_⟩)⟩
 rw [← e2, tail_twin]
 exact hU.closed _ d1 h2
theorem half_in {g : Gr} {p : Pt} {U : List Int} (hU : Stretch g p U) {x : Int} (hx : x ∈ p.darts) (ht : g.tail x ∈ U) : x / 2 ∈ edgesOf g p U := by
 unfold edgesOf
 refine List.mem_filter.2 ⟨mem_darts.1 hx, decide_eq_true ?_⟩
 rcases twin_cases x with ⟨e, -⟩ | ⟨e, e2⟩
 ·rw [← e]; exact ht
 rw [← e2, tail_twin]; exact hU.closed x hx ht
theorem dart_ends {g : Gr} {p : Pt} (h : PartOk g p) {d : Int} (hd : d ∈ p.darts) : 0 ≤ g.tail d ∧ g.tail d < g.n := h.vr _ (h.tail_mem hd).1
theorem walk_const {g : Gr} {p : Pt} {turn : List (List Int)} {W : List Face} {U : List Int} (h : PartOk g p) (ht : TurnsOk g p turn) (hW : FacesOk g p turn W) (hC : Closed g p U) {f : Face} (hf : f ∈ W) {x : Int} (hx : x ∈ f.2) : x ∈ p.darts ∧ (g.tail x ∈ U ↔ f.corner g ∈ U) := by
 have hne : f.2 ≠ [] := fun e => by rw [e] at hx; simp at hx
 have hc : f.2 ∈ (W.filter fun f => !f.2.isEmpty).map (·.2) := List.mem_map.2 ⟨f, List.mem_filter.2 ⟨hf, by simp [hne]⟩, rfl⟩
 have hd : ∀ y ∈ f.2, y ∈ p.darts := fun y hy => hW.all.mem_iff.1 (List.mem_flatten.2 ⟨f.2, hc, hy⟩)
 have hk := ring_const (f := fun d => decide (g.tail d ∈ U)) (hW.rings.ring f.2 hc) (fun y hy => by
  have h2 := (next_tail ht (fun d hd => dart_ends h hd) (hd y hy)).2
  simp only [h2, closed_back hC (hd y hy)])
 refine ⟨hd x hx, ?_⟩
 match e : f.2 with
 | [] => exact absurd e hne
 | d :: l =>
  have hcr : f.corner g = g.tail f.1 := by unfold Face.corner; rw [e]
  rw [hcr, hW.key f hf d l e]
  have := hk x hx d (by rw [e]; simp)
  simpa using this
theorem lone_walk {g : Gr} {p : Pt} {turn : List (List Int)} {W : List Face} (hW : FacesOk g p turn W) {v : Int} (hv : v ∈ p.v) (h0 : turnAt turn v = []) : (-1 - v, []) ∈ W := by
 have : -1 - v ∈ (W.filter fun f => f.2.isEmpty).map (·.1) := hW.lone.mem_iff.2 (List.mem_map.2 ⟨v, List.mem_filter.2 ⟨hv, by simp [h0]⟩, rfl⟩)
 obtain ⟨f, hf, e⟩ := List.mem_map.1 this
 obtain ⟨h1, h2⟩ := List.mem_filter.1 hf
 have h2 : f.2 = [] := by simpa using h2
 have : f = (-1 - v, []) := Prod.ext e h2
 rw [← this]; exact h1
theorem lone_of {g : Gr} {p : Pt} {turn : List (List Int)} {W : List Face} (hW : FacesOk g p turn W) {f : Face} (hf : f ∈ W) (h0 : f.2 = []) : ∃ v ∈ p.v, turnAt turn v = [] ∧ f.1 = -1 - v := by
 have : f.1 ∈ (W.filter fun f => f.2.isEmpty).map (·.1) := List.mem_map.2 ⟨f, List.mem_filter.2 ⟨hf, by simp [h0]⟩, rfl⟩
 obtain ⟨v, hv, e⟩ := List.mem_map.1 (hW.lone.mem_iff.1 this)
 obtain ⟨h1, h2⟩ := List.mem_filter.1 hv
 exact ⟨v, h1, by simpa using h2, e.symm⟩
theorem walk_of {g : Gr} {p : Pt} {turn : List (List Int)} {W : List Face} (hW : FacesOk g p turn W) {x : Int} (hx : x ∈ p.darts) : ∃ f ∈ W, x ∈ f.2 := by
 obtain ⟨c, hc, hxc⟩ := List.mem_flatten.1 (hW.all.mem_iff.2 hx)
 obtain ⟨f, hf, rfl⟩ := List.mem_map.1 hc
 exact ⟨f, (List.mem_filter.1 hf).1, hxc⟩
theorem walk_rings {g : Gr} {p : Pt} {turn : List (List Int)} {W : List Face} {U : List Int} (hpe : p.err g = 0) (ht : TurnsOk g p turn) (hW : WalksOk g p turn W) (hU : Stretch g p U) :
  Rings (fun x => bef g turn (tw (edgesOf g p U) x)) (walksIn g W U) ∧ (walksIn g W U).flatten.Perm (ground g p turn U) := by
 have h := Pt.ok_of_err hpe
 have hSn : (edgesOf g p U).Nodup := h.en.filter _
 have hnd : (walksIn g W U).flatten.Nodup := by
  have h8 := places_nodup hpe hW
  have hs : (walksIn g W U).Sublist (places8 W) := (List.filter_sublist).map marks
  rw [nodup_flat] at h8 ⊢
  exact ⟨fun l hl => h8.1 l (hs.subset hl), h8.2.sublist hs⟩
 refine ⟨⟨fun c hc => ?_, hnd⟩, ?_⟩
 ·obtain ⟨f, hf, rfl⟩ := List.mem_map.1 hc
  obtain ⟨hfW, hfU⟩ := List.mem_filter.1 hf
  have hfU := of_decide_eq_true hfU
  by_cases e : f.2 = []
  ·obtain ⟨v, hv, -, e1⟩ := lone_of hW.faces hfW e
   rw [marks_nil e, e1]
   have hv0 := (h.vr v hv).1
   show bef g turn (tw _ (-1 - v)) = -1 - v
   rw [tw_eq hSn, if_neg (fun q => by
    have := h.er _ (List.mem_filter.1 q).1
    omega)]
   unfold bef
   rw [if_pos (by omega)]
  rw [marks_some e]
  have hc2 : f.2 ∈ (W.filter fun f => !f.2.isEmpty).map (·.2) := List.mem_map.2 ⟨f, List.mem_filter.2 ⟨hfW, by simp [e]⟩, rfl⟩
  refine (hW.faces.rings.ring f.2 hc2).congr fun x hx => ?_
  obtain ⟨hxd, hxU⟩ := walk_const h ht hW.faces hU.closed hfW hx
  rw [tw_eq hSn, if_pos (half_in hU hxd (hxU.2 hfU))]
  have := dart_pos h (twin_mem hxd)
  unfold bef
  rw [if_neg (by omega)]
  rfl
 refine (List.perm_ext_iff_of_nodup hnd (ground_nodup h hU)).2 fun x => ?_
 rw [mem_ground, List.mem_flatten]
 constructor
 ·rintro ⟨c, hc, hxc⟩
  obtain ⟨f, hf, rfl⟩ := List.mem_map.1 hc
  obtain ⟨hfW, hfU⟩ := List.mem_filter.1 hf
  have hfU := of_decide_eq_true hfU
  by_cases e : f.2 = []
  ·rw [marks_nil e] at hxc
   obtain ⟨v, hv, e2, e1⟩ := lone_of hW.faces hfW e
   refine Or.inr ⟨v, ?_, e2, by rw [← e1]; simpa using hxc⟩
   have : f.corner g = -1 - f.1 := by unfold Face.corner; rw [e]
   rw [this, e1, show -1 - (-1 - v) = v by omega] at hfU
   exact hfU
  rw [marks_some e] at hxc
  obtain ⟨hxd, hxU⟩ := walk_const h ht hW.faces hU.closed hfW hxc
  exact Or.inl ⟨hxd, hxU.2 hfU⟩
 rintro (⟨h1, h2⟩ | ⟨v, h1, h2, rfl⟩)
 ·obtain ⟨f, hf, hxf⟩ := walk_of hW.faces h1
  obtain ⟨-, hxU⟩ := walk_const h ht hW.faces hU.closed hf hxf
  exact ⟨marks f, List.mem_map.2 ⟨f, List.mem_filter.2 ⟨hf, decide_eq_true (hxU.1 h2)⟩, rfl⟩, by rw [marks_some (fun e => by rw [e] at hxf; simp at hxf)]; exact hxf⟩
 have hf := lone_walk hW.faces (hU.sub v h1) h2
 refine ⟨marks (-1 - v, []), List.mem_map.2 ⟨_, List.mem_filter.2 ⟨hf, decide_eq_true ?_⟩, rfl⟩, by rw [marks_nil rfl]; simp⟩
 show -1 - (-1 - v) ∈ U
 rw [show -1 - (-1 - v) = v by omega]; exact h1
theorem same_vert {g : Gr} {p : Pt} {turn : List (List Int)} {U : List Int} (h : PartOk g p) (ht : TurnsOk g p turn) (hU : Stretch g p U) {x y : Int} (hx : x ∈ ground g p turn U) (hy : y ∈ ground g p turn U) (e : vert g x = vert g y) : Same (bRings turn U) x y := by
 have key : ∀ {x y v : Int}, x ∈ p.darts → g.tail x = v → v ∈ U → y ∈ ground g p turn U → vert g y = v → Same (bRings turn U) x y := by
  intro x y v hx e1 hv hy e2
  have hb := h.vr v (hU.sub v hv)
  have hxt : x ∈ turnAt turn v := (ht.mem v hb.1 hb.2 x).2 ⟨hx, e1⟩
  rcases mem_ground.1 hy with ⟨q1, -⟩ | ⟨u, q1, q2, rfl⟩
  ·rw [vert_dart h q1] at e2
   have hyt : y ∈ turnAt turn v := (ht.mem v hb.1 hb.2 y).2 ⟨q1, e2⟩
   refine Or.inr ⟨(turnAt turn v).reverse, ?_, by simpa using hxt, by simpa using hyt⟩
   unfold bRings busy
   refine List.mem_append.2 (Or.inl (List.mem_map.2 ⟨v, List.mem_filter.2 ⟨hv, ?_⟩, rfl⟩))
   cases hq : turnAt turn v with
   | nil => rw [hq] at hxt; simp at hxt
   | cons _ _ => rfl
  rw [vert_lone (h.vr u (hU.sub u q1)).1] at e2
  subst e2
  rw [q2] at hxt; simp at hxt
 have hB := (bef_rings h ht hU).1.nodup
 rcases mem_ground.1 hx with ⟨q1, q2⟩ | ⟨u, q1, q2, rfl⟩
 ·exact key q1 rfl q2 hy (by rw [← e, vert_dart h q1])
 rw [vert_lone (h.vr u (hU.sub u q1)).1] at e
 rcases mem_ground.1 hy with ⟨r1, r2⟩ | ⟨w, r1, r2, rfl⟩
 ·rw [vert_dart h r1] at e
  exact (Same.eqv hB).symm (key r1 e.symm q1 hx (vert_lone (h.vr u (hU.sub u q1)).1))
 rw [vert_lone (h.vr w (hU.sub w r1)).1] at e
 rw [e]; exact Or.inl rfl
theorem vert_bef {g : Gr} {p : Pt} {turn : List (List Int)} {U : List Int} (h : PartOk g p) (ht : TurnsOk g p turn) (hU : Stretch g p U) {x : Int} (hx : x ∈ ground g p turn U) : bef g turn x ∈ ground g p turn U ∧ vert g (bef g turn x) = vert g x := by
 obtain ⟨h1, h2⟩ := bef_rings h ht hU
 have hm := h2.mem_iff.1 (h1.next (h2.mem_iff.2 hx))
 refine ⟨hm, ?_⟩
 rcases Same.step h1 (h2.mem_iff.2 hx) with e | ⟨c, hc, c1, c2⟩
 ·rw [← e]
 unfold bRings at hc
 rcases List.mem_append.1 hc with q | q
 ·obtain ⟨v, hv, rfl⟩ := List.mem_map.1 q
  have hb := h.vr v (hU.sub v (List.mem_filter.1 hv).1)
  obtain ⟨a1, a2⟩ := (ht.mem v hb.1 hb.2 _).1 (by simpa using c1)
  obtain ⟨b1, b2⟩ := (ht.mem v hb.1 hb.2 _).1 (by simpa using c2)
  rw [vert_dart h a1, vert_dart h b1, a2, b2]
 obtain ⟨v, hv, rfl⟩ := List.mem_map.1 q
 simp at c1 c2
 rw [c2, c1]
theorem come_gen {g : Gr} {p : Pt} {turn : List (List Int)} {U S : List Int} (h : PartOk g p) (hU : Stretch g p U) {G : Int → Int → Prop} (hG : Eqv G) (h1 : ∀ x ∈ ground g p turn U, ∀ y ∈ ground g p turn U, vert g x = vert g y → G x y)
  (hS : ∀ e ∈ S, e ∈ p.e) (h2 : ∀ e ∈ S, g.tail (2 * e) ∈ U → G (2 * e) (2 * e + 1)) {a v : Int} (hc : Come g ⟨p.v, S⟩ (-1) a v) : ∀ x ∈ ground g p turn U, vert g x = a → ∀ y ∈ ground g p turn U, vert g y = v → G x y := by
 induction hc with
 | here => exact fun x hx e1 y hy e2 => h1 x hx y hy (e1.trans e2.symm)
 | @step u w _ hn _ ih =>
  intro x hx e1 y hy e2
  obtain ⟨e, he, hends⟩ := hn
  have d1 : 2 * e ∈ p.darts := mem_darts.2 (by rw [show 2 * e / 2 = e by omega]; exact hS e he)
  have d2 : 2 * e + 1 ∈ p.darts := mem_darts.2 (by rw [show (2 * e + 1) / 2 = e by omega]; exact hS e he)
  have t1 := tail_even g e
  have t2 : g.tail (2 * e + 1) = (g.at e).2 := by
   have e2 : twin (2 * e) = 2 * e + 1 := by unfold twin; rw [if_pos (by omega)]
   rw [← e2, tail_twin]; exact t1.2
  have hyU : w ∈ U := by rw [← e2]; exact ground_vert h hU hy
  rcases hends with q | q
  ·-- 2e at u, its twin at w
   have a1 : g.tail (2 * e) = u := by rw [t1.1, q]
   have a2 : g.tail (2 * e + 1) = w := by rw [t2, q]
   have aU : u ∈ U := by
    have e2' : twin (2 * e) = 2 * e + 1 := by unfold twin; rw [if_pos (by omega)]
    rw [← a1]
    refine (closed_back hU.closed d1).1 ?_
    rw [← tail_twin, e2', a2]; exact hyU
   have g1 : 2 * e ∈ ground g p turn U := mem_ground.2 (Or.inl ⟨d1, by rw [a1]; exact aU⟩)
   have g2 : 2 * e + 1 ∈ ground g p turn U := mem_ground.2 (Or.inl ⟨d2, by rw [a2]; exact hyU⟩)
   exact hG.trans (hG.trans (ih x hx e1 _ g1 (by rw [vert_dart h d1, a1])) (h2 e he (by rw [a1]; exact aU))) (h1 _ g2 y hy (by rw [vert_dart h d2, a2, e2]))
  have a1 : g.tail (2 * e) = w := by rw [t1.1, q]
  have a2 : g.tail (2 * e + 1) = u := by rw [t2, q]
  have aU : u ∈ U := by
   have e2' : twin (2 * e) = 2 * e + 1 := by unfold twin; rw [if_pos (by omega)]
   rw [← a2, ← e2', tail_twin]
   exact hU.closed _ d1 (by rw [a1]; exact hyU)
  have g1 : 2 * e ∈ ground g p turn U := mem_ground.2 (Or.inl ⟨d1, by rw [a1]; exact hyU⟩)
  have g2 : 2 * e + 1 ∈ ground g p turn U := mem_ground.2 (Or.inl ⟨d2, by rw [a2]; exact aU⟩)
  exact hG.trans (hG.trans (ih x hx e1 _ g2 (by rw [vert_dart h d2, a2])) (hG.symm (h2 e he (by rw [a1]; exact hyU)))) (h1 _ g1 y hy (by rw [vert_dart h d1, a1, e2]))
theorem piece_le {g : Gr} {p : Pt} {turn : List (List Int)} {W : List Face} (hpe : p.err g = 0) (ht : TurnsOk g p turn) (hW : WalksOk g p turn W) (r : Int) :
  (comp g p r).length + (W.filter fun f => decide (f.corner g ∈ comp g p r)).length ≤ 2 + (p.e.filter fun e => decide (g.tail (2 * e) ∈ comp g p r)).length := by
 have h := Pt.ok_of_err hpe
 have hU := Stretch.comp h r
 obtain ⟨b1, b2⟩ := bef_rings h ht hU
 obtain ⟨w1, w2⟩ := walk_rings hpe ht hW hU
 have hle := euler_le b1 b2 (fun e he => edges_in (turn := turn) h hU he) w1 w2
 rw [bRings_len] at hle
 have hE := Same.eqv b1.nodup
 have h1 : cnt (Gen (Same (bRings turn (comp g p r))) (edgesOf g p (comp g p r))) (ground g p turn (comp g p r)) ≤ 1 := by
  refine cnt_le_one (Gen.eqv hE _) fun x hx y hy => ?_
  have vx := mem_comp.1 (ground_vert h hU hx)
  have vy := mem_comp.1 (ground_vert h hU hy)
  have hc := ((vx.2.symm (by
   intro e
   have : r = -1 := e
   have h2 := h.vr _ vx.1
   have h3 : Come g p (-1) (-1) (vert g x) := by rw [← this]; exact this ▸ vx.2
   exact no_come h h3 (by omega))).2).trans vy.2
  exact come_gen (S := p.e) h hU (Gen.eqv hE _) (fun u hu w hw e => Gen.base (same_vert h ht hU hu hw e) _) (fun _ he => he) (fun e he ht2 => Gen.edge hE (List.mem_filter.2 ⟨he, decide_eq_true ht2⟩)) (Come.congr (q := ⟨p.v, p.e⟩) rfl hc) x hx rfl y hy rfl
 unfold walksIn at hle
 rw [List.length_map] at hle
 unfold edgesOf at hle h1
 omega
def nCls (c : Face → Int) (W : List Face) : Nat := (W.filter fun f => decide ((keysAt c W (c f)).getD 0 0 = f.1)).length
theorem keysAt_mem {c : Face → Int} {W : List Face} {h k : Int} : k ∈ keysAt c W h ↔ ∃ f ∈ W, c f = h ∧ f.1 = k := by
 unfold keysAt
 rw [List.mem_map]
 constructor
 ·rintro ⟨f, hf, e⟩
  obtain ⟨h1, h2⟩ := List.mem_filter.1 hf
  exact ⟨f, h1, of_decide_eq_true h2, e⟩
 rintro ⟨f, h1, h2, e⟩
 exact ⟨f, List.mem_filter.2 ⟨h1, decide_eq_true h2⟩, e⟩
theorem keysAt_sub (c : Face → Int) (W : List Face) (h : Int) : (keysAt c W h).Sublist (W.map (·.1)) := (List.filter_sublist).map _
theorem keysAt_rise {c : Face → Int} {W : List Face} (hk : (W.map (·.1)).Pairwise (· < ·)) (h : Int) : (keysAt c W h).Pairwise (· < ·) := hk.sublist (keysAt_sub c W h)
theorem key_face {W : List Face} (hk : (W.map (·.1)).Pairwise (· < ·)) {f x : Face} (hf : f ∈ W) (hx : x ∈ W) (e : f.1 = x.1) : f = x := by
 induction W with
 | nil => simp at hf
 | cons a W ih =>
  rw [List.map_cons, List.pairwise_cons] at hk
  rcases List.mem_cons.1 hf with e1 | h1 <;> rcases List.mem_cons.1 hx with e2 | h2
  ·rw [e1, e2]
  ·have := hk.1 x.1 (List.mem_map.2 ⟨x, h2, rfl⟩); rw [e1] at e; omega
  ·have := hk.1 f.1 (List.mem_map.2 ⟨f, h1, rfl⟩); rw [e2] at e; omega
  exact ih hk.2 h1 h2
theorem grps_two {c : Face → Int} {W : List Face} : ∀ l ∈ grps c W, 2 ≤ l.length := fun l hl => by
 obtain ⟨h, -, h2⟩ := mem_grps.1 hl; omega
theorem grps_rise {c : Face → Int} {W : List Face} (hk : (W.map (·.1)).Pairwise (· < ·)) : ∀ l ∈ grps c W, l.Pairwise (· < ·) := fun l hl => by
 obtain ⟨h, rfl, -⟩ := mem_grps.1 hl
 exact keysAt_rise hk h
theorem grps_keys {c : Face → Int} {W : List Face} : ∀ x ∈ (grps c W).flatten, x ∈ W.map (·.1) := by
 intro x hx
 obtain ⟨l, hl, hxl⟩ := List.mem_flatten.1 hx
 obtain ⟨h, rfl, -⟩ := mem_grps.1 hl
 exact (keysAt_sub c W h).subset hxl
theorem grps_nodup {c : Face → Int} {W : List Face} (hk : (W.map (·.1)).Pairwise (· < ·)) : (grps c W).flatten.Nodup := by
 rw [nodup_flat]
 refine ⟨fun l hl => (grps_rise hk l hl).imp fun h => by omega, (grps_heads hk).imp_of_mem fun {a b} ha hb hlt x hx y hy e => ?_⟩
 subst e
 obtain ⟨h1, rfl, -⟩ := mem_grps.1 ha
 obtain ⟨h2, rfl, -⟩ := mem_grps.1 hb
 obtain ⟨f, hf, e1, e2⟩ := keysAt_mem.1 hx
 obtain ⟨f', hf', e3, e4⟩ := keysAt_mem.1 hy
 have := key_face hk hf hf' (e2.trans e4.symm)
 subst this
 rw [e1] at e3
 subst e3
 omega
theorem sum_split {α : Type} (a : α → Nat) : ∀ {H : List α}, (∀ x ∈ H, 1 ≤ a x) → (H.map a).sum + (H.filter fun x => decide (1 < a x)).length = ((H.filter fun x => decide (1 < a x)).map a).sum + H.length
 | [], _ => rfl
 | x :: H, h => by
  have ih := sum_split a (H := H) fun y hy => h y (by simp [hy])
  have hx := h x (by simp)
  by_cases q : 1 < a x
  ·rw [List.filter_cons_of_pos (by simpa using q)]
   simp only [List.map_cons, List.sum_cons, List.length_cons]
   omega
  rw [List.filter_cons_of_neg (by simpa using q)]
  simp only [List.map_cons, List.sum_cons, List.length_cons]
  omega
theorem head_of {c : Face → Int} {W : List Face} {f : Face} (hf : f ∈ W) : ∃ r ∈ W, c r = c f ∧ (keysAt c W (c r)).getD 0 0 = r.1 := by
 have hm : f ∈ W.filter fun x => decide (c x = c f) := List.mem_filter.2 ⟨hf, by simp⟩
 cases e : W.filter fun x => decide (c x = c f) with
 | nil => rw [e] at hm; simp at hm
 | cons r l =>
  have hr : r ∈ W.filter fun x => decide (c x = c f) := by rw [e]; simp
  obtain ⟨h1, h2⟩ := List.mem_filter.1 hr
  have h2 := of_decide_eq_true h2
  refine ⟨r, h1, h2, ?_⟩
  rw [h2]
  unfold keysAt
  rw [e]; rfl
theorem keys_len {c : Face → Int} {W : List Face} (h : Int) : (keysAt c W h).length = (W.filter fun x => decide (c x = h)).length := by simp [keysAt]
theorem grps_count {c : Face → Int} {W : List Face} (hk : (W.map (·.1)).Pairwise (· < ·)) : (grps c W).flatten.length + nCls c W = W.length + (grps c W).length := by
 obtain ⟨H, hH⟩ : ∃ H, (W.filter fun f => decide ((keysAt c W (c f)).getD 0 0 = f.1)) = H := ⟨_, rfl⟩
 have hmH : ∀ r, r ∈ H ↔ r ∈ W ∧ (keysAt c W (c r)).getD 0 0 = r.1 := fun r => by rw [← hH, List.mem_filter, decide_eq_true_iff]
 have hWn : W.Nodup := by
  rw [List.pairwise_map] at hk
  exact hk.imp fun h e => by rw [e] at h; omega
 have hHn : H.Nodup := by rw [← hH]; exact hWn.filter _
 have hsum : (H.map fun r => (W.filter fun x => decide (c x = c r)).length).sum = W.length := by
  refine sum_classes (fun x r => decide (c x = c r)) hHn fun x hx => ⟨?_, fun r hr s hs h1 h2 => ?_⟩
  ·obtain ⟨r, hr, e, h⟩ := head_of (c := c) hx
   exact ⟨r, (hmH r).2 ⟨hr, h⟩, decide_eq_true e.symm⟩
  have e : c r = c s := (of_decide_eq_true h1).symm.trans (of_decide_eq_true h2)
  obtain ⟨r1, r2⟩ := (hmH r).1 hr
  obtain ⟨s1, s2⟩ := (hmH s).1 hs
  rw [e] at r2
  exact key_face hk r1 s1 (r2.symm.trans s2)
 have hpos : ∀ r ∈ H, 1 ≤ (keysAt c W (c r)).length := fun r hr => List.length_pos_of_mem (keysAt_mem.2 ⟨r, ((hmH r).1 hr).1, rfl, rfl⟩)
 have hs := sum_split (fun r => (keysAt c W (c r)).length) hpos
 have e1 : (H.map fun r => (keysAt c W (c r)).length).sum = W.length := by
  rw [← hsum]
  congr 1
  exact List.map_congr_left fun r _ => keys_len _
 have e2 : grps c W = (H.filter fun r => decide (1 < (keysAt c W (c r)).length)).map fun r => keysAt c W (c r) := by
  unfold grps
  rw [← hH, List.filter_filter]
  congr 1
  refine List.filter_congr fun f _ => ?_
  by_cases h1 : 1 < (keysAt c W (c f)).length <;> by_cases h2 : (keysAt c W (c f)).getD 0 0 = f.1 <;> simp [h1]
 have e3 : (grps c W).flatten.length = ((H.filter fun r => decide (1 < (keysAt c W (c r)).length)).map fun r => (keysAt c W (c r)).length).sum := by
  rw [e2, List.length_flatten, List.map_map]; rfl
 have e4 : (grps c W).length = (H.filter fun r => decide (1 < (keysAt c W (c r)).length)).length := by rw [e2, List.length_map]
 have e5 : nCls c W = H.length := by unfold nCls; rw [hH]
 rw [e1] at hs
 omega
theorem nCls_cnt {c : Face → Int} {W : List Face} (hk : (W.map (·.1)).Pairwise (· < ·)) {R : Int → Int → Prop} (hR : Eqv R) {K : List Int} {pl : Face → Int} (hpl : ∀ f ∈ W, pl f ∈ K) (h : ∀ f ∈ W, ∀ x ∈ W, c f = c x ↔ R (pl f) (pl x)) (hall : ∀ k ∈ K, ∃ f ∈ W, R k (pl f)) : cnt R K = nCls c W := by
 have hT : Reps R K ((W.filter fun f => decide ((keysAt c W (c f)).getD 0 0 = f.1)).map pl) := by
  refine ⟨fun t ht => ?_, fun k hkK => ?_, ?_⟩
  ·obtain ⟨f, hf, rfl⟩ := List.mem_map.1 ht
   exact hpl f (List.mem_filter.1 hf).1
  ·obtain ⟨f, hf, hr⟩ := hall k hkK
   obtain ⟨r, hr1, hr2, hr3⟩ := head_of (c := c) hf
   exact ⟨pl r, List.mem_map.2 ⟨r, List.mem_filter.2 ⟨hr1, decide_eq_true hr3⟩, rfl⟩, hR.trans hr ((h f hf r hr1).1 hr2.symm)⟩
  rw [List.pairwise_map]
  have hk2 := hk
  rw [List.pairwise_map] at hk2
  refine (hk2.filter _).imp_of_mem fun {a b} ha hb hlt hr => ?_
  obtain ⟨a1, a2⟩ := List.mem_filter.1 ha
  obtain ⟨b1, b2⟩ := List.mem_filter.1 hb
  have e := (h a a1 b b1).2 hr
  have a2 := of_decide_eq_true a2
  have b2 := of_decide_eq_true b2
  rw [e] at a2
  omega
 rw [cnt_eq hR hT, List.length_map]
 rfl
theorem own_corner {g : Gr} {p : Pt} {turn : List (List Int)} (hpe : p.err g = 0) (hto : TurnsOk g p turn) {f : Face} (hf : f ∈ walksOf g p turn) : ownAt g p turn f.1 = (pieceIx g p (f.corner g) : Int) := by
 have hW := walks_ok hpe hto
 unfold ownAt ownerOf
 have hfind : (walksOf g p turn).find? (fun x => decide (x.1 = f.1)) = some f := by
  cases e : (walksOf g p turn).find? (fun x => decide (x.1 = f.1)) with
  | none => exact absurd (List.find?_eq_none.1 e f hf) (by simp)
  | some x =>
   have h1 := List.mem_of_find?_eq_some e
   have h3 := List.find?_some e
   have h2 : x.1 = f.1 := by simpa using h3
   rw [key_face (walks_keys hpe hW) h1 hf h2]
 rw [hfind]; rfl
theorem plan_grps {g : Gr} {p : Pt} {turn : List (List Int)} {c : Face → Int} (hpe : p.err g = 0) (hto : TurnsOk g p turn) (hfl : Flat g p turn) (hcount : (walksOf g p turn).length + 1 = (roots g p).length + nCls c (walksOf g p turn))
  (tot : ∀ J, Eqv J → (∀ f ∈ walksOf g p turn, ∀ x ∈ walksOf g p turn, c f = c x → J (ownAt g p turn f.1) (ownAt g p turn x.1)) → ∀ a ∈ upTo (roots g p).length, ∀ b ∈ upTo (roots g p).length, J a b) : planErr g p turn (grps c (walksOf g p turn)) = 0 := by
 have hk := walks_keys hpe (walks_ok hpe hto)
 have hc := grps_count (c := c) hk
 refine plan_right hpe hto hfl grps_two (grps_heads hk) (grps_nodup hk) grps_keys (grps_rise hk) (by omega) fun J hJ hj => ?_
 refine tot J hJ fun f hf x hx e => ?_
 by_cases hfx : f = x
 ·rw [hfx]; exact hJ.refl _
 have m1 : f.1 ∈ keysAt c (walksOf g p turn) (c f) := keysAt_mem.2 ⟨f, hf, rfl, rfl⟩
 have m2 : x.1 ∈ keysAt c (walksOf g p turn) (c f) := keysAt_mem.2 ⟨x, hx, e.symm, rfl⟩
 have hlen : 1 < (keysAt c (walksOf g p turn) (c f)).length := by
  match hq : keysAt c (walksOf g p turn) (c f) with
  | [] => rw [hq] at m1; simp at m1
  | [a] =>
   rw [hq] at m1 m2
   simp at m1 m2
   exact absurd (key_face hk hf hx (m1.trans m2.symm)) hfx
  | _ :: _ :: _ => simp
 have hg : keysAt c (walksOf g p turn) (c f) ∈ grps c (walksOf g p turn) := mem_grps.2 ⟨_, rfl, hlen⟩
 exact hJ.trans (hJ.symm (hj _ hg _ m1)) (hj _ hg _ m2)
theorem regs_ok {g : Gr} {p : Pt} {turn same : List (List Int)} (_h : Parted g p turn same) : IsRegs g p turn same (regionsOf g p turn same) := by
 unfold regionsOf
 have hex : ∃ ll, IsRegs g p turn same ll := by
  refine ⟨(allRegs g p turn same).mergeSort fun a b => decide (a.getD 0 0 ≤ b.getD 0 0), List.mergeSort_perm _ _, ?_⟩
  have := List.pairwise_mergeSort (le := fun a b : List Int => decide (a.getD 0 0 ≤ b.getD 0 0)) (fun a b c h1 h2 => by simp only [decide_eq_true_eq] at h1 h2 ⊢; omega) (fun a b => by simp only [Bool.or_eq_true, decide_eq_true_eq]; omega) (allRegs g p turn same)
  exact this.imp fun h => of_decide_eq_true h
 rw [dif_pos hex]
 exact Classical.choose_spec hex
noncomputable def cls (g : Gr) (p : Pt) (turn same : List (List Int)) (f : Face) : Int := numOf (regionsOf g p turn same) f.1
theorem regs_nodup {g : Gr} {p : Pt} {turn same : List (List Int)} (h : Parted g p turn same) : (regionsOf g p turn same).flatten.Nodup := ((regs_ok h).perm.flatten).nodup_iff.2 h.nodupAll
theorem cls_at {g : Gr} {p : Pt} {turn same : List (List Int)} (h : Parted g p turn same) {i : Nat} (hi : i < (regionsOf g p turn same).length) {f : Face} (hf : f.1 ∈ (regionsOf g p turn same).getD i []) : cls g p turn same f = i := by
 unfold cls numOf
 rw [regionAt_hit (regs_nodup h) hi hf]; rfl
theorem cls_has {g : Gr} {p : Pt} {turn same : List (List Int)} (h : Parted g p turn same) {f : Face} (hf : f ∈ walksOf g p turn) : ∃ i, i < (regionsOf g p turn same).length ∧ f.1 ∈ (regionsOf g p turn same).getD i [] ∧ cls g p turn same f = i := by
 have hm : f.1 ∈ (regionsOf g p turn same).flatten := ((regs_ok h).perm.flatten.trans h.all).mem_iff.2 (List.mem_map.2 ⟨f, hf, rfl⟩)
 obtain ⟨l, hl, hfl⟩ := List.mem_flatten.1 hm
 obtain ⟨i, hi, e⟩ := List.getElem_of_mem hl
 have hg : (regionsOf g p turn same).getD i [] = l := by simp [List.getD, hi, e]
 rw [← hg] at hfl
 exact ⟨i, hi, hfl, cls_at h hi hfl⟩
theorem cls_keys {g : Gr} {p : Pt} {turn same : List (List Int)} (h : Parted g p turn same) {i : Nat} (hi : i < (regionsOf g p turn same).length) : ∀ x, x ∈ keysAt (cls g p turn same) (walksOf g p turn) i ↔ x ∈ (regionsOf g p turn same).getD i [] := by
 intro x
 rw [keysAt_mem]
 constructor
 ·rintro ⟨f, hf, e, rfl⟩
  obtain ⟨j, hj, hfj, ej⟩ := cls_has h hf
  have : i = j := by rw [e] at ej; exact Int.ofNat.inj ej
  rw [this]; exact hfj
 intro hx
 have hgi : (regionsOf g p turn same).getD i [] = (regionsOf g p turn same)[i] := by simp [List.getD, hi]
 have hm : x ∈ (regionsOf g p turn same).flatten := List.mem_flatten.2 ⟨_, List.getElem_mem hi, by rw [← hgi]; exact hx⟩
 obtain ⟨f, hf, rfl⟩ := List.mem_map.1 (((regs_ok h).perm.flatten.trans h.all).mem_iff.1 hm)
 exact ⟨f, hf, cls_at h hi hx, rfl⟩
theorem rise_ext : ∀ {l m : List Int}, l.Pairwise (· < ·) → m.Pairwise (· < ·) → (∀ x, x ∈ l ↔ x ∈ m) → l = m
 | [], [], _, _, _ => rfl
 | [], y :: m, _, _, h => by have := (h y).2 (by simp); simp at this
 | x :: l, [], _, _, h => by have := (h x).1 (by simp); simp at this
 | x :: l, y :: m, h1, h2, h => by
  rw [List.pairwise_cons] at h1 h2
  have e : x = y := by
   rcases List.mem_cons.1 ((h x).1 (by simp)) with q | q
   ·exact q
   rcases List.mem_cons.1 ((h y).2 (by simp)) with r | r
   ·exact r.symm
   have := h1.1 y r; have := h2.1 x q; omega
  subst e
  rw [rise_ext h1.2 h2.2 fun z => ?_]
  constructor
  ·intro hz
   rcases List.mem_cons.1 ((h z).1 (by simp [hz])) with q | q
   ·have := h1.1 z hz; omega
   exact q
  intro hz
  rcases List.mem_cons.1 ((h z).2 (by simp [hz])) with q | q
  ·have := h2.1 z hz; omega
  exact q
theorem same_grps {g : Gr} {p : Pt} {turn same : List (List Int)} (hz : planErr g p turn same = 0) : same = grps (cls g p turn same) (walksOf g p turn) := by
 obtain ⟨hpe, hto⟩ := turnErr_zero (flatErr_zero (planErr_zero hz).1).1
 have hpt := parted hz (walks_ok hpe hto)
 have hk := walks_keys hpe (walks_ok hpe hto)
 have hnds : same.Nodup := by
  have h1 := (nodup_flat.1 hpt.nodup).2
  refine h1.imp_of_mem fun {a b} ha hb hd e => ?_
  subst e
  have := hpt.two a ha
  match a, this with
  | x :: l, _ => exact hd x (by simp) x (by simp) rfl
 have hheads : same.Pairwise fun a b => a.getD 0 0 ≤ b.getD 0 0 := by
  have h1 := same_heads hz
  exact h1.imp fun h => by omega
 refine grps_of hk hnds (fun l => ⟨fun hl => ?_, fun ⟨h, e, h1⟩ => ?_⟩) (List.Perm.refl _) hheads
 ·have hla : l ∈ regionsOf g p turn same := (regs_ok hpt).perm.mem_iff.2 (List.mem_append.2 (Or.inl hl))
  obtain ⟨i, hi, e⟩ := List.getElem_of_mem hla
  have hg : (regionsOf g p turn same).getD i [] = l := by simp [List.getD, hi, e]
  refine ⟨i, ?_, by have := hpt.two l hl; omega⟩
  refine rise_ext (hpt.rise l hl) (keysAt_rise hk _) fun x => ?_
  rw [cls_keys hpt hi, hg]
 have hne : l ≠ [] := by intro q; rw [q] at h1; simp at h1
 obtain ⟨k, hkl⟩ := List.exists_mem_of_ne_nil l hne
 rw [e] at hkl
 obtain ⟨f, hf, e2, rfl⟩ := keysAt_mem.1 hkl
 obtain ⟨i, hi, hfi, ei⟩ := cls_has hpt hf
 rw [e2] at ei
 subst ei
 have hg : (regionsOf g p turn same).getD i [] = (regionsOf g p turn same)[i] := by simp [List.getD, hi]
 have hmem : (regionsOf g p turn same).getD i [] ∈ allRegs g p turn same := (regs_ok hpt).perm.mem_iff.1 (by rw [hg]; exact List.getElem_mem hi)
 rcases List.mem_append.1 hmem with q | q
 ·have : l = (regionsOf g p turn same).getD i [] := by
   rw [e]
   exact rise_ext (keysAt_rise hk _) (hpt.rise _ q) fun x => cls_keys hpt hi x
  rw [this]; exact q
 exfalso
 unfold singles at q
 obtain ⟨f', -, e3⟩ := List.mem_map.1 q
 have hx := cls_keys hpt hi
 rw [← e3] at hx
 have hnd : l.Nodup := by rw [e]; exact (keysAt_rise hk _).imp fun h => by omega
 match l, h1, e, hnd with
 | a :: b :: m, _, e, hnd =>
  have ha := (hx a).1 (by rw [← e]; simp)
  have hb := (hx b).1 (by rw [← e]; simp)
  simp at ha hb
  rw [ha, hb] at hnd
  simp at hnd
theorem cls_grps {g : Gr} {p : Pt} {turn : List (List Int)} {c d : Face → Int} (hk : ((walksOf g p turn).map (·.1)).Pairwise (· < ·)) (he : grps c (walksOf g p turn) = grps d (walksOf g p turn)) {f x : Face} (hf : f ∈ walksOf g p turn) (hx : x ∈ walksOf g p turn) : c f = c x ↔ d f = d x := by
 have key : ∀ {c d : Face → Int}, grps c (walksOf g p turn) = grps d (walksOf g p turn) → c f = c x → d f = d x := by
  intro c d he e
  by_cases hfx : f = x
  ·rw [hfx]
  have m1 : f.1 ∈ keysAt c (walksOf g p turn) (c f) := keysAt_mem.2 ⟨f, hf, rfl, rfl⟩
  have m2 : x.1 ∈ keysAt c (walksOf g p turn) (c f) := keysAt_mem.2 ⟨x, hx, e.symm, rfl⟩
  have hlen : 1 < (keysAt c (walksOf g p turn) (c f)).length := by
   match hq : keysAt c (walksOf g p turn) (c f) with
   | [] => rw [hq] at m1; simp at m1
   | [a] =>
    rw [hq] at m1 m2
    simp at m1 m2
    exact absurd (key_face hk hf hx (m1.trans m2.symm)) hfx
   | _ :: _ :: _ => simp
  have hg : keysAt c (walksOf g p turn) (c f) ∈ grps d (walksOf g p turn) := by rw [← he]; exact mem_grps.2 ⟨_, rfl, hlen⟩
  obtain ⟨h, e2, -⟩ := mem_grps.1 hg
  rw [e2] at m1 m2
  obtain ⟨f', hf', a1, a2⟩ := keysAt_mem.1 m1
  obtain ⟨x', hx', b1, b2⟩ := keysAt_mem.1 m2
  rw [key_face hk hf' hf a2] at a1
  rw [key_face hk hx' hx b2] at b1
  rw [a1, b1]
 exact ⟨key he, key he.symm⟩
def back (l : List Int) (u : Int) : List Int := (l.take (l.idxOf u + 1)).reverse ++ (l.drop (l.idxOf u + 1)).reverse
theorem idxOf_split {a c : List Int} {u : Int} (h : u ∉ a) : (a ++ u :: c).idxOf u = a.length := by
 rw [List.idxOf_append, if_neg h]; simp
theorem back_split {a c : List Int} {u : Int} (h : u ∉ a) : back (a ++ u :: c) u = u :: (a.reverse ++ c.reverse) := by
 unfold back
 rw [idxOf_split h]
 have e1 : (a ++ u :: c).take (a.length + 1) = a ++ [u] := by
  rw [show a ++ u :: c = (a ++ [u]) ++ c by simp]
  exact List.take_left' (by simp)
 have e2 : (a ++ u :: c).drop (a.length + 1) = c := by
  rw [show a ++ u :: c = (a ++ [u]) ++ c by simp]
  exact List.drop_left' (by simp)
 rw [e1, e2]; simp
theorem split_at {l : List Int} {u : Int} (h : u ∈ l) : ∃ a c, l = a ++ u :: c ∧ u ∉ a := by
 induction l with
 | nil => simp at h
 | cons x l ih =>
  by_cases e : u = x
  ·exact ⟨[], l, by rw [e]; rfl, by simp⟩
  obtain ⟨a, c, e1, h1⟩ := ih ((List.mem_cons.1 h).resolve_left e)
  exact ⟨x :: a, c, by rw [e1]; rfl, by simp [e, h1]⟩
theorem ahead_split {a c : List Int} {u : Int} (h : u ∉ a) : ahead (a ++ u :: c) u = (a.reverse ++ (c.reverse ++ [u])).getD 0 0 := by
 unfold ahead
 rw [idxOf_split h, show (a ++ u :: c).length = a.length + c.length + 1 by simp; omega]
 rcases List.eq_nil_or_concat a with rfl | ⟨a, z, rfl⟩
 ·rcases List.eq_nil_or_concat c with rfl | ⟨c, y, rfl⟩
  ·simp
  have e1 : ([] : List Int).length + (([] : List Int).length + (c.concat y).length + 1) - 1 = c.length + 1 := by simp
  have e2 : ([] : List Int).length + (c.concat y).length + 1 = c.length + 2 := by simp
  rw [e1, e2, Nat.mod_eq_of_lt (by omega)]
  simp [List.getD]
 simp only [List.concat_eq_append, List.length_append, List.length_cons, List.length_nil, List.reverse_append, List.reverse_cons, List.reverse_nil]
 rw [show a.length + (0 + 1) + (a.length + (0 + 1) + c.length + 1) - 1 = a.length + (a.length + (0 + 1) + c.length + 1) by omega, Nat.add_mod_right, Nat.mod_eq_of_lt (by omega)]
 simp [List.getD]
theorem back_ahead {l : List Int} (hn : l.Nodup) {u : Int} (hu : u ∈ l) : ∃ t, back l u = u :: t ∧ back l (ahead l u) = t ++ [u] := by
 obtain ⟨a, c, rfl, hua⟩ := split_at hu
 refine ⟨a.reverse ++ c.reverse, back_split hua, ?_⟩
 rw [ahead_split hua]
 rcases List.eq_nil_or_concat a with rfl | ⟨a, z, rfl⟩
 ·rcases List.eq_nil_or_concat c with rfl | ⟨c, y, rfl⟩
  ·have h0 := back_split (a := []) (c := []) (u := u) (by simp)
   simpa using h0
  have hy : y ∉ u :: c := by
   rw [List.nil_append, List.concat_eq_append, ← List.cons_append, List.nodup_append] at hn
   exact fun h => hn.2.2 y h y (by simp) rfl
  have e : ([] : List Int).reverse ++ ((c.concat y).reverse ++ [u]) = y :: (c.reverse ++ [u]) := by simp
  rw [e]
  show back ([] ++ u :: c.concat y) y = _
  have h2 := back_split (c := []) hy
  rw [show [] ++ u :: c.concat y = (u :: c) ++ [y] by simp, h2]
  simp
 have hz : z ∉ a := by
  rw [List.concat_eq_append, List.append_assoc, List.nodup_append] at hn
  exact fun h => hn.2.2 z h z (by simp) rfl
 have e : (a.concat z).reverse ++ (c.reverse ++ [u]) = z :: (a.reverse ++ (c.reverse ++ [u])) := by simp
 rw [e]
 show back (a.concat z ++ u :: c) z = _
 have h2 := back_split (c := u :: c) hz
 rw [show a.concat z ++ u :: c = a ++ z :: (u :: c) by simp, h2]
 simp
theorem back_self {l : List Int} {u : Int} (hu : u ∈ l) : ∃ t, back l u = u :: t := by
 obtain ⟨a, c, rfl, hua⟩ := split_at hu
 exact ⟨_, back_split hua⟩
theorem mem_back {l : List Int} {u x : Int} (hu : u ∈ l) : x ∈ back l u ↔ x ∈ l := by
 obtain ⟨a, c, rfl, hua⟩ := split_at hu
 rw [back_split hua]
 simp only [List.mem_cons, List.mem_append, List.mem_reverse]
 constructor
 ·rintro (h | h | h)
  ·exact Or.inr (Or.inl h)
  ·exact Or.inl h
  exact Or.inr (Or.inr h)
 rintro (h | h | h)
 ·exact Or.inr (Or.inl h)
 ·exact Or.inl h
 exact Or.inr (Or.inr h)
theorem ahead_mem {l : List Int} (hn : l.Nodup) {u : Int} (hu : u ∈ l) : ahead l u ∈ l := by
 have h := ahead_ring hn (List.ne_nil_of_mem hu)
 exact List.mem_reverse.1 (h.map_perm.mem_iff.1 (List.mem_map.2 ⟨u, List.mem_reverse.2 hu, rfl⟩))
theorem land_skip {l : List Int} (hn : l.Nodup) {P : Int → Bool} {u : Int} (hu : u ∈ l) (hp : P u = false) : (back l (ahead l u)).find? P = (back l u).find? P := by
 obtain ⟨t, e1, e2⟩ := back_ahead hn hu
 rw [e1, e2, List.find?_append, List.find?_cons_of_neg (by simp [hp]), List.find?_cons_of_neg (by simp [hp])]
 simp
theorem land_at {l : List Int} {P : Int → Bool} {u : Int} (hu : u ∈ l) (hp : P u = true) : (back l u).find? P = some u := by
 obtain ⟨t, e⟩ := back_self hu
 rw [e, List.find?_cons_of_pos hp]
theorem filter_first {P : Int → Bool} {l : List Int} {z : Int} (h : l.find? P = some z) : (l.filter P).getD 0 0 = z := by
 rw [← List.head?_filter] at h
 cases e : l.filter P with
 | nil => rw [e] at h; cases h
 | cons a m => rw [e] at h; cases h; rfl
theorem land_ahead {l : List Int} (hn : l.Nodup) {P : Int → Bool} {d : Int} (hd : d ∈ l) (hp : P d = true) : (back l (ahead l d)).find? P = some (ahead (l.filter P) d) := by
 obtain ⟨a, c, rfl, hda⟩ := split_at hd
 obtain ⟨t, e1, e2⟩ := back_ahead hn hd
 rw [back_split hda] at e1
 obtain rfl : a.reverse ++ c.reverse = t := by simpa using e1
 rw [e2]
 have e3 : (a ++ d :: c).filter P = a.filter P ++ d :: c.filter P := by rw [List.filter_append, List.filter_cons_of_pos hp]
 have hda2 : d ∉ a.filter P := fun h => hda (List.mem_filter.1 h).1
 rw [e3, ahead_split hda2]
 have hs : ((a.reverse ++ c.reverse ++ [d]).find? P).isSome = true := by
  rw [List.find?_isSome]; exact ⟨d, by simp, hp⟩
 obtain ⟨z, hz⟩ := Option.isSome_iff_exists.1 hs
 rw [hz]
 have h4 := filter_first hz
 rw [← h4]
 congr 2
 simp only [List.filter_append, List.filter_reverse, List.append_assoc]
 rw [List.filter_cons_of_pos hp]; simp
theorem land_rel {l : List Int} (hn : l.Nodup) {P : Int → Bool} {R : Int → Int → Prop} (hR : Eqv R) (h : ∀ y ∈ l, P y = false → R y (ahead l y)) {u : Int} (hu : u ∈ l) : R u (((back l u).find? P).getD (l.getD 0 0)) := by
 cases e : (back l u).find? P with
 | none =>
  have hno : ∀ y ∈ l, P y = false := fun y hy => by
   have := List.find?_eq_none.1 e y ((mem_back hu).2 hy)
   simpa using this
  have hr := ring_rel hR (ahead_ring hn (List.ne_nil_of_mem hu)) (fun w hw => h w (List.mem_reverse.1 hw) (hno w (List.mem_reverse.1 hw)))
  have hl : 0 < l.length := List.length_pos_of_mem hu
  exact hr u (List.mem_reverse.2 hu) _ (List.mem_reverse.2 (getD_mem hl))
 | some z =>
  obtain ⟨hz, s, r, e2, hs⟩ := List.find?_eq_some_iff_append.1 e
  show R u z
  clear e
  induction s generalizing u r with
  | nil =>
   obtain ⟨t, e3⟩ := back_self hu
   rw [e3] at e2
   have : u = z := by simpa using (List.cons.inj e2).1
   rw [this]; exact hR.refl z
  | cons y s ih =>
   obtain ⟨t, e3, e4⟩ := back_ahead hn hu
   rw [e3] at e2
   obtain ⟨rfl, e5⟩ := List.cons.inj e2
   have hy : P u = false := by have := hs u (by simp); simpa using this
   rw [e5] at e4
   exact hR.trans (h u hu hy) (ih (ahead_mem hn hu) (r := r ++ [u]) (by rw [e4]; simp) (fun x hx => hs x (List.mem_cons_of_mem _ hx)))
def onE (E : List Int) (d : Int) : Bool := decide (d / 2 ∈ E)
def lnd (g : Gr) (turn : List (List Int)) (E : List Int) (u : Int) : Int := if u < 0 then u else ((back (turnAt turn (g.tail u)) u).find? (onE E)).getD (-1 - g.tail u)
def stand (turn : List (List Int)) (x : Int) : Int := if x < 0 then seat turn (-1 - x) else x
structure Subs (g : Gr) (p q : Pt) (turn : List (List Int)) : Prop where
 pe : p.err g = 0
 qe : q.err g = 0
 to_ : TurnsOk g p turn
 sube : ∀ e ∈ q.e, e ∈ p.e
 subv : ∀ v ∈ q.v, v ∈ p.v
section
variable {g : Gr} {p q : Pt} {turn : List (List Int)}
theorem Subs.pk (h : Subs g p q turn) : PartOk g p := Pt.ok_of_err h.pe
theorem Subs.qk (h : Subs g p q turn) : PartOk g q := Pt.ok_of_err h.qe
theorem Subs.turns (h : Subs g p q turn) : TurnsOk g q (restTurn q.e turn) := restTurn_ok h.to_ h.sube
theorem Subs.darts (h : Subs g p q turn) {d : Int} (hd : d ∈ q.darts) : d ∈ p.darts := mem_darts.2 (h.sube _ (mem_darts.1 hd))
theorem restTurn_nil {E : List Int} {v : Int} : turnAt (restTurn E turn) v = [] ↔ ∀ d ∈ turnAt turn v, onE E d = false := by
 rw [restTurn_at]
 constructor
 ·intro e d hd
  have h1 : keepOf E (turnAt turn v) = [] := by
   have := (first_perm (keepOf E (turnAt turn v)))
   rw [e] at this
   exact List.Perm.eq_nil this.symm
  unfold keepOf at h1
  have := List.filter_eq_nil_iff.1 h1 d hd
  unfold onE
  simpa using this
 intro h
 have h1 : keepOf E (turnAt turn v) = [] := by
  unfold keepOf
  rw [List.filter_eq_nil_iff]
  intro d hd
  have := h d hd
  unfold onE at this
  simpa using this
 rw [h1]; rfl
theorem all_ground (h : PartOk g p) {x : Int} : x ∈ ground g p turn p.v ↔ x ∈ p.darts ∨ ∃ v ∈ p.v, turnAt turn v = [] ∧ x = -1 - v := by
 rw [mem_ground]
 constructor
 ·rintro (q | q)
  ·exact Or.inl q.1
  exact Or.inr q
 rintro (q | q)
 ·exact Or.inl ⟨q, (h.tail_mem q).1⟩
 exact Or.inr q
theorem dart_turn (h : PartOk g p) (ht : TurnsOk g p turn) {d : Int} (hd : d ∈ p.darts) : d ∈ turnAt turn (g.tail d) := by
 have := h.vr _ (h.tail_mem hd).1
 exact (ht.mem _ this.1 this.2 d).2 ⟨hd, rfl⟩
theorem turn_dart (h : PartOk g p) (ht : TurnsOk g p turn) {v d : Int} (hv : v ∈ p.v) (hd : d ∈ turnAt turn v) : d ∈ p.darts ∧ g.tail d = v := by
 have := h.vr _ hv
 exact (ht.mem _ this.1 this.2 d).1 hd
theorem onE_q {d : Int} : onE q.e d = true ↔ d ∈ q.darts := by unfold onE; rw [decide_eq_true_iff, mem_darts]
theorem lnd_key {E : List Int} {u : Int} (hu : u < 0) : lnd g turn E u = u := if_pos hu
theorem lnd_on (h : Subs g p q turn) {d : Int} (hd : d ∈ q.darts) : lnd g turn q.e d = d := by
 have h0 := dart_pos h.qk hd
 unfold lnd
 rw [if_neg (by omega), land_at (dart_turn h.pk h.to_ (h.darts hd)) (onE_q.2 hd)]; rfl
theorem lnd_vert (h : Subs g p q turn) {u : Int} (hu : u ∈ ground g p turn p.v) : vert g (lnd g turn q.e u) = vert g u := by
 rcases (all_ground h.pk).1 hu with hd | ⟨v, hv, -, rfl⟩
 ·have h0 := dart_pos h.pk hd
  unfold lnd
  rw [if_neg (by omega)]
  cases e : (back (turnAt turn (g.tail u)) u).find? (onE q.e) with
  | none =>
   show vert g (-1 - g.tail u) = _
   rw [vert_lone (h.pk.vr _ (h.pk.tail_mem hd).1).1, vert_dart h.pk hd]
  | some z =>
   have hz := (mem_back (dart_turn h.pk h.to_ hd)).1 (List.mem_of_find?_eq_some e)
   obtain ⟨z1, z2⟩ := turn_dart h.pk h.to_ (h.pk.tail_mem hd).1 hz
   show vert g z = _
   rw [vert_dart h.pk z1, vert_dart h.pk hd, z2]
 rw [lnd_key (by have := (h.pk.vr v hv).1; omega)]
theorem lnd_mem (h : Subs g p q turn) {u : Int} (hu : u ∈ ground g p turn p.v) (hv : vert g u ∈ q.v) : lnd g turn q.e u ∈ ground g q (restTurn q.e turn) q.v := by
 rw [all_ground h.qk]
 rcases (all_ground h.pk).1 hu with hd | ⟨v, hv2, e, rfl⟩
 ·have h0 := dart_pos h.pk hd
  rw [vert_dart h.pk hd] at hv
  unfold lnd
  rw [if_neg (by omega)]
  cases e : (back (turnAt turn (g.tail u)) u).find? (onE q.e) with
  | none =>
   refine Or.inr ⟨_, hv, restTurn_nil.2 fun d hdt => ?_, rfl⟩
   have := List.find?_eq_none.1 e d ((mem_back (dart_turn h.pk h.to_ hd)).2 hdt)
   simpa using this
  | some z => exact Or.inl (onE_q.1 (List.find?_some e))
 rw [vert_lone (h.pk.vr v hv2).1] at hv
 rw [lnd_key (by have := (h.pk.vr v hv2).1; omega)]
 exact Or.inr ⟨v, hv, restTurn_nil.2 (by rw [e]; simp), rfl⟩
theorem lnd_skip (h : Subs g p q turn) {u : Int} (hu : u ∈ p.darts) (hq : u ∉ q.darts) : lnd g turn q.e (before g turn u) = lnd g turn q.e u := by
 have h0 := dart_pos h.pk hu
 have hut := dart_turn h.pk h.to_ hu
 have hat := ahead_mem (h.to_.nodup _) hut
 obtain ⟨a1, a2⟩ := turn_dart h.pk h.to_ (h.pk.tail_mem hu).1 hat
 have h1 := dart_pos h.pk a1
 unfold before lnd
 rw [if_neg (by omega), if_neg (by omega), a2, land_skip (h.to_.nodup _) hut (by
  have := mt onE_q.1 hq
  simpa using this)]
theorem lnd_next (h : Subs g p q turn) {d : Int} (hd : d ∈ q.darts) : lnd g turn q.e (before g turn d) = before g (restTurn q.e turn) d := by
 have hdp := h.darts hd
 have hut := dart_turn h.pk h.to_ hdp
 have hat := ahead_mem (h.to_.nodup _) hut
 obtain ⟨a1, a2⟩ := turn_dart h.pk h.to_ (h.pk.tail_mem hdp).1 hat
 have h1 := dart_pos h.pk a1
 unfold before lnd
 rw [if_neg (by omega), a2, land_ahead (h.to_.nodup _) hut (onE_q.2 hd), restTurn_at]
 have e : keepOf q.e (turnAt turn (g.tail d)) = (turnAt turn (g.tail d)).filter (onE q.e) := rfl
 rw [← e, ahead_begun (by rw [e]; exact (h.to_.nodup _).filter _) d (by rw [e]; exact List.mem_filter.2 ⟨hut, onE_q.2 hd⟩)]
 rfl
theorem stand_mem (h : Subs g p q turn) {x : Int} (hx : x ∈ ground g q (restTurn q.e turn) q.v) : stand turn x ∈ ground g p turn p.v ∧ vert g (stand turn x) = vert g x := by
 rcases (all_ground h.qk).1 hx with hd | ⟨v, hv, -, rfl⟩
 ·have h0 := dart_pos h.qk hd
  unfold stand
  rw [if_neg (by omega)]
  exact ⟨(all_ground h.pk).2 (Or.inl (h.darts hd)), rfl⟩
 have h0 := (h.qk.vr v hv).1
 unfold stand seat
 rw [if_pos (by omega), show -1 - (-1 - v) = v by omega]
 split
 ·rename_i hl
  obtain ⟨d1, d2⟩ := turn_dart h.pk h.to_ (h.subv v hv) (getD_mem hl)
  exact ⟨(all_ground h.pk).2 (Or.inl d1), by rw [vert_dart h.pk d1, vert_lone h0, d2]⟩
 rename_i hl
 exact ⟨(all_ground h.pk).2 (Or.inr ⟨v, h.subv v hv, List.length_eq_zero_iff.1 (by omega), rfl⟩), rfl⟩
theorem lnd_stand (h : Subs g p q turn) {x : Int} (hx : x ∈ ground g q (restTurn q.e turn) q.v) : lnd g turn q.e (stand turn x) = x := by
 rcases (all_ground h.qk).1 hx with hd | ⟨v, hv, e, rfl⟩
 ·have h0 := dart_pos h.qk hd
  rw [show stand turn x = x by unfold stand; rw [if_neg (by omega)]]
  exact lnd_on h hd
 have h0 := (h.qk.vr v hv).1
 have hno := restTurn_nil.1 e
 unfold stand seat
 rw [if_pos (by omega), show -1 - (-1 - v) = v by omega]
 split
 ·rename_i hl
  obtain ⟨d1, d2⟩ := turn_dart h.pk h.to_ (h.subv v hv) (getD_mem hl)
  have h1 := dart_pos h.pk d1
  unfold lnd
  rw [if_neg (by omega), d2]
  have : (back (turnAt turn v) ((turnAt turn v).getD 0 0)).find? (onE q.e) = none := by
   rw [List.find?_eq_none]
   intro y hy
   have := hno y ((mem_back (getD_mem hl)).1 hy)
   simp [this]
  rw [this]; rfl
 exact lnd_key (by omega)
theorem stand_rel (h : Subs g p q turn) {R : Int → Int → Prop} (hR : Eqv R) (hs : ∀ y ∈ p.darts, y ∉ q.darts → R y (before g turn y)) {u : Int} (hu : u ∈ ground g p turn p.v) : R u (stand turn (lnd g turn q.e u)) := by
 rcases (all_ground h.pk).1 hu with hd | ⟨v, hv, e, rfl⟩
 ·have h0 := dart_pos h.pk hd
  have hut := dart_turn h.pk h.to_ hd
  have hl := land_rel (P := onE q.e) (h.to_.nodup (g.tail u)) hR (fun y hy hn => by
   obtain ⟨y1, y2⟩ := turn_dart h.pk h.to_ (h.pk.tail_mem hd).1 hy
   have := hs y y1 (fun k => by rw [onE_q.2 k] at hn; cases hn)
   unfold before at this
   rw [y2] at this
   exact this) hut
  unfold lnd
  rw [if_neg (by omega)]
  cases e : (back (turnAt turn (g.tail u)) u).find? (onE q.e) with
  | none =>
   rw [e] at hl
   show R u (stand turn (-1 - g.tail u))
   have hv := (h.pk.vr _ (h.pk.tail_mem hd).1).1
   unfold stand seat
   rw [if_pos (by omega), show -1 - (-1 - g.tail u) = g.tail u by omega, if_pos (List.length_pos_of_mem hut)]
   exact hl
  | some z =>
   rw [e] at hl
   show R u (stand turn z)
   have hz := (mem_back hut).1 (List.mem_of_find?_eq_some e)
   have := dart_pos h.pk (turn_dart h.pk h.to_ (h.pk.tail_mem hd).1 hz).1
   unfold stand
   rw [if_neg (by omega)]
   exact hl
 have h0 := (h.pk.vr v hv).1
 rw [lnd_key (by omega)]
 unfold stand seat
 rw [if_pos (by omega), show -1 - (-1 - v) = v by omega, e]
 exact hR.refl _
end
end Go.Proofs.Ytckjpaimbmlboaa.Plain
