/- Counting classes, and edges taken out of a map of turns: Euler's formula. No program here. -/
import Derived.Test.YtednbiophjndpaaGreatVKeep
namespace Go.Proofs.YtednbiophjndpaaGreat.Plain
structure Eqv (R : Int → Int → Prop) : Prop where
 refl : ∀ x, R x x
 symm : ∀ {x y}, R x y → R y x
 trans : ∀ {x y z}, R x y → R y z → R x z
structure Reps (R : Int → Int → Prop) (K T : List Int) : Prop where
 sub : ∀ t ∈ T, t ∈ K
 all : ∀ x ∈ K, ∃ t ∈ T, R x t
 one : T.Pairwise fun a b => ¬ R a b
open Classical in
noncomputable def reps (R : Int → Int → Prop) : List Int → List Int
 | [] => []
 | x :: K => if ∃ y ∈ reps R K, R x y then reps R K else x :: reps R K
noncomputable def cnt (R : Int → Int → Prop) (K : List Int) : Nat := (reps R K).length
def Jn (R : Int → Int → Prop) (a b x y : Int) : Prop := R x y ∨ (R x a ∧ R b y) ∨ (R x b ∧ R a y)
def Gen (R : Int → Int → Prop) : List Int → Int → Int → Prop
 | [] => R
 | e :: E => Jn (Gen R E) (2 * e) (2 * e + 1)
def Same (C : List (List Int)) (x y : Int) : Prop := x = y ∨ ∃ c ∈ C, x ∈ c ∧ y ∈ c
theorem list_one : ∀ {C : List (List Int)}, C.flatten.Nodup → ∀ {l m : List Int} {x : Int}, l ∈ C → m ∈ C → x ∈ l → x ∈ m → l = m
 | [], _, _, _, _, hl, _, _, _ => by simp at hl
 | c :: C, hn, l, m, x, hl, hm, h1, h2 => by
  rw [List.flatten_cons, List.nodup_append] at hn
  rcases List.mem_cons.1 hl with e1 | hl <;> rcases List.mem_cons.1 hm with e2 | hm
  ·rw [e1, e2]
  ·exact absurd rfl (hn.2.2 x (e1 ▸ h1) x (List.mem_flatten.2 ⟨m, hm, h2⟩))
  ·exact absurd rfl (hn.2.2 x (e2 ▸ h2) x (List.mem_flatten.2 ⟨l, hl, h1⟩))
  exact list_one hn.2.1 hl hm h1 h2
theorem Same.eqv {C : List (List Int)} (hn : C.flatten.Nodup) : Eqv (Same C) := by
 refine ⟨fun x => Or.inl rfl, fun {x y} h => ?_, fun {x y z} h k => ?_⟩
 ·rcases h with rfl | ⟨c, hc, h1, h2⟩
  ·exact Or.inl rfl
  exact Or.inr ⟨c, hc, h2, h1⟩
 rcases h with rfl | ⟨c, hc, h1, h2⟩
 ·exact k
 rcases k with rfl | ⟨d, hd, k1, k2⟩
 ·exact Or.inr ⟨c, hc, h1, h2⟩
 obtain rfl := list_one hn hc hd h2 k1
 exact Or.inr ⟨c, hc, h1, k2⟩
theorem trail_rel {Q : Int → Int → Prop} (hQ : Eqv Q) {p : Int → Int} {z : Int} : ∀ {l : List Int} {x : Int}, Trail p x l z → (∀ w ∈ x :: l, Q w (p w)) → ∀ y ∈ x :: l, Q x y
 | [], x, _, _, y, hy => by simp at hy; rw [hy]; exact hQ.refl x
 | a :: l, x, h, hs, y, hy => by
  have e : Q x a := by rw [← h.1]; exact hs x (by simp)
  rcases List.mem_cons.1 hy with rfl | hy
  ·exact hQ.refl y
  exact hQ.trans e (trail_rel hQ h.2 (fun w hw => hs w (List.mem_cons_of_mem _ hw)) y hy)
theorem ring_rel {Q : Int → Int → Prop} (hQ : Eqv Q) {p : Int → Int} {c : List Int} (h : Ring p c) (hs : ∀ w ∈ c, Q w (p w)) : ∀ x ∈ c, ∀ y ∈ c, Q x y := by
 intro x hx y hy
 obtain ⟨l, hr, hp⟩ := h.from hx
 exact trail_rel hQ (show Trail p x l x from hr) (fun w hw => hs w (hp.mem_iff.1 hw)) y (hp.mem_iff.2 hy)
theorem Same.least {Q : Int → Int → Prop} (hQ : Eqv Q) {p : Int → Int} {C : List (List Int)} (h : Rings p C) (hs : ∀ w ∈ C.flatten, Q w (p w)) {x y : Int} (hxy : Same C x y) : Q x y := by
 rcases hxy with rfl | ⟨c, hc, h1, h2⟩
 ·exact hQ.refl x
 exact ring_rel hQ (h.ring c hc) (fun w hw => hs w (List.mem_flatten.2 ⟨c, hc, hw⟩)) x h1 y h2
theorem Same.step {p : Int → Int} {C : List (List Int)} (h : Rings p C) {x : Int} (hx : x ∈ C.flatten) : Same C x (p x) := by
 obtain ⟨c, hc, hxc⟩ := List.mem_flatten.1 hx
 exact Or.inr ⟨c, hc, hxc, ((h.ring c hc).map_perm).mem_iff.1 (List.mem_map.2 ⟨x, hxc, rfl⟩)⟩
def tw : List Int → Int → Int
 | [], d => d
 | e :: S, d => tw S (swp (2 * e) (2 * e + 1) d)
structure Cut (b : Int → Int) (B : List (List Int)) (K : List Int) (R : Int → Int → Prop) (T S : List Int) : Prop where
 out : ∀ e ∈ T, 2 * e ∈ K ∧ 2 * e + 1 ∈ K
 kept : ∀ e ∈ S, 2 * e ∈ K ∧ 2 * e + 1 ∈ K
 left : ∀ x ∈ K, Gen R T x (b (tw S x))
 flat : ∀ C, Rings (fun x => b (tw S x)) C → C.flatten.Perm K → B.length + C.length = 2 * cnt (Gen (Same B) S) K + S.length ∧ cnt (Gen (Same B) S) K + cnt (Gen R T) K = C.length + 1
theorem St.joins_iff {s : St} {x y : Int} (hx : x ∈ s.all) (hy : y ∈ s.all) : s.joins x y = true ↔ ¬ s.rel x y := by
 unfold St.joins
 rw [St.put_in hx, St.put_in hy]
 unfold St.rel
 rw [St.same_iff]
 simp only [bne_iff_ne, ne_eq, not_or, not_and]
 constructor
 ·intro h
  exact ⟨fun e => h (by rw [e]), fun _ _ => h⟩
 intro h
 exact h.2 hx hy
structure RunOk (n : Nat) (R : Int → Int → Prop) (c : St × List Int) (met : List Int) : Prop where
 ok : c.1.Ok
 all : c.1.all = upTo n
 met : c.2 = met
 rel : ∀ x y, c.1.rel x y ↔ R x y
theorem same_heads {g : Gr} {p : Pt} {turn same : List (List Int)} (h : planErr g p turn same = 0) : same.Pairwise fun a b => a.getD 0 0 < b.getD 0 0 := by
 obtain ⟨hf, c, hc, -⟩ := planErr_zero h
 obtain ⟨hte, -⟩ := flatErr_zero hf
 obtain ⟨hpe, hto⟩ := turnErr_zero hte
 obtain ⟨-, -, hl⟩ := sameRun_ok (fun y a h => ownerOf_lt (Pt.ok_of_err hpe) (walks_ok hpe hto) h) _ c (Nat.le_refl _) hc
 have step : ∀ i, i + 1 < same.length → (same.getD i []).getD 0 0 < (same.getD (i + 1) []).getD 0 0 := by
  intro i hi
  have := (hl (i + 1) hi).1
  unfold listBad at this
  rw [not_or] at this
  have h2 := this.2
  simp only [Nat.add_sub_cancel, not_and] at h2
  have := h2 (by omega)
  omega
 have all : ∀ d i, i + d + 1 < same.length → (same.getD i []).getD 0 0 < (same.getD (i + d + 1) []).getD 0 0 := by
  intro d
  induction d with
  | zero => exact fun i hi => step i hi
  | succ d ih =>
   intro i hi
   have h1 := ih i (by omega)
   have h2 := step (i + d + 1) (by omega)
   have e : i + (d + 1) + 1 = i + d + 1 + 1 := by omega
   rw [e]; omega
 rw [List.pairwise_iff_getElem]
 intro i j hi hj hij
 have := all (j - i - 1) i (by omega)
 have e : i + (j - i - 1) + 1 = j := by omega
 rw [e] at this
 simpa [List.getD, hi, hj] using this
theorem tw_eq : ∀ {S : List Int}, S.Nodup → ∀ x, tw S x = if x / 2 ∈ S then twin x else x
 | [], _, x => by simp [tw]
 | e :: S, h, x => by
  rw [List.nodup_cons] at h
  show tw S (swp (2 * e) (2 * e + 1) x) = _
  rw [tw_eq h.2]
  by_cases h1 : x = 2 * e
  ·subst h1
   have a1 : (2 * e + 1) / 2 = e := by omega
   have a2 : 2 * e / 2 = e := by omega
   rw [swp_left, a1, a2, if_neg h.1, if_pos (by simp)]
   unfold twin; rw [if_pos (by omega)]
  by_cases h2 : x = 2 * e + 1
  ·subst h2
   have a1 : (2 * e + 1) / 2 = e := by omega
   have a2 : 2 * e / 2 = e := by omega
   rw [swp_right, a1, a2, if_neg h.1, if_pos (by simp)]
   unfold twin; rw [if_neg (by omega)]; omega
  rw [swp_none h1 h2]
  have hne : x / 2 ≠ e := by omega
  by_cases h3 : x / 2 ∈ S
  ·rw [if_pos h3, if_pos (by simp [h3])]
  rw [if_neg h3, if_neg (by simp [h3, hne])]
def vert (g : Gr) (d : Int) : Int := if d < 0 then -1 - d else g.tail d
def ground (g : Gr) (p : Pt) (turn : List (List Int)) (U : List Int) : List Int := leaving g p U ++ (U.filter fun v => (turnAt turn v).isEmpty).map fun v => -1 - v
def bef (g : Gr) (turn : List (List Int)) (d : Int) : Int := if d < 0 then d else before g turn d
def edgesOf (g : Gr) (p : Pt) (U : List Int) : List Int := p.e.filter fun e => decide (g.tail (2 * e) ∈ U)
def walksIn (g : Gr) (W : List Face) (U : List Int) : List (List Int) := (W.filter fun f => decide (f.corner g ∈ U)).map marks
structure Stretch (g : Gr) (p : Pt) (U : List Int) : Prop where
 nodup : U.Nodup
 sub : ∀ v ∈ U, v ∈ p.v
 closed : Closed g p U
theorem dart_pos {g : Gr} {p : Pt} (h : PartOk g p) {d : Int} (hd : d ∈ p.darts) : 0 ≤ d := by
 have := h.er _ (mem_darts.1 hd); omega
theorem mem_ground {g : Gr} {p : Pt} {turn : List (List Int)} {U : List Int} {x : Int} : x ∈ ground g p turn U ↔ (x ∈ p.darts ∧ g.tail x ∈ U) ∨ ∃ v ∈ U, turnAt turn v = [] ∧ x = -1 - v := by
 unfold ground leaving
 rw [List.mem_append, List.mem_filter, List.mem_map]
 simp only [decide_eq_true_eq, List.mem_filter, List.isEmpty_iff]
 constructor
 ·rintro (h | ⟨v, ⟨h1, h2⟩, h3⟩)
  ·exact Or.inl h
  exact Or.inr ⟨v, h1, h2, h3.symm⟩
 rintro (h | ⟨v, h1, h2, h3⟩)
 ·exact Or.inl h
 exact Or.inr ⟨v, ⟨h1, h2⟩, h3.symm⟩
theorem vert_dart {g : Gr} {p : Pt} (h : PartOk g p) {d : Int} (hd : d ∈ p.darts) : vert g d = g.tail d := by
 unfold vert; rw [if_neg (by have := dart_pos h hd; omega)]
theorem vert_lone {g : Gr} {v : Int} (h : 0 ≤ v) : vert g (-1 - v) = v := by
 unfold vert; rw [if_pos (by omega)]; omega
theorem Stretch.all {g : Gr} {p : Pt} (h : PartOk g p) : Stretch g p p.v := ⟨h.vn, fun _ hv => hv, fun _d hd _ => (h.tail_mem hd).2⟩
theorem ground_nodup {g : Gr} {p : Pt} {turn : List (List Int)} {U : List Int} (h : PartOk g p) (hU : Stretch g p U) : (ground g p turn U).Nodup := by
 unfold ground
 rw [List.nodup_append]
 refine ⟨(darts_nodup h.en).filter _, List.Pairwise.map _ (fun a b (hab : a ≠ b) (e : -1 - a = -1 - b) => hab (by omega)) (hU.nodup.filter _), fun a ha b hb e => ?_⟩
 obtain ⟨v, hv, e2⟩ := List.mem_map.1 hb
 have h1 := dart_pos h (List.mem_filter.1 ha).1
 have h2 := (h.vr v (hU.sub v (List.mem_filter.1 hv).1)).1
 omega
theorem half_in {g : Gr} {p : Pt} {U : List Int} (hU : Stretch g p U) {x : Int} (hx : x ∈ p.darts) (ht : g.tail x ∈ U) : x / 2 ∈ edgesOf g p U := by
 unfold edgesOf
 refine List.mem_filter.2 ⟨mem_darts.1 hx, decide_eq_true ?_⟩
 rcases twin_cases x with ⟨e, -⟩ | ⟨e, e2⟩
 ·rw [← e]; exact ht
 rw [← e2, tail_twin]; exact hU.closed x hx ht
theorem dart_ends {g : Gr} {p : Pt} (h : PartOk g p) {d : Int} (hd : d ∈ p.darts) : 0 ≤ g.tail d ∧ g.tail d < g.n := h.vr _ (h.tail_mem hd).1
theorem walk_const {g : Gr} {p : Pt} {turn : List (List Int)} {W : List Face} {U : List Int} (h : PartOk g p) (ht : TurnsOk g p turn) (hW : FacesOk g p turn W) (hC : Closed g p U) {f : Face} (hf : f ∈ W) {x : Int} (hx : x ∈ f.2) : x ∈ p.darts ∧ (g.tail x ∈ U ↔ f.corner g ∈ U) := by
 have hne : f.2 ≠ [] := fun e => by rw [e] at hx; simp at hx
 have hc : f.2 ∈ (W.filter fun f => !f.2.isEmpty).map (·.2) := List.mem_map.2 ⟨f, List.mem_filter.2 ⟨hf, by simp [hne]⟩, rfl⟩
 have hd : ∀ y ∈ f.2, y ∈ p.darts := fun y hy => hW.all.mem_iff.1 (List.mem_flatten.2 ⟨f.2, hc, hy⟩)
 have hk := ring_const (f := fun d => decide (g.tail d ∈ U)) (hW.rings.ring f.2 hc) (fun y hy => by
  have h2 := (next_tail ht (fun d hd => dart_ends h hd) (hd y hy)).2
  simp only [h2, closed_back hC (hd y hy)])
 refine ⟨hd x hx, ?_⟩
 match e : f.2 with
 | [] => exact absurd e hne
 | d :: l =>
  have hcr : f.corner g = g.tail f.1 := by unfold Face.corner; rw [e]
  rw [hcr, hW.key f hf d l e]
  have := hk x hx d (by rw [e]; simp)
  simpa using this
theorem lone_walk {g : Gr} {p : Pt} {turn : List (List Int)} {W : List Face} (hW : FacesOk g p turn W) {v : Int} (hv : v ∈ p.v) (h0 : turnAt turn v = []) : (-1 - v, []) ∈ W := by
 have : -1 - v ∈ (W.filter fun f => f.2.isEmpty).map (·.1) := hW.lone.mem_iff.2 (List.mem_map.2 ⟨v, List.mem_filter.2 ⟨hv, by simp [h0]⟩, rfl⟩)
 obtain ⟨f, hf, e⟩ := List.mem_map.1 this
 obtain ⟨h1, h2⟩ := List.mem_filter.1 hf
 have h2 : f.2 = [] := by simpa using h2
 have : f = (-1 - v, []) := Prod.ext e h2
 rw [← this]; exact h1
theorem lone_of {g : Gr} {p : Pt} {turn : List (List Int)} {W : List Face} (hW : FacesOk g p turn W) {f : Face} (hf : f ∈ W) (h0 : f.2 = []) : ∃ v ∈ p.v, turnAt turn v = [] ∧ f.1 = -1 - v := by
 have : f.1 ∈ (W.filter fun f => f.2.isEmpty).map (·.1) := List.mem_map.2 ⟨f, List.mem_filter.2 ⟨hf, by simp [h0]⟩, rfl⟩
 obtain ⟨v, hv, e⟩ := List.mem_map.1 (hW.lone.mem_iff.1 this)
 obtain ⟨h1, h2⟩ := List.mem_filter.1 hv
 exact ⟨v, h1, by simpa using h2, e.symm⟩
theorem walk_of {g : Gr} {p : Pt} {turn : List (List Int)} {W : List Face} (hW : FacesOk g p turn W) {x : Int} (hx : x ∈ p.darts) : ∃ f ∈ W, x ∈ f.2 := by
 obtain ⟨c, hc, hxc⟩ := List.mem_flatten.1 (hW.all.mem_iff.2 hx)
 obtain ⟨f, hf, rfl⟩ := List.mem_map.1 hc
 exact ⟨f, (List.mem_filter.1 hf).1, hxc⟩
theorem walk_rings {g : Gr} {p : Pt} {turn : List (List Int)} {W : List Face} {U : List Int} (hpe : p.err g = 0) (ht : TurnsOk g p turn) (hW : WalksOk g p turn W) (hU : Stretch g p U) :
  Rings (fun x => bef g turn (tw (edgesOf g p U) x)) (walksIn g W U) ∧ (walksIn g W U).flatten.Perm (ground g p turn U) := by
 have h := Pt.ok_of_err hpe
 have hSn : (edgesOf g p U).Nodup := h.en.filter _
 have hnd : (walksIn g W U).flatten.Nodup := by
  have h8 := places_nodup hpe hW
  have hs : (walksIn g W U).Sublist (places8 W) := (List.filter_sublist).map marks
  rw [nodup_flat] at h8 ⊢
  exact ⟨fun l hl => h8.1 l (hs.subset hl), h8.2.sublist hs⟩
 refine ⟨⟨fun c hc => ?_, hnd⟩, ?_⟩
 ·obtain ⟨f, hf, rfl⟩ := List.mem_map.1 hc
  obtain ⟨hfW, hfU⟩ := List.mem_filter.1 hf
  have hfU := of_decide_eq_true hfU
  by_cases e : f.2 = []
  ·obtain ⟨v, hv, -, e1⟩ := lone_of hW.faces hfW e
   rw [marks_nil e, e1]
   have hv0 := (h.vr v hv).1
   show bef g turn (tw _ (-1 - v)) = -1 - v
   rw [tw_eq hSn, if_neg (fun q => by
    have := h.er _ (List.mem_filter.1 q).1
    omega)]
   unfold bef
   rw [if_pos (by omega)]
  rw [marks_some e]
  have hc2 : f.2 ∈ (W.filter fun f => !f.2.isEmpty).map (·.2) := List.mem_map.2 ⟨f, List.mem_filter.2 ⟨hfW, by simp [e]⟩, rfl⟩
  refine (hW.faces.rings.ring f.2 hc2).congr fun x hx => ?_
  obtain ⟨hxd, hxU⟩ := walk_const h ht hW.faces hU.closed hfW hx
  rw [tw_eq hSn, if_pos (half_in hU hxd (hxU.2 hfU))]
  have := dart_pos h (twin_mem hxd)
  unfold bef
  rw [if_neg (by omega)]
  rfl
 refine (List.perm_ext_iff_of_nodup hnd (ground_nodup h hU)).2 fun x => ?_
 rw [mem_ground, List.mem_flatten]
 constructor
 ·rintro ⟨c, hc, hxc⟩
  obtain ⟨f, hf, rfl⟩ := List.mem_map.1 hc
  obtain ⟨hfW, hfU⟩ := List.mem_filter.1 hf
  have hfU := of_decide_eq_true hfU
  by_cases e : f.2 = []
  ·rw [marks_nil e] at hxc
   obtain ⟨v, hv, e2, e1⟩ := lone_of hW.faces hfW e
   refine Or.inr ⟨v, ?_, e2, by rw [← e1]; simpa using hxc⟩
   have : f.corner g = -1 - f.1 := by unfold Face.corner; rw [e]
   rw [this, e1, show -1 - (-1 - v) = v by omega] at hfU
   exact hfU
  rw [marks_some e] at hxc
  obtain ⟨hxd, hxU⟩ := walk_const h ht hW.faces hU.closed hfW hxc
  exact Or.inl ⟨hxd, hxU.2 hfU⟩
 rintro (⟨h1, h2⟩ | ⟨v, h1, h2, rfl⟩)
 ·obtain ⟨f, hf, hxf⟩ := walk_of hW.faces h1
  obtain ⟨-, hxU⟩ := walk_const h ht hW.faces hU.closed hf hxf
  exact ⟨marks f, List.mem_map.2 ⟨f, List.mem_filter.2 ⟨hf, decide_eq_true (hxU.1 h2)⟩, rfl⟩, by rw [marks_some (fun e => by rw [e] at hxf; simp at hxf)]; exact hxf⟩
 have hf := lone_walk hW.faces (hU.sub v h1) h2
 refine ⟨marks (-1 - v, []), List.mem_map.2 ⟨_, List.mem_filter.2 ⟨hf, decide_eq_true ?_⟩, rfl⟩, by rw [marks_nil rfl]; simp⟩
 show -1 - (-1 - v) ∈ U
 rw [show -1 - (-1 - v) = v by omega]; exact h1
theorem keysAt_mem {c : Face → Int} {W : List Face} {h k : Int} : k ∈ keysAt c W h ↔ ∃ f ∈ W, c f = h ∧ f.1 = k := by
 unfold keysAt
 rw [List.mem_map]
 constructor
 ·rintro ⟨f, hf, e⟩
  obtain ⟨h1, h2⟩ := List.mem_filter.1 hf
  exact ⟨f, h1, of_decide_eq_true h2, e⟩
 rintro ⟨f, h1, h2, e⟩
 exact ⟨f, List.mem_filter.2 ⟨h1, decide_eq_true h2⟩, e⟩
theorem keysAt_sub (c : Face → Int) (W : List Face) (h : Int) : (keysAt c W h).Sublist (W.map (·.1)) := (List.filter_sublist).map _
theorem keysAt_rise {c : Face → Int} {W : List Face} (hk : (W.map (·.1)).Pairwise (· < ·)) (h : Int) : (keysAt c W h).Pairwise (· < ·) := hk.sublist (keysAt_sub c W h)
theorem key_face {W : List Face} (hk : (W.map (·.1)).Pairwise (· < ·)) {f x : Face} (hf : f ∈ W) (hx : x ∈ W) (e : f.1 = x.1) : f = x := by
 induction W with
 | nil => simp at hf
 | cons a W ih =>
  rw [List.map_cons, List.pairwise_cons] at hk
  rcases List.mem_cons.1 hf with e1 | h1 <;> rcases List.mem_cons.1 hx with e2 | h2
  ·rw [e1, e2]
  ·have := hk.1 x.1 (List.mem_map.2 ⟨x, h2, rfl⟩); rw [e1] at e; omega
  ·have := hk.1 f.1 (List.mem_map.2 ⟨f, h1, rfl⟩); rw [e2] at e; omega
  exact ih hk.2 h1 h2
theorem regs_ok {g : Gr} {p : Pt} {turn same : List (List Int)} (_h : Parted g p turn same) : IsRegs g p turn same (regionsOf g p turn same) := by
 unfold regionsOf
 have hex : ∃ ll, IsRegs g p turn same ll := by
  refine ⟨(allRegs g p turn same).mergeSort fun a b => decide (a.getD 0 0 ≤ b.getD 0 0), List.mergeSort_perm _ _, ?_⟩
  have := List.pairwise_mergeSort (le := fun a b : List Int => decide (a.getD 0 0 ≤ b.getD 0 0)) (fun a b c h1 h2 => by simp only [decide_eq_true_eq] at h1 h2 ⊢; omega) (fun a b => by simp only [Bool.or_eq_true, decide_eq_true_eq]; omega) (allRegs g p turn same)
  exact this.imp fun h => of_decide_eq_true h
 rw [dif_pos hex]
 exact Classical.choose_spec hex
noncomputable def cls (g : Gr) (p : Pt) (turn same : List (List Int)) (f : Face) : Int := numOf (regionsOf g p turn same) f.1
theorem regs_nodup {g : Gr} {p : Pt} {turn same : List (List Int)} (h : Parted g p turn same) : (regionsOf g p turn same).flatten.Nodup := ((regs_ok h).perm.flatten).nodup_iff.2 h.nodupAll
theorem cls_at {g : Gr} {p : Pt} {turn same : List (List Int)} (h : Parted g p turn same) {i : Nat} (hi : i < (regionsOf g p turn same).length) {f : Face} (hf : f.1 ∈ (regionsOf g p turn same).getD i []) : cls g p turn same f = i := by
 unfold cls numOf
 rw [regionAt_hit (regs_nodup h) hi hf]; rfl
theorem cls_has {g : Gr} {p : Pt} {turn same : List (List Int)} (h : Parted g p turn same) {f : Face} (hf : f ∈ walksOf g p turn) : ∃ i, i < (regionsOf g p turn same).length ∧ f.1 ∈ (regionsOf g p turn same).getD i [] ∧ cls g p turn same f = i := by
 have hm : f.1 ∈ (regionsOf g p turn same).flatten := ((regs_ok h).perm.flatten.trans h.all).mem_iff.2 (List.mem_map.2 ⟨f, hf, rfl⟩)
 obtain ⟨l, hl, hfl⟩ := List.mem_flatten.1 hm
 obtain ⟨i, hi, e⟩ := List.getElem_of_mem hl
 have hg : (regionsOf g p turn same).getD i [] = l := by simp [List.getD, hi, e]
 rw [← hg] at hfl
 exact ⟨i, hi, hfl, cls_at h hi hfl⟩
theorem cls_keys {g : Gr} {p : Pt} {turn same : List (List Int)} (h : Parted g p turn same) {i : Nat} (hi : i < (regionsOf g p turn same).length) : ∀ x, x ∈ keysAt (cls g p turn same) (walksOf g p turn) i ↔ x ∈ (regionsOf g p turn same).getD i [] := by
 intro x
 rw [keysAt_mem]
 constructor
 ·rintro ⟨f, hf, e, rfl⟩
  obtain ⟨j, hj, hfj, ej⟩ := cls_has h hf
  have : i = j := by rw [e] at ej; exact Int.ofNat.inj ej
  rw [this]; exact hfj
 intro hx
 have hgi : (regionsOf g p turn same).getD i [] = (regionsOf g p turn same)[i] := by simp [List.getD, hi]
 have hm : x ∈ (regionsOf g p turn same).flatten := List.mem_flatten.2 ⟨_, List.getElem_mem hi, by rw [← hgi]; exact hx⟩
 obtain ⟨f, hf, rfl⟩ := List.mem_map.1 (((regs_ok h).perm.flatten.trans h.all).mem_iff.1 hm)
 exact ⟨f, hf, cls_at h hi hx, rfl⟩
theorem rise_ext : ∀ {l m : List Int}, l.Pairwise (· < ·) → m.Pairwise (· < ·) → (∀ x, x ∈ l ↔ x ∈ m) → l = m
 | [], [], _, _, _ => rfl
 | [], y :: m, _, _, h => by have := (h y).2 (by simp); simp at this
 | x :: l, [], _, _, h => by have := (h x).1 (by simp); simp at this
 | x :: l, y :: m, h1, h2, h => by
  rw [List.pairwise_cons] at h1 h2
  have e : x = y := by
   rcases List.mem_cons.1 ((h x).1 (by simp)) with q | q
   ·exact q
   rcases List.mem_cons.1 ((h y).2 (by simp)) with r | r
   ·exact r.symm
   have := h1.1 y r; have := h2.1 x q; omega
  subst e
  rw [rise_ext h1.2 h2.2 fun z => ?_]
  constructor
  ·intro hz
   rcases List.mem_cons.1 ((h z).1 (by simp [hz])) with q | q
   ·have := h1.1 z hz; omega
   exact q
  intro hz
  rcases List.mem_cons.1 ((h z).2 (by simp [hz])) with q | q
  ·have := h2.1 z hz; omega
  exact q
end Go.Proofs.YtednbiophjndpaaGreat.Plain
