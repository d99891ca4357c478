/- ref07: the contract of Walks. Conditions: a right part, right turns that lie in memory and read so, of a bounded size. -/
import Derived.Test.YtfgbkpbakignhaaVCyc
import Derived.Test.YtfgbkpbakignhaaVWake
import Derived.Test.YtfgbkpbakignhaaVKit
import Derived.Test.YtfgbkpbakignhaaVRing
namespace Go.Proofs.Ytfgbkpbakignhaa
open Go.RowKit Go.Maps

/-- The length of a slice. -/
def sliceLen : Value → Nat
  | .slice _ n _ => n
  | _ => 0

end Go.Proofs.Ytfgbkpbakignhaa
/- the law PlanParts: the walk. Conditions: a graph, a part, a plan that lie in memory and read so. -/
namespace Go.Proofs.Ytfgbkpbakignhaa
open Go.RowKit Go.Maps

namespace Plain
theorem small8_rows {g : Gr} {p : Pt} {turn same : List (List Int)} (h : small8 g p turn same = true) : ∀ v, (turnAt turn v).length ≤ 200 := by
  unfold small8 small6 small4 at h
  simp only [Bool.and_eq_true] at h
  obtain ⟨⟨⟨⟨h4, h5⟩, h6⟩, h7⟩, h8⟩ := h
  exact fun v => getD_le (all_le h6) v.toNat
theorem seen_mem {ll : List (List Int)} {i j : Nat} (hi : i < ll.length) {x : Int} (hx : x ∈ seen ll i j) : x ∈ ll.flatten := by
  unfold seen at hx
  rcases List.mem_append.1 hx with q | q
  · obtain ⟨l, hl, hxl⟩ := List.mem_flatten.1 q
    exact List.mem_flatten.2 ⟨l, List.mem_of_mem_take hl, hxl⟩
  · exact List.mem_flatten.2 ⟨ll[i], List.getElem_mem hi, by have := List.mem_of_mem_take q; simpa [List.getD, hi] using this⟩
theorem seen_not {ll : List (List Int)} (hn : ll.flatten.Nodup) {i j : Nat} (hj : j < (ll.getD i []).length) : (ll.getD i []).getD j 0 ∉ seen ll i j := by
  obtain ⟨r, hr⟩ := seen_sub ll i (j + 1)
  rw [hr, seen_next hj] at hn
  have := (List.nodup_append.1 hn).1
  have := (List.nodup_append.1 this).2.2
  exact fun h => this _ h _ (by simp) rfl
theorem seen_le {ll : List (List Int)} (i j : Nat) : (seen ll i j).length ≤ ll.flatten.length := by
  obtain ⟨r, hr⟩ := seen_sub ll i j
  rw [hr, List.length_append]
  omega
end Plain

end Go.Proofs.Ytfgbkpbakignhaa
/- ref05: the contract of Pieces, whole. Conditions: a right part that lies in memory, of at most 1000 vertices. -/
namespace Go.Proofs.Ytfgbkpbakignhaa
open Go.RowKit Go.Maps

/-- The pieces of roots, as cells. -/
noncomputable def rpcs (g : Plain.Gr) (p : Plain.Pt) (R : List Int) : List Cell := pcs (Plain.comp g p) (fun r => (p.sub g (Plain.comp g p r)).e) R
theorem rpcs_snoc (g : Plain.Gr) (p : Plain.Pt) (R : List Int) (r : Int) : rpcs g p (R ++ [r]) = rpcs g p R ++ [.row (Plain.comp g p r), .row (p.sub g (Plain.comp g p r)).e] := by simp [rpcs, pcs]

theorem sub_comp {g : Plain.Gr} {p : Plain.Pt} {v : Int} {M : List Int} (hp : Plain.PartOk g p) (hM : ∀ u, u ∈ M ↔ Plain.Come g p (-1) v u) : (p.sub g M).v = Plain.comp g p v ∧ (p.sub g M).e = (p.sub g (Plain.comp g p v)).e := by
  have e : ∀ u ∈ p.v, decide (u ∈ M) = decide (u ∈ Plain.comp g p v) := fun u hu => by
    have : u ∈ M ↔ u ∈ Plain.comp g p v := by rw [hM u, Plain.mem_comp]; exact ⟨fun h => ⟨hu, h⟩, fun h => h.2⟩
    simp only [this]
  refine ⟨?_, List.filter_congr fun x hx => ?_⟩
  · show p.v.filter (fun u => decide (u ∈ M)) = Plain.comp g p v
    unfold Plain.comp
    refine List.filter_congr fun u hu => ?_
    exact decide_eq_decide.2 (hM u)
  · have := hp.ends x hx
    rw [e _ this.1, e _ this.2]

end Go.Proofs.Ytfgbkpbakignhaa
/- ref07: the contracts of Corner, Genus, Sphere. Conditions: a graph, a part, turns that lie in memory and read so, of a bounded size. -/
namespace Go.Proofs.Ytfgbkpbakignhaa
open Go.RowKit Go.Maps

namespace Plain
/-- A walk is a vertex without darts, or begins with its key. -/
theorem face_cases {g : Gr} {p : Pt} {turn : List (List Int)} {W : List Face} (hpe : p.err g = 0) (hW : WalksOk g p turn W) {f : Face} (hf : f ∈ W) :
    (f.2 = [] ∧ -2048 < f.1 ∧ f.1 < 0 ∧ f.corner g = -1 - f.1) ∨ ∃ (d : Nat) (l : List Int), f.1 = (d : Int) ∧ f.2 = (d : Int) :: l ∧ (d : Int) ∈ p.darts ∧ d / 2 < g.e.length ∧ d < 2048 ∧ f.corner g = g.tail d := by
  obtain ⟨F, e, hT⟩ := hW.split
  rw [e] at hf
  rcases List.mem_append.1 hf with q | q
  · obtain ⟨v, hv, rfl⟩ := List.mem_map.1 q
    have hv := List.mem_reverse.1 (List.mem_filter.1 hv).1
    have h1 := (Pt.ok_of_err hpe).vr v hv
    have h2 := (Gr.err_ok (Pt.err_ok hpe).1).2.1
    exact Or.inl ⟨rfl, by show -2048 < -1 - v; omega, by show -1 - v < 0; omega, rfl⟩
  · obtain ⟨l, hl⟩ := hT.key f q
    have hd : f.1 ∈ p.darts := hT.sub _ (List.mem_flatten.2 ⟨f.2, List.mem_map.2 ⟨f, q, rfl⟩, by rw [hl]; simp⟩)
    obtain ⟨d, hd1, hd2, hd3⟩ := Pt.dart_nat hpe hd
    refine Or.inr ⟨d, l, hd1, by rw [hl, hd1], by rw [← hd1]; exact hd, hd2, hd3, ?_⟩
    unfold Face.corner
    rw [hl]
    show g.tail f.1 = _
    rw [hd1]
end Plain

namespace Plain
/-- A piece's number, with the first k walks taken off. -/
noncomputable def rest07 (g : Gr) (p : Pt) (W : List Face) (r : Int) (k : Nat) : Int := 2 - ((comp g p r).length : Int) + (((p.sub g (comp g p r)).e).length : Int) - (((W.take k).filter fun f => decide (f.corner g ∈ comp g p r)).length : Int)
theorem rest07_zero (g : Gr) (p : Pt) (W : List Face) (r : Int) : rest07 g p W r 0 = 2 - ((comp g p r).length : Int) + (((p.sub g (comp g p r)).e).length : Int) := by simp [rest07]
theorem rest07_succ {g : Gr} {p : Pt} {W : List Face} {r : Int} {k : Nat} (hk : k < W.length) : rest07 g p W r (k + 1) = if (W.getD k (0, [])).corner g ∈ comp g p r then rest07 g p W r k - 1 else rest07 g p W r k := by
  unfold rest07
  rw [take_face hk, List.filter_append, List.length_append]
  by_cases h : (W.getD k (0, [])).corner g ∈ comp g p r
  · rw [if_pos h, List.filter_cons_of_pos (by simpa using h)]; simp; omega
  · rw [if_neg h, List.filter_cons_of_neg (by simpa using h)]; simp
theorem rest07_all {g : Gr} {p : Pt} (h : PartOk g p) (W : List Face) (r : Int) : (rest07 g p W r W.length).tdiv 2 = genusAt g p W r := by
  unfold rest07 genusAt
  rw [List.take_length, sub_edges h]
theorem rest07_le (g : Gr) (p : Pt) (W : List Face) (r : Int) (k : Nat) : -(p.v.length : Int) - W.length ≤ rest07 g p W r k ∧ rest07 g p W r k ≤ 2 + p.e.length := by
  unfold rest07
  have h1 := comp_len g p r
  have h2 : (p.sub g (comp g p r)).e.length ≤ p.e.length := List.length_filter_le _ _
  have h3 := List.length_filter_le (fun f => decide (Face.corner g f ∈ comp g p r)) (W.take k)
  have h4 : (W.take k).length ≤ W.length := by rw [List.length_take]; omega
  omega
end Plain

end Go.Proofs.Ytfgbkpbakignhaa
/- The regions to the left of darts and around lone vertices, plainly. No program here. -/
namespace Go.Proofs.Ytfgbkpbakignhaa.Plain

/-- The places along a walk: its darts, or its key. -/
def marks (f : Face) : List Int := if f.2 = [] then [f.1] else f.2
def places8 (W : List Face) : List (List Int) := W.map marks
/-- Region numbers by keys, of what has been seen. -/
def numTo (ll : List (List Int)) (i j : Nat) : Int → Option Int := fun y => if y ∈ seen ll i j then (regionAt ll y).map fun (k : Nat) => (k : Int) else none
theorem numTo_start (ll : List (List Int)) : numTo ll 0 0 = fun _ => none := by funext y; simp [numTo, seen_zero]
theorem numTo_next {ll : List (List Int)} (hn : ll.flatten.Nodup) {i j : Nat} (hi : i < ll.length) (hj : j < (ll.getD i []).length) : (fun y => if y = (ll.getD i []).getD j 0 then some (i : Int) else numTo ll i j y) = numTo ll i (j + 1) := by
  funext y
  unfold numTo
  rw [seen_next hj]
  by_cases e : y = (ll.getD i []).getD j 0
  · rw [if_pos e, if_pos (by rw [e]; simp), e, regionAt_hit hn hi (getD_mem hj)]; rfl
  · rw [if_neg e]
    by_cases h : y ∈ seen ll i j
    · rw [if_pos h, if_pos (by simp [h])]
    · rw [if_neg h, if_neg (fun hm => (List.mem_append.1 hm).elim h fun q => e (List.mem_singleton.1 q))]
theorem numTo_row {ll : List (List Int)} {i : Nat} (hi : i < ll.length) : numTo ll i (ll.getD i []).length = numTo ll (i + 1) 0 := by funext y; unfold numTo; rw [seen_row hi]
theorem numTo_all (ll : List (List Int)) : numTo ll ll.length 0 = fun y => (regionAt ll y).map fun (k : Nat) => (k : Int) := by
  funext y
  unfold numTo
  rw [seen_all]
  by_cases h : y ∈ ll.flatten
  · rw [if_pos h]
  · rw [if_neg h, regionAt_none.2 h]; rfl

/-- The number of a walk's region. -/
def numOf (ll : List (List Int)) (key : Int) : Int := ((regionAt ll key).map fun (k : Nat) => (k : Int)).getD 0
/-- What is to the left, of the places that have been seen. -/
def leftTo (ll : List (List Int)) (W : List Face) (i j : Nat) : Int → Option Int := fun y => if y ∈ seen (places8 W) i j then (regionAt (places8 W) y).map fun (k : Nat) => numOf ll (W.getD k (0, [])).1 else none
/-- What is to the left of a place. -/
def leftOf (ll : List (List Int)) (W : List Face) : Int → Option Int := fun y => (regionAt (places8 W) y).map fun (k : Nat) => numOf ll (W.getD k (0, [])).1
theorem leftTo_start (ll : List (List Int)) (W : List Face) : leftTo ll W 0 0 = fun _ => none := by funext y; simp [leftTo, seen_zero]
theorem leftTo_next {ll : List (List Int)} {W : List Face} (hn : (places8 W).flatten.Nodup) {i j : Nat} (hi : i < (places8 W).length) (hj : j < ((places8 W).getD i []).length) :
    (fun y => if y = ((places8 W).getD i []).getD j 0 then some (numOf ll (W.getD i (0, [])).1) else leftTo ll W i j y) = leftTo ll W i (j + 1) := by
  funext y
  unfold leftTo
  rw [seen_next hj]
  by_cases e : y = ((places8 W).getD i []).getD j 0
  · rw [if_pos e, if_pos (by rw [e]; simp), e, regionAt_hit hn hi (getD_mem hj)]; rfl
  · rw [if_neg e]
    by_cases h : y ∈ seen (places8 W) i j
    · rw [if_pos h, if_pos (by simp [h])]
    · rw [if_neg h, if_neg (fun hm => (List.mem_append.1 hm).elim h fun q => e (List.mem_singleton.1 q))]
theorem leftTo_row {ll : List (List Int)} {W : List Face} {i : Nat} (hi : i < (places8 W).length) : leftTo ll W i ((places8 W).getD i []).length = leftTo ll W (i + 1) 0 := by funext y; unfold leftTo; rw [seen_row hi]
theorem leftTo_all (ll : List (List Int)) (W : List Face) : leftTo ll W (places8 W).length 0 = leftOf ll W := by
  funext y
  unfold leftTo leftOf
  rw [seen_all]
  by_cases h : y ∈ (places8 W).flatten
  · rw [if_pos h]
  · rw [if_neg h, regionAt_none.2 h]; rfl

theorem places8_len (W : List Face) : (places8 W).length = W.length := by simp [places8]
theorem places8_getD {W : List Face} {i : Nat} (hi : i < W.length) : (places8 W).getD i [] = marks (W.getD i (0, [])) := by
  unfold places8 List.getD
  rw [List.getElem?_map, List.getElem?_eq_getElem hi]
  rfl
theorem marks_nil {f : Face} (h : f.2 = []) : marks f = [f.1] := if_pos h
theorem marks_some {f : Face} (h : f.2 ≠ []) : marks f = f.2 := if_neg h

theorem mem_marks {g : Gr} {p : Pt} {turn : List (List Int)} {W : List Face} (hpe : p.err g = 0) (hW : WalksOk g p turn W) {f : Face} (hf : f ∈ W) {y : Int} (hy : y ∈ marks f) : (y < 0 ∧ f.2 = [] ∧ f.1 = y) ∨ (0 ≤ y ∧ y ∈ p.darts ∧ y ∈ f.2) := by
  rcases face_cases hpe hW hf with ⟨h1, h2, h3, -⟩ | ⟨d, l, h1, h2, h3, -⟩
  · rw [marks_nil h1] at hy
    simp at hy
    exact Or.inl ⟨by omega, h1, hy.symm⟩
  · rw [marks_some (by rw [h2]; simp)] at hy
    right
    obtain ⟨F, e, hT⟩ := hW.split
    have hm : f ∈ F := by
      rw [e] at hf
      rcases List.mem_append.1 hf with q | q
      · obtain ⟨v, -, rfl⟩ := List.mem_map.1 q
        cases h2
      · exact q
    have hyd := hT.sub y (List.mem_flatten.2 ⟨f.2, List.mem_map.2 ⟨f, hm, rfl⟩, hy⟩)
    have := Pt.edge_in hpe (mem_darts.1 hyd)
    exact ⟨by omega, hyd, hy⟩

theorem places_nodup {g : Gr} {p : Pt} {turn : List (List Int)} {W : List Face} (hpe : p.err g = 0) (hW : WalksOk g p turn W) : (places8 W).flatten.Nodup := by
  have hk := walks_keys hpe hW
  rw [nodup_flat]
  obtain ⟨F, e, hT⟩ := hW.split
  have hFn := nodup_flat.1 hT.rings.nodup
  refine ⟨fun l hl => ?_, ?_⟩
  · obtain ⟨f, hf, rfl⟩ := List.mem_map.1 hl
    by_cases h : f.2 = []
    · rw [marks_nil h]; simp
    · rw [marks_some h]
      rw [e] at hf
      rcases List.mem_append.1 hf with q | q
      · obtain ⟨v, -, rfl⟩ := List.mem_map.1 q
        exact absurd rfl h
      · exact hFn.1 _ (List.mem_map.2 ⟨f, q, rfl⟩)
  · unfold places8
    rw [List.pairwise_map]
    rw [List.pairwise_map] at hk
    refine hk.imp_of_mem ?_
    intro a b ha hb hab x hx y hy exy
    subst exy
    rcases mem_marks hpe hW ha hx with ⟨h1, -, h2⟩ | ⟨h1, -, h2⟩
    · rcases mem_marks hpe hW hb hy with ⟨-, -, k2⟩ | ⟨k1, -, -⟩
      · omega
      · omega
    · rcases mem_marks hpe hW hb hy with ⟨k1, -, -⟩ | ⟨-, -, k2⟩
      · omega
      · have hma : a ∈ F := by
          rw [e] at ha
          rcases List.mem_append.1 ha with q | q
          · obtain ⟨v, -, rfl⟩ := List.mem_map.1 q; simp at h2
          · exact q
        have hmb : b ∈ F := by
          rw [e] at hb
          rcases List.mem_append.1 hb with q | q
          · obtain ⟨v, -, rfl⟩ := List.mem_map.1 q; simp at k2
          · exact q
        have := one_list hT.rings.nodup (List.mem_map.2 ⟨a, hma, rfl⟩) (List.mem_map.2 ⟨b, hmb, rfl⟩) h2 k2
        obtain ⟨la, ea⟩ := hT.key a hma
        obtain ⟨lb, eb⟩ := hT.key b hmb
        rw [ea, eb] at this
        have : a.1 = b.1 := by simpa using (List.cons.inj this).1
        omega

theorem numOf_small (ll : List (List Int)) (key : Int) : 0 ≤ numOf ll key ∧ numOf ll key ≤ ll.length := by
  unfold numOf
  cases h : regionAt ll key with
  | none => simp
  | some k =>
    have := (regionAt_lt h).1
    simp
    omega
theorem face_len {g : Gr} {p : Pt} {turn : List (List Int)} {W : List Face} (_hpe : p.err g = 0) (hW : WalksOk g p turn W) {f : Face} (hf : f ∈ W) : f.2.length ≤ 2 * p.e.length := by
  obtain ⟨F, e, hT⟩ := hW.split
  rw [e] at hf
  rcases List.mem_append.1 hf with q | q
  · obtain ⟨v, -, rfl⟩ := List.mem_map.1 q
    simp
  · have hn := (nodup_flat.1 hT.rings.nodup).1 _ (List.mem_map.2 ⟨f, q, rfl⟩)
    have := len_le_of_sub hn (m := p.darts) fun y hy => hT.sub y (List.mem_flatten.2 ⟨f.2, List.mem_map.2 ⟨f, q, rfl⟩, hy⟩)
    rwa [darts_length] at this
end Go.Proofs.Ytfgbkpbakignhaa.Plain
/- Turns begun anew: the same walks, the same error, the same drawing. No program here. -/
namespace Go.Proofs.Ytfgbkpbakignhaa.Plain

theorem ring_agree {p q : Int → Int} {c : List Int} (h : Ring p c) (k : Ring q c) : ∀ x ∈ c, p x = q x := by
  cases c with
  | nil => simp
  | cons a l =>
    have e := (Trail.map (show Trail p a l a from h)).trans (Trail.map (show Trail q a l a from k)).symm
    exact fun x hx => List.map_inj_left.1 e x hx

theorem ahead_roll {a b : List Int} (hn : (a ++ b).Nodup) : ∀ x ∈ a ++ b, ahead (b ++ a) x = ahead (a ++ b) x := by
  intro x hx
  have hn2 : (b ++ a).Nodup := (List.perm_append_comm).nodup_iff.1 hn
  by_cases ha : a = []
  · subst ha; simp
  · by_cases hb : b = []
    · subst hb; simp
    · have h1 := ahead_ring hn (by simp [ha])
      have h2 := ahead_ring hn2 (by simp [ha])
      rw [List.reverse_append] at h1 h2
      obtain ⟨u, r, hr⟩ := List.exists_cons_of_ne_nil (show a.reverse ≠ [] by simpa using ha)
      obtain ⟨v, s, hs⟩ := List.exists_cons_of_ne_nil (show b.reverse ≠ [] by simpa using hb)
      rw [hr, hs] at h1 h2
      have h3 := Ring.turn (p := ahead (a ++ b)) (l := s) (m := r) (x := v) (y := u) h1
      have := ring_agree h2 h3 x (by
        rw [← hr, ← hs, List.mem_append, List.mem_reverse, List.mem_reverse]
        exact List.mem_append.1 hx)
      exact this

theorem first_split (l : List Int) : ∃ a b, l = a ++ b ∧ first l = b ++ a := ⟨l.take (lst l l.length), l.drop (lst l l.length), (List.take_append_drop _ _).symm, rfl⟩
theorem first_perm (l : List Int) : (first l).Perm l := by
  obtain ⟨a, b, e1, e2⟩ := first_split l
  rw [e2]
  exact List.perm_append_comm.trans (List.Perm.of_eq e1.symm)
theorem first_nil : first [] = [] := rfl
theorem first_empty (l : List Int) : (first l).isEmpty = l.isEmpty := by
  have := (first_perm l).length_eq
  cases h : first l <;> cases h2 : l <;> simp_all
theorem ahead_begun {l : List Int} (hn : l.Nodup) : ∀ x ∈ l, ahead (first l) x = ahead l x := by
  obtain ⟨a, b, e1, e2⟩ := first_split l
  rw [e2]
  rw [e1] at hn ⊢
  exact ahead_roll hn

theorem turnAt_map (turn : List (List Int)) (v : Int) : turnAt (turn.map first) v = first (turnAt turn v) := by
  unfold turnAt List.getD
  rw [List.getElem?_map]
  cases turn[v.toNat]? <;> rfl

theorem TurnsOk.first {g : Gr} {p : Pt} {turn : List (List Int)} (h : TurnsOk g p turn) : TurnsOk g p (turn.map Plain.first) := by
  refine ⟨by rw [List.length_map]; exact h.len, fun v => ?_, fun v h0 hn d => ?_⟩
  · rw [turnAt_map]; exact (first_perm _).nodup_iff.2 (h.nodup v)
  · rw [turnAt_map, (first_perm _).mem_iff]; exact h.mem v h0 hn d

theorem turnsOk_first {g : Gr} {p : Pt} {turn : List (List Int)} : TurnsOk g p (turn.map Plain.first) ↔ TurnsOk g p turn := by
  refine ⟨fun h => ⟨by rw [← List.length_map (f := Plain.first)]; exact h.len, fun v => ?_, fun v h0 hn d => ?_⟩, fun h => h.first⟩
  · have := h.nodup v
    rw [turnAt_map] at this
    exact (first_perm _).nodup_iff.1 this
  · have := h.mem v h0 hn d
    rw [turnAt_map, (first_perm _).mem_iff] at this
    exact this

theorem next_first {g : Gr} {p : Pt} {turn : List (List Int)} (hp : PartOk g p) (h : TurnsOk g p turn) {d : Int} (hd : d ∈ p.darts) : nextDart g (turn.map Plain.first) d = nextDart g turn d := by
  unfold nextDart before
  rw [turnAt_map]
  have ht := twin_mem hd
  have hv := hp.vr _ (hp.tail_mem ht).1
  exact ahead_begun (h.nodup _) _ ((h.mem _ hv.1 hv.2 _).2 ⟨ht, rfl⟩)

theorem loneAt_first (turn : List (List Int)) (l : List Int) : loneAt (turn.map Plain.first) l = loneAt turn l := by
  unfold loneAt
  congr 1
  refine List.filter_congr fun v _ => ?_
  rw [turnAt_map, first_empty]

theorem Trk.first {g : Gr} {p : Pt} {turn : List (List Int)} {F : List Face} {pre : List Int} (hp : PartOk g p) (ht : TurnsOk g p turn) (h : Trk g p turn F pre) : Trk g p (turn.map Plain.first) F pre :=
  ⟨h.rings.congr fun x hx => (next_first hp ht (h.sub x hx)).symm, h.sub, h.key, h.keys, h.least, h.cover⟩

theorem WalksOk.first {g : Gr} {p : Pt} {turn : List (List Int)} {W : List Face} (hp : PartOk g p) (ht : TurnsOk g p turn) (h : WalksOk g p turn W) : WalksOk g p (turn.map Plain.first) W := by
  obtain ⟨F, e, k⟩ := h.split
  rw [e, ← loneAt_first turn]
  exact (k.first hp ht).walks hp

/-- Right turns have walks. -/
theorem walks_ok {g : Gr} {p : Pt} {turn : List (List Int)} (hpe : p.err g = 0) (hto : TurnsOk g p turn) : WalksOk g p turn (walksOf g p turn) := by
  rw [← mins_walks hpe hto]
  exact (mins_trk (Pt.ok_of_err hpe) (rises_pair (Pt.err_ok hpe).2.2.1) hto).walks (Pt.ok_of_err hpe)

theorem walks_first {g : Gr} {p : Pt} {turn : List (List Int)} (hpe : p.err g = 0) (hto : TurnsOk g p turn) : walksOf g p (turn.map Plain.first) = walksOf g p turn :=
  (((walks_ok hpe hto).first (Pt.ok_of_err hpe) hto).eq hpe).symm

theorem turnErr_first (g : Gr) (p : Pt) (turn : List (List Int)) : turnErr g p (turn.map Plain.first) = turnErr g p turn := by
  by_cases hpe : p.err g = 0
  · by_cases h : TurnsOk g p turn
    · rw [turnErr_ok hpe h, turnErr_ok hpe h.first]
    · rw [turnErr_bad hpe h, turnErr_bad hpe fun k => h (turnsOk_first.1 k)]
  · rw [turnErr_part hpe, turnErr_part hpe]

theorem flatErr_first (g : Gr) (p : Pt) (turn : List (List Int)) : flatErr g p (turn.map Plain.first) = flatErr g p turn := by
  by_cases h : turnErr g p turn = 0
  · obtain ⟨hpe, hto⟩ := turnErr_zero h
    have h2 : turnErr g p (turn.map Plain.first) = 0 := (turnErr_first g p turn).trans h
    have hw := walks_first hpe hto
    by_cases hf : Flat g p turn
    · rw [flatErr_ok h hf, flatErr_ok h2 (by unfold Flat; rw [hw]; exact hf)]
    · rw [flatErr_bad h hf, flatErr_bad h2 (by unfold Flat; rw [hw]; exact hf)]
  · rw [flatErr_turn h, flatErr_turn (by rw [turnErr_first]; exact h), turnErr_first]

theorem planErr_first (g : Gr) (p : Pt) (turn same : List (List Int)) : planErr g p (turn.map Plain.first) same = planErr g p turn same := by
  by_cases h : flatErr g p turn = 0
  · obtain ⟨hte, -⟩ := flatErr_zero h
    obtain ⟨hpe, hto⟩ := turnErr_zero hte
    rw [planErr_run h, planErr_run ((flatErr_first g p turn).trans h), walks_first hpe hto]
  · rw [planErr_flat h, planErr_flat (by rw [flatErr_first]; exact h), flatErr_first]

/-- The error of a drawing of one piece. -/
noncomputable def loneErr (g : Gr) (p : Pt) (turn : List (List Int)) : Int := if flatErr g p turn ≠ 0 then flatErr g p turn else if (roots g p).length ≤ 1 then 0 else 10

theorem lone_plan {g : Gr} {p : Pt} {turn : List (List Int)} (h : loneErr g p turn = 0) : planErr g p (turn.map Plain.first) [] = 0 := by
  unfold loneErr at h
  split at h
  · rename_i q; exact absurd h q
  · rename_i q
    have q : flatErr g p turn = 0 := Classical.byContradiction q
    split at h
    · rename_i q2
      rw [planErr_first, planErr_run q]
      have := (PlanOk.start (fun _ => none) (roots g p).length).num
      simp only [List.length_nil, Nat.add_zero] at this
      show (if 1 < (St.new (upTo (roots g p).length)).count then (7 : Int) else 0) = 0
      rw [if_neg]
      have h2 : (St.new (upTo (roots g p).length)).count = (roots g p).length := this
      omega
    · cases h
end Go.Proofs.Ytfgbkpbakignhaa.Plain
