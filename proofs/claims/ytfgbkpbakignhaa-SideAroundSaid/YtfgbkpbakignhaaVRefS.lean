/- ref07: the contracts of Corner, Genus, Sphere. Conditions: a graph, a part, turns that lie in memory and read so, of a bounded size. -/
import Derived.Test.YtfgbkpbakignhaaVRefW
import Derived.Test.YtfgbkpbakignhaaVMisc
import Derived.Test.YtfgbkpbakignhaaVCycP
namespace Go.Proofs.Ytfgbkpbakignhaa
open Go.RowKit Go.Maps

namespace Plain
/-- A walk is a vertex without darts, or begins with its key. -/
theorem face_cases {g : Gr} {p : Pt} {turn : List (List Int)} {W : List Face} (hpe : p.err g = 0) (hW : WalksOk g p turn W) {f : Face} (hf : f ∈ W) :
    (f.2 = [] ∧ -2048 < f.1 ∧ f.1 < 0 ∧ f.corner g = -1 - f.1) ∨ ∃ (d : Nat) (l : List Int), f.1 = (d : Int) ∧ f.2 = (d : Int) :: l ∧ (d : Int) ∈ p.darts ∧ d / 2 < g.e.length ∧ d < 2048 ∧ f.corner g = g.tail d := by
  obtain ⟨F, e, hT⟩ := hW.split
  rw [e] at hf
  rcases List.mem_append.1 hf with q | q
  · obtain ⟨v, hv, rfl⟩ := List.mem_map.1 q
    have hv := List.mem_reverse.1 (List.mem_filter.1 hv).1
    have h1 := (Pt.ok_of_err hpe).vr v hv
    have h2 := (Gr.err_ok (Pt.err_ok hpe).1).2.1
    exact Or.inl ⟨rfl, by show -2048 < -1 - v; omega, by show -1 - v < 0; omega, rfl⟩
  · obtain ⟨l, hl⟩ := hT.key f q
    have hd : f.1 ∈ p.darts := hT.sub _ (List.mem_flatten.2 ⟨f.2, List.mem_map.2 ⟨f, q, rfl⟩, by rw [hl]; simp⟩)
    obtain ⟨d, hd1, hd2, hd3⟩ := Pt.dart_nat hpe hd
    refine Or.inr ⟨d, l, hd1, by rw [hl, hd1], by rw [← hd1]; exact hd, hd2, hd3, ?_⟩
    unfold Face.corner
    rw [hl]
    show g.tail f.1 = _
    rw [hd1]
end Plain

namespace Plain
/-- A piece's number, with the first k walks taken off. -/
noncomputable def rest07 (g : Gr) (p : Pt) (W : List Face) (r : Int) (k : Nat) : Int := 2 - ((comp g p r).length : Int) + (((p.sub g (comp g p r)).e).length : Int) - (((W.take k).filter fun f => decide (f.corner g ∈ comp g p r)).length : Int)
theorem rest07_zero (g : Gr) (p : Pt) (W : List Face) (r : Int) : rest07 g p W r 0 = 2 - ((comp g p r).length : Int) + (((p.sub g (comp g p r)).e).length : Int) := by simp [rest07]
theorem rest07_succ {g : Gr} {p : Pt} {W : List Face} {r : Int} {k : Nat} (hk : k < W.length) : rest07 g p W r (k + 1) = if (W.getD k (0, [])).corner g ∈ comp g p r then rest07 g p W r k - 1 else rest07 g p W r k := by
  unfold rest07
  rw [take_face hk, List.filter_append, List.length_append]
  by_cases h : (W.getD k (0, [])).corner g ∈ comp g p r
  · rw [if_pos h, List.filter_cons_of_pos (by simpa using h)]; simp; omega
  · rw [if_neg h, List.filter_cons_of_neg (by simpa using h)]; simp
theorem rest07_all {g : Gr} {p : Pt} (h : PartOk g p) (W : List Face) (r : Int) : (rest07 g p W r W.length).tdiv 2 = genusAt g p W r := by
  unfold rest07 genusAt
  rw [List.take_length, sub_edges h]
theorem rest07_le (g : Gr) (p : Pt) (W : List Face) (r : Int) (k : Nat) : -(p.v.length : Int) - W.length ≤ rest07 g p W r k ∧ rest07 g p W r k ≤ 2 + p.e.length := by
  unfold rest07
  have h1 := comp_len g p r
  have h2 : (p.sub g (comp g p r)).e.length ≤ p.e.length := List.length_filter_le _ _
  have h3 := List.length_filter_le (fun f => decide (Face.corner g f ∈ comp g p r)) (W.take k)
  have h4 : (W.take k).length ≤ W.length := by rw [List.length_take]; omega
  omega
end Plain

end Go.Proofs.Ytfgbkpbakignhaa
/- The regions to the left of darts and around lone vertices, plainly. No program here. -/
namespace Go.Proofs.Ytfgbkpbakignhaa.Plain

/-- The places along a walk: its darts, or its key. -/
def marks (f : Face) : List Int := if f.2 = [] then [f.1] else f.2
def places8 (W : List Face) : List (List Int) := W.map marks
/-- Region numbers by keys, of what has been seen. -/
def numTo (ll : List (List Int)) (i j : Nat) : Int → Option Int := fun y => if y ∈ seen ll i j then (regionAt ll y).map fun (k : Nat) => (k : Int) else none
theorem numTo_start (ll : List (List Int)) : numTo ll 0 0 = fun _ => none := by funext y; simp [numTo, seen_zero]
theorem numTo_next {ll : List (List Int)} (hn : ll.flatten.Nodup) {i j : Nat} (hi : i < ll.length) (hj : j < (ll.getD i []).length) : (fun y => if y = (ll.getD i []).getD j 0 then some (i : Int) else numTo ll i j y) = numTo ll i (j + 1) := by
  funext y
  unfold numTo
  rw [seen_next hj]
  by_cases e : y = (ll.getD i []).getD j 0
  · rw [if_pos e, if_pos (by rw [e]; simp), e, regionAt_hit hn hi (getD_mem hj)]; rfl
  · rw [if_neg e]
    by_cases h : y ∈ seen ll i j
    · rw [if_pos h, if_pos (by simp [h])]
    · rw [if_neg h, if_neg (fun hm => (List.mem_append.1 hm).elim h fun q => e (List.mem_singleton.1 q))]
theorem numTo_row {ll : List (List Int)} {i : Nat} (hi : i < ll.length) : numTo ll i (ll.getD i []).length = numTo ll (i + 1) 0 := by funext y; unfold numTo; rw [seen_row hi]
theorem numTo_all (ll : List (List Int)) : numTo ll ll.length 0 = fun y => (regionAt ll y).map fun (k : Nat) => (k : Int) := by
  funext y
  unfold numTo
  rw [seen_all]
  by_cases h : y ∈ ll.flatten
  · rw [if_pos h]
  · rw [if_neg h, regionAt_none.2 h]; rfl

/-- The number of a walk's region. -/
def numOf (ll : List (List Int)) (key : Int) : Int := ((regionAt ll key).map fun (k : Nat) => (k : Int)).getD 0
/-- What is to the left, of the places that have been seen. -/
def leftTo (ll : List (List Int)) (W : List Face) (i j : Nat) : Int → Option Int := fun y => if y ∈ seen (places8 W) i j then (regionAt (places8 W) y).map fun (k : Nat) => numOf ll (W.getD k (0, [])).1 else none
/-- What is to the left of a place. -/
def leftOf (ll : List (List Int)) (W : List Face) : Int → Option Int := fun y => (regionAt (places8 W) y).map fun (k : Nat) => numOf ll (W.getD k (0, [])).1
theorem leftTo_start (ll : List (List Int)) (W : List Face) : leftTo ll W 0 0 = fun _ => none := by funext y; simp [leftTo, seen_zero]
theorem leftTo_next {ll : List (List Int)} {W : List Face} (hn : (places8 W).flatten.Nodup) {i j : Nat} (hi : i < (places8 W).length) (hj : j < ((places8 W).getD i []).length) :
    (fun y => if y = ((places8 W).getD i []).getD j 0 then some (numOf ll (W.getD i (0, [])).1) else leftTo ll W i j y) = leftTo ll W i (j + 1) := by
  funext y
  unfold leftTo
  rw [seen_next hj]
  by_cases e : y = ((places8 W).getD i []).getD j 0
  · rw [if_pos e, if_pos (by rw [e]; simp), e, regionAt_hit hn hi (getD_mem hj)]; rfl
  · rw [if_neg e]
    by_cases h : y ∈ seen (places8 W) i j
    · rw [if_pos h, if_pos (by simp [h])]
    · rw [if_neg h, if_neg (fun hm => (List.mem_append.1 hm).elim h fun q => e (List.mem_singleton.1 q))]
theorem leftTo_row {ll : List (List Int)} {W : List Face} {i : Nat} (hi : i < (places8 W).length) : leftTo ll W i ((places8 W).getD i []).length = leftTo ll W (i + 1) 0 := by funext y; unfold leftTo; rw [seen_row hi]
theorem leftTo_all (ll : List (List Int)) (W : List Face) : leftTo ll W (places8 W).length 0 = leftOf ll W := by
  funext y
  unfold leftTo leftOf
  rw [seen_all]
  by_cases h : y ∈ (places8 W).flatten
  · rw [if_pos h]
  · rw [if_neg h, regionAt_none.2 h]; rfl

theorem places8_len (W : List Face) : (places8 W).length = W.length := by simp [places8]
theorem places8_getD {W : List Face} {i : Nat} (hi : i < W.length) : (places8 W).getD i [] = marks (W.getD i (0, [])) := by
  unfold places8 List.getD
  rw [List.getElem?_map, List.getElem?_eq_getElem hi]
  rfl
theorem marks_nil {f : Face} (h : f.2 = []) : marks f = [f.1] := if_pos h
theorem marks_some {f : Face} (h : f.2 ≠ []) : marks f = f.2 := if_neg h

theorem mem_marks {g : Gr} {p : Pt} {turn : List (List Int)} {W : List Face} (hpe : p.err g = 0) (hW : WalksOk g p turn W) {f : Face} (hf : f ∈ W) {y : Int} (hy : y ∈ marks f) : (y < 0 ∧ f.2 = [] ∧ f.1 = y) ∨ (0 ≤ y ∧ y ∈ p.darts ∧ y ∈ f.2) := by
  rcases face_cases hpe hW hf with ⟨h1, h2, h3, -⟩ | ⟨d, l, h1, h2, h3, -⟩
  · rw [marks_nil h1] at hy
    simp at hy
    exact Or.inl ⟨by omega, h1, hy.symm⟩
  · rw [marks_some (by rw [h2]; simp)] at hy
    right
    obtain ⟨F, e, hT⟩ := hW.split
    have hm : f ∈ F := by
      rw [e] at hf
      rcases List.mem_append.1 hf with q | q
      · obtain ⟨v, -, rfl⟩ := List.mem_map.1 q
        cases h2
      · exact q
    have hyd := hT.sub y (List.mem_flatten.2 ⟨f.2, List.mem_map.2 ⟨f, hm, rfl⟩, hy⟩)
    have := Pt.edge_in hpe (mem_darts.1 hyd)
    exact ⟨by omega, hyd, hy⟩

theorem places_nodup {g : Gr} {p : Pt} {turn : List (List Int)} {W : List Face} (hpe : p.err g = 0) (hW : WalksOk g p turn W) : (places8 W).flatten.Nodup := by
  have hk := walks_keys hpe hW
  rw [nodup_flat]
  obtain ⟨F, e, hT⟩ := hW.split
  have hFn := nodup_flat.1 hT.rings.nodup
  refine ⟨fun l hl => ?_, ?_⟩
  · obtain ⟨f, hf, rfl⟩ := List.mem_map.1 hl
    by_cases h : f.2 = []
    · rw [marks_nil h]; simp
    · rw [marks_some h]
      rw [e] at hf
      rcases List.mem_append.1 hf with q | q
      · obtain ⟨v, -, rfl⟩ := List.mem_map.1 q
        exact absurd rfl h
      · exact hFn.1 _ (List.mem_map.2 ⟨f, q, rfl⟩)
  · unfold places8
    rw [List.pairwise_map]
    rw [List.pairwise_map] at hk
    refine hk.imp_of_mem ?_
    intro a b ha hb hab x hx y hy exy
    subst exy
    rcases mem_marks hpe hW ha hx with ⟨h1, -, h2⟩ | ⟨h1, -, h2⟩
    · rcases mem_marks hpe hW hb hy with ⟨-, -, k2⟩ | ⟨k1, -, -⟩
      · omega
      · omega
    · rcases mem_marks hpe hW hb hy with ⟨k1, -, -⟩ | ⟨-, -, k2⟩
      · omega
      · have hma : a ∈ F := by
          rw [e] at ha
          rcases List.mem_append.1 ha with q | q
          · obtain ⟨v, -, rfl⟩ := List.mem_map.1 q; simp at h2
          · exact q
        have hmb : b ∈ F := by
          rw [e] at hb
          rcases List.mem_append.1 hb with q | q
          · obtain ⟨v, -, rfl⟩ := List.mem_map.1 q; simp at k2
          · exact q
        have := one_list hT.rings.nodup (List.mem_map.2 ⟨a, hma, rfl⟩) (List.mem_map.2 ⟨b, hmb, rfl⟩) h2 k2
        obtain ⟨la, ea⟩ := hT.key a hma
        obtain ⟨lb, eb⟩ := hT.key b hmb
        rw [ea, eb] at this
        have : a.1 = b.1 := by simpa using (List.cons.inj this).1
        omega

theorem numOf_small (ll : List (List Int)) (key : Int) : 0 ≤ numOf ll key ∧ numOf ll key ≤ ll.length := by
  unfold numOf
  cases h : regionAt ll key with
  | none => simp
  | some k =>
    have := (regionAt_lt h).1
    simp
    omega
theorem face_len {g : Gr} {p : Pt} {turn : List (List Int)} {W : List Face} (_hpe : p.err g = 0) (hW : WalksOk g p turn W) {f : Face} (hf : f ∈ W) : f.2.length ≤ 2 * p.e.length := by
  obtain ⟨F, e, hT⟩ := hW.split
  rw [e] at hf
  rcases List.mem_append.1 hf with q | q
  · obtain ⟨v, -, rfl⟩ := List.mem_map.1 q
    simp
  · have hn := (nodup_flat.1 hT.rings.nodup).1 _ (List.mem_map.2 ⟨f, q, rfl⟩)
    have := len_le_of_sub hn (m := p.darts) fun y hy => hT.sub y (List.mem_flatten.2 ⟨f.2, List.mem_map.2 ⟨f, q, rfl⟩, hy⟩)
    rwa [darts_length] at this
end Go.Proofs.Ytfgbkpbakignhaa.Plain
/- On which side of a cycle a drawing's places are, plainly. No program here. -/
namespace Go.Proofs.Ytfgbkpbakignhaa.Plain

/-- What is to the left of a place, or 0. -/
def lf (L : Int → Option Int) (d : Int) : Int := (L d).getD 0
/-- The regions that are joined over the part's first k edges that are not the cycle's. -/
def sideJoin (L : Int → Option Int) (p : Pt) (cy : List Int) : Nat → St
  | 0 => ⟨[], []⟩
  | k + 1 => if p.e.getD k 0 ∈ cy.map (· / 2) then sideJoin L p cy k else (sideJoin L p cy k).join (lf L (2 * p.e.getD k 0)) (lf L (2 * p.e.getD k 0 + 1))
/-- .. with those at both sides of the cycle's first k darts put in. -/
def sideAdd (L : Int → Option Int) (p : Pt) (cy : List Int) : Nat → St
  | 0 => sideJoin L p cy p.e.length
  | k + 1 => ((sideAdd L p cy k).put (lf L (cy.getD k 0))).put (lf L (twin (cy.getD k 0)))
/-- The region to the left of the cycle's first dart. -/
def sideHead (L : Int → Option Int) (cy : List Int) : Int := lf L (cy.getD 0 0)
def sideNo (L : Int → Option Int) (p : Pt) (cy : List Int) (r : Int) : Int := if r = sideHead L cy ∨ (sideAdd L p cy cy.length).same r (sideHead L cy) = true then 1 else 2
/-- The side of a place. -/
def sideOf (L : Int → Option Int) (p : Pt) (cy : List Int) (y : Int) : Option Int := (L y).map (sideNo L p cy)

theorem sideJoin_on {L : Int → Option Int} {p : Pt} {cy : List Int} {k : Nat} (h : p.e.getD k 0 ∈ cy.map (· / 2)) : sideJoin L p cy (k + 1) = sideJoin L p cy k := if_pos h
theorem sideJoin_off {L : Int → Option Int} {p : Pt} {cy : List Int} {k : Nat} (h : p.e.getD k 0 ∉ cy.map (· / 2)) : sideJoin L p cy (k + 1) = (sideJoin L p cy k).join (lf L (2 * p.e.getD k 0)) (lf L (2 * p.e.getD k 0 + 1)) := if_neg h
theorem sideAdd_succ (L : Int → Option Int) (p : Pt) (cy : List Int) (k : Nat) : sideAdd L p cy (k + 1) = ((sideAdd L p cy k).put (lf L (cy.getD k 0))).put (lf L (twin (cy.getD k 0))) := rfl
theorem join_len (s : St) (x y : Int) : (s.join x y).all.length ≤ s.all.length + 2 := by
  rw [St.join_eq]
  have h1 := (s.len_put x).2
  have h2 := ((s.put x).len_put y).2
  show ((s.put x).put y).all.length ≤ _
  omega
theorem sideJoin_len (L : Int → Option Int) (p : Pt) (cy : List Int) (k : Nat) : (sideJoin L p cy k).all.length ≤ 2 * k := by
  induction k with
  | zero => simp [sideJoin]
  | succ k ih =>
    by_cases h : p.e.getD k 0 ∈ cy.map (· / 2)
    · rw [sideJoin_on h]; omega
    · rw [sideJoin_off h]
      have := join_len (sideJoin L p cy k) (lf L (2 * p.e.getD k 0)) (lf L (2 * p.e.getD k 0 + 1))
      omega
theorem sideAdd_len (L : Int → Option Int) (p : Pt) (cy : List Int) (k : Nat) : (sideAdd L p cy k).all.length ≤ 2 * p.e.length + 2 * k := by
  induction k with
  | zero => have := sideJoin_len L p cy p.e.length; simpa [sideAdd] using this
  | succ k ih =>
    rw [sideAdd_succ]
    have h1 := ((sideAdd L p cy k).len_put (lf L (cy.getD k 0))).2
    have h2 := (((sideAdd L p cy k).put (lf L (cy.getD k 0))).len_put (lf L (twin (cy.getD k 0)))).2
    omega
/-- The cycle's first k edges are those that lastAt has met. -/
theorem lastAt_mem {cy : List Int} {e : Int} : (lastAt (· / 2) cy cy.length e).isSome = decide (e ∈ cy.map (· / 2)) := by
  by_cases h : e ∈ cy.map (· / 2)
  · rw [decide_eq_true h]
    cases hl : lastAt (· / 2) cy cy.length e with
    | some _ => rfl
    | none =>
      obtain ⟨d, hd, e1⟩ := List.mem_map.1 h
      obtain ⟨i, hi, rfl⟩ := mem_getD hd
      exact absurd e1 (lastAt_none.1 hl i hi)
  · rw [decide_eq_false h, lastAt_none.2 fun i hi q => h (List.mem_map.2 ⟨_, getD_mem hi, q⟩)]
    rfl
theorem numOf_i64 {L : Int → Option Int} (h : ∀ y v, L y = some v → 0 ≤ v ∧ v < 1000000000) (y : Int) : 0 ≤ lf L y ∧ lf L y < 1000000000 := by
  unfold lf
  cases e : L y with
  | none => exact ⟨by simp, by simp⟩
  | some v => exact h y v e
theorem leftOf_small {ll : List (List Int)} (W : List Face) (hl : ll.length ≤ 30000) (y v : Int) (h : leftOf ll W y = some v) : 0 ≤ v ∧ v < 1000000000 := by
  unfold leftOf at h
  cases e : regionAt (places8 W) y with
  | none => rw [e] at h; cases h
  | some k =>
    rw [e] at h
    simp only [Option.map_some, Option.some.injEq] at h
    have := numOf_small ll (W.getD k (0, [])).1
    omega
theorem cyc_darts {g : Gr} {p : Pt} {cy : List Int} (h : cycOk g p cy = true) : p.err g = 0 ∧ 0 < cy.length ∧ ∀ d ∈ cy, ∃ n m : Nat, d = n ∧ n / 2 < g.e.length ∧ n < 2048 ∧ Plain.twin n = m ∧ m < 2048 := by
  unfold cycOk at h
  rw [Bool.and_eq_true, Bool.and_eq_true, Bool.and_eq_true] at h
  obtain ⟨⟨⟨h0, h1⟩, h2⟩, -⟩ := h
  have he := of_decide_eq_true h0
  refine ⟨he, ?_, fun d hd => ?_⟩
  · cases cy with
    | nil => cases h1
    | cons a l => simp
  · obtain ⟨i, hi, rfl⟩ := mem_getD hd
    have h3 := List.all_eq_true.1 h2 i (List.mem_range.2 hi)
    unfold dartAt at h3
    have hm := mem_darts.2 (of_decide_eq_true h3).2
    obtain ⟨n, e1, e2, e3⟩ := Pt.dart_nat he hm
    obtain ⟨m, e4, e5, e6⟩ := Pt.dart_nat he (twin_mem hm)
    exact ⟨n, m, e1, e2, e3, by rw [← e1]; exact e4, e6⟩
end Go.Proofs.Ytfgbkpbakignhaa.Plain
/- The sides of all vertices and edges, plainly. No program here. -/
namespace Go.Proofs.Ytfgbkpbakignhaa.Plain

/-- The place at which a vertex is looked up: its first dart, or its lone walk. -/
def seat (turn : List (List Int)) (v : Int) : Int := if 0 < (turnAt turn v).length then (turnAt turn v).getD 0 0 else -1 - v
/-- The sides of the first k vertices, ahead of the cycle's. -/
def vside (S : Int → Option Int) (turn : List (List Int)) (p : Pt) (k : Nat) : Int → Option Int := fun y => if y ∈ p.v.take k then some ((S (seat turn y)).getD 0) else none
def eside (S : Int → Option Int) (p : Pt) (k : Nat) : Int → Option Int := fun y => if y ∈ p.e.take k then some ((S (2 * y)).getD 0) else none
/-- .. then those of the cycle's first k darts are on it. -/
def von (g : Gr) (V : Int → Option Int) (cy : List Int) (k : Nat) : Int → Option Int := fun y => if y ∈ (cy.take k).map g.tail then some 0 else V y
def eon (E : Int → Option Int) (cy : List Int) (k : Nat) : Int → Option Int := fun y => if y ∈ (cy.take k).map (· / 2) then some 0 else E y

theorem take_next {l : List Int} {k : Nat} (hk : k < l.length) : l.take (k + 1) = l.take k ++ [l.getD k 0] := by
  rw [List.take_succ_eq_append_getElem hk]
  simp [List.getD, hk]
theorem vside_zero (S : Int → Option Int) (turn : List (List Int)) (p : Pt) : vside S turn p 0 = fun _ => none := by funext y; simp [vside]
theorem vside_succ {S : Int → Option Int} {turn : List (List Int)} {p : Pt} {k : Nat} (hk : k < p.v.length) : (fun y => if y = p.v.getD k 0 then some ((S (seat turn (p.v.getD k 0))).getD 0) else vside S turn p k y) = vside S turn p (k + 1) := by
  funext y
  unfold vside
  rw [take_next hk]
  by_cases e : y = p.v.getD k 0
  · rw [if_pos e, if_pos (by rw [e]; simp), e]
  · rw [if_neg e]
    by_cases h : y ∈ p.v.take k
    · rw [if_pos h, if_pos (by simp [h])]
    · rw [if_neg h, if_neg (fun q => (List.mem_append.1 q).elim h fun z => e (List.mem_singleton.1 z))]
theorem vside_new {S : Int → Option Int} {turn : List (List Int)} {p : Pt} {k : Nat} (hn : p.v.Nodup) (hk : k < p.v.length) : vside S turn p k (p.v.getD k 0) = none := by
  unfold vside
  rw [if_neg]
  intro h
  have h1 := hn.sublist (List.take_sublist (k + 1) p.v)
  rw [take_next hk, List.nodup_append] at h1
  exact h1.2.2 _ h _ (by simp) rfl
theorem eside_zero (S : Int → Option Int) (p : Pt) : eside S p 0 = fun _ => none := by funext y; simp [eside]
theorem eside_succ {S : Int → Option Int} {p : Pt} {k : Nat} (hk : k < p.e.length) : (fun y => if y = p.e.getD k 0 then some ((S (2 * p.e.getD k 0)).getD 0) else eside S p k y) = eside S p (k + 1) := by
  funext y
  unfold eside
  rw [take_next hk]
  by_cases e : y = p.e.getD k 0
  · rw [if_pos e, if_pos (by rw [e]; simp), e]
  · rw [if_neg e]
    by_cases h : y ∈ p.e.take k
    · rw [if_pos h, if_pos (by simp [h])]
    · rw [if_neg h, if_neg (fun q => (List.mem_append.1 q).elim h fun z => e (List.mem_singleton.1 z))]
theorem eside_new {S : Int → Option Int} {p : Pt} {k : Nat} (hn : p.e.Nodup) (hk : k < p.e.length) : eside S p k (p.e.getD k 0) = none := by
  unfold eside
  rw [if_neg]
  intro h
  have h1 := hn.sublist (List.take_sublist (k + 1) p.e)
  rw [take_next hk, List.nodup_append] at h1
  exact h1.2.2 _ h _ (by simp) rfl
theorem von_zero (g : Gr) (V : Int → Option Int) (cy : List Int) : von g V cy 0 = V := by funext y; simp [von]
theorem von_succ {g : Gr} {V : Int → Option Int} {cy : List Int} {k : Nat} (hk : k < cy.length) : (fun y => if y = g.tail (cy.getD k 0) then some 0 else von g V cy k y) = von g V cy (k + 1) := by
  funext y
  unfold von
  rw [take_next hk, List.map_append]
  by_cases e : y = g.tail (cy.getD k 0)
  · rw [if_pos e, if_pos (by rw [e]; simp)]
  · rw [if_neg e]
    by_cases h : y ∈ (cy.take k).map g.tail
    · rw [if_pos h, if_pos (List.mem_append.2 (Or.inl h))]
    · rw [if_neg h, if_neg (fun q => (List.mem_append.1 q).elim h fun z => e (by simpa using z))]
theorem eon_zero (E : Int → Option Int) (cy : List Int) : eon E cy 0 = E := by funext y; simp [eon]
theorem eon_succ {E : Int → Option Int} {cy : List Int} {k : Nat} (hk : k < cy.length) : (fun y => if y = cy.getD k 0 / 2 then some 0 else eon E cy k y) = eon E cy (k + 1) := by
  funext y
  unfold eon
  rw [take_next hk, List.map_append]
  by_cases e : y = cy.getD k 0 / 2
  · rw [if_pos e, if_pos (by rw [e]; simp)]
  · rw [if_neg e]
    by_cases h : y ∈ (cy.take k).map (· / 2)
    · rw [if_pos h, if_pos (List.mem_append.2 (Or.inl h))]
    · rw [if_neg h, if_neg (fun q => (List.mem_append.1 q).elim h fun z => e (by simpa using z))]
end Go.Proofs.Ytfgbkpbakignhaa.Plain
