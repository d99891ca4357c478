/- Turns, told vertex by vertex: as many darts as leave it, each once, all of them. No program here. -/
import Derived.Test.YtfgbkpbakignhaaVTake
import Derived.Test.YtfgbkpbakignhaaVSetsC
import Derived.Test.YtfgbkpbakignhaaVLeav
import Derived.Test.YtfgbkpbakignhaaVBfs
namespace Go.Proofs.Ytfgbkpbakignhaa.Plain

/-- The darts of a part that leave a vertex. -/
def dartsAt (g : Gr) (p : Pt) (v : Int) : List Int := p.darts.filter fun d => decide (g.tail d = v)
/-- The same, of the first k darts. -/
def dartsTo (g : Gr) (p : Pt) (v : Int) (k : Nat) : List Int := (p.darts.take k).filter fun d => decide (g.tail d = v)
theorem dartsTo_zero (g : Gr) (p : Pt) (v : Int) : dartsTo g p v 0 = [] := by simp [dartsTo]
theorem dartsTo_all (g : Gr) (p : Pt) (v : Int) : dartsTo g p v p.darts.length = dartsAt g p v := by unfold dartsTo dartsAt; rw [List.take_length]
theorem dartsTo_next {g : Gr} {p : Pt} {v : Int} {k : Nat} (hk : k < p.darts.length) : dartsTo g p v (k + 1) = if g.tail (p.darts.getD k 0) = v then dartsTo g p v k ++ [p.darts.getD k 0] else dartsTo g p v k := by
  unfold dartsTo
  rw [take_snoc hk, List.filter_append]
  by_cases h : g.tail (p.darts.getD k 0) = v
  · rw [List.filter_cons_of_pos (by simpa using h), if_pos h]; rfl
  · rw [List.filter_cons_of_neg (by simpa using h), if_neg h]; simp
theorem dartsTo_len (g : Gr) (p : Pt) (v : Int) (k : Nat) : (dartsTo g p v k).length ≤ k :=
  Nat.le_trans (List.length_filter_le _ _) (by rw [List.length_take]; omega)
theorem mem_dartsAt {g : Gr} {p : Pt} {v d : Int} : d ∈ dartsAt g p v ↔ d ∈ p.darts ∧ g.tail d = v := by simp [dartsAt]
theorem dartsAt_nodup {g : Gr} {p : Pt} (h : p.e.Nodup) (v : Int) : (dartsAt g p v).Nodup := (darts_nodup h).filter _
theorem darts_getD {p : Pt} {i : Nat} (hi : i < p.e.length) (s : Nat) (hs : s < 2) : p.darts.getD (2 * i + s) 0 = 2 * p.e.getD i 0 + s := by
  obtain ⟨v, e⟩ := p
  unfold Pt.darts
  dsimp only at hi ⊢
  induction e generalizing i with
  | nil => simp at hi
  | cons a l ih =>
    rw [List.flatMap_cons]
    cases i with
    | zero => rcases (show s = 0 ∨ s = 1 by omega) with rfl | rfl <;> simp [List.getD]
    | succ i =>
      have := ih (i := i) (by simpa using hi)
      rw [show 2 * (i + 1) + s = (2 * i + s) + 2 by omega]
      simpa [List.getD] using this

/-- Is a vertex's turn right? -/
def rowOk (g : Gr) (p : Pt) (turn : List (List Int)) (v : Int) : Prop := (dartsAt g p v).length = (turnAt turn v).length ∧ (turnAt turn v).Nodup ∧ ∀ d ∈ dartsAt g p v, d ∈ turnAt turn v

theorem perm_of_sub {l m : List Int} (hl : l.Nodup) (h : ∀ x ∈ l, x ∈ m) (hlen : l.length = m.length) : ∀ x ∈ m, x ∈ l := by
  intro x hx
  refine Classical.byContradiction fun q => ?_
  have h1 := len_le_of_sub (l := x :: l) (m := m) (List.nodup_cons.2 ⟨q, hl⟩) (fun y hy => by rcases List.mem_cons.1 hy with r | r; exact r ▸ hx; exact h y r)
  simp at h1
  omega

theorem TurnsOk.rowOk {g : Gr} {p : Pt} {turn : List (List Int)} (hp : PartOk g p) (h : TurnsOk g p turn) {v : Int} (h0 : 0 ≤ v) (hn : v < g.n) : rowOk g p turn v := by
  have hm : ∀ d, d ∈ dartsAt g p v ↔ d ∈ turnAt turn v := fun d => by rw [mem_dartsAt, h.mem v h0 hn]
  exact ⟨((List.perm_ext_iff_of_nodup (dartsAt_nodup hp.en v) (h.nodup v)).2 hm).length_eq, h.nodup v, fun d hd => (hm d).1 hd⟩

theorem turns_of_rows {g : Gr} {p : Pt} {turn : List (List Int)} (hp : PartOk g p) (hl : (turn.length : Int) = g.n) (h : ∀ v : Nat, (v : Int) < g.n → Plain.rowOk g p turn v) : TurnsOk g p turn := by
  have hrow : ∀ v : Int, 0 ≤ v → v < g.n → Plain.rowOk g p turn v := fun v h0 hn => by
    have := h v.toNat (by omega)
    rwa [show ((v.toNat : Nat) : Int) = v by omega] at this
  refine ⟨hl, fun v => ?_, fun v h0 hn d => ?_⟩
  · by_cases h1 : v.toNat < turn.length
    · have := (hrow (v.toNat : Nat) (by omega) (by omega)).2.1
      unfold turnAt at this ⊢
      rwa [Int.toNat_natCast] at this
    · unfold turnAt
      rw [List.getD, List.getElem?_eq_none (by omega)]
      simp
  · obtain ⟨h1, -, h3⟩ := hrow v h0 hn
    rw [← mem_dartsAt]
    exact ⟨fun hd => perm_of_sub (dartsAt_nodup hp.en v) h3 h1 d hd, h3 d⟩

theorem Pt.edge_in {g : Gr} {p : Pt} (h : p.err g = 0) {e : Int} (he : e ∈ p.e) : 0 ≤ e ∧ e < g.e.length := by
  obtain ⟨i, hi, rfl⟩ := mem_getD he
  have := rises_at (Pt.err_ok h).2.2.1 hi
  exact ⟨this.1, this.2.1⟩
/-- A dart of a right part, as a number. -/
theorem Pt.dart_nat {g : Gr} {p : Pt} (h : p.err g = 0) {d : Int} (hd : d ∈ p.darts) : ∃ n : Nat, d = n ∧ n / 2 < g.e.length ∧ n < 2048 := by
  have h1 := edge_in h (mem_darts.1 hd)
  have h2 := Gr.err_ok (Pt.err_ok h).1
  exact ⟨d.toNat, by omega, by omega, by omega⟩

theorem turnErr_len {g : Gr} {p : Pt} {turn : List (List Int)} (h : p.err g = 0) (hl : (turn.length : Int) ≠ g.n) : turnErr g p turn = 5 := turnErr_bad h fun k => hl k.len
theorem turnErr_row {g : Gr} {p : Pt} {turn : List (List Int)} (h : p.err g = 0) {v : Nat} (hv : (v : Int) < g.n) (hr : ¬ Plain.rowOk g p turn v) : turnErr g p turn = 5 := turnErr_bad h fun k => hr (k.rowOk (Pt.ok_of_err h) (by omega) hv)
end Go.Proofs.Ytfgbkpbakignhaa.Plain
/- The drawing of a triangle and a lone vertex, plainly. No program here. -/
namespace Go.Proofs.Ytfgbkpbakignhaa.Plain
def g1 : Gr := ⟨4, [(0, 1), (1, 2), (2, 0)]⟩
def p1 : Pt := ⟨[0, 1, 2, 3], [0, 1, 2]⟩
def t1 : List (List Int) := [[0, 5], [1, 2], [3, 4], []]
def w1 : List Face := [(-4, []), (0, [0, 2, 4]), (1, [1, 5, 3])]

theorem err1 : p1.err g1 = 0 := by decide
theorem part1 : PartOk g1 p1 := Pt.ok_of_err err1
theorem near1 {u w : Int} (h : Near g1 p1 u w) : (u = 0 ∧ w = 1) ∨ (u = 1 ∧ w = 2) ∨ (u = 2 ∧ w = 0) ∨ (u = 1 ∧ w = 0) ∨ (u = 2 ∧ w = 1) ∨ (u = 0 ∧ w = 2) := by
  obtain ⟨e, he, h⟩ := h
  simp only [p1, List.mem_cons, List.not_mem_nil, or_false] at he
  have q0 : g1.at 0 = (0, 1) := rfl
  have q1 : g1.at 1 = (1, 2) := rfl
  have q2 : g1.at 2 = (2, 0) := rfl
  rcases he with rfl | rfl | rfl
  · rw [q0] at h; simp only [Prod.mk.injEq] at h; omega
  · rw [q1] at h; simp only [Prod.mk.injEq] at h; omega
  · rw [q2] at h; simp only [Prod.mk.injEq] at h; omega
theorem near01 : Near g1 p1 0 1 := ⟨0, by decide, Or.inl rfl⟩
theorem near02 : Near g1 p1 0 2 := ⟨2, by decide, Or.inr rfl⟩
theorem come1 (u : Int) : u ∈ ([0, 1, 2] : List Int) ↔ Come g1 p1 (-1) 0 u := by
  refine come_iff (by decide) (fun u hu => ?_) (fun u hu w hw _ => ?_) u
  · simp only [List.mem_cons, List.not_mem_nil, or_false] at hu
    rcases hu with rfl | rfl | rfl
    · exact .here
    · exact Come.step .here near01 (by decide)
    · exact Come.step .here near02 (by decide)
  · have := near1 hw
    simp only [List.mem_cons, List.not_mem_nil, or_false]
    omega
theorem come3 (u : Int) : u ∈ ([3] : List Int) ↔ Come g1 p1 (-1) 3 u := by
  refine come_iff (by decide) (fun u hu => ?_) (fun u hu w hw _ => ?_) u
  · rw [List.mem_singleton.1 hu]; exact .here
  · have := near1 hw
    rw [List.mem_singleton.1 hu] at this
    omega
theorem comp1 : comp g1 p1 0 = [0, 1, 2] := by
  have : comp g1 p1 0 = p1.v.filter fun u => decide (u ∈ ([0, 1, 2] : List Int)) := by
    unfold comp
    exact List.filter_congr fun u _ => by rw [decide_eq_decide]; exact (come1 u).symm
  rw [this]; decide
theorem comp3 : comp g1 p1 3 = [3] := by
  have : comp g1 p1 3 = p1.v.filter fun u => decide (u ∈ ([3] : List Int)) := by
    unfold comp
    exact List.filter_congr fun u _ => by rw [decide_eq_decide]; exact (come3 u).symm
  rw [this]; decide
theorem roots1 : roots g1 p1 = [0, 3] := by
  have h1 : ∀ v : Int, v ∈ p1.v → ((∀ u ∈ p1.v, Come g1 p1 (-1) v u → v ≤ u) ↔ v = 0 ∨ v = 3) := by
    intro v hv
    constructor
    · intro h
      simp only [p1, List.mem_cons, List.not_mem_nil, or_false] at hv
      rcases hv with rfl | rfl | rfl | rfl
      · exact Or.inl rfl
      · have := h 0 (by decide) (((come1 1).1 (by decide)).symm (by decide)).2; omega
      · have := h 0 (by decide) (((come1 2).1 (by decide)).symm (by decide)).2; omega
      · exact Or.inr rfl
    · rintro (rfl | rfl)
      · intro u hu _
        simp only [p1, List.mem_cons, List.not_mem_nil, or_false] at hu
        omega
      · intro u _ hc
        have := (come3 u).2 hc
        simp only [List.mem_cons, List.not_mem_nil, or_false] at this
        omega
  have : roots g1 p1 = p1.v.filter fun v => decide (v = 0 ∨ v = 3) := by
    unfold roots
    exact List.filter_congr fun u hu => by rw [decide_eq_decide]; exact h1 u hu
  rw [this]; decide
theorem turns1 : TurnsOk g1 p1 t1 := by
  refine turns_of_rows part1 rfl fun v hv => ?_
  have hv : (v : Int) < 4 := hv
  rcases (show v = 0 ∨ v = 1 ∨ v = 2 ∨ v = 3 by omega) with rfl | rfl | rfl | rfl <;> (unfold rowOk; decide)
theorem trk1 : Trk g1 p1 t1 [(0, [0, 2, 4]), (1, [1, 5, 3])] p1.darts := by
  refine ⟨⟨fun c hc => ?_, by decide⟩, by decide, fun f hf => ?_, by decide, fun f hf => ?_, by decide⟩
  · simp only [List.map_cons, List.map_nil, List.mem_cons, List.not_mem_nil, or_false] at hc
    rcases hc with rfl | rfl
    · exact ⟨by decide, by decide, show nextDart g1 t1 4 = 0 by decide⟩
    · exact ⟨by decide, by decide, show nextDart g1 t1 3 = 1 by decide⟩
  · simp only [List.mem_cons, List.not_mem_nil, or_false] at hf
    rcases hf with rfl | rfl
    · exact ⟨_, rfl⟩
    · exact ⟨_, rfl⟩
  · simp only [List.mem_cons, List.not_mem_nil, or_false] at hf
    rcases hf with rfl | rfl
    · exact ⟨[], [1, 2, 3, 4, 5], by decide, by decide⟩
    · exact ⟨[0], [2, 3, 4, 5], by decide, by decide⟩
theorem walks1 : WalksOk g1 p1 t1 w1 := trk1.walks part1
theorem walksOf1 : walksOf g1 p1 t1 = w1 := (walks1.eq err1).symm
theorem turnErr1 : turnErr g1 p1 t1 = 0 := turnErr_ok err1 turns1
theorem flat1 : Flat g1 p1 t1 := by
  intro r hr
  rw [walksOf1]
  rw [roots1] at hr
  unfold genusAt
  simp only [List.mem_cons, List.not_mem_nil, or_false] at hr
  rcases hr with rfl | rfl
  · rw [comp1]; decide
  · rw [comp3]; decide
theorem flatErr1 : flatErr g1 p1 t1 = 0 := flatErr_ok turnErr1 flat1
theorem pieceIx10 : pieceIx g1 p1 0 = 0 := pieceIx_eq part1 (by rw [roots1]; decide) (by rw [roots1]; show (0 : Int) ∈ comp g1 p1 0; rw [comp1]; decide)
theorem pieceIx11 : pieceIx g1 p1 1 = 0 := pieceIx_eq part1 (by rw [roots1]; decide) (by rw [roots1]; show (1 : Int) ∈ comp g1 p1 0; rw [comp1]; decide)
theorem pieceIx13 : pieceIx g1 p1 3 = 1 := pieceIx_eq part1 (by rw [roots1]; decide) (by rw [roots1]; show (3 : Int) ∈ comp g1 p1 3; rw [comp3]; decide)
theorem owner14 : ownerOf g1 p1 w1 (-4) = some 1 := by
  have : ownerOf g1 p1 w1 (-4) = some ((pieceIx g1 p1 3 : Nat) : Int) := rfl
  rw [this, pieceIx13]; rfl
theorem owner10 : ownerOf g1 p1 w1 0 = some 0 := by
  have : ownerOf g1 p1 w1 0 = some ((pieceIx g1 p1 0 : Nat) : Int) := rfl
  rw [this, pieceIx10]; rfl
theorem owner11 : ownerOf g1 p1 w1 1 = some 0 := by
  have : ownerOf g1 p1 w1 1 = some ((pieceIx g1 p1 1 : Nat) : Int) := rfl
  rw [this, pieceIx11]; rfl
theorem run1 {k : Int} (hk : k = 0 ∨ k = 1) : sameRun (ownerOf g1 p1 w1) [[-4, k]] (St.new (upTo 2), []) 1 = some ((St.new (upTo 2)).join 1 0, [-4, k]) := by
  have ho : ownerOf g1 p1 w1 k = some 0 := by rcases hk with rfl | rfl; exact owner10; exact owner11
  refine sameRun_next (c := (St.new (upTo 2), [])) rfl ?_ ?_
  · rcases hk with rfl | rfl <;> decide
  · refine listRun_next (c := (St.new (upTo 2), [-4])) (k := 1) ?_ ?_
    · refine listRun_next (c := (St.new (upTo 2), [])) (k := 0) rfl ?_
      exact keyStep_first (a := 1) owner14 (by simp)
    · refine keyStep_join (a := 0) (b := 1) (by decide) ho ?_ ?_ ?_ (by decide)
      · rcases hk with rfl | rfl <;> decide
      · rcases hk with rfl | rfl <;> decide
      · show (ownerOf g1 p1 w1 (-4)).getD 0 = 1
        rw [owner14]; rfl
theorem plan1w {k : Int} (hk : k = 0 ∨ k = 1) : planErr g1 p1 t1 [[-4, k]] = 0 := by
  rw [planErr_run flatErr1, roots1, walksOf1]
  show (match sameRun (ownerOf g1 p1 w1) [[-4, k]] (St.new (upTo 2), []) 1 with | none => (7 : Int) | some c => if 1 < c.1.count then 7 else 0) = 0
  rw [run1 hk]
  show (if 1 < ((St.new (upTo 2)).join 1 0).count then (7 : Int) else 0) = 0
  decide
end Go.Proofs.Ytfgbkpbakignhaa.Plain
/- the document's answer for package walk: the contract of Sub. Conditions: a right part, a list that lie in memory and read so. -/
namespace Go.Proofs.Ytfgbkpbakignhaa
open Go.RowKit Go.Maps

namespace Plain
def subV (p : Pt) (l : List Int) (k : Nat) : List Int := (p.v.take k).filter fun v => decide (v ∈ l)
def subE (g : Gr) (p : Pt) (l : List Int) (k : Nat) : List Int := (p.e.take k).filter fun e => decide ((g.at e).1 ∈ l) && decide ((g.at e).2 ∈ l)
theorem filter_take_succ (f : Int → Bool) {l : List Int} {k : Nat} (hk : k < l.length) : (l.take (k + 1)).filter f = (l.take k).filter f ++ (if f (l.getD k 0) then [l.getD k 0] else []) := by
  have e : l.getD k 0 = l[k] := by simp [List.getD, hk]
  rw [List.take_succ_eq_append_getElem hk, List.filter_append, e]
  congr 1
  rw [List.filter_cons, List.filter_nil]
theorem sub_eq (g : Gr) (p : Pt) (l : List Int) : p.sub g l = ⟨subV p l p.v.length, subE g p l p.e.length⟩ := by
  unfold Pt.sub subV subE
  rw [List.take_length, List.take_length]
theorem subV_le (p : Pt) (l : List Int) (k : Nat) : (subV p l k).length ≤ k := by
  unfold subV
  exact Nat.le_trans (List.length_filter_le _ _) (by rw [List.length_take]; omega)
end Plain

/-- The variable at ob holds a part whose rows are the call's own. -/
def OutAt (w : World) (B ob : Nat) (V E : List Int) : Prop := ∃ v1 v2, w.heap[ob]? = some (.cells #[v1, v2] 27 (0, 0)) ∧ RowAt w B v1 V ∧ RowAt w B v2 E ∧ (∀ j ∈ foot v1, j ∉ foot v2) ∧ B ≤ ob

theorem OutAt.fresh {w w' : World} {B ob : Nat} {V E : List Int} (h : OutAt w B ob V E) (hc : Chg [] w w') : OutAt w' B ob V E := by
  obtain ⟨v1, v2, h1, h2, h3, h4, h5⟩ := h
  exact ⟨v1, v2, hc.heap h1 (by simp), h2.chg hc (by simp), h3.chg hc (by simp), h4, h5⟩

end Go.Proofs.Ytfgbkpbakignhaa
