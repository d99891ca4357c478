/- the law SetsPlays: the program's object and the document's answer beside each other. Conditions: an object and a value that stand in memory, apart from each other. -/
import Derived.Test.YtgepchafbeifeaaRefD
import Derived.Test.YtgepchafbeifeaaJoinW
namespace Go.Proofs.Ytgepchafbeifeaa
open Go.RowKit Go.Maps

theorem St.Ok.up {s : St} (h : s.Ok) : Up s.grp s.grp := ⟨rfl, fun i hi => ⟨h.le i hi, by
  have := h.own i hi
  simp only [St.hd] at this
  split
  · assumption
  · exact this.symm⟩⟩

theorem St.ok_nil : St.Ok ⟨[], []⟩ := ⟨rfl, List.nodup_nil, by simp, by simp⟩

theorem St.Ok.put {s : St} (h : s.Ok) (x : Int) : (s.put x).Ok := by
  by_cases hx : x ∈ s.all
  · rwa [St.put_in hx]
  · rw [St.put_new hx]
    have hu := h.up.put
    have hl := h.len
    refine ⟨by simp [hl], by rw [List.nodup_append]; exact ⟨h.nodup, by simp, by intro a ha b hb; simp at hb; subst hb; rintro rfl; exact hx ha⟩, fun i hi => ?_, fun i hi => ?_⟩
    · have := hu.le i (by simpa using hi); simpa [St.hd, hl] using this.1
    · have := hu.own (i := i) (by simpa using hi); simpa [St.hd, hl] using this

theorem St.Ok.join {s : St} (h : s.Ok) (x y : Int) : (s.join x y).Ok := by
  have ht := (h.put x).put y
  have hm := s.put_put_mem x y
  show St.Ok ⟨((s.put x).put y).all, relabel ((s.put x).put y).grp (((s.put x).put y).hd (((s.put x).put y).all.idxOf x)) (((s.put x).put y).hd (((s.put x).put y).all.idxOf y))⟩
  generalize (s.put x).put y = t at *
  have hi := ht.hd_lt hm.1
  have hj := ht.hd_lt hm.2
  have ei := ht.own (t.all.idxOf x) (by rw [← ht.len]; exact List.idxOf_lt_length_iff.2 hm.1)
  have ej := ht.own (t.all.idxOf y) (by rw [← ht.len]; exact List.idxOf_lt_length_iff.2 hm.2)
  generalize t.hd (t.all.idxOf x) = a at *
  generalize t.hd (t.all.idxOf y) = b at *
  by_cases hab : a = b
  · subst hab
    rw [relabel_self]
    exact ht
  · have hu := ht.up.join (i := a) (j := b) (by rw [← ht.len]; exact hi) (by rw [← ht.len]; exact hj) ei ej hab
    have hl : (relabel t.grp a b).length = t.grp.length := by simp [relabel]
    refine ⟨by simp only [hl, ht.len], ht.nodup, fun i hi => ?_, fun i hi => ?_⟩
    · exact (hu.le i (by simp only [hl] at hi; simpa using hi)).1
    · exact hu.own (by simp only [hl] at hi; simpa using hi)

theorem St.new_ok (l : List Int) : (St.new l).Ok := by
  have : ∀ (l : List Int) (s : St), s.Ok → (l.foldl St.put s).Ok := by
    intro l
    induction l with
    | nil => intro s h; exact h
    | cons x r ih => intro s h; exact ih _ (h.put x)
  exact this l _ St.ok_nil

/-- Since w: the object at pb reads as s; the variable at mb holds the document's answer, which reads as t. -/
def Play (w : World) (pb mb : Nat) (s t : St) (wr : World) : Prop :=
  ∃ own va vg, SetsObj wr pb own s ∧ Chg [] w wr ∧ (∀ j ∈ own, w.heap.size ≤ j) ∧ wr.heap[mb]? = some (.cells #[va, vg] 37 (0, 0)) ∧ RefAt wr w.heap.size (.agg #[va, vg]) t ∧
    (∀ b ∈ foot (.agg #[va, vg]), b ∉ own) ∧ w.heap.size ≤ mb ∧ mb ∉ own

theorem Play.drew {w wr : World} {pb mb : Nat} {s t : St} (h : Play w pb mb s t wr) : Play w pb mb s t wr.drew := by
  obtain ⟨own, va, vg, h1, h2, h3, h4, h5, h6, h7, h8⟩ := h
  exact ⟨own, va, vg, h1.chg (Chg.refl [] wr).drew (by simp), h2.drew, h3, h4, h5.fresh (Chg.refl [] wr).drew, h6, h7, h8⟩

theorem Play.chg {w wr : World} {pb mb : Nat} {s t : St} (h : Play w pb mb s t wr) : Chg [] w wr := by obtain ⟨own, va, vg, h1, h2, -⟩ := h; exact h2
theorem Play.ok {w wr : World} {pb mb : Nat} {s t : St} (h : Play w pb mb s t wr) : s.Ok := by obtain ⟨own, va, vg, h1, -⟩ := h; exact h1.ok

theorem SetsObj.low {w : World} {pb : Nat} {own : List Nat} {s : St} (h : SetsObj w pb own s) : ∀ j ∈ own, j < w.heap.size := by
  obtain ⟨mb, tv, uv, up, h, rfl⟩ := h
  intro j hj
  simp only [SetsAt.blocks, List.mem_append, List.mem_cons, List.not_mem_nil, or_false] at hj
  rcases hj with ((rfl | rfl) | q) | q
  · exact (Array.getElem?_eq_some_iff.1 h.cells).1
  · exact h.map.lt
  · exact (h.things.lt j (by simpa using q)).2
  · exact (h.ups.lt j (by simpa using q)).2

/-- The program's step. -/
theorem Play.turn {w wr w' : World} {pb mb : Nat} {t s' : St} {own : List Nat} {va vg : Value} (h2 : Chg [] w wr) (h3 : ∀ j ∈ own, w.heap.size ≤ j) (h4 : wr.heap[mb]? = some (.cells #[va, vg] 37 (0, 0))) (h5 : RefAt wr w.heap.size (.agg #[va, vg]) t)
    (h6 : ∀ b ∈ foot (.agg #[va, vg]), b ∉ own) (h7 : w.heap.size ≤ mb) (h8 : mb ∉ own) (ht : Turn wr pb own w' s') : Play w pb mb s' t w' := by
  obtain ⟨own', k1, k2, k3⟩ := ht
  refine ⟨own', va, vg, k1, h2.trans k2 (fun j hj => Or.inr (h3 j hj)), fun j hj => ?_, k2.heap h4 h8, h5.chg k2 h6, fun b hb hb' => ?_, h7, fun hb => ?_⟩
  · rcases k3 j hj with q | q
    · exact h3 j q
    · have := h2.size; omega
  · rcases k3 b hb' with q | q
    · exact h6 b hb q
    · have := (firm_ref w.heap.size t).2 _ _ h5 b hb; omega
  · rcases k3 mb hb with q | q
    · exact h8 q
    · have := (Array.getElem?_eq_some_iff.1 h4).1; omega

/-- The document's step: its answer's value v' is laid into the variable. -/
theorem Play.laid {w wr w1 w2 : World} {pb mb : Nat} {s t t' : St} {va vg va' vg' : Value} {own : List Nat} (h1 : SetsObj wr pb own s) (h2 : Chg [] w wr) (h3 : ∀ j ∈ own, w.heap.size ≤ j) (h4 : wr.heap[mb]? = some (.cells #[va, vg] 37 (0, 0)))
    (h6 : ∀ b ∈ foot (.agg #[va, vg]), b ∉ own) (h7 : w.heap.size ≤ mb) (h8 : mb ∉ own) (hr : RefAt w1 w.heap.size (.agg #[va', vg']) t') (hc : Chg [] wr w1) (hf : ∀ b ∈ foot (.agg #[va', vg']), b ∈ foot (.agg #[va, vg]) ∨ wr.heap.size ≤ b)
    (hc2 : Chg [mb] w1 w2) (hl : w2.heap[mb]? = some (.cells #[va', vg'] 37 (0, 0))) : Play w pb mb s t' w2 := by
  have hm1 := hc.heap h4 (by simp)
  have hlow := h1.low
  have ho : ∀ b ∈ foot (.agg #[va', vg']), b ∉ own := fun b hb hbo => by
    rcases hf b hb with q | q
    · exact h6 b q hbo
    · have := hlow b hbo; omega
  refine ⟨own, va', vg', (h1.chg hc (by simp)).chg hc2 (fun b hb => by simp; rintro rfl; exact h8 hb), (h2.trans hc (by simp)).trans hc2 (fun j hj => Or.inr (by simp at hj; omega)), h3, hl, hr.chg hc2 (fun b hb => ?_), ho, h7, h8⟩
  obtain ⟨va2, vg2, e, r1, r2⟩ := hr
  simp only [Value.agg.injEq, Array.mk.injEq, List.cons.injEq, and_true] at e
  obtain ⟨rfl, rfl⟩ := e
  simp only [foot, List.flatMap_cons, List.flatMap_nil, List.append_nil, List.mem_append] at hb
  rcases hb with q | q
  · simpa using r1.ne hm1 b q
  · simpa using r2.ne hm1 b q

/-- All that stands in memory, written out. -/
theorem Play.open {w wr : World} {pb mb : Nat} {s t : St} (h : Play w pb mb s t wr) (ht : t.Ok) : ∃ own aa ac ga gc, SetsObj wr pb own s ∧ Chg [] w wr ∧ (∀ j ∈ own, w.heap.size ≤ j) ∧
    wr.heap[mb]? = some (.cells #[.slice aa t.all.length ac, .slice ga t.all.length gc] 37 (0, 0)) ∧ RefAt wr w.heap.size (.agg #[.slice aa t.all.length ac, .slice ga t.all.length gc]) t ∧
    (∀ b ∈ foot (.agg #[.slice aa t.all.length ac, .slice ga t.all.length gc]), b ∉ own) ∧ w.heap.size ≤ mb ∧ mb ∉ own ∧ wr.cell? ⟨mb, 0, none⟩ = some (.slice aa t.all.length ac) ∧ wr.cell? ⟨mb, 1, none⟩ = some (.slice ga t.all.length gc) := by
  obtain ⟨own, va, vg, p1, p2, p3, p4, p5, p6, p7, p8⟩ := h
  obtain ⟨va2, vg2, e, ra, rg⟩ := id p5
  simp only [Value.agg.injEq, Array.mk.injEq, List.cons.injEq, and_true] at e
  obtain ⟨rfl, rfl⟩ := e
  obtain ⟨aa, ac, ea⟩ := ra.shape
  obtain ⟨ga, gc, eg⟩ := rg.shape
  rw [List.length_map, ← ht.len] at eg
  subst ea eg
  exact ⟨own, aa, ac, ga, gc, p1, p2, p3, p4, p5, p6, p7, p8, by rw [cell_of_row _ _ _ _ _ _ p4]; rfl, by rw [cell_of_row _ _ _ _ _ _ p4]; rfl⟩

/-- One call, and all of them. -/
def St.play (s : St) (a : Act3) : St := if a.op % 3 = 0 then s.put a.x else s.join a.x a.y
def St.playAll (s : St) (l : List Act3) : St := l.foldl St.play s

theorem St.playAll_take {s : St} {l : List Act3} {k : Nat} {a : Act3} (h : l[k]? = some a) : s.playAll (l.take (k + 1)) = (s.playAll (l.take k)).play a := by
  obtain ⟨hk, rfl⟩ := List.getElem?_eq_some_iff.1 h
  unfold St.playAll
  rw [List.take_succ_eq_append_getElem hk, List.foldl_append]
  rfl

theorem St.play_len (s : St) (a : Act3) : (s.play a).all.length ≤ s.all.length + 2 := by
  unfold St.play
  split
  · have := (s.len_put a.x).2; omega
  · exact (s.join_len a.x a.y).2

theorem St.playAll_len (l : List Act3) : ∀ s : St, (s.playAll l).all.length ≤ s.all.length + 2 * l.length := by
  induction l with
  | nil => intro s; simp [St.playAll]
  | cons a r ih =>
    intro s
    have := ih (s.play a)
    have := s.play_len a
    simp only [St.playAll, List.foldl_cons, List.length_cons] at *
    omega

theorem St.Ok.play {s : St} (h : s.Ok) (a : Act3) : (s.play a).Ok := by
  unfold St.play
  split
  · exact h.put _
  · exact h.join _ _

theorem St.Ok.playAll (l : List Act3) : ∀ {s : St}, s.Ok → (s.playAll l).Ok := by
  induction l with
  | nil => intro s h; exact h
  | cons a r ih => intro s h; exact ih (h.play a)

end Go.Proofs.Ytgepchafbeifeaa
