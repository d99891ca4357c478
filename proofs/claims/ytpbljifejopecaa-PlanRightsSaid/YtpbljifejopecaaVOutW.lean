/- package face: walks as they are collected in memory. No condition beyond what each law says. -/
import Derived.Test.YtpbljifejopecaaVNest
import Derived.Test.YtpbljifejopecaaVGood
import Derived.Test.YtpbljifejopecaaVTake
namespace Go.Proofs.Ytpbljifejopecaa
open Go.RowKit Go.Maps

/-- Walks as cells: a key, a row of darts. -/
def faceCells (F : List Plain.Face) : List Cell := F.flatMap fun f => [.num f.1, .row f.2]
theorem faceCells_snoc (F : List Plain.Face) (f : Plain.Face) : faceCells (F ++ [f]) = faceCells F ++ [.num f.1, .row f.2] := by simp [faceCells]
theorem faceCells_length (F : List Plain.Face) : (faceCells F).length = F.length * 2 := by
  induction F with
  | nil => rfl
  | cons f F ih => unfold faceCells at ih ⊢; rw [List.flatMap_cons, List.length_append, ih, List.length_cons]; simp; omega

theorem elemWalk : Elem 68 73 (.agg #[.int .i64 0, .slice none 0 0]) 2 32 := ⟨Try.underlying68, by kernel_rfl, rfl, by decide, by decide⟩

/-- The variable at ob holds walks of the call's own; all their blocks lie below T. -/
structure OutW (B : Nat) (wr : World) (ob T : Nat) (F : List Plain.Face) : Prop where
  ex : ∃ ov xs, wr.heap[ob]? = some (.cells #[ov] 68 (0, 0)) ∧ Nest wr B 73 2 ov F.length xs (faceCells F) ∧ (∀ b, ov.ownBlock = some b → b < T) ∧ ∀ k b, k < xs.length → (xs.getD k undef).ownBlock = some b → b < T
  lt : ob < T

theorem OutW.keep {B : Nat} {wr w' : World} {ob T : Nat} {F : List Plain.Face} {own : List Nat} (h : OutW B wr ob T F) (hc : Chg own wr w') (ho : ∀ j ∈ own, T ≤ j ∨ ∀ cs t r, wr.heap[j]? ≠ some (.cells cs t r)) : OutW B w' ob T F := by
  obtain ⟨⟨ov, xs, h1, h2, h3, h4⟩, h5⟩ := h
  refine ⟨⟨ov, xs, hc.heap h1 (fun hm => ?_), h2.chg hc (fun b hb hm => ?_) (fun k b hk hb hm => ?_), h3, h4⟩, h5⟩
  · rcases ho _ hm with q | q
    · omega
    · exact q _ _ _ h1
  · rcases ho _ hm with q | q
    · have := h3 b hb; omega
    · rcases h2.out.2 with ⟨rfl, _⟩ | ⟨g, c, cur, rfl, _, hg, _⟩
      · simp [Value.ownBlock] at hb
      · simp [Value.ownBlock] at hb; subst hb; exact q _ _ _ hg
  · rcases ho _ hm with q | q
    · have := h4 k b hk hb; omega
    · obtain ⟨-, -, cs, r, hh⟩ := h2.kind hk hb
      exact q _ _ _ hh

theorem OutW.fresh {B : Nat} {wr w' : World} {ob T : Nat} {F : List Plain.Face} (h : OutW B wr ob T F) (hc : Chg [] wr w') : OutW B w' ob T F := h.keep hc (by simp)
theorem OutW.up {B : Nat} {wr : World} {ob T T' : Nat} {F : List Plain.Face} (h : OutW B wr ob T F) (hT : T ≤ T') : OutW B wr ob T' F := by
  obtain ⟨⟨ov, xs, h1, h2, h3, h4⟩, h5⟩ := h
  exact ⟨⟨ov, xs, h1, h2, fun b hb => by have := h3 b hb; omega, fun k b hk hb => by have := h4 k b hk hb; omega⟩, by omega⟩

/-- One walk more: what is read, what append leaves, what is stored. -/
theorem OutW.push {B : Nat} {wr : World} {ob T : Nat} {F : List Plain.Face} (h : OutW B wr ob T F) (hB : B ≤ wr.heap.size) (hob : B ≤ ob) (k : Int) {v : Value} {l : List Int} (hv : RowAt wr B v l) (hT : ∀ j ∈ foot v, T ≤ j) (hn : F.length < 1000000000) :
    ∃ ao c g cap w2, wr.cell? ⟨ob, 0, none⟩ = some (.slice ao F.length c) ∧
      (Builtin.append_ #[68, 68] 68 #[.slice ao F.length c, .slice (some ⟨wr.heap.size, 0, none⟩) 1 1]).run Try.prog (wr.alloc (.cells #[.int .i64 k, v] 73)) = .ok (.slice (some ⟨g, 0, none⟩) (F.length + 1) cap) w2 ∧
      w2.cell? ⟨ob, 0, none⟩ = some (.slice ao F.length c) ∧ w2.frozen? ⟨ob, 0, none⟩ = false ∧
      OutW B (w2.setCell ⟨ob, 0, none⟩ (.slice (some ⟨g, 0, none⟩) (F.length + 1) cap)) ob w2.heap.size (F ++ [(k, l)]) ∧
      ∃ own, Chg own wr (w2.setCell ⟨ob, 0, none⟩ (.slice (some ⟨g, 0, none⟩) (F.length + 1) cap)) ∧ ∀ j ∈ own, j = ob ∨ (B ≤ j ∧ ∃ cs r, wr.heap[j]? = some (.cells cs 73 r)) := by
  obtain ⟨⟨ov, xs, h1, h2, h3, h4⟩, h5⟩ := h
  obtain ⟨ao, c, rfl⟩ := h2.shape
  obtain ⟨g, cap, w2, hr, r2, r3, r4⟩ := run_app elemWalk h2.out hB (cs := #[.int .i64 k, v]) rfl (by
    intro u hu
    simp at hu
    rcases hu with rfl | rfl
    · rfl
    · obtain ⟨a', c', e⟩ := hv.shape; rw [e]; rfl) (by omega) (Or.inl rfl) 68
  have hno : (Value.slice ao F.length c).ownBlock ≠ some ob := fun e => owns_other h2.out h1 (by decide) e
  have hb2 := r3.heap h1 (by simpa using hno)
  have hsz := r3.size
  have hxl : xs.length = F.length * 2 := h2.cells
  have hnest := h2.add (w' := w2) (g := g) (cap := cap) (us := [.int .i64 k, v]) (ds := [.num k, .row l]) (by decide) rfl rfl (fun i d hi => by
      rcases i with _ | _ | i
      · simp at hi; subst hi; rfl
      · simp at hi; subst hi; exact hv
      · simp at hi) (fun i j hi hj hne => by
      simp at hi hj
      rcases i with _ | _ | i
      · exact Or.inl rfl
      · rcases j with _ | _ | j
        · cases hq : ([Value.int .i64 k, v].getD 1 undef).ownBlock with
          | none => exact Or.inl rfl
          | some b => exact Or.inr (by simp [Value.ownBlock])
        · omega
        · omega
      · omega) (fun i j b hi hj hb e => by
      simp at hj
      have := h4 i b hi hb
      rcases j with _ | _ | j
      · simp [Value.ownBlock] at e
      · have e' : v.ownBlock = some b := e
        have := hT b (by rw [hv.foot, e']; simp)
        omega
      · omega) r2 r3
  have hset : Chg [ob] w2 (w2.setCell ⟨ob, 0, none⟩ (.slice (some ⟨g, 0, none⟩) (F.length + 1) cap)) := (Chg.refl _ _).setCell (Or.inl (by simp)) _
  have hlen : (F ++ [(k, l)]).length = F.length + 1 := by simp
  have hout : OutW B (w2.setCell ⟨ob, 0, none⟩ (.slice (some ⟨g, 0, none⟩) (F.length + 1) cap)) ob w2.heap.size (F ++ [(k, l)]) := by
    refine ⟨⟨_, xs ++ [.int .i64 k, v], heap_setCell_same hb2 0 _, ?_, ?_, ?_⟩, lt_of_block hb2⟩
    · rw [faceCells_snoc, hlen]
      exact hnest.other hset (fun j hj cs t r hh => by
        simp at hj; subst hj
        rw [hb2] at hh
        simp at hh
        rw [← hh.2.1]
        decide)
    · intro b hb
      exact (hnest.out.lt b hb).2
    · intro i b hi hb
      exact (hnest.kind hi hb).2.1
  refine ⟨ao, c, g, cap, w2, (cell_of_row _ _ 0 _ _ _ h1).trans rfl, hr, (cell_of_row _ _ 0 _ _ _ hb2).trans rfl, free_at hb2 0, hout, ob :: (Value.slice ao F.length c).ownBlock.toList, (r3.mono (fun j hj => Or.inl (by simp [hj]))).trans hset (fun j hj => Or.inl (by simp at hj; simp [hj])), fun j hj => ?_⟩
  rcases List.mem_cons.1 hj with q | q
  · exact Or.inl q
  · refine Or.inr ⟨(h2.out.lt j (by simpa using q)).1, ?_⟩
    rcases h2.out.2 with ⟨e, _⟩ | ⟨g', c', cur, e, _, hg, _⟩
    · rw [e] at q; simp [Value.ownBlock] at q
    · rw [e] at q; simp [Value.ownBlock] at q; subst q; exact ⟨_, _, hg⟩

end Go.Proofs.Ytpbljifejopecaa
