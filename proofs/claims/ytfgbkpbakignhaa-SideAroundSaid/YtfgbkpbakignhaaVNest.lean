/- Slices of structs of the call's own: each cell an int or a row of ints of the call's own. No condition beyond what each law says. -/
import Derived.Test.YtfgbkpbakignhaaVRow
import Derived.Test.YtfgbkpbakignhaaVSums
namespace Go.Proofs.Ytfgbkpbakignhaa
open Go.RowKit Go.Maps

/-- What a cell holds. -/
inductive Cell where
  | num (k : Int)
  | row (l : List Int)

def Cell.At (w : World) (B : Nat) (v : Value) : Cell → Prop
  | num k => v = .int .i64 k
  | row l => RowAt w B v l

theorem Cell.At.chg {w w' : World} {B : Nat} {v : Value} {c : Cell} {own : List Nat} (h : c.At w B v) (hc : Chg own w w') (hn : ∀ b ∈ v.ownBlock.toList, b ∉ own) : c.At w' B v := by
  cases c with
  | num k => exact h
  | row l => exact RowAt.chg h hc hn

theorem Cell.At.base {w : World} {B B' : Nat} {v : Value} {c : Cell} (h : c.At w B' v) (hB : B ≤ B') : c.At w B v := by
  cases c with
  | num k => exact h
  | row l => exact RowAt.base h hB

theorem Cell.At.low {w : World} {B : Nat} {v : Value} {c : Cell} (h : c.At w B v) : ∀ b, v.ownBlock = some b → B ≤ b ∧ b < w.heap.size ∧ ∃ cs r, w.heap[b]? = some (.cells cs 3 r) := by
  intro b hb
  cases c with
  | num k =>
    have h' : v = .int .i64 k := h
    rw [h'] at hb; cases hb
  | row l =>
    have h' : RowAt w B v l := h
    have h1 := h'.low b (by rw [hb]; simp)
    exact ⟨h1.1, h1.2, row_kind h' b (by rw [h'.foot, hb]; simp)⟩

theorem Cell.At.one {w : World} {B : Nat} {v : Value} {c : Cell} (h : c.At w B v) : v.oneCell' = true := by
  cases c with
  | num k =>
    have h' : v = .int .i64 k := h
    rw [h']; rfl
  | row l =>
    obtain ⟨ao, cp, e⟩ := RowAt.shape h
    rw [e]; rfl

/-- ov is a slice of n elements e of sz cells, of the call's own; the cells' values xs hold cs; no two rows of one array. -/
structure Nest (w : World) (B : Nat) (e : TypeId) (sz : Nat) (ov : Value) (n : Nat) (xs : List Value) (cs : List Cell) : Prop where
  out : w.ownsRow B e sz ov n xs
  len : xs.length = cs.length
  cells : xs.length = n * sz
  fits : ∀ (k : Nat) (c : Cell), cs[k]? = some c → c.At w B (xs.getD k undef)
  apart : ∀ k l, k < xs.length → l < xs.length → k ≠ l → (xs.getD k undef).ownBlock = none ∨ (xs.getD k undef).ownBlock ≠ (xs.getD l undef).ownBlock

theorem Nest.nil (w : World) (B : Nat) (e : TypeId) (sz : Nat) : Nest w B e sz (.slice none 0 0) 0 [] [] := ⟨World.ownsRow_nil _ _ _ _, rfl, by simp, by simp, by simp⟩

section
variable {w w' : World} {B n sz : Nat} {e : TypeId} {ov : Value} {xs : List Value} {cs : List Cell}

theorem Nest.fit (h : Nest w B e sz ov n xs cs) {k : Nat} (hk : k < xs.length) : ∃ c : Cell, cs[k]? = some c ∧ c.At w B (xs.getD k undef) := by
  have hk' : k < cs.length := by rw [← h.len]; exact hk
  exact ⟨cs[k], List.getElem?_eq_getElem hk', h.fits k _ (List.getElem?_eq_getElem hk')⟩

/-- Whose blocks these are. -/
theorem Nest.kind (h : Nest w B e sz ov n xs cs) {k b : Nat} (hk : k < xs.length) (hb : (xs.getD k undef).ownBlock = some b) : B ≤ b ∧ b < w.heap.size ∧ ∃ cs r, w.heap[b]? = some (.cells cs 3 r) := by
  obtain ⟨c, -, hc⟩ := h.fit hk
  exact hc.low b hb

theorem Nest.chg {own : List Nat} (h : Nest w B e sz ov n xs cs) (hc : Chg own w w') (h1 : ∀ b, ov.ownBlock = some b → b ∉ own) (h2 : ∀ k b, k < xs.length → (xs.getD k undef).ownBlock = some b → b ∉ own) : Nest w' B e sz ov n xs cs :=
  ⟨owns_chg h.out hc h1, h.len, h.cells, fun k c hk => (h.fits k c hk).chg hc (fun b hb => h2 k b (by rw [h.len]; exact (List.getElem?_eq_some_iff.1 hk).1) (by simpa using hb)), h.apart⟩

theorem Nest.fresh (h : Nest w B e sz ov n xs cs) (hc : Chg [] w w') : Nest w' B e sz ov n xs cs := h.chg hc (by simp) (by simp)

/-- What turns is no row of this kind, nor of ints. -/
theorem Nest.other {own : List Nat} (h : Nest w B e sz ov n xs cs) (hc : Chg own w w') (ho : ∀ j ∈ own, (∀ cs t r, w.heap[j]? = some (.cells cs t r) → t ≠ e ∧ t ≠ 3)) : Nest w' B e sz ov n xs cs := by
  refine h.chg hc (fun b hb hm => ?_) (fun k b hk hb hm => ?_)
  · rcases h.out.2 with ⟨rfl, _⟩ | ⟨g, c, cur, rfl, _, hg, _⟩
    · simp [Value.ownBlock] at hb
    · simp [Value.ownBlock] at hb
      subst hb
      exact (ho _ hm _ _ _ hg).1 rfl
  · obtain ⟨-, -, cs, r, hh⟩ := h.kind hk hb
    exact (ho _ hm _ _ _ hh).2 rfl

theorem Nest.base {B' : Nat} (h : Nest w B' e sz ov n xs cs) (hB : B ≤ B') : Nest w B e sz ov n xs cs :=
  ⟨owns_base h.out hB, h.len, h.cells, fun k c hk => (h.fits k c hk).base hB, h.apart⟩

theorem getD_left {α : Type} {a b : List α} {d : α} {k : Nat} (hk : k < a.length) : (a ++ b).getD k d = a.getD k d := by simp [List.getD, List.getElem?_append_left hk]
theorem getD_right {α : Type} {a b : List α} {d : α} {k : Nat} (hk : a.length ≤ k) : (a ++ b).getD k d = b.getD (k - a.length) d := by simp [List.getD, List.getElem?_append_right hk]

/-- An element more. -/
theorem Nest.add {g cap : Nat} {us : List Value} {ds : List Cell} (h : Nest w B e sz ov n xs cs) (he : e ≠ 3) (hl : us.length = ds.length) (hz : us.length = sz)
    (hu : ∀ (k : Nat) (c : Cell), ds[k]? = some c → c.At w B (us.getD k undef)) (hua : ∀ k l, k < us.length → l < us.length → k ≠ l → (us.getD k undef).ownBlock = none ∨ (us.getD k undef).ownBlock ≠ (us.getD l undef).ownBlock)
    (hap : ∀ k l b, k < xs.length → l < us.length → (xs.getD k undef).ownBlock = some b → (us.getD l undef).ownBlock ≠ some b)
    (hn : w'.ownsRow B e sz (.slice (some ⟨g, 0, none⟩) (n + 1) cap) (n + 1) (xs ++ us)) (hc : Chg ov.ownBlock.toList w w') :
    Nest w' B e sz (.slice (some ⟨g, 0, none⟩) (n + 1) cap) (n + 1) (xs ++ us) (cs ++ ds) := by
  have hlen := h.len
  have hno : ∀ {v : Value} {c : Cell}, c.At w B v → ∀ b ∈ v.ownBlock.toList, b ∉ ov.ownBlock.toList := by
    intro v c hcell b hb hm
    obtain ⟨-, -, cs', r, hh⟩ := hcell.low b (by simpa using hb)
    rcases h.out.2 with ⟨rfl, _⟩ | ⟨g', c', cur, rfl, _, hg, _⟩
    · simp [Value.ownBlock] at hm
    · simp [Value.ownBlock] at hm
      subst hm
      rw [hg] at hh
      simp at hh
      exact he hh.2.1
  refine ⟨hn, by simp [hlen, hl], by rw [List.length_append, h.cells, hz, Nat.add_mul, Nat.one_mul], fun k c hk => ?_, fun k l hk hl' hne => ?_⟩
  · by_cases e1 : k < xs.length
    · rw [getD_left e1]
      rw [List.getElem?_append_left (by omega)] at hk
      exact (h.fits k c hk).chg hc (hno (h.fits k c hk))
    · rw [getD_right (by omega)]
      rw [List.getElem?_append_right (by omega)] at hk
      rw [hlen]
      exact (hu _ c hk).chg hc (hno (hu _ c hk))
  · rw [List.length_append] at hk hl'
    by_cases e1 : k < xs.length
    · rw [getD_left e1]
      by_cases e2 : l < xs.length
      · rw [getD_left e2]
        exact h.apart k l e1 e2 hne
      · rw [getD_right (by omega)]
        cases hq : (xs.getD k undef).ownBlock with
        | none => exact Or.inl rfl
        | some b => exact Or.inr (fun q => hap k _ b e1 (by omega) hq q.symm)
    · rw [getD_right (by omega)]
      by_cases e2 : l < xs.length
      · rw [getD_left e2]
        cases hq : (us.getD (k - xs.length) undef).ownBlock with
        | none => exact Or.inl rfl
        | some b => exact Or.inr (fun q => hap l _ b e2 (by omega) q.symm hq)
      · rw [getD_right (by omega)]
        exact hua _ _ (by omega) (by omega) (by omega)

theorem getD_set' {α : Type} (l : List α) (i : Nat) (v d : α) (j : Nat) (hi : i < l.length) : (l.set i v).getD j d = if j = i then v else l.getD j d := by
  by_cases e : j = i
  · subst e; simp [hi]
  · simp [List.getD, List.getElem?_set_ne (Ne.symm e), e]

/-- A row has been lengthened (w to w'), and its new value is laid into its place. -/
theorem Nest.put {g cap q : Nat} {l m : List Int} {v : Value} (h : Nest w B e sz (.slice (some ⟨g, 0, none⟩) n cap) n xs cs) (he : e ≠ 3) (hq : q < xs.length) (hcell : cs[q]? = some (.row l)) (hr : RowAt w' B v m) (hc : Chg (foot (xs.getD q undef)) w w') (hf : ∀ b ∈ foot v, b ∈ foot (xs.getD q undef) ∨ w.heap.size ≤ b) :
    Nest (w'.setCell ⟨g, q, none⟩ v) B e sz (.slice (some ⟨g, 0, none⟩) n cap) n (xs.set q v) (cs.set q (.row m)) := by
  have hold : RowAt w B (xs.getD q undef) l := h.fits q _ hcell
  rw [hold.foot] at hc hf
  rw [hr.foot] at hf
  obtain ⟨cur0, hg0⟩ : ∃ cur0, w.heap[g]? = some (.cells cur0 e (0, 0)) := by
    rcases h.out.2 with ⟨q, _⟩ | ⟨g', c', cur, q, _, hg, _⟩
    · cases q
    · simp only [Value.slice.injEq, Option.some.injEq, Addr.mk.injEq] at q
      obtain ⟨⟨rfl, -⟩, -⟩ := q
      exact ⟨_, hg⟩
  have hgx : ∀ k, k < xs.length → (xs.getD k undef).ownBlock ≠ some g := by
    intro k hk hb
    obtain ⟨-, -, cs', r, hh⟩ := h.kind hk hb
    rw [hg0] at hh
    simp at hh
    exact he hh.2.1
  have hg1 := hc.heap hg0 (by simpa using hgx q hq)
  have hgv : v.ownBlock ≠ some g := by
    intro hb
    obtain ⟨cs', r, hh⟩ := row_kind hr g (by rw [hr.foot, hb]; simp)
    rw [hg1] at hh
    simp at hh
    exact he hh.2.1
  have hout : w'.ownsRow B e sz (.slice (some ⟨g, 0, none⟩) n cap) n xs := owns_chg h.out hc (fun b hb => by
    simp [Value.ownBlock] at hb
    subst hb
    simpa using hgx q hq)
  have hset : Chg [g] w' (w'.setCell ⟨g, q, none⟩ v) := (Chg.refl _ _).setCell (Or.inl (by simp)) _
  have hs := hout.stored q v
  refine ⟨hs.1, by simp [h.len], by rw [List.length_set]; exact h.cells, fun k c hk => ?_, fun k j hk hj hne => ?_⟩
  · rw [getD_set' _ _ _ _ _ hq]
    by_cases e1 : k = q
    · subst e1
      rw [if_pos rfl]
      rw [List.getElem?_set_self (by rw [← h.len]; exact hq)] at hk
      cases hk
      exact hr.chg hset (fun b hb e2 => hgv (by simp at e2 hb; rw [hb, e2]))
    · rw [if_neg e1]
      rw [List.getElem?_set_ne (Ne.symm e1)] at hk
      have hkl : k < xs.length := by rw [h.len]; exact (List.getElem?_eq_some_iff.1 hk).1
      refine ((h.fits k c hk).chg hc (fun b hb e2 => ?_)).chg hset (fun b hb e2 => hgx k hkl ((Option.mem_toList.1 hb).trans (congrArg _ (List.mem_singleton.1 e2))))
      rcases h.apart k q hkl hq e1 with t | t
      · rw [t] at hb; simp at hb
      · simp at hb e2; exact t (hb.trans e2.symm)
  · rw [List.length_set] at hk hj
    rw [getD_set' _ _ _ _ _ hq, getD_set' _ _ _ _ _ hq]
    by_cases e1 : k = q
    · subst e1
      rw [if_pos rfl, if_neg (Ne.symm hne)]
      cases hb : v.ownBlock with
      | none => exact Or.inl rfl
      | some b =>
        refine Or.inr (fun e2 => ?_)
        rcases hf b (by rw [hb]; simp) with t | t
        · rcases h.apart j k hj hk (Ne.symm hne) with s | s
          · rw [s] at e2; cases e2
          · simp at t; exact s (e2.symm.trans t.symm)
        · have := (h.kind hj e2.symm).2.1
          omega
    · rw [if_neg e1]
      by_cases e2 : j = q
      · subst e2
        rw [if_pos rfl]
        cases hb : (xs.getD k undef).ownBlock with
        | none => exact Or.inl rfl
        | some b =>
          refine Or.inr (fun e3 => ?_)
          rcases hf b (by rw [← e3]; simp) with t | t
          · rcases h.apart k j hk hj hne with s | s
            · rw [s] at hb; cases hb
            · simp at t; exact s (hb.trans t.symm)
          · have := (h.kind hk hb).2.1
            omega
      · rw [if_neg e2]
        exact h.apart k j hk hj hne

/-- The cells, read. -/
theorem Nest.cell {g cap k : Nat} (h : Nest w B e sz (.slice (some ⟨g, 0, none⟩) n cap) n xs cs) (hk : k < xs.length) : w.cell? ⟨g, k, none⟩ = some (xs.getD k undef) := by
  have := h.out.cells (g := g) rfl k (xs.getD k undef) (by simp [List.getD, hk])
  have hadd : (⟨g, 0, none⟩ : Addr).add k = ⟨g, k, none⟩ := by unfold Addr.add; split <;> simp_all
  rwa [hadd] at this

theorem Nest.free {g cap : Nat} (h : Nest w B e sz (.slice (some ⟨g, 0, none⟩) n cap) n xs cs) (k : Nat) : w.frozen? ⟨g, k, none⟩ = false := by
  rcases h.out.2 with ⟨q, _⟩ | ⟨g', c', cur, q, _, hg, _⟩
  · cases q
  · simp only [Value.slice.injEq, Option.some.injEq, Addr.mk.injEq] at q
    obtain ⟨⟨rfl, -⟩, -⟩ := q
    simp [World.frozen?, hg]

theorem Nest.shape (h : Nest w B e sz ov n xs cs) : ∃ ao c, ov = .slice ao n c := owns_shape h.out
theorem Nest.some (h : Nest w B e sz ov n xs cs) (hn : 0 < n) : ∃ g c, ov = .slice (.some ⟨g, 0, none⟩) n c := owns_some h.out hn

theorem Nest.num {k : Nat} {z : Int} (h : Nest w B e sz ov n xs cs) (hc : cs[k]? = Option.some (.num z)) : xs.getD k undef = .int .i64 z := h.fits k _ hc
theorem Nest.row {k : Nat} {l : List Int} (h : Nest w B e sz ov n xs cs) (hc : cs[k]? = Option.some (.row l)) : RowAt w B (xs.getD k undef) l := h.fits k _ hc
end

end Go.Proofs.Ytfgbkpbakignhaa
/- Pieces, vertex by vertex and edge by edge. No program here. -/
namespace Go.Proofs.Ytfgbkpbakignhaa

/-- Pairs of rows, one a thing. -/
def pcs (V E : Int → List Int) (R : List Int) : List Cell := R.flatMap fun r => [.row (V r), .row (E r)]
theorem pcs_length (V E : Int → List Int) : ∀ R : List Int, (pcs V E R).length = R.length * 2
  | [] => rfl
  | r :: R => by
    have := pcs_length V E R
    unfold pcs at this ⊢
    rw [List.flatMap_cons, List.length_append, this, List.length_cons]
    simp only [List.length_cons, List.length_nil]
    omega
theorem pcs_snoc (V E : Int → List Int) (R : List Int) (r : Int) : pcs V E (R ++ [r]) = pcs V E R ++ [.row (V r), .row (E r)] := by simp [pcs]
theorem pcs_cons (V E : Int → List Int) (R : List Int) (r : Int) : pcs V E (r :: R) = .row (V r) :: .row (E r) :: pcs V E R := rfl
theorem pcs_even (V E : Int → List Int) : ∀ (R : List Int) (n : Nat), n < R.length → (pcs V E R)[n * 2]? = some (.row (V (R.getD n 0)))
  | [], n, h => by simp at h
  | r :: R, 0, _ => by rw [pcs_cons]; rfl
  | r :: R, n + 1, h => by
    rw [pcs_cons, show (n + 1) * 2 = n * 2 + 1 + 1 by omega, List.getElem?_cons_succ, List.getElem?_cons_succ, pcs_even V E R n (by simpa using h)]
    rfl
theorem pcs_odd (V E : Int → List Int) : ∀ (R : List Int) (n : Nat), n < R.length → (pcs V E R)[n * 2 + 1]? = some (.row (E (R.getD n 0)))
  | [], n, h => by simp at h
  | r :: R, 0, _ => by rw [pcs_cons]; rfl
  | r :: R, n + 1, h => by
    rw [pcs_cons, show (n + 1) * 2 + 1 = (n * 2 + 1) + 1 + 1 by omega, List.getElem?_cons_succ, List.getElem?_cons_succ, pcs_odd V E R n (by simpa using h)]
    rfl
theorem pcs_congr {V E V' E' : Int → List Int} : ∀ {R : List Int}, (∀ r ∈ R, V r = V' r ∧ E r = E' r) → pcs V E R = pcs V' E' R
  | [], _ => rfl
  | r :: R, h => by rw [pcs_cons, pcs_cons, (h r (by simp)).1, (h r (by simp)).2, pcs_congr fun s hs => h s (by simp [hs])]
theorem pcs_set_even {V V' E : Int → List Int} : ∀ {R : List Int} {n : Nat}, n < R.length → (∀ m, m < R.length → m ≠ n → V' (R.getD m 0) = V (R.getD m 0)) → pcs V' E R = (pcs V E R).set (n * 2) (.row (V' (R.getD n 0)))
  | [], n, h, _ => by simp at h
  | r :: R, 0, _, hm => by
    rw [pcs_cons, pcs_cons]
    show _ :: _ :: _ = _ :: _ :: _
    congr 2
    refine pcs_congr fun s hs => ⟨?_, rfl⟩
    obtain ⟨i, hi, e⟩ := List.getElem_of_mem hs
    have := hm (i + 1) (by simpa using hi) (by omega)
    simpa [List.getD, hi, e] using this
  | r :: R, n + 1, h, hm => by
    have ih := pcs_set_even (V := V) (V' := V') (E := E) (R := R) (n := n) (by simpa using h) (fun m hm1 hm2 => by simpa using hm (m + 1) (by simpa using hm1) (by omega))
    have h0 := hm 0 (by simp) (by omega)
    rw [pcs_cons, pcs_cons, ih, show (n + 1) * 2 = n * 2 + 1 + 1 by omega, List.set_cons_succ, List.set_cons_succ]
    simp at h0
    rw [h0]
    rfl
theorem pcs_set_odd {V E E' : Int → List Int} : ∀ {R : List Int} {n : Nat}, n < R.length → (∀ m, m < R.length → m ≠ n → E' (R.getD m 0) = E (R.getD m 0)) → pcs V E' R = (pcs V E R).set (n * 2 + 1) (.row (E' (R.getD n 0)))
  | [], n, h, _ => by simp at h
  | r :: R, 0, _, hm => by
    rw [pcs_cons, pcs_cons]
    show _ :: _ :: _ = _ :: _ :: _
    congr 2
    refine pcs_congr fun s hs => ⟨rfl, ?_⟩
    obtain ⟨i, hi, e⟩ := List.getElem_of_mem hs
    have := hm (i + 1) (by simpa using hi) (by omega)
    simpa [List.getD, hi, e] using this
  | r :: R, n + 1, h, hm => by
    have ih := pcs_set_odd (V := V) (E := E) (E' := E') (R := R) (n := n) (by simpa using h) (fun m hm1 hm2 => by simpa using hm (m + 1) (by simpa using hm1) (by omega))
    have h0 := hm 0 (by simp) (by omega)
    rw [pcs_cons, pcs_cons, ih, show (n + 1) * 2 + 1 = (n * 2 + 1) + 1 + 1 by omega, List.set_cons_succ, List.set_cons_succ]
    simp at h0
    rw [h0]
    rfl

namespace Plain
open Classical in
/-- The roots among the first k vertices. -/
noncomputable def rootsTo (g : Gr) (p : Pt) (k : Nat) : List Int := (p.v.take k).filter fun v => decide (∀ u ∈ p.v, Come g p (-1) v u → v ≤ u)

theorem rootsTo_zero (g : Gr) (p : Pt) : rootsTo g p 0 = [] := by simp [rootsTo]
theorem rootsTo_all (g : Gr) (p : Pt) : rootsTo g p p.v.length = roots g p := by unfold rootsTo roots; rw [List.take_length]
open Classical in
theorem rootsTo_mem {g : Gr} {p : Pt} {k : Nat} {r : Int} (h : r ∈ rootsTo g p k) : r ∈ roots g p ∧ r ∈ p.v.take k := by
  unfold rootsTo at h
  obtain ⟨h1, h2⟩ := List.mem_filter.1 h
  exact ⟨mem_roots.2 ⟨List.mem_of_mem_take h1, of_decide_eq_true h2⟩, h1⟩
open Classical in
theorem rootsTo_snoc {g : Gr} {p : Pt} {k : Nat} (hk : k < p.v.length) (h : p.v.getD k 0 ∈ roots g p) : rootsTo g p (k + 1) = rootsTo g p k ++ [p.v.getD k 0] := by
  unfold rootsTo
  have e : p.v.take (k + 1) = p.v.take k ++ [p.v.getD k 0] := by rw [List.take_succ_eq_append_getElem hk]; simp [List.getD, hk]
  rw [e, List.filter_append]
  congr 1
  rw [List.filter_cons_of_pos (by exact decide_eq_true (mem_roots.1 h).2), List.filter_nil]
open Classical in
theorem rootsTo_same {g : Gr} {p : Pt} {k : Nat} (hk : k < p.v.length) (h : p.v.getD k 0 ∉ roots g p) : rootsTo g p (k + 1) = rootsTo g p k := by
  unfold rootsTo
  have e : p.v.take (k + 1) = p.v.take k ++ [p.v.getD k 0] := by rw [List.take_succ_eq_append_getElem hk]; simp [List.getD, hk]
  have hv : p.v.getD k 0 ∈ p.v := by simp [List.getD, hk]
  rw [e, List.filter_append, List.filter_cons_of_neg (by
    intro q
    exact h (mem_roots.2 ⟨hv, of_decide_eq_true q⟩)), List.filter_nil, List.append_nil]
theorem rootsTo_len (g : Gr) (p : Pt) (k : Nat) : (rootsTo g p k).length ≤ p.v.length := by
  unfold rootsTo
  exact Nat.le_trans (List.length_filter_le _ _) (by rw [List.length_take]; omega)
theorem getD_mem {l : List Int} {n : Nat} (h : n < l.length) : l.getD n 0 ∈ l := by simp [List.getD, h]

/-- Which piece a vertex is in. -/
def PieceMap (g : Gr) (p : Pt) (R : List Int) (f : Int → Option Int) : Prop := ∀ y i, f y = some i ↔ ∃ n : Nat, i = (n : Int) ∧ n < R.length ∧ Come g p (-1) (R.getD n 0) y

theorem PieceMap.start (g : Gr) (p : Pt) : PieceMap g p [] (fun _ => none) := fun y i => by simp

open Classical in
theorem PieceMap.root {g : Gr} {p : Pt} {k : Nat} {f : Int → Option Int} (hp : PartOk g p) (hr : p.v.Pairwise (· < ·)) (h : PieceMap g p (rootsTo g p k) f) (hk : k < p.v.length) (hf : f (p.v.getD k 0) = none) : p.v.getD k 0 ∈ roots g p := by
  obtain ⟨r, hr1, hc⟩ := root_of (g := g) (fun v hv => (hp.vr v hv).1) (getD_mem hk)
  have hle := (mem_roots.1 hr1).2 _ (getD_mem hk) hc
  by_cases e : r = p.v.getD k 0
  · rw [← e]; exact hr1
  · exfalso
    have hrv := (mem_roots.1 hr1).1
    obtain ⟨j, hj, hje⟩ := mem_getD hrv
    have hjk : j < k := by
      rcases Nat.lt_or_ge j k with q | q
      · exact q
      · exfalso
        rcases Nat.eq_or_lt_of_le q with q | q
        · subst q; exact e hje.symm
        · have := List.pairwise_iff_getElem.1 hr k j hk hj q
          simp [List.getD, hk, hj] at hje hle
          omega
    have hm : r ∈ rootsTo g p k := by
      unfold rootsTo
      refine List.mem_filter.2 ⟨?_, decide_eq_true (mem_roots.1 hr1).2⟩
      rw [← hje]
      have : (p.v.take k)[j]? = some p.v[j] := by rw [List.getElem?_take, if_pos hjk, List.getElem?_eq_getElem hj]
      have e2 : p.v.getD j 0 = p.v[j] := by simp [List.getD, hj]
      rw [e2]
      exact List.mem_of_getElem? this
    obtain ⟨n, hn, hne⟩ := mem_getD hm
    have := (h (p.v.getD k 0) (n : Int)).2 ⟨n, rfl, hn, by rw [hne]; exact hc⟩
    rw [hf] at this
    cases this

theorem PieceMap.known {g : Gr} {p : Pt} {k : Nat} {f : Int → Option Int} (hp : PartOk g p) (h : PieceMap g p (rootsTo g p k) f) (hk : k < p.v.length) {i : Int} (hf : f (p.v.getD k 0) = some i) : p.v.getD k 0 ∉ roots g p := by
  intro hr
  obtain ⟨n, -, hn, hc⟩ := (h _ _).1 hf
  have hm := rootsTo_mem (getD_mem hn)
  have e := root_one (fun v hv => (hp.vr v hv).1) hm.1 hr hc .here
  have h2 := hm.2
  rw [e] at h2
  have hnd := hp.vn
  rw [← List.take_append_drop k p.v, List.nodup_append] at hnd
  have : p.v.getD k 0 ∈ p.v.drop k := by
    have e2 : p.v.getD k 0 = p.v[k] := by simp [List.getD, hk]
    rw [e2, List.drop_eq_getElem_cons hk]
    exact List.mem_cons_self
  exact hnd.2.2 _ h2 _ this rfl

theorem PieceMap.add {g : Gr} {p : Pt} {R : List Int} {f f' : Int → Option Int} (hp : PartOk g p) (h : PieceMap g p R f) (hR : ∀ r ∈ R, r ∈ roots g p) {v : Int} (hv : v ∈ roots g p) (hn : v ∉ R)
    (h1 : ∀ y, Come g p (-1) v y → f' y = some (R.length : Int)) (h2 : ∀ y, ¬ Come g p (-1) v y → f' y = f y) : PieceMap g p (R ++ [v]) f' := by
  intro y i
  have gl : ∀ n, n < R.length → (R ++ [v]).getD n 0 = R.getD n 0 := fun n hn => by simp [List.getD, List.getElem?_append_left hn]
  have gr : (R ++ [v]).getD R.length 0 = v := by simp [List.getD]
  by_cases hc : Come g p (-1) v y
  · rw [h1 y hc]
    constructor
    · intro e
      cases e
      exact ⟨R.length, rfl, by simp, by rw [gr]; exact hc⟩
    · rintro ⟨n, rfl, hn1, hn2⟩
      by_cases e : n < R.length
      · rw [gl n e] at hn2
        exact absurd (root_one (fun v hv => (hp.vr v hv).1) (hR _ (getD_mem e)) hv hn2 hc ▸ getD_mem e) hn
      · have : n = R.length := by simp at hn1; omega
        rw [this]
  · rw [h2 y hc, h y i]
    constructor
    · rintro ⟨n, rfl, hn1, hn2⟩
      exact ⟨n, rfl, by simp; omega, by rw [gl n hn1]; exact hn2⟩
    · rintro ⟨n, rfl, hn1, hn2⟩
      by_cases e : n < R.length
      · rw [gl n e] at hn2
        exact ⟨n, rfl, e, hn2⟩
      · have e2 : n = R.length := by simp at hn1; omega
        rw [e2, gr] at hn2
        exact absurd hn2 hc

/-- The vertices, the edges of a piece among the first ones. -/
noncomputable def vOf (g : Gr) (p : Pt) (k : Nat) (r : Int) : List Int := (p.v.take k).filter fun v => decide (v ∈ comp g p r)
noncomputable def eOf (g : Gr) (p : Pt) (k : Nat) (r : Int) : List Int := (p.e.take k).filter fun e => decide (g.tail (2 * e) ∈ comp g p r)

theorem take_snoc' {l : List Int} {j : Nat} (hj : j < l.length) : l.take (j + 1) = l.take j ++ [l.getD j 0] := by
  rw [List.take_succ_eq_append_getElem hj]
  simp [List.getD, hj]
theorem vOf_in {g : Gr} {p : Pt} {k : Nat} {r : Int} (hk : k < p.v.length) (h : p.v.getD k 0 ∈ comp g p r) : vOf g p (k + 1) r = vOf g p k r ++ [p.v.getD k 0] := by
  unfold vOf
  rw [take_snoc' hk, List.filter_append, List.filter_cons_of_pos (by simpa using h), List.filter_nil]
theorem vOf_out {g : Gr} {p : Pt} {k : Nat} {r : Int} (hk : k < p.v.length) (h : p.v.getD k 0 ∉ comp g p r) : vOf g p (k + 1) r = vOf g p k r := by
  unfold vOf
  rw [take_snoc' hk, List.filter_append, List.filter_cons_of_neg (by simpa using h), List.filter_nil, List.append_nil]
theorem eOf_in {g : Gr} {p : Pt} {k : Nat} {r : Int} (hk : k < p.e.length) (h : g.tail (2 * p.e.getD k 0) ∈ comp g p r) : eOf g p (k + 1) r = eOf g p k r ++ [p.e.getD k 0] := by
  unfold eOf
  rw [take_snoc' hk, List.filter_append, List.filter_cons_of_pos (by simpa using h), List.filter_nil]
theorem eOf_out {g : Gr} {p : Pt} {k : Nat} {r : Int} (hk : k < p.e.length) (h : g.tail (2 * p.e.getD k 0) ∉ comp g p r) : eOf g p (k + 1) r = eOf g p k r := by
  unfold eOf
  rw [take_snoc' hk, List.filter_append, List.filter_cons_of_neg (by simpa using h), List.filter_nil, List.append_nil]

theorem comp_one {g : Gr} {p : Pt} (hp : PartOk g p) {R : List Int} (hR : ∀ r ∈ R, r ∈ roots g p) (hn : R.Nodup) {v : Int} {n m : Nat} (h1 : n < R.length) (h2 : m < R.length) (hc : Come g p (-1) (R.getD n 0) v) (hm : v ∈ comp g p (R.getD m 0)) : m = n := by
  have e := root_one (fun v hv => (hp.vr v hv).1) (hR _ (getD_mem h1)) (hR _ (getD_mem h2)) hc (mem_comp.1 hm).2
  refine Classical.byContradiction fun hne => ?_
  have q := List.pairwise_iff_getElem.1 hn
  simp only [List.getD, List.getElem?_eq_getElem h1, List.getElem?_eq_getElem h2, Option.getD_some] at e
  rcases Nat.lt_or_ge n m with w | w
  · exact q n m h1 h2 w e
  · exact q m n h2 h1 (by omega) e.symm

theorem rootsTo_nodup {g : Gr} {p : Pt} (hp : PartOk g p) (k : Nat) : (rootsTo g p k).Nodup := by
  unfold rootsTo
  exact ((List.take_sublist k p.v).nodup hp.vn).filter _

theorem new_v {g : Gr} {p : Pt} (hp : PartOk g p) {k : Nat} (hk : k < p.v.length) : p.v.getD k 0 ∉ p.v.take k := by
  intro h2
  have hnd := hp.vn
  rw [← List.take_append_drop k p.v, List.nodup_append] at hnd
  have : p.v.getD k 0 ∈ p.v.drop k := by
    have e2 : p.v.getD k 0 = p.v[k] := by simp [List.getD, hk]
    rw [e2, List.drop_eq_getElem_cons hk]
    exact List.mem_cons_self
  exact hnd.2.2 _ h2 _ this rfl

/-- A root is met first of its piece. -/
theorem vOf_root {g : Gr} {p : Pt} (hr : p.v.Pairwise (· < ·)) {k : Nat} (hk : k < p.v.length) (h : p.v.getD k 0 ∈ roots g p) : vOf g p k (p.v.getD k 0) = [] := by
  unfold vOf
  rw [List.filter_eq_nil_iff]
  intro u hu hc
  have hc := (mem_comp.1 (of_decide_eq_true hc))
  have h1 := (mem_roots.1 h).2 u hc.1 hc.2
  obtain ⟨j, hj, e⟩ := List.getElem_of_mem hu
  rw [List.length_take] at hj
  rw [List.getElem_take] at e
  have := List.pairwise_iff_getElem.1 hr j k (by omega) hk (by omega)
  simp [List.getD, hk] at h1
  omega

theorem eOf_zero (g : Gr) (p : Pt) (r : Int) : eOf g p 0 r = [] := by simp [eOf]
open Classical in
theorem vOf_all (g : Gr) (p : Pt) (r : Int) : vOf g p p.v.length r = comp g p r := by
  unfold vOf
  rw [List.take_length]
  conv => rhs; unfold comp
  refine List.filter_congr fun v hv => ?_
  have := mem_comp (g := g) (p := p) (a := r) (u := v)
  simp [this, hv]
theorem eOf_all {g : Gr} {p : Pt} (h : PartOk g p) (r : Int) : eOf g p p.e.length r = (p.sub g (comp g p r)).e := by
  unfold eOf
  rw [List.take_length, sub_edges h r]
end Plain
end Go.Proofs.Ytfgbkpbakignhaa
