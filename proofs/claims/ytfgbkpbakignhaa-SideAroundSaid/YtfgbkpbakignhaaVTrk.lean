/- Walks around faces, made one by one. No program here. -/
import Derived.Test.YtfgbkpbakignhaaVSums
import Derived.Test.YtfgbkpbakignhaaVNest
import Derived.Test.YtfgbkpbakignhaaVTake
import Derived.Test.YtfgbkpbakignhaaVPieces
namespace Go.Proofs.Ytfgbkpbakignhaa.Plain

theorem next_mem {g : Gr} {p : Pt} {turn : List (List Int)} (hp : PartOk g p) (ht : TurnsOk g p turn) {x : Int} (hx : x ∈ p.darts) : nextDart g turn x ∈ p.darts :=
  (next_tail ht (fun _ hd => hp.vr _ (hp.tail_mem hd).1) hx).1

theorem next_inj {g : Gr} {p : Pt} {turn : List (List Int)} (hp : PartOk g p) (ht : TurnsOk g p turn) {x y : Int} (hx : x ∈ p.darts) (hy : y ∈ p.darts) (e : nextDart g turn x = nextDart g turn y) : x = y := by
  obtain ⟨h1, h2⟩ := before_rings ht hp.en hp.vn hp.vr
  have hm : ∀ z, z ∈ p.darts → twin z ∈ ((busy turn p.v).map fun v => (turnAt turn v).reverse).flatten := fun z hz =>
    h2.mem_iff.2 (List.mem_filter.2 ⟨twin_mem hz, decide_eq_true (hp.tail_mem (twin_mem hz)).1⟩)
  have := h1.inj _ (hm x hx) _ (hm y hy) e
  rw [← twin_twin x, this, twin_twin]

/-- All darts of some walks. -/
def flat (F : List Face) : List Int := (F.map (·.2)).flatten
theorem flat_snoc (F : List Face) (f : Face) : flat (F ++ [f]) = flat F ++ f.2 := by simp [flat]

/-- The walks that were made when the darts of pre had been looked at. -/
structure Trk (g : Gr) (p : Pt) (turn : List (List Int)) (F : List Face) (pre : List Int) : Prop where
  rings : Rings (nextDart g turn) (F.map (·.2))
  sub : ∀ x ∈ flat F, x ∈ p.darts
  key : ∀ f ∈ F, ∃ l, f.2 = f.1 :: l
  keys : (F.map (·.1)).Sublist pre
  least : ∀ f ∈ F, ∃ a b, pre = a ++ f.1 :: b ∧ ∀ y ∈ f.2, y ∉ a
  cover : ∀ x ∈ pre, x ∈ flat F

theorem Trk.start (g : Gr) (p : Pt) (turn : List (List Int)) : Trk g p turn [] [] := ⟨⟨by simp, by simp⟩, by simp [flat], by simp, by simp, by simp, by simp⟩

theorem Trk.skip {g : Gr} {p : Pt} {turn : List (List Int)} {F : List Face} {pre : List Int} (h : Trk g p turn F pre) {d : Int} (hd : d ∈ flat F) : Trk g p turn F (pre ++ [d]) := by
  refine ⟨h.rings, h.sub, h.key, h.keys.trans (List.sublist_append_left _ _), fun f hf => ?_, fun x hx => ?_⟩
  · obtain ⟨a, b, e, ha⟩ := h.least f hf
    exact ⟨a, b ++ [d], by rw [e]; simp, ha⟩
  · rcases List.mem_append.1 hx with q | q
    · exact h.cover x q
    · rw [List.mem_singleton.1 q]; exact hd

/-- The way of one walk: from d by L to x. -/
structure Cur (g : Gr) (p : Pt) (turn : List (List Int)) (F : List Face) (d : Int) (L : List Int) (x : Int) : Prop where
  nodup : L.Nodup
  sub : ∀ y ∈ L, y ∈ p.darts ∧ y ∉ flat F
  way : (L = [] ∧ x = d) ∨ ∃ l, L = d :: l ∧ Trail (nextDart g turn) d l x
  mem : x ∈ p.darts

theorem Cur.start {g : Gr} {p : Pt} {turn : List (List Int)} {F : List Face} {d : Int} (hd : d ∈ p.darts) : Cur g p turn F d [] d := ⟨by simp, by simp, Or.inl ⟨rfl, rfl⟩, hd⟩

theorem Cur.step {g : Gr} {p : Pt} {turn : List (List Int)} {F : List Face} {d x : Int} {L : List Int} (hp : PartOk g p) (ht : TurnsOk g p turn) (h : Cur g p turn F d L x) (h1 : x ∉ flat F) (h2 : x ∉ L) : Cur g p turn F d (L ++ [x]) (nextDart g turn x) := by
  refine ⟨?_, fun y hy => ?_, Or.inr ?_, next_mem hp ht h.mem⟩
  · rw [List.nodup_append]
    exact ⟨h.nodup, by simp, fun a ha b hb e => by simp at hb; subst hb; subst e; exact h2 ha⟩
  · rcases List.mem_append.1 hy with q | q
    · exact h.sub y q
    · rw [List.mem_singleton.1 q]; exact ⟨h.mem, h1⟩
  · rcases h.way with ⟨rfl, rfl⟩ | ⟨l, rfl, ht⟩
    · exact ⟨[], rfl, rfl⟩
    · exact ⟨l ++ [x], rfl, Trail.append.2 ⟨ht, rfl⟩⟩

theorem trail_at {q : Int → Int} {z : Int} : ∀ {l : List Int} {a : Int}, Trail q a l z → ∀ y ∈ a :: l, q y ∈ l ∨ (q y = z ∧ ∃ m, a :: l = m ++ [y])
  | [], a, h, y, hy => by
    simp at hy; subst hy
    exact Or.inr ⟨h, [], rfl⟩
  | b :: l, a, h, y, hy => by
    rcases List.mem_cons.1 hy with rfl | hy
    · exact Or.inl (by rw [h.1]; simp)
    · rcases trail_at h.2 y hy with r | ⟨r, m, e⟩
      · exact Or.inl (by simp [r])
      · exact Or.inr ⟨r, a :: m, by rw [e]; rfl⟩

theorem trail_last {q : Int → Int} {z : Int} : ∀ {l : List Int} {a : Int}, Trail q a l z → ∃ m y, a :: l = m ++ [y] ∧ q y = z
  | [], a, h => ⟨[], a, rfl, h⟩
  | b :: l, a, h => by
    obtain ⟨m, y, e, hy⟩ := trail_last h.2
    exact ⟨a :: m, y, by rw [e]; rfl, hy⟩

theorem trail_pred {q : Int → Int} {z : Int} : ∀ {l : List Int} {a : Int}, Trail q a l z → ∀ x ∈ l, ∃ m y r, a :: l = m ++ y :: x :: r ∧ q y = x
  | [], a, _, x, hx => by simp at hx
  | b :: l, a, h, x, hx => by
    rcases List.mem_cons.1 hx with rfl | hx
    · exact ⟨[], a, l, rfl, h.1⟩
    · obtain ⟨m, y, r, e, hy⟩ := trail_pred h.2 x hx
      exact ⟨a :: m, y, r, by rw [e]; rfl, hy⟩

/-- The way has come to an end: it is a ring. -/
theorem Cur.ring {g : Gr} {p : Pt} {turn : List (List Int)} {F : List Face} {pre : List Int} {d x : Int} {L : List Int} (hp : PartOk g p) (ht : TurnsOk g p turn) (hF : Trk g p turn F pre) (h : Cur g p turn F d L x) (hL : L ≠ []) (hx : x ∈ flat F ∨ x ∈ L) : ∃ l, L = d :: l ∧ Ring (nextDart g turn) L := by
  rcases h.way with ⟨rfl, -⟩ | ⟨l, rfl, hw⟩
  · exact absurd rfl hL
  refine ⟨l, rfl, ?_⟩
  obtain ⟨m, z, e, hz⟩ := trail_last hw
  have hzL : z ∈ d :: l := by rw [e]; simp
  have hzd := h.sub z hzL
  rcases hx with q | q
  · obtain ⟨y, hy, hyx⟩ := hF.rings.pred (x := x) q
    have : y = z := next_inj hp ht (hF.sub y hy) hzd.1 (hyx.trans hz.symm)
    subst this
    exact absurd hy hzd.2
  · rcases List.mem_cons.1 q with rfl | q
    · exact hw
    · obtain ⟨m', y, r, e', hy⟩ := trail_pred hw x q
      have hyL : y ∈ d :: l := by rw [e']; simp
      have : y = z := next_inj hp ht (h.sub y hyL).1 hzd.1 (hy.trans hz.symm)
      subst this
      exfalso
      have hn := h.nodup
      have e2 : m' ++ y :: x :: r = m ++ [y] := e'.symm.trans e
      have hlen := congrArg List.length e2
      simp at hlen
      have g1 : (m' ++ y :: x :: r)[m'.length]? = some y := by simp
      rw [e] at hn
      rw [e2, List.getElem?_append_left (by omega)] at g1
      exact (List.nodup_append.1 hn).2.2 y (List.mem_of_getElem? g1) y (by simp) rfl

theorem Trk.add {g : Gr} {p : Pt} {turn : List (List Int)} {F : List Face} {pre : List Int} {d : Int} {L : List Int} (h : Trk g p turn F pre) (hn : L.Nodup) (hs : ∀ y ∈ L, y ∈ p.darts ∧ y ∉ flat F) (hr : ∃ l, L = d :: l ∧ Ring (nextDart g turn) L) : Trk g p turn (F ++ [(d, L)]) (pre ++ [d]) := by
  obtain ⟨l, e, hring⟩ := hr
  have hfl := flat_snoc F (d, L)
  refine ⟨⟨fun c hc => ?_, ?_⟩, fun x hx => ?_, fun f hf => ?_, ?_, fun f hf => ?_, fun x hx => ?_⟩
  · rw [List.map_append, List.mem_append] at hc
    rcases hc with q | q
    · exact h.rings.ring c q
    · simp at q; rw [q]; exact hring
  · show (flat (F ++ [(d, L)])).Nodup
    rw [hfl, List.nodup_append]
    exact ⟨h.rings.nodup, hn, fun a ha b hb q => (hs b hb).2 (q ▸ ha)⟩
  · rw [hfl, List.mem_append] at hx
    exact hx.elim (h.sub x) (fun q => (hs x q).1)
  · rcases List.mem_append.1 hf with q | q
    · exact h.key f q
    · rw [List.mem_singleton.1 q]; exact ⟨l, e⟩
  · rw [List.map_append]
    exact h.keys.append (List.Sublist.refl _)
  · rcases List.mem_append.1 hf with q | q
    · obtain ⟨a, b, e1, ha⟩ := h.least f q
      exact ⟨a, b ++ [d], by rw [e1]; simp, ha⟩
    · rw [List.mem_singleton.1 q]
      exact ⟨pre, [], rfl, fun y hy hm => (hs y hy).2 (h.cover y hm)⟩
  · rw [hfl, List.mem_append]
    rcases List.mem_append.1 hx with q | q
    · exact Or.inl (h.cover x q)
    · rw [List.mem_singleton.1 q, e]; exact Or.inr (by simp)

/-- The keys of the vertices without darts, rising. -/
def loneAt (turn : List (List Int)) (l : List Int) : List Face := (l.reverse.filter fun v => (turnAt turn v).isEmpty).map fun v => (-1 - v, [])
theorem loneAt_step (turn : List (List Int)) (v : Int) (l : List Int) : loneAt turn (v :: l) = loneAt turn l ++ (if (turnAt turn v).isEmpty then [(-1 - v, [])] else []) := by
  unfold loneAt
  rw [List.reverse_cons, List.filter_append, List.map_append]
  congr 1
  cases hq : (turnAt turn v).isEmpty <;> simp [hq]

/-- All walks: what face.Walks makes. -/
structure WalksOk (g : Gr) (p : Pt) (turn : List (List Int)) (W : List Face) : Prop where
  faces : FacesOk g p turn W
  split : ∃ F, W = loneAt turn p.v ++ F ∧ Trk g p turn F p.darts

theorem Trk.walks {g : Gr} {p : Pt} {turn : List (List Int)} {F : List Face} (hp : PartOk g p) (h : Trk g p turn F p.darts) : WalksOk g p turn (loneAt turn p.v ++ F) := by
  have hl1 : (loneAt turn p.v).filter (fun f => !f.2.isEmpty) = [] := by
    rw [List.filter_eq_nil_iff]
    intro f hf
    obtain ⟨v, -, rfl⟩ := List.mem_map.1 hf
    simp
  have hl2 : (loneAt turn p.v).filter (fun f => f.2.isEmpty) = loneAt turn p.v := by
    rw [List.filter_eq_self]
    intro f hf
    obtain ⟨v, -, rfl⟩ := List.mem_map.1 hf
    simp
  have hne : ∀ f ∈ F, f.2.isEmpty = false := fun f hf => by
    obtain ⟨l, e⟩ := h.key f hf
    rw [e]; rfl
  have hF1 : F.filter (fun f => !f.2.isEmpty) = F := List.filter_eq_self.2 fun f hf => by rw [hne f hf]; rfl
  have hF2 : F.filter (fun f => f.2.isEmpty) = [] := List.filter_eq_nil_iff.2 fun f hf => by rw [hne f hf]; simp
  refine ⟨⟨?_, ?_, fun f hf d l e => ?_, ?_⟩, F, rfl, h⟩
  · rw [List.filter_append, hl1, hF1]; exact h.rings
  · rw [List.filter_append, hl1, hF1]
    exact (List.perm_ext_iff_of_nodup h.rings.nodup (darts_nodup hp.en)).2 fun x => ⟨h.sub x, h.cover x⟩
  · rcases List.mem_append.1 hf with q | q
    · obtain ⟨v, -, rfl⟩ := List.mem_map.1 q
      cases e
    · obtain ⟨l', e'⟩ := h.key f q
      rw [e'] at e
      cases e; rfl
  · rw [List.filter_append, hl2, hF2, List.append_nil]
    unfold loneAt
    rw [List.map_map]
    exact ((List.reverse_perm p.v).filter _).map _

end Go.Proofs.Ytfgbkpbakignhaa.Plain
/- package face: walks as they are collected in memory. No condition beyond what each law says. -/
namespace Go.Proofs.Ytfgbkpbakignhaa
open Go.RowKit Go.Maps

/-- Walks as cells: a key, a row of darts. -/
def faceCells (F : List Plain.Face) : List Cell := F.flatMap fun f => [.num f.1, .row f.2]
theorem faceCells_snoc (F : List Plain.Face) (f : Plain.Face) : faceCells (F ++ [f]) = faceCells F ++ [.num f.1, .row f.2] := by simp [faceCells]
theorem faceCells_length (F : List Plain.Face) : (faceCells F).length = F.length * 2 := by
  induction F with
  | nil => rfl
  | cons f F ih => unfold faceCells at ih ⊢; rw [List.flatMap_cons, List.length_append, ih, List.length_cons]; simp; omega

theorem elemWalk : Elem 45 50 (.agg #[.int .i64 0, .slice none 0 0]) 2 32 := ⟨Try.underlying45, by kernel_rfl, rfl, by decide, by decide⟩

/-- The variable at ob holds walks of the call's own; all their blocks lie below T. -/
structure OutW (B : Nat) (wr : World) (ob T : Nat) (F : List Plain.Face) : Prop where
  ex : ∃ ov xs, wr.heap[ob]? = some (.cells #[ov] 45 (0, 0)) ∧ Nest wr B 50 2 ov F.length xs (faceCells F) ∧ (∀ b, ov.ownBlock = some b → b < T) ∧ ∀ k b, k < xs.length → (xs.getD k undef).ownBlock = some b → b < T
  lt : ob < T

theorem OutW.keep {B : Nat} {wr w' : World} {ob T : Nat} {F : List Plain.Face} {own : List Nat} (h : OutW B wr ob T F) (hc : Chg own wr w') (ho : ∀ j ∈ own, T ≤ j ∨ ∀ cs t r, wr.heap[j]? ≠ some (.cells cs t r)) : OutW B w' ob T F := by
  obtain ⟨⟨ov, xs, h1, h2, h3, h4⟩, h5⟩ := h
  refine ⟨⟨ov, xs, hc.heap h1 (fun hm => ?_), h2.chg hc (fun b hb hm => ?_) (fun k b hk hb hm => ?_), h3, h4⟩, h5⟩
  · rcases ho _ hm with q | q
    · omega
    · exact q _ _ _ h1
  · rcases ho _ hm with q | q
    · have := h3 b hb; omega
    · rcases h2.out.2 with ⟨rfl, _⟩ | ⟨g, c, cur, rfl, _, hg, _⟩
      · simp [Value.ownBlock] at hb
      · simp [Value.ownBlock] at hb; subst hb; exact q _ _ _ hg
  · rcases ho _ hm with q | q
    · have := h4 k b hk hb; omega
    · obtain ⟨-, -, cs, r, hh⟩ := h2.kind hk hb
      exact q _ _ _ hh

theorem OutW.fresh {B : Nat} {wr w' : World} {ob T : Nat} {F : List Plain.Face} (h : OutW B wr ob T F) (hc : Chg [] wr w') : OutW B w' ob T F := h.keep hc (by simp)
theorem OutW.up {B : Nat} {wr : World} {ob T T' : Nat} {F : List Plain.Face} (h : OutW B wr ob T F) (hT : T ≤ T') : OutW B wr ob T' F := by
  obtain ⟨⟨ov, xs, h1, h2, h3, h4⟩, h5⟩ := h
  exact ⟨⟨ov, xs, h1, h2, fun b hb => by have := h3 b hb; omega, fun k b hk hb => by have := h4 k b hk hb; omega⟩, by omega⟩

/-- One walk more: what is read, what append leaves, what is stored. -/
theorem OutW.push {B : Nat} {wr : World} {ob T : Nat} {F : List Plain.Face} (h : OutW B wr ob T F) (hB : B ≤ wr.heap.size) (hob : B ≤ ob) (k : Int) {v : Value} {l : List Int} (hv : RowAt wr B v l) (hT : ∀ j ∈ foot v, T ≤ j) (hn : F.length < 1000000000) :
    ∃ ao c g cap w2, wr.cell? ⟨ob, 0, none⟩ = some (.slice ao F.length c) ∧
      (Builtin.append_ #[45, 45] 45 #[.slice ao F.length c, .slice (some ⟨wr.heap.size, 0, none⟩) 1 1]).run Try.prog (wr.alloc (.cells #[.int .i64 k, v] 50)) = .ok (.slice (some ⟨g, 0, none⟩) (F.length + 1) cap) w2 ∧
      w2.cell? ⟨ob, 0, none⟩ = some (.slice ao F.length c) ∧ w2.frozen? ⟨ob, 0, none⟩ = false ∧
      OutW B (w2.setCell ⟨ob, 0, none⟩ (.slice (some ⟨g, 0, none⟩) (F.length + 1) cap)) ob w2.heap.size (F ++ [(k, l)]) ∧
      ∃ own, Chg own wr (w2.setCell ⟨ob, 0, none⟩ (.slice (some ⟨g, 0, none⟩) (F.length + 1) cap)) ∧ ∀ j ∈ own, j = ob ∨ (B ≤ j ∧ ∃ cs r, wr.heap[j]? = some (.cells cs 50 r)) := by
  obtain ⟨⟨ov, xs, h1, h2, h3, h4⟩, h5⟩ := h
  obtain ⟨ao, c, rfl⟩ := h2.shape
  obtain ⟨g, cap, w2, hr, r2, r3, r4⟩ := run_app elemWalk h2.out hB (cs := #[.int .i64 k, v]) rfl (by
    intro u hu
    simp at hu
    rcases hu with rfl | rfl
    · rfl
    · obtain ⟨a', c', e⟩ := hv.shape; rw [e]; rfl) (by omega) (Or.inl rfl) 45
  have hno : (Value.slice ao F.length c).ownBlock ≠ some ob := fun e => owns_other h2.out h1 (by decide) e
  have hb2 := r3.heap h1 (by simpa using hno)
  have hsz := r3.size
  have hxl : xs.length = F.length * 2 := h2.cells
  have hnest := h2.add (w' := w2) (g := g) (cap := cap) (us := [.int .i64 k, v]) (ds := [.num k, .row l]) (by decide) rfl rfl (fun i d hi => by
      rcases i with _ | _ | i
      · simp at hi; subst hi; rfl
      · simp at hi; subst hi; exact hv
      · simp at hi) (fun i j hi hj hne => by
      simp at hi hj
      rcases i with _ | _ | i
      · exact Or.inl rfl
      · rcases j with _ | _ | j
        · cases hq : ([Value.int .i64 k, v].getD 1 undef).ownBlock with
          | none => exact Or.inl rfl
          | some b => exact Or.inr (by simp [Value.ownBlock])
        · omega
        · omega
      · omega) (fun i j b hi hj hb e => by
      simp at hj
      have := h4 i b hi hb
      rcases j with _ | _ | j
      · simp [Value.ownBlock] at e
      · have e' : v.ownBlock = some b := e
        have := hT b (by rw [hv.foot, e']; simp)
        omega
      · omega) r2 r3
  have hset : Chg [ob] w2 (w2.setCell ⟨ob, 0, none⟩ (.slice (some ⟨g, 0, none⟩) (F.length + 1) cap)) := (Chg.refl _ _).setCell (Or.inl (by simp)) _
  have hlen : (F ++ [(k, l)]).length = F.length + 1 := by simp
  have hout : OutW B (w2.setCell ⟨ob, 0, none⟩ (.slice (some ⟨g, 0, none⟩) (F.length + 1) cap)) ob w2.heap.size (F ++ [(k, l)]) := by
    refine ⟨⟨_, xs ++ [.int .i64 k, v], heap_setCell_same hb2 0 _, ?_, ?_, ?_⟩, lt_of_block hb2⟩
    · rw [faceCells_snoc, hlen]
      exact hnest.other hset (fun j hj cs t r hh => by
        simp at hj; subst hj
        rw [hb2] at hh
        simp at hh
        rw [← hh.2.1]
        decide)
    · intro b hb
      exact (hnest.out.lt b hb).2
    · intro i b hi hb
      exact (hnest.kind hi hb).2.1
  refine ⟨ao, c, g, cap, w2, (cell_of_row _ _ 0 _ _ _ h1).trans rfl, hr, (cell_of_row _ _ 0 _ _ _ hb2).trans rfl, free_at hb2 0, hout, ob :: (Value.slice ao F.length c).ownBlock.toList, (r3.mono (fun j hj => Or.inl (by simp [hj]))).trans hset (fun j hj => Or.inl (by simp at hj; simp [hj])), fun j hj => ?_⟩
  rcases List.mem_cons.1 hj with q | q
  · exact Or.inl q
  · refine Or.inr ⟨(h2.out.lt j (by simpa using q)).1, ?_⟩
    rcases h2.out.2 with ⟨e, _⟩ | ⟨g', c', cur, e, _, hg, _⟩
    · rw [e] at q; simp [Value.ownBlock] at q
    · rw [e] at q; simp [Value.ownBlock] at q; subst q; exact ⟨_, _, hg⟩

end Go.Proofs.Ytfgbkpbakignhaa
/- What is read of slices of parts and of walks of the call's own. No condition beyond what each law says. -/
namespace Go.Proofs.Ytfgbkpbakignhaa
open Go.RowKit Go.Maps

theorem nest_pair {w : World} {B n i : Nat} {e : TypeId} {ov : Value} {xs : List Value} {V E : Int → List Int} {R : List Int} (h : Nest w B e 2 ov n xs (pcs V E R)) (hn : n = R.length) (hi : i < R.length) :
    ∃ g c va vc ea ec, ov = .slice (some ⟨g, 0, none⟩) n c ∧ w.cell? ⟨g, i * 2, none⟩ = some (.slice va (V (R.getD i 0)).length vc) ∧ w.cell? ⟨g, i * 2 + 1, none⟩ = some (.slice ea (E (R.getD i 0)).length ec) ∧ RowAt w B (.slice va (V (R.getD i 0)).length vc) (V (R.getD i 0)) ∧ RowAt w B (.slice ea (E (R.getD i 0)).length ec) (E (R.getD i 0)) := by
  obtain ⟨g, c, rfl⟩ := h.some (by omega)
  have hx := h.cells
  have r1 := h.row (pcs_even V E R i hi)
  have r2 := h.row (pcs_odd V E R i hi)
  have c1 := h.cell (k := i * 2) (by omega)
  have c2 := h.cell (k := i * 2 + 1) (by omega)
  obtain ⟨va, vc, e1⟩ := r1.shape
  obtain ⟨ea, ec, e2⟩ := r2.shape
  rw [e1] at c1 r1
  rw [e2] at c2 r2
  exact ⟨g, c, va, vc, ea, ec, rfl, c1, c2, r1, r2⟩

theorem face_even : ∀ (W : List Plain.Face) (i : Nat), i < W.length → (faceCells W)[i * 2]? = some (.num (W.getD i (0, [])).1) ∧ (faceCells W)[i * 2 + 1]? = some (.row (W.getD i (0, [])).2)
  | [], i, h => by simp at h
  | f :: W, 0, _ => ⟨rfl, rfl⟩
  | f :: W, i + 1, h => by
    have ih := face_even W i (by simpa using h)
    have e : faceCells (f :: W) = .num f.1 :: .row f.2 :: faceCells W := rfl
    rw [e, show (i + 1) * 2 = i * 2 + 1 + 1 by omega, show i * 2 + 1 + 1 + 1 = (i * 2 + 1) + 1 + 1 by omega]
    simp only [List.getElem?_cons_succ, List.getD_cons_succ]
    exact ih

theorem nest_face {w : World} {B n i : Nat} {e : TypeId} {ov : Value} {xs : List Value} {W : List Plain.Face} (h : Nest w B e 2 ov n xs (faceCells W)) (hn : n = W.length) (hi : i < W.length) :
    ∃ g c va vc, ov = .slice (some ⟨g, 0, none⟩) n c ∧ w.cell? ⟨g, i * 2, none⟩ = some (.int .i64 (W.getD i (0, [])).1) ∧ w.cell? ⟨g, i * 2 + 1, none⟩ = some (.slice va (W.getD i (0, [])).2.length vc) ∧ RowAt w B (.slice va (W.getD i (0, [])).2.length vc) (W.getD i (0, [])).2 := by
  obtain ⟨g, c, rfl⟩ := h.some (by omega)
  have hx := h.cells
  have hf := face_even W i hi
  have n1 := h.num hf.1
  have r2 := h.row hf.2
  have c1 := h.cell (k := i * 2) (by omega)
  have c2 := h.cell (k := i * 2 + 1) (by omega)
  obtain ⟨va, vc, e2⟩ := r2.shape
  rw [n1] at c1
  rw [e2] at c2 r2
  exact ⟨g, c, va, vc, rfl, c1, c2, r2⟩

namespace Plain
/-- The map tells of each vertex in the first i pieces, and of the first j of the next, which piece that is. -/
def Told (g : Gr) (p : Pt) (R : List Int) (i j : Nat) (f : Int → Option Int) : Prop :=
  (∀ m, m < i → ∀ y ∈ comp g p (R.getD m 0), f y = some (m : Int)) ∧ ∀ y ∈ (comp g p (R.getD i 0)).take j, f y = some (i : Int)
theorem Told.start (g : Gr) (p : Pt) (R : List Int) (f : Int → Option Int) : Told g p R 0 0 f := ⟨fun m hm => by omega, by simp⟩
theorem Told.next {g : Gr} {p : Pt} {R : List Int} {i j : Nat} {f : Int → Option Int} (hp : PartOk g p) (hR : ∀ r ∈ R, r ∈ roots g p) (hn : R.Nodup) (hi : i < R.length) (hj : j < (comp g p (R.getD i 0)).length) (h : Told g p R i j f) :
    Told g p R i (j + 1) (fun y => if y = (comp g p (R.getD i 0)).getD j 0 then some (i : Int) else f y) := by
  have hv := getD_mem hj
  refine ⟨fun m hm y hy => ?_, fun y hy => ?_⟩
  · dsimp only
    rw [if_neg (fun e => ?_)]
    · exact h.1 m hm y hy
    · rw [e] at hy
      have := comp_one hp hR hn (by omega : i < R.length) (by omega : m < R.length) (mem_comp.1 hv).2 hy
      omega
  · dsimp only
    rw [take_snoc' hj, List.mem_append] at hy
    by_cases e : y = (comp g p (R.getD i 0)).getD j 0
    · rw [if_pos e]
    · rw [if_neg e]
      rcases hy with q | q
      · exact h.2 y q
      · exact absurd (List.mem_singleton.1 q) e
theorem Told.row {g : Gr} {p : Pt} {R : List Int} {i : Nat} {f : Int → Option Int} (h : Told g p R i (comp g p (R.getD i 0)).length f) : Told g p R (i + 1) 0 f := by
  refine ⟨fun m hm y hy => ?_, by simp⟩
  by_cases e : m < i
  · exact h.1 m e y hy
  · obtain rfl : m = i := by omega
    exact h.2 y (by rw [List.take_length]; exact hy)
/-- All are told. -/
theorem Told.all {g : Gr} {p : Pt} {f : Int → Option Int} (hp : PartOk g p) (h : Told g p (roots g p) (roots g p).length 0 f) {v : Int} (hv : v ∈ p.v) : ∃ n, n < (roots g p).length ∧ f v = some (n : Int) ∧ v ∈ comp g p ((roots g p).getD n 0) := by
  obtain ⟨r, hr, hc⟩ := root_of (g := g) (fun v hv => (hp.vr v hv).1) hv
  obtain ⟨n, hn, e⟩ := mem_getD hr
  have hm : v ∈ comp g p ((roots g p).getD n 0) := mem_comp.2 ⟨hv, by rw [e]; exact hc⟩
  exact ⟨n, hn, h.1 n hn v hm, hm⟩
theorem comp_len (g : Gr) (p : Pt) (r : Int) : (comp g p r).length ≤ p.v.length := by
  unfold comp
  exact List.length_filter_le _ _
end Plain
end Go.Proofs.Ytfgbkpbakignhaa
