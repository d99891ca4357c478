/- Turns begun anew: the same walks, the same error, the same drawing. No program here. -/
import Derived.Test.YtfgbkpbakignhaaVCyc
import Derived.Test.YtfgbkpbakignhaaVMisc
import Derived.Test.YtfgbkpbakignhaaVRing
import Derived.Test.YtfgbkpbakignhaaVRel
namespace Go.Proofs.Ytfgbkpbakignhaa.Plain

theorem ring_agree {p q : Int → Int} {c : List Int} (h : Ring p c) (k : Ring q c) : ∀ x ∈ c, p x = q x := by
  cases c with
  | nil => simp
  | cons a l =>
    have e := (Trail.map (show Trail p a l a from h)).trans (Trail.map (show Trail q a l a from k)).symm
    exact fun x hx => List.map_inj_left.1 e x hx

theorem ahead_roll {a b : List Int} (hn : (a ++ b).Nodup) : ∀ x ∈ a ++ b, ahead (b ++ a) x = ahead (a ++ b) x := by
  intro x hx
  have hn2 : (b ++ a).Nodup := (List.perm_append_comm).nodup_iff.1 hn
  by_cases ha : a = []
  · subst ha; simp
  · by_cases hb : b = []
    · subst hb; simp
    · have h1 := ahead_ring hn (by simp [ha])
      have h2 := ahead_ring hn2 (by simp [ha])
      rw [List.reverse_append] at h1 h2
      obtain ⟨u, r, hr⟩ := List.exists_cons_of_ne_nil (show a.reverse ≠ [] by simpa using ha)
      obtain ⟨v, s, hs⟩ := List.exists_cons_of_ne_nil (show b.reverse ≠ [] by simpa using hb)
      rw [hr, hs] at h1 h2
      have h3 := Ring.turn (p := ahead (a ++ b)) (l := s) (m := r) (x := v) (y := u) h1
      have := ring_agree h2 h3 x (by
        rw [← hr, ← hs, List.mem_append, List.mem_reverse, List.mem_reverse]
        exact List.mem_append.1 hx)
      exact this

theorem first_split (l : List Int) : ∃ a b, l = a ++ b ∧ first l = b ++ a := ⟨l.take (lst l l.length), l.drop (lst l l.length), (List.take_append_drop _ _).symm, rfl⟩
theorem first_perm (l : List Int) : (first l).Perm l := by
  obtain ⟨a, b, e1, e2⟩ := first_split l
  rw [e2]
  exact List.perm_append_comm.trans (List.Perm.of_eq e1.symm)
theorem first_nil : first [] = [] := rfl
theorem first_empty (l : List Int) : (first l).isEmpty = l.isEmpty := by
  have := (first_perm l).length_eq
  cases h : first l <;> cases h2 : l <;> simp_all
theorem ahead_begun {l : List Int} (hn : l.Nodup) : ∀ x ∈ l, ahead (first l) x = ahead l x := by
  obtain ⟨a, b, e1, e2⟩ := first_split l
  rw [e2]
  rw [e1] at hn ⊢
  exact ahead_roll hn

theorem turnAt_map (turn : List (List Int)) (v : Int) : turnAt (turn.map first) v = first (turnAt turn v) := by
  unfold turnAt List.getD
  rw [List.getElem?_map]
  cases turn[v.toNat]? <;> rfl

theorem TurnsOk.first {g : Gr} {p : Pt} {turn : List (List Int)} (h : TurnsOk g p turn) : TurnsOk g p (turn.map Plain.first) := by
  refine ⟨by rw [List.length_map]; exact h.len, fun v => ?_, fun v h0 hn d => ?_⟩
  · rw [turnAt_map]; exact (first_perm _).nodup_iff.2 (h.nodup v)
  · rw [turnAt_map, (first_perm _).mem_iff]; exact h.mem v h0 hn d

theorem turnsOk_first {g : Gr} {p : Pt} {turn : List (List Int)} : TurnsOk g p (turn.map Plain.first) ↔ TurnsOk g p turn := by
  refine ⟨fun h => ⟨by rw [← List.length_map (f := Plain.first)]; exact h.len, fun v => ?_, fun v h0 hn d => ?_⟩, fun h => h.first⟩
  · have := h.nodup v
    rw [turnAt_map] at this
    exact (first_perm _).nodup_iff.1 this
  · have := h.mem v h0 hn d
    rw [turnAt_map, (first_perm _).mem_iff] at this
    exact this

theorem next_first {g : Gr} {p : Pt} {turn : List (List Int)} (hp : PartOk g p) (h : TurnsOk g p turn) {d : Int} (hd : d ∈ p.darts) : nextDart g (turn.map Plain.first) d = nextDart g turn d := by
  unfold nextDart before
  rw [turnAt_map]
  have ht := twin_mem hd
  have hv := hp.vr _ (hp.tail_mem ht).1
  exact ahead_begun (h.nodup _) _ ((h.mem _ hv.1 hv.2 _).2 ⟨ht, rfl⟩)

theorem loneAt_first (turn : List (List Int)) (l : List Int) : loneAt (turn.map Plain.first) l = loneAt turn l := by
  unfold loneAt
  congr 1
  refine List.filter_congr fun v _ => ?_
  rw [turnAt_map, first_empty]

theorem Trk.first {g : Gr} {p : Pt} {turn : List (List Int)} {F : List Face} {pre : List Int} (hp : PartOk g p) (ht : TurnsOk g p turn) (h : Trk g p turn F pre) : Trk g p (turn.map Plain.first) F pre :=
  ⟨h.rings.congr fun x hx => (next_first hp ht (h.sub x hx)).symm, h.sub, h.key, h.keys, h.least, h.cover⟩

theorem WalksOk.first {g : Gr} {p : Pt} {turn : List (List Int)} {W : List Face} (hp : PartOk g p) (ht : TurnsOk g p turn) (h : WalksOk g p turn W) : WalksOk g p (turn.map Plain.first) W := by
  obtain ⟨F, e, k⟩ := h.split
  rw [e, ← loneAt_first turn]
  exact (k.first hp ht).walks hp

/-- Right turns have walks. -/
theorem walks_ok {g : Gr} {p : Pt} {turn : List (List Int)} (hpe : p.err g = 0) (hto : TurnsOk g p turn) : WalksOk g p turn (walksOf g p turn) := by
  rw [← mins_walks hpe hto]
  exact (mins_trk (Pt.ok_of_err hpe) (rises_pair (Pt.err_ok hpe).2.2.1) hto).walks (Pt.ok_of_err hpe)

theorem walks_first {g : Gr} {p : Pt} {turn : List (List Int)} (hpe : p.err g = 0) (hto : TurnsOk g p turn) : walksOf g p (turn.map Plain.first) = walksOf g p turn :=
  (((walks_ok hpe hto).first (Pt.ok_of_err hpe) hto).eq hpe).symm

theorem turnErr_first (g : Gr) (p : Pt) (turn : List (List Int)) : turnErr g p (turn.map Plain.first) = turnErr g p turn := by
  by_cases hpe : p.err g = 0
  · by_cases h : TurnsOk g p turn
    · rw [turnErr_ok hpe h, turnErr_ok hpe h.first]
    · rw [turnErr_bad hpe h, turnErr_bad hpe fun k => h (turnsOk_first.1 k)]
  · rw [turnErr_part hpe, turnErr_part hpe]

theorem flatErr_first (g : Gr) (p : Pt) (turn : List (List Int)) : flatErr g p (turn.map Plain.first) = flatErr g p turn := by
  by_cases h : turnErr g p turn = 0
  · obtain ⟨hpe, hto⟩ := turnErr_zero h
    have h2 : turnErr g p (turn.map Plain.first) = 0 := (turnErr_first g p turn).trans h
    have hw := walks_first hpe hto
    by_cases hf : Flat g p turn
    · rw [flatErr_ok h hf, flatErr_ok h2 (by unfold Flat; rw [hw]; exact hf)]
    · rw [flatErr_bad h hf, flatErr_bad h2 (by unfold Flat; rw [hw]; exact hf)]
  · rw [flatErr_turn h, flatErr_turn (by rw [turnErr_first]; exact h), turnErr_first]

theorem planErr_first (g : Gr) (p : Pt) (turn same : List (List Int)) : planErr g p (turn.map Plain.first) same = planErr g p turn same := by
  by_cases h : flatErr g p turn = 0
  · obtain ⟨hte, -⟩ := flatErr_zero h
    obtain ⟨hpe, hto⟩ := turnErr_zero hte
    rw [planErr_run h, planErr_run ((flatErr_first g p turn).trans h), walks_first hpe hto]
  · rw [planErr_flat h, planErr_flat (by rw [flatErr_first]; exact h), flatErr_first]

/-- The error of a drawing of one piece. -/
noncomputable def loneErr (g : Gr) (p : Pt) (turn : List (List Int)) : Int := if flatErr g p turn ≠ 0 then flatErr g p turn else if (roots g p).length ≤ 1 then 0 else 10

theorem lone_plan {g : Gr} {p : Pt} {turn : List (List Int)} (h : loneErr g p turn = 0) : planErr g p (turn.map Plain.first) [] = 0 := by
  unfold loneErr at h
  split at h
  · rename_i q; exact absurd h q
  · rename_i q
    have q : flatErr g p turn = 0 := Classical.byContradiction q
    split at h
    · rename_i q2
      rw [planErr_first, planErr_run q]
      have := (PlanOk.start (fun _ => none) (roots g p).length).num
      simp only [List.length_nil, Nat.add_zero] at this
      show (if 1 < (St.new (upTo (roots g p).length)).count then (7 : Int) else 0) = 0
      rw [if_neg]
      have h2 : (St.new (upTo (roots g p).length)).count = (roots g p).length := this
      omega
    · cases h
end Go.Proofs.Ytfgbkpbakignhaa.Plain
/- The cycles around a walk, plainly: each is a cycle, of the walk's darts. No program here. -/
namespace Go.Proofs.Ytfgbkpbakignhaa.Plain

/-- The first place of a way whose dart leaves v. -/
def backAt (g : Gr) (gone : List Int) (v : Int) : Option Nat := gone.findIdx? fun x => decide (g.tail x = v)
/-- A there and back again. -/
def isBack (l : List Int) : Prop := l.length = 2 ∧ l.getD 0 0 = twin (l.getD 1 0)
instance (l : List Int) : Decidable (isBack l) := inferInstanceAs (Decidable (_ ∧ _))
/-- One dart more: what is closed is cut off. -/
def arStep (g : Gr) (st : List (List Int) × List Int) (d : Int) : List (List Int) × List Int :=
  match backAt g (st.2 ++ [d]) (g.head d) with
  | none => (st.1, st.2 ++ [d])
  | some i => (if isBack ((st.2 ++ [d]).drop i) then st.1 else st.1 ++ [(st.2 ++ [d]).drop i], (st.2 ++ [d]).take i)
def arTo (g : Gr) (D : List Int) : Nat → List (List Int) × List Int
  | 0 => ([], [])
  | k + 1 => arStep g (arTo g D k) (D.getD k 0)
def aroundOf (g : Gr) (D : List Int) : List (List Int) := (arTo g D D.length).1
theorem arTo_succ (g : Gr) (D : List Int) (k : Nat) : arTo g D (k + 1) = arStep g (arTo g D k) (D.getD k 0) := rfl
theorem backAt_none {g : Gr} {gone : List Int} {v : Int} (h : backAt g gone v = none) : ∀ x ∈ gone, g.tail x ≠ v := fun x hx e => by
  unfold backAt at h
  rw [List.findIdx?_eq_none_iff] at h
  have := h x hx
  simp [e] at this
theorem backAt_some {g : Gr} {gone : List Int} {v : Int} {i : Nat} (h : backAt g gone v = some i) : i < gone.length ∧ g.tail (gone.getD i 0) = v ∧ ∀ j, j < i → g.tail (gone.getD j 0) ≠ v := by
  unfold backAt at h
  rw [List.findIdx?_eq_some_iff_getElem] at h
  obtain ⟨h1, h2, h3⟩ := h
  refine ⟨h1, by simpa [List.getD, h1] using h2, fun j hj => ?_⟩
  have := h3 j hj
  have hjl : j < gone.length := by omega
  simpa [List.getD, hjl] using this
theorem backAt_hit {g : Gr} {gone : List Int} {v : Int} {i : Nat} (h1 : i < gone.length) (h2 : g.tail (gone.getD i 0) = v) (h3 : ∀ j, j < i → g.tail (gone.getD j 0) ≠ v) : backAt g gone v = some i := by
  unfold backAt
  rw [List.findIdx?_eq_some_iff_getElem]
  refine ⟨h1, by simpa [List.getD, h1] using h2, fun j hj => ?_⟩
  have := h3 j hj
  have hjl : j < gone.length := by omega
  simpa [List.getD, hjl] using this
theorem backAt_miss {g : Gr} {gone : List Int} {v : Int} (h : ∀ j, j < gone.length → g.tail (gone.getD j 0) ≠ v) : backAt g gone v = none := by
  unfold backAt
  rw [List.findIdx?_eq_none_iff]
  intro x hx
  obtain ⟨i, hi, rfl⟩ := List.getElem_of_mem hx
  have := h i hi
  simpa [List.getD, hi] using this
theorem arTo_len (g : Gr) (D : List Int) : ∀ k, (arTo g D k).2.length ≤ k ∧ (arTo g D k).1.length ≤ k
  | 0 => by simp [arTo]
  | k + 1 => by
    obtain ⟨h1, h2⟩ := arTo_len g D k
    rw [arTo_succ]
    unfold arStep
    split
    · simp; omega
    · constructor
      · simp; omega
      · show List.length (ite _ _ _) ≤ _
        split
        · omega
        · simp; omega

/-- A way: each dart leaves where the one ahead comes to; no vertex is left twice; on to v. -/
structure WayOk (g : Gr) (D gone : List Int) (v : Int) : Prop where
  sub : ∀ x ∈ gone, x ∈ D
  link : ∀ i, i + 1 < gone.length → g.head (gone.getD i 0) = g.tail (gone.getD (i + 1) 0)
  nodup : (gone.map g.tail).Nodup
  last : 0 < gone.length → g.head (gone.getD (gone.length - 1) 0) = v
  free : v ∉ gone.map g.tail
theorem way_nil (g : Gr) (D : List Int) (v : Int) : WayOk g D [] v := ⟨by simp, by simp, by simp, by simp, by simp⟩
theorem getD_snoc_lt {l : List Int} {d : Int} {i : Nat} (h : i < l.length) : (l ++ [d]).getD i 0 = l.getD i 0 := by simp [List.getD, List.getElem?_append_left h]
theorem getD_snoc_eq {l : List Int} {d : Int} : (l ++ [d]).getD l.length 0 = d := by simp [List.getD]
/-- What is pushed: still linked, no vertex left twice. -/
theorem way_push {g : Gr} {D gone : List Int} {d : Int} (h : WayOk g D gone (g.tail d)) (hd : d ∈ D) : (∀ x ∈ gone ++ [d], x ∈ D) ∧ (∀ i, i + 1 < (gone ++ [d]).length → g.head ((gone ++ [d]).getD i 0) = g.tail ((gone ++ [d]).getD (i + 1) 0)) ∧ ((gone ++ [d]).map g.tail).Nodup := by
  refine ⟨fun x hx => (List.mem_append.1 hx).elim (h.sub x) fun q => by rw [List.mem_singleton.1 q]; exact hd, fun i hi => ?_, ?_⟩
  · have hi : i + 1 < gone.length + 1 := by simpa using hi
    by_cases e : i + 1 < gone.length
    · rw [getD_snoc_lt (by omega), getD_snoc_lt e]; exact h.link i e
    · have e1 : i + 1 = gone.length := by omega
      rw [getD_snoc_lt (by omega), e1, getD_snoc_eq]
      have := h.last (by omega)
      rwa [show gone.length - 1 = i by omega] at this
  · rw [List.map_append, List.nodup_append]
    exact ⟨h.nodup, by simp, fun a ha b hb e => h.free (by rw [List.map_cons, List.map_nil, List.mem_singleton] at hb; rw [← hb, ← e]; exact ha)⟩
theorem getD_drop (l : List Int) (i j : Nat) : (l.drop i).getD j 0 = l.getD (i + j) 0 := by simp [List.getD]
theorem getD_take {l : List Int} {i j : Nat} (h : j < i) : (l.take i).getD j 0 = l.getD j 0 := by simp [List.getD, h]
theorem nodup_getD {l : List Int} (h : l.Nodup) {i j : Nat} (hi : i < l.length) (hj : j < l.length) (e : l.getD i 0 = l.getD j 0) : i = j := by
  have e1 : l.getD i 0 = l[i] := by simp [List.getD, hi]
  have e2 : l.getD j 0 = l[j] := by simp [List.getD, hj]
  rw [e1, e2] at e
  exact (List.getElem_inj h).1 e
/-- WHAT IS CUT OFF IS A CYCLE, if it isn't there and back again. -/
theorem cut_cycle {g : Gr} {p : Pt} {l : List Int} (hpe : p.err g = 0) (h0 : 0 < l.length) (hs : ∀ x ∈ l, x ∈ p.darts) (hl : ∀ i, i + 1 < l.length → g.head (l.getD i 0) = g.tail (l.getD (i + 1) 0)) (hn : (l.map g.tail).Nodup) (hc : g.head (l.getD (l.length - 1) 0) = g.tail (l.getD 0 0)) (hb : ¬ isBack l) : cycOk g p l = true := by
  have link : ∀ i, i < l.length → g.head (l.getD i 0) = g.tail (l.getD (if i + 1 < l.length then i + 1 else 0) 0) := fun i hi => by
    split
    · rename_i h; exact hl i h
    · rename_i h
      rw [← hc, show l.length - 1 = i by omega]
  have tinj : ∀ i j, i < l.length → j < l.length → g.tail (l.getD i 0) = g.tail (l.getD j 0) → i = j := fun i j hi hj e => by
    refine nodup_getD hn (by simpa using hi) (by simpa using hj) ?_
    have q : ∀ k, k < l.length → (l.map g.tail).getD k 0 = g.tail (l.getD k 0) := fun k hk => by simp [List.getD, hk]
    rw [q i hi, q j hj, e]
  have enew : ∀ i, i < l.length → ∀ k, k < i → l.getD k 0 / 2 ≠ l.getD i 0 / 2 := fun i hi k hk e => by
    have hki : k < l.length := by omega
    by_cases q : l.getD k 0 = l.getD i 0
    · have := tinj k i hki hi (by rw [q]); omega
    · have ht : l.getD i 0 = twin (l.getD k 0) := by unfold twin; split <;> omega
      have h1 : g.tail (l.getD i 0) = g.head (l.getD k 0) := by rw [ht, tail_twin]
      have h2 : g.tail (l.getD k 0) = g.head (l.getD i 0) := by rw [← twin_twin (l.getD k 0), ← ht, tail_twin]
      rw [link k hki] at h1
      rw [link i hi] at h2
      have e1 := tinj _ _ hi (by split <;> omega) h1
      have e2 := tinj _ _ hki (by split <;> omega) h2
      have hk0 : k = 0 ∧ i = 1 ∧ l.length = 2 := by
        split at e1 <;> split at e2 <;> omega
      refine hb ⟨hk0.2.2, ?_⟩
      rw [hk0.1, hk0.2.1] at ht
      rw [ht, twin_twin]
  refine cyc_ok hpe h0 (fun k hk => ?_) fun k hk => ?_
  · have hm := hs _ (getD_mem hk)
    unfold dartAt
    have := Pt.edge_in hpe (mem_darts.1 hm)
    exact decide_eq_true ⟨by omega, mem_darts.1 hm⟩
  · unfold cycAt
    rw [lastAt_none.2 fun i hi q => by have := tinj i k (by omega) hk q; omega, lastAt_none.2 fun i hi => enew k hk i hi]
    have : g.head (befAt l k) = g.tail (l.getD k 0) := by
      by_cases e : k = 0
      · subst e; exact hc
      · have hb2 := befAt_succ l (k - 1)
        rw [show k - 1 + 1 = k by omega] at hb2
        rw [hb2]
        have := hl (k - 1) (by omega)
        rwa [show k - 1 + 1 = k by omega] at this
    rw [decide_eq_true this]
    rfl
/-- ALL CYCLES AROUND A LINKED WALK are cycles, of its darts. -/
theorem around_cycles {g : Gr} {p : Pt} {D : List Int} (hpe : p.err g = 0) (hs : ∀ x ∈ D, x ∈ p.darts) (hl : ∀ i, i + 1 < D.length → g.head (D.getD i 0) = g.tail (D.getD (i + 1) 0)) :
    ∀ k, k ≤ D.length → (∀ c ∈ (arTo g D k).1, cycOk g p c = true ∧ (∀ x ∈ c, x ∈ D)) ∧ (k < D.length → WayOk g D (arTo g D k).2 (g.tail (D.getD k 0)))
  | 0, _ => ⟨by simp [arTo], fun _ => way_nil _ _ _⟩
  | k + 1, hk => by
    obtain ⟨h1, h2⟩ := around_cycles hpe hs hl k (by omega)
    have hw := h2 (by omega)
    have hd : D.getD k 0 ∈ D := getD_mem (by omega)
    obtain ⟨w1, w2, w3⟩ := way_push hw hd
    rw [arTo_succ]
    have hnx : k + 1 < D.length → g.head (D.getD k 0) = g.tail (D.getD (k + 1) 0) := fun h => hl k h
    generalize hd2 : D.getD k 0 = d at *
    generalize arTo g D k = st at *
    unfold arStep
    have hlast : (st.2 ++ [d]).getD ((st.2 ++ [d]).length - 1) 0 = d := by
      rw [show (st.2 ++ [d]).length - 1 = st.2.length by simp]; exact getD_snoc_eq
    generalize hg : st.2 ++ [d] = gn at *
    cases hb : backAt g gn (g.head d) with
    | none =>
      refine ⟨h1, fun hlt => ⟨w1, w2, w3, fun _ => ?_, ?_⟩⟩
      · show g.head (gn.getD (gn.length - 1) 0) = _
        rw [hlast]; exact hnx hlt
      · intro q
        obtain ⟨x, hx, e⟩ := List.mem_map.1 q
        exact backAt_none hb x hx (by rw [e, hnx hlt])
    | some i =>
      obtain ⟨b1, b2, b3⟩ := backAt_some hb
      refine ⟨?_, fun hlt => ⟨fun x hx => w1 x (List.mem_of_mem_take hx), fun j hj => ?_, ?_, fun h0 => ?_, ?_⟩⟩
      · have hcut : ¬ isBack (gn.drop i) → cycOk g p (gn.drop i) = true ∧ ∀ x ∈ gn.drop i, x ∈ D := fun hbk => by
          refine ⟨cut_cycle hpe (by rw [List.length_drop]; omega) (fun x hx => hs x (w1 x (List.mem_of_mem_drop hx))) (fun j hj => ?_) ?_ ?_ hbk, fun x hx => w1 x (List.mem_of_mem_drop hx)⟩
          · rw [List.length_drop] at hj
            rw [getD_drop, getD_drop, ← Nat.add_assoc]
            exact w2 (i + j) (by omega)
          · rw [List.map_drop]
            exact w3.sublist (List.drop_sublist _ _)
          · rw [getD_drop, getD_drop, List.length_drop, show i + (gn.length - i - 1) = gn.length - 1 by omega, hlast, Nat.add_zero, b2]
        intro c hc
        show cycOk g p c = true ∧ _
        replace hc : c ∈ (if isBack (gn.drop i) then st.1 else st.1 ++ [gn.drop i]) := hc
        by_cases hbk : isBack (gn.drop i)
        · rw [if_pos hbk] at hc; exact h1 c hc
        · rw [if_neg hbk] at hc
          rcases List.mem_append.1 hc with q | q
          · exact h1 c q
          · rw [List.mem_singleton.1 q]; exact hcut hbk
      · show g.head ((gn.take i).getD j 0) = g.tail ((gn.take i).getD (j + 1) 0)
        have hj2 : j + 1 < (gn.take i).length := hj
        rw [List.length_take] at hj2
        rw [getD_take (by omega), getD_take (by omega)]
        exact w2 j (by omega)
      · show ((gn.take i).map g.tail).Nodup
        rw [List.map_take]
        exact w3.sublist (List.take_sublist _ _)
      · show g.head ((gn.take i).getD ((gn.take i).length - 1) 0) = _
        have h0 : 0 < (gn.take i).length := h0
        rw [List.length_take] at h0 ⊢
        rw [Nat.min_eq_left (by omega)] at h0 ⊢
        rw [getD_take (by omega)]
        have := w2 (i - 1) (by omega)
        rw [show i - 1 + 1 = i by omega] at this
        rw [this, b2, hnx hlt]
      · show g.tail (D.getD (k + 1) 0) ∉ (gn.take i).map g.tail
        rw [← hnx hlt, ← b2]
        intro q
        obtain ⟨x, hx, e⟩ := List.mem_map.1 q
        obtain ⟨j, hj, rfl⟩ := mem_getD hx
        rw [List.length_take] at hj
        rw [getD_take (by omega)] at e
        exact b3 j (by omega) (e.trans b2)

/-- A face's darts are linked. -/
theorem face_linked {g : Gr} {p : Pt} {turn : List (List Int)} {W : List Face} (hpe : p.err g = 0) (ht : TurnsOk g p turn) (hW : WalksOk g p turn W) {f : Face} (hf : f ∈ W) : (∀ x ∈ f.2, x ∈ p.darts) ∧ ∀ i, i + 1 < f.2.length → g.head (f.2.getD i 0) = g.tail (f.2.getD (i + 1) 0) := by
  obtain ⟨F, e, hT⟩ := hW.split
  have hpo := Pt.ok_of_err hpe
  rw [e] at hf
  rcases List.mem_append.1 hf with q | q
  · obtain ⟨v, -, rfl⟩ := List.mem_map.1 q
    exact ⟨by simp, by simp⟩
  · have hm : f.2 ∈ F.map (·.2) := List.mem_map.2 ⟨f, q, rfl⟩
    have hsub : ∀ x ∈ f.2, x ∈ p.darts := fun x hx => hT.sub x (List.mem_flatten.2 ⟨f.2, hm, hx⟩)
    obtain ⟨l, hl⟩ := hT.key f q
    have hr := hT.rings.ring f.2 hm
    rw [hl] at hr hsub ⊢
    refine ⟨hsub, fun i hi => ?_⟩
    have hi : i + 1 < l.length + 1 := by simpa using hi
    have h1 := ring_at hr (k := i) (by omega)
    have h2 : (l ++ [f.1]).getD i 0 = (f.1 :: l).getD (i + 1) 0 := by simp [List.getD, List.getElem?_append_left (show i < l.length by omega)]
    rw [← h2, ← h1]
    exact (next_tail ht (fun _ hd => hpo.vr _ (hpo.tail_mem hd).1) (hsub _ (getD_mem (by simp; omega)))).2.symm
end Go.Proofs.Ytfgbkpbakignhaa.Plain
