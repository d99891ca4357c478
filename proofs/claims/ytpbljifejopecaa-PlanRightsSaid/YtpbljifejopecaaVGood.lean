/- Lists that are turns, met dart by dart. No program here. -/
import Derived.Test.YtpbljifejopecaaVPerm
namespace Go.Proofs.Ytpbljifejopecaa.Plain

theorem len_le_of_sub : ∀ {l m : List Int}, l.Nodup → (∀ x ∈ l, x ∈ m) → l.length ≤ m.length
  | [], _, _, _ => Nat.zero_le _
  | x :: l, m, h, hs => by
    rw [List.nodup_cons] at h
    obtain ⟨a, b, rfl⟩ := List.append_of_mem (hs x (by simp))
    have h2 := len_le_of_sub h.2 (m := a ++ b) (fun y hy => by
      have h3 := hs y (by simp [hy])
      have h4 : y ≠ x := fun e => h.1 (e ▸ hy)
      simp only [List.mem_append, List.mem_cons] at h3 ⊢
      rcases h3 with q | q | q
      · exact Or.inl q
      · exact absurd q h4
      · exact Or.inr q)
    simp only [List.length_append, List.length_cons] at h2 ⊢
    omega

/-- The darts in the first k rows and the first j of the next. -/
def seen (turn : List (List Int)) (k j : Nat) : List Int := (turn.take k).flatten ++ (turn.getD k []).take j

theorem take_snoc {l : List Int} {j : Nat} (hj : j < l.length) : l.take (j + 1) = l.take j ++ [l.getD j 0] := by
  rw [List.take_succ_eq_append_getElem hj]
  simp [List.getD, hj]
theorem nodup_flat {L : List (List Int)} : L.flatten.Nodup ↔ (∀ l ∈ L, l.Nodup) ∧ L.Pairwise fun a b => ∀ x ∈ a, ∀ y ∈ b, x ≠ y := List.pairwise_flatten
theorem seen_zero (turn : List (List Int)) : seen turn 0 0 = [] := by simp [seen]
theorem seen_next {turn : List (List Int)} {k j : Nat} (hj : j < (turn.getD k []).length) : seen turn k (j + 1) = seen turn k j ++ [(turn.getD k []).getD j 0] := by
  unfold seen
  rw [List.append_assoc, take_snoc hj]
theorem seen_row {turn : List (List Int)} {k : Nat} (hk : k < turn.length) : seen turn (k + 1) 0 = seen turn k (turn.getD k []).length := by
  unfold seen
  rw [List.take_succ_eq_append_getElem hk, List.take_zero, List.append_nil, List.flatten_append, List.take_length]
  simp [List.getD, hk]
theorem seen_all (turn : List (List Int)) : seen turn turn.length 0 = turn.flatten := by simp [seen]

/-- All that has been met is right. -/
structure Good (g : Gr) (p : Pt) (turn : List (List Int)) (k j : Nat) : Prop where
  nodup : (seen turn k j).Nodup
  rows : ∀ i, i < k → ∀ d ∈ turn.getD i [], d ∈ p.darts ∧ g.tail d = (i : Int)
  last : ∀ d ∈ (turn.getD k []).take j, d ∈ p.darts ∧ g.tail d = (k : Int)

theorem Good.start (g : Gr) (p : Pt) (turn : List (List Int)) : Good g p turn 0 0 := ⟨by rw [seen_zero]; exact List.nodup_nil, fun i hi => by omega, by simp⟩
theorem Good.next {g : Gr} {p : Pt} {turn : List (List Int)} {k j : Nat} (h : Good g p turn k j) (hj : j < (turn.getD k []).length) (hd : (turn.getD k []).getD j 0 ∈ p.darts) (ht : g.tail ((turn.getD k []).getD j 0) = (k : Int)) (hn : (turn.getD k []).getD j 0 ∉ seen turn k j) : Good g p turn k (j + 1) := by
  refine ⟨?_, h.rows, fun d hd' => ?_⟩
  · rw [seen_next hj, List.nodup_append]
    exact ⟨h.nodup, by simp, fun a ha b hb e => by simp at hb; subst hb; subst e; exact hn ha⟩
  · rw [take_snoc hj, List.mem_append] at hd'
    rcases hd' with q | q
    · exact h.last d q
    · have e : d = (turn.getD k []).getD j 0 := List.mem_singleton.1 q
      rw [e]; exact ⟨hd, ht⟩
theorem Good.row {g : Gr} {p : Pt} {turn : List (List Int)} {k : Nat} (h : Good g p turn k (turn.getD k []).length) (hk : k < turn.length) : Good g p turn (k + 1) 0 := by
  refine ⟨by rw [seen_row hk]; exact h.nodup, fun i hi d hd => ?_, by simp⟩
  by_cases e : i < k
  · exact h.rows i e d hd
  · obtain rfl : i = k := by omega
    exact h.last d (by rw [List.take_length]; exact hd)

theorem mem_turn {turn : List (List Int)} {v : Nat} {d : Int} (h : d ∈ turn.getD v []) : d ∈ turn.flatten := by
  by_cases hv : v < turn.length
  · refine List.mem_flatten.2 ⟨turn.getD v [], ?_, h⟩
    simp [List.getD, hv]
  · simp [List.getD, Nat.not_lt.1 hv] at h

theorem turn_of_mem {turn : List (List Int)} {d : Int} (h : d ∈ turn.flatten) : ∃ v, v < turn.length ∧ d ∈ turn.getD v [] := by
  obtain ⟨l, hl, hd⟩ := List.mem_flatten.1 h
  obtain ⟨i, hi, rfl⟩ := List.getElem_of_mem hl
  exact ⟨i, hi, by simpa [List.getD, hi] using hd⟩

/-- All have been met, and are as many as there are darts. -/
theorem Good.turns {g : Gr} {p : Pt} {turn : List (List Int)} (_hp : PartOk g p) (hn : (turn.length : Int) = g.n) (h : Good g p turn turn.length 0) (hl : turn.flatten.length = 2 * p.e.length) : TurnsOk g p turn := by
  have hnd : turn.flatten.Nodup := by have := h.nodup; rwa [seen_all] at this
  have hsub : ∀ d ∈ turn.flatten, d ∈ p.darts := fun d hd => by
    obtain ⟨v, hv, hd⟩ := turn_of_mem hd
    exact (h.rows v hv d hd).1
  have hsup : ∀ d ∈ p.darts, d ∈ turn.flatten := fun d hd => by
    refine Classical.byContradiction fun hno => ?_
    have := len_le_of_sub (l := d :: turn.flatten) (m := p.darts) (by rw [List.nodup_cons]; exact ⟨hno, hnd⟩) (fun x hx => by
      rcases List.mem_cons.1 hx with q | q
      · rw [q]; exact hd
      · exact hsub x q)
    rw [List.length_cons, darts_length] at this
    omega
  refine ⟨hn, fun v => ?_, fun v hv0 hv1 d => ⟨fun hd => ?_, fun hd => ?_⟩⟩
  · unfold turnAt
    by_cases hv : v.toNat < turn.length
    · have : turn.getD v.toNat [] ∈ turn := by simp [List.getD, hv]
      exact (nodup_flat.1 hnd).1 _ this
    · simp [List.getD, Nat.not_lt.1 hv]
  · have := h.rows v.toNat (by omega) d hd
    refine ⟨this.1, by omega⟩
  · obtain ⟨u, hu, hdu⟩ := turn_of_mem (hsup d hd.1)
    have := (h.rows u hu d hdu).2
    have e : u = v.toNat := by omega
    subst e
    exact hdu

theorem TurnsOk.row {g : Gr} {p : Pt} {turn : List (List Int)} (h : TurnsOk g p turn) {i : Nat} (hi : i < turn.length) {d : Int} (hd : d ∈ turn.getD i []) : d ∈ p.darts ∧ g.tail d = (i : Int) := by
  have := (h.mem (i : Int) (by omega) (by have := h.len; omega) d).1 (by unfold turnAt; simpa using hd)
  exact this

theorem TurnsOk.flat_nodup {g : Gr} {p : Pt} {turn : List (List Int)} (h : TurnsOk g p turn) : turn.flatten.Nodup := by
  rw [nodup_flat]
  refine ⟨fun l hl => ?_, ?_⟩
  · obtain ⟨i, hi, rfl⟩ := List.getElem_of_mem hl
    have := h.nodup (i : Int)
    unfold turnAt at this
    simpa [List.getD, hi] using this
  · rw [List.pairwise_iff_getElem]
    intro i j hi hj hij x hx y hy e
    subst e
    have h1 := (h.row hi (d := x) (by simpa [List.getD, hi] using hx)).2
    have h2 := (h.row hj (d := x) (by simpa [List.getD, hj] using hy)).2
    omega

theorem TurnsOk.flat_len {g : Gr} {p : Pt} {turn : List (List Int)} (hp : PartOk g p) (h : TurnsOk g p turn) : turn.flatten.length = 2 * p.e.length := by
  rw [← darts_length]
  refine Nat.le_antisymm (len_le_of_sub h.flat_nodup fun d hd => ?_) (len_le_of_sub (darts_nodup hp.en) fun d hd => ?_)
  · obtain ⟨v, hv, hd⟩ := turn_of_mem hd
    exact (h.row hv hd).1
  · have hv := hp.vr _ (hp.tail_mem hd).1
    have h1 : d ∈ turnAt turn (g.tail d) := (h.mem (g.tail d) hv.1 hv.2 d).2 ⟨hd, rfl⟩
    exact mem_turn h1

theorem seen_sub (turn : List (List Int)) (k j : Nat) : ∃ r, turn.flatten = seen turn k j ++ r := by
  by_cases hk : k < turn.length
  · refine ⟨(turn.getD k []).drop j ++ (turn.drop (k + 1)).flatten, ?_⟩
    have e : turn = turn.take k ++ turn.getD k [] :: turn.drop (k + 1) := by
      have : turn.getD k [] = turn[k] := by simp [List.getD, hk]
      rw [this, List.getElem_cons_drop, List.take_append_drop]
    conv => lhs; rw [e]
    unfold seen
    rw [List.flatten_append, List.flatten_cons, List.append_assoc, ← List.append_assoc ((turn.getD k []).take j), List.take_append_drop]
  · refine ⟨[], ?_⟩
    unfold seen
    rw [List.take_of_length_le (by omega)]
    simp [List.getD, Nat.not_lt.1 hk]

/-- In turns nothing is met twice. -/
theorem TurnsOk.once {g : Gr} {p : Pt} {turn : List (List Int)} (h : TurnsOk g p turn) {k j : Nat} (hj : j < (turn.getD k []).length) : (turn.getD k []).getD j 0 ∉ seen turn k j := by
  intro hm
  obtain ⟨r, hr⟩ := seen_sub turn k (j + 1)
  have hn := h.flat_nodup
  rw [hr, seen_next hj, List.nodup_append] at hn
  have := hn.1
  rw [List.nodup_append] at this
  exact this.2.2 _ hm _ (by simp) rfl

open Classical in
/-- The error of turns. -/
noncomputable def turnErr (g : Gr) (p : Pt) (turn : List (List Int)) : Int := if p.err g ≠ 0 then p.err g else if TurnsOk g p turn then 0 else 5

theorem turnErr_part {g : Gr} {p : Pt} {turn : List (List Int)} (h : p.err g ≠ 0) : turnErr g p turn = p.err g := if_pos h
theorem turnErr_bad {g : Gr} {p : Pt} {turn : List (List Int)} (h : p.err g = 0) (ht : ¬ TurnsOk g p turn) : turnErr g p turn = 5 := by
  unfold turnErr; rw [if_neg (by simp [h]), if_neg ht]
theorem turnErr_ok {g : Gr} {p : Pt} {turn : List (List Int)} (h : p.err g = 0) (ht : TurnsOk g p turn) : turnErr g p turn = 0 := by
  unfold turnErr; rw [if_neg (by simp [h]), if_pos ht]
theorem turnErr_zero {g : Gr} {p : Pt} {turn : List (List Int)} (h : turnErr g p turn = 0) : p.err g = 0 ∧ TurnsOk g p turn := by
  by_cases h1 : p.err g = 0
  · refine ⟨h1, Classical.byContradiction fun h2 => ?_⟩
    rw [turnErr_bad h1 h2] at h
    cases h
  · rw [turnErr_part h1] at h; exact absurd h h1

/-- What is known of the darts of the first k edges. -/
def leavesOf (g : Gr) (p : Pt) (k : Nat) : Int → Option Int := fun d => if d ∈ Pt.darts ⟨[], p.e.take k⟩ then some (g.tail d) else none
theorem darts_take {p : Pt} {k : Nat} (hk : k < p.e.length) : Pt.darts ⟨[], p.e.take (k + 1)⟩ = Pt.darts ⟨[], p.e.take k⟩ ++ [2 * p.e.getD k 0, 2 * p.e.getD k 0 + 1] := by
  unfold Pt.darts
  rw [List.take_succ_eq_append_getElem hk, List.flatMap_append]
  simp [List.getD, hk]
theorem leavesOf_zero (g : Gr) (p : Pt) : leavesOf g p 0 = fun _ => none := by funext d; simp [leavesOf, Pt.darts]
theorem leavesOf_all (g : Gr) (p : Pt) : leavesOf g p p.e.length = fun d => if d ∈ p.darts then some (g.tail d) else none := by
  funext d; unfold leavesOf; rw [List.take_length]; rfl
theorem leavesOf_next {g : Gr} {p : Pt} {k e : Nat} (hk : k < p.e.length) (he : p.e.getD k 0 = (e : Int)) :
    leavesOf g p (k + 1) = fun y => if y = 2 * (e : Int) + 1 then some (g.ends e).2 else if y = 2 * (e : Int) then some (g.ends e).1 else leavesOf g p k y := by
  funext y
  unfold leavesOf
  rw [darts_take hk, he]
  have t0 : g.tail (2 * (e : Int)) = (g.ends e).1 := by unfold Gr.tail Gr.at; rw [if_pos (by omega)]; congr 2; omega
  have t1 : g.tail (2 * (e : Int) + 1) = (g.ends e).2 := by unfold Gr.tail Gr.at; rw [if_neg (by omega)]; congr 2; omega
  simp only [List.mem_append, List.mem_cons, List.not_mem_nil, or_false]
  by_cases h1 : y = 2 * (e : Int) + 1
  · subst h1; simp [t1]
  · by_cases h2 : y = 2 * (e : Int)
    · subst h2; rw [if_neg h1, if_pos rfl, t0, if_pos (by simp)]
    · simp [h1, h2]
theorem leavesOf_new {g : Gr} {p : Pt} (hp : p.e.Pairwise (· < ·)) {k : Nat} (hk : k < p.e.length) {d : Int} (hd : d / 2 = p.e.getD k 0) : leavesOf g p k d = none := by
  unfold leavesOf
  refine if_neg fun h => ?_
  rw [mem_darts, hd] at h
  obtain ⟨i, hi, e⟩ := List.getElem_of_mem h
  rw [List.length_take] at hi
  rw [List.getElem_take] at e
  have := List.pairwise_iff_getElem.1 hp i k (by omega) hk (by omega)
  rw [e] at this
  simp [List.getD, hk] at this

end Go.Proofs.Ytpbljifejopecaa.Plain
/- Walks around faces, made one by one. No program here. -/
namespace Go.Proofs.Ytpbljifejopecaa.Plain

theorem next_mem {g : Gr} {p : Pt} {turn : List (List Int)} (hp : PartOk g p) (ht : TurnsOk g p turn) {x : Int} (hx : x ∈ p.darts) : nextDart g turn x ∈ p.darts :=
  (next_tail ht (fun _ hd => hp.vr _ (hp.tail_mem hd).1) hx).1

theorem next_inj {g : Gr} {p : Pt} {turn : List (List Int)} (hp : PartOk g p) (ht : TurnsOk g p turn) {x y : Int} (hx : x ∈ p.darts) (hy : y ∈ p.darts) (e : nextDart g turn x = nextDart g turn y) : x = y := by
  obtain ⟨h1, h2⟩ := before_rings ht hp.en hp.vn hp.vr
  have hm : ∀ z, z ∈ p.darts → twin z ∈ ((busy turn p.v).map fun v => (turnAt turn v).reverse).flatten := fun z hz =>
    h2.mem_iff.2 (List.mem_filter.2 ⟨twin_mem hz, decide_eq_true (hp.tail_mem (twin_mem hz)).1⟩)
  have := h1.inj _ (hm x hx) _ (hm y hy) e
  rw [← twin_twin x, this, twin_twin]

/-- All darts of some walks. -/
def flat (F : List Face) : List Int := (F.map (·.2)).flatten
theorem flat_snoc (F : List Face) (f : Face) : flat (F ++ [f]) = flat F ++ f.2 := by simp [flat]

/-- The walks that were made when the darts of pre had been looked at. -/
structure Trk (g : Gr) (p : Pt) (turn : List (List Int)) (F : List Face) (pre : List Int) : Prop where
  rings : Rings (nextDart g turn) (F.map (·.2))
  sub : ∀ x ∈ flat F, x ∈ p.darts
  key : ∀ f ∈ F, ∃ l, f.2 = f.1 :: l
  keys : (F.map (·.1)).Sublist pre
  least : ∀ f ∈ F, ∃ a b, pre = a ++ f.1 :: b ∧ ∀ y ∈ f.2, y ∉ a
  cover : ∀ x ∈ pre, x ∈ flat F

theorem Trk.start (g : Gr) (p : Pt) (turn : List (List Int)) : Trk g p turn [] [] := ⟨⟨by simp, by simp⟩, by simp [flat], by simp, by simp, by simp, by simp⟩

theorem Trk.skip {g : Gr} {p : Pt} {turn : List (List Int)} {F : List Face} {pre : List Int} (h : Trk g p turn F pre) {d : Int} (hd : d ∈ flat F) : Trk g p turn F (pre ++ [d]) := by
  refine ⟨h.rings, h.sub, h.key, h.keys.trans (List.sublist_append_left _ _), fun f hf => ?_, fun x hx => ?_⟩
  · obtain ⟨a, b, e, ha⟩ := h.least f hf
    exact ⟨a, b ++ [d], by rw [e]; simp, ha⟩
  · rcases List.mem_append.1 hx with q | q
    · exact h.cover x q
    · rw [List.mem_singleton.1 q]; exact hd

/-- The way of one walk: from d by L to x. -/
structure Cur (g : Gr) (p : Pt) (turn : List (List Int)) (F : List Face) (d : Int) (L : List Int) (x : Int) : Prop where
  nodup : L.Nodup
  sub : ∀ y ∈ L, y ∈ p.darts ∧ y ∉ flat F
  way : (L = [] ∧ x = d) ∨ ∃ l, L = d :: l ∧ Trail (nextDart g turn) d l x
  mem : x ∈ p.darts

theorem Cur.start {g : Gr} {p : Pt} {turn : List (List Int)} {F : List Face} {d : Int} (hd : d ∈ p.darts) : Cur g p turn F d [] d := ⟨by simp, by simp, Or.inl ⟨rfl, rfl⟩, hd⟩

theorem Cur.step {g : Gr} {p : Pt} {turn : List (List Int)} {F : List Face} {d x : Int} {L : List Int} (hp : PartOk g p) (ht : TurnsOk g p turn) (h : Cur g p turn F d L x) (h1 : x ∉ flat F) (h2 : x ∉ L) : Cur g p turn F d (L ++ [x]) (nextDart g turn x) := by
  refine ⟨?_, fun y hy => ?_, Or.inr ?_, next_mem hp ht h.mem⟩
  · rw [List.nodup_append]
    exact ⟨h.nodup, by simp, fun a ha b hb e => by simp at hb; subst hb; subst e; exact h2 ha⟩
  · rcases List.mem_append.1 hy with q | q
    · exact h.sub y q
    · rw [List.mem_singleton.1 q]; exact ⟨h.mem, h1⟩
  · rcases h.way with ⟨rfl, rfl⟩ | ⟨l, rfl, ht⟩
    · exact ⟨[], rfl, rfl⟩
    · exact ⟨l ++ [x], rfl, Trail.append.2 ⟨ht, rfl⟩⟩

theorem trail_at {q : Int → Int} {z : Int} : ∀ {l : List Int} {a : Int}, Trail q a l z → ∀ y ∈ a :: l, q y ∈ l ∨ (q y = z ∧ ∃ m, a :: l = m ++ [y])
  | [], a, h, y, hy => by
    simp at hy; subst hy
    exact Or.inr ⟨h, [], rfl⟩
  | b :: l, a, h, y, hy => by
    rcases List.mem_cons.1 hy with rfl | hy
    · exact Or.inl (by rw [h.1]; simp)
    · rcases trail_at h.2 y hy with r | ⟨r, m, e⟩
      · exact Or.inl (by simp [r])
      · exact Or.inr ⟨r, a :: m, by rw [e]; rfl⟩

theorem trail_last {q : Int → Int} {z : Int} : ∀ {l : List Int} {a : Int}, Trail q a l z → ∃ m y, a :: l = m ++ [y] ∧ q y = z
  | [], a, h => ⟨[], a, rfl, h⟩
  | b :: l, a, h => by
    obtain ⟨m, y, e, hy⟩ := trail_last h.2
    exact ⟨a :: m, y, by rw [e]; rfl, hy⟩

theorem trail_pred {q : Int → Int} {z : Int} : ∀ {l : List Int} {a : Int}, Trail q a l z → ∀ x ∈ l, ∃ m y r, a :: l = m ++ y :: x :: r ∧ q y = x
  | [], a, _, x, hx => by simp at hx
  | b :: l, a, h, x, hx => by
    rcases List.mem_cons.1 hx with rfl | hx
    · exact ⟨[], a, l, rfl, h.1⟩
    · obtain ⟨m, y, r, e, hy⟩ := trail_pred h.2 x hx
      exact ⟨a :: m, y, r, by rw [e]; rfl, hy⟩

/-- The way has come to an end: it is a ring. -/
theorem Cur.ring {g : Gr} {p : Pt} {turn : List (List Int)} {F : List Face} {pre : List Int} {d x : Int} {L : List Int} (hp : PartOk g p) (ht : TurnsOk g p turn) (hF : Trk g p turn F pre) (h : Cur g p turn F d L x) (hL : L ≠ []) (hx : x ∈ flat F ∨ x ∈ L) : ∃ l, L = d :: l ∧ Ring (nextDart g turn) L := by
  rcases h.way with ⟨rfl, -⟩ | ⟨l, rfl, hw⟩
  · exact absurd rfl hL
  refine ⟨l, rfl, ?_⟩
  obtain ⟨m, z, e, hz⟩ := trail_last hw
  have hzL : z ∈ d :: l := by rw [e]; simp
  have hzd := h.sub z hzL
  rcases hx with q | q
  · obtain ⟨y, hy, hyx⟩ := hF.rings.pred (x := x) q
    have : y = z := next_inj hp ht (hF.sub y hy) hzd.1 (hyx.trans hz.symm)
    subst this
    exact absurd hy hzd.2
  · rcases List.mem_cons.1 q with rfl | q
    · exact hw
    · obtain ⟨m', y, r, e', hy⟩ := trail_pred hw x q
      have hyL : y ∈ d :: l := by rw [e']; simp
      have : y = z := next_inj hp ht (h.sub y hyL).1 hzd.1 (hy.trans hz.symm)
      subst this
      exfalso
      have hn := h.nodup
      have e2 : m' ++ y :: x :: r = m ++ [y] := e'.symm.trans e
      have hlen := congrArg List.length e2
      simp at hlen
      have g1 : (m' ++ y :: x :: r)[m'.length]? = some y := by simp
      rw [e] at hn
      rw [e2, List.getElem?_append_left (by omega)] at g1
      exact (List.nodup_append.1 hn).2.2 y (List.mem_of_getElem? g1) y (by simp) rfl

theorem Trk.add {g : Gr} {p : Pt} {turn : List (List Int)} {F : List Face} {pre : List Int} {d : Int} {L : List Int} (h : Trk g p turn F pre) (hn : L.Nodup) (hs : ∀ y ∈ L, y ∈ p.darts ∧ y ∉ flat F) (hr : ∃ l, L = d :: l ∧ Ring (nextDart g turn) L) : Trk g p turn (F ++ [(d, L)]) (pre ++ [d]) := by
  obtain ⟨l, e, hring⟩ := hr
  have hfl := flat_snoc F (d, L)
  refine ⟨⟨fun c hc => ?_, ?_⟩, fun x hx => ?_, fun f hf => ?_, ?_, fun f hf => ?_, fun x hx => ?_⟩
  · rw [List.map_append, List.mem_append] at hc
    rcases hc with q | q
    · exact h.rings.ring c q
    · simp at q; rw [q]; exact hring
  · show (flat (F ++ [(d, L)])).Nodup
    rw [hfl, List.nodup_append]
    exact ⟨h.rings.nodup, hn, fun a ha b hb q => (hs b hb).2 (q ▸ ha)⟩
  · rw [hfl, List.mem_append] at hx
    exact hx.elim (h.sub x) (fun q => (hs x q).1)
  · rcases List.mem_append.1 hf with q | q
    · exact h.key f q
    · rw [List.mem_singleton.1 q]; exact ⟨l, e⟩
  · rw [List.map_append]
    exact h.keys.append (List.Sublist.refl _)
  · rcases List.mem_append.1 hf with q | q
    · obtain ⟨a, b, e1, ha⟩ := h.least f q
      exact ⟨a, b ++ [d], by rw [e1]; simp, ha⟩
    · rw [List.mem_singleton.1 q]
      exact ⟨pre, [], rfl, fun y hy hm => (hs y hy).2 (h.cover y hm)⟩
  · rw [hfl, List.mem_append]
    rcases List.mem_append.1 hx with q | q
    · exact Or.inl (h.cover x q)
    · rw [List.mem_singleton.1 q, e]; exact Or.inr (by simp)

/-- The keys of the vertices without darts, rising. -/
def loneAt (turn : List (List Int)) (l : List Int) : List Face := (l.reverse.filter fun v => (turnAt turn v).isEmpty).map fun v => (-1 - v, [])
theorem loneAt_step (turn : List (List Int)) (v : Int) (l : List Int) : loneAt turn (v :: l) = loneAt turn l ++ (if (turnAt turn v).isEmpty then [(-1 - v, [])] else []) := by
  unfold loneAt
  rw [List.reverse_cons, List.filter_append, List.map_append]
  congr 1
  cases hq : (turnAt turn v).isEmpty <;> simp [hq]

/-- All walks: what face.Walks makes. -/
structure WalksOk (g : Gr) (p : Pt) (turn : List (List Int)) (W : List Face) : Prop where
  faces : FacesOk g p turn W
  split : ∃ F, W = loneAt turn p.v ++ F ∧ Trk g p turn F p.darts

theorem Trk.walks {g : Gr} {p : Pt} {turn : List (List Int)} {F : List Face} (hp : PartOk g p) (h : Trk g p turn F p.darts) : WalksOk g p turn (loneAt turn p.v ++ F) := by
  have hl1 : (loneAt turn p.v).filter (fun f => !f.2.isEmpty) = [] := by
    rw [List.filter_eq_nil_iff]
    intro f hf
    obtain ⟨v, -, rfl⟩ := List.mem_map.1 hf
    simp
  have hl2 : (loneAt turn p.v).filter (fun f => f.2.isEmpty) = loneAt turn p.v := by
    rw [List.filter_eq_self]
    intro f hf
    obtain ⟨v, -, rfl⟩ := List.mem_map.1 hf
    simp
  have hne : ∀ f ∈ F, f.2.isEmpty = false := fun f hf => by
    obtain ⟨l, e⟩ := h.key f hf
    rw [e]; rfl
  have hF1 : F.filter (fun f => !f.2.isEmpty) = F := List.filter_eq_self.2 fun f hf => by rw [hne f hf]; rfl
  have hF2 : F.filter (fun f => f.2.isEmpty) = [] := List.filter_eq_nil_iff.2 fun f hf => by rw [hne f hf]; simp
  refine ⟨⟨?_, ?_, fun f hf d l e => ?_, ?_⟩, F, rfl, h⟩
  · rw [List.filter_append, hl1, hF1]; exact h.rings
  · rw [List.filter_append, hl1, hF1]
    exact (List.perm_ext_iff_of_nodup h.rings.nodup (darts_nodup hp.en)).2 fun x => ⟨h.sub x, h.cover x⟩
  · rcases List.mem_append.1 hf with q | q
    · obtain ⟨v, -, rfl⟩ := List.mem_map.1 q
      cases e
    · obtain ⟨l', e'⟩ := h.key f q
      rw [e'] at e
      cases e; rfl
  · rw [List.filter_append, hl2, hF2, List.append_nil]
    unfold loneAt
    rw [List.map_map]
    exact ((List.reverse_perm p.v).filter _).map _

end Go.Proofs.Ytpbljifejopecaa.Plain
/- The walks of turns are determined; the error of turns that are not on spheres. No program here. -/
namespace Go.Proofs.Ytpbljifejopecaa.Plain

theorem darts_pair {p : Pt} (h : p.e.Pairwise (· < ·)) : p.darts.Pairwise (· < ·) := by
  obtain ⟨v, e⟩ := p
  unfold Pt.darts
  dsimp only at h ⊢
  induction e with
  | nil => simp
  | cons a l ih =>
    rw [List.pairwise_cons] at h
    rw [List.flatMap_cons, List.pairwise_append]
    refine ⟨by simp; omega, ih h.2, fun x hx y hy => ?_⟩
    obtain ⟨b, hb, hy⟩ := List.mem_flatMap.1 hy
    have := h.1 b hb
    simp at hx hy
    omega

theorem Trk.least' {g : Gr} {p : Pt} {turn : List (List Int)} {F : List Face} (h : Trk g p turn F p.darts) (hr : p.e.Pairwise (· < ·)) {f : Face} (hf : f ∈ F) {y : Int} (hy : y ∈ f.2) : f.1 ≤ y := by
  obtain ⟨a, b, e, ha⟩ := h.least f hf
  have hd := h.sub y (List.mem_flatten.2 ⟨f.2, List.mem_map.2 ⟨f, hf, rfl⟩, hy⟩)
  have hp := darts_pair hr
  rw [e] at hd hp
  rcases List.mem_append.1 hd with q | q
  · exact absurd q (ha y hy)
  · rcases List.mem_cons.1 q with q | q
    · omega
    · have := (List.pairwise_cons.1 (List.pairwise_append.1 hp).2.1).1 y q
      omega

theorem Trk.keysRise {g : Gr} {p : Pt} {turn : List (List Int)} {F : List Face} (h : Trk g p turn F p.darts) (hr : p.e.Pairwise (· < ·)) : (F.map (·.1)).Pairwise (· < ·) := (darts_pair hr).sublist h.keys

theorem Trk.sub' {g : Gr} {p : Pt} {turn : List (List Int)} {F F' : List Face} (h : Trk g p turn F p.darts) (h' : Trk g p turn F' p.darts) (hr : p.e.Pairwise (· < ·)) {f : Face} (hf : f ∈ F) : f ∈ F' := by
  obtain ⟨l, e⟩ := h.key f hf
  have hd : f.1 ∈ flat F' := h'.cover _ (h.sub _ (List.mem_flatten.2 ⟨f.2, List.mem_map.2 ⟨f, hf, rfl⟩, by rw [e]; simp⟩))
  obtain ⟨c, hc, hdc⟩ := List.mem_flatten.1 hd
  obtain ⟨f', hf', rfl⟩ := List.mem_map.1 hc
  obtain ⟨l', e'⟩ := h'.key f' hf'
  have hr1 := h.rings.ring f.2 (List.mem_map.2 ⟨f, hf, rfl⟩)
  have hr2 := h'.rings.ring f'.2 hc
  obtain ⟨m, hm, hperm⟩ := hr2.from hdc
  have hn1 : (f.1 :: l).Nodup := by
    rw [← e]
    exact (nodup_flat.1 h.rings.nodup).1 _ (List.mem_map.2 ⟨f, hf, rfl⟩)
  have hn2 : f'.2.Nodup := (nodup_flat.1 h'.rings.nodup).1 _ hc
  have hn3 : (f.1 :: m).Nodup := hperm.nodup_iff.2 hn2
  rw [e] at hr1
  have hlm : l = m := Trail.det (x := f.1) hr1 hm (List.nodup_cons.1 hn1).1 (List.nodup_cons.1 hn3).1
  subst hlm
  have h1 : f.1 ≤ f'.1 := h.least' hr hf (by rw [e]; exact hperm.mem_iff.2 (by rw [e']; simp))
  have h2 : f'.1 ≤ f.1 := h'.least' hr hf' hdc
  have hk : f.1 = f'.1 := by omega
  rw [e'] at hr2 hn2
  rw [← hk] at hr2 hn2
  have hll : l = l' := Trail.det (x := f.1) hr1 hr2 (List.nodup_cons.1 hn1).1 (List.nodup_cons.1 hn2).1
  have : f = f' := by
    obtain ⟨a, b⟩ := f
    obtain ⟨a', b'⟩ := f'
    dsimp only at e e' hk
    rw [e, e', hk, hll]
  rw [this]
  exact hf'

theorem keys_ext : ∀ {F F' : List Face}, (F.map (·.1)).Pairwise (· < ·) → (F'.map (·.1)).Pairwise (· < ·) → (∀ f, f ∈ F ↔ f ∈ F') → F = F'
  | [], [], _, _, _ => rfl
  | [], f :: F', _, _, h => by have := (h f).2 (by simp); simp at this
  | f :: F, [], _, _, h => by have := (h f).1 (by simp); simp at this
  | f :: F, f' :: F', h1, h2, h => by
    rw [List.map_cons, List.pairwise_cons] at h1 h2
    have a1 : ∀ x ∈ F, f.1 < x.1 := fun x hx => h1.1 x.1 (List.mem_map.2 ⟨x, hx, rfl⟩)
    have a2 : ∀ x ∈ F', f'.1 < x.1 := fun x hx => h2.1 x.1 (List.mem_map.2 ⟨x, hx, rfl⟩)
    have e : f = f' := by
      rcases List.mem_cons.1 ((h f).1 (by simp)) with q | q
      · exact q
      · rcases List.mem_cons.1 ((h f').2 (by simp)) with r | r
        · exact r.symm
        · have := a1 _ r; have := a2 _ q; omega
    subst e
    rw [keys_ext h1.2 h2.2 fun x => ⟨fun hx => ?_, fun hx => ?_⟩]
    · rcases List.mem_cons.1 ((h x).1 (by simp [hx])) with q | q
      · subst q; have := a1 _ hx; omega
      · exact q
    · rcases List.mem_cons.1 ((h x).2 (by simp [hx])) with q | q
      · subst q; have := a2 _ hx; omega
      · exact q

/-- The walks are determined. -/
theorem WalksOk.one {g : Gr} {p : Pt} {turn : List (List Int)} {W W' : List Face} (hr : p.e.Pairwise (· < ·)) (h : WalksOk g p turn W) (h' : WalksOk g p turn W') : W = W' := by
  obtain ⟨F, e, k⟩ := h.split
  obtain ⟨F', e', k'⟩ := h'.split
  rw [e, e', keys_ext (k.keysRise hr) (k'.keysRise hr) fun f => ⟨fun hf => k.sub' k' hr hf, fun hf => k'.sub' k hr hf⟩]

open Classical in
/-- The walks of turns. -/
noncomputable def walksOf (g : Gr) (p : Pt) (turn : List (List Int)) : List Face := if h : ∃ W, WalksOk g p turn W then Classical.choose h else []
theorem WalksOk.eq {g : Gr} {p : Pt} {turn : List (List Int)} {W : List Face} (hr : p.err g = 0) (h : WalksOk g p turn W) : W = walksOf g p turn := by
  have hex : ∃ W, WalksOk g p turn W := ⟨W, h⟩
  unfold walksOf
  rw [dif_pos hex]
  exact h.one (rises_pair (Pt.err_ok hr).2.2.1) (Classical.choose_spec hex)

/-- All pieces are on spheres. -/
def Flat (g : Gr) (p : Pt) (turn : List (List Int)) : Prop := ∀ r ∈ roots g p, genusAt g p (walksOf g p turn) r = 0
open Classical in
noncomputable def flatErr (g : Gr) (p : Pt) (turn : List (List Int)) : Int := if turnErr g p turn ≠ 0 then turnErr g p turn else if Flat g p turn then 0 else 6
theorem flatErr_turn {g : Gr} {p : Pt} {turn : List (List Int)} (h : turnErr g p turn ≠ 0) : flatErr g p turn = turnErr g p turn := if_pos h
theorem flatErr_ok {g : Gr} {p : Pt} {turn : List (List Int)} (h : turnErr g p turn = 0) (hf : Flat g p turn) : flatErr g p turn = 0 := by unfold flatErr; rw [if_neg (by simp [h]), if_pos hf]
theorem flatErr_bad {g : Gr} {p : Pt} {turn : List (List Int)} (h : turnErr g p turn = 0) (hf : ¬ Flat g p turn) : flatErr g p turn = 6 := by unfold flatErr; rw [if_neg (by simp [h]), if_neg hf]
theorem flatErr_zero {g : Gr} {p : Pt} {turn : List (List Int)} (h : flatErr g p turn = 0) : turnErr g p turn = 0 ∧ Flat g p turn := by
  by_cases h1 : turnErr g p turn = 0
  · refine ⟨h1, Classical.byContradiction fun h2 => ?_⟩
    rw [flatErr_bad h1 h2] at h; cases h
  · rw [flatErr_turn h1] at h; exact absurd h h1

/-- The keys of walks are rising. -/
theorem walks_keys {g : Gr} {p : Pt} {turn : List (List Int)} {W : List Face} (hr : p.err g = 0) (h : WalksOk g p turn W) : (W.map (·.1)).Pairwise (· < ·) := by
  obtain ⟨F, rfl, ht⟩ := h.split
  rw [List.map_append, List.pairwise_append]
  have hv := (Pt.err_ok hr).2.1
  have hpo := Pt.ok_of_err hr
  refine ⟨?_, ht.keysRise (rises_pair (Pt.err_ok hr).2.2.1), fun x hx y hy => ?_⟩
  · unfold loneAt
    rw [List.map_map, List.pairwise_map]
    refine (List.Pairwise.filter _ (List.pairwise_reverse.2 (rises_pair hv))).imp fun {a b} hab => ?_
    show -1 - a < -1 - b
    omega
  · obtain ⟨f, hf, rfl⟩ := List.mem_map.1 hx
    obtain ⟨v, hv2, rfl⟩ := List.mem_map.1 hf
    have hvm := hpo.vr v (List.mem_reverse.1 (List.mem_filter.1 hv2).1)
    have hd := ht.keys.subset hy
    rw [mem_darts] at hd
    have := hpo.er _ hd
    show -1 - v < y
    omega
end Go.Proofs.Ytpbljifejopecaa.Plain
/- The walk of each dart, begun with it; the walks of turns are those that begin with their least dart. No program here. -/
namespace Go.Proofs.Ytpbljifejopecaa.Plain

theorem rings_next {g : Gr} {p : Pt} {turn : List (List Int)} (hp : PartOk g p) (ht : TurnsOk g p turn) : ∃ C, Rings (nextDart g turn) C ∧ C.flatten.Perm p.darts := by
  obtain ⟨h1, h2⟩ := before_rings ht hp.en hp.vn hp.vr
  have hA := twin_rings hp.en
  have hl : leaving g p p.v = p.darts := List.filter_eq_self.2 fun d hd => decide_eq_true (hp.tail_mem hd).1
  have hd : (p.e.map fun e => [2 * e, 2 * e + 1]).flatten = p.darts := by rw [Pt.darts, List.flatMap_def]
  obtain ⟨C, h, k, -⟩ := Rings.mul _ rfl h1 hA (by rw [hd, ← hl]; exact h2.symm)
  exact ⟨C, h.congr fun x _ => rfl, by rw [hd] at k; exact k⟩

/-- The walk that begins with a dart. -/
structure Cyc (g : Gr) (p : Pt) (turn : List (List Int)) (d : Int) (l : List Int) : Prop where
  ring : Ring (nextDart g turn) (d :: l)
  nodup : (d :: l).Nodup
  sub : ∀ x ∈ d :: l, x ∈ p.darts

theorem cyc_some {g : Gr} {p : Pt} {turn : List (List Int)} (hp : PartOk g p) (ht : TurnsOk g p turn) {d : Int} (hd : d ∈ p.darts) : ∃ l, Cyc g p turn d l := by
  obtain ⟨C, hC, hperm⟩ := rings_next hp ht
  obtain ⟨c, hc, hdc⟩ := List.mem_flatten.1 (hperm.mem_iff.2 hd)
  obtain ⟨l, hl, hlp⟩ := (hC.ring c hc).from hdc
  exact ⟨l, hl, hlp.nodup_iff.2 ((nodup_flat.1 hC.nodup).1 c hc), fun x hx => hperm.mem_iff.1 (List.mem_flatten.2 ⟨c, hc, hlp.mem_iff.1 hx⟩)⟩

theorem Cyc.one {g : Gr} {p : Pt} {turn : List (List Int)} {d : Int} {l m : List Int} (h : Cyc g p turn d l) (k : Cyc g p turn d m) : l = m :=
  Trail.det (x := d) h.ring k.ring (List.nodup_cons.1 h.nodup).1 (List.nodup_cons.1 k.nodup).1

theorem Cyc.turn {g : Gr} {p : Pt} {turn : List (List Int)} {d x : Int} {l : List Int} (h : Cyc g p turn d l) (hx : x ∈ d :: l) : ∃ m, Cyc g p turn x m ∧ (x :: m).Perm (d :: l) := by
  obtain ⟨m, hm, hp⟩ := h.ring.from hx
  exact ⟨m, ⟨hm, hp.nodup_iff.2 h.nodup, fun y hy => h.sub y (hp.mem_iff.1 hy)⟩, hp⟩

open Classical in
/-- What follows a dart on its walk. -/
noncomputable def cycOf (g : Gr) (p : Pt) (turn : List (List Int)) (d : Int) : List Int := if h : ∃ l, Cyc g p turn d l then Classical.choose h else []
theorem cycOf_ok {g : Gr} {p : Pt} {turn : List (List Int)} (hp : PartOk g p) (ht : TurnsOk g p turn) {d : Int} (hd : d ∈ p.darts) : Cyc g p turn d (cycOf g p turn d) := by
  have h := cyc_some hp ht hd
  unfold cycOf
  rw [dif_pos h]
  exact Classical.choose_spec h

theorem ring_at {q : Int → Int} {d : Int} {l : List Int} (h : Ring q (d :: l)) {k : Nat} (hk : k ≤ l.length) : q ((d :: l).getD k 0) = (l ++ [d]).getD k 0 := by
  have e := Trail.map (show Trail q d l d from h)
  have e2 : ((d :: l).map q)[k]? = (l ++ [d])[k]? := by rw [e]
  rw [List.getElem?_map] at e2
  have h1 : (d :: l)[k]? = some ((d :: l).getD k 0) := by
    rw [List.getElem?_eq_getElem (by simp; omega)]; simp [List.getD, List.getElem?_eq_getElem (show k < (d :: l).length by simp; omega)]
  rw [h1, Option.map_some] at e2
  unfold List.getD at e2 ⊢
  rw [← e2]
  rfl

/-- Is a dart its walk's least one? -/
noncomputable def minAt (g : Gr) (p : Pt) (turn : List (List Int)) (d : Int) : Bool := (cycOf g p turn d).all fun x => decide (d < x)
/-- The walks that begin with their least darts, among the first k darts. -/
noncomputable def minsTo (g : Gr) (p : Pt) (turn : List (List Int)) (k : Nat) : List Face := ((p.darts.take k).filter (minAt g p turn)).map fun d => (d, d :: cycOf g p turn d)

theorem minsTo_zero (g : Gr) (p : Pt) (turn : List (List Int)) : minsTo g p turn 0 = [] := by simp [minsTo]
theorem minsTo_succ {g : Gr} {p : Pt} {turn : List (List Int)} {k : Nat} (hk : k < p.darts.length) : minsTo g p turn (k + 1) = minsTo g p turn k ++ if minAt g p turn (p.darts.getD k 0) then [(p.darts.getD k 0, p.darts.getD k 0 :: cycOf g p turn (p.darts.getD k 0))] else [] := by
  unfold minsTo
  rw [take_snoc hk, List.filter_append, List.map_append]
  congr 1
  by_cases h : minAt g p turn (p.darts.getD k 0) = true
  · rw [List.filter_cons_of_pos h, if_pos h]; rfl
  · rw [List.filter_cons_of_neg h, if_neg h]; rfl
theorem minsTo_len (g : Gr) (p : Pt) (turn : List (List Int)) (k : Nat) : (minsTo g p turn k).length ≤ k := by
  unfold minsTo
  rw [List.length_map]
  exact Nat.le_trans (List.length_filter_le _ _) (by rw [List.length_take]; omega)

theorem min_of_mem {g : Gr} {p : Pt} {turn : List (List Int)} {f : Face} {k : Nat} (h : f ∈ minsTo g p turn k) : f.1 ∈ p.darts ∧ minAt g p turn f.1 = true ∧ f.2 = f.1 :: cycOf g p turn f.1 := by
  unfold minsTo at h
  obtain ⟨d, hd, rfl⟩ := List.mem_map.1 h
  obtain ⟨h1, h2⟩ := List.mem_filter.1 hd
  exact ⟨(List.take_sublist _ _).subset h1, h2, rfl⟩

theorem mins_trk {g : Gr} {p : Pt} {turn : List (List Int)} (hp : PartOk g p) (hr : p.e.Pairwise (· < ·)) (ht : TurnsOk g p turn) : Trk g p turn (minsTo g p turn p.darts.length) p.darts := by
  have hle : ∀ f ∈ minsTo g p turn p.darts.length, ∀ y ∈ f.2, f.1 ≤ y := by
    intro f hf y hy
    obtain ⟨-, h2, h3⟩ := min_of_mem hf
    rw [h3] at hy
    rcases List.mem_cons.1 hy with q | q
    · omega
    · have := List.all_eq_true.1 h2 y q
      simp at this; omega
  have hcy : ∀ f ∈ minsTo g p turn p.darts.length, Cyc g p turn f.1 (cycOf g p turn f.1) := fun f hf => cycOf_ok hp ht (min_of_mem hf).1
  have hkeys : ((minsTo g p turn p.darts.length).map (·.1)) = p.darts.filter (minAt g p turn) := by
    unfold minsTo
    rw [List.take_length, List.map_map]
    exact List.map_id' _
  have hdp := darts_pair hr
  have hksub : ((minsTo g p turn p.darts.length).map (·.1)).Sublist p.darts := by rw [hkeys]; exact List.filter_sublist
  have hone : ∀ f ∈ minsTo g p turn p.darts.length, ∀ f' ∈ minsTo g p turn p.darts.length, ∀ y, y ∈ f.2 → y ∈ f'.2 → f.1 = f'.1 := by
    intro f hf f' hf' y hy hy'
    have h3 := (min_of_mem hf).2.2
    have h3' := (min_of_mem hf').2.2
    rw [h3] at hy
    rw [h3'] at hy'
    obtain ⟨m, hm, hmp⟩ := (hcy f hf).turn hy
    obtain ⟨m', hm', hmp'⟩ := (hcy f' hf').turn hy'
    have := hm.one hm'
    subst this
    have hperm := hmp.symm.trans hmp'
    have h1 := hle f hf f'.1 (by rw [h3]; exact hperm.mem_iff.2 (by simp))
    have h2 := hle f' hf' f.1 (by rw [h3']; exact hperm.mem_iff.1 (by simp))
    omega
  refine ⟨⟨fun c hc => ?_, ?_⟩, fun x hx => ?_, fun f hf => ⟨_, (min_of_mem hf).2.2⟩, hksub, fun f hf => ?_, fun x hx => ?_⟩
  · obtain ⟨f, hf, rfl⟩ := List.mem_map.1 hc
    rw [(min_of_mem hf).2.2]
    exact (hcy f hf).ring
  · rw [nodup_flat]
    refine ⟨fun l hl => ?_, ?_⟩
    · obtain ⟨f, hf, rfl⟩ := List.mem_map.1 hl
      rw [(min_of_mem hf).2.2]
      exact (hcy f hf).nodup
    · rw [List.pairwise_map]
      have hkp : (minsTo g p turn p.darts.length).Pairwise fun a b => a.1 < b.1 := by
        have := hdp.sublist hksub
        rwa [List.pairwise_map] at this
      refine hkp.imp_of_mem ?_
      intro a b ha hb hab x hx y hy e
      subst e
      have := hone a ha b hb x hx hy
      omega
  · obtain ⟨c, hc, hxc⟩ := List.mem_flatten.1 hx
    obtain ⟨f, hf, rfl⟩ := List.mem_map.1 hc
    rw [(min_of_mem hf).2.2] at hxc
    exact (hcy f hf).sub x hxc
  · obtain ⟨a, b, e⟩ := List.append_of_mem (min_of_mem hf).1
    refine ⟨a, b, e, fun y hy ha => ?_⟩
    have h1 := hle f hf y hy
    rw [e] at hdp
    have := (List.pairwise_append.1 hdp).2.2 y ha f.1 (by simp)
    omega
  · obtain ⟨l, hl⟩ := cyc_some hp ht hx
    obtain ⟨d, hd, hmin⟩ := exists_least (l := x :: l) (by simp)
    obtain ⟨m, hm, hmp⟩ := hl.turn hd
    have hdd := hl.sub d hd
    have e := (cycOf_ok hp ht hdd).one hm
    have hma : minAt g p turn d = true := by
      unfold minAt
      rw [List.all_eq_true, e]
      intro y hy
      have h1 := hmin y (hmp.mem_iff.1 (by simp [hy]))
      have h2 : d ≠ y := fun q => (List.nodup_cons.1 hm.nodup).1 (q ▸ hy)
      simp; omega
    refine List.mem_flatten.2 ⟨d :: cycOf g p turn d, List.mem_map.2 ⟨(d, d :: cycOf g p turn d), List.mem_map.2 ⟨d, List.mem_filter.2 ⟨by rw [List.take_length]; exact hdd, hma⟩, rfl⟩, rfl⟩, ?_⟩
    rw [e]
    exact hmp.mem_iff.2 (by simp)

theorem mins_walks {g : Gr} {p : Pt} {turn : List (List Int)} (hr : p.err g = 0) (ht : TurnsOk g p turn) : loneAt turn p.v ++ minsTo g p turn p.darts.length = walksOf g p turn :=
  ((mins_trk (Pt.ok_of_err hr) (rises_pair (Pt.err_ok hr).2.2.1) ht).walks (Pt.ok_of_err hr)).eq hr
end Go.Proofs.Ytpbljifejopecaa.Plain
/- Turns, told vertex by vertex: as many darts as leave it, each once, all of them. No program here. -/
namespace Go.Proofs.Ytpbljifejopecaa.Plain

/-- The darts of a part that leave a vertex. -/
def dartsAt (g : Gr) (p : Pt) (v : Int) : List Int := p.darts.filter fun d => decide (g.tail d = v)
/-- The same, of the first k darts. -/
def dartsTo (g : Gr) (p : Pt) (v : Int) (k : Nat) : List Int := (p.darts.take k).filter fun d => decide (g.tail d = v)
theorem dartsTo_zero (g : Gr) (p : Pt) (v : Int) : dartsTo g p v 0 = [] := by simp [dartsTo]
theorem dartsTo_all (g : Gr) (p : Pt) (v : Int) : dartsTo g p v p.darts.length = dartsAt g p v := by unfold dartsTo dartsAt; rw [List.take_length]
theorem dartsTo_next {g : Gr} {p : Pt} {v : Int} {k : Nat} (hk : k < p.darts.length) : dartsTo g p v (k + 1) = if g.tail (p.darts.getD k 0) = v then dartsTo g p v k ++ [p.darts.getD k 0] else dartsTo g p v k := by
  unfold dartsTo
  rw [take_snoc hk, List.filter_append]
  by_cases h : g.tail (p.darts.getD k 0) = v
  · rw [List.filter_cons_of_pos (by simpa using h), if_pos h]; rfl
  · rw [List.filter_cons_of_neg (by simpa using h), if_neg h]; simp
theorem dartsTo_len (g : Gr) (p : Pt) (v : Int) (k : Nat) : (dartsTo g p v k).length ≤ k :=
  Nat.le_trans (List.length_filter_le _ _) (by rw [List.length_take]; omega)
theorem mem_dartsAt {g : Gr} {p : Pt} {v d : Int} : d ∈ dartsAt g p v ↔ d ∈ p.darts ∧ g.tail d = v := by simp [dartsAt]
theorem dartsAt_nodup {g : Gr} {p : Pt} (h : p.e.Nodup) (v : Int) : (dartsAt g p v).Nodup := (darts_nodup h).filter _
theorem darts_getD {p : Pt} {i : Nat} (hi : i < p.e.length) (s : Nat) (hs : s < 2) : p.darts.getD (2 * i + s) 0 = 2 * p.e.getD i 0 + s := by
  obtain ⟨v, e⟩ := p
  unfold Pt.darts
  dsimp only at hi ⊢
  induction e generalizing i with
  | nil => simp at hi
  | cons a l ih =>
    rw [List.flatMap_cons]
    cases i with
    | zero => rcases (show s = 0 ∨ s = 1 by omega) with rfl | rfl <;> simp [List.getD]
    | succ i =>
      have := ih (i := i) (by simpa using hi)
      rw [show 2 * (i + 1) + s = (2 * i + s) + 2 by omega]
      simpa [List.getD] using this

/-- Is a vertex's turn right? -/
def rowOk (g : Gr) (p : Pt) (turn : List (List Int)) (v : Int) : Prop := (dartsAt g p v).length = (turnAt turn v).length ∧ (turnAt turn v).Nodup ∧ ∀ d ∈ dartsAt g p v, d ∈ turnAt turn v

theorem perm_of_sub {l m : List Int} (hl : l.Nodup) (h : ∀ x ∈ l, x ∈ m) (hlen : l.length = m.length) : ∀ x ∈ m, x ∈ l := by
  intro x hx
  refine Classical.byContradiction fun q => ?_
  have h1 := len_le_of_sub (l := x :: l) (m := m) (List.nodup_cons.2 ⟨q, hl⟩) (fun y hy => by rcases List.mem_cons.1 hy with r | r; exact r ▸ hx; exact h y r)
  simp at h1
  omega

theorem TurnsOk.rowOk {g : Gr} {p : Pt} {turn : List (List Int)} (hp : PartOk g p) (h : TurnsOk g p turn) {v : Int} (h0 : 0 ≤ v) (hn : v < g.n) : rowOk g p turn v := by
  have hm : ∀ d, d ∈ dartsAt g p v ↔ d ∈ turnAt turn v := fun d => by rw [mem_dartsAt, h.mem v h0 hn]
  exact ⟨((List.perm_ext_iff_of_nodup (dartsAt_nodup hp.en v) (h.nodup v)).2 hm).length_eq, h.nodup v, fun d hd => (hm d).1 hd⟩

theorem turns_of_rows {g : Gr} {p : Pt} {turn : List (List Int)} (hp : PartOk g p) (hl : (turn.length : Int) = g.n) (h : ∀ v : Nat, (v : Int) < g.n → Plain.rowOk g p turn v) : TurnsOk g p turn := by
  have hrow : ∀ v : Int, 0 ≤ v → v < g.n → Plain.rowOk g p turn v := fun v h0 hn => by
    have := h v.toNat (by omega)
    rwa [show ((v.toNat : Nat) : Int) = v by omega] at this
  refine ⟨hl, fun v => ?_, fun v h0 hn d => ?_⟩
  · by_cases h1 : v.toNat < turn.length
    · have := (hrow (v.toNat : Nat) (by omega) (by omega)).2.1
      unfold turnAt at this ⊢
      rwa [Int.toNat_natCast] at this
    · unfold turnAt
      rw [List.getD, List.getElem?_eq_none (by omega)]
      simp
  · obtain ⟨h1, -, h3⟩ := hrow v h0 hn
    rw [← mem_dartsAt]
    exact ⟨fun hd => perm_of_sub (dartsAt_nodup hp.en v) h3 h1 d hd, h3 d⟩

theorem Pt.edge_in {g : Gr} {p : Pt} (h : p.err g = 0) {e : Int} (he : e ∈ p.e) : 0 ≤ e ∧ e < g.e.length := by
  obtain ⟨i, hi, rfl⟩ := mem_getD he
  have := rises_at (Pt.err_ok h).2.2.1 hi
  exact ⟨this.1, this.2.1⟩
/-- A dart of a right part, as a number. -/
theorem Pt.dart_nat {g : Gr} {p : Pt} (h : p.err g = 0) {d : Int} (hd : d ∈ p.darts) : ∃ n : Nat, d = n ∧ n / 2 < g.e.length ∧ n < 2048 := by
  have h1 := edge_in h (mem_darts.1 hd)
  have h2 := Gr.err_ok (Pt.err_ok h).1
  exact ⟨d.toNat, by omega, by omega, by omega⟩

theorem turnErr_len {g : Gr} {p : Pt} {turn : List (List Int)} (h : p.err g = 0) (hl : (turn.length : Int) ≠ g.n) : turnErr g p turn = 5 := turnErr_bad h fun k => hl k.len
theorem turnErr_row {g : Gr} {p : Pt} {turn : List (List Int)} (h : p.err g = 0) {v : Nat} (hv : (v : Int) < g.n) (hr : ¬ Plain.rowOk g p turn v) : turnErr g p turn = 5 := turnErr_bad h fun k => hr (k.rowOk (Pt.ok_of_err h) (by omega) hv)
end Go.Proofs.Ytpbljifejopecaa.Plain
