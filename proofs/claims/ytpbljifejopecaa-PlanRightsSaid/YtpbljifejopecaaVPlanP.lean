/- plan.Right's answer, plainly; how many lists, keys, joins there are; how many regions. -/
import Derived.Test.YtpbljifejopecaaVFlat
import Derived.Test.YtpbljifejopecaaVSetsB
namespace Go.Proofs.Ytpbljifejopecaa

namespace Plain
/-- One key of a list: the groups, the keys met. -/
def keyStep (ow : Int → Option Int) (l : List Int) (k : Nat) (st : St × List Int) : Option (St × List Int) :=
  match ow (l.getD k 0) with
  | none => none
  | some a =>
    if l.getD k 0 ∈ st.2 ∨ (0 < k ∧ l.getD k 0 ≤ l.getD (k - 1) 0) then none
    else if 0 < k then (if st.1.joins ((ow (l.getD 0 0)).getD 0) a then some (st.1.join ((ow (l.getD 0 0)).getD 0) a, st.2 ++ [l.getD k 0]) else none)
    else some (st.1, st.2 ++ [l.getD k 0])

def listRun (ow : Int → Option Int) (l : List Int) (st : St × List Int) : Nat → Option (St × List Int)
  | 0 => some st
  | k + 1 => (listRun ow l st k).bind (keyStep ow l k)

def listBad (same : List (List Int)) (i : Nat) : Prop := (same.getD i []).length < 2 ∨ (0 < i ∧ (same.getD i []).getD 0 0 ≤ (same.getD (i - 1) []).getD 0 0)
instance (same : List (List Int)) (i : Nat) : Decidable (listBad same i) := by unfold listBad; infer_instance

def sameRun (ow : Int → Option Int) (same : List (List Int)) (st : St × List Int) : Nat → Option (St × List Int)
  | 0 => some st
  | i + 1 => (sameRun ow same st i).bind fun c => if listBad same i then none else listRun ow (same.getD i []) c (same.getD i []).length

/-- The numbers below n. -/
def upTo (n : Nat) : List Int := (List.range n).map fun (i : Nat) => (i : Int)

noncomputable def planErr (g : Gr) (p : Pt) (turn same : List (List Int)) : Int :=
  if flatErr g p turn ≠ 0 then flatErr g p turn
  else match sameRun (ownerOf g p (walksOf g p turn)) same (St.new (upTo (roots g p).length), []) same.length with
    | none => 7
    | some c => if 1 < c.1.count then 7 else 0

theorem listRun_none {ow : Int → Option Int} {l : List Int} {st : St × List Int} {k : Nat} (h : listRun ow l st k = none) : ∀ n, k ≤ n → listRun ow l st n = none
  | 0, hn => by rw [show k = 0 by omega] at h; exact h
  | n + 1, hn => by
    by_cases e : k = n + 1
    · rw [← e]; exact h
    · show (listRun ow l st n).bind _ = none
      rw [listRun_none h n (by omega)]; rfl

theorem sameRun_none {ow : Int → Option Int} {same : List (List Int)} {st : St × List Int} {k : Nat} (h : sameRun ow same st k = none) : ∀ n, k ≤ n → sameRun ow same st n = none
  | 0, hn => by rw [show k = 0 by omega] at h; exact h
  | n + 1, hn => by
    by_cases e : k = n + 1
    · rw [← e]; exact h
    · show (sameRun ow same st n).bind _ = none
      rw [sameRun_none h n (by omega)]; rfl

theorem listRun_stop {ow : Int → Option Int} {l : List Int} {st c : St × List Int} {k : Nat} (hk : k < l.length) (h : listRun ow l st k = some c) (hs : keyStep ow l k c = none) : listRun ow l st l.length = none :=
  listRun_none (k := k + 1) (show (listRun ow l st k).bind _ = none by rw [h]; exact hs) _ hk
theorem listRun_next {ow : Int → Option Int} {l : List Int} {st c d : St × List Int} {k : Nat} (h : listRun ow l st k = some c) (hs : keyStep ow l k c = some d) : listRun ow l st (k + 1) = some d :=
  show (listRun ow l st k).bind _ = some d by rw [h]; exact hs
theorem sameRun_bad {ow : Int → Option Int} {same : List (List Int)} {st c : St × List Int} {i : Nat} (hi : i < same.length) (h : sameRun ow same st i = some c) (hb : listBad same i) : sameRun ow same st same.length = none :=
  sameRun_none (k := i + 1) (show (sameRun ow same st i).bind _ = none by rw [h]; exact if_pos hb) _ hi
theorem sameRun_stop {ow : Int → Option Int} {same : List (List Int)} {st c : St × List Int} {i : Nat} (hi : i < same.length) (h : sameRun ow same st i = some c) (hb : ¬ listBad same i) (hs : listRun ow (same.getD i []) c (same.getD i []).length = none) : sameRun ow same st same.length = none :=
  sameRun_none (k := i + 1) (show (sameRun ow same st i).bind _ = none by rw [h]; show (if _ then _ else _) = none; rw [if_neg hb]; exact hs) _ hi
theorem sameRun_next {ow : Int → Option Int} {same : List (List Int)} {st c d : St × List Int} {i : Nat} (h : sameRun ow same st i = some c) (hb : ¬ listBad same i) (hs : listRun ow (same.getD i []) c (same.getD i []).length = some d) : sameRun ow same st (i + 1) = some d :=
  show (sameRun ow same st i).bind _ = some d by rw [h]; show (if _ then _ else _) = some d; rw [if_neg hb]; exact hs

theorem keyStep_none {ow : Int → Option Int} {l : List Int} {k : Nat} {st : St × List Int} (h : ow (l.getD k 0) = none) : keyStep ow l k st = none := by unfold keyStep; rw [h]
theorem keyStep_bad {ow : Int → Option Int} {l : List Int} {k : Nat} {st : St × List Int} (h : l.getD k 0 ∈ st.2 ∨ (0 < k ∧ l.getD k 0 ≤ l.getD (k - 1) 0)) : keyStep ow l k st = none := by
  unfold keyStep
  cases ow (l.getD k 0) with
  | none => rfl
  | some a => exact if_pos h
theorem keyStep_first {ow : Int → Option Int} {l : List Int} {st : St × List Int} {a : Int} (h : ow (l.getD 0 0) = some a) (hm : l.getD 0 0 ∉ st.2) : keyStep ow l 0 st = some (st.1, st.2 ++ [l.getD 0 0]) := by
  unfold keyStep; rw [h]; dsimp only; rw [if_neg (by rintro (q | ⟨q, -⟩); exact hm q; omega), if_neg (by omega)]
theorem keyStep_join {ow : Int → Option Int} {l : List Int} {k : Nat} {st : St × List Int} {a b : Int} (hk : 0 < k) (h : ow (l.getD k 0) = some a) (hm : l.getD k 0 ∉ st.2) (hr : l.getD (k - 1) 0 < l.getD k 0) (hb : (ow (l.getD 0 0)).getD 0 = b) (hj : st.1.joins b a = true) : keyStep ow l k st = some (st.1.join b a, st.2 ++ [l.getD k 0]) := by
  unfold keyStep; rw [h]; dsimp only; rw [if_neg (by rintro (q | ⟨-, q⟩); exact hm q; omega), if_pos hk, hb, if_pos hj]
theorem keyStep_not {ow : Int → Option Int} {l : List Int} {k : Nat} {st : St × List Int} {a b : Int} (hk : 0 < k) (h : ow (l.getD k 0) = some a) (hb : (ow (l.getD 0 0)).getD 0 = b) (hj : st.1.joins b a = false) : keyStep ow l k st = none := by
  unfold keyStep; rw [h]; dsimp only
  split
  · rfl
  · rw [hb, hj]; rfl

/-- What keyStep's success says. -/
theorem keyStep_some {ow : Int → Option Int} {l : List Int} {k : Nat} {st d : St × List Int} (h : keyStep ow l k st = some d) :
    ∃ a, ow (l.getD k 0) = some a ∧ l.getD k 0 ∉ st.2 ∧ (0 < k → l.getD (k - 1) 0 < l.getD k 0) ∧ d.2 = st.2 ++ [l.getD k 0] ∧ ((k = 0 ∧ d.1 = st.1) ∨ (0 < k ∧ st.1.joins ((ow (l.getD 0 0)).getD 0) a = true ∧ d.1 = st.1.join ((ow (l.getD 0 0)).getD 0) a)) := by
  unfold keyStep at h
  cases ha : ow (l.getD k 0) with
  | none => rw [ha] at h; cases h
  | some a =>
    rw [ha] at h
    dsimp only at h
    split at h
    · cases h
    · rename_i q
      have q1 : l.getD k 0 ∉ st.2 := fun x => q (Or.inl x)
      have q2 : 0 < k → l.getD (k - 1) 0 < l.getD k 0 := fun x => by
        by_cases y : l.getD k 0 ≤ l.getD (k - 1) 0
        · exact absurd (Or.inr ⟨x, y⟩) q
        · omega
      split at h
      · rename_i hk
        split at h
        · rename_i hj
          cases h
          exact ⟨a, rfl, q1, q2, rfl, Or.inr ⟨hk, hj, rfl⟩⟩
        · cases h
      · rename_i hk
        cases h
        exact ⟨a, rfl, q1, q2, rfl, Or.inl ⟨by omega, rfl⟩⟩

/-- What holds all along: of the groups of numbers below n; the keys met; so many lists done (one more while one is under way). -/
structure PlanOk (ow : Int → Option Int) (n : Nat) (t : Nat) (c : St × List Int) : Prop where
  ok : c.1.Ok
  all : c.1.all = upTo n
  num : c.1.count + c.2.length = n + t
  nodup : c.2.Nodup
  has : ∀ k ∈ c.2, (ow k).isSome = true

theorem mem_upTo {n : Nat} {a : Int} : a ∈ upTo n ↔ 0 ≤ a ∧ a < n := by
  unfold upTo
  rw [List.mem_map]
  constructor
  · rintro ⟨i, hi, rfl⟩; have := List.mem_range.1 hi; omega
  · intro h; exact ⟨a.toNat, List.mem_range.2 (by omega), by omega⟩

theorem St.new_upTo (n : Nat) : St.new (upTo n) = ⟨upTo n, List.range n⟩ := by
  induction n with
  | zero => rfl
  | succ n ih =>
    have e : upTo (n + 1) = upTo n ++ [(n : Int)] := by unfold upTo; rw [List.range_succ, List.map_append]; rfl
    have hn : (n : Int) ∉ upTo n := fun h => by have := mem_upTo.1 h; omega
    unfold St.new at ih ⊢
    rw [e, List.foldl_append, ih]
    show St.put _ _ = _
    rw [St.put_new hn]
    show St.mk _ _ = _
    congr 1
    rw [List.range_succ]
    congr 1
    simp [upTo]

theorem PlanOk.start (ow : Int → Option Int) (n : Nat) : PlanOk ow n 0 (St.new (upTo n), []) := by
  rw [St.new_upTo]
  refine ⟨⟨by simp [upTo], ?_, fun i hi => ?_, fun i hi => ?_⟩, rfl, ?_, List.nodup_nil, by simp⟩
  · show (upTo n).Nodup
    unfold upTo
    exact List.Pairwise.map _ (fun a b hab => by omega) (List.nodup_range (n := n))
  · have hi : i < n := by simpa using hi
    simp [St.hd, List.getD, hi]
  · have hi : i < n := by simpa using hi
    simp [St.hd, List.getD, hi]
  · show List.countP _ _ + 0 = _
    rw [List.length_range, List.countP_eq_length.2 ?_]
    · simp
    · intro i hi
      have hi := List.mem_range.1 hi
      simp [List.getD, hi]

theorem keyStep_ok {ow : Int → Option Int} {n t k : Nat} {l : List Int} {c d : St × List Int} (hb : ∀ y a, ow y = some a → 0 ≤ a ∧ a < n) (h0 : 0 < k → (ow (l.getD 0 0)).isSome = true) (hc : PlanOk ow n t c) (h : keyStep ow l k c = some d) : PlanOk ow n (if k = 0 then t + 1 else t) d := by
  obtain ⟨a, ha, hm, -, e2, e1⟩ := keyStep_some h
  have hnd : d.2.Nodup := by
    rw [e2, List.nodup_append]
    exact ⟨hc.nodup, by simp, fun x hx y hy => by rw [List.mem_singleton.1 hy]; intro q; exact hm (q ▸ hx)⟩
  have hhas : ∀ y ∈ d.2, (ow y).isSome = true := by
    intro y hy
    rw [e2, List.mem_append] at hy
    rcases hy with hy | hy
    · exact hc.has y hy
    · rw [List.mem_singleton.1 hy, ha]; rfl
  have hl : d.2.length = c.2.length + 1 := by rw [e2]; simp
  have hnum := hc.num
  rcases e1 with ⟨hk, e1⟩ | ⟨hk, hj, e1⟩
  · rw [if_pos hk]
    exact ⟨by rw [e1]; exact hc.ok, by rw [e1]; exact hc.all, by rw [e1, hl]; omega, hnd, hhas⟩
  · rw [if_neg (by omega)]
    obtain ⟨b, hob⟩ := Option.isSome_iff_exists.1 (h0 hk)
    rw [hob] at hj e1
    have ma : a ∈ c.1.all := by rw [hc.all, mem_upTo]; exact hb _ _ ha
    have mb : b ∈ c.1.all := by rw [hc.all, mem_upTo]; exact hb _ _ hob
    have hcnt := St.join_count hc.ok mb ma
    have hj : c.1.joins b a = true := hj
    rw [if_pos hj] at hcnt
    have e1 : d.1 = c.1.join b a := e1
    refine ⟨by rw [e1]; exact hc.ok.join _ _, by rw [e1, (St.join_in mb ma).1]; exact hc.all, by rw [e1, hl]; omega, hnd, hhas⟩

theorem listRun_ok {ow : Int → Option Int} {n t : Nat} {l : List Int} {c : St × List Int} (hb : ∀ y a, ow y = some a → 0 ≤ a ∧ a < n) (hc : PlanOk ow n t c) : ∀ k d, listRun ow l c k = some d →
    PlanOk ow n (if k = 0 then t else t + 1) d ∧ d.2 = c.2 ++ (List.range k).map (fun i => l.getD i 0) ∧ (0 < k → (ow (l.getD 0 0)).isSome = true) ∧ (∀ i, i + 1 < k → l.getD i 0 < l.getD (i + 1) 0)
  | 0, d, h => by
    cases h
    exact ⟨hc, by simp, by omega, by omega⟩
  | k + 1, d, h => by
    have h : (listRun ow l c k).bind (keyStep ow l k) = some d := h
    cases hm : listRun ow l c k with
    | none => rw [hm] at h; cases h
    | some m =>
      rw [hm] at h
      have h : keyStep ow l k m = some d := h
      obtain ⟨i1, i2, i3, i4⟩ := listRun_ok hb hc k m hm
      have := keyStep_ok hb i3 i1 h
      obtain ⟨a, ha, -, hr, e2, -⟩ := keyStep_some h
      refine ⟨?_, ?_, ?_, ?_⟩
      · rw [if_neg (by omega)]
        by_cases e : k = 0
        · rw [if_pos e, if_pos e] at this; exact this
        · rw [if_neg e, if_neg e] at this; exact this
      · rw [e2, i2, List.range_succ, List.map_append, List.append_assoc]; rfl
      · intro _
        by_cases e : k = 0
        · rw [← e, ha]; rfl
        · exact i3 (by omega)
      · intro i hi
        by_cases e : i + 1 = k
        · subst e; exact hr (by omega)
        · exact i4 i (by omega)

theorem getD_get (l : List Int) {i : Nat} (h : i < l.length) : l.getD i 0 = l[i] := by simp [List.getD, h]
theorem getD_all (l : List Int) : (List.range l.length).map (fun i => l.getD i 0) = l := by
  apply List.ext_getElem
  · simp
  · intro i h1 h2
    simp [List.getD, h2]

theorem sameRun_ok {ow : Int → Option Int} {n : Nat} {same : List (List Int)} (hb : ∀ y a, ow y = some a → 0 ≤ a ∧ a < n) : ∀ i d, i ≤ same.length → sameRun ow same (St.new (upTo n), []) i = some d →
    PlanOk ow n i d ∧ d.2 = (same.take i).flatten ∧ (∀ j, j < i → ¬ listBad same j ∧ (same.getD j []).Pairwise (· < ·))
  | 0, d, _, h => by
    cases h
    exact ⟨PlanOk.start ow n, by simp, by omega⟩
  | i + 1, d, hi, h => by
    have h : (sameRun ow same (St.new (upTo n), []) i).bind _ = some d := h
    cases hm : sameRun ow same (St.new (upTo n), []) i with
    | none => rw [hm] at h; cases h
    | some m =>
      rw [hm] at h
      have h : (if listBad same i then none else listRun ow (same.getD i []) m (same.getD i []).length) = some d := h
      split at h
      · cases h
      · rename_i hbad
        obtain ⟨i1, i2, i3⟩ := sameRun_ok hb i m (by omega) hm
        obtain ⟨j1, j2, -, j4⟩ := listRun_ok hb i1 _ d h
        have hl : 2 ≤ (same.getD i []).length := by unfold listBad at hbad; omega
        rw [if_neg (by omega)] at j1
        refine ⟨j1, ?_, ?_⟩
        · rw [j2, i2, getD_all, List.take_succ_eq_append_getElem (by omega), List.flatten_append]
          have : same.getD i [] = same[i] := by simp [List.getD, show i < same.length by omega]
          rw [this]; simp
        · intro j hj
          by_cases e : j = i
          · subst e
            refine ⟨hbad, ?_⟩
            rw [List.pairwise_iff_getElem]
            intro a b ha hb' hab
            have mono : ∀ y x, x < y → y < (same.getD j []).length → (same.getD j []).getD x 0 < (same.getD j []).getD y 0 := by
              intro y
              induction y with
              | zero => intro x hx; omega
              | succ y ih =>
                intro x hx hy
                have h1 := j4 y (by omega)
                by_cases e : x = y
                · subst e; exact h1
                · have := ih x (by omega) (by omega); omega
            have := mono b a hab hb'
            rw [getD_get _ ha, getD_get _ hb'] at this
            exact this
          · exact i3 j (by omega)
/-- An owner is the number of a piece. -/
theorem ownerOf_lt {g : Gr} {p : Pt} {turn : List (List Int)} {W : List Face} (hp : PartOk g p) (hW : WalksOk g p turn W) {y a : Int} (h : ownerOf g p W y = some a) : 0 ≤ a ∧ a < (roots g p).length := by
  unfold ownerOf at h
  obtain ⟨f, hf, rfl⟩ := Option.map_eq_some_iff.1 h
  have hm := List.mem_of_find?_eq_some hf
  have hc := corner_mem hp hW.faces f hm
  obtain ⟨r, hr, hcr⟩ := root_of (g := g) (fun v hv => (hp.vr v hv).1) hc
  obtain ⟨i, hi, rfl⟩ := mem_getD hr
  rw [pieceIx_eq hp hi (mem_comp.2 ⟨hc, hcr⟩)]
  omega
theorem ownerOf_some {g : Gr} {p : Pt} {W : List Face} {y : Int} (h : (ownerOf g p W y).isSome = true) : y ∈ W.map (·.1) := by
  unfold ownerOf at h
  rw [Option.isSome_map] at h
  obtain ⟨f, hf⟩ := Option.isSome_iff_exists.1 h
  have h1 := List.mem_of_find?_eq_some hf
  have h2 := List.find?_some hf
  exact List.mem_map.2 ⟨f, h1, of_decide_eq_true h2⟩

theorem planErr_flat {g : Gr} {p : Pt} {turn same : List (List Int)} (h : flatErr g p turn ≠ 0) : planErr g p turn same = flatErr g p turn := if_pos h
theorem planErr_run {g : Gr} {p : Pt} {turn same : List (List Int)} (h : flatErr g p turn = 0) : planErr g p turn same = match sameRun (ownerOf g p (walksOf g p turn)) same (St.new (upTo (roots g p).length), []) same.length with
    | none => 7
    | some c => if 1 < c.1.count then 7 else 0 := if_neg (by simp [h])
/-- What an answer 0 says. -/
theorem planErr_zero {g : Gr} {p : Pt} {turn same : List (List Int)} (h : planErr g p turn same = 0) : flatErr g p turn = 0 ∧ ∃ c, sameRun (ownerOf g p (walksOf g p turn)) same (St.new (upTo (roots g p).length), []) same.length = some c ∧ c.1.count ≤ 1 := by
  by_cases hf : flatErr g p turn = 0
  · rw [planErr_run hf] at h
    refine ⟨hf, ?_⟩
    split at h
    · cases h
    · rename_i c hc
      refine ⟨c, hc, ?_⟩
      split at h
      · cases h
      · omega
  · rw [planErr_flat hf] at h; exact absurd h hf
end Plain
end Go.Proofs.Ytpbljifejopecaa
