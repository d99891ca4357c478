/- The drawing of two vertices, no edges, one list: plainly. No program here. -/
import Derived.Test.YtbaibnfakejogaaVOrder
import Derived.Test.YtbaibnfakejogaaVSmall
namespace Go.Proofs.Ytbaibnfakejogaa

namespace Plain
def g0 : Gr := ⟨2, []⟩
def p0 : Pt := ⟨[0, 1], []⟩
def t0 : List (List Int) := [[], []]
def s0 : List (List Int) := [[-2, -1]]
def w0 : List Face := [(-2, []), (-1, [])]

theorem err0 : p0.err g0 = 0 := by decide
theorem come0 {s a u : Int} (h : Come g0 p0 s a u) : u = a := by
  cases h with
  | here => rfl
  | step h1 h2 h3 => obtain ⟨e, he, -⟩ := h2; cases he
theorem comp0 (a : Int) : comp g0 p0 a = [0, 1].filter fun u => decide (u = a) := by
  classical
  unfold comp
  refine List.filter_congr fun u _ => ?_
  by_cases h : u = a
  · subst h; simp [Come.here]
  · simp only [h, decide_false, decide_eq_false_iff_not]
    exact fun q => h (come0 q)
theorem roots0 : roots g0 p0 = [0, 1] := by
  classical
  unfold roots
  refine List.filter_eq_self.2 fun u _ => ?_
  refine decide_eq_true fun x _ h => ?_
  rw [come0 h]; omega
theorem part0 : PartOk g0 p0 := Pt.ok_of_err err0
theorem turnAt0 (v : Int) : turnAt t0 v = [] := by
  unfold turnAt t0
  rcases v.toNat with _ | _ | n <;> simp [List.getD]
theorem turns0 : TurnsOk g0 p0 t0 := ⟨rfl, fun v => by rw [turnAt0]; exact List.nodup_nil, fun v _ _ d => by rw [turnAt0]; simp [p0, Pt.darts]⟩
theorem walks0 : WalksOk g0 p0 t0 w0 := (Trk.start g0 p0 t0).walks part0
theorem walksOf0 : walksOf g0 p0 t0 = w0 := (walks0.eq err0).symm
theorem turnErr0 : turnErr g0 p0 t0 = 0 := turnErr_ok err0 turns0
theorem flat0 : Flat g0 p0 t0 := by
  intro r hr
  rw [walksOf0]
  rw [roots0] at hr
  unfold genusAt
  rw [comp0]
  simp only [List.mem_cons, List.not_mem_nil, or_false] at hr
  rcases hr with rfl | rfl <;> decide
theorem flatErr0 : flatErr g0 p0 t0 = 0 := flatErr_ok turnErr0 flat0
theorem pieceIx0 {v : Int} {n : Nat} (hn : n < 2) (h : ([0, 1] : List Int).getD n 0 = v) (hv : v ∈ ([0, 1] : List Int)) : pieceIx g0 p0 v = n := by
  refine pieceIx_eq part0 (by rw [roots0]; exact hn) ?_
  rw [roots0, h, comp0]
  simp at hv ⊢
  exact hv
theorem owner2 : ownerOf g0 p0 w0 (-2) = some 1 := by
  have : ownerOf g0 p0 w0 (-2) = some ((pieceIx g0 p0 1 : Nat) : Int) := rfl
  rw [this, pieceIx0 (v := 1) (n := 1) (by decide) rfl (by decide)]; rfl
theorem owner1 : ownerOf g0 p0 w0 (-1) = some 0 := by
  have : ownerOf g0 p0 w0 (-1) = some ((pieceIx g0 p0 0 : Nat) : Int) := rfl
  rw [this, pieceIx0 (v := 0) (n := 0) (by decide) rfl (by decide)]; rfl
theorem run0 : sameRun (ownerOf g0 p0 w0) s0 (St.new (upTo 2), []) 1 = some ((St.new (upTo 2)).join 1 0, [-2, -1]) := by
  refine sameRun_next (c := (St.new (upTo 2), [])) rfl (by decide) ?_
  refine listRun_next (c := (St.new (upTo 2), [-2])) (k := 1) ?_ ?_
  · refine listRun_next (c := (St.new (upTo 2), [])) (k := 0) rfl ?_
    exact keyStep_first (a := 1) owner2 (by simp)
  · refine keyStep_join (a := 0) (b := 1) (by decide) owner1 (by decide) (by decide) ?_ (by decide)
    show (ownerOf g0 p0 w0 (-2)).getD 0 = 1
    rw [owner2]; rfl
theorem plan0 : planErr g0 p0 t0 s0 = 0 := by
  rw [planErr_run flatErr0, roots0, walksOf0]
  show (match sameRun (ownerOf g0 p0 w0) s0 (St.new (upTo 2), []) 1 with | none => (7 : Int) | some c => if 1 < c.1.count then 7 else 0) = 0
  rw [run0]
  decide
theorem plan1 : planErr g0 p0 t0 [] = 7 := by
  rw [planErr_run flatErr0, roots0]
  decide
theorem regs0 {ll : List (List Int)} (h : ll.Perm (s0 ++ singles (walksOf g0 p0 t0) s0.flatten)) : ll = [[-2, -1]] := by
  rw [walksOf0] at h
  have : s0 ++ singles w0 s0.flatten = [[-2, -1]] := by decide
  rw [this] at h
  exact List.perm_singleton.1 h
end Plain
end Go.Proofs.Ytbaibnfakejogaa
/- law PlanEuler, plainly; what a small case is. No program here. -/
namespace Go.Proofs.Ytbaibnfakejogaa

namespace Plain
theorem filter_split {α : Type} (q : α → Bool) : ∀ l : List α, (l.filter q).length + (l.filter fun x => !q x).length = l.length
  | [] => rfl
  | x :: l => by
    have := filter_split q l
    by_cases h : q x = true
    · simp [h]; omega
    · simp [h]; omega

theorem left_over {K M : List Int} (hK : K.Nodup) (hM : M.Nodup) (hs : ∀ x ∈ M, x ∈ K) : (K.filter fun x => decide (x ∉ M)).length + M.length = K.length := by
  have h1 := filter_split (fun x => decide (x ∈ M)) K
  have e : (K.filter fun x => decide (x ∉ M)) = K.filter fun x => !decide (x ∈ M) := List.filter_congr fun x _ => by simp
  have h2 := len_le_of_sub (hK.filter (fun x => decide (x ∈ M))) (m := M) (fun x hx => by simpa using (List.mem_filter.1 hx).2)
  have h3 := len_le_of_sub hM (m := K.filter fun x => decide (x ∈ M)) (fun x hx => List.mem_filter.2 ⟨hs x hx, by simpa using hx⟩)
  rw [e]
  omega

theorem singles_count {W : List Face} {M : List Int} (hK : (W.map (·.1)).Nodup) (hM : M.Nodup) (hs : ∀ x ∈ M, x ∈ W.map (·.1)) : (singles W M).length + M.length = W.length := by
  have h := left_over hK hM hs
  rw [List.length_map] at h
  have : (singles W M).length = ((W.map (·.1)).filter fun x => decide (x ∉ M)).length := by
    unfold singles
    rw [List.length_map, List.filter_map, List.length_map]
    rfl
  omega

theorem count_pos {s : St} (hs : s.Ok) (h : 0 < s.grp.length) : 0 < s.count := by
  unfold St.count
  rw [List.countP_pos_iff]
  refine ⟨0, List.mem_range.2 h, ?_⟩
  have := hs.le 0 h
  unfold St.hd at this
  simp
  simp at this
  omega

/-- How many regions a drawing has. -/
theorem plan_euler {g : Gr} {p : Pt} {turn same ll : List (List Int)} (h : planErr g p turn same = 0) (hW : WalksOk g p turn (walksOf g p turn)) (hl : ll.Perm (same ++ singles (walksOf g p turn) same.flatten)) :
    (((roots g p).length = 0 → ll.length = 0) ∧ ((roots g p).length ≠ 0 → p.v.length + ll.length = 1 + (roots g p).length + p.e.length)) := by
  obtain ⟨hf, c, hc, hcnt⟩ := planErr_zero h
  obtain ⟨hte, hflat⟩ := flatErr_zero hf
  obtain ⟨hpe, hto⟩ := turnErr_zero hte
  have hpo := Pt.ok_of_err hpe
  have heul := euler hpo hto hW.faces hflat
  obtain ⟨hok, hmet, -⟩ := sameRun_ok (fun y a h => ownerOf_lt hpo hW h) _ c (Nat.le_refl _) hc
  rw [List.take_length] at hmet
  have hnum := hok.num
  have hsub : ∀ x ∈ same.flatten, x ∈ (walksOf g p turn).map (·.1) := fun x hx => ownerOf_some (hok.has x (by rw [hmet]; exact hx))
  have hnd : same.flatten.Nodup := by rw [← hmet]; exact hok.nodup
  have hkn : ((walksOf g p turn).map (·.1)).Nodup := (walks_keys hpe hW).imp (fun h => by omega)
  have hsc := singles_count hkn hnd hsub
  have hll := hl.length_eq
  rw [List.length_append] at hll
  rw [hmet] at hnum
  have hgl : c.1.grp.length = (roots g p).length := by rw [← hok.ok.len, hok.all]; simp [upTo]
  constructor
  · intro h0
    have hcl := c.1.count_le
    have hv : p.v = [] := by
      cases hv : p.v with
      | nil => rfl
      | cons x l =>
        obtain ⟨r, hr, -⟩ := root_of (g := g) (p := p) (fun v hv => (hpo.vr v hv).1) (u := x) (by rw [hv]; simp)
        rw [List.length_eq_zero_iff.1 h0] at hr
        cases hr
    have hee : p.e = [] := by
      cases he : p.e with
      | nil => rfl
      | cons x l =>
        have := (hpo.ends x (by rw [he]; simp)).1
        rw [hv] at this
        cases this
    rw [hv, hee] at heul
    simp at heul
    omega
  · intro h0
    have := count_pos hok.ok (by omega)
    omega

/-! ### what is small -/
theorem all_le {n b : Nat} {f : Nat → Nat} (h : ((List.range n).all fun i => decide (f i ≤ b)) = true) : ∀ i, i < n → f i ≤ b := fun i hi => by
  have := List.all_eq_true.1 h i (List.mem_range.2 hi)
  exact of_decide_eq_true this

theorem getD_le {T : List (List Int)} {b : Nat} (h : ∀ i, i < T.length → (T.getD i []).length ≤ b) : ∀ i, (T.getD i []).length ≤ b := fun i => by
  by_cases hi : i < T.length
  · exact h i hi
  · simp [List.getD, Nat.not_lt.1 hi]

theorem sumLen_le {T : List (List Int)} {b : Nat} (h : ∀ i, (T.getD i []).length ≤ b) : ∀ k, sumLen T k ≤ k * b
  | 0 => by simp [sumLen]
  | k + 1 => by
    have := sumLen_le h k
    have h1 := h k
    have e : sumLen T (k + 1) = sumLen T k + (T.getD k []).length := rfl
    rw [e, Nat.succ_mul]
    omega

theorem small8_is {g : Gr} {p : Pt} {turn same : List (List Int)} (h : small8 g p turn same = true) : p.v.length ≤ 60 ∧ p.e.length ≤ 60 ∧ turn.length ≤ 100 ∧ sumLen turn turn.length ≤ 20000 ∧ same.length ≤ 60 ∧ ∀ i, (same.getD i []).length ≤ 60 := by
  unfold small8 small6 small4 at h
  simp only [Bool.and_eq_true] at h
  obtain ⟨⟨⟨⟨h4, h5⟩, h6⟩, h7⟩, h8⟩ := h
  have h5 := of_decide_eq_true h5
  have h6 := getD_le (all_le h6)
  have h9 := sumLen_le h6 turn.length
  have : turn.length * 200 ≤ 100 * 200 := Nat.mul_le_mul_right _ h5
  exact ⟨of_decide_eq_true h4.1.1.2, of_decide_eq_true h4.1.2, h5, by omega, of_decide_eq_true h7, getD_le (all_le h8)⟩
end Plain
end Go.Proofs.Ytbaibnfakejogaa
