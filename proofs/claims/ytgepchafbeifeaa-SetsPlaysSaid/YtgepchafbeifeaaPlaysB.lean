/- the law SetsPlays: contracts of both sides' calls, and the groups in plain words. Conditions: an object and a value that stand in memory, apart from each other. -/
import Derived.Test.YtgepchafbeifeaaPlaysA
namespace Go.Proofs.Ytgepchafbeifeaa
open Go.RowKit Go.Maps

theorem Play.fresh {w wr w' : World} {pb mb : Nat} {s t : St} (h : Play w pb mb s t wr) (hc : Chg [] wr w') : Play w pb mb s t w' := by
  obtain ⟨own, va, vg, h1, h2, h3, h4, h5, h6, h7, h8⟩ := h
  exact ⟨own, va, vg, h1.chg hc (by simp), h2.trans hc (by simp), h3, hc.heap h4 (by simp), h5.fresh hc, h6, h7, h8⟩

theorem play_add {w wr : World} {pb mb : Nat} {s t : St} {x : Int} (hx : I64 x) (hn : s.all.length < 34359738368) (h : Play w pb mb s t wr) :
    Calls Try.prog 9 #[.pointer (some ⟨pb, 0, none⟩), .int .i64 x] wr fun e w' => e = .returned (.bool (decide (x ∉ s.all))) ∧ Play w pb mb (s.put x) t w' := by
  obtain ⟨own, va, vg, h1, h2, h3, h4, h5, h6, h7, h8⟩ := h
  exact (add_any pb own s x wr hx hn h1).mono fun e w' ⟨he, ht⟩ => ⟨he, Play.turn h2 h3 h4 h5 h6 h7 h8 ht⟩

theorem play_join {w wr : World} {pb mb : Nat} {s t : St} {x y : Int} (hx : I64 x) (hy : I64 y) (hn : s.all.length < 17179869184) (h : Play w pb mb s t wr) :
    Calls Try.prog 11 #[.pointer (some ⟨pb, 0, none⟩), .int .i64 x, .int .i64 y] wr fun e w' => e = .returned (.bool (s.joins x y)) ∧ Play w pb mb (s.join x y) t w' := by
  obtain ⟨own, va, vg, h1, h2, h3, h4, h5, h6, h7, h8⟩ := h
  exact (join_any pb own s x y wr hx hy hn h1).mono fun e w' ⟨he, ht⟩ => ⟨he, Play.turn h2 h3 h4 h5 h6 h7 h8 ht⟩

theorem findv_neg (l : List Int) (x : Int) : decide (findv l x < 0) = decide (x ∉ l) := by
  unfold findv
  by_cases h : x ∈ l <;> simp [h]

/-- A value of the document's answer is laid into a new variable. -/
theorem store_ref {wr w5 w6 : World} {B nb : Nat} {va vg : Value} {cs : Array Value} {t : St} (hc : Chg [] wr w5) (hnb : wr.heap.size ≤ nb) (hr : RefAt w5 B (.agg #[va, vg]) t) (h5 : w5.heap[nb]? = some (.cells cs 37 (0, 0))) (h6 : Chg [nb] w5 w6) :
    Chg [] wr w6 ∧ RefAt w6 B (.agg #[va, vg]) t := by
  refine ⟨hc.trans h6 (fun j hj => Or.inr (by simp at hj; omega)), hr.chg h6 (fun b hb => ?_)⟩
  obtain ⟨va2, vg2, e, r1, r2⟩ := hr
  simp only [Value.agg.injEq, Array.mk.injEq, List.cons.injEq, and_true] at e
  obtain ⟨rfl, rfl⟩ := e
  simp only [foot, List.flatMap_cons, List.flatMap_nil, List.append_nil, List.mem_append] at hb
  rcases hb with q | q
  · simpa using r1.ne h5 b q
  · simpa using r2.ne h5 b q

/-! ### groups -/
theorem St.Ok.count_groups {s : St} (h : s.Ok) : s.groups.length = s.count := by
  unfold St.groups St.gr St.heads St.count
  rw [List.length_map, h.len, List.countP_eq_length_filter]
  rfl

/-- A row's first is its head. -/
theorem St.row_first {s : St} (hs : s.Ok) {h : Nat} (hh : h < s.all.length) (e : s.hd h = h) : (s.row s.all.length h).getD 0 0 = s.all.getD h 0 ∧ 0 < (s.row s.all.length h).length := by
  unfold St.row
  have hm : h ∈ (List.range s.all.length).filter (fun i => s.hd i == h) := by simp [hh, e]
  have hp : ((List.range s.all.length).filter (fun i => s.hd i == h)).Pairwise (· < ·) := List.Pairwise.filter _ List.pairwise_lt_range
  have hle : ∀ i ∈ (List.range s.all.length).filter (fun i => s.hd i == h), h ≤ i := by
    intro i hi
    obtain ⟨h1, h2⟩ := List.mem_filter.1 hi
    have := hs.le i (by rw [← hs.len]; exact List.mem_range.1 h1)
    have h2' : s.hd i = h := by simpa using h2
    omega
  generalize (List.range s.all.length).filter (fun i => s.hd i == h) = L at *
  cases L with
  | nil => simp at hm
  | cons a r =>
    have : a = h := by
      have h1 := hle a (by simp)
      rcases List.mem_cons.1 hm with q | q
      · exact q.symm
      · have := List.rel_of_pairwise_cons hp q
        omega
    subst this
    simp

/-- What stands in a group: a thing whose head is the group's first. -/
theorem St.Ok.group_thing {s : St} (hs : s.Ok) {i k : Nat} (hi : i < s.groups.length) (hk : k < (s.groups.getD i []).length) :
    (s.groups.getD i []).getD k 0 ∈ s.all ∧ s.headv ((s.groups.getD i []).getD k 0) = (s.groups.getD i []).getD 0 0 := by
  have hi' : i < (s.heads s.all.length).length := by simpa [St.groups, St.gr] using hi
  have e1 : s.groups.getD i [] = s.row s.all.length ((s.heads s.all.length)[i]) := by simp [St.groups, St.gr, List.getD, hi']
  rw [e1] at hk ⊢
  have hm := St.mem_heads.1 (List.getElem_mem hi')
  generalize (s.heads s.all.length)[i] = h at *
  rw [(St.row_first hs hm.1 hm.2).1]
  have hz : (s.row s.all.length h).getD k 0 ∈ s.row s.all.length h := by simp [List.getD, hk]
  generalize (s.row s.all.length h).getD k 0 = z at *
  unfold St.row at hz
  obtain ⟨j, hj, rfl⟩ := List.mem_map.1 hz
  obtain ⟨hj1, hj2⟩ := List.mem_filter.1 hj
  have hj1 := List.mem_range.1 hj1
  have hj2 : s.hd j = h := by simpa using hj2
  have hmem : s.all.getD j 0 ∈ s.all := by simp [List.getD, hj1]
  refine ⟨hmem, ?_⟩
  rw [St.headv, if_pos hmem]
  show s.all.getD (s.hd (s.all.idxOf (s.all.getD j 0))) 0 = _
  rw [idxOf_getD hs.nodup hj1, hj2]

theorem St.Ok.group_some {s : St} (hs : s.Ok) {i : Nat} (hi : i < s.groups.length) : 0 < (s.groups.getD i []).length := by
  have hi' : i < (s.heads s.all.length).length := by simpa [St.groups, St.gr] using hi
  have e1 : s.groups.getD i [] = s.row s.all.length ((s.heads s.all.length)[i]) := by simp [St.groups, St.gr, List.getD, hi']
  rw [e1]
  have hm := St.mem_heads.1 (List.getElem_mem hi')
  exact (St.row_first hs hm.1 hm.2).2

theorem St.group_le {s : St} (i : Nat) : (s.groups.getD i []).length ≤ s.all.length := s.gr_len s.all.length i

/-- A [][]int of the call's own, as it is read. -/
theorem RowsOwn.at {w : World} {B : Nat} {ov : Value} {vs : List Value} {ll : List (List Int)} (h : RowsOwn w B ov vs ll) {i : Nat} (hi : i < ll.length) (hp : 0 < (ll.getD i []).length) :
    ∃ go c g ci, ov = .slice (some ⟨go, 0, none⟩) ll.length c ∧ w.cell? ⟨go, i, none⟩ = some (.slice (some ⟨g, 0, none⟩) (ll.getD i []).length ci) ∧ ∀ k, k < (ll.getD i []).length → w.cell? ⟨g, k, none⟩ = some (.int .i64 ((ll.getD i []).getD k 0)) := by
  have hl := h.len
  obtain ⟨go, c, e⟩ := owns_some h.out (by omega)
  have hr := h.rows i (by omega)
  obtain ⟨g, ci, e2⟩ := owns_some hr hp
  refine ⟨go, c, g, ci, by rw [e, hl], ?_, fun k hk => ?_⟩
  · have a2 := h.out
    rw [e] at a2
    have a3 := a2.cellAt i (by omega)
    rw [a3, ← e2]
    simp [List.getD, show i < vs.length by omega]
  · rw [e2] at hr
    rw [hr.cellAt k (by omega)]
    clear hr e2 hp
    generalize ll.getD i [] = r at *
    simp [ints, List.getD, hk]

theorem RowsOwn.at_low {w : World} {B : Nat} {ov : Value} {vs : List Value} {ll : List (List Int)} (h : RowsOwn w B ov vs ll) {i : Nat} (hi : i < ll.length) (hp : 0 < (ll.getD i []).length) :
    ∃ go c g ci, ov = .slice (some ⟨go, 0, none⟩) ll.length c ∧ (∀ own w', Chg own w w' → (∀ j ∈ own, j < B) → w'.cell? ⟨go, i, none⟩ = some (.slice (some ⟨g, 0, none⟩) (ll.getD i []).length ci) ∧ ∀ k, k < (ll.getD i []).length → w'.cell? ⟨g, k, none⟩ = some (.int .i64 ((ll.getD i []).getD k 0))) := by
  have hl := h.len
  obtain ⟨go, c, e⟩ := owns_some h.out (by omega)
  have hr := h.rows i (by omega)
  obtain ⟨g, ci, e2⟩ := owns_some hr hp
  refine ⟨go, c, g, ci, by rw [e, hl], fun own w' hc ho => ?_⟩
  obtain ⟨go', c', g', ci', e', k1, k2⟩ := (h.below hc ho).at hi hp
  have hr' := (h.below hc ho).out
  have e3 : go' = go := by rw [e] at e'; simp at e'; omega
  subst e3
  have a2 := hr'
  rw [e] at a2
  have a3 := a2.cellAt i (by omega)
  have e4 : vs[i]? = some (vs.getD i undef) := by simp [List.getD, show i < vs.length by omega]
  rw [e4, e2, k1] at a3
  simp only [Option.some.injEq, Value.slice.injEq, Addr.mk.injEq, and_true, true_and] at a3
  obtain ⟨rfl, rfl⟩ := a3
  exact ⟨k1, k2⟩

theorem RowsOwn.shape {w : World} {B : Nat} {ov : Value} {vs : List Value} {ll : List (List Int)} (h : RowsOwn w B ov vs ll) : ∃ ao c, ov = .slice ao ll.length c := by
  rw [← h.len]
  exact owns_shape h.out

/-- Both sides' groups lie in memory; they are the same. -/
structure Both (w : World) (pb mb : Nat) (s : St) (own : List Nat) (aa ga : Option Addr) (ac gc : Nat) (ov ov' : Value) (w2 : World) : Prop where
  obj : SetsObj w2 pb own s
  chg : Chg [] w w2
  new : ∀ j ∈ own, w.heap.size ≤ j
  free : mb ∉ own
  cell : w2.heap[mb]? = some (.cells #[.slice aa s.all.length ac, .slice ga s.all.length gc] 37 (0, 0))
  at0 : w2.cell? ⟨mb, 0, none⟩ = some (.slice aa s.all.length ac)
  at1 : w2.cell? ⟨mb, 1, none⟩ = some (.slice ga s.all.length gc)
  ref : RefAt w2 w.heap.size (.agg #[.slice aa s.all.length ac, .slice ga s.all.length gc]) s
  foot : ∀ b ∈ foot (.agg #[.slice aa s.all.length ac, .slice ga s.all.length gc]), b ∉ own
  rows : ∃ B vs, RowsOwn w2 B ov vs s.groups ∧ ∀ j ∈ own, j < B
  rows' : ∃ B vs, RowsOwn w2 B ov' vs s.groups ∧ ∀ j ∈ own, j < B

/-- The world behind, where only the object has turned. -/
structure Both.Now (w : World) (pb mb : Nat) (s : St) (own : List Nat) (aa ga : Option Addr) (ac gc : Nat) (ov ov' : Value) (w2 wr : World) : Prop where
  both : Both w pb mb s own aa ga ac gc ov ov' w2
  turn : Turn w2 pb own wr s

theorem both_start {w : World} {pb mb : Nat} {s : St} {own : List Nat} {aa ga : Option Addr} {ac gc : Nat} {ov ov' : Value} {vs vs' : List Value} {wr w1 w2 : World} (p2 : Chg [] w wr) (p3 : ∀ j ∈ own, w.heap.size ≤ j) (plow : ∀ j ∈ own, j < wr.heap.size)
    (p4 : wr.heap[mb]? = some (.cells #[.slice aa s.all.length ac, .slice ga s.all.length gc] 37 (0, 0))) (p5 : RefAt wr w.heap.size (.agg #[.slice aa s.all.length ac, .slice ga s.all.length gc]) s)
    (p6 : ∀ b ∈ Go.Proofs.Ytgepchafbeifeaa.foot (.agg #[.slice aa s.all.length ac, .slice ga s.all.length gc]), b ∉ own) (p8 : mb ∉ own)
    (h1 : RowsOwn w1 wr.heap.size ov vs s.groups) (h2 : SetsObj w1 pb own s) (h3 : Chg own wr w1) (k1 : RowsOwn w2 w1.heap.size ov' vs' s.groups) (k2 : Chg [] w1 w2) :
    Both.Now w pb mb s own aa ga ac gc ov ov' w2 w2 := by
  have c4 := k2.heap (h3.heap p4 p8) (by simp)
  have o2 := h2.chg k2 (by simp)
  refine ⟨⟨o2, (p2.trans h3 (fun j hj => Or.inr (p3 j hj))).trans k2 (by simp), p3, p8, c4, by rw [cell_of_row _ _ _ _ _ _ c4]; rfl, by rw [cell_of_row _ _ _ _ _ _ c4]; rfl, (p5.chg h3 p6).fresh k2, p6, ⟨_, vs, h1.chg k2 (by simp) (by simp), plow⟩, ⟨_, vs', k1, fun j hj => Nat.lt_of_lt_of_le (plow j hj) h3.size⟩⟩, Turn.refl o2⟩

theorem Both.at1_ {w : World} {pb mb : Nat} {s : St} {own : List Nat} {aa ga : Option Addr} {ac gc : Nat} {ov ov' : Value} {w2 : World} (h : Both w pb mb s own aa ga ac gc ov ov' w2) {i : Nat} (hi : i < s.groups.length) :
    ∃ go c g ci, ov = .slice (some ⟨go, 0, none⟩) s.groups.length c ∧ (∀ wr, Chg own w2 wr → wr.cell? ⟨go, i, none⟩ = some (.slice (some ⟨g, 0, none⟩) (s.groups.getD i []).length ci) ∧ ∀ k, k < (s.groups.getD i []).length → wr.cell? ⟨g, k, none⟩ = some (.int .i64 ((s.groups.getD i []).getD k 0))) := by
  obtain ⟨B, vs, h1, h2⟩ := h.rows
  obtain ⟨go, c, g, ci, e, k⟩ := h1.at_low hi (h.obj.ok.group_some hi)
  exact ⟨go, c, g, ci, e, fun wr hc => k own wr hc h2⟩

theorem Both.at2_ {w : World} {pb mb : Nat} {s : St} {own : List Nat} {aa ga : Option Addr} {ac gc : Nat} {ov ov' : Value} {w2 : World} (h : Both w pb mb s own aa ga ac gc ov ov' w2) {i : Nat} (hi : i < s.groups.length) :
    ∃ go c g ci, ov' = .slice (some ⟨go, 0, none⟩) s.groups.length c ∧ (∀ wr, Chg own w2 wr → wr.cell? ⟨go, i, none⟩ = some (.slice (some ⟨g, 0, none⟩) (s.groups.getD i []).length ci) ∧ ∀ k, k < (s.groups.getD i []).length → wr.cell? ⟨g, k, none⟩ = some (.int .i64 ((s.groups.getD i []).getD k 0))) := by
  obtain ⟨B, vs, h1, h2⟩ := h.rows'
  obtain ⟨go, c, g, ci, e, k⟩ := h1.at_low hi (h.obj.ok.group_some hi)
  exact ⟨go, c, g, ci, e, fun wr hc => k own wr hc h2⟩

section
variable {w : World} {pb mb : Nat} {s : St} {own : List Nat} {aa ga : Option Addr} {ac gc : Nat} {ov ov' : Value} {w2 wr : World}

theorem Both.Now.chg (h : Both.Now w pb mb s own aa ga ac gc ov ov' w2 wr) : Chg [] w wr := by
  obtain ⟨own', k1, k2, k3⟩ := h.turn
  exact h.both.chg.trans k2 (fun j hj => Or.inr (h.both.new j hj))

theorem Both.Now.kept (h : Both.Now w pb mb s own aa ga ac gc ov ov' w2 wr) : Chg own w2 wr := by
  obtain ⟨own', k1, k2, k3⟩ := h.turn
  exact k2

theorem Both.Now.drew (h : Both.Now w pb mb s own aa ga ac gc ov ov' w2 wr) : Both.Now w pb mb s own aa ga ac gc ov ov' w2 wr.drew := by
  obtain ⟨own', k1, k2, k3⟩ := h.turn
  exact ⟨h.both, own', k1.chg (Chg.refl [] wr).drew (by simp), k2.drew, k3⟩

theorem Both.Now.fresh {w' : World} (h : Both.Now w pb mb s own aa ga ac gc ov ov' w2 wr) (hc : Chg [] wr w') : Both.Now w pb mb s own aa ga ac gc ov ov' w2 w' := by
  obtain ⟨own', k1, k2, k3⟩ := h.turn
  exact ⟨h.both, own', k1.chg hc (by simp), k2.trans hc (by simp), k3⟩

theorem Both.Now.step {w' : World} {own' : List Nat} (h : Both w pb mb s own aa ga ac gc ov ov' w2) (hc : Chg own w2 wr) (hs : ∀ j ∈ own', j ∈ own ∨ w2.heap.size ≤ j) (ht : Turn wr pb own' w' s) : Both.Now w pb mb s own aa ga ac gc ov ov' w2 w' := by
  exact ⟨h, Turn.comp hc hs ht⟩

theorem both_head {x : Int} (hx : I64 x) (hn : s.all.length < 17179869184) (h : Both.Now w pb mb s own aa ga ac gc ov ov' w2 wr) :
    Calls Try.prog 13 #[.pointer (some ⟨pb, 0, none⟩), .int .i64 x] wr fun e w' => e = .returned (.tuple #[.int .i64 (s.headv x), .bool (decide (x ∈ s.all))]) ∧ Both.Now w pb mb s own aa ga ac gc ov ov' w2 w' := by
  obtain ⟨own', k1, k2, k3⟩ := h.turn
  exact (head_any pb own' s x wr hx hn k1).mono fun e w' ⟨he, ht⟩ => ⟨he, Both.Now.step h.both k2 k3 ht⟩

theorem both_same {x y : Int} (hx : I64 x) (hy : I64 y) (h : Both.Now w pb mb s own aa ga ac gc ov ov' w2 wr) :
    Calls Try.prog 12 #[.pointer (some ⟨pb, 0, none⟩), .int .i64 x, .int .i64 y] wr fun e w' => e = .returned (.bool (s.same x y)) ∧ Both.Now w pb mb s own aa ga ac gc ov ov' w2 w' := by
  obtain ⟨own', k1, k2, k3⟩ := h.turn
  exact (same_any pb own' s x y wr hx hy k1).mono fun e w' ⟨he, ht⟩ => ⟨he, Both.Now.step h.both k2 k3 ht⟩

theorem both_count (h : Both.Now w pb mb s own aa ga ac gc ov ov' w2 wr) :
    Calls Try.prog 10 #[.pointer (some ⟨pb, 0, none⟩)] wr fun e w' => e = .returned (.int .i64 (s.count : Int)) ∧ wr = w' := by
  obtain ⟨own', k1, k2, k3⟩ := h.turn
  exact count_any pb own' s wr k1

theorem both_len (h : Both.Now w pb mb s own aa ga ac gc ov ov' w2 wr) :
    Calls Try.prog 19 #[.pointer (some ⟨pb, 0, none⟩)] wr fun e w' => e = .returned (.int .i64 (s.all.length : Int)) ∧ wr = w' := by
  obtain ⟨own', k1, k2, k3⟩ := h.turn
  exact len_any pb own' s wr k1

theorem Both.Now.at0 (h : Both.Now w pb mb s own aa ga ac gc ov ov' w2 wr) : wr.cell? ⟨mb, 0, none⟩ = some (.slice aa s.all.length ac) := h.kept.cell h.both.at0 h.both.free
theorem Both.Now.at1 (h : Both.Now w pb mb s own aa ga ac gc ov ov' w2 wr) : wr.cell? ⟨mb, 1, none⟩ = some (.slice ga s.all.length gc) := h.kept.cell h.both.at1 h.both.free
theorem Both.Now.ref (h : Both.Now w pb mb s own aa ga ac gc ov ov' w2 wr) : RefAt wr w.heap.size (.agg #[.slice aa s.all.length ac, .slice ga s.all.length gc]) s := h.both.ref.chg h.kept h.both.foot
theorem Both.Now.rows (h : Both.Now w pb mb s own aa ga ac gc ov ov' w2 wr) : ∃ B vs, RowsOwn wr B ov vs s.groups := by
  obtain ⟨B, vs, h1, h2⟩ := h.both.rows
  exact ⟨B, vs, h1.below h.kept h2⟩
theorem Both.Now.rows' (h : Both.Now w pb mb s own aa ga ac gc ov ov' w2 wr) : ∃ B vs, RowsOwn wr B ov' vs s.groups := by
  obtain ⟨B, vs, h1, h2⟩ := h.both.rows'
  exact ⟨B, vs, h1.below h.kept h2⟩
theorem both_grp (h : Both.Now w pb mb s own aa ga ac gc ov ov' w2 wr) (hp : 0 < s.all.length) :
    ∃ gb, ga = some ⟨gb, 0, none⟩ ∧ ∀ wx, Both.Now w pb mb s own aa ga ac gc ov ov' w2 wx → ∀ i, i < s.all.length → wx.cell? ⟨gb, i, none⟩ = some (.int .i64 ((s.hd i : Nat) : Int)) := by
  have hl := h.both.obj.ok.len
  have get : ∀ wx, Both.Now w pb mb s own aa ga ac gc ov ov' w2 wx → ∃ gb, ga = some ⟨gb, 0, none⟩ ∧ ∀ i, i < s.all.length → wx.cell? ⟨gb, i, none⟩ = some (.int .i64 ((s.hd i : Nat) : Int)) := by
    intro wx hx
    obtain ⟨va, vg, e, ra, rg⟩ := hx.ref
    simp only [Value.agg.injEq, Array.mk.injEq, List.cons.injEq, and_true] at e
    obtain ⟨rfl, rfl⟩ := e
    obtain ⟨gb, e, k⟩ := rg.some (by rw [List.length_map]; omega)
    refine ⟨gb, e, fun i hi => ?_⟩
    rw [k i (by rw [List.length_map]; omega)]
    simp [St.hd, List.getD, show i < s.grp.length by omega]
  obtain ⟨gb, e, -⟩ := get wr h
  refine ⟨gb, e, fun wx hx => ?_⟩
  obtain ⟨gb', e', k⟩ := get wx hx
  rw [e] at e'
  simp only [Option.some.injEq, Addr.mk.injEq, and_true] at e'
  subst e'
  exact k
theorem both_find {x : Int} (hx : I64 x) (h : Both.Now w pb mb s own aa ga ac gc ov ov' w2 wr) :
    Calls Try.prog 15 #[.agg #[.slice aa s.all.length ac, .slice ga s.all.length gc], .int .i64 x] wr fun e w' => e = .returned (.int .i64 (findv s.all x)) ∧ Both.Now w pb mb s own aa ga ac gc ov ov' w2 w' := by
  obtain ⟨va, vg, e, ra, rg⟩ := h.ref
  simp only [Value.agg.injEq, Array.mk.injEq, List.cons.injEq, and_true] at e
  obtain ⟨rfl, rfl⟩ := e
  exact (find_any _ _ s.all x wr hx ra.ints).mono fun e w' ⟨he, hc⟩ => ⟨he, h.fresh hc⟩
theorem Both.Now.ok (h : Both.Now w pb mb s own aa ga ac gc ov ov' w2 wr) : s.Ok := h.both.obj.ok
end

end Go.Proofs.Ytgepchafbeifeaa
