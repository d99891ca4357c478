/- package sets: contracts of New and of the laws' own example. Conditions: a list of fewer than 2^32 ints. -/
import Derived.Test.YtgepchafbeifeaaSetsC
namespace Go.Proofs.Ytgepchafbeifeaa
open Go.RowKit Go.Maps

/-- An object without things, just laid. -/
theorem SetsObj.empty (w : World) : SetsObj ((w.alloc (.map #[] 0)).alloc (.cells #[.map (some w.heap.size), .slice none 0 0, .slice none 0 0, .int .i64 0] 47)) (w.heap.size + 1) [w.heap.size + 1, w.heap.size] ⟨[], []⟩ := by
  refine ⟨w.heap.size, .slice none 0 0, .slice none 0 0, [], ⟨?_, ?_, World.ownsRow_nil _ _ _ _, World.ownsRow_nil _ _ _ _, Or.inl rfl, ⟨rfl, by simp⟩, rfl, by simp, by simp⟩, rfl⟩
  · have := heap_alloc_new (w.alloc (.map #[] 0)) (.cells #[.map (some w.heap.size), .slice none 0 0, .slice none 0 0, .int .i64 0] 47)
    have e : (w.alloc (.map #[] 0)).heap.size = w.heap.size + 1 := by simp
    rw [e] at this
    exact this
  · have : (pos ([] : List Int)) = fun _ => none := by funext x; simp [pos]
    simp only [List.length_nil]
    rw [this]
    exact (IMap.made w).alloc _

/-- New of a list. -/
def St.new (l : List Int) : St := l.foldl St.put ⟨[], []⟩

theorem St.new_take {l : List Int} {k : Nat} (h : k < l.length) : St.new (l.take (k + 1)) = (St.new (l.take k)).put (l.getD k 0) := by
  unfold St.new
  rw [List.take_succ_eq_append_getElem h, List.foldl_append]
  simp [List.getD, h]

theorem St.new_len (l : List Int) : (St.new l).all.length ≤ l.length := by
  have : ∀ (l : List Int) (s : St), (l.foldl St.put s).all.length ≤ s.all.length + l.length := by
    intro l
    induction l with
    | nil => intro s; simp
    | cons x r ih =>
      intro s
      have := ih (s.put x)
      have := (s.len_put x).2
      simp only [List.foldl_cons, List.length_cons]
      omega
  simpa [St.new] using this l ⟨[], []⟩

theorem new_any (v : Value) (l : List Int) (w : World) (hn : l.length < 4294967296) (h : IntsAt w v l) :
    Calls Try.prog 8 #[v] w fun e w' => ∃ pb own, e = .returned (.pointer (some ⟨pb, 0, none⟩)) ∧ SetsObj w' pb own (St.new l) ∧ Chg [] w w' ∧ ∀ j ∈ own, w.heap.size ≤ j := by
  obtain ⟨ao, cap, rfl, hsm, -, hcell⟩ := h
  have hmm := @run_makeMap Try.prog
  have HE := Lib.hid (SetsObj.empty w)
  go_enter Try.func8, Try.ntmps8
  go_wp2
  go_loopw [11] (fun c wr => ∃ k : Nat, k ≤ l.length ∧ c = .int .i64 k ∧ ∃ own, SetsObj wr (w.heap.size + 1) own (St.new (l.take k)) ∧ Chg [] w wr ∧ ∀ j ∈ own, w.heap.size ≤ j) (fun c _ => l.length - (intOf c).toNat)
  case atStart => exact ⟨0, Nat.zero_le _, rfl, _, HE.out, ((Chg.refl _ _).alloc _).alloc _, by simp⟩
  case round =>
    obtain ⟨k, hk, rfl, own, hobj, hch, hown⟩ := hrel
    by_cases hlt : k < l.length
    · obtain ⟨b, off, rfl, hc⟩ := hcell (by intro e; rw [e] at hlt; simp at hlt)
      have ck := hch.cell (hc k hlt) (by simp)
      have hx := hsm (l.getD k 0) (by simp [List.getD, hlt])
      have hl := St.new_len (l.take k)
      have hl2 : (l.take k).length ≤ k := List.length_take_le _ _
      have HX := Lib.hid (St.new_take hlt)
      have HS := Lib.hid hsm
      have HC := Lib.hid hc
      clear hcell hc hsm
      generalize l.getD k 0 = x at *
      go_wp2_with fail
      refine (add_any _ own _ x _ hx (by omega) hobj).mono ?_
      rintro e w2 ⟨rfl, own2, ho2, hc2, hs2⟩
      have HO2 := Lib.hid ho2
      have hch2 := hch.trans hc2 (fun j hj => Or.inr (hown j hj))
      have hsz := hch.size
      have hown2 : ∀ j ∈ own2, w.heap.size ≤ j := fun j hj => by rcases hs2 j hj with q | q; exact hown j q; omega
      clear hobj hch hown ho2 hc2 hs2 ck
      go_wp2
      go_roundw
      case rel => exact ⟨k + 1, by omega, by go_num, own2, by rw [HX.out]; exact HO2.out, hch2, hown2⟩
      case measure => simp [intOf]; omega
    · have e : k = l.length := by omega
      subst e
      have HO := Lib.hid hobj
      clear hobj
      go_wp2
      go_ret
      exact ⟨_, own, rfl, by simpa using HO.out, hch, hown⟩

theorem one23 (w : World) : IntsAt (w.alloc (.cells #[.int .i64 1, .int .i64 2, .int .i64 3] 3)) (.slice (some ⟨w.heap.size, 0, none⟩) 3 3) [1, 2, 3] := by
  have hb := heap_alloc_new w (.cells #[.int .i64 1, .int .i64 2, .int .i64 3] 3)
  refine ⟨_, 3, rfl, ?_, by simp, fun _ => ⟨_, _, rfl, ?_⟩⟩
  · intro x hx
    simp at hx
    rcases hx with rfl | rfl | rfl <;> exact I64.mk (by omega) (by omega)
  · intro i hi
    simp at hi
    rw [Nat.zero_add, cell_of_row _ _ _ _ _ _ hb]
    rcases (by omega : i = 0 ∨ i = 1 ∨ i = 2) with rfl | rfl | rfl <;> rfl

set_option maxHeartbeats 400000 in
theorem awake_any (w : World) : Calls Try.prog 7 #[] w fun e w' => e = .returned (.bool true) ∧ Chg [] w w' := by
  go_enter Try.func7, Try.ntmps7
  go_wp2_with fail
  refine (new_any _ [1, 2, 3] _ (by decide) (one23 w)).mono ?_
  rintro e w1 ⟨pb, own, rfl, h1, hc1, hs1⟩
  have hc1' := ((Chg.refl [] w).alloc (.cells #[.int .i64 1, .int .i64 2, .int .i64 3] 3)).trans hc1 (by simp)
  have e1 : St.new [1, 2, 3] = ⟨[1, 2, 3], [0, 1, 2]⟩ := by rfl
  rw [e1] at h1
  go_wp2_with fail
  refine (join_any pb own _ 3 1 _ (I64.mk (by omega) (by omega)) (I64.mk (by omega) (by omega)) (by decide) h1).mono ?_
  rintro e w2 ⟨rfl, own2, h2, hc2, hs2⟩
  have e2 : (St.mk [1, 2, 3] [0, 1, 2]).join 3 1 = ⟨[1, 2, 3], [0, 1, 0]⟩ := by rfl
  have e3 : (St.mk [1, 2, 3] [0, 1, 2]).joins 3 1 = true := by decide
  rw [e2] at h2
  rw [e3]
  go_wp2_with fail
  refine (join_any pb own2 _ 1 3 _ (I64.mk (by omega) (by omega)) (I64.mk (by omega) (by omega)) (by decide) h2).mono ?_
  rintro e w3 ⟨rfl, own3, h3, hc3, hs3⟩
  have e4 : (St.mk [1, 2, 3] [0, 1, 0]).join 1 3 = ⟨[1, 2, 3], [0, 1, 0]⟩ := by rfl
  have e5 : (St.mk [1, 2, 3] [0, 1, 0]).joins 1 3 = false := by decide
  rw [e4] at h3
  rw [e5]
  clear e1 e2 e3 e4 e5
  go_wp2_with fail
  refine (groups_any pb own3 _ _ (by decide) h3).mono ?_
  rintro e w4 ⟨ov, vs, rfl, hro, own4, h4, hc4, hs4⟩
  have eg : St.groups ⟨[1, 2, 3], [0, 1, 0]⟩ = [[1, 3], [2]] := by rfl
  rw [eg] at hro
  have hvl : vs.length = 2 := hro.len
  obtain ⟨v0, v1, rfl⟩ : ∃ v0 v1, vs = [v0, v1] := by
    match vs, hvl with
    | [v0, v1], _ => exact ⟨v0, v1, rfl⟩
  obtain ⟨go, cap, rfl⟩ := owns_some hro.out (by simp)
  have r0 := hro.rows 0 (by simp)
  have r1 := hro.rows 1 (by simp)
  simp only [List.getD_cons_zero, List.getD_cons_succ] at r0 r1
  obtain ⟨g0, cap0, rfl⟩ := owns_some r0 (by simp)
  obtain ⟨g1, cap1, rfl⟩ := owns_some r1 (by simp)
  have a0 := hro.out.cellAt 0 (by simp)
  have a1 := hro.out.cellAt 1 (by simp)
  have b0 := r0.cellAt 0 (by simp)
  have b1 := r0.cellAt 1 (by simp)
  have b2 := r1.cellAt 0 (by simp)
  simp only [ints, List.map_cons, List.map_nil, List.getElem?_cons_zero, List.getElem?_cons_succ, List.length_cons, List.length_nil, Nat.zero_add, Nat.reduceAdd] at a0 a1 b0 b1 b2
  have hch : Chg [] w w4 := by
    have k1 : ∀ j ∈ own, w.heap.size ≤ j := fun j hj => by have := hs1 j hj; simp at this; omega
    have k2 : ∀ j ∈ own2, w.heap.size ≤ j := fun j hj => by rcases hs2 j hj with q | q; exact k1 j q; have := hc1'.size; omega
    have k3 : ∀ j ∈ own3, w.heap.size ≤ j := fun j hj => by rcases hs3 j hj with q | q; exact k2 j q; have := hc1'.size; have := hc2.size; omega
    exact ((hc1'.trans hc2 (fun j hj => Or.inr (k1 j hj))).trans hc3 (fun j hj => Or.inr (k2 j hj))).trans hc4 (fun j hj => Or.inr (k3 j hj))
  clear hro h1 h2 h3 h4 hc1 hc2 hc3 hc4 hc1' hs1 hs2 hs3 hs4 eg hvl r0 r1
  go_wp2
  go_ret
  exact ⟨rfl, hch⟩

end Go.Proofs.Ytgepchafbeifeaa
