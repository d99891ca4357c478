/- law 03's calls as they come in ([]Act), and what the joins of a list come to. -/
import Derived.Test.YtgepchafbeifeaaSetsD
namespace Go.Proofs.Ytgepchafbeifeaa
open Go.RowKit Go.Maps

/-- A call: what is done (a byte), and two things. -/
structure Act3 where
  op : Int
  x : Int
  y : Int

/-- v is a []Act that reads as l. -/
def ActsAt (w : World) (v : Value) (l : List Act3) : Prop :=
  ∃ ao cap, v = .slice ao l.length cap ∧ (∀ a ∈ l, (0 ≤ a.op ∧ a.op < 256) ∧ I64 a.x ∧ I64 a.y) ∧ l.length ≤ 9223372036854775807 ∧
    (∀ i a, l[i]? = some a → ∃ b off, ao = some ⟨b, off, none⟩ ∧ w.cell? ⟨b, off + i * 3, none⟩ = some (.int .u8 a.op) ∧ w.cell? ⟨b, off + i * 3 + 1, none⟩ = some (.int .i64 a.x) ∧ w.cell? ⟨b, off + i * 3 + 2, none⟩ = some (.int .i64 a.y))

/-- The state behind the joins of a list. -/
def St.joinAll (s : St) (l : List Act3) : St := l.foldl (fun s a => s.join a.x a.y) s

theorem St.joinAll_take {s : St} {l : List Act3} {k : Nat} {a : Act3} (h : l[k]? = some a) : s.joinAll (l.take (k + 1)) = (s.joinAll (l.take k)).join a.x a.y := by
  obtain ⟨hk, rfl⟩ := List.getElem?_eq_some_iff.1 h
  unfold St.joinAll
  rw [List.take_succ_eq_append_getElem hk, List.foldl_append]
  rfl

theorem St.join_len (s : St) (x y : Int) : s.all.length ≤ (s.join x y).all.length ∧ (s.join x y).all.length ≤ s.all.length + 2 := by
  have := s.len_put x
  have := (s.put x).len_put y
  show _ ≤ ((s.put x).put y).all.length ∧ ((s.put x).put y).all.length ≤ _
  omega

theorem St.joinAll_len (l : List Act3) : ∀ s : St, (s.joinAll l).all.length ≤ s.all.length + 2 * l.length := by
  induction l with
  | nil => intro s; simp [St.joinAll]
  | cons a r ih =>
    intro s
    have := ih (s.join a.x a.y)
    have := (s.join_len a.x a.y).2
    simp only [St.joinAll, List.foldl_cons, List.length_cons] at *
    omega

/-! ### what holds of heads -/
theorem St.Ok.idx_lt {s : St} {x : Int} (h : x ∈ s.all) : s.all.idxOf x < s.all.length := List.idxOf_lt_length_iff.2 h

theorem St.Ok.hd_lt {s : St} (h : s.Ok) {x : Int} (hx : x ∈ s.all) : s.hd (s.all.idxOf x) < s.all.length := by
  have := h.le (s.all.idxOf x) (by rw [← h.len]; exact St.Ok.idx_lt hx)
  have := St.Ok.idx_lt hx
  omega

theorem St.Ok.head_mem {s : St} (h : s.Ok) {x : Int} (hx : x ∈ s.all) : s.head x ∈ s.all := by
  unfold St.head
  have := h.hd_lt hx
  simp only [List.getD, List.getElem?_eq_getElem this, Option.getD_some]
  exact List.getElem_mem _

theorem idxOf_getD {l : List Int} (hn : l.Nodup) {i : Nat} (hi : i < l.length) : l.idxOf (l.getD i 0) = i := by
  simp only [List.getD, List.getElem?_eq_getElem hi, Option.getD_some]
  have hm : l[i] ∈ l := List.getElem_mem hi
  have h1 := List.idxOf_lt_length_iff.2 hm
  have h2 : l[l.idxOf l[i]] = l[i] := List.getElem_idxOf h1
  exact (List.getElem_inj hn).1 h2

theorem St.Ok.idx_head {s : St} (h : s.Ok) {x : Int} (hx : x ∈ s.all) : s.all.idxOf (s.head x) = s.hd (s.all.idxOf x) := idxOf_getD h.nodup (h.hd_lt hx)

/-- A head is its own. -/
theorem St.Ok.head_head {s : St} (h : s.Ok) {x : Int} (hx : x ∈ s.all) : s.head (s.head x) = s.head x := by
  show s.all.getD (s.hd (s.all.idxOf (s.head x))) 0 = _
  rw [h.idx_head hx, h.own _ (by rw [← h.len]; exact St.Ok.idx_lt hx)]
  rfl

/-- Two things belong together just if they have the same head. -/
theorem St.Ok.same_heads {s : St} (h : s.Ok) {x y : Int} (hx : x ∈ s.all) (hy : y ∈ s.all) : s.same x y = (s.head x == s.head y) := by
  have h1 := h.idx_head hx
  have h2 := h.idx_head hy
  unfold St.same
  by_cases e : s.head x = s.head y
  · have : s.hd (s.all.idxOf x) = s.hd (s.all.idxOf y) := by rw [← h1, ← h2, e]
    simp [hx, hy, e, this]
  · have : s.hd (s.all.idxOf x) ≠ s.hd (s.all.idxOf y) := fun q => e (by unfold St.head; rw [q])
    rw [beq_eq_false_iff_ne.2 e, beq_eq_false_iff_ne.2 this]
    simp

theorem St.same_not {s : St} {x y : Int} (h : x ∉ s.all ∨ y ∉ s.all) : s.same x y = false := by
  rcases h with h | h <;> simp [St.same, h]

theorem St.mem_all_small {w : World} {pb : Nat} {own : List Nat} {s : St} (h : SetsObj w pb own s) {x : Int} (hx : x ∈ s.all) : I64 x := by
  obtain ⟨mb, tv, uv, up, h, -⟩ := h
  exact h.small x hx

/-- What Head answers first. -/
def St.headv (s : St) (x : Int) : Int := if x ∈ s.all then s.head x else 0

theorem head_any (pb : Nat) (own : List Nat) (s : St) (x : Int) (w : World) (hx : I64 x) (hn : s.all.length < 17179869184) (h : SetsObj w pb own s) :
    Calls Try.prog 13 #[.pointer (some ⟨pb, 0, none⟩), .int .i64 x] w fun e w' => e = .returned (.tuple #[.int .i64 (s.headv x), .bool (decide (x ∈ s.all))]) ∧ Turn w pb own w' s := by
  by_cases hin : x ∈ s.all
  · refine (head_hit pb own s x w hx hin hn h).mono fun e w' ⟨he, ht⟩ => ⟨?_, ht⟩
    rw [he]; simp [St.headv, hin]
  · refine (head_miss pb own s x w hx hin h).mono fun e w' ⟨he, ht⟩ => ⟨?_, ht⟩
    rw [he]; simp [St.headv, hin]

theorem I64.zero : I64 0 := I64.mk (by omega) (by omega)

theorem St.headv_small {w : World} {pb : Nat} {own : List Nat} {s : St} (h : SetsObj w pb own s) (x : Int) : I64 (s.headv x) := by
  unfold St.headv
  by_cases hx : x ∈ s.all
  · rw [if_pos hx]; exact St.mem_all_small h (h.ok.head_mem hx)
  · rw [if_neg hx]; exact I64.zero

/-! ### belonging together -/
theorem St.same_comm (s : St) (x y : Int) : s.same x y = s.same y x := by
  unfold St.same
  have : (s.hd (s.all.idxOf x) == s.hd (s.all.idxOf y)) = (s.hd (s.all.idxOf y) == s.hd (s.all.idxOf x)) := Bool.beq_comm
  rw [this]
  cases decide (x ∈ s.all) <;> cases decide (y ∈ s.all) <;> rfl

theorem St.same_trans {s : St} {x y z : Int} (h1 : s.same x y = true) (h2 : s.same y z = true) : s.same x z = true := by
  simp only [St.same, Bool.and_eq_true, decide_eq_true_eq, beq_iff_eq] at *
  exact ⟨⟨h1.1.1, h2.1.2⟩, h1.2.trans h2.2⟩

theorem St.put_put_mem (s : St) (x y : Int) : x ∈ ((s.put x).put y).all ∧ y ∈ ((s.put x).put y).all := ⟨St.mem_put_of y (s.mem_put x), St.mem_put _ _⟩

/-- Where both are there nothing is put. -/
theorem St.join_in {s : St} {x y : Int} (hx : x ∈ s.all) (hy : y ∈ s.all) : s.join x y = ⟨s.all, relabel s.grp (s.hd (s.all.idxOf x)) (s.hd (s.all.idxOf y))⟩ ∧ s.joins x y = (s.hd (s.all.idxOf x) != s.hd (s.all.idxOf y)) := by
  have e : (s.put x).put y = s := by rw [St.put_in hx, St.put_in hy]
  exact ⟨by unfold St.join; rw [e], by unfold St.joins; rw [e]⟩

theorem St.join_same {s : St} (hs : s.Ok) {x y : Int} (hx : x ∈ s.all) (hy : y ∈ s.all) : (s.join x y).same x y = true := by
  rw [(St.join_in hx hy).1]
  have h1 := St.Ok.idx_lt hx
  have h2 := St.Ok.idx_lt hy
  rw [hs.len] at h1 h2
  simp only [St.same, Bool.and_eq_true, decide_eq_true_eq, beq_iff_eq]
  refine ⟨⟨hx, hy⟩, ?_⟩
  show (relabel _ _ _).getD _ 0 = (relabel _ _ _).getD _ 0
  unfold relabel
  rw [getD_map _ _ _ h1, getD_map _ _ _ h2]
  show (if s.hd _ = _ then _ else s.hd _) = (if s.hd _ = _ then _ else s.hd _)
  generalize s.hd (s.all.idxOf x) = i
  generalize s.hd (s.all.idxOf y) = j
  by_cases e : i = j
  · subst e; rfl
  · rcases Nat.lt_or_gt_of_ne e with q | q
    · rw [if_neg (by omega), if_pos (by omega)]; omega
    · rw [if_pos (by omega), if_neg (by omega)]; omega

/-- A Join that joins makes one group less; another one none. -/
theorem St.join_count {s : St} (hs : s.Ok) {x y : Int} (hx : x ∈ s.all) (hy : y ∈ s.all) : s.count = (s.join x y).count + if s.joins x y then 1 else 0 := by
  obtain ⟨e1, e2⟩ := St.join_in hx hy
  rw [e1, e2]
  have h1 := hs.le (s.all.idxOf x) (by rw [← hs.len]; exact St.Ok.idx_lt hx)
  have h2 := hs.le (s.all.idxOf y) (by rw [← hs.len]; exact St.Ok.idx_lt hy)
  have k1 := St.Ok.idx_lt hx
  have k2 := St.Ok.idx_lt hy
  rw [hs.len] at k1 k2
  have o1 := hs.own _ k1
  have o2 := hs.own _ k2
  generalize s.hd (s.all.idxOf x) = i at *
  generalize s.hd (s.all.idxOf y) = j at *
  by_cases e : i = j
  · subst e
    rw [relabel_self]
    simp
  · have := St.count_relabel (all := s.all) (grp := s.grp) (by omega : i < s.grp.length) (by omega : j < s.grp.length) o1 o2 e
    have e3 : (i != j) = true := by rw [bne_iff_ne]; exact e
    rw [e3, if_pos rfl]
    exact this

end Go.Proofs.Ytgepchafbeifeaa
