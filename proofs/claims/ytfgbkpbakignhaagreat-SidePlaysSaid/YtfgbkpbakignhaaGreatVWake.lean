/- The drawing of two vertices, no edges, one list: plainly. No program here. -/
import Derived.Test.YtfgbkpbakignhaaGreatVRegions
import Derived.Test.YtfgbkpbakignhaaGreatVWhole
import Derived.Test.YtfgbkpbakignhaaGreatVSmall
import Derived.Test.YtfgbkpbakignhaaGreatVRows2
import Derived.Test.YtfgbkpbakignhaaGreatVWalkU
namespace Go.Proofs.YtfgbkpbakignhaaGreat

namespace Plain
def g0 : Gr := ⟨2, []⟩
def p0 : Pt := ⟨[0, 1], []⟩
def t0 : List (List Int) := [[], []]
def s0 : List (List Int) := [[-2, -1]]
def w0 : List Face := [(-2, []), (-1, [])]

end Plain
end Go.Proofs.YtfgbkpbakignhaaGreat
/- law 08's awake: true. -/
namespace Go.Proofs.YtfgbkpbakignhaaGreat
open Go.RowKit Go.Maps

end Go.Proofs.YtfgbkpbakignhaaGreat
/- law PlanEuler, plainly; what a small case is. No program here. -/
namespace Go.Proofs.YtfgbkpbakignhaaGreat

namespace Plain
theorem count_pos {s : St} (hs : s.Ok) (h : 0 < s.grp.length) : 0 < s.count := by
 unfold St.count
 rw [List.countP_pos_iff]
 refine ⟨0, List.mem_range.2 h, ?_⟩
 have := hs.le 0 h
 unfold St.hd at this
 simp
 simp at this
 omega

theorem all_le {n b : Nat} {f : Nat → Nat} (h : ((List.range n).all fun i => decide (f i ≤ b)) = true) : ∀ i, i < n → f i ≤ b := fun i hi => by
 have := List.all_eq_true.1 h i (List.mem_range.2 hi)
 exact of_decide_eq_true this

theorem getD_le {T : List (List Int)} {b : Nat} (h : ∀ i, i < T.length → (T.getD i []).length ≤ b) : ∀ i, (T.getD i []).length ≤ b := fun i => by
 by_cases hi : i < T.length
 ·exact h i hi
 ·simp [List.getD, Nat.not_lt.1 hi]

theorem sumLen_le {T : List (List Int)} {b : Nat} (h : ∀ i, (T.getD i []).length ≤ b) : ∀ k, sumLen T k ≤ k * b
 | 0 => by simp [sumLen]
 | k + 1 => by
  have := sumLen_le h k
  have h1 := h k
  have e : sumLen T (k + 1) = sumLen T k + (T.getD k []).length := rfl
  rw [e, Nat.succ_mul]
  omega

theorem small8_is {g : Gr} {p : Pt} {turn same : List (List Int)} (h : small8 g p turn same = true) : p.v.length ≤ 60 ∧ p.e.length ≤ 60 ∧ turn.length ≤ 100 ∧ sumLen turn turn.length ≤ 20000 ∧ same.length ≤ 60 ∧ ∀ i, (same.getD i []).length ≤ 60 := by
 unfold small8 small6 small4 at h
 simp only [Bool.and_eq_true] at h
 obtain ⟨⟨⟨⟨h4, h5⟩, h6⟩, h7⟩, h8⟩ := h
 have h5 := of_decide_eq_true h5
 have h6 := getD_le (all_le h6)
 have h9 := sumLen_le h6 turn.length
 have : turn.length * 200 ≤ 100 * 200 := Nat.mul_le_mul_right _ h5
 exact ⟨of_decide_eq_true h4.1.1.2, of_decide_eq_true h4.1.2, h5, by omega, of_decide_eq_true h7, getD_le (all_le h8)⟩
end Plain
end Go.Proofs.YtfgbkpbakignhaaGreat
/- The regions of a drawing: determined; each walk is in just one. No program here. -/
namespace Go.Proofs.YtfgbkpbakignhaaGreat

namespace Plain
theorem perm_sorted {f : List Int → Int} : ∀ {a b : List (List Int)}, a.Perm b → a.Pairwise (fun x y => f x ≤ f y) → b.Pairwise (fun x y => f x ≤ f y) → (∀ x ∈ a, ∀ y ∈ a, f x = f y → x = y) → a = b
 | [], b, h, _, _, _ => (List.Perm.nil_eq h)
 | x :: a, [], h, _, _, _ => absurd h.length_eq (by simp)
 | x :: a, y :: b, h, ha, hb, hi => by
  have hy : y ∈ x :: a := h.mem_iff.2 (by simp)
  have hx : x ∈ y :: b := h.mem_iff.1 (by simp)
  have h1 : f x ≤ f y := by
   rcases List.mem_cons.1 hy with q | q
   ·rw [q]; exact Int.le_refl _
   ·exact (List.pairwise_cons.1 ha).1 y q
  have h2 : f y ≤ f x := by
   rcases List.mem_cons.1 hx with q | q
   ·rw [q]; exact Int.le_refl _
   ·exact (List.pairwise_cons.1 hb).1 x q
  have e : x = y := hi x (by simp) y hy (by omega)
  subst e
  rw [perm_sorted ((List.perm_cons x).1 h) (List.pairwise_cons.1 ha).2 (List.pairwise_cons.1 hb).2 fun u hu v hv => hi u (by simp [hu]) v (by simp [hv])]

structure Parted (g : Gr) (p : Pt) (turn same : List (List Int)) : Prop where
 part : p.err g = 0
 turns : TurnsOk g p turn
 flat : Flat g p turn
 walks : WalksOk g p turn (walksOf g p turn)
 two : ∀ l ∈ same, 2 ≤ l.length
 nodup : same.flatten.Nodup
 keys : ∀ x ∈ same.flatten, x ∈ (walksOf g p turn).map (·.1)
 rise : ∀ l ∈ same, l.Pairwise (· < ·)
 many : same.flatten.length + 1 ≤ (roots g p).length + same.length ∨ (roots g p).length = 0

theorem parted {g : Gr} {p : Pt} {turn same : List (List Int)} (h : planErr g p turn same = 0) (hW : WalksOk g p turn (walksOf g p turn)) : Parted g p turn same := by
 obtain ⟨hf, c, hc, hcnt⟩ := planErr_zero h
 obtain ⟨hte, hflat⟩ := flatErr_zero hf
 obtain ⟨hpe, hto⟩ := turnErr_zero hte
 have hpo := Pt.ok_of_err hpe
 obtain ⟨hok, hmet, hl⟩ := sameRun_ok (fun y a h => ownerOf_lt hpo hW h) _ c (Nat.le_refl _) hc
 rw [List.take_length] at hmet
 refine ⟨hpe, hto, hflat, hW, fun l hl => ?_, by rw [← hmet]; exact hok.nodup, fun x hx => ownerOf_some (hok.has x (by rw [hmet]; exact hx)), fun l hl2 => ?_, ?_⟩
 ·obtain ⟨i, hi, rfl⟩ := List.getElem_of_mem hl
  have := planErr_two h i hi
  simpa [List.getD, hi] using this
 ·obtain ⟨i, hi, rfl⟩ := List.getElem_of_mem hl2
  have := (hl i hi).2
  simpa [List.getD, hi] using this
 ·have hnum := hok.num
  rw [hmet] at hnum
  by_cases h0 : (roots g p).length = 0
  ·exact Or.inr h0
  ·have hgl : c.1.grp.length = (roots g p).length := by rw [← hok.ok.len, hok.all]; simp [upTo]
   have := count_pos hok.ok (by omega)
   exact Or.inl (by omega)

noncomputable def allRegs (g : Gr) (p : Pt) (turn same : List (List Int)) : List (List Int) := same ++ singles (walksOf g p turn) same.flatten

theorem singles_flat (W : List Face) (M : List Int) : (singles W M).flatten = (W.map (·.1)).filter fun x => decide (x ∉ M) := by
 unfold singles
 induction W with
 | nil => rfl
 | cons f W ih =>
  by_cases h : f.1 ∈ M
  ·rw [List.filter_cons_of_neg (by simpa using h), List.map_cons, List.filter_cons_of_neg (by simpa using h)]; exact ih
  ·rw [List.filter_cons_of_pos (by simpa using h), List.map_cons, List.map_cons, List.filter_cons_of_pos (by simpa using h), List.flatten_cons, ih]; rfl

theorem Parted.keysNodup {g : Gr} {p : Pt} {turn same : List (List Int)} (h : Parted g p turn same) : ((walksOf g p turn).map (·.1)).Nodup :=
 (walks_keys h.part h.walks).imp fun hab => by omega

theorem Parted.all {g : Gr} {p : Pt} {turn same : List (List Int)} (h : Parted g p turn same) : (allRegs g p turn same).flatten.Perm ((walksOf g p turn).map (·.1)) := by
 unfold allRegs
 rw [List.flatten_append, singles_flat]
 refine (List.perm_ext_iff_of_nodup ?_ h.keysNodup).2 fun x => ?_
 ·rw [List.nodup_append]
  refine ⟨h.nodup, h.keysNodup.filter _, fun a ha b hb e => ?_⟩
  subst e
  have := (List.mem_filter.1 hb).2
  simp only [decide_eq_true_eq] at this
  exact this ha
 ·rw [List.mem_append, List.mem_filter]
  simp only [decide_eq_true_eq]
  constructor
  ·rintro (q | q)
   ·exact h.keys x q
   ·exact q.1
  ·intro q
   by_cases hx : x ∈ same.flatten
   ·exact Or.inl hx
   ·exact Or.inr ⟨q, hx⟩

theorem Parted.ne {g : Gr} {p : Pt} {turn same : List (List Int)} (h : Parted g p turn same) : ∀ l ∈ allRegs g p turn same, l ≠ [] := by
 intro l hl e
 subst e
 unfold allRegs at hl
 rcases List.mem_append.1 hl with q | q
 ·have := h.two _ q; simp at this
 ·unfold singles at q
  obtain ⟨f, -, e⟩ := List.mem_map.1 q
  cases e

structure IsRegs (g : Gr) (p : Pt) (turn same ll : List (List Int)) : Prop where
 perm : ll.Perm (allRegs g p turn same)
 order : ll.Pairwise fun a b => a.getD 0 0 ≤ b.getD 0 0

theorem head_mem {l : List Int} (h : l ≠ []) : l.getD 0 0 ∈ l := by cases l <;> simp_all

theorem one_list {ll : List (List Int)} (hn : ll.flatten.Nodup) {l m : List Int} {x : Int} (hl : l ∈ ll) (hm : m ∈ ll) (h1 : x ∈ l) (h2 : x ∈ m) : l = m := by
 induction ll with
 | nil => simp at hl
 | cons a ll ih =>
  rw [List.flatten_cons, List.nodup_append] at hn
  rcases List.mem_cons.1 hl with q | q
  ·rcases List.mem_cons.1 hm with r | r
   ·rw [q, r]
   ·subst q
    exact absurd rfl (hn.2.2 x h1 x (List.mem_flatten.2 ⟨m, r, h2⟩))
  ·rcases List.mem_cons.1 hm with r | r
   ·subst r
    exact absurd rfl (hn.2.2 x h2 x (List.mem_flatten.2 ⟨l, q, h1⟩))
   ·exact ih hn.2.1 q r

theorem Parted.nodupAll {g : Gr} {p : Pt} {turn same : List (List Int)} (h : Parted g p turn same) : (allRegs g p turn same).flatten.Nodup := h.all.nodup_iff.2 h.keysNodup

theorem Parted.one {g : Gr} {p : Pt} {turn same ll mm : List (List Int)} (h : Parted g p turn same) (h1 : IsRegs g p turn same ll) (h2 : IsRegs g p turn same mm) : ll = mm := by
 refine perm_sorted (f := fun l => l.getD 0 0) (h1.perm.trans h2.perm.symm) h1.order h2.order fun x hx y hy e => ?_
 have mx := h1.perm.mem_iff.1 hx
 have my := h1.perm.mem_iff.1 hy
 have e : x.getD 0 0 = y.getD 0 0 := e
 exact one_list h.nodupAll mx my (head_mem (h.ne x mx)) (by rw [e]; exact head_mem (h.ne y my))

open Classical in
noncomputable def regionsOf (g : Gr) (p : Pt) (turn same : List (List Int)) : List (List Int) := if h : ∃ ll, IsRegs g p turn same ll then Classical.choose h else []
theorem IsRegs.eq {g : Gr} {p : Pt} {turn same ll : List (List Int)} (h : Parted g p turn same) (hl : IsRegs g p turn same ll) : ll = regionsOf g p turn same := by
 have hex : ∃ ll, IsRegs g p turn same ll := ⟨ll, hl⟩
 unfold regionsOf
 rw [dif_pos hex]
 exact h.one hl (Classical.choose_spec hex)

def regionAt (ll : List (List Int)) (key : Int) : Option Nat := ll.findIdx? fun l => decide (key ∈ l)

theorem regionAt_hit {ll : List (List Int)} (hn : ll.flatten.Nodup) {i : Nat} (hi : i < ll.length) {key : Int} (hk : key ∈ ll.getD i []) : regionAt ll key = some i := by
 have e : ll.getD i [] = ll[i] := by simp [List.getD, hi]
 rw [e] at hk
 unfold regionAt
 rw [List.findIdx?_eq_some_iff_getElem]
 refine ⟨hi, decide_eq_true hk, fun j hj => ?_⟩
 intro hm
 have hm := of_decide_eq_true hm
 have hp := (nodup_flat.1 hn).2
 have := List.pairwise_iff_getElem.1 hp j i (by omega) hi hj key hm key hk
 exact this rfl

theorem regionAt_lt {ll : List (List Int)} {key : Int} {i : Nat} (h : regionAt ll key = some i) : i < ll.length ∧ key ∈ ll.getD i [] := by
 unfold regionAt at h
 rw [List.findIdx?_eq_some_iff_getElem] at h
 obtain ⟨h1, h2, -⟩ := h
 exact ⟨h1, by simpa [List.getD, h1] using h2⟩
theorem regionAt_none {ll : List (List Int)} {key : Int} : regionAt ll key = none ↔ key ∉ ll.flatten := by
 unfold regionAt
 rw [List.findIdx?_eq_none_iff]
 simp only [List.mem_flatten, not_exists, not_and, decide_eq_false_iff_not]

theorem Parted.lone {g : Gr} {p : Pt} {turn same : List (List Int)} (h : Parted g p turn same) (h1 : (roots g p).length = 1) : same = [] := by
 have hm := h.many
 have h2 : ∀ {s : List (List Int)}, (∀ l ∈ s, 2 ≤ l.length) → 2 * s.length ≤ s.flatten.length := by
  intro s
  induction s with
  | nil => simp
  | cons a s ih =>
   intro hs
   have := ih fun l hl => hs l (by simp [hl])
   have := hs a (by simp)
   rw [List.flatten_cons, List.length_append, List.length_cons]
   omega
 have := h2 h.two
 have : same.length = 0 := by omega
 exact List.length_eq_zero_iff.1 this
end Plain
end Go.Proofs.YtfgbkpbakignhaaGreat
/- Laws at operations, in short words: a number appended to a row of the call's own. Conditions: what each law says. -/
namespace Go.Proofs.YtfgbkpbakignhaaGreat
open Go.RowKit Go.Maps

theorem row_lit1 {w : World} {B : Nat} (hB : B ≤ w.heap.size) {k : Int} (hk : I64 k) : RowAt (w.alloc (.cells #[.int .i64 k] 3)) B (.slice (some ⟨w.heap.size, 0, none⟩) 1 1) [k] :=
 ⟨World.ownsRow_lit w #[.int .i64 k] 1 hB (by decide) rfl, by simpa using hk, by simp⟩

theorem wl_push {ops : Array Oper} {rest : List Oper} {o : Oper} {a : Act} {Q : Exit → Act → World → Prop} {w w0 : World} (hg : o.guard = none) (s x : Operand) (ho : o.op = .call { callee := .builtin .append, args := #[s, x], argTypes := #[25, 25] })
  {B : Nat} {v : Value} {l : List Int} {k : Int} (hs : a.eval s = v) (hx : a.eval x = .slice (some ⟨w0.heap.size, 0, none⟩) 1 1) (h : RowAt w0 B v l) (hk : I64 k) (hB : B ≤ w0.heap.size) (hn : l.length < 4294967290) (hw : w = w0.alloc (.cells #[.int .i64 k] 3))
  (hK : ∀ v' w', RowAt w' B v' (l ++ [k]) → Chg (foot v) w0 w' → (∀ b ∈ foot v', b ∈ foot v ∨ w0.heap.size ≤ b) → wpList Tryz.prog ops Q rest (a.put o.dst v') w') : wpList Tryz.prog ops Q (o :: rest) a w := by
 subst hw
 have hc := (Chg.refl [] w0).alloc (.cells #[.int .i64 k] 3)
 refine wl_cat hg s x ho hs hx (h.chg hc (by simp)) (row_lit1 (B := w0.heap.size) (Nat.le_refl _) hk) (Nat.le_trans hB hc.size) (by simp; omega) fun v' w' r1 r2 r3 => hK v' w' r1 ((hc.mono (by simp)).trans r2 fun j hj => Or.inl hj) fun b hb => (r3 b hb).imp id fun q => Nat.le_trans hc.size q

theorem IntsAt.cellAt {w : World} {ao : Option Addr} {n c : Nat} {l : List Int} (h : IntsAt w (.slice ao n c) l) {i : Nat} (hi : i < l.length) : ∃ b off, ao = some ⟨b, off, none⟩ ∧ w.cell? ⟨b, off + i, none⟩ = some (.int .i64 (l.getD i 0)) := by
 obtain ⟨ao', c', e', -, -, h⟩ := h
 simp only [Value.slice.injEq] at e'
 obtain ⟨rfl, -, rfl⟩ := e'
 obtain ⟨b, off, rfl, h2⟩ := h (by intro q; rw [q] at hi; simp at hi)
 exact ⟨b, off, rfl, h2 i hi⟩

theorem RowsAt.row {w : World} {tno : Option Addr} {n tc : Nat} {ll : List (List Int)} (h : RowsAt w (.slice tno n tc) ll) {k : Nat} (hk : k < ll.length) : ∃ b off uo uc, tno = some ⟨b, off, none⟩ ∧ w.cell? ⟨b, off + k, none⟩ = some (.slice uo (ll.getD k []).length uc) ∧ IntsAt w (.slice uo (ll.getD k []).length uc) (ll.getD k []) := by
 obtain ⟨ao, cap, e, -, h2⟩ := h
 simp only [Value.slice.injEq] at e
 obtain ⟨rfl, rfl, rfl⟩ := e
 obtain ⟨b, off, u, rfl, h3, -, h5⟩ := h2 k hk
 have h6 := h5
 obtain ⟨uo, uc, rfl, -⟩ := h5
 exact ⟨b, off, uo, uc, rfl, h3, h6⟩

theorem rowNil' (w : World) (B : Nat) : RowAt w B (.slice none 0 0) [] := ⟨World.ownsRow_nil _ _ _ _, by simp, by simp⟩
end Go.Proofs.YtfgbkpbakignhaaGreat
/- plan.Region: its contract. Conditions: a graph, a part, a plan that lie in memory and read so, of a bounded size. -/
namespace Go.Proofs.YtfgbkpbakignhaaGreat
open Go.RowKit Go.Maps

def ixOf : Option Nat → Int
 | some i => i
 | none => -1

theorem RowsOwn.read {w : World} {B : Nat} {ov : Value} {vs : List Value} {ll : List (List Int)} (h : RowsOwn w B ov vs ll) (hi : ∀ l ∈ ll, (∀ x ∈ l, I64 x) ∧ l.length < 4294967296) : RowsAt w ov ll := by
 have hlen := h.len
 have hcap : ∀ {v : Value} {n : Nat} {xs : List Value} {e : TypeId}, w.ownsRow B e 1 v n xs → CapOk v := by
  intro v n xs e ho
  rcases ho.2 with ⟨rfl, _⟩ | ⟨g, cap, cur, rfl, -, -, hn, hc, -, -⟩
  ·exact ⟨none, 0, 0, rfl, by decide, by decide⟩
  ·exact ⟨_, _, _, rfl, hn, by unfold maxLen at hc; omega⟩
 rcases h.out.2 with ⟨rfl, h0⟩ | ⟨g, cap, cur, rfl, -, -, hn, hc, -, -⟩
 ·have : ll = [] := List.length_eq_zero_iff.1 (by omega)
  subst this
  exact ⟨none, 0, rfl, by decide, fun i hi => absurd hi (by simp)⟩
 ·refine ⟨_, cap, by rw [hlen], by unfold maxLen at hc; omega, fun i hi2 => ?_⟩
  have hiv : i < vs.length := by omega
  have hrow := h.rows i hiv
  have hcell := h.out.cellAt i (by omega)
  have hm : ll.getD i [] ∈ ll := by simp [List.getD, hi2]
  refine ⟨g, 0, vs.getD i undef, rfl, ?_, hcap hrow, RowAt.ints (B := B) ⟨hrow, hi _ hm⟩⟩
  rw [Nat.zero_add, hcell]
  simp [List.getD, hiv]

namespace Plain
theorem regs_small {g : Gr} {p : Pt} {turn same ll : List (List Int)} (h : Parted g p turn same) (hl : IsRegs g p turn same ll) : ∀ l ∈ ll, (∀ x ∈ l, I64 x ∧ x ∈ (walksOf g p turn).map (·.1)) ∧ l.length ≤ (walksOf g p turn).length := by
 intro l hlm
 have hm := hl.perm.mem_iff.1 hlm
 have hk : ∀ x ∈ l, x ∈ (walksOf g p turn).map (·.1) := fun x hx => h.all.mem_iff.1 (List.mem_flatten.2 ⟨l, hm, hx⟩)
 refine ⟨fun x hx => ⟨?_, hk x hx⟩, ?_⟩
 ·obtain ⟨f, hf, rfl⟩ := List.mem_map.1 (hk x hx)
  have := key_small h.part h.walks hf
  exact I64.mk (by omega) (by omega)
 ·have hn := (nodup_flat.1 h.nodupAll).1 l hm
  have := len_le_of_sub hn hk
  rwa [List.length_map] at this
end Plain

end Go.Proofs.YtfgbkpbakignhaaGreat
