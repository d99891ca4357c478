/- Laws at operations, in short words: a number appended to a row of the call's own. Conditions: what each law says. -/
import Derived.Test.YtfgbkpbakignhaaVRow
import Derived.Test.YtfgbkpbakignhaaVWalkU
import Derived.Test.YtfgbkpbakignhaaVMisc
import Derived.Test.YtfgbkpbakignhaaVLeav
import Derived.Test.YtfgbkpbakignhaaVBfs
import Derived.Test.YtfgbkpbakignhaaVWake
import Derived.Test.YtfgbkpbakignhaaVBase
namespace Go.Proofs.Ytfgbkpbakignhaa
open Go.RowKit Go.Maps

theorem row_lit1 {w : World} {B : Nat} (hB : B ≤ w.heap.size) {k : Int} (hk : I64 k) : RowAt (w.alloc (.cells #[.int .i64 k] 3)) B (.slice (some ⟨w.heap.size, 0, none⟩) 1 1) [k] :=
  ⟨World.ownsRow_lit w #[.int .i64 k] 1 hB (by decide) rfl, by simpa using hk, by simp⟩

/-- 'append(l, x)'. -/
theorem wl_push {ops : Array Oper} {rest : List Oper} {o : Oper} {a : Act} {Q : Exit → Act → World → Prop} {w w0 : World} (hg : o.guard = none) (s x : Operand) (ho : o.op = .call { callee := .builtin .append, args := #[s, x], argTypes := #[25, 25] })
    {B : Nat} {v : Value} {l : List Int} {k : Int} (hs : a.eval s = v) (hx : a.eval x = .slice (some ⟨w0.heap.size, 0, none⟩) 1 1) (h : RowAt w0 B v l) (hk : I64 k) (hB : B ≤ w0.heap.size) (hn : l.length < 4294967290) (hw : w = w0.alloc (.cells #[.int .i64 k] 3))
    (hK : ∀ v' w', RowAt w' B v' (l ++ [k]) → Chg (foot v) w0 w' → (∀ b ∈ foot v', b ∈ foot v ∨ w0.heap.size ≤ b) → wpList Try.prog ops Q rest (a.put o.dst v') w') : wpList Try.prog ops Q (o :: rest) a w := by
  subst hw
  have hc := (Chg.refl [] w0).alloc (.cells #[.int .i64 k] 3)
  refine wl_cat hg s x ho hs hx (h.chg hc (by simp)) (row_lit1 (B := w0.heap.size) (Nat.le_refl _) hk) (Nat.le_trans hB hc.size) (by simp; omega) fun v' w' r1 r2 r3 => hK v' w' r1 ((hc.mono (by simp)).trans r2 fun j hj => Or.inl hj) fun b hb => (r3 b hb).imp id fun q => Nat.le_trans hc.size q

/-- One cell of a list that is read. -/
theorem IntsAt.cellAt {w : World} {ao : Option Addr} {n c : Nat} {l : List Int} (h : IntsAt w (.slice ao n c) l) {i : Nat} (hi : i < l.length) : ∃ b off, ao = some ⟨b, off, none⟩ ∧ w.cell? ⟨b, off + i, none⟩ = some (.int .i64 (l.getD i 0)) := by
  obtain ⟨ao', c', e', -, -, h⟩ := h
  simp only [Value.slice.injEq] at e'
  obtain ⟨rfl, -, rfl⟩ := e'
  obtain ⟨b, off, rfl, h2⟩ := h (by intro q; rw [q] at hi; simp at hi)
  exact ⟨b, off, rfl, h2 i hi⟩

/-- One row of a list of lists that is read. -/
theorem RowsAt.row {w : World} {tno : Option Addr} {n tc : Nat} {ll : List (List Int)} (h : RowsAt w (.slice tno n tc) ll) {k : Nat} (hk : k < ll.length) : ∃ b off uo uc, tno = some ⟨b, off, none⟩ ∧ w.cell? ⟨b, off + k, none⟩ = some (.slice uo (ll.getD k []).length uc) ∧ IntsAt w (.slice uo (ll.getD k []).length uc) (ll.getD k []) := by
  obtain ⟨ao, cap, e, -, h2⟩ := h
  simp only [Value.slice.injEq] at e
  obtain ⟨rfl, rfl, rfl⟩ := e
  obtain ⟨b, off, u, rfl, h3, -, h5⟩ := h2 k hk
  have h6 := h5
  obtain ⟨uo, uc, rfl, -⟩ := h5
  exact ⟨b, off, uo, uc, rfl, h3, h6⟩

theorem rowNil' (w : World) (B : Nat) : RowAt w B (.slice none 0 0) [] := ⟨World.ownsRow_nil _ _ _ _, by simp, by simp⟩
theorem ret_val {u v : Value} (h : u = v) : Ending.returned u = .returned v := by rw [h]

end Go.Proofs.Ytfgbkpbakignhaa
/- plan.Region: its contract. Conditions: a graph, a part, a plan that lie in memory and read so, of a bounded size. -/
namespace Go.Proofs.Ytfgbkpbakignhaa
open Go.RowKit Go.Maps

/-- A number for 'found at' or -1. -/
def ixOf : Option Nat → Int
  | some i => i
  | none => -1

theorem regionAt_take {ll : List (List Int)} {key : Int} {k : Nat} (hk : k < ll.length) (h : ∀ i, i < k → key ∉ ll.getD i []) (hin : key ∈ ll.getD k []) : Plain.regionAt ll key = some k := by
  unfold Plain.regionAt
  rw [List.findIdx?_eq_some_iff_getElem]
  refine ⟨hk, decide_eq_true (by simpa [List.getD, hk] using hin), fun j hj => ?_⟩
  have := h j hj
  have hjl : j < ll.length := by omega
  simpa [List.getD, hjl] using this
theorem regionAt_no {ll : List (List Int)} {key : Int} (h : ∀ i, i < ll.length → key ∉ ll.getD i []) : Plain.regionAt ll key = none := by
  rw [Plain.regionAt_none]
  intro hm
  obtain ⟨l, hl, hx⟩ := List.mem_flatten.1 hm
  obtain ⟨i, hi, rfl⟩ := List.getElem_of_mem hl
  exact h i hi (by simpa [List.getD, hi] using hx)

/-- Lists of the call's own, read. -/
theorem RowsOwn.read {w : World} {B : Nat} {ov : Value} {vs : List Value} {ll : List (List Int)} (h : RowsOwn w B ov vs ll) (hi : ∀ l ∈ ll, (∀ x ∈ l, I64 x) ∧ l.length < 4294967296) : RowsAt w ov ll := by
  have hlen := h.len
  have hcap : ∀ {v : Value} {n : Nat} {xs : List Value} {e : TypeId}, w.ownsRow B e 1 v n xs → CapOk v := by
    intro v n xs e ho
    rcases ho.2 with ⟨rfl, _⟩ | ⟨g, cap, cur, rfl, -, -, hn, hc, -, -⟩
    · exact ⟨none, 0, 0, rfl, by decide, by decide⟩
    · exact ⟨_, _, _, rfl, hn, by unfold maxLen at hc; omega⟩
  rcases h.out.2 with ⟨rfl, h0⟩ | ⟨g, cap, cur, rfl, -, -, hn, hc, -, -⟩
  · have : ll = [] := List.length_eq_zero_iff.1 (by omega)
    subst this
    exact ⟨none, 0, rfl, by decide, fun i hi => absurd hi (by simp)⟩
  · refine ⟨_, cap, by rw [hlen], by unfold maxLen at hc; omega, fun i hi2 => ?_⟩
    have hiv : i < vs.length := by omega
    have hrow := h.rows i hiv
    have hcell := h.out.cellAt i (by omega)
    have hm : ll.getD i [] ∈ ll := by simp [List.getD, hi2]
    refine ⟨g, 0, vs.getD i undef, rfl, ?_, hcap hrow, RowAt.ints (B := B) ⟨hrow, hi _ hm⟩⟩
    rw [Nat.zero_add, hcell]
    simp [List.getD, hiv]

namespace Plain
/-- What plan.Region answers. -/
noncomputable def regionRes (g : Gr) (p : Pt) (turn same : List (List Int)) (key : Int) : Int × Bool :=
  if planErr g p turn same ≠ 0 then (0, false) else match regionAt (regionsOf g p turn same) key with
    | some i => ((i : Int), true)
    | none => (0, false)

theorem regs_small {g : Gr} {p : Pt} {turn same ll : List (List Int)} (h : Parted g p turn same) (hl : IsRegs g p turn same ll) : ∀ l ∈ ll, (∀ x ∈ l, I64 x ∧ x ∈ (walksOf g p turn).map (·.1)) ∧ l.length ≤ (walksOf g p turn).length := by
  intro l hlm
  have hm := hl.perm.mem_iff.1 hlm
  have hk : ∀ x ∈ l, x ∈ (walksOf g p turn).map (·.1) := fun x hx => h.all.mem_iff.1 (List.mem_flatten.2 ⟨l, hm, hx⟩)
  refine ⟨fun x hx => ⟨?_, hk x hx⟩, ?_⟩
  · obtain ⟨f, hf, rfl⟩ := List.mem_map.1 (hk x hx)
    have := key_small h.part h.walks hf
    exact I64.mk (by omega) (by omega)
  · have hn := (nodup_flat.1 h.nodupAll).1 l hm
    have := len_le_of_sub hn hk
    rwa [List.length_map] at this
end Plain

end Go.Proofs.Ytfgbkpbakignhaa
/- the document's answer for package walk: the contract of Spread, from one vertex. Conditions: a right part that lies in memory and reads so; a vertex of it. -/
namespace Go.Proofs.Ytfgbkpbakignhaa
open Go.RowKit Go.Maps

namespace Plain
theorem nodup_le : ∀ {l m : List Int}, l.Nodup → (∀ x ∈ l, x ∈ m) → l.length ≤ m.length
  | [], _, _, _ => Nat.zero_le _
  | x :: l, m, hn, hs => by
    rw [List.nodup_cons] at hn
    have hx := hs x (by simp)
    have := nodup_le (l := l) (m := m.erase x) hn.2 (fun y hy => by
      refine (List.mem_erase_of_ne (fun e => hn.1 (by rw [← e]; exact hy))).2 (hs y (by simp [hy])))
    rw [List.length_erase_of_mem hx] at this
    have := List.length_pos_of_mem hx
    simp
    omega

/-- What has been met, as a list. -/
structure Met (g : Gr) (p : Pt) (but a : Int) (M : List Int) : Prop where
  base : a ∈ M
  come : ∀ u ∈ M, Come g p but a u
  inV : ∀ u ∈ M, u ∈ p.v
  nodup : M.Nodup

/-- The edge at place t has been looked at from u. -/
def Seen (g : Gr) (p : Pt) (but : Int) (M : List Int) (u : Int) (t : Nat) : Prop :=
  ((g.at (p.e.getD t 0)).1 = u → (g.at (p.e.getD t 0)).2 = but ∨ (g.at (p.e.getD t 0)).2 ∈ M) ∧ ((g.at (p.e.getD t 0)).2 = u → (g.at (p.e.getD t 0)).1 = but ∨ (g.at (p.e.getD t 0)).1 ∈ M)

theorem Seen.more {g : Gr} {p : Pt} {but u x : Int} {M : List Int} {t : Nat} (h : Seen g p but M u t) : Seen g p but (M ++ [x]) u t :=
  ⟨fun e => (h.1 e).imp id (fun q => List.mem_append.2 (Or.inl q)), fun e => (h.2 e).imp id (fun q => List.mem_append.2 (Or.inl q))⟩

def SOut (g : Gr) (p : Pt) (but a : Int) (M : List Int) (i : Nat) : Prop := Met g p but a M ∧ i ≤ M.length ∧ ∀ j, j < i → ∀ t, t < p.e.length → Seen g p but M (M.getD j 0) t
def SIn (g : Gr) (p : Pt) (but a : Int) (M : List Int) (i k : Nat) : Prop := Met g p but a M ∧ i < M.length ∧ (∀ j, j < i → ∀ t, t < p.e.length → Seen g p but M (M.getD j 0) t) ∧ ∀ t, t < k → Seen g p but M (M.getD i 0) t

theorem SOut.start {g : Gr} {p : Pt} {but a : Int} (ha : a ∈ p.v) : SOut g p but a [a] 0 :=
  ⟨⟨by simp, fun u hu => by simp at hu; subst hu; exact .here, fun u hu => by simp at hu; subst hu; exact ha, by simp⟩, by simp, by simp⟩

theorem SOut.inner {g : Gr} {p : Pt} {but a : Int} {M : List Int} {i : Nat} (h : SOut g p but a M i) (hi : i < M.length) : SIn g p but a M i 0 := ⟨h.1, hi, h.2.2, by simp⟩

theorem SIn.outer {g : Gr} {p : Pt} {but a : Int} {M : List Int} {i : Nat} (h : SIn g p but a M i p.e.length) : SOut g p but a M (i + 1) :=
  ⟨h.1, h.2.1, fun j hj => by
    by_cases e : j = i
    · subst e; exact h.2.2.2
    · exact h.2.2.1 j (by omega)⟩

theorem getD_snoc {M : List Int} {x : Int} {j : Nat} (hj : j < M.length) : (M ++ [x]).getD j 0 = M.getD j 0 := by simp [List.getD, List.getElem?_append_left hj]

/-- One thing more is met. -/
theorem SIn.add {g : Gr} {p : Pt} {but a x : Int} {M : List Int} {i k : Nat} (h : SIn g p but a M i k) (hx : x ∉ M) (hv : x ∈ p.v) (hn : Near g p (M.getD i 0) x) (hb : x ≠ but) : SIn g p but a (M ++ [x]) i k := by
  obtain ⟨h1, h2, h3, h4⟩ := h
  have hmi : M.getD i 0 ∈ M := by simp [List.getD, h2]
  refine ⟨⟨by simp [h1.base], fun u hu => ?_, fun u hu => ?_, ?_⟩, by simp; omega, fun j hj t ht => ?_, fun t ht => ?_⟩
  · rcases List.mem_append.1 hu with q | q
    · exact h1.come u q
    · simp at q; subst q; exact (h1.come _ hmi).step hn hb
  · rcases List.mem_append.1 hu with q | q
    · exact h1.inV u q
    · simp at q; subst q; exact hv
  · rw [List.nodup_append]
    exact ⟨h1.nodup, by simp, fun u hu z hz => by simp at hz; subst hz; rintro rfl; exact hx hu⟩
  · rw [getD_snoc (by omega)]; exact (h3 j hj t ht).more
  · rw [getD_snoc h2]; exact (h4 t ht).more

/-- The edge at place k has been looked at. -/
theorem SIn.next {g : Gr} {p : Pt} {but a : Int} {M : List Int} {i k : Nat} (h : SIn g p but a M i k) (hs : Seen g p but M (M.getD i 0) k) : SIn g p but a M i (k + 1) :=
  ⟨h.1, h.2.1, h.2.2.1, fun t ht => by
    by_cases e : t = k
    · subst e; exact hs
    · exact h.2.2.2 t (by omega)⟩

/-- All is met. -/
theorem SOut.all {g : Gr} {p : Pt} {but a : Int} {M : List Int} (h : SOut g p but a M M.length) (u : Int) : u ∈ M ↔ Come g p but a u := by
  refine come_iff h.1.base h.1.come (fun u hu w hn hs => ?_) u
  obtain ⟨j, hj, rfl⟩ := mem_getD hu
  obtain ⟨e, he, hee⟩ := hn
  obtain ⟨t, ht, rfl⟩ := mem_getD he
  have := h.2.2 j hj t ht
  rcases hee with q | q
  · have := this.1 (by rw [q])
    rw [q] at this
    exact this.resolve_left hs
  · have := this.2 (by rw [q])
    rw [q] at this
    exact this.resolve_left hs

theorem Met.len {g : Gr} {p : Pt} {but a : Int} {M : List Int} (h : Met g p but a M) : M.length ≤ p.v.length := nodup_le h.nodup h.inV
end Plain

end Go.Proofs.Ytfgbkpbakignhaa
/- ref05: the contract of Pieces (how many). Conditions: a right part that lies in memory, of at most 1000 vertices. -/
namespace Go.Proofs.Ytfgbkpbakignhaa
open Go.RowKit Go.Maps

namespace Plain
/-- All that hangs together with the roots so far. -/
def Gone (g : Gr) (p : Pt) (k : Nat) (A : List Int) : Prop := ∀ u, u ∈ A ↔ ∃ r ∈ rootsTo g p k, Come g p (-1) r u

theorem Gone.start (g : Gr) (p : Pt) : Gone g p 0 [] := fun u => by rw [rootsTo_zero]; simp

open Classical in
theorem Gone.root {g : Gr} {p : Pt} {k : Nat} {A : List Int} (hp : PartOk g p) (hr : p.v.Pairwise (· < ·)) (h : Gone g p k A) (hk : k < p.v.length) (hf : p.v.getD k 0 ∉ A) : p.v.getD k 0 ∈ roots g p := by
  obtain ⟨r, hr1, hc⟩ := root_of (g := g) (fun v hv => (hp.vr v hv).1) (getD_mem hk)
  have hle := (mem_roots.1 hr1).2 _ (getD_mem hk) hc
  by_cases e : r = p.v.getD k 0
  · rw [← e]; exact hr1
  · exfalso
    obtain ⟨j, hj, hje⟩ := mem_getD (mem_roots.1 hr1).1
    have hjk : j < k := by
      rcases Nat.lt_or_ge j k with q | q
      · exact q
      · exfalso
        rcases Nat.eq_or_lt_of_le q with q | q
        · subst q; exact e hje.symm
        · have := List.pairwise_iff_getElem.1 hr k j hk hj q
          simp [List.getD, hk, hj] at hje hle
          omega
    have hm : r ∈ rootsTo g p k := by
      unfold rootsTo
      refine List.mem_filter.2 ⟨?_, decide_eq_true (mem_roots.1 hr1).2⟩
      rw [← hje]
      have : (p.v.take k)[j]? = some p.v[j] := by rw [List.getElem?_take, if_pos hjk, List.getElem?_eq_getElem hj]
      have e2 : p.v.getD j 0 = p.v[j] := by simp [List.getD, hj]
      rw [e2]
      exact List.mem_of_getElem? this
    exact hf ((h _).2 ⟨r, hm, hc⟩)

theorem Gone.known {g : Gr} {p : Pt} {k : Nat} {A : List Int} (hp : PartOk g p) (h : Gone g p k A) (hk : k < p.v.length) (hf : p.v.getD k 0 ∈ A) : p.v.getD k 0 ∉ roots g p := by
  intro hr
  obtain ⟨r, hm, hc⟩ := (h _).1 hf
  have hm := rootsTo_mem hm
  have e := root_one (fun v hv => (hp.vr v hv).1) hm.1 hr hc .here
  have h2 := hm.2
  rw [e] at h2
  exact new_v hp hk h2

theorem Gone.skip {g : Gr} {p : Pt} {k : Nat} {A : List Int} (hp : PartOk g p) (h : Gone g p k A) (hk : k < p.v.length) (hf : p.v.getD k 0 ∈ A) : Gone g p (k + 1) A := by
  unfold Gone
  rw [rootsTo_same hk (h.known hp hk hf)]
  exact h
theorem Gone.add {g : Gr} {p : Pt} {k : Nat} {A M : List Int} (hp : PartOk g p) (hr : p.v.Pairwise (· < ·)) (h : Gone g p k A) (hk : k < p.v.length) (hf : p.v.getD k 0 ∉ A) (hM : ∀ u, u ∈ M ↔ Come g p (-1) (p.v.getD k 0) u) : Gone g p (k + 1) (A ++ M) := by
  intro u
  rw [rootsTo_snoc hk (h.root hp hr hk hf), List.mem_append, h u, hM u]
  constructor
  · rintro (⟨r, h1, h2⟩ | h)
    · exact ⟨r, List.mem_append.2 (Or.inl h1), h2⟩
    · exact ⟨_, List.mem_append.2 (Or.inr (List.mem_singleton.2 rfl)), h⟩
  · rintro ⟨r, h1, h2⟩
    rcases List.mem_append.1 h1 with h1 | h1
    · exact Or.inl ⟨r, h1, h2⟩
    · rw [List.mem_singleton.1 h1] at h2; exact Or.inr h2
end Plain

end Go.Proofs.Ytfgbkpbakignhaa
/- ref02: the contracts of Find, Right. Condition: a list that lies in memory and reads so. -/
namespace Go.Proofs.Ytfgbkpbakignhaa
open Go.RowKit Go.Maps

namespace Plain
/-- Where a thing is first, or -1. -/
def findIx (l : List Int) (x : Int) : Int := if x ∈ l then (l.idxOf x : Nat) else -1
theorem findIx_hit {l : List Int} {x : Int} {k : Nat} (hk : k < l.length) (h : l.getD k 0 = x) (hn : x ∉ l.take k) : findIx l x = k := by
  have hm : x ∈ l := by rw [← h]; simp [List.getD, hk]
  have hi := List.idxOf_lt_length_iff.2 hm
  unfold findIx
  rw [if_pos hm]
  have h1 : ¬ l.idxOf x < k := fun q => hn (by
    have e : (l.take k)[l.idxOf x]? = some x := by rw [List.getElem?_take, if_pos q, List.getElem?_eq_getElem hi, List.getElem_idxOf]
    exact List.mem_of_getElem? e)
  have h2 : ¬ k < l.idxOf x := fun q => by
    have := List.not_of_lt_findIdx (xs := l) (p := fun y => y == x) q
    simp [List.getD, hk] at h
    simp [h] at this
  omega
theorem findIx_miss {l : List Int} {x : Int} (h : x ∉ l) : findIx l x = -1 := if_neg h
end Plain

namespace Plain
theorem findIx_lt {l : List Int} {k : Nat} (hk : k < l.length) : findIx l (l.getD k 0) < k ↔ l.getD k 0 ∈ l.take k := by
  constructor
  · intro h
    by_cases q : l.getD k 0 ∈ l.take k
    · exact q
    · rw [findIx_hit hk rfl q] at h; omega
  · intro h
    obtain ⟨i, hi, e⟩ := List.getElem_of_mem h
    rw [List.length_take] at hi
    rw [List.getElem_take] at e
    have hm : l.getD k 0 ∈ l := by simp [List.getD, hk]
    unfold findIx
    rw [if_pos hm]
    have h2 : ¬ i < l.idxOf (l.getD k 0) := fun q => by
      have := List.not_of_lt_findIdx (xs := l) (p := fun y => y == l.getD k 0) q
      simp at this
      exact this (by simpa [List.getD, hk] using e)
    omega
theorem nodup_snoc {l : List Int} {k : Nat} (hk : k < l.length) : (l.take (k + 1)).Nodup ↔ (l.take k).Nodup ∧ l.getD k 0 ∉ l.take k := by
  have e : l.take (k + 1) = l.take k ++ [l.getD k 0] := by rw [List.take_succ_eq_append_getElem hk]; simp [List.getD, hk]
  rw [e, List.nodup_append]
  constructor
  · rintro ⟨h1, -, h3⟩
    exact ⟨h1, fun h => h3 _ h _ (by simp) rfl⟩
  · rintro ⟨h1, h2⟩
    exact ⟨h1, by simp, fun x hx y hy e => h2 (by rw [← List.mem_singleton.1 hy, ← e]; exact hx)⟩
end Plain

end Go.Proofs.Ytfgbkpbakignhaa
