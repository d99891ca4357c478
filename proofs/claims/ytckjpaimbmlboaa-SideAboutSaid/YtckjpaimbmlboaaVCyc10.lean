/- ref04.Head, ref10.on, ref10.Cycle: their contracts. Conditions: a graph, a part, a list of ints that lie in memory and read so, of a bounded size. -/
import Derived.Test.YtckjpaimbmlboaaVAwkT
namespace Go.Proofs.Ytckjpaimbmlboaa
open Go.RowKit Go.Maps
namespace Plain
end Plain
namespace Plain
def nearAt (L : Int → Option Int) (M : List Int) (j : Nat) (e : Int) : Prop := (lf L (2 * e) = M.getD j 0 → lf L (2 * e + 1) ∈ M) ∧ (lf L (2 * e + 1) = M.getD j 0 → lf L (2 * e) ∈ M)
structure LeftsAt (L : Int → Option Int) (p : Pt) (cy : List Int) (M : List Int) (i k : Nat) : Prop where
 head : sideHead L cy ∈ M
 nodup : M.Nodup
 low : ∀ r ∈ M, 0 ≤ r ∧ r ≤ 10000
 rel : ∀ r ∈ M, sideRel L p cy r (sideHead L cy)
 done : ∀ j, j < i → ∀ e ∈ p.e, e ∉ cy.map (· / 2) → nearAt L M j e
 now : ∀ q, q < k → p.e.getD q 0 ∉ cy.map (· / 2) → nearAt L M i (p.e.getD q 0)
end Plain
end Go.Proofs.Ytckjpaimbmlboaa
namespace Go.Proofs.Ytckjpaimbmlboaa
open Go.RowKit Go.Maps
namespace Plain
end Plain
namespace Plain
def keepOf (E : List Int) (l : List Int) : List Int := l.filter fun d => decide (d / 2 ∈ E)
end Plain
end Go.Proofs.Ytckjpaimbmlboaa
namespace Go.Proofs.Ytckjpaimbmlboaa
namespace Plain
def evens (E : List Int) : List Int := E.map (2 * ·)
theorem evens_half (E : List Int) : (evens E).map (· / 2) = E := by
 unfold evens
 rw [List.map_map]
 conv => rhs; rw [← List.map_id E]
 exact List.map_congr_left fun x _ => by show (2 * x) / 2 = x; omega
def restTurn (E : List Int) (turn : List (List Int)) : List (List Int) := turn.map fun l => first (keepOf E l)
theorem restTurn_at (E : List Int) (turn : List (List Int)) (v : Int) : turnAt (restTurn E turn) v = first (keepOf E (turnAt turn v)) := by
 unfold turnAt restTurn List.getD
 rw [List.getElem?_map]
 cases turn[v.toNat]? <;> rfl
theorem restTurn_ok {g : Gr} {p q : Pt} {turn : List (List Int)} (ht : TurnsOk g p turn) (hs : ∀ e ∈ q.e, e ∈ p.e) : TurnsOk g q (restTurn q.e turn) := by
 refine ⟨by unfold restTurn; rw [List.length_map]; exact ht.len, fun v => ?_, fun v h0 hn d => ?_⟩
 ·rw [restTurn_at]; exact (first_perm _).nodup_iff.2 ((ht.nodup v).filter _)
 rw [restTurn_at, (first_perm _).mem_iff]
 unfold keepOf
 rw [List.mem_filter, decide_eq_true_iff, ht.mem v h0 hn d, mem_darts, mem_darts]
 exact ⟨fun h => ⟨h.2, h.1.2⟩, fun h => ⟨⟨hs _ h.1, h.2⟩, h.1⟩⟩
def keysAt (c : Face → Int) (W : List Face) (h : Int) : List Int := (W.filter fun x => decide (c x = h)).map (·.1)
def grps (c : Face → Int) (W : List Face) : List (List Int) := (W.filter fun f => decide (1 < (keysAt c W (c f)).length ∧ (keysAt c W (c f)).getD 0 0 = f.1)).map fun f => keysAt c W (c f)
theorem mem_grps {c : Face → Int} {W : List Face} {l : List Int} : l ∈ grps c W ↔ ∃ h, l = keysAt c W h ∧ 1 < l.length := by
 unfold grps
 rw [List.mem_map]
 constructor
 ·rintro ⟨f, hf, rfl⟩
  have := (List.mem_filter.1 hf).2
  exact ⟨c f, rfl, (of_decide_eq_true this).1⟩
 rintro ⟨h, rfl, hl⟩
 cases e : W.filter fun x => decide (c x = h) with
 | nil => unfold keysAt at hl; rw [e] at hl; simp at hl
 | cons f m =>
  have hf : f ∈ W.filter fun x => decide (c x = h) := by rw [e]; simp
  obtain ⟨h1, h2⟩ := List.mem_filter.1 hf
  have h3 : c f = h := of_decide_eq_true h2
  refine ⟨f, List.mem_filter.2 ⟨h1, decide_eq_true ?_⟩, by rw [h3]⟩
  rw [h3]
  exact ⟨hl, by unfold keysAt; rw [e]; rfl⟩
theorem grps_heads {c : Face → Int} {W : List Face} (hk : (W.map (·.1)).Pairwise (· < ·)) : (grps c W).Pairwise fun a b => a.getD 0 0 < b.getD 0 0 := by
 unfold grps
 rw [List.pairwise_map] at hk ⊢
 refine List.Pairwise.imp_of_mem ?_ (hk.filter _)
 intro f x hf hx h
 have h1 := (of_decide_eq_true (List.mem_filter.1 hf).2).2
 have h2 := (of_decide_eq_true (List.mem_filter.1 hx).2).2
 rw [h1, h2]
 exact h
theorem grps_of {c : Face → Int} {W : List Face} (hk : (W.map (·.1)).Pairwise (· < ·)) {C C' : List (List Int)} (hn : C.Nodup) (hm : ∀ l, l ∈ C ↔ ∃ h, l = keysAt c W h ∧ 1 < l.length) (hp : C'.Perm C) (hs : C'.Pairwise fun a b => a.getD 0 0 ≤ b.getD 0 0) : C' = grps c W := by
 have hg := grps_heads (c := c) hk
 have hgn : (grps c W).Nodup := hg.imp (fun h e => by rw [e] at h; omega)
 have hpg : C'.Perm (grps c W) := hp.trans ((List.perm_ext_iff_of_nodup hn hgn).2 fun l => (hm l).trans mem_grps.symm)
 refine perm_sorted (f := fun l => l.getD 0 0) hpg hs (hg.imp (fun h => by omega)) fun x hx y hy e => ?_
 have hx := hpg.mem_iff.1 hx
 have hy := hpg.mem_iff.1 hy
 obtain ⟨i, hi, rfl⟩ := List.getElem_of_mem hx
 obtain ⟨j, hj, rfl⟩ := List.getElem_of_mem hy
 have hq := List.pairwise_iff_getElem.1 hg
 rcases Nat.lt_trichotomy i j with q | q | q
 ·have := hq i j hi hj q; omega
 ·subst q; rfl
 have := hq j i hj hi q; omega
def place (turn : List (List Int)) (f : Face) : Int := if f.2 = [] then seat turn (-1 - f.1) else f.1
end Plain
end Go.Proofs.Ytckjpaimbmlboaa
namespace Go.Proofs.Ytckjpaimbmlboaa
open Go.RowKit Go.Maps Go.WideElems
theorem PlanVar.mix {w w' : World} {pb B T : Nat} {t s : List (List Int)} {own : List Nat} (h : PlanVar w pb B T t s) (hc : Chg own w w') (ho : ∀ j ∈ own, j ≠ pb ∧ (j < B ∨ ∀ cs u r, w.heap[j]? ≠ some (.cells cs u r))) : PlanVar w' pb B T t s := by
 obtain ⟨⟨o1, v1, o2, v2, h1, h2, h3, h4, h5, h6⟩, h7⟩ := h
 have hr : ∀ {ov : Value} {vs : List Value} {ll : List (List Int)}, RowsOwn w B ov vs ll → RowsOwn w' B ov vs ll := by
  intro ov vs ll hr
  refine hr.chg hc (fun b hb hm => ?_) (fun k b hk hb hm => ?_)
  ·obtain ⟨cs, hh⟩ := owns_kind hr.out hb
   rcases (ho _ hm).2 with q | q
   ·have := (hr.out.lt b hb).1; omega
   exact q _ _ _ hh
  obtain ⟨cs, hh⟩ := owns_kind (hr.rows k hk) hb
  rcases (ho _ hm).2 with q | q
  ·have := ((hr.rows k hk).lt b hb).1; omega
  exact q _ _ _ hh
 exact ⟨⟨o1, v1, o2, v2, hc.heap h1 (fun hm => (ho _ hm).1 rfl), hr h2, hr h3, h4, h5, h6⟩, h7⟩
namespace Plain
end Plain
namespace Plain
structure Got (c : Face → Int) (W : List Face) (left : Int → Bool) (C : List (List Int)) : Prop where
 nodup : C.Nodup
 mem : ∀ l, l ∈ C ↔ ∃ h, I64 h ∧ left h = false ∧ l = keysAt c W h ∧ 1 < l.length
end Plain
end Go.Proofs.Ytckjpaimbmlboaa
