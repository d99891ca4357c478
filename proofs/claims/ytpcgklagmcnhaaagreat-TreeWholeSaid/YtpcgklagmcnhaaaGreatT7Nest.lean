/- Slices of structs of the call's own: each cell an int or a row of ints of the call's own. No condition beyond what each law says. -/
import Derived.Test.YtpcgklagmcnhaaaGreatT7SetsD
import Derived.RangeFuncNested
import Derived.RangeFuncBound
import Derived.RangeFuncCalls
import Derived.RangeFuncLeaves
import Derived.RangeFuncBox
import Derived.Shelf.Abstract
import Derived.Shelf.AbstractIn
import Derived.Shelf.RegionOpen
import Derived.OwnWalkIn
import Derived.TacticsInMore
import Derived.LoopNIn
import Derived.LoopIn
import Derived.Maps.OwnIn
namespace Go.Proofs.YtpcgklagmcnhaaaGreat
open Go.RowKit Go.Maps
inductive Cell where
 | num (k : Int)
 | row (l : List Int)
def Cell.At (w : World) (B : Nat) (v : Value) : Cell → Prop
 | num k => v = .int .i64 k
 | row l => RowAt w B v l
theorem Cell.At.chg {w w' : World} {B : Nat} {v : Value} {c : Cell} {own : List Nat} (h : c.At w B v) (hc : Chg own w w') (hn : ∀ b ∈ v.ownBlock.toList, b ∉ own) : c.At w' B v := by
 cases c with
 | num k => exact h
 | row l => exact RowAt.chg h hc hn
theorem Cell.At.base {w : World} {B B' : Nat} {v : Value} {c : Cell} (h : c.At w B' v) (hB : B ≤ B') : c.At w B v := by
 cases c with
 | num k => exact h
 | row l => exact RowAt.base h hB
theorem Cell.At.low {w : World} {B : Nat} {v : Value} {c : Cell} (h : c.At w B v) : ∀ b, v.ownBlock = some b → B ≤ b ∧ b < w.heap.size ∧ ∃ cs r, w.heap[b]? = some (.cells cs 3 r) := by
 intro b hb
 cases c with
 | num k =>
  have h' : v = .int .i64 k := h
  rw [h'] at hb; cases hb
 | row l =>
  have h' : RowAt w B v l := h
  have h1 := h'.low b (by grind)
  exact ⟨h1.1, h1.2, row_kind h' b (by rw [h'.foot, hb]; simp)⟩
structure Nest (w : World) (B : Nat) (e : TypeId) (sz : Nat) (ov : Value) (n : Nat) (xs : List Value) (cs : List Cell) : Prop where
 out : w.ownsRow B e sz ov n xs
 len : xs.length = cs.length
 cells : xs.length = n * sz
 fits : ∀ (k : Nat) (c : Cell), cs[k]? = some c → c.At w B (xs.getD k undef)
 apart : ∀ k l, k < xs.length → l < xs.length → k ≠ l → (xs.getD k undef).ownBlock = none ∨ (xs.getD k undef).ownBlock ≠ (xs.getD l undef).ownBlock
theorem Nest.nil (w : World) (B : Nat) (e : TypeId) (sz : Nat) : Nest w B e sz (.slice none 0 0) 0 [] [] := ⟨World.ownsRow_nil _ _ _ _, rfl, by simp, by simp, by simp⟩
section
variable {w w' : World} {B n sz : Nat} {e : TypeId} {ov : Value} {xs : List Value} {cs : List Cell}
theorem Nest.fit (h : Nest w B e sz ov n xs cs) {k : Nat} (hk : k < xs.length) : ∃ c : Cell, cs[k]? = some c ∧ c.At w B (xs.getD k undef) := by
 have hk' : k < cs.length := by rw [← h.len]; exact hk
 exact ⟨cs[k], List.getElem?_eq_getElem hk', h.fits k _ (List.getElem?_eq_getElem hk')⟩
theorem Nest.kind (h : Nest w B e sz ov n xs cs) {k b : Nat} (hk : k < xs.length) (hb : (xs.getD k undef).ownBlock = some b) : B ≤ b ∧ b < w.heap.size ∧ ∃ cs r, w.heap[b]? = some (.cells cs 3 r) := by
 obtain ⟨c, -, hc⟩ := h.fit hk
 exact hc.low b hb
theorem Nest.chg {own : List Nat} (h : Nest w B e sz ov n xs cs) (hc : Chg own w w') (h1 : ∀ b, ov.ownBlock = some b → b ∉ own) (h2 : ∀ k b, k < xs.length → (xs.getD k undef).ownBlock = some b → b ∉ own) : Nest w' B e sz ov n xs cs :=
 ⟨owns_chg h.out hc h1, h.len, h.cells, fun k c hk => (h.fits k c hk).chg hc (fun b hb => h2 k b (by rw [h.len]; exact (List.getElem?_eq_some_iff.1 hk).1) (by simpa using hb)), h.apart⟩
theorem Nest.fresh (h : Nest w B e sz ov n xs cs) (hc : Chg [] w w') : Nest w' B e sz ov n xs cs := h.chg hc (by simp) (by simp)
theorem Nest.base {B' : Nat} (h : Nest w B' e sz ov n xs cs) (hB : B ≤ B') : Nest w B e sz ov n xs cs :=
 ⟨owns_base h.out hB, h.len, h.cells, fun k c hk => (h.fits k c hk).base hB, h.apart⟩
theorem getD_left {α : Type} {a b : List α} {d : α} {k : Nat} (hk : k < a.length) : (a ++ b).getD k d = a.getD k d := by grind
theorem getD_right {α : Type} {a b : List α} {d : α} {k : Nat} (hk : a.length ≤ k) : (a ++ b).getD k d = b.getD (k - a.length) d := by grind
theorem Nest.add {g cap : Nat} {us : List Value} {ds : List Cell} (h : Nest w B e sz ov n xs cs) (he : e ≠ 3) (hl : us.length = ds.length) (hz : us.length = sz)
  (hu : ∀ (k : Nat) (c : Cell), ds[k]? = some c → c.At w B (us.getD k undef)) (hua : ∀ k l, k < us.length → l < us.length → k ≠ l → (us.getD k undef).ownBlock = none ∨ (us.getD k undef).ownBlock ≠ (us.getD l undef).ownBlock)
  (hap : ∀ k l b, k < xs.length → l < us.length → (xs.getD k undef).ownBlock = some b → (us.getD l undef).ownBlock ≠ some b)
  (hn : w'.ownsRow B e sz (.slice (some ⟨g, 0, none⟩) (n + 1) cap) (n + 1) (xs ++ us)) (hc : Chg ov.ownBlock.toList w w') :
  Nest w' B e sz (.slice (some ⟨g, 0, none⟩) (n + 1) cap) (n + 1) (xs ++ us) (cs ++ ds) := by
 have hlen := h.len
 have hno : ∀ {v : Value} {c : Cell}, c.At w B v → ∀ b ∈ v.ownBlock.toList, b ∉ ov.ownBlock.toList := by
  intro v c hcell b hb hm
  obtain ⟨-, -, cs', r, hh⟩ := hcell.low b (by simpa using hb)
  rcases h.out.2 with ⟨rfl, _⟩ | ⟨g', c', cur, rfl, _, hg, _⟩
  ·simp [Value.ownBlock] at hm
  simp [Value.ownBlock] at hm
  subst hm
  rw [hg] at hh
  simp at hh
  exact he hh.2.1
 refine ⟨hn, by simp [hlen, hl], by rw [List.length_append, h.cells, hz, Nat.add_mul, Nat.one_mul], fun k c hk => ?_, fun k l hk hl' hne => ?_⟩
 ·by_cases e1 : k < xs.length
  ·rw [getD_left e1]
   rw [List.getElem?_append_left (by omega)] at hk
   exact (h.fits k c hk).chg hc (hno (h.fits k c hk))
  rw [getD_right (by omega)]
  rw [List.getElem?_append_right (by omega)] at hk
  rw [hlen]
  exact (hu _ c hk).chg hc (hno (hu _ c hk))
 rw [List.length_append] at hk hl'
 by_cases e1 : k < xs.length
 ·rw [getD_left e1]
  by_cases e2 : l < xs.length
  ·rw [getD_left e2]
   exact h.apart k l e1 e2 hne
  rw [getD_right (by omega)]
  cases hq : (xs.getD k undef).ownBlock with
  | none => exact Or.inl rfl
  | some b => exact Or.inr (fun q => hap k _ b e1 (by omega) hq q.symm)
 rw [getD_right (by omega)]
 by_cases e2 : l < xs.length
 ·rw [getD_left e2]
  cases hq : (us.getD (k - xs.length) undef).ownBlock with
  | none => exact Or.inl rfl
  | some b => exact Or.inr (fun q => hap l _ b e2 (by omega) q.symm hq)
 rw [getD_right (by omega)]
 exact hua _ _ (by omega) (by omega) (by omega)
theorem getD_set' {α : Type} (l : List α) (i : Nat) (v d : α) (j : Nat) (hi : i < l.length) : (l.set i v).getD j d = if j = i then v else l.getD j d := by
 all_goals grind
theorem Nest.put {g cap q : Nat} {l m : List Int} {v : Value} (h : Nest w B e sz (.slice (some ⟨g, 0, none⟩) n cap) n xs cs) (he : e ≠ 3) (hq : q < xs.length) (hcell : cs[q]? = some (.row l)) (hr : RowAt w' B v m) (hc : Chg (foot (xs.getD q undef)) w w') (hf : ∀ b ∈ foot v, b ∈ foot (xs.getD q undef) ∨ w.heap.size ≤ b) :
  Nest (w'.setCell ⟨g, q, none⟩ v) B e sz (.slice (some ⟨g, 0, none⟩) n cap) n (xs.set q v) (cs.set q (.row m)) := by
 have hold : RowAt w B (xs.getD q undef) l := h.fits q _ hcell
 rw [hold.foot] at hc hf
 rw [hr.foot] at hf
 obtain ⟨cur0, hg0⟩ : ∃ cur0, w.heap[g]? = some (.cells cur0 e (0, 0)) := by
  rcases h.out.2 with ⟨q, _⟩ | ⟨g', c', cur, q, _, hg, _⟩
  ·cases q
  simp only [Value.slice.injEq, Option.some.injEq, Addr.mk.injEq] at q
  obtain ⟨⟨rfl, -⟩, -⟩ := q
  exact ⟨_, hg⟩
 have hgx : ∀ k, k < xs.length → (xs.getD k undef).ownBlock ≠ some g := by
  intro k hk hb
  obtain ⟨-, -, cs', r, hh⟩ := h.kind hk hb
  rw [hg0] at hh
  simp at hh
  exact he hh.2.1
 have hg1 := hc.heap hg0 (by simpa using hgx q hq)
 have hgv : v.ownBlock ≠ some g := by
  intro hb
  obtain ⟨cs', r, hh⟩ := row_kind hr g (by rw [hr.foot, hb]; simp)
  rw [hg1] at hh
  simp at hh
  exact he hh.2.1
 have hout : w'.ownsRow B e sz (.slice (some ⟨g, 0, none⟩) n cap) n xs := owns_chg h.out hc (fun b hb => by
  simp [Value.ownBlock] at hb
  subst hb
  simpa using hgx q hq)
 have hset : Chg [g] w' (w'.setCell ⟨g, q, none⟩ v) := (Chg.refl _ _).setCell (Or.inl (by simp)) _
 have hs := hout.stored q v
 refine ⟨hs.1, by simp [h.len], by rw [List.length_set]; exact h.cells, fun k c hk => ?_, fun k j hk hj hne => ?_⟩
 ·rw [getD_set' _ _ _ _ _ hq]
  by_cases e1 : k = q
  ·subst e1
   rw [if_pos rfl]
   rw [List.getElem?_set_self (by rw [← h.len]; exact hq)] at hk
   cases hk
   exact hr.chg hset (fun b hb e2 => hgv (by simp at e2 hb; rw [hb, e2]))
  rw [if_neg e1]
  rw [List.getElem?_set_ne (Ne.symm e1)] at hk
  have hkl : k < xs.length := by rw [h.len]; exact (List.getElem?_eq_some_iff.1 hk).1
  refine ((h.fits k c hk).chg hc (fun b hb e2 => ?_)).chg hset (fun b hb e2 => hgx k hkl ((Option.mem_toList.1 hb).trans (congrArg _ (List.mem_singleton.1 e2))))
  rcases h.apart k q hkl hq e1 with t | t
  ·rw [t] at hb; simp at hb
  simp at hb e2; exact t (hb.trans e2.symm)
 rw [List.length_set] at hk hj
 rw [getD_set' _ _ _ _ _ hq, getD_set' _ _ _ _ _ hq]
 by_cases e1 : k = q
 ·subst e1
  rw [if_pos rfl, if_neg (Ne.symm hne)]
  cases hb : v.ownBlock with
  | none => exact Or.inl rfl
  | some b =>
   refine Or.inr (fun e2 => ?_)
   rcases hf b (by rw [hb]; simp) with t | t
   ·rcases h.apart j k hj hk (Ne.symm hne) with s | s
    ·rw [s] at e2; cases e2
    simp at t; exact s (e2.symm.trans t.symm)
   have := (h.kind hj e2.symm).2.1
   omega
 rw [if_neg e1]
 by_cases e2 : j = q
 ·subst e2
  rw [if_pos rfl]
  cases hb : (xs.getD k undef).ownBlock with
  | none => exact Or.inl rfl
  | some b =>
   refine Or.inr (fun e3 => ?_)
   rcases hf b (by rw [← e3]; simp) with t | t
   ·rcases h.apart k j hk hj hne with s | s
    ·rw [s] at hb; cases hb
    simp at t; exact s (hb.trans t.symm)
   have := (h.kind hk hb).2.1
   omega
 rw [if_neg e2]
 exact h.apart k j hk hj hne
theorem Nest.cell {g cap k : Nat} (h : Nest w B e sz (.slice (some ⟨g, 0, none⟩) n cap) n xs cs) (hk : k < xs.length) : w.cell? ⟨g, k, none⟩ = some (xs.getD k undef) := by
 have := h.out.cells (g := g) rfl k (xs.getD k undef) (by simp [List.getD, hk])
 have hadd : (⟨g, 0, none⟩ : Addr).add k = ⟨g, k, none⟩ := by unfold Addr.add; split <;> simp_all
 rwa [hadd] at this
theorem Nest.shape (h : Nest w B e sz ov n xs cs) : ∃ ao c, ov = .slice ao n c := owns_shape h.out
theorem Nest.some (h : Nest w B e sz ov n xs cs) (hn : 0 < n) : ∃ g c, ov = .slice (.some ⟨g, 0, none⟩) n c := owns_some h.out hn
theorem Nest.row {k : Nat} {l : List Int} (h : Nest w B e sz ov n xs cs) (hc : cs[k]? = Option.some (.row l)) : RowAt w B (xs.getD k undef) l := h.fits k _ hc
end
end Go.Proofs.YtpcgklagmcnhaaaGreat
namespace Go.Proofs.YtpcgklagmcnhaaaGreat.Plain
def flat (F : List Face) : List Int := (F.map (·.2)).flatten
structure Trk (g : Gr) (p : Pt) (turn : List (List Int)) (F : List Face) (pre : List Int) : Prop where
 rings : Rings (nextDart g turn) (F.map (·.2))
 sub : ∀ x ∈ flat F, x ∈ p.darts
 key : ∀ f ∈ F, ∃ l, f.2 = f.1 :: l
 keys : (F.map (·.1)).Sublist pre
 least : ∀ f ∈ F, ∃ a b, pre = a ++ f.1 :: b ∧ ∀ y ∈ f.2, y ∉ a
 cover : ∀ x ∈ pre, x ∈ flat F
def loneAt (turn : List (List Int)) (l : List Int) : List Face := (l.reverse.filter fun v => (turnAt turn v).isEmpty).map fun v => (-1 - v, [])
structure WalksOk (g : Gr) (p : Pt) (turn : List (List Int)) (W : List Face) : Prop where
 faces : FacesOk g p turn W
 split : ∃ F, W = loneAt turn p.v ++ F ∧ Trk g p turn F p.darts
end Go.Proofs.YtpcgklagmcnhaaaGreat.Plain
namespace Go.Proofs.YtpcgklagmcnhaaaGreat
open Go.RowKit Go.Maps
section
attribute [local go_sem] Oper.semAt_some
end
end Go.Proofs.YtpcgklagmcnhaaaGreat
namespace Go.Proofs.YtpcgklagmcnhaaaGreat
open Go.RowKit Go.Maps
end Go.Proofs.YtpcgklagmcnhaaaGreat
namespace Go.Proofs.YtpcgklagmcnhaaaGreat
open Go.RowKit Go.Maps
section
variable {ops : Array Oper} {rest : List Oper} {o : Oper} {a : Act} {Q : Exit → Act → World → Prop} {w w' : World} {F : Fence} {nF : Nat}
variable (w)
end
namespace Plain
end Plain
end Go.Proofs.YtpcgklagmcnhaaaGreat
namespace Go.Proofs.YtpcgklagmcnhaaaGreat
open Go.RowKit Go.Maps
section
attribute [local go_sem] Oper.semAt_some
end
end Go.Proofs.YtpcgklagmcnhaaaGreat
namespace Go.Proofs.YtpcgklagmcnhaaaGreat.Plain
open Classical in
noncomputable def walksOf (g : Gr) (p : Pt) (turn : List (List Int)) : List Face := if h : ∃ W, WalksOk g p turn W then Classical.choose h else []
end Go.Proofs.YtpcgklagmcnhaaaGreat.Plain
namespace Go.Proofs.YtpcgklagmcnhaaaGreat
def pcs (V E : Int → List Int) (R : List Int) : List Cell := R.flatMap fun r => [.row (V r), .row (E r)]
theorem pcs_snoc (V E : Int → List Int) (R : List Int) (r : Int) : pcs V E (R ++ [r]) = pcs V E R ++ [.row (V r), .row (E r)] := by simp [pcs]
theorem pcs_cons (V E : Int → List Int) (R : List Int) (r : Int) : pcs V E (r :: R) = .row (V r) :: .row (E r) :: pcs V E R := rfl
theorem pcs_even (V E : Int → List Int) : ∀ (R : List Int) (n : Nat), n < R.length → (pcs V E R)[n * 2]? = some (.row (V (R.getD n 0)))
 | [], n, h => by simp at h
 | r :: R, 0, _ => by rw [pcs_cons]; rfl
 | r :: R, n + 1, h => by
  rw [pcs_cons, show (n + 1) * 2 = n * 2 + 1 + 1 by omega, List.getElem?_cons_succ, List.getElem?_cons_succ, pcs_even V E R n (by simpa using h)]
  rfl
theorem pcs_odd (V E : Int → List Int) : ∀ (R : List Int) (n : Nat), n < R.length → (pcs V E R)[n * 2 + 1]? = some (.row (E (R.getD n 0)))
 | [], n, h => by simp at h
 | r :: R, 0, _ => by rw [pcs_cons]; rfl
 | r :: R, n + 1, h => by
  rw [pcs_cons, show (n + 1) * 2 + 1 = (n * 2 + 1) + 1 + 1 by omega, List.getElem?_cons_succ, List.getElem?_cons_succ, pcs_odd V E R n (by simpa using h)]
  rfl
namespace Plain
theorem getD_mem {l : List Int} {n : Nat} (h : n < l.length) : l.getD n 0 ∈ l := by grind
theorem take_snoc' {l : List Int} {j : Nat} (hj : j < l.length) : l.take (j + 1) = l.take j ++ [l.getD j 0] := by
 rw [List.take_succ_eq_append_getElem hj]
 grind
theorem comp_one {g : Gr} {p : Pt} (hp : PartOk g p) {R : List Int} (hR : ∀ r ∈ R, r ∈ roots g p) (hn : R.Nodup) {v : Int} {n m : Nat} (h1 : n < R.length) (h2 : m < R.length) (hc : Come g p (-1) (R.getD n 0) v) (hm : v ∈ comp g p (R.getD m 0)) : m = n := by
 have e := root_one (fun v hv => (hp.vr v hv).1) (hR _ (getD_mem h1)) (hR _ (getD_mem h2)) hc (mem_comp.1 hm).2
 refine Classical.byContradiction fun hne => ?_
 have q := List.pairwise_iff_getElem.1 hn
 simp only [List.getD, List.getElem?_eq_getElem h1, List.getElem?_eq_getElem h2, Option.getD_some] at e
 rcases Nat.lt_or_ge n m with w | w
 ·exact q n m h1 h2 w e
 exact q m n h2 h1 (by omega) e.symm
end Plain
end Go.Proofs.YtpcgklagmcnhaaaGreat
