/- Turns, told vertex by vertex: as many darts as leave it, each once, all of them. No program here. -/
import Derived.Test.YtpcgklagmcnhaaaGreatT7Open8
import Derived.Test.YtpcgklagmcnhaaaGreatT7Order
namespace Go.Proofs.YtpcgklagmcnhaaaGreat.Plain
def dartsAt (g : Gr) (p : Pt) (v : Int) : List Int := p.darts.filter fun d => decide (g.tail d = v)
def dartsTo (g : Gr) (p : Pt) (v : Int) (k : Nat) : List Int := (p.darts.take k).filter fun d => decide (g.tail d = v)
theorem dartsTo_zero (g : Gr) (p : Pt) (v : Int) : dartsTo g p v 0 = [] := by simp [dartsTo]
theorem dartsTo_all (g : Gr) (p : Pt) (v : Int) : dartsTo g p v p.darts.length = dartsAt g p v := by grind [dartsTo, dartsAt]
theorem dartsTo_next {g : Gr} {p : Pt} {v : Int} {k : Nat} (hk : k < p.darts.length) : dartsTo g p v (k + 1) = if g.tail (p.darts.getD k 0) = v then dartsTo g p v k ++ [p.darts.getD k 0] else dartsTo g p v k := by
 all_goals grind [dartsTo, take_snoc]
theorem dartsTo_len (g : Gr) (p : Pt) (v : Int) (k : Nat) : (dartsTo g p v k).length ≤ k :=
 Nat.le_trans (List.length_filter_le _ _) (by rw [List.length_take]; omega)
theorem mem_dartsAt {g : Gr} {p : Pt} {v d : Int} : d ∈ dartsAt g p v ↔ d ∈ p.darts ∧ g.tail d = v := by simp [dartsAt]
theorem dartsAt_nodup {g : Gr} {p : Pt} (h : p.e.Nodup) (v : Int) : (dartsAt g p v).Nodup := (darts_nodup h).filter _
theorem darts_getD {p : Pt} {i : Nat} (hi : i < p.e.length) (s : Nat) (hs : s < 2) : p.darts.getD (2 * i + s) 0 = 2 * p.e.getD i 0 + s := by
 obtain ⟨v, e⟩ := p
 unfold Pt.darts
 dsimp only at hi ⊢
 induction e generalizing i with
 | nil => simp at hi
 | cons a l ih =>
  rw [List.flatMap_cons]
  cases i with
  | zero => rcases (show s = 0 ∨ s = 1 by omega) with rfl | rfl <;> simp [List.getD]
  | succ i =>
   grind
theorem Pt.edge_in {g : Gr} {p : Pt} (h : p.err g = 0) {e : Int} (he : e ∈ p.e) : 0 ≤ e ∧ e < g.e.length := by
 obtain ⟨i, hi, rfl⟩ := mem_getD he
 have := rises_at (Pt.err_ok h).2.2.1 hi
 grind
end Go.Proofs.YtpcgklagmcnhaaaGreat.Plain
namespace Go.Proofs.YtpcgklagmcnhaaaGreat
open Go.RowKit Go.Maps
theorem row_lit1 {w : World} {B : Nat} (hB : B ≤ w.heap.size) {k : Int} (hk : I64 k) : RowAt (w.alloc (.cells #[.int .i64 k] 3)) B (.slice (some ⟨w.heap.size, 0, none⟩) 1 1) [k] :=
 ⟨World.ownsRow_lit w #[.int .i64 k] 1 hB (by decide) rfl, by simpa using hk, by simp⟩
theorem wl_push {ops : Array Oper} {rest : List Oper} {o : Oper} {a : Act} {Q : Exit → Act → World → Prop} {w w0 : World} (hg : o.guard = none) (s x : Operand) (ho : o.op = .call { callee := .builtin .append, args := #[s, x], argTypes := #[31, 31] })
  {B : Nat} {v : Value} {l : List Int} {k : Int} (hs : a.eval s = v) (hx : a.eval x = .slice (some ⟨w0.heap.size, 0, none⟩) 1 1) (h : RowAt w0 B v l) (hk : I64 k) (hB : B ≤ w0.heap.size) (hn : l.length < 4294967290) (hw : w = w0.alloc (.cells #[.int .i64 k] 3))
  (hK : ∀ v' w', RowAt w' B v' (l ++ [k]) → Chg (foot v) w0 w' → (∀ b ∈ foot v', b ∈ foot v ∨ w0.heap.size ≤ b) → wpList Tryz.prog ops Q rest (a.put o.dst v') w') : wpList Tryz.prog ops Q (o :: rest) a w := by
 subst hw
 have hc := (Chg.refl [] w0).alloc (.cells #[.int .i64 k] 3)
 refine wl_cat hg s x ho hs hx (h.chg hc (by simp)) (row_lit1 (B := w0.heap.size) (Nat.le_refl _) hk) (Nat.le_trans hB hc.size) (by simp; omega) fun v' w' r1 r2 r3 => hK v' w' r1 ((hc.mono (by simp)).trans r2 fun j hj => Or.inl hj) fun b hb => (r3 b hb).imp id fun q => Nat.le_trans hc.size q
theorem IntsAt.cellAt {w : World} {ao : Option Addr} {n c : Nat} {l : List Int} (h : IntsAt w (.slice ao n c) l) {i : Nat} (hi : i < l.length) : ∃ b off, ao = some ⟨b, off, none⟩ ∧ w.cell? ⟨b, off + i, none⟩ = some (.int .i64 (l.getD i 0)) := by
 obtain ⟨ao', c', e', -, -, h⟩ := h
 simp only [Value.slice.injEq] at e'
 obtain ⟨rfl, -, rfl⟩ := e'
 obtain ⟨b, off, rfl, h2⟩ := h (by grind)
 grind
theorem rowNil' (w : World) (B : Nat) : RowAt w B (.slice none 0 0) [] := ⟨World.ownsRow_nil _ _ _ _, by simp, by simp⟩
end Go.Proofs.YtpcgklagmcnhaaaGreat
-- READS ONLY
namespace Go.Proofs.YtpcgklagmcnhaaaGreat
open Go.RowKit Go.Maps
end Go.Proofs.YtpcgklagmcnhaaaGreat
-- READS ONLY
namespace Go.Proofs.YtpcgklagmcnhaaaGreat
open Go.RowKit Go.Maps
end Go.Proofs.YtpcgklagmcnhaaaGreat
-- READS ONLY
namespace Go.Proofs.YtpcgklagmcnhaaaGreat
open Go.RowKit Go.Maps
end Go.Proofs.YtpcgklagmcnhaaaGreat
namespace Go.Proofs.YtpcgklagmcnhaaaGreat
namespace Plain
noncomputable def allRegs (g : Gr) (p : Pt) (turn same : List (List Int)) : List (List Int) := same ++ singles (walksOf g p turn) same.flatten
structure IsRegs (g : Gr) (p : Pt) (turn same ll : List (List Int)) : Prop where
 perm : ll.Perm (allRegs g p turn same)
 order : ll.Pairwise fun a b => a.getD 0 0 ≤ b.getD 0 0
open Classical in
noncomputable def regionsOf (g : Gr) (p : Pt) (turn same : List (List Int)) : List (List Int) := if h : ∃ ll, IsRegs g p turn same ll then Classical.choose h else []
def regionAt (ll : List (List Int)) (key : Int) : Option Nat := ll.findIdx? fun l => decide (key ∈ l)
end Plain
end Go.Proofs.YtpcgklagmcnhaaaGreat
