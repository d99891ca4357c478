/- rest.To: its contract. Conditions: a graph, two parts, a plan that lie in memory and read so, of a bounded size. -/
import Derived.Test.YtckjpaimbmlboaaVCyc10
namespace Go.Proofs.Ytckjpaimbmlboaa
open Go.RowKit Go.Maps
theorem out_store {wr : World} {b : Nat} (hb : wr.heap[b]? = some (.cells #[.slice none 0 0, .slice none 0 0] 30 (0, 0))) (u v : Value) :
  ((wr.setCell ⟨b, 0, none⟩ u).setCell ⟨b, 1, none⟩ v).cell? ⟨b, 0, none⟩ = some u ∧ ((wr.setCell ⟨b, 0, none⟩ u).setCell ⟨b, 1, none⟩ v).cell? ⟨b, 1, none⟩ = some v ∧ Chg [b] wr ((wr.setCell ⟨b, 0, none⟩ u).setCell ⟨b, 1, none⟩ v) := by
 have hh := heap_setCell_same (heap_setCell_same hb 0 u) 1 v
 exact ⟨(cell_of_row _ _ 0 _ _ _ hh).trans rfl, (cell_of_row _ _ 1 _ _ _ hh).trans rfl, ((Chg.refl _ wr).setCell (Or.inl (by simp)) _).setCell (Or.inl (by simp)) _⟩
structure Apart (L : Int → Option Int) (left : Lit → Bool) (s : St) : Prop where
 ok : s.Ok
 rel : ∀ x y, s.rel x y ↔ x = y
 small : ∀ x ∈ s.all, 0 ≤ x ∧ x < 1000000000
 met : ∀ y, I64 y → (L y).isSome = true → left (.int .i64 y) = false → Plain.lf L y ∈ s.all
end Go.Proofs.Ytckjpaimbmlboaa
