/- ref04.Head, ref10.on, ref10.Cycle: their contracts. Conditions: a graph, a part, a list of ints that lie in memory and read so, of a bounded size. -/
import Derived.Test.YtpcgklagmcnhaaaGreatT7Rel
namespace Go.Proofs.YtpcgklagmcnhaaaGreat
open Go.RowKit Go.Maps
namespace Plain
end Plain
namespace Plain
end Plain
end Go.Proofs.YtpcgklagmcnhaaaGreat
namespace Go.Proofs.YtpcgklagmcnhaaaGreat
open Go.RowKit Go.Maps
namespace Plain
end Plain
namespace Plain
end Plain
namespace Plain
end Plain
end Go.Proofs.YtpcgklagmcnhaaaGreat
namespace Go.Proofs.YtpcgklagmcnhaaaGreat
namespace Plain
end Plain
end Go.Proofs.YtpcgklagmcnhaaaGreat
namespace Go.Proofs.YtpcgklagmcnhaaaGreat
open Go.RowKit Go.Maps Go.WideElems
namespace Plain
end Plain
end Go.Proofs.YtpcgklagmcnhaaaGreat
namespace Go.Proofs.YtpcgklagmcnhaaaGreat
open Go.RowKit Go.Maps
def IntsStay (w w' : World) : Prop := ∀ (b : Nat) (cs : Array Value) (r : Nat × Nat), w.heap[b]? = some (Obj.cells cs 3 r) → w'.heap[b]? = some (Obj.cells cs 3 r)
theorem IntsStay.trans {a b c : World} (h : IntsStay a b) (k : IntsStay b c) : IntsStay a c := fun j cs r q => k j cs r (h j cs r q)
theorem IntsStay.chg {w w' : World} {own : List Nat} (hc : Chg own w w') (h : ∀ j ∈ own, ∀ (cs : Array Value) (r : Nat × Nat), w.heap[j]? ≠ some (Obj.cells cs 3 r)) : IntsStay w w' := fun b cs r q => hc.heap q (fun hm => h b hm cs r q)
theorem IntsStay.row {w w' : World} {B : Nat} {v : Value} {l : List Int} (h : IntsStay w w') (hr : RowAt w B v l) : RowAt w' B v l := by
 refine ⟨⟨hr.1.1, ?_⟩, hr.2⟩
 rcases hr.1.2 with q | ⟨g, cap, cur, h1, h2, h3, h4⟩
 ·exact Or.inl q
 exact Or.inr ⟨g, cap, cur, h1, h2, h _ _ _ h3, h4⟩
theorem ranges_at {P : Program} {k : TypeId} {R : Value → Option (DataW Unit × List MemPlace)} {w w' : World} {b r n : Nat} {D : DataW Unit} {left : Lit → Bool} {cnt : Nat} {l : List Nat} (h : w.ranges P k R b r n D left cnt) (hc : Chg l w w') (hb : b ∉ l) (hr : r ∉ l) : w'.ranges P k R b r n D left cnt := by
 obtain ⟨es, clock, since, seen, c0, h1, F, hs, hD, h2, rest⟩ := h
 exact ⟨es, clock, since, seen, c0, hc.heap h1 hb, F, hs, hD, hc.heap h2 hr, rest⟩
theorem ranges_kind {P : Program} {k : TypeId} {R : Value → Option (DataW Unit × List MemPlace)} {w : World} {b r n : Nat} {D : DataW Unit} {left : Lit → Bool} {cnt : Nat} (h : w.ranges P k R b r n D left cnt) : (∀ cs u f, w.heap[b]? ≠ some (Obj.cells cs u f)) ∧ ∀ cs u f, w.heap[r]? ≠ some (Obj.cells cs u f) := by
 obtain ⟨es, clock, since, seen, c0, h1, F, hs, hD, h2, rest⟩ := h
 exact ⟨fun cs u f q => (by rw [h1] at q; cases q), fun cs u f q => (by rw [h2] at q; cases q)⟩
namespace Plain
end Plain
end Go.Proofs.YtpcgklagmcnhaaaGreat
