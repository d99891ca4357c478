/- package walk: the contract of Pieces. Conditions: a graph, a part that lie in memory and read so, of a bounded size. -/
import Derived.Test.YtpcgklagmcnhaaaGreatT8Nest
namespace Go.Proofs.YtpcgklagmcnhaaaGreat
open Go.RowKit Go.Maps
theorem elemPart : Elem 96 43 (.agg #[.slice none 0 0, .slice none 0 0]) 2 48 := ⟨Tryz.underlying96, by kernel_rfl, rfl, by decide, by decide⟩
theorem rowNil (w : World) (B : Nat) : RowAt w B (.slice none 0 0) [] := ⟨World.ownsRow_nil _ _ _ _, by simp, by simp⟩
theorem nest_pair {w : World} {B n i : Nat} {e : TypeId} {ov : Value} {xs : List Value} {V E : Int → List Int} {R : List Int} (h : Nest w B e 2 ov n xs (pcs V E R)) (hn : n = R.length) (hi : i < R.length) :
  ∃ g c va vc ea ec, ov = .slice (some ⟨g, 0, none⟩) n c ∧ w.cell? ⟨g, i * 2, none⟩ = some (.slice va (V (R.getD i 0)).length vc) ∧ w.cell? ⟨g, i * 2 + 1, none⟩ = some (.slice ea (E (R.getD i 0)).length ec) ∧ RowAt w B (.slice va (V (R.getD i 0)).length vc) (V (R.getD i 0)) ∧ RowAt w B (.slice ea (E (R.getD i 0)).length ec) (E (R.getD i 0)) := by
 obtain ⟨g, c, rfl⟩ := h.some (by omega)
 have hx := h.cells
 have r1 := h.row (pcs_even V E R i hi)
 have r2 := h.row (pcs_odd V E R i hi)
 have c1 := h.cell (k := i * 2) (by omega)
 have c2 := h.cell (k := i * 2 + 1) (by omega)
 obtain ⟨va, vc, e1⟩ := r1.shape
 obtain ⟨ea, ec, e2⟩ := r2.shape
 grind
namespace Plain
end Plain
end Go.Proofs.YtpcgklagmcnhaaaGreat
-- READS ONLY
namespace Go.Proofs.YtpcgklagmcnhaaaGreat
open Go.RowKit Go.Maps
namespace Plain
end Plain
theorem row_made {w : World} {B fb n c : Nat} (h : w.ownsRow B 3 1 (.slice (some ⟨fb, 0, none⟩) n c) n (madeCells (Value.int .i64 0).cells (n * 1)).toList) (hn : n < 4294967296) : RowAt w B (.slice (some ⟨fb, 0, none⟩) n c) (List.replicate n 0) := by
 have e1 : (madeCells (Value.int .i64 0).cells (n * 1)).toList = ints (List.replicate n 0) := by
  show (madeCells #[Value.int .i64 0] (n * 1)).toList = _
  rw [Nat.mul_one, toList_madeCells_one]
  simp [ints]
 rw [e1] at h
 refine ⟨by rw [List.length_replicate]; exact h, fun x hx => ?_, by rw [List.length_replicate]; exact hn⟩
 have := List.eq_of_mem_replicate hx
 subst this
 exact I64.mk (by omega) (by omega)
theorem two_boxes (w : World) {g : Plain.Gr} {p : Plain.Pt} {eo ao bo : Option Addr} {cap ac bc : Nat} {w2 : World} (h : Chg [] ((w.alloc (.cells #[.int .i64 g.n, .slice eo g.e.length cap] 41)).alloc (.cells #[.slice ao p.v.length ac, .slice bo p.e.length bc] 43)) w2) :
  w2.cell? ⟨w.heap.size, 0, none⟩ = some (.int .i64 g.n) ∧ w2.cell? ⟨w.heap.size, 1, none⟩ = some (.slice eo g.e.length cap) ∧ w2.cell? ⟨w.heap.size + 1, 0, none⟩ = some (.slice ao p.v.length ac) ∧ w2.cell? ⟨w.heap.size + 1, 1, none⟩ = some (.slice bo p.e.length bc) ∧ w.heap.size + 2 ≤ w2.heap.size := by
 obtain ⟨hb1, hb2, -⟩ := box_two w #[.int .i64 g.n, .slice eo g.e.length cap] #[.slice ao p.v.length ac, .slice bo p.e.length bc] 41 43
 have hs := h.size
 exact ⟨h.cell ((cell_of_row _ _ 0 _ _ _ hb1).trans rfl) (by simp), h.cell ((cell_of_row _ _ 1 _ _ _ hb1).trans rfl) (by simp), h.cell ((cell_of_row _ _ 0 _ _ _ hb2).trans rfl) (by simp), h.cell ((cell_of_row _ _ 1 _ _ _ hb2).trans rfl) (by simp), by grind⟩
theorem box_gp {w : World} {vg vp : Value} {g : Plain.Gr} {p : Plain.Pt} (hg : GrAt w vg g) (hp : PtAt w vp p) : ∃ eo cap ao ac bo bc, vg = .agg #[.int .i64 g.n, .slice eo g.e.length cap] ∧ vp = .agg #[.slice ao p.v.length ac, .slice bo p.e.length bc] ∧ Hid (GrAt w (.agg #[.int .i64 g.n, .slice eo g.e.length cap]) g) ∧ Hid (PtAt w (.agg #[.slice ao p.v.length ac, .slice bo p.e.length bc]) p) ∧ g.e.length ≤ 9223372036854775807 ∧ p.v.length ≤ 9223372036854775807 ∧ p.e.length ≤ 9223372036854775807 ∧
  Hid (p.v ≠ [] → ∃ b off, ao = some ⟨b, off, none⟩ ∧ ∀ i, i < p.v.length → w.cell? ⟨b, off + i, none⟩ = some (.int .i64 (p.v.getD i 0))) ∧ Hid (p.e ≠ [] → ∃ b off, bo = some ⟨b, off, none⟩ ∧ ∀ i, i < p.e.length → w.cell? ⟨b, off + i, none⟩ = some (.int .i64 (p.e.getD i 0))) ∧ Hid (∀ x ∈ p.v, I64 x) ∧ Hid (∀ x ∈ p.e, I64 x) ∧
  Hid (Chg [] w ((w.alloc (.cells #[.int .i64 g.n, .slice eo g.e.length cap] 41)).alloc (.cells #[.slice ao p.v.length ac, .slice bo p.e.length bc] 43))) ∧ Hid (∀ w2, Chg [] ((w.alloc (.cells #[.int .i64 g.n, .slice eo g.e.length cap] 41)).alloc (.cells #[.slice ao p.v.length ac, .slice bo p.e.length bc] 43)) w2 →
   w2.cell? ⟨w.heap.size, 0, none⟩ = some (.int .i64 g.n) ∧ w2.cell? ⟨w.heap.size, 1, none⟩ = some (.slice eo g.e.length cap) ∧ w2.cell? ⟨w.heap.size + 1, 0, none⟩ = some (.slice ao p.v.length ac) ∧ w2.cell? ⟨w.heap.size + 1, 1, none⟩ = some (.slice bo p.e.length bc) ∧ w.heap.size + 2 ≤ w2.heap.size) := by
 have hg0 := hg
 have hp0 := hp
 obtain ⟨eo, cap, rfl, -, hm, -, -⟩ := hg
 obtain ⟨v1, v2, rfl, hv, he⟩ := hp
 obtain ⟨ao, ac, rfl, has, ham, hacell⟩ := hv
 obtain ⟨bo, bc, rfl, hbs, hbm, hbcell⟩ := he
 exact ⟨eo, cap, ao, ac, bo, bc, rfl, rfl, Lib.hid hg0, Lib.hid hp0, hm, ham, hbm, Lib.hid hacell, Lib.hid hbcell, Lib.hid has, Lib.hid hbs, Lib.hid (box_two w _ _ _ _).2.2, Lib.hid fun w2 h => two_boxes w h⟩
end Go.Proofs.YtpcgklagmcnhaaaGreat
