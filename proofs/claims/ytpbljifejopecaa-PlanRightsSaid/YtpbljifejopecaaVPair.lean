/- What is read of slices of parts and of walks of the call's own. No condition beyond what each law says. -/
import Derived.Test.YtpbljifejopecaaVPieces
import Derived.Test.YtpbljifejopecaaVOutW
namespace Go.Proofs.Ytpbljifejopecaa
open Go.RowKit Go.Maps

theorem nest_pair {w : World} {B n i : Nat} {e : TypeId} {ov : Value} {xs : List Value} {V E : Int → List Int} {R : List Int} (h : Nest w B e 2 ov n xs (pcs V E R)) (hn : n = R.length) (hi : i < R.length) :
    ∃ g c va vc ea ec, ov = .slice (some ⟨g, 0, none⟩) n c ∧ w.cell? ⟨g, i * 2, none⟩ = some (.slice va (V (R.getD i 0)).length vc) ∧ w.cell? ⟨g, i * 2 + 1, none⟩ = some (.slice ea (E (R.getD i 0)).length ec) ∧ RowAt w B (.slice va (V (R.getD i 0)).length vc) (V (R.getD i 0)) ∧ RowAt w B (.slice ea (E (R.getD i 0)).length ec) (E (R.getD i 0)) := by
  obtain ⟨g, c, rfl⟩ := h.some (by omega)
  have hx := h.cells
  have r1 := h.row (pcs_even V E R i hi)
  have r2 := h.row (pcs_odd V E R i hi)
  have c1 := h.cell (k := i * 2) (by omega)
  have c2 := h.cell (k := i * 2 + 1) (by omega)
  obtain ⟨va, vc, e1⟩ := r1.shape
  obtain ⟨ea, ec, e2⟩ := r2.shape
  rw [e1] at c1 r1
  rw [e2] at c2 r2
  exact ⟨g, c, va, vc, ea, ec, rfl, c1, c2, r1, r2⟩

theorem face_even : ∀ (W : List Plain.Face) (i : Nat), i < W.length → (faceCells W)[i * 2]? = some (.num (W.getD i (0, [])).1) ∧ (faceCells W)[i * 2 + 1]? = some (.row (W.getD i (0, [])).2)
  | [], i, h => by simp at h
  | f :: W, 0, _ => ⟨rfl, rfl⟩
  | f :: W, i + 1, h => by
    have ih := face_even W i (by simpa using h)
    have e : faceCells (f :: W) = .num f.1 :: .row f.2 :: faceCells W := rfl
    rw [e, show (i + 1) * 2 = i * 2 + 1 + 1 by omega, show i * 2 + 1 + 1 + 1 = (i * 2 + 1) + 1 + 1 by omega]
    simp only [List.getElem?_cons_succ, List.getD_cons_succ]
    exact ih

theorem nest_face {w : World} {B n i : Nat} {e : TypeId} {ov : Value} {xs : List Value} {W : List Plain.Face} (h : Nest w B e 2 ov n xs (faceCells W)) (hn : n = W.length) (hi : i < W.length) :
    ∃ g c va vc, ov = .slice (some ⟨g, 0, none⟩) n c ∧ w.cell? ⟨g, i * 2, none⟩ = some (.int .i64 (W.getD i (0, [])).1) ∧ w.cell? ⟨g, i * 2 + 1, none⟩ = some (.slice va (W.getD i (0, [])).2.length vc) ∧ RowAt w B (.slice va (W.getD i (0, [])).2.length vc) (W.getD i (0, [])).2 := by
  obtain ⟨g, c, rfl⟩ := h.some (by omega)
  have hx := h.cells
  have hf := face_even W i hi
  have n1 := h.num hf.1
  have r2 := h.row hf.2
  have c1 := h.cell (k := i * 2) (by omega)
  have c2 := h.cell (k := i * 2 + 1) (by omega)
  obtain ⟨va, vc, e2⟩ := r2.shape
  rw [n1] at c1
  rw [e2] at c2 r2
  exact ⟨g, c, va, vc, rfl, c1, c2, r2⟩

namespace Plain
/-- The map tells of each vertex in the first i pieces, and of the first j of the next, which piece that is. -/
def Told (g : Gr) (p : Pt) (R : List Int) (i j : Nat) (f : Int → Option Int) : Prop :=
  (∀ m, m < i → ∀ y ∈ comp g p (R.getD m 0), f y = some (m : Int)) ∧ ∀ y ∈ (comp g p (R.getD i 0)).take j, f y = some (i : Int)
theorem Told.start (g : Gr) (p : Pt) (R : List Int) (f : Int → Option Int) : Told g p R 0 0 f := ⟨fun m hm => by omega, by simp⟩
theorem Told.next {g : Gr} {p : Pt} {R : List Int} {i j : Nat} {f : Int → Option Int} (hp : PartOk g p) (hR : ∀ r ∈ R, r ∈ roots g p) (hn : R.Nodup) (hi : i < R.length) (hj : j < (comp g p (R.getD i 0)).length) (h : Told g p R i j f) :
    Told g p R i (j + 1) (fun y => if y = (comp g p (R.getD i 0)).getD j 0 then some (i : Int) else f y) := by
  have hv := getD_mem hj
  refine ⟨fun m hm y hy => ?_, fun y hy => ?_⟩
  · dsimp only
    rw [if_neg (fun e => ?_)]
    · exact h.1 m hm y hy
    · rw [e] at hy
      have := comp_one hp hR hn (by omega : i < R.length) (by omega : m < R.length) (mem_comp.1 hv).2 hy
      omega
  · dsimp only
    rw [take_snoc' hj, List.mem_append] at hy
    by_cases e : y = (comp g p (R.getD i 0)).getD j 0
    · rw [if_pos e]
    · rw [if_neg e]
      rcases hy with q | q
      · exact h.2 y q
      · exact absurd (List.mem_singleton.1 q) e
theorem Told.row {g : Gr} {p : Pt} {R : List Int} {i : Nat} {f : Int → Option Int} (h : Told g p R i (comp g p (R.getD i 0)).length f) : Told g p R (i + 1) 0 f := by
  refine ⟨fun m hm y hy => ?_, by simp⟩
  by_cases e : m < i
  · exact h.1 m e y hy
  · obtain rfl : m = i := by omega
    exact h.2 y (by rw [List.take_length]; exact hy)
/-- All are told. -/
theorem Told.all {g : Gr} {p : Pt} {f : Int → Option Int} (hp : PartOk g p) (h : Told g p (roots g p) (roots g p).length 0 f) {v : Int} (hv : v ∈ p.v) : ∃ n, n < (roots g p).length ∧ f v = some (n : Int) ∧ v ∈ comp g p ((roots g p).getD n 0) := by
  obtain ⟨r, hr, hc⟩ := root_of (g := g) (fun v hv => (hp.vr v hv).1) hv
  obtain ⟨n, hn, e⟩ := mem_getD hr
  have hm : v ∈ comp g p ((roots g p).getD n 0) := mem_comp.2 ⟨hv, by rw [e]; exact hc⟩
  exact ⟨n, hn, h.1 n hn v hm, hm⟩
theorem comp_len (g : Gr) (p : Pt) (r : Int) : (comp g p r).length ≤ p.v.length := by
  unfold comp
  exact List.length_filter_le _ _
end Plain
end Go.Proofs.Ytpbljifejopecaa
