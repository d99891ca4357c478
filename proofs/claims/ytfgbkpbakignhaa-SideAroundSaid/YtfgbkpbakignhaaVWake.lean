/- The drawing of two vertices, no edges, one list: plainly. No program here. -/
import Derived.Test.YtfgbkpbakignhaaVRegions
import Derived.Test.YtfgbkpbakignhaaVLeav
import Derived.Test.YtfgbkpbakignhaaVBfs
namespace Go.Proofs.Ytfgbkpbakignhaa

namespace Plain
def g0 : Gr := ⟨2, []⟩
def p0 : Pt := ⟨[0, 1], []⟩
def t0 : List (List Int) := [[], []]
def s0 : List (List Int) := [[-2, -1]]
def w0 : List Face := [(-2, []), (-1, [])]

theorem err0 : p0.err g0 = 0 := by decide
theorem come0 {s a u : Int} (h : Come g0 p0 s a u) : u = a := by
  cases h with
  | here => rfl
  | step h1 h2 h3 => obtain ⟨e, he, -⟩ := h2; cases he
theorem comp0 (a : Int) : comp g0 p0 a = [0, 1].filter fun u => decide (u = a) := by
  classical
  unfold comp
  refine List.filter_congr fun u _ => ?_
  by_cases h : u = a
  · subst h; simp [Come.here]
  · simp only [h, decide_false, decide_eq_false_iff_not]
    exact fun q => h (come0 q)
theorem roots0 : roots g0 p0 = [0, 1] := by
  classical
  unfold roots
  refine List.filter_eq_self.2 fun u _ => ?_
  refine decide_eq_true fun x _ h => ?_
  rw [come0 h]; omega
theorem part0 : PartOk g0 p0 := Pt.ok_of_err err0
theorem turnAt0 (v : Int) : turnAt t0 v = [] := by
  unfold turnAt t0
  rcases v.toNat with _ | _ | n <;> simp [List.getD]
theorem turns0 : TurnsOk g0 p0 t0 := ⟨rfl, fun v => by rw [turnAt0]; exact List.nodup_nil, fun v _ _ d => by rw [turnAt0]; simp [p0, Pt.darts]⟩
theorem walks0 : WalksOk g0 p0 t0 w0 := (Trk.start g0 p0 t0).walks part0
theorem walksOf0 : walksOf g0 p0 t0 = w0 := (walks0.eq err0).symm
theorem turnErr0 : turnErr g0 p0 t0 = 0 := turnErr_ok err0 turns0
theorem flat0 : Flat g0 p0 t0 := by
  intro r hr
  rw [walksOf0]
  rw [roots0] at hr
  unfold genusAt
  rw [comp0]
  simp only [List.mem_cons, List.not_mem_nil, or_false] at hr
  rcases hr with rfl | rfl <;> decide
theorem flatErr0 : flatErr g0 p0 t0 = 0 := flatErr_ok turnErr0 flat0
theorem pieceIx0 {v : Int} {n : Nat} (hn : n < 2) (h : ([0, 1] : List Int).getD n 0 = v) (hv : v ∈ ([0, 1] : List Int)) : pieceIx g0 p0 v = n := by
  refine pieceIx_eq part0 (by rw [roots0]; exact hn) ?_
  rw [roots0, h, comp0]
  simp at hv ⊢
  exact hv
theorem owner2 : ownerOf g0 p0 w0 (-2) = some 1 := by
  have : ownerOf g0 p0 w0 (-2) = some ((pieceIx g0 p0 1 : Nat) : Int) := rfl
  rw [this, pieceIx0 (v := 1) (n := 1) (by decide) rfl (by decide)]; rfl
theorem owner1 : ownerOf g0 p0 w0 (-1) = some 0 := by
  have : ownerOf g0 p0 w0 (-1) = some ((pieceIx g0 p0 0 : Nat) : Int) := rfl
  rw [this, pieceIx0 (v := 0) (n := 0) (by decide) rfl (by decide)]; rfl
theorem run0 : sameRun (ownerOf g0 p0 w0) s0 (St.new (upTo 2), []) 1 = some ((St.new (upTo 2)).join 1 0, [-2, -1]) := by
  refine sameRun_next (c := (St.new (upTo 2), [])) rfl (by decide) ?_
  refine listRun_next (c := (St.new (upTo 2), [-2])) (k := 1) ?_ ?_
  · refine listRun_next (c := (St.new (upTo 2), [])) (k := 0) rfl ?_
    exact keyStep_first (a := 1) owner2 (by simp)
  · refine keyStep_join (a := 0) (b := 1) (by decide) owner1 (by decide) (by decide) ?_ (by decide)
    show (ownerOf g0 p0 w0 (-2)).getD 0 = 1
    rw [owner2]; rfl
theorem plan0 : planErr g0 p0 t0 s0 = 0 := by
  rw [planErr_run flatErr0, roots0, walksOf0]
  show (match sameRun (ownerOf g0 p0 w0) s0 (St.new (upTo 2), []) 1 with | none => (7 : Int) | some c => if 1 < c.1.count then 7 else 0) = 0
  rw [run0]
  decide
theorem plan1 : planErr g0 p0 t0 [] = 7 := by
  rw [planErr_run flatErr0, roots0]
  decide
theorem regs0 {ll : List (List Int)} (h : ll.Perm (s0 ++ singles (walksOf g0 p0 t0) s0.flatten)) : ll = [[-2, -1]] := by
  rw [walksOf0] at h
  have : s0 ++ singles w0 s0.flatten = [[-2, -1]] := by decide
  rw [this] at h
  exact List.perm_singleton.1 h
end Plain
end Go.Proofs.Ytfgbkpbakignhaa
/- the document's answer for package walk: the contract of Sub. Conditions: a right part, a list that lie in memory and read so. -/
namespace Go.Proofs.Ytfgbkpbakignhaa
open Go.RowKit Go.Maps

namespace Plain
def subV (p : Pt) (l : List Int) (k : Nat) : List Int := (p.v.take k).filter fun v => decide (v ∈ l)
def subE (g : Gr) (p : Pt) (l : List Int) (k : Nat) : List Int := (p.e.take k).filter fun e => decide ((g.at e).1 ∈ l) && decide ((g.at e).2 ∈ l)
theorem filter_take_succ (f : Int → Bool) {l : List Int} {k : Nat} (hk : k < l.length) : (l.take (k + 1)).filter f = (l.take k).filter f ++ (if f (l.getD k 0) then [l.getD k 0] else []) := by
  have e : l.getD k 0 = l[k] := by simp [List.getD, hk]
  rw [List.take_succ_eq_append_getElem hk, List.filter_append, e]
  congr 1
  rw [List.filter_cons, List.filter_nil]
theorem sub_eq (g : Gr) (p : Pt) (l : List Int) : p.sub g l = ⟨subV p l p.v.length, subE g p l p.e.length⟩ := by
  unfold Pt.sub subV subE
  rw [List.take_length, List.take_length]
theorem subV_le (p : Pt) (l : List Int) (k : Nat) : (subV p l k).length ≤ k := by
  unfold subV
  exact Nat.le_trans (List.length_filter_le _ _) (by rw [List.length_take]; omega)
end Plain

/-- The variable at ob holds a part whose rows are the call's own. -/
def OutAt (w : World) (B ob : Nat) (V E : List Int) : Prop := ∃ v1 v2, w.heap[ob]? = some (.cells #[v1, v2] 27 (0, 0)) ∧ RowAt w B v1 V ∧ RowAt w B v2 E ∧ (∀ j ∈ foot v1, j ∉ foot v2) ∧ B ≤ ob

theorem OutAt.fresh {w w' : World} {B ob : Nat} {V E : List Int} (h : OutAt w B ob V E) (hc : Chg [] w w') : OutAt w' B ob V E := by
  obtain ⟨v1, v2, h1, h2, h3, h4, h5⟩ := h
  exact ⟨v1, v2, hc.heap h1 (by simp), h2.chg hc (by simp), h3.chg hc (by simp), h4, h5⟩

end Go.Proofs.Ytfgbkpbakignhaa
