/- ref07: the contract of Walks. Conditions: a right part, right turns that lie in memory and read so, of a bounded size. -/
import Derived.Test.YtfgbkpbakignhaaVCyc
import Derived.Test.YtfgbkpbakignhaaVMisc
import Derived.Test.YtfgbkpbakignhaaVKit
namespace Go.Proofs.Ytfgbkpbakignhaa
open Go.RowKit Go.Maps

/-- The length of a slice. -/
def sliceLen : Value → Nat
  | .slice _ n _ => n
  | _ => 0

end Go.Proofs.Ytfgbkpbakignhaa
/- the law PlanParts: the walk. Conditions: a graph, a part, a plan that lie in memory and read so. -/
namespace Go.Proofs.Ytfgbkpbakignhaa
open Go.RowKit Go.Maps

namespace Plain
theorem small8_rows {g : Gr} {p : Pt} {turn same : List (List Int)} (h : small8 g p turn same = true) : ∀ v, (turnAt turn v).length ≤ 200 := by
  unfold small8 small6 small4 at h
  simp only [Bool.and_eq_true] at h
  obtain ⟨⟨⟨⟨h4, h5⟩, h6⟩, h7⟩, h8⟩ := h
  exact fun v => getD_le (all_le h6) v.toNat
theorem seen_mem {ll : List (List Int)} {i j : Nat} (hi : i < ll.length) {x : Int} (hx : x ∈ seen ll i j) : x ∈ ll.flatten := by
  unfold seen at hx
  rcases List.mem_append.1 hx with q | q
  · obtain ⟨l, hl, hxl⟩ := List.mem_flatten.1 q
    exact List.mem_flatten.2 ⟨l, List.mem_of_mem_take hl, hxl⟩
  · exact List.mem_flatten.2 ⟨ll[i], List.getElem_mem hi, by have := List.mem_of_mem_take q; simpa [List.getD, hi] using this⟩
theorem seen_not {ll : List (List Int)} (hn : ll.flatten.Nodup) {i j : Nat} (hj : j < (ll.getD i []).length) : (ll.getD i []).getD j 0 ∉ seen ll i j := by
  obtain ⟨r, hr⟩ := seen_sub ll i (j + 1)
  rw [hr, seen_next hj] at hn
  have := (List.nodup_append.1 hn).1
  have := (List.nodup_append.1 this).2.2
  exact fun h => this _ h _ (by simp) rfl
theorem seen_le {ll : List (List Int)} (i j : Nat) : (seen ll i j).length ≤ ll.flatten.length := by
  obtain ⟨r, hr⟩ := seen_sub ll i j
  rw [hr, List.length_append]
  omega
end Plain

end Go.Proofs.Ytfgbkpbakignhaa
/- ref05: the contract of Pieces, whole. Conditions: a right part that lies in memory, of at most 1000 vertices. -/
namespace Go.Proofs.Ytfgbkpbakignhaa
open Go.RowKit Go.Maps

/-- The pieces of roots, as cells. -/
noncomputable def rpcs (g : Plain.Gr) (p : Plain.Pt) (R : List Int) : List Cell := pcs (Plain.comp g p) (fun r => (p.sub g (Plain.comp g p r)).e) R
theorem rpcs_snoc (g : Plain.Gr) (p : Plain.Pt) (R : List Int) (r : Int) : rpcs g p (R ++ [r]) = rpcs g p R ++ [.row (Plain.comp g p r), .row (p.sub g (Plain.comp g p r)).e] := by simp [rpcs, pcs]

theorem sub_comp {g : Plain.Gr} {p : Plain.Pt} {v : Int} {M : List Int} (hp : Plain.PartOk g p) (hM : ∀ u, u ∈ M ↔ Plain.Come g p (-1) v u) : (p.sub g M).v = Plain.comp g p v ∧ (p.sub g M).e = (p.sub g (Plain.comp g p v)).e := by
  have e : ∀ u ∈ p.v, decide (u ∈ M) = decide (u ∈ Plain.comp g p v) := fun u hu => by
    have : u ∈ M ↔ u ∈ Plain.comp g p v := by rw [hM u, Plain.mem_comp]; exact ⟨fun h => ⟨hu, h⟩, fun h => h.2⟩
    simp only [this]
  refine ⟨?_, List.filter_congr fun x hx => ?_⟩
  · show p.v.filter (fun u => decide (u ∈ M)) = Plain.comp g p v
    unfold Plain.comp
    refine List.filter_congr fun u hu => ?_
    exact decide_eq_decide.2 (hM u)
  · have := hp.ends x hx
    rw [e _ this.1, e _ this.2]

end Go.Proofs.Ytfgbkpbakignhaa
