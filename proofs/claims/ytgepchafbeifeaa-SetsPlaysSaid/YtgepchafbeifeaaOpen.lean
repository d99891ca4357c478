/- From what comes in, as it is read, to the plain words of this seat: lists of ints, lists of calls. -/
import Derived.Test.YtgepchafbeifeaaActs
import Derived.ProofKit
import Derived.OpenShut
import Derived.ChangeOld
import Derived.Deep.Strs
namespace Go.Proofs.Ytgepchafbeifeaa
open Go.ChangeShapes Go.WideShapes Go.ChangeAt Go.RowKit Go.Deep

section
variable {H : Type} {enc : TypeId × Value → H} {w : World} {base : Nat} {held : Bool}

theorem cellsInt : Try.prog.cellsOf 3 = 1 := by kernel_rfl

/-- A []int that came in. -/
theorem ints_down {fuel : Nat} {ao : Option Addr} {len cap : Nat} {x : DataW H × List MemPlace} (h : DataW.trod enc Try.prog w base (fun _ => true) held fuel 35 [.slice ao len cap] = some x) : ∃ l, l.length = len ∧ IntsAt w (.slice ao len cap) l := by
  rcases open_ints Try.underlying35 Try.underlying3 cellsInt h with ⟨hcs, _⟩ | ⟨a, len', cap', zs, hcs, _, hl, hm, hz, _, hcell, hwz⟩
  · simp at hcs
    obtain ⟨rfl, rfl, rfl⟩ := hcs
    exact ⟨[], rfl, IntsAt.nil w⟩
  · simp at hcs
    obtain ⟨rfl, rfl, rfl⟩ := hcs
    have hz' : zs.length = cap := by simpa using hz
    have hlen : (zs.take len).length = len := by simp; omega
    refine ⟨zs.take len, hlen, some a, cap, by rw [hlen], fun y hy => hwz y (List.mem_of_mem_take hy), by rw [hlen]; unfold maxLen at hm; omega, fun hne => ?_⟩
    obtain ⟨b, off, rfl, hc⟩ := ints_at hcell (by
      rcases Nat.eq_zero_or_pos zs.length with q | q
      · rw [List.length_eq_zero_iff.1 q] at hne; simp at hne
      · exact q)
    refine ⟨b, off, rfl, fun i hi => ?_⟩
    rw [hlen] at hi
    rw [hc i (by omega)]
    simp [List.getD, hi]

theorem cellsAct : Try.prog.cellsOf 28 = 3 := by kernel_rfl
theorem cellsByte : Try.prog.cellsOf 5 = 1 := by kernel_rfl

instance : Inhabited Act3 := ⟨⟨0, 0, 0⟩⟩

/-- A []Act that came in. -/
theorem acts_down {fuel : Nat} {ao : Option Addr} {len cap : Nat} {x : DataW H × List MemPlace} (h : DataW.trod enc Try.prog w base (fun _ => true) held fuel 22 [.slice ao len cap] = some x) : ∃ l, l.length = len ∧ ActsAt w (.slice ao len cap) l := by
  rcases open_slice Try.underlying22 h with ⟨hcs, _⟩ | ⟨a, len', cap', m, n, D, Pl, hcs, _, hl, hm, hmm, _, hx⟩
  · simp at hcs
    obtain ⟨rfl, rfl, rfl⟩ := hcs
    exact ⟨[], rfl, none, 0, rfl, by simp, by simp, by simp⟩
  · simp at hcs
    obtain ⟨rfl, rfl, rfl⟩ := hcs
    simp only [if_true] at hmm
    subst hmm
    have each : ∀ i, i < m → ∃ y : Act3, ((0 ≤ y.op ∧ y.op < 256) ∧ I64 y.x ∧ I64 y.y) ∧ w.cell? (a.add (i * 3)) = some (.int .u8 y.op) ∧ w.cell? (a.add (i * 3 + 1)) = some (.int .i64 y.x) ∧ w.cell? (a.add (i * 3 + 2)) = some (.int .i64 y.y) := by
      intro i hi
      obtain ⟨cs', hc, ht⟩ := hx i hi
      rw [cellsAct] at hc
      obtain ⟨_, hlen, hat⟩ := World.cells?_some hc
      obtain ⟨y0, y1, y2, n', _, _, h0, h1, h2⟩ := trod_struct3 Try.underlying28 ht
      match cs', hlen with
      | [c0, c1, c2], _ =>
        simp only [cellsByte, cellsInt, List.drop_zero, List.drop_succ_cons, List.take_succ_cons, List.take_zero] at h0 h1 h2
        obtain ⟨v0, e0, _, w0⟩ := DataW.trod_int Try.underlying5 h0
        obtain ⟨v1, e1, _, w1⟩ := DataW.trod_int Try.underlying3 h1
        obtain ⟨v2, e2, _, w2⟩ := DataW.trod_int Try.underlying3 h2
        simp at e0 e1 e2
        subst e0 e1 e2
        have b0 := bounds_u8 w0
        refine ⟨⟨v0, v1, v2⟩, ⟨⟨show 0 ≤ v0 by omega, show v0 < 256 by omega⟩, w1, w2⟩, ?_, ?_, ?_⟩
        · have := hat 0 (by omega); rw [add_add] at this; simpa using this
        · have := hat 1 (by omega); rw [add_add] at this; simpa using this
        · have := hat 2 (by omega); rw [add_add] at this; simpa using this
    obtain ⟨f, hf⟩ := choose_lt each
    refine ⟨(List.range len).map f, by simp, some a, m, by simp, ?_, ?_, ?_⟩
    · intro y hy
      obtain ⟨i, hi, rfl⟩ := List.mem_map.1 hy
      exact (hf i (by have := List.mem_range.1 hi; omega)).1
    · unfold maxLen at hm; simp; omega
    · intro i y hy
      have hi : i < len := by have := (List.getElem?_eq_some_iff.1 hy).1; simpa using this
      have e : y = f i := by simpa [hi] using hy.symm
      subst e
      obtain ⟨_, k0, k1, k2⟩ := hf i (by omega)
      obtain ⟨b, off, spot⟩ := a
      have hs : spot = none := by
        have := World.cell?_spot (hf 0 (by omega)).2.1
        simpa [Addr.add] using this
      subst hs
      refine ⟨b, off, rfl, ?_, ?_, ?_⟩
      · rw [← add_plain]; exact k0
      · rw [Nat.add_assoc, ← add_plain]; exact k1
      · rw [Nat.add_assoc, ← add_plain]; exact k2
end

end Go.Proofs.Ytgepchafbeifeaa
