/- the document's answer for package sets: what a value of it is in memory; the contract of Find. Condition: a list that reads. -/
import Derived.Test.YtgepchafbeifeaaActs
namespace Go.Proofs.Ytgepchafbeifeaa
open Go.RowKit Go.Maps

/-- The place of a thing; -1. -/
def findv (l : List Int) (x : Int) : Int := if x ∈ l then ((l.idxOf x : Nat) : Int) else -1

theorem findv_take {l : List Int} {x : Int} {k : Nat} (hk : k < l.length) (h : x ∉ l.take k) (e : l.getD k 0 = x) : findv l x = k := by
  have hx : x ∈ l := by subst e; simp [List.getD, hk]
  have h1 : l.idxOf x = k := by
    have e' : l[k] = x := by simpa [List.getD, hk] using e
    have q : (l.take k ++ l.drop k).idxOf x = k := by
      rw [List.idxOf_append, if_neg h, List.drop_eq_getElem_cons hk, e', List.idxOf_cons_self]
      simp
      omega
    rwa [List.take_append_drop] at q
  rw [findv, if_pos hx, h1]

theorem take_snoc_not {l : List Int} {x : Int} {k : Nat} (hk : k < l.length) (h : x ∉ l.take k) (e : l.getD k 0 ≠ x) : x ∉ l.take (k + 1) := by
  rw [List.take_succ_eq_append_getElem hk]
  simp only [List.mem_append, List.mem_singleton, not_or]
  refine ⟨h, fun q => e ?_⟩
  simp [List.getD, hk, q]

set_option maxHeartbeats 400000 in
theorem find_any (va vg : Value) (l : List Int) (x : Int) (w : World) (hx : I64 x) (h : IntsAt w va l) :
    Calls Try.prog 15 #[.agg #[va, vg], .int .i64 x] w fun e w' => e = .returned (.int .i64 (findv l x)) ∧ Chg [] w w' := by
  obtain ⟨ao, cap, rfl, hsm, hm, hcell⟩ := h
  go_enter Try.func15, Try.ntmps15
  go_wp2
  have hb := heap_alloc_new w (.cells #[.slice ao l.length cap, vg] 37)
  have hb0 : (w.alloc (.cells #[.slice ao l.length cap, vg] 37)).cell? ⟨w.heap.size, 0, none⟩ = some (.slice ao l.length cap) := by rw [cell_of_row _ _ _ _ _ _ hb]; rfl
  clear hb
  go_loopw [5] (fun c wr => ∃ k : Nat, k ≤ l.length ∧ c = .int .i64 k ∧ x ∉ l.take k ∧ wr = w.alloc (.cells #[.slice ao l.length cap, vg] 37)) (fun c _ => l.length - (intOf c).toNat)
  case atStart => exact ⟨0, Nat.zero_le _, rfl, by simp, rfl⟩
  case round =>
    obtain ⟨k, hk, rfl, hno, rfl⟩ := hrel
    by_cases hlt : k < l.length
    · obtain ⟨b, off, rfl, hc⟩ := hcell (by intro e; rw [e] at hlt; simp at hlt)
      have ck := cellNew (hc k hlt) (.cells #[.slice (some ⟨b, off, none⟩) l.length cap, vg] 37)
      have HT := Lib.hid (findv_take (x := x) hlt hno)
      have HN := Lib.hid (take_snoc_not (x := x) hlt hno)
      have HC := Lib.hid hc
      have HH := Lib.hid hsm
      clear hcell hc hno hsm
      generalize l.getD k 0 = y at *
      by_cases hy : y = x
      · subst hy
        go_wp2
        go_ret
        exact ⟨ret_int (HT.out (by trivial)).symm, (Chg.refl _ _).alloc _⟩
      · go_wp2
        go_roundw
        case rel => exact ⟨k + 1, by omega, by go_num, HN.out hy, by trivial⟩
        case measure => simp [intOf]; omega
    · have e : k = l.length := by omega
      subst e
      go_wp2
      go_ret
      refine ⟨ret_int ?_, (Chg.refl _ _).alloc _⟩
      rw [findv, if_neg (by simpa using hno)]

end Go.Proofs.Ytgepchafbeifeaa
