/- package rota: the contracts of Darts and of its iterator. Conditions: turns that lie in memory and read so. -/
import Derived.RangeFuncNested
import Derived.RangeFuncBound
import Derived.RangeFuncCalls
import Derived.RangeFuncLeaves
import Derived.RangeFuncBox
import Derived.Shelf.Abstract
import Derived.Shelf.AbstractIn
import Derived.Shelf.RegionOpen
import Derived.OwnWalkIn
import Derived.TacticsInMore
import Derived.LoopNIn
import Derived.LoopIn
import Derived.Maps.OwnIn
import Derived.Test.YtpbljifejopecaaVNext
namespace Go.Proofs.Ytpbljifejopecaa
open Go.RowKit Go.Maps

theorem darts_any (rb : Nat) (w : World) :
    Calls Try.prog 86 #[.pointer (some ⟨rb, 0, none⟩)] w fun e w' => e = .returned (.func (.func 117) #[] #[.pointer (some ⟨w.heap.size, 0, none⟩)]) ∧ w' = w.alloc (.cells #[.pointer (some ⟨rb, 0, none⟩)] 113) := by
  go_enter Try.func86, Try.ntmps86
  go_wp2
  go_ret
  exact ⟨rfl, rfl⟩

/-- What the iterator reads: its box, the turns' list of darts. -/
def ItAt (W : World) (Bs rb : Nat) (vd : Value) (ds : List Int) : Prop := W.cell? ⟨Bs, 0, none⟩ = some (.pointer (some ⟨rb, 0, none⟩)) ∧ W.cell? ⟨rb, 3, none⟩ = some vd ∧ IntsAt W vd ds

theorem ItAt.chg {W W' : World} {own : List Nat} {Bs rb : Nat} {vd : Value} {ds : List Int} (h : ItAt W Bs rb vd ds) (hc : Chg own W W') (h1 : Bs ∉ own) (h2 : rb ∉ own) (h3 : ∀ b n c, vd = .slice (some b) n c → b.block ∉ own) : ItAt W' Bs rb vd ds :=
  ⟨hc.cell h.1 h1, hc.cell h.2.1 h2, h.2.2.chg hc h3⟩

/-- What a round keeps for it. -/
def ItKeeps (Bs rb : Nat) (vd : Value) (ds : List Int) (A B : World) : Prop := A.heap.size ≤ B.heap.size ∧ (ItAt A Bs rb vd ds → ItAt B Bs rb vd ds)

section
attribute [local go_sem] Oper.semAt_some
set_option maxRecDepth 100000 in
set_option maxHeartbeats 2000000 in
theorem darts1_in (α : Type) (enc : α → Int) (n : Nat) (hn : 1 ≤ n) (l Bs rb : Nat) (vd : Value) (xs : List α) (hl : xs.length < 4294967296) (J Jx : List α → World → Prop)
    (hY : ∀ pre x W, J pre W → pre.length < xs.length → YieldAt Fence.wide (n - 1) Try.prog l #[.int .i64 (enc x)] W fun e W' =>
      (e = .returned (.bool true) ∧ J (pre ++ [x]) W' ∧ ItKeeps Bs rb vd (xs.map enc) W W') ∨ (e = .returned (.bool false) ∧ Jx (pre ++ [x]) W'))
    (W : World) (hI : ItAt W Bs rb vd (xs.map enc)) (h0 : J [] W) :
    CallsIn Fence.wide n Try.prog 117 #[.func (.yield l) #[] #[], .pointer (some ⟨Bs, 0, none⟩)] W fun e W' => (∃ v, e = .returned v) ∧
      ((∃ ys, ys = xs ∧ J ys W') ∨ (∃ pre, (∃ k, k ≤ xs.length ∧ pre = xs.take k) ∧ Jx pre W')) := by
  have HIT := Lib.hid hI
  obtain ⟨hc1, hc2, hc3⟩ := hI
  obtain ⟨ao, cap, rfl, -, -, hcc⟩ := hc3
  rw [List.length_map] at hcc hc2
  have HIT2 : Hid (ItAt W Bs rb (.slice ao xs.length cap) (xs.map enc)) := by have := HIT.out; rw [List.length_map] at this; exact Lib.hid this
  have hY2 : Hid (∀ pre x W, J pre W → pre.length < xs.length → YieldAt Fence.wide (n - 1) Try.prog l #[.int .i64 (enc x)] W fun e W' =>
      (e = .returned (.bool true) ∧ J (pre ++ [x]) W' ∧ ItKeeps Bs rb (.slice ao xs.length cap) (xs.map enc) W W') ∨ (e = .returned (.bool false) ∧ Jx (pre ++ [x]) W')) := by
    have := hY; rw [List.length_map] at this; exact Lib.hid this
  clear hcc hY HIT
  refine callsIn_of_wp Try.func117 rfl trivial ?_ rfl
  simp only [Try.ntmps117, List.size_toArray, List.length_cons, List.length_nil, Nat.reduceAdd, Nat.reduceSub, Array.replicate_succ, Array.replicate_zero, List.push_toArray, List.append_toArray, List.nil_append, List.cons_append]
  gi_wp2
  gi_loopw [12] (fun i wr => ∃ k : Nat, k ≤ xs.length ∧ i = .int .i64 k ∧ J (xs.take k) wr ∧ Hid (ItAt wr Bs rb (.slice ao xs.length cap) (xs.map enc))) (fun i _ => xs.length - (intOf i).toNat)
  case atStart => exact ⟨0, Nat.zero_le _, rfl, by simpa using h0, HIT2⟩
  case round =>
    obtain ⟨k, hk, rfl, hJs, hit⟩ := hrel
    have HJ := Lib.hid hJs
    by_cases hlt : k < xs.length
    · obtain ⟨x, hx⟩ : ∃ x, xs[k]? = some x := ⟨xs[k], List.getElem?_eq_getElem hlt⟩
      have HTK := Lib.hid (show xs.take (k + 1) = xs.take k ++ [x] by
        rw [List.take_succ_eq_append_getElem hlt]
        congr 1
        rw [List.getElem?_eq_getElem hlt] at hx
        simpa using hx)
      obtain ⟨ao2, cap2, e, -, -, hcc⟩ := hit.out.2.2
      obtain ⟨b, off, e2, hcell⟩ := hcc (by intro q; have := congrArg List.length q; rw [List.length_map] at this; simp at this; subst this; simp at hlt)
      simp only [Value.slice.injEq] at e
      obtain ⟨e3, -, -⟩ := e
      rw [e2] at e3
      subst e3
      have ck := hcell k (by rw [List.length_map]; exact hlt)
      have hxe : (xs.map enc).getD k 0 = enc x := by simp [List.getD, hx]
      rw [hxe] at ck
      obtain ⟨fn, tmps, assign, body, hy, hR⟩ := hY2.out (xs.take k) x wr hJs (by rw [List.length_take]; omega)
      clear hx hcell hcc hxe hJs
      generalize enc x = z at *
      gi_wp2
      refine hR.mono ?_
      rintro e W3 (⟨rfl, hJ3, hk3⟩ | ⟨rfl, hJx3⟩)
      · have HJ3 := Lib.hid hJ3
        have HI3 := Lib.hid (hk3.2 hit.out)
        gi_wp2
        go_roundw
        case rel => exact ⟨k + 1, by omega, by go_num, by rw [HTK.out]; exact HJ3.out, HI3⟩
        case measure => simp [intOf]; omega
      · have HJ3 := Lib.hid hJx3
        gi_wp2
        refine bodyPost_ret (results_none rfl _ _ _) rfl ?_
        exact ⟨⟨_, rfl⟩, .inr ⟨_, ⟨k + 1, by omega, rfl⟩, by rw [HTK.out]; exact HJ3.out⟩⟩
    · have e : k = xs.length := by omega
      subst e
      gi_wp2
      go_end0
      exact ⟨⟨_, rfl⟩, .inl ⟨xs, rfl, by have := HJ.out; rwa [List.take_length] at this⟩⟩

theorem darts_stops (α : Type) (enc : α → Int) (n : Nat) (hn : 1 ≤ n) (Bs rb : Nat) (vd : Value) (xs : List α) (hl : xs.length < 4294967296) (w : World) (hI : ItAt w Bs rb vd (xs.map enc)) :
    SeqStopsK Fence.wide n Try.prog 117 #[.pointer (some ⟨Bs, 0, none⟩)] (fun x : α => #[Value.int .i64 (enc x)]) (ItKeeps Bs rb vd (xs.map enc)) (fun ys => ys = xs) (fun pre => ∃ k, k ≤ xs.length ∧ pre = xs.take k) xs.length w := fun l J Jx W hW _ _ hY h0 =>
  darts1_in α enc n hn l Bs rb vd xs hl J Jx hY W (by
    have hc : Chg [] w W := Chg.of_below hW (Nat.le_refl _)
    exact hI.chg hc (by simp) (by simp) (by simp)) h0
end

end Go.Proofs.Ytpbljifejopecaa
