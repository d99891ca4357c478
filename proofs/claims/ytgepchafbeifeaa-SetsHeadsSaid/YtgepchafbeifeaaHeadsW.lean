/- the law SetsHeads: two things belong together just if they have the same head; a head is its own: the walk. Condition: the list reads as a list of calls. -/
import Derived.Test.YtgepchafbeifeaaActs
namespace Go.Proofs.Ytgepchafbeifeaa
open Go.RowKit Go.Maps

theorem heads_many (v : Value) (l : List Act3) (x y : Int) (w : World) (hn : 100 < l.length) (h : ActsAt w v l) :
    Calls Try.prog 4 #[v, .int .i64 x, .int .i64 y] w fun e w' => e = .returned (.bool true) ∧ Chg [] w w' := by
  obtain ⟨ao, cap, rfl, -, hm, -⟩ := h
  go_enter Try.func4, Try.ntmps4
  go_wp2_with fail
  refine (awake_any _).mono ?_
  rintro e w1 ⟨rfl, hc1⟩
  go_wp2_with fail
  refine (awake_any _).mono ?_
  rintro e w2 ⟨rfl, hc2⟩
  go_wp2
  go_ret
  exact ⟨rfl, hc1.trans hc2 (by simp)⟩

set_option maxHeartbeats 400000 in
theorem heads_few (v : Value) (l : List Act3) (x y : Int) (w : World) (hn : l.length ≤ 100) (hx : I64 x) (hy : I64 y) (h : ActsAt w v l) :
    Calls Try.prog 4 #[v, .int .i64 x, .int .i64 y] w fun e w' => e = .returned (.bool true) ∧ Chg [] w w' := by
  obtain ⟨ao, cap, rfl, hsm, hm, hcell⟩ := h
  go_enter Try.func4, Try.ntmps4
  go_wp2_with fail
  refine (awake_any _).mono ?_
  rintro e w1 ⟨rfl, hc1⟩
  go_wp2_with fail
  refine (new_any _ [] _ (by decide) (IntsAt.nil _)).mono ?_
  rintro e w2 ⟨pb, own, rfl, h2, hc2, hs2⟩
  have hc2' := hc1.trans hc2 (by simp)
  have hs2' : ∀ j ∈ own, w.heap.size ≤ j := fun j hj => Nat.le_trans hc1.size (hs2 j hj)
  clear hc1 hc2 hs2
  go_wp2
  go_loopw [8] (fun c wr => ∃ k : Nat, k ≤ l.length ∧ c = .int .i64 k ∧ ∃ own, SetsObj wr pb own ((St.new []).joinAll (l.take k)) ∧ Chg [] w wr ∧ ∀ j ∈ own, w.heap.size ≤ j) (fun c _ => l.length - (intOf c).toNat)
  case atStart => exact ⟨0, Nat.zero_le _, rfl, own, h2, hc2', hs2'⟩
  case round =>
    obtain ⟨k, hk, rfl, own3, h3, hc3, hs3⟩ := hrel
    by_cases hlt : k < l.length
    · obtain ⟨a, ha⟩ : ∃ a, l[k]? = some a := ⟨_, List.getElem?_eq_getElem hlt⟩
      obtain ⟨b, off, rfl, -, hcx, hcy⟩ := hcell k a ha
      have kx := hc3.cell hcx (by simp)
      have ky := hc3.cell hcy (by simp)
      have hax := (hsm a (List.mem_of_getElem? ha)).2.1
      have hay := (hsm a (List.mem_of_getElem? ha)).2.2
      have HX := Lib.hid (St.joinAll_take (s := St.new []) ha)
      have hlen := St.joinAll_len (l.take k) (St.new [])
      have hlen2 : (l.take k).length ≤ k := List.length_take_le _ _
      have hlen3 : (St.new []).all.length = 0 := rfl
      have hlen4 : ((St.new []).joinAll (l.take k)).all.length < 1000 := by omega
      have HS := Lib.hid hsm
      have HC := Lib.hid hcell
      have HA := Lib.hid ha
      have H2 := Lib.hid h2
      clear hsm hcell ha hlen hlen2 hlen3 h2 hc2' hs2'
      generalize (St.new []).joinAll (l.take k) = s at *
      have hb : Hid (b ∉ own3) := fun e => by have := hs3 b e; have := World.block_lt_of_cell? w _ (show w.cell? ⟨b, off + k * 3 + 1, none⟩ = some _ from hcx); simp at this; omega
      have HO := Lib.hid h3
      have HS3 := Lib.hid hs3
      have HC3 := Lib.hid hc3
      have i1 : (0 : Int) ≤ (k : Int) := by omega
      have i2 : (k : Int) < (l.length : Int) := by omega
      clear h3 hs3 hc3 hcx hcy
      go_wp2
      go_region_held3 (fun w' => w'.cell? ⟨b, off + k * 3 + 1, none⟩ = some (.int .i64 a.x) ∧ w'.cell? ⟨b, off + k * 3 + 2, none⟩ = some (.int .i64 a.y)) (go_keep)
        (first | (go_at_call 11; refine (join_any pb own3 s _ _ _ hax hay (by omega) (by first | exact HO.out | exact HO.out.chg ((Chg.refl [] _).drew) (by simp))).mono ?_; rintro e w5 ⟨rfl, own5, h5, hc5, hs5⟩; have k1 := hc5.cell (a := wr.drew) kx hb.out; have k2 := hc5.cell (a := wr.drew) ky hb.out))
      have HJ := Lib.hid h5
      have hch5 := HC3.out.trans ((Chg.refl [] wr).drew.mono (by simp) |>.trans hc5 (fun j hj => Or.inl hj)) (fun j hj => Or.inr (HS3.out j hj))
      have hs5' : ∀ j ∈ own5, w.heap.size ≤ j := fun j hj => by
        rcases hs5 j hj with q | q
        · exact HS3.out j q
        · have := HC3.out.size; have : wr.drew.heap.size = wr.heap.size := rfl; omega
      clear h5 hc5 hs5 k1 k2 kx ky
      go_wp2
      go_roundw
      case rel => exact ⟨k + 1, by omega, by go_num, own5, by rw [HX.out]; exact HJ.out, hch5, hs5'⟩
      case measure => simp [intOf]; omega
    · have e : k = l.length := by omega
      subst e
      have hlen := St.joinAll_len (l.take l.length) (St.new [])
      have hlen2 : (l.take l.length).length ≤ l.length := List.length_take_le _ _
      have hlen3 : (St.new []).all.length = 0 := rfl
      have hlen4 : ((St.new []).joinAll (l.take l.length)).all.length < 1000 := by omega
      have HC3 := Lib.hid hc3
      have HS3 := Lib.hid hs3
      clear hsm hcell h2 hc2' hs2' hlen hlen2 hlen3 hc3 hs3
      generalize (St.new []).joinAll (l.take l.length) = s at *
      have hok := h3.ok
      go_wp2_with fail
      refine (head_any pb own3 s x _ hx (by omega) h3).mono ?_
      rintro e w4 ⟨rfl, own4, h4, hc4, hs4⟩
      go_wp2_with fail
      refine (head_any pb own4 s y _ hy (by omega) h4).mono ?_
      rintro e w5 ⟨rfl, own5, h5, hc5, hs5⟩
      go_wp2_with fail
      refine (head_any pb own5 s (s.headv x) _ (St.headv_small h5 x) (by omega) h5).mono ?_
      rintro e w6 ⟨rfl, own6, h6, hc6, hs6⟩
      go_wp2_with fail
      refine (same_any pb own6 s x y _ hx hy h6).mono ?_
      rintro e w7 ⟨rfl, own7, h7, hc7, hs7⟩
      have HT : Hid (Chg [] w w7) := by
        have q4 : ∀ j ∈ own4, w.heap.size ≤ j := fun j hj => by rcases hs4 j hj with q | q; exact HS3.out j q; have := HC3.out.size; omega
        have q5 : ∀ j ∈ own5, w.heap.size ≤ j := fun j hj => by rcases hs5 j hj with q | q; exact q4 j q; have := HC3.out.size; have := hc4.size; omega
        have q6 : ∀ j ∈ own6, w.heap.size ≤ j := fun j hj => by rcases hs6 j hj with q | q; exact q5 j q; have := HC3.out.size; have := hc4.size; have := hc5.size; omega
        exact (((HC3.out.trans hc4 (fun j hj => Or.inr (HS3.out j hj))).trans hc5 (fun j hj => Or.inr (q4 j hj))).trans hc6 (fun j hj => Or.inr (q5 j hj))).trans hc7 (fun j hj => Or.inr (q6 j hj))
      clear h3 h4 h5 h6 h7 hc4 hc5 hc6 hc7 hs4 hs5 hs6 hs7
      by_cases hix : x ∈ s.all
      · have e1 : s.headv x = s.head x := if_pos hix
        have e2 : s.head x ∈ s.all := hok.head_mem hix
        have e3 : s.headv (s.head x) = s.head x := by rw [St.headv, if_pos e2]; exact hok.head_head hix
        by_cases hiy : y ∈ s.all
        · have e4 : s.headv y = s.head y := if_pos hiy
          rw [e1, e3, e4, hok.same_heads hix hiy, decide_eq_true hix, decide_eq_true hiy, decide_eq_true e2]
          clear e1 e2 e3 e4 hix hiy hok
          generalize s.head x = a
          generalize s.head y = b
          go_wp2
          go_ret
          refine ⟨ret_bool ?_, HT.out⟩
          simp
        · rw [e1, e3, St.same_not (Or.inr hiy), decide_eq_true hix, decide_eq_false hiy, decide_eq_true e2]
          clear e1 e2 e3 hix hiy hok
          generalize s.head x = a
          generalize s.headv y = b
          go_wp2
          go_ret
          refine ⟨ret_bool ?_, HT.out⟩
          simp
      · rw [St.same_not (Or.inl hix), decide_eq_false hix]
        clear hix hok
        generalize s.headv (s.headv x) = c
        generalize s.headv x = a
        generalize s.headv y = b
        generalize decide (a ∈ s.all) = d
        generalize decide (y ∈ s.all) = e
        cases e <;> cases d
        all_goals
          go_wp2
          go_ret
          exact ⟨rfl, HT.out⟩

theorem setsHeads_any (v : Value) (l : List Act3) (x y : Int) (w : World) (hx : I64 x) (hy : I64 y) (h : ActsAt w v l) :
    Calls Try.prog 4 #[v, .int .i64 x, .int .i64 y] w fun e w' => e = .returned (.bool true) ∧ Chg [] w w' := by
  by_cases hn : l.length ≤ 100
  · exact heads_few v l x y w hn hx hy h
  · exact heads_many v l x y w (by omega) h

end Go.Proofs.Ytgepchafbeifeaa
