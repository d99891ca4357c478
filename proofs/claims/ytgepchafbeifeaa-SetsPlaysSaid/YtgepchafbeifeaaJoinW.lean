/- the law SetsJoin: each Join that answers true makes one group less; belonging together goes both ways and on: the walk. Condition: the list reads as a list of calls. -/
import Derived.Test.YtgepchafbeifeaaSeq
import Derived.Test.YtgepchafbeifeaaActs
import Derived.Deep.DrawnRows
namespace Go.Proofs.Ytgepchafbeifeaa
open Go.RowKit Go.Maps
attribute [local go_sem ↓] Go.wp_at_zero Go.wp_at_succ

theorem joinlaw_many (v : Value) (l : List Act3) (x y z : Int) (w : World) (hn : 100 < l.length) (h : ActsAt w v l) :
    Calls Try.prog 3 #[v, .int .i64 x, .int .i64 y, .int .i64 z] w fun e w' => e = .returned (.bool true) ∧ Chg [] w w' := by
  obtain ⟨ao, cap, rfl, -, hm, -⟩ := h
  go_enter Try.func3, Try.ntmps3
  go_wp2_with fail
  refine (awake_any _).mono ?_
  rintro e w1 ⟨rfl, hc1⟩
  go_wp2_with fail
  refine (awake_any _).mono ?_
  rintro e w2 ⟨rfl, hc2⟩
  go_wp2
  go_ret
  exact ⟨rfl, hc1.trans hc2 (by simp)⟩

/-- An object whose blocks are all new since w. -/
def Own (w : World) (pb : Nat) (s : St) (wr : World) : Prop := ∃ own, SetsObj wr pb own s ∧ Chg [] w wr ∧ ∀ j ∈ own, w.heap.size ≤ j

theorem Own.turn {w wr w' : World} {pb : Nat} {own : List Nat} {t : St} (hc : Chg [] w wr) (hs : ∀ j ∈ own, w.heap.size ≤ j) (ht : Turn wr pb own w' t) : Own w pb t w' := by
  obtain ⟨own2, h1, h2, h3⟩ := ht
  exact ⟨own2, h1, hc.trans h2 (fun j hj => Or.inr (hs j hj)), fun j hj => by rcases h3 j hj with q | q; exact hs j q; exact Nat.le_trans hc.size q⟩

theorem Own.drew {w wr : World} {pb : Nat} {s : St} (h : Own w pb s wr) : Own w pb s wr.drew := by
  obtain ⟨own, h1, h2, h3⟩ := h
  exact ⟨own, h1.chg ((Chg.refl [] _).drew) (by simp), h2.drew, h3⟩

theorem own_join {w wr : World} {pb : Nat} {s : St} {x y : Int} (hx : I64 x) (hy : I64 y) (hn : s.all.length < 17179869184) (h : Own w pb s wr) :
    Calls Try.prog 11 #[.pointer (some ⟨pb, 0, none⟩), .int .i64 x, .int .i64 y] wr fun e w' => e = .returned (.bool (s.joins x y)) ∧ Own w pb (s.join x y) w' := by
  obtain ⟨own, h1, h2, h3⟩ := h
  exact (join_any pb own s x y wr hx hy hn h1).mono fun e w' ⟨he, ht⟩ => ⟨he, Own.turn h2 h3 ht⟩

theorem own_add {w wr : World} {pb : Nat} {s : St} {x : Int} (hx : I64 x) (hn : s.all.length < 34359738368) (h : Own w pb s wr) :
    Calls Try.prog 9 #[.pointer (some ⟨pb, 0, none⟩), .int .i64 x] wr fun e w' => e = .returned (.bool (decide (x ∉ s.all))) ∧ Own w pb (s.put x) w' := by
  obtain ⟨own, h1, h2, h3⟩ := h
  exact (add_any pb own s x wr hx hn h1).mono fun e w' ⟨he, ht⟩ => ⟨he, Own.turn h2 h3 ht⟩

theorem own_same {w wr : World} {pb : Nat} {s : St} {x y : Int} (hx : I64 x) (hy : I64 y) (h : Own w pb s wr) :
    Calls Try.prog 12 #[.pointer (some ⟨pb, 0, none⟩), .int .i64 x, .int .i64 y] wr fun e w' => e = .returned (.bool (s.same x y)) ∧ Own w pb s w' := by
  obtain ⟨own, h1, h2, h3⟩ := h
  exact (same_any pb own s x y wr hx hy h1).mono fun e w' ⟨he, ht⟩ => ⟨he, Own.turn h2 h3 ht⟩

theorem own_count {w wr : World} {pb : Nat} {s : St} (h : Own w pb s wr) :
    Calls Try.prog 10 #[.pointer (some ⟨pb, 0, none⟩)] wr fun e w' => e = .returned (.int .i64 (s.count : Int)) ∧ wr = w' := by
  obtain ⟨own, h1, -, -⟩ := h
  exact count_any pb own s wr h1

theorem Own.ok {w wr : World} {pb : Nat} {s : St} (h : Own w pb s wr) : s.Ok := by obtain ⟨own, h1, -, -⟩ := h; exact h1.ok
theorem Own.chg {w wr : World} {pb : Nat} {s : St} (h : Own w pb s wr) : Chg [] w wr := by obtain ⟨own, -, h2, -⟩ := h; exact h2

/-- The state behind so many rounds of the law. -/
def St.lawAll (s : St) (l : List Act3) : St := l.foldl (fun s a => ((s.put a.x).put a.y).join a.x a.y) s

theorem St.lawAll_take {s : St} {l : List Act3} {k : Nat} {a : Act3} (h : l[k]? = some a) : s.lawAll (l.take (k + 1)) = (((s.lawAll (l.take k)).put a.x).put a.y).join a.x a.y := by
  obtain ⟨hk, rfl⟩ := List.getElem?_eq_some_iff.1 h
  unfold St.lawAll
  rw [List.take_succ_eq_append_getElem hk, List.foldl_append]
  rfl

theorem St.lawAll_len (l : List Act3) : ∀ s : St, (s.lawAll l).all.length ≤ s.all.length + 4 * l.length := by
  induction l with
  | nil => intro s; simp [St.lawAll]
  | cons a r ih =>
    intro s
    have := ih (((s.put a.x).put a.y).join a.x a.y)
    have := (((s.put a.x).put a.y).join_len a.x a.y).2
    have := (s.len_put a.x).2
    have := ((s.put a.x).len_put a.y).2
    simp only [St.lawAll, List.foldl_cons, List.length_cons] at *
    omega

set_option maxRecDepth 100000 in
set_option maxHeartbeats 1600000 in
theorem joinlaw_few (v : Value) (l : List Act3) (x y z : Int) (w : World) (hn : l.length ≤ 100) (hx : I64 x) (hy : I64 y) (hz : I64 z) (h : ActsAt w v l) :
    Calls Try.prog 3 #[v, .int .i64 x, .int .i64 y, .int .i64 z] w fun e w' => e = .returned (.bool true) ∧ Chg [] w w' := by
  obtain ⟨ao, cap, rfl, hsm, hm, hcell⟩ := h
  go_enter Try.func3, Try.ntmps3
  go_wp2_with fail
  refine (awake_any _).mono ?_
  rintro e w1 ⟨rfl, hc1⟩
  go_wp2_with fail
  refine (new_any _ [] _ (by decide) (IntsAt.nil _)).mono ?_
  rintro e w2 ⟨pb, own, rfl, h2, hc2, hs2⟩
  have h2' : Own w pb (St.new []) w2 := ⟨own, h2, hc1.trans hc2 (by simp), fun j hj => Nat.le_trans hc1.size (hs2 j hj)⟩
  clear hc1 hc2 hs2 h2
  go_wp2
  go_loopw [10] (fun c wr => ∃ k : Nat, k ≤ l.length ∧ c = .int .i64 k ∧ Own w pb ((St.new []).lawAll (l.take k)) wr) (fun c _ => l.length - (intOf c).toNat)
  case atStart => exact ⟨0, Nat.zero_le _, rfl, h2'⟩
  case round =>
    obtain ⟨k, hk, rfl, h3⟩ := hrel
    by_cases hlt : k < l.length
    · obtain ⟨a, ha⟩ : ∃ a, l[k]? = some a := ⟨_, List.getElem?_eq_getElem hlt⟩
      obtain ⟨b, off, rfl, -, hcx, hcy⟩ := hcell k a ha
      have hax := (hsm a (List.mem_of_getElem? ha)).2.1
      have hay := (hsm a (List.mem_of_getElem? ha)).2.2
      have HX := Lib.hid (St.lawAll_take (s := St.new []) ha)
      have hlen := St.lawAll_len (l.take k) (St.new [])
      have hlen2 : (l.take k).length ≤ k := List.length_take_le _ _
      have hlen3 : (St.new []).all.length = 0 := rfl
      have hlen4 : ((St.new []).lawAll (l.take k)).all.length < 1000 := by omega
      have HS := Lib.hid hsm
      have HC := Lib.hid hcell
      have HA := Lib.hid ha
      have H2 := Lib.hid h2'
      clear hsm hcell ha hlen hlen2 hlen3 h2'
      generalize (St.new []).lawAll (l.take k) = s at *
      have HCX := Lib.hid hcx
      have HCY := Lib.hid hcy
      have kx := h3.chg.cell hcx (by simp)
      clear hcx hcy
      have i1 : (0 : Int) ≤ (k : Int) := by omega
      have i2 : (k : Int) < (l.length : Int) := by omega
      go_wp2_with fail
      refine (own_add hax (by omega) h3).mono ?_
      rintro e w3 ⟨rfl, h4⟩
      have ky := h4.chg.cell HCY.out (by simp)
      clear kx
      go_wp2_with fail
      refine (own_add hay (by have := (s.len_put a.x).2; omega) h4).mono ?_
      rintro e w4 ⟨rfl, h5⟩
      clear ky
      go_wp2_with fail
      refine (own_count h5).mono ?_
      rintro e w5 ⟨rfl, rfl⟩
      have hln : ((s.put a.x).put a.y).all.length < 1002 := by have := (s.len_put a.x).2; have := ((s.put a.x).len_put a.y).2; omega
      have hok := h5.ok
      have hmem := s.put_put_mem a.x a.y
      have HJC := Lib.hid (St.join_count hok hmem.1 hmem.2)
      have HJS := Lib.hid (St.join_same hok hmem.1 hmem.2)
      clear hok hmem hlen4 h3 h4
      generalize (s.put a.x).put a.y = t at *
      have kx := h5.chg.cell HCX.out (by simp)
      have ky := h5.chg.cell HCY.out (by simp)
      have H5 := Lib.hid h5
      clear h5
      go_wp2
      go_region_held3 (fun w' => w'.cell? ⟨b, off + k * 3 + 1, none⟩ = some (.int .i64 a.x) ∧ w'.cell? ⟨b, off + k * 3 + 2, none⟩ = some (.int .i64 a.y)) (go_keep)
        (first | (go_at_call 11; refine (own_join (w := w) (s := t) hax hay (by omega) (by first | exact H5.out | exact H5.out.drew)).mono ?_; rintro e w6 ⟨rfl, h6⟩; have k1 := h6.chg.cell HCX.out (by simp); have k2 := h6.chg.cell HCY.out (by simp)))
      clear kx ky H5
      have H6 := Lib.hid h6
      have hcn := (t.join a.x a.y).count_le
      have hjl : (t.join a.x a.y).grp.length < 1010 := by have := (t.join_len a.x a.y).2; rw [← h6.ok.len]; omega
      clear h6
      generalize ht : t.join a.x a.y = u at *
      generalize hcu : u.count = c at *
      generalize hct : t.count = n at *
      have HCU := Lib.hid hcu
      clear ht hct hcu
      have hjc := HJC.out
      clear HJC
      generalize t.joins a.x a.y = jj at *
      cases jj
      · simp only [Bool.false_eq_true, if_false, Nat.add_zero] at hjc
        subst hjc
        have e1 : IntKind.i64.wrap ((n : Int) - 1) = (n : Int) - 1 := IntWalk.i64_in _ (by omega)
        have e2 : ((n : Int) == (n : Int) - 1) = false := by rw [beq_eq_false_iff_ne]; omega
        go_wp2
        go_region_held3 (fun w' => w'.cell? ⟨b, off + k * 3 + 1, none⟩ = some (.int .i64 a.x) ∧ w'.cell? ⟨b, off + k * 3 + 2, none⟩ = some (.int .i64 a.y)) (go_keep)
          (first
            | (go_at_call 10; refine (own_count (w := w) (s := u) (by first | exact H6.out | exact H6.out.drew)).mono ?_; rw [HCU.out]; rintro e w7 ⟨rfl, rfl⟩)
            | (go_at_call 12; refine (own_same (w := w) (s := u) hax hay (by first | exact H6.out | exact H6.out.drew)).mono ?_; rw [HJS.out]; rintro e w8 ⟨rfl, h8⟩; have m1 := h8.chg.cell HCX.out (by simp); have m2 := h8.chg.cell HCY.out (by simp)))
        have H8 := Lib.hid h8
        clear h8 m1 m2 k1 k2
        go_wp2
        go_roundw
        case rel => exact ⟨k + 1, by omega, by go_num, by rw [HX.out]; exact H8.out⟩
        case measure => simp [intOf]; omega
      · simp only [if_true] at hjc
        have e1 : IntKind.i64.wrap ((n : Int) - 1) = (n : Int) - 1 := IntWalk.i64_in _ (by omega)
        have e2 : ((c : Int) == (n : Int) - 1) = true := by rw [beq_iff_eq]; omega
        have hn1 : n ≤ 2000 := by omega
        have hn2 : 1 ≤ n := by omega
        clear hjc
        go_wp2
        have hS0 : (fun w' : World => w'.cell? ⟨b, off + k * 3 + 1, none⟩ = some (.int .i64 a.x) ∧ w'.cell? ⟨b, off + k * 3 + 2, none⟩ = some (.int .i64 a.y)) w6.drew := ⟨k1, k2⟩
        refine wp_region_seq (fun w' : World => w'.cell? ⟨b, off + k * 3 + 1, none⟩ = some (.int .i64 a.x) ∧ w'.cell? ⟨b, off + k * 3 + 2, none⟩ = some (.int .i64 a.y)) [0, 1, 3, 4, 5, 6, 7, 8, 9, 10, 11, 13, 14, 15, 16, 17, 18, 19, 20, 21, 22, 23, 24, 25, 26, 27, 28, 30, 31] [0, 1, 3, 4, 2, 5, 6, 7, 8, 9, 10, 11, 13, 12, 14, 15, 16, 17, 18, 19, 20, 21, 22, 23, 24, 25, 26, 27, 28, 29, 30, 31] (by kernel_rfl) (by kernel_rfl) ?_
        simp only [pick, List.filterMap_cons, List.filterMap_nil, List.getElem?_toArray, List.getElem?_cons_zero, List.getElem?_cons_succ, Option.map_some]
        repeat
          first
            | (refine seqN_off (by rfl) (by rfl) (fun _ _ _ h => h) hS0 ?_; simp only [Act.put, List.setIfInBounds_toArray, List.set_cons_zero, List.set_cons_succ])
            | (refine seqN_read (v := ?_) (by rfl) (by rfl) (fun _ _ _ h => h) hS0 (fun w' hS' => ?_) ?_; rotate_left; (focus ((try dsimp only at hS'); go_simp; try with_reducible rfl)); simp only [Act.put, List.setIfInBounds_toArray, List.set_cons_zero, List.set_cons_succ])
            | (refine seqN_skip (by rfl) rfl (by rfl) hS0 ?_; simp only [Act.put, List.setIfInBounds_toArray, List.set_cons_zero, List.set_cons_succ])
        refine seqN_op (by rfl) rfl (by rfl) (fun K hK => ?_)
        go_simp
        refine (own_count (w := w) (s := u) H6.out.drew).mono ?_
        rw [HCU.out]
        rintro e w7 ⟨rfl, rfl⟩
        refine hK.out _ _ (fun _ => hS0) ?_
        clear hK K
        try simp only [Act.put, List.setIfInBounds_toArray, List.set_cons_zero, List.set_cons_succ]
        repeat
          first
            | (refine seqN_off (by rfl) (by rfl) (fun _ _ _ h => h) hS0 ?_; simp only [Act.put, List.setIfInBounds_toArray, List.set_cons_zero, List.set_cons_succ])
            | (refine seqN_read (v := ?_) (by rfl) (by rfl) (fun _ _ _ h => h) hS0 (fun w' hS' => ?_) ?_; rotate_left; (focus ((try dsimp only at hS'); go_simp; try with_reducible rfl)); simp only [Act.put, List.setIfInBounds_toArray, List.set_cons_zero, List.set_cons_succ])
            | (refine seqN_skip (by rfl) rfl (by rfl) hS0 ?_; simp only [Act.put, List.setIfInBounds_toArray, List.set_cons_zero, List.set_cons_succ])
        refine seqN_op (by rfl) rfl (by rfl) (fun K hK => ?_)
        go_simp
        refine (own_same (w := w) (s := u) hax hay H6.out.drew).mono ?_
        rw [HJS.out]
        rintro e w8 ⟨rfl, h8⟩
        have hS1 : (fun w' : World => w'.cell? ⟨b, off + k * 3 + 1, none⟩ = some (.int .i64 a.x) ∧ w'.cell? ⟨b, off + k * 3 + 2, none⟩ = some (.int .i64 a.y)) w8 := ⟨h8.chg.cell HCX.out (by simp), h8.chg.cell HCY.out (by simp)⟩
        refine hK.out _ _ (fun _ => hS1) ?_
        clear hK K
        try simp only [Act.put, List.setIfInBounds_toArray, List.set_cons_zero, List.set_cons_succ]
        repeat
          first
            | (refine seqN_off (by rfl) (by rfl) (fun _ _ _ h => h) hS1 ?_; simp only [Act.put, List.setIfInBounds_toArray, List.set_cons_zero, List.set_cons_succ])
            | (refine seqN_read (v := ?_) (by rfl) (by rfl) (fun _ _ _ h => h) hS1 (fun w' hS' => ?_) ?_; rotate_left; (focus ((try dsimp only at hS'); go_simp; try with_reducible rfl)); simp only [Act.put, List.setIfInBounds_toArray, List.set_cons_zero, List.set_cons_succ])
            | (refine seqN_skip (by rfl) rfl (by rfl) hS1 ?_; simp only [Act.put, List.setIfInBounds_toArray, List.set_cons_zero, List.set_cons_succ])
        refine seqN_nil ?_
        have H8 := Lib.hid h8
        clear h8 hS0 hS1 k1 k2
        go_wp2
        go_roundw
        case rel => exact ⟨k + 1, by omega, by go_num, by rw [HX.out]; exact H8.out⟩
        case measure => simp [intOf]; omega
    · have e : k = l.length := by omega
      subst e
      clear hsm hcell h2'
      generalize (St.new []).lawAll (l.take l.length) = s at *
      go_wp2_with fail
      refine (own_same hx hy h3).mono ?_
      rintro e w4 ⟨rfl, h4⟩
      go_wp2_with fail
      refine (own_same hy hx h4).mono ?_
      rintro e w5 ⟨rfl, h5⟩
      rw [St.same_comm s y x]
      generalize hp : s.same x y = p
      have HP := Lib.hid hp
      clear hp
      cases p
      · go_wp2_with fail
        refine (own_same hx hy h5).mono ?_
        rintro e w6 ⟨rfl, h6⟩
        rw [show s.same x y = false from HP.out]
        have HF := Lib.hid h6.chg
        clear h3 h4 h5 h6
        go_wp2
        go_ret
        exact ⟨rfl, HF.out⟩
      · go_wp2_with fail
        refine (own_same hx hy h5).mono ?_
        rintro e w6 ⟨rfl, h6⟩
        rw [show s.same x y = true from HP.out]
        go_wp2_with fail
        refine (own_same hy hz h6).mono ?_
        rintro e w7 ⟨rfl, h7⟩
        generalize hq : s.same y z = q
        have HQ := Lib.hid hq
        clear hq
        cases q
        · have HF := Lib.hid h7.chg
          clear h3 h4 h5 h6 h7
          go_wp2
          go_ret
          exact ⟨rfl, HF.out⟩
        · go_wp2_with fail
          refine (own_same hx hz h7).mono ?_
          rintro e w8 ⟨rfl, h8⟩
          rw [show s.same x z = true from St.same_trans HP.out HQ.out]
          have HF := Lib.hid h8.chg
          clear h3 h4 h5 h6 h7 h8
          go_wp2
          go_ret
          exact ⟨rfl, HF.out⟩

theorem setsJoin_any (v : Value) (l : List Act3) (x y z : Int) (w : World) (hx : I64 x) (hy : I64 y) (hz : I64 z) (h : ActsAt w v l) :
    Calls Try.prog 3 #[v, .int .i64 x, .int .i64 y, .int .i64 z] w fun e w' => e = .returned (.bool true) ∧ Chg [] w w' := by
  by_cases hn : l.length ≤ 100
  · exact joinlaw_few v l x y z w hn hx hy hz h
  · exact joinlaw_many v l x y z w (by omega) h

end Go.Proofs.Ytgepchafbeifeaa
