/- package ring: contracts of turned, First. Conditions: a list that lies in memory and reads so. -/
import Derived.Test.YtckjpaimbmlboaaGreatVRows2
import Derived.Maps.OwnRows
import Derived.Maps.GroupsBeside
namespace Go.Proofs.YtckjpaimbmlboaaGreat
open Go.RowKit Go.Maps
namespace Plain
def lst (l : List Int) : Nat → Nat
 | 0 => 0
 | k + 1 => if l.getD k 0 < l.getD (lst l k) 0 then k else lst l k
theorem lst_lt {l : List Int} (h : 0 < l.length) : ∀ k, k ≤ l.length → lst l k < l.length
 | 0, _ => h
 | k + 1, hk => by
  unfold lst
  split
  ·omega
  exact lst_lt h k (by omega)
theorem lst_le (l : List Int) : ∀ k, lst l k ≤ k
 | 0 => Nat.le_refl _
 | k + 1 => by
  unfold lst
  split
  ·omega
  have := lst_le l k; omega
def first (l : List Int) : List Int := l.drop (lst l l.length) ++ l.take (lst l l.length)
end Plain
theorem IntsAt.drop {w : World} {b off cap : Nat} {l : List Int} (hsm : ∀ x ∈ l, I64 x) (hm : l.length ≤ 9223372036854775807) (hc : ∀ i, i < l.length → w.cell? ⟨b, off + i, none⟩ = some (.int .i64 (l.getD i 0))) (i : Nat) : IntsAt w (.slice (some ⟨b, off + i, none⟩) (l.length - i) cap) (l.drop i) := by
 refine ⟨_, cap, by rw [List.length_drop], fun x hx => hsm x (List.mem_of_mem_drop hx), by rw [List.length_drop]; omega, fun _ => ⟨b, off + i, rfl, fun j hj => ?_⟩⟩
 rw [List.length_drop] at hj
 rw [Nat.add_assoc, hc (i + j) (by omega)]
 simp [List.getD]
theorem IntsAt.take {w : World} {b off cap : Nat} {l : List Int} (hsm : ∀ x ∈ l, I64 x) (hm : l.length ≤ 9223372036854775807) (hc : ∀ i, i < l.length → w.cell? ⟨b, off + i, none⟩ = some (.int .i64 (l.getD i 0))) {i : Nat} (hi : i ≤ l.length) : IntsAt w (.slice (some ⟨b, off, none⟩) i cap) (l.take i) := by
 have hl : (l.take i).length = i := by rw [List.length_take]; omega
 refine ⟨_, cap, by rw [hl], fun x hx => hsm x (List.mem_of_mem_take hx), by rw [hl]; omega, fun _ => ⟨b, off, rfl, fun j hj => ?_⟩⟩
 rw [hl] at hj
 rw [hc j (by omega)]
 simp [List.getD, hj]
theorem IntsAt.none_ (w : World) (ao : Option Addr) (c : Nat) : IntsAt w (.slice ao 0 c) [] := ⟨ao, c, rfl, by simp, by simp, by simp⟩
set_option maxRecDepth 100000 in
theorem turned_any (v : Value) (l : List Int) (i : Nat) (w : World) (hi : i ≤ l.length) (hn : l.length < 2147483648) (hcap : CapOk v) (h : IntsAt w v l) :
  Calls Tryz.prog 70 #[v, .int .i64 i] w fun e w' => ∃ v', e = .returned v' ∧ RowAt w' w.heap.size v' (l.drop i ++ l.take i) ∧ Chg [] w w' := by
 obtain ⟨ao, cap, rfl, hsm, hm, hcell⟩ := h
 obtain ⟨ao', n', cap', e, hlc, hcm⟩ := hcap
 simp only [Value.slice.injEq] at e
 obtain ⟨rfl, rfl, rfl⟩ := e
 have key : ∀ (u1 u2 : Value) (l1 l2 : List Int), Hid (∀ wx, Chg [] w wx → IntsAt wx u1 l1) → Hid (∀ wx, Chg [] w wx → IntsAt wx u2 l2) → Hid (l1.length + l2.length ≤ l.length) →
   ∀ (v1 : Value) (w1 : World), RowAt w1 w.heap.size v1 [] → Chg [] w w1 → Hid (∀ b ∈ foot v1, w.heap.size ≤ b) → True := fun _ _ _ _ _ _ _ _ _ _ _ _ => trivial
 clear key
 have fin : ∀ (b off : Nat), ao = some ⟨b, off, none⟩ → (∀ i, i < l.length → w.cell? ⟨b, off + i, none⟩ = some (.int .i64 (l.getD i 0))) → 0 < l.length →
   Calls Tryz.prog 70 #[.slice ao l.length cap, .int .i64 i] w fun e w' => ∃ v', e = .returned v' ∧ RowAt w' w.heap.size v' (l.drop i ++ l.take i) ∧ Chg [] w w' := by
  rintro b off rfl hc h0
  have HT := lh (fun wx (hx : Chg [] w wx) => (IntsAt.take (cap := i) hsm hm hc hi).fresh hx)
  have tok1 : True := trivial
  by_cases hic : i = cap
  ·obtain rfl : i = l.length := by omega
   obtain rfl : cap = l.length := hic.symm
   have HD := lh (fun wx => IntsAt.none_ wx (some ⟨b, off, none⟩) 0)
   have HLE := lh (show l.drop l.length ++ l.take l.length = [] ++ l.take l.length by rw [List.drop_length])
   rw [HLE.out]
   have HTL := lh (show (l.take l.length).length = l.length by simp)
   clear hsm hcell hc hic
   go_enter Tryz.func70, Tryz.ntmps70
   go_wp2_with (first
    | (at_make; refine wl_make0 rfl _ _ rfl (B := w.heap.size) (n := l.length) rfl rfl (Nat.le_refl _) (by omega) ?_; intro v1 w1 r1 hc1 f1; have R1 := lh r1; have C1 := lh hc1; have F1 := lh f1; clear r1 hc1 f1)
    | (at_builtin; have _t := tok1; refine wl_app_read rfl _ _ rfl (B := w.heap.size) rfl rfl R1.out (HD.out _) C1.out.size (by simp) ?_; intro v2 w2 r2 hc2 f2; clear tok1; have R2 := lh r2; have C2 := lh (C1.out.trans hc2 (fun j hj => Or.inr (F1.out j hj))); have F2 := lh (fun j hj => (f2 j hj).elim (F1.out j) (Nat.le_trans C1.out.size)); clear r2 hc2 f2)
    | (at_builtin; refine wl_app_read rfl _ _ rfl (B := w.heap.size) rfl rfl R2.out (HT.out _ C2.out) C2.out.size (by rw [HTL.out]; simp; omega) ?_; intro v3 w3 r3 hc3 f3; have R3 := lh r3; have C3 := lh (C2.out.trans hc3 (fun j hj => Or.inr (F2.out j hj))); clear r3 hc3 f3))
   go_ret
   exact ⟨_, rfl, R3.out, C3.out⟩
  have HD := lh (fun wx (hx : Chg [] w wx) => (IntsAt.drop (cap := cap - i) hsm hm hc i).fresh hx)
  have HDL := lh (show ([] : List Int).length + (l.drop i).length < 4294967296 by rw [List.length_drop]; simp; omega)
  have HTL := lh (show ([] ++ l.drop i).length + (l.take i).length < 4294967296 by rw [List.nil_append, List.length_drop, List.length_take]; omega)
  have HNE := lh (List.nil_append (l.drop i))
  clear hsm hcell hc
  go_enter Tryz.func70, Tryz.ntmps70
  go_wp2_with (first
   | (at_make; refine wl_make0 rfl _ _ rfl (B := w.heap.size) (n := l.length) rfl rfl (Nat.le_refl _) (by omega) ?_; intro v1 w1 r1 hc1 f1; have R1 := lh r1; have C1 := lh hc1; have F1 := lh f1; clear r1 hc1 f1)
   | (at_builtin; have _t := tok1; refine wl_app_read rfl _ _ rfl (B := w.heap.size) rfl rfl R1.out (HD.out _ C1.out) C1.out.size HDL.out ?_; intro v2 w2 r2 hc2 f2; clear tok1; have R2 := lh r2; have C2 := lh (C1.out.trans hc2 (fun j hj => Or.inr (F1.out j hj))); have F2 := lh (fun j hj => (f2 j hj).elim (F1.out j) (Nat.le_trans C1.out.size)); clear r2 hc2 f2)
   | (at_builtin; refine wl_app_read rfl _ _ rfl (B := w.heap.size) rfl rfl R2.out (HT.out _ C2.out) C2.out.size HTL.out ?_; intro v3 w3 r3 hc3 f3; have R3 := lh r3; have C3 := lh (C2.out.trans hc3 (fun j hj => Or.inr (F2.out j hj))); clear r3 hc3 f3))
  go_ret
  exact ⟨_, rfl, by have := R3.out; rwa [HNE.out] at this, C3.out⟩
 cases l with
 | cons x r =>
  obtain ⟨b, off, e, hc⟩ := hcell (by simp)
  exact fin b off e hc (by simp)
 | nil =>
  obtain rfl : i = 0 := by simpa using hi
  simp only [List.length_nil]
  clear fin hsm hcell hm hi hn hlc
  have tok1 : True := trivial
  by_cases hcz : cap = 0
  ·subst hcz
   go_enter Tryz.func70, Tryz.ntmps70
   go_wp2_with (first
    | (at_make; refine wl_make0 rfl _ _ rfl (B := w.heap.size) (n := 0) rfl rfl (Nat.le_refl _) (by omega) ?_; intro v1 w1 r1 hc1 f1; have R1 := lh r1; have C1 := lh hc1; have F1 := lh f1; clear r1 hc1 f1)
    | (at_builtin; have _t := tok1; refine wl_app_read rfl _ _ rfl (B := w.heap.size) rfl rfl R1.out (IntsAt.none_ _ _ _) C1.out.size (by simp) ?_; intro v2 w2 r2 hc2 f2; clear tok1; have R2 := lh r2; have C2 := lh (C1.out.trans hc2 (fun j hj => Or.inr (F1.out j hj))); have F2 := lh (fun j hj => (f2 j hj).elim (F1.out j) (Nat.le_trans C1.out.size)); clear r2 hc2 f2)
    | (at_builtin; refine wl_app_read rfl _ _ rfl (B := w.heap.size) rfl rfl R2.out (IntsAt.none_ _ _ _) C2.out.size (by simp) ?_; intro v3 w3 r3 hc3 f3; have R3 := lh r3; have C3 := lh (C2.out.trans hc3 (fun j hj => Or.inr (F2.out j hj))); clear r3 hc3 f3))
   go_ret
   exact ⟨_, rfl, by have := R3.out; simpa using this, C3.out⟩
  have hcz2 : ¬ (0 = cap) := fun e => hcz e.symm
  go_enter Tryz.func70, Tryz.ntmps70
  go_wp2_with (first
   | (at_make; refine wl_make0 rfl _ _ rfl (B := w.heap.size) (n := 0) rfl rfl (Nat.le_refl _) (by omega) ?_; intro v1 w1 r1 hc1 f1; have R1 := lh r1; have C1 := lh hc1; have F1 := lh f1; clear r1 hc1 f1)
   | (at_builtin; have _t := tok1; refine wl_app_read rfl _ _ rfl (B := w.heap.size) rfl rfl R1.out (IntsAt.none_ _ _ _) C1.out.size (by simp) ?_; intro v2 w2 r2 hc2 f2; clear tok1; have R2 := lh r2; have C2 := lh (C1.out.trans hc2 (fun j hj => Or.inr (F1.out j hj))); have F2 := lh (fun j hj => (f2 j hj).elim (F1.out j) (Nat.le_trans C1.out.size)); clear r2 hc2 f2)
   | (at_builtin; refine wl_app_read rfl _ _ rfl (B := w.heap.size) rfl rfl R2.out (IntsAt.none_ _ _ _) C2.out.size (by simp) ?_; intro v3 w3 r3 hc3 f3; have R3 := lh r3; have C3 := lh (C2.out.trans hc3 (fun j hj => Or.inr (F2.out j hj))); clear r3 hc3 f3))
  go_ret
  exact ⟨_, rfl, by have := R3.out; simpa using this, C3.out⟩
theorem first_any (v : Value) (l : List Int) (w : World) (hn : l.length < 2147483648) (hcap : CapOk v) (h : IntsAt w v l) :
  Calls Tryz.prog 35 #[v] w fun e w' => ∃ v', e = .returned v' ∧ RowAt w' w.heap.size v' (Plain.first l) ∧ Chg [] w w' := by
 have H := lh h
 have HCAP := lh hcap
 obtain ⟨ao, cap, rfl, hsm, hm, hcell⟩ := h
 have HCE := lh hcell
 clear hsm hcell hcap
 go_enter Tryz.func35, Tryz.ntmps35
 go_wp2
 go_loopw [3, 8] (fun m c wr => ∃ k : Nat, k ≤ l.length ∧ c = .int .i64 k ∧ m = .int .i64 (Plain.lst l k : Nat) ∧ Chg [] w wr) (fun _ c _ => l.length - (intOf c).toNat)
 case atStart => exact ⟨0, Nat.zero_le _, rfl, rfl, Chg.refl _ _⟩
 case round =>
  obtain ⟨k, hk, rfl, rfl, hc⟩ := hrel
  have HC := lh hc
  by_cases hlt : k < l.length
  ·obtain ⟨b, off, rfl, hfc⟩ := HCE.out (by intro e; rw [e] at hlt; simp at hlt)
   have hml := Plain.lst_lt (l := l) (by omega) k hk
   have c0 := hc.cell (hfc k hlt) (by simp)
   have c1 := hc.cell (hfc _ hml) (by simp)
   have HL := lh (show Plain.lst l (k + 1) = if l.getD k 0 < l.getD (Plain.lst l k) 0 then k else Plain.lst l k from rfl)
   clear hfc hc
   generalize Plain.lst l k = m at *
   generalize l.getD k 0 = x at *
   generalize l.getD m 0 = y at *
   by_cases hxy : x < y
   ·go_wp2
    go_roundw
    case rel => exact ⟨k + 1, by omega, by go_num, by rw [HL.out, if_pos hxy], HC.out⟩
    case measure => simp [intOf]; omega
   go_wp2
   go_roundw
   case rel => exact ⟨k + 1, by omega, by go_num, by rw [HL.out, if_neg hxy], HC.out⟩
   case measure => simp [intOf]; omega
  have e : k = l.length := by omega
  subst e
  have hle := Plain.lst_le l l.length
  clear hc
  go_wp2_with fail
  refine (turned_any _ l (Plain.lst l l.length) _ hle hn HCAP.out (H.out.fresh HC.out)).mono ?_
  rintro e w2 ⟨v', rfl, r2, hc2⟩
  have R2 := lh r2
  have C2 := lh hc2
  clear r2 hc2
  go_wp2
  go_ret
  exact ⟨_, rfl, R2.out.base HC.out.size, HC.out.trans C2.out (by simp)⟩
theorem dart_even (g : Plain.Gr) (e : Nat) : g.tail ((2 * e : Nat) : Int) = (g.ends e).1 ∧ g.head ((2 * e : Nat) : Int) = (g.ends e).2 := by
 unfold Plain.Gr.tail Plain.Gr.head Plain.Gr.at
 rw [if_pos (by omega), if_pos (by omega), show (((2 * e : Nat) : Int) / 2).toNat = e by omega]
 exact ⟨rfl, rfl⟩
theorem dart_odd (g : Plain.Gr) (e : Nat) : g.tail ((2 * e + 1 : Nat) : Int) = (g.ends e).2 ∧ g.head ((2 * e + 1 : Nat) : Int) = (g.ends e).1 := by
 unfold Plain.Gr.tail Plain.Gr.head Plain.Gr.at
 rw [if_neg (by omega), if_neg (by omega), show (((2 * e + 1 : Nat) : Int) / 2).toNat = e by omega]
 exact ⟨rfl, rfl⟩
theorem quo_even (e : Nat) : Int.tmod ((2 * e : Nat) : Int) 2 = 0 ∧ Int.tdiv ((2 * e : Nat) : Int) 2 = (e : Int) := by
 rw [Int.tmod_eq_emod_of_nonneg (by omega), Int.tdiv_eq_ediv_of_nonneg (by omega)]
 omega
theorem quo_odd (e : Nat) : Int.tmod ((2 * e + 1 : Nat) : Int) 2 = 1 ∧ Int.tdiv ((2 * e + 1 : Nat) : Int) 2 = (e : Int) := by
 rw [Int.tmod_eq_emod_of_nonneg (by omega), Int.tdiv_eq_ediv_of_nonneg (by omega)]
 omega
theorem target_any (v : Value) (g : Plain.Gr) (d : Nat) (w : World) (hd : d / 2 < g.e.length) (hm : g.e.length < 4294967296) (h : GrAt w v g) :
  Calls Tryz.prog 140 #[v, .int .i64 d] w fun e w' => e = .returned (.int .i64 (g.head d)) ∧ Chg [] w w' := by
 obtain ⟨eo, cap, rfl, -, -, -, hcell⟩ := h
 obtain ⟨b, off, rfl, hc0, hc1⟩ := hcell (d / 2) hd
 have HC1 := lh ((Chg.refl [] w).alloc (.cells #[.int .i64 g.n, .slice (some ⟨b, off, none⟩) g.e.length cap] 24))
 obtain ⟨e, he⟩ : ∃ e, d / 2 = e := ⟨_, rfl⟩
 rw [he] at hd hc0 hc1
 have c0 := fun o => cellNew hc0 o
 have c1 := fun o => cellNew hc1 o
 clear hcell hc0 hc1
 rcases (show d = 2 * e ∨ d = 2 * e + 1 by omega) with rfl | rfl
 ·obtain ⟨q1, q2⟩ := quo_even e
  have HE := lh (dart_even g e).2
  rw [HE.out]
  clear he
  generalize ((2 * e : Nat) : Int) = dd at *
  generalize (g.ends e).1 = x at *
  generalize (g.ends e).2 = y at *
  go_enter Tryz.func140, Tryz.ntmps140
  go_wp2
  go_ret
  exact ⟨rfl, HC1.out⟩
 obtain ⟨q1, q2⟩ := quo_odd e
 have HE := lh (dart_odd g e).2
 rw [HE.out]
 clear he
 generalize ((2 * e + 1 : Nat) : Int) = dd at *
 generalize (g.ends e).1 = x at *
 generalize (g.ends e).2 = y at *
 go_enter Tryz.func140, Tryz.ntmps140
 go_wp2
 go_ret
 exact ⟨rfl, HC1.out⟩
theorem leaves_any (v : Value) (g : Plain.Gr) (d : Nat) (w : World) (hd : d / 2 < g.e.length) (hm : g.e.length < 4294967296) (h : GrAt w v g) :
  Calls Tryz.prog 132 #[v, .int .i64 d] w fun e w' => e = .returned (.int .i64 (g.tail d)) ∧ Chg [] w w' := by
 obtain ⟨eo, cap, rfl, -, -, -, hcell⟩ := h
 obtain ⟨b, off, rfl, hc0, hc1⟩ := hcell (d / 2) hd
 have HC1 := lh ((Chg.refl [] w).alloc (.cells #[.int .i64 g.n, .slice (some ⟨b, off, none⟩) g.e.length cap] 24))
 obtain ⟨e, he⟩ : ∃ e, d / 2 = e := ⟨_, rfl⟩
 rw [he] at hd hc0 hc1
 have c0 := fun o => cellNew hc0 o
 have c1 := fun o => cellNew hc1 o
 clear hcell hc0 hc1
 rcases (show d = 2 * e ∨ d = 2 * e + 1 by omega) with rfl | rfl
 ·obtain ⟨q1, q2⟩ := quo_even e
  have HE := lh (dart_even g e).1
  rw [HE.out]
  clear he
  generalize ((2 * e : Nat) : Int) = dd at *
  generalize (g.ends e).1 = x at *
  generalize (g.ends e).2 = y at *
  go_enter Tryz.func132, Tryz.ntmps132
  go_wp2
  go_ret
  exact ⟨rfl, HC1.out⟩
 obtain ⟨q1, q2⟩ := quo_odd e
 have HE := lh (dart_odd g e).1
 rw [HE.out]
 clear he
 generalize ((2 * e + 1 : Nat) : Int) = dd at *
 generalize (g.ends e).1 = x at *
 generalize (g.ends e).2 = y at *
 go_enter Tryz.func132, Tryz.ntmps132
 go_wp2
 go_ret
 exact ⟨rfl, HC1.out⟩
theorem tail_any (v : Value) (g : Plain.Gr) (d : Nat) (w : World) (hd : d / 2 < g.e.length) (hm : g.e.length < 4294967296) (h : GrAt w v g) :
  Calls Tryz.prog 94 #[v, .int .i64 d] w fun e w' => e = .returned (.int .i64 (g.tail d)) ∧ Chg [] w w' := by
 obtain ⟨eo, cap, rfl, -, -, -, hcell⟩ := h
 obtain ⟨b, off, rfl, hc0, hc1⟩ := hcell (d / 2) hd
 have HC1 := lh ((Chg.refl [] w).alloc (.cells #[.int .i64 g.n, .slice (some ⟨b, off, none⟩) g.e.length cap] 24))
 obtain ⟨e, he⟩ : ∃ e, d / 2 = e := ⟨_, rfl⟩
 rw [he] at hd hc0 hc1
 have c0 := fun o => cellNew hc0 o
 have c1 := fun o => cellNew hc1 o
 clear hcell hc0 hc1
 rcases (show d = 2 * e ∨ d = 2 * e + 1 by omega) with rfl | rfl
 ·obtain ⟨q1, q2⟩ := quo_even e
  have HE := lh (dart_even g e).1
  rw [HE.out]
  clear he
  generalize ((2 * e : Nat) : Int) = dd at *
  generalize (g.ends e).1 = x at *
  generalize (g.ends e).2 = y at *
  go_enter Tryz.func94, Tryz.ntmps94
  go_wp2
  go_ret
  exact ⟨rfl, HC1.out⟩
 obtain ⟨q1, q2⟩ := quo_odd e
 have HE := lh (dart_odd g e).1
 rw [HE.out]
 clear he
 generalize ((2 * e + 1 : Nat) : Int) = dd at *
 generalize (g.ends e).1 = x at *
 generalize (g.ends e).2 = y at *
 go_enter Tryz.func94, Tryz.ntmps94
 go_wp2
 go_ret
 exact ⟨rfl, HC1.out⟩
theorem take_snoc_mem {l : List Int} {x : Int} {k : Nat} (hk : k < l.length) : x ∈ l.take (k + 1) ↔ x ∈ l.take k ∨ l.getD k 0 = x := by
 rw [List.take_succ_eq_append_getElem hk]
 simp only [List.mem_append, List.mem_singleton, List.getD, List.getElem?_eq_getElem hk, Option.getD_some]
 exact or_congr_right eq_comm
theorem in_any (v : Value) (l : List Int) (x : Int) (w : World) (h : IntsAt w v l) :
  Calls Tryz.prog 17 #[v, .int .i64 x] w fun e w' => e = .returned (.bool (decide (x ∈ l))) ∧ Chg [] w w' := by
 obtain ⟨ao, cap, rfl, hsm, hm, hcell⟩ := h
 have HCE := lh hcell
 clear hsm hcell
 go_enter Tryz.func17, Tryz.ntmps17
 go_wp2
 go_loopw [5] (fun c wr => ∃ k : Nat, k ≤ l.length ∧ c = .int .i64 k ∧ Chg [] w wr ∧ Hid (x ∉ l.take k)) (fun c _ => l.length - (intOf c).toNat)
 case atStart => exact ⟨0, Nat.zero_le _, rfl, Chg.refl _ _, lh (by simp)⟩
 case round =>
  obtain ⟨k, hk, rfl, hc, hall⟩ := hrel
  have HC := lh hc
  by_cases hlt : k < l.length
  ·obtain ⟨b, off, rfl, hfc⟩ := HCE.out (by intro e; rw [e] at hlt; simp at hlt)
   have c0 := hc.cell (hfc k hlt) (by simp)
   have HS := lh (take_snoc_mem (x := x) hlt)
   have HIN := lh (fun (e : l.getD k 0 = x) => (show x ∈ l from List.mem_of_mem_take ((take_snoc_mem (x := x) hlt).2 (Or.inr e))))
   clear hfc hc
   generalize l.getD k 0 = z at *
   by_cases h1 : z = x
   ·have HE := lh (decide_eq_true (HIN.out h1))
    subst h1
    go_wp2
    go_ret
    exact ⟨ret_bool HE.out.symm, HC.out⟩
   have h2 : (z == x) = false := by rw [beq_eq_false_iff_ne]; exact h1
   go_wp2
   go_roundw
   case rel => exact ⟨k + 1, by omega, by go_num, HC.out, lh (fun q => (HS.out.1 q).elim hall.out h1)⟩
   case measure => simp [intOf]; omega
  have e : k = l.length := by omega
  subst e
  have HE := lh (decide_eq_false (by have := hall.out; rwa [List.take_length] at this))
  go_wp2
  go_ret
  exact ⟨ret_bool HE.out.symm, HC.out⟩
end Go.Proofs.YtckjpaimbmlboaaGreat
namespace Go.Proofs.YtckjpaimbmlboaaGreat
open Go.RowKit Go.Maps Go.ChangeShapes
def SMap (w : World) (b n : Nat) (f : Int → List Int) : Prop :=
 ∃ D : DataW Unit, w.ownsGroups Tryz.prog 3 (b + 1) 3 .i64 b n D ∧
  ∀ x, I64 x → (f x = [] ∧ D.atKey (.int .i64 x) .nil = .nil) ∨ D.atKey (.int .i64 x) .nil = .slice (lits .i64 (f x)) []
theorem zeroRow (w : World) : (zeroValue 25).run Tryz.prog w = .ok (.slice none 0 0) w := by kernel_rfl
theorem SMap.made (w : World) : SMap (w.alloc (.map #[] 0)) w.heap.size 0 (fun _ => []) :=
 ⟨.map [], World.ownsGroups_made _ _ _ _ _, fun _ _ => Or.inl ⟨rfl, rfl⟩⟩
theorem SMap.lt {w : World} {b n : Nat} {f : Int → List Int} (h : SMap w b n f) : b < w.heap.size := by
 obtain ⟨D, ⟨es, clock, hb, -⟩, -⟩ := h
 exact (Array.getElem?_eq_some_iff.1 hb).1
theorem lits_inj {a c : List Int} (h : (lits .i64 a : List (DataW Unit)) = lits .i64 c) : a = c := by
 induction a generalizing c with
 | nil => cases c with
  | nil => rfl
  | cons _ _ => simp [lits] at h
 | cons x a ih => cases c with
  | nil => simp [lits] at h
  | cons y c =>
   simp only [lits, List.map_cons, List.cons.injEq] at h
   obtain ⟨h1, h2⟩ := h
   have : x = y := by simpa using h1
   rw [this, ih h2]
theorem SMap.list {w : World} {f : Int → List Int} {D : DataW Unit} {x : Int} {v : Value} {zs : List Int} {base : Nat} (h : (f x = [] ∧ D.atKey (.int .i64 x) .nil = .nil) ∨ D.atKey (.int .i64 x) .nil = .slice (lits .i64 (f x)) []) (hat : D.atKey (.int .i64 x) .nil = rowDatum .i64 v zs) (ho : w.ownsInts base 3 .i64 v zs) : zs = f x := by
 rcases ho.datum (H := Unit) with ⟨e, rfl⟩ | e
 ·rw [e] at hat
  rcases h with ⟨h1, _⟩ | h2
  ·exact h1.symm
  rw [hat] at h2; cases h2
 rw [e] at hat
 rcases h with ⟨_, h2⟩ | h2
 ·rw [hat] at h2; cases h2
 rw [hat] at h2
 simp only [DataW.slice.injEq, and_true] at h2
 exact lits_inj h2
def SBack (w : World) (b n : Nat) (f : Int → List Int) (k : Int) (v : Value) : Prop :=
 ∀ (w1 : World) (v' : Value) (x : Int), RowAt w1 (b + 1) v' (f k ++ [x]) → Chg (foot v) w w1 → (∀ j ∈ foot v', j ∈ foot v ∨ w.heap.size ≤ j) →
  ∃ w2, (Instr.mapUpdate 67 (.map (some b)) (.int .i64 k) v').run Tryz.prog w1 = .ok () w2 ∧ SMap w2 b (n + 1) (fun y => if y = k then f k ++ [x] else f y) ∧ Chg [b] w1 w2
theorem owns_row {w : World} {B : Nat} {v : Value} {l : List Int} (h : w.ownsInts B 3 .i64 v l) (hn : l.length < 4294967296) : RowAt w B v l := ⟨h.1, h.2, hn⟩
theorem row_owns {w : World} {B : Nat} {v : Value} {l : List Int} (h : RowAt w B v l) : w.ownsInts B 3 .i64 v l := ⟨h.1, h.2.1⟩
theorem SMap.look {w : World} {b n : Nat} {f : Int → List Int} (h : SMap w b n f) (hn : n < 4294967296) {k : Int} (hk : I64 k) :
  ∃ v, (Instr.lookup 67 (.map (some b)) (.int .i64 k) false).run Tryz.prog w = .ok v w ∧ RowAt w (b + 1) v (f k) ∧ (f k).length ≤ n ∧ SBack w b n f k v := by
 obtain ⟨D, ho, hD⟩ := h
 have hkey := keyOf_int_mk Tryz.underlying3 hk
 obtain ⟨v, zs, hr, hat, hoi, hzl, hback⟩ := ho.at keyedInt Tryz.underlying67 (zeroRow w) (by unfold maxLen; omega) hkey
 obtain rfl := SMap.list (hD k hk) hat hoi
 refine ⟨v, hr, owns_row hoi (by omega), hzl, fun w1 v' x hrow hc hf => ?_⟩
 have hfo : foot v = v.ownBlock.toList := (owns_row hoi (by omega)).foot
 have hfo' : foot v' = v'.ownBlock.toList := hrow.foot
 have hgr : w.grownBy w1 v.ownBlock := hc.grownBy (fun j hj => by rw [hfo] at hj; exact (show v.ownBlock = some j by simpa using hj).symm)
 obtain ⟨g, c, e⟩ := owns_some hrow.1 (by simp)
 have hloc : v'.ownBlock = v.ownBlock ∨ ∃ g, v'.ownBlock = some g ∧ w.heap.size ≤ g := by
  have hb : v'.ownBlock = some g := by rw [e]; rfl
  rcases hf g (by rw [hfo', hb]; simp) with q | q
  ·left
   rw [hfo] at q
   rw [hb]
   exact (show v.ownBlock = some g by simpa using q).symm
  exact Or.inr ⟨g, hb, q⟩
 obtain ⟨w2, hr2, h2, h3⟩ := hback w1 v' (f k ++ [x]) hgr (row_owns hrow) (by simp; omega) hloc
 refine ⟨w2, hr2, ⟨_, h2, fun y hy => ?_⟩, (Chg.refl _ _).grown h3 (fun j hj => by cases hj; exact Or.inl (by simp))⟩
 have hdat : (rowDatum .i64 v' (f k ++ [x]) : DataW Unit) = .slice (lits .i64 (f k ++ [x])) [] := (row_owns hrow).datum_pos (by simp)
 obtain ⟨es, clock, hbm, F, hs, hDe, -⟩ := ho
 by_cases e1 : y = k
 ·subst e1
  right
  rw [atKey_put_same ⟨_, hDe⟩ (keyedInt.key hkey), hdat]
  simp
 rw [atKey_put_other (litNe e1)]
 simp only [if_neg e1]
 exact hD y hy
section
variable {ops : Array Oper} {rest : List Oper} {o : Oper} {a : Act} {Q : Exit → Act → World → Prop} {w : World}
theorem wl_slook (hg : o.guard = none) (m x : Operand) (hop : o.op = Op.lookup 67 m x false) {b n : Nat} {f : Int → List Int} (h : SMap w b n f) (hn : n < 4294967296) (hm : a.eval m = .map (some b)) {k : Int} (hk : I64 k) (hx : a.eval x = .int .i64 k)
  (hK : ∀ v, RowAt w (b + 1) v (f k) → (f k).length ≤ n → SBack w b n f k v → wpList Tryz.prog ops Q rest (a.put o.dst v) w) : wpList Tryz.prog ops Q (o :: rest) a w := by
 refine wpList_plain hg fun K' hK' => ?_
 obtain ⟨v, hrun, r1, r2, r3⟩ := h.look hn hk
 unfold Oper.wp
 simp [execOp, hop, hm, hx, hrun, Result.andThen]
 exact hK' _ _ (hK v r1 r2 r3)
theorem wl_sback {w0 : World} (hg : o.guard = none) (m x u : Operand) (hop : o.op = Op.mapUpdate 67 m x u) {b n : Nat} {f : Int → List Int} {k z : Int} {v v' : Value} (hb : SBack w0 b n f k v) (hm : a.eval m = .map (some b)) (hx : a.eval x = .int .i64 k) (hu : a.eval u = v')
  (hrow : RowAt w (b + 1) v' (f k ++ [z])) (hc : Chg (foot v) w0 w) (hf : ∀ j ∈ foot v', j ∈ foot v ∨ w0.heap.size ≤ j)
  (hK : ∀ w2, SMap w2 b (n + 1) (fun y => if y = k then f k ++ [z] else f y) → Chg [b] w w2 → wpList Tryz.prog ops Q rest (a.put o.dst undef) w2) : wpList Tryz.prog ops Q (o :: rest) a w := by
 refine wpList_plain hg fun K' hK' => ?_
 obtain ⟨w2, hrun, r1, r2⟩ := hb w v' z hrow hc hf
 unfold Oper.wp
 simp [execOp, hop, hm, hx, hu, hrun, Result.andThen]
 exact hK' _ _ (hK w2 r1 r2)
end
end Go.Proofs.YtckjpaimbmlboaaGreat
