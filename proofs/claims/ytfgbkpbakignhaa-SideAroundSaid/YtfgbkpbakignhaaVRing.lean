/- package ring: contracts of turned, First. Conditions: a list that lies in memory and reads so. -/
import Derived.Test.YtfgbkpbakignhaaVBase
import Derived.Test.YtfgbkpbakignhaaVRow
namespace Go.Proofs.Ytfgbkpbakignhaa
open Go.RowKit Go.Maps

namespace Plain
/-- The place of the least of the first k things. -/
def lst (l : List Int) : Nat → Nat
  | 0 => 0
  | k + 1 => if l.getD k 0 < l.getD (lst l k) 0 then k else lst l k
theorem lst_lt {l : List Int} (h : 0 < l.length) : ∀ k, k ≤ l.length → lst l k < l.length
  | 0, _ => h
  | k + 1, hk => by
    unfold lst
    split
    · omega
    · exact lst_lt h k (by omega)
theorem lst_le (l : List Int) : ∀ k, lst l k ≤ k
  | 0 => Nat.le_refl _
  | k + 1 => by
    unfold lst
    split
    · omega
    · have := lst_le l k; omega
/-- A list, begun with its least number. -/
def first (l : List Int) : List Int := l.drop (lst l l.length) ++ l.take (lst l l.length)
end Plain

theorem IntsAt.drop {w : World} {b off cap : Nat} {l : List Int} (hsm : ∀ x ∈ l, I64 x) (hm : l.length ≤ 9223372036854775807) (hc : ∀ i, i < l.length → w.cell? ⟨b, off + i, none⟩ = some (.int .i64 (l.getD i 0))) (i : Nat) : IntsAt w (.slice (some ⟨b, off + i, none⟩) (l.length - i) cap) (l.drop i) := by
  refine ⟨_, cap, by rw [List.length_drop], fun x hx => hsm x (List.mem_of_mem_drop hx), by rw [List.length_drop]; omega, fun _ => ⟨b, off + i, rfl, fun j hj => ?_⟩⟩
  rw [List.length_drop] at hj
  rw [Nat.add_assoc, hc (i + j) (by omega)]
  simp [List.getD]

theorem IntsAt.take {w : World} {b off cap : Nat} {l : List Int} (hsm : ∀ x ∈ l, I64 x) (hm : l.length ≤ 9223372036854775807) (hc : ∀ i, i < l.length → w.cell? ⟨b, off + i, none⟩ = some (.int .i64 (l.getD i 0))) {i : Nat} (hi : i ≤ l.length) : IntsAt w (.slice (some ⟨b, off, none⟩) i cap) (l.take i) := by
  have hl : (l.take i).length = i := by rw [List.length_take]; omega
  refine ⟨_, cap, by rw [hl], fun x hx => hsm x (List.mem_of_mem_take hx), by rw [hl]; omega, fun _ => ⟨b, off, rfl, fun j hj => ?_⟩⟩
  rw [hl] at hj
  rw [hc j (by omega)]
  simp [List.getD, hj]

theorem IntsAt.none_ (w : World) (ao : Option Addr) (c : Nat) : IntsAt w (.slice ao 0 c) [] := ⟨ao, c, rfl, by simp, by simp, by simp⟩

set_option maxRecDepth 100000 in
theorem turned_any (v : Value) (l : List Int) (i : Nat) (w : World) (hi : i ≤ l.length) (hn : l.length < 2147483648) (hcap : CapOk v) (h : IntsAt w v l) :
    Calls Try.prog 64 #[v, .int .i64 i] w fun e w' => ∃ v', e = .returned v' ∧ RowAt w' w.heap.size v' (l.drop i ++ l.take i) ∧ Chg [] w w' := by
  obtain ⟨ao, cap, rfl, hsm, hm, hcell⟩ := h
  obtain ⟨ao', n', cap', e, hlc, hcm⟩ := hcap
  simp only [Value.slice.injEq] at e
  obtain ⟨rfl, rfl, rfl⟩ := e
  have key : ∀ (u1 u2 : Value) (l1 l2 : List Int), Hid (∀ wx, Chg [] w wx → IntsAt wx u1 l1) → Hid (∀ wx, Chg [] w wx → IntsAt wx u2 l2) → Hid (l1.length + l2.length ≤ l.length) →
      ∀ (v1 : Value) (w1 : World), RowAt w1 w.heap.size v1 [] → Chg [] w w1 → Hid (∀ b ∈ foot v1, w.heap.size ≤ b) → True := fun _ _ _ _ _ _ _ _ _ _ _ _ => trivial
  clear key
  have fin : ∀ (b off : Nat), ao = some ⟨b, off, none⟩ → (∀ i, i < l.length → w.cell? ⟨b, off + i, none⟩ = some (.int .i64 (l.getD i 0))) → 0 < l.length →
      Calls Try.prog 64 #[.slice ao l.length cap, .int .i64 i] w fun e w' => ∃ v', e = .returned v' ∧ RowAt w' w.heap.size v' (l.drop i ++ l.take i) ∧ Chg [] w w' := by
    rintro b off rfl hc h0
    have HT := Lib.hid (fun wx (hx : Chg [] w wx) => (IntsAt.take (cap := i) hsm hm hc hi).fresh hx)
    have tok1 : True := trivial
    by_cases hic : i = cap
    · obtain rfl : i = l.length := by omega
      obtain rfl : cap = l.length := hic.symm
      have HD := Lib.hid (fun wx => IntsAt.none_ wx (some ⟨b, off, none⟩) 0)
      have HLE := Lib.hid (show l.drop l.length ++ l.take l.length = [] ++ l.take l.length by rw [List.drop_length])
      rw [HLE.out]
      have HTL := Lib.hid (show (l.take l.length).length = l.length by simp)
      clear hsm hcell hc hic
      go_enter Try.func64, Try.ntmps64
      go_wp2_with (first
        | (at_make; refine wl_make0 rfl _ _ rfl (B := w.heap.size) (n := l.length) rfl rfl (Nat.le_refl _) (by omega) ?_; intro v1 w1 r1 hc1 f1; have R1 := Lib.hid r1; have C1 := Lib.hid hc1; have F1 := Lib.hid f1; clear r1 hc1 f1)
        | (at_builtin; have _t := tok1; refine wl_app_read rfl _ _ rfl (B := w.heap.size) rfl rfl R1.out (HD.out _) C1.out.size (by simp) ?_; intro v2 w2 r2 hc2 f2; clear tok1; have R2 := Lib.hid r2; have C2 := Lib.hid (C1.out.trans hc2 (fun j hj => Or.inr (F1.out j hj))); have F2 := Lib.hid (fun j hj => (f2 j hj).elim (F1.out j) (Nat.le_trans C1.out.size)); clear r2 hc2 f2)
        | (at_builtin; refine wl_app_read rfl _ _ rfl (B := w.heap.size) rfl rfl R2.out (HT.out _ C2.out) C2.out.size (by rw [HTL.out]; simp; omega) ?_; intro v3 w3 r3 hc3 f3; have R3 := Lib.hid r3; have C3 := Lib.hid (C2.out.trans hc3 (fun j hj => Or.inr (F2.out j hj))); clear r3 hc3 f3))
      go_ret
      exact ⟨_, rfl, R3.out, C3.out⟩
    · have HD := Lib.hid (fun wx (hx : Chg [] w wx) => (IntsAt.drop (cap := cap - i) hsm hm hc i).fresh hx)
      have HDL := Lib.hid (show ([] : List Int).length + (l.drop i).length < 4294967296 by rw [List.length_drop]; simp; omega)
      have HTL := Lib.hid (show ([] ++ l.drop i).length + (l.take i).length < 4294967296 by rw [List.nil_append, List.length_drop, List.length_take]; omega)
      have HNE := Lib.hid (List.nil_append (l.drop i))
      clear hsm hcell hc
      go_enter Try.func64, Try.ntmps64
      go_wp2_with (first
        | (at_make; refine wl_make0 rfl _ _ rfl (B := w.heap.size) (n := l.length) rfl rfl (Nat.le_refl _) (by omega) ?_; intro v1 w1 r1 hc1 f1; have R1 := Lib.hid r1; have C1 := Lib.hid hc1; have F1 := Lib.hid f1; clear r1 hc1 f1)
        | (at_builtin; have _t := tok1; refine wl_app_read rfl _ _ rfl (B := w.heap.size) rfl rfl R1.out (HD.out _ C1.out) C1.out.size HDL.out ?_; intro v2 w2 r2 hc2 f2; clear tok1; have R2 := Lib.hid r2; have C2 := Lib.hid (C1.out.trans hc2 (fun j hj => Or.inr (F1.out j hj))); have F2 := Lib.hid (fun j hj => (f2 j hj).elim (F1.out j) (Nat.le_trans C1.out.size)); clear r2 hc2 f2)
        | (at_builtin; refine wl_app_read rfl _ _ rfl (B := w.heap.size) rfl rfl R2.out (HT.out _ C2.out) C2.out.size HTL.out ?_; intro v3 w3 r3 hc3 f3; have R3 := Lib.hid r3; have C3 := Lib.hid (C2.out.trans hc3 (fun j hj => Or.inr (F2.out j hj))); clear r3 hc3 f3))
      go_ret
      exact ⟨_, rfl, by have := R3.out; rwa [HNE.out] at this, C3.out⟩
  cases l with
  | cons x r =>
    obtain ⟨b, off, e, hc⟩ := hcell (by simp)
    exact fin b off e hc (by simp)
  | nil =>
    obtain rfl : i = 0 := by simpa using hi
    simp only [List.length_nil]
    clear fin hsm hcell hm hi hn hlc
    have tok1 : True := trivial
    by_cases hcz : cap = 0
    · subst hcz
      go_enter Try.func64, Try.ntmps64
      go_wp2_with (first
        | (at_make; refine wl_make0 rfl _ _ rfl (B := w.heap.size) (n := 0) rfl rfl (Nat.le_refl _) (by omega) ?_; intro v1 w1 r1 hc1 f1; have R1 := Lib.hid r1; have C1 := Lib.hid hc1; have F1 := Lib.hid f1; clear r1 hc1 f1)
        | (at_builtin; have _t := tok1; refine wl_app_read rfl _ _ rfl (B := w.heap.size) rfl rfl R1.out (IntsAt.none_ _ _ _) C1.out.size (by simp) ?_; intro v2 w2 r2 hc2 f2; clear tok1; have R2 := Lib.hid r2; have C2 := Lib.hid (C1.out.trans hc2 (fun j hj => Or.inr (F1.out j hj))); have F2 := Lib.hid (fun j hj => (f2 j hj).elim (F1.out j) (Nat.le_trans C1.out.size)); clear r2 hc2 f2)
        | (at_builtin; refine wl_app_read rfl _ _ rfl (B := w.heap.size) rfl rfl R2.out (IntsAt.none_ _ _ _) C2.out.size (by simp) ?_; intro v3 w3 r3 hc3 f3; have R3 := Lib.hid r3; have C3 := Lib.hid (C2.out.trans hc3 (fun j hj => Or.inr (F2.out j hj))); clear r3 hc3 f3))
      go_ret
      exact ⟨_, rfl, by have := R3.out; simpa using this, C3.out⟩
    · have hcz2 : ¬ (0 = cap) := fun e => hcz e.symm
      go_enter Try.func64, Try.ntmps64
      go_wp2_with (first
        | (at_make; refine wl_make0 rfl _ _ rfl (B := w.heap.size) (n := 0) rfl rfl (Nat.le_refl _) (by omega) ?_; intro v1 w1 r1 hc1 f1; have R1 := Lib.hid r1; have C1 := Lib.hid hc1; have F1 := Lib.hid f1; clear r1 hc1 f1)
        | (at_builtin; have _t := tok1; refine wl_app_read rfl _ _ rfl (B := w.heap.size) rfl rfl R1.out (IntsAt.none_ _ _ _) C1.out.size (by simp) ?_; intro v2 w2 r2 hc2 f2; clear tok1; have R2 := Lib.hid r2; have C2 := Lib.hid (C1.out.trans hc2 (fun j hj => Or.inr (F1.out j hj))); have F2 := Lib.hid (fun j hj => (f2 j hj).elim (F1.out j) (Nat.le_trans C1.out.size)); clear r2 hc2 f2)
        | (at_builtin; refine wl_app_read rfl _ _ rfl (B := w.heap.size) rfl rfl R2.out (IntsAt.none_ _ _ _) C2.out.size (by simp) ?_; intro v3 w3 r3 hc3 f3; have R3 := Lib.hid r3; have C3 := Lib.hid (C2.out.trans hc3 (fun j hj => Or.inr (F2.out j hj))); clear r3 hc3 f3))
      go_ret
      exact ⟨_, rfl, by have := R3.out; simpa using this, C3.out⟩

/-- A list begun with its least number. -/
theorem first_any (v : Value) (l : List Int) (w : World) (hn : l.length < 2147483648) (hcap : CapOk v) (h : IntsAt w v l) :
    Calls Try.prog 59 #[v] w fun e w' => ∃ v', e = .returned v' ∧ RowAt w' w.heap.size v' (Plain.first l) ∧ Chg [] w w' := by
  have H := Lib.hid h
  have HCAP := Lib.hid hcap
  obtain ⟨ao, cap, rfl, hsm, hm, hcell⟩ := h
  have HCE := Lib.hid hcell
  clear hsm hcell hcap
  go_enter Try.func59, Try.ntmps59
  go_wp2
  go_loopw [3, 8] (fun m c wr => ∃ k : Nat, k ≤ l.length ∧ c = .int .i64 k ∧ m = .int .i64 (Plain.lst l k : Nat) ∧ Chg [] w wr) (fun _ c _ => l.length - (intOf c).toNat)
  case atStart => exact ⟨0, Nat.zero_le _, rfl, rfl, Chg.refl _ _⟩
  case round =>
    obtain ⟨k, hk, rfl, rfl, hc⟩ := hrel
    have HC := Lib.hid hc
    by_cases hlt : k < l.length
    · obtain ⟨b, off, rfl, hfc⟩ := HCE.out (by intro e; rw [e] at hlt; simp at hlt)
      have hml := Plain.lst_lt (l := l) (by omega) k hk
      have c0 := hc.cell (hfc k hlt) (by simp)
      have c1 := hc.cell (hfc _ hml) (by simp)
      have HL := Lib.hid (show Plain.lst l (k + 1) = if l.getD k 0 < l.getD (Plain.lst l k) 0 then k else Plain.lst l k from rfl)
      clear hfc hc
      generalize Plain.lst l k = m at *
      generalize l.getD k 0 = x at *
      generalize l.getD m 0 = y at *
      by_cases hxy : x < y
      · go_wp2
        go_roundw
        case rel => exact ⟨k + 1, by omega, by go_num, by rw [HL.out, if_pos hxy], HC.out⟩
        case measure => simp [intOf]; omega
      · go_wp2
        go_roundw
        case rel => exact ⟨k + 1, by omega, by go_num, by rw [HL.out, if_neg hxy], HC.out⟩
        case measure => simp [intOf]; omega
    · have e : k = l.length := by omega
      subst e
      have hle := Plain.lst_le l l.length
      clear hc
      go_wp2_with fail
      refine (turned_any _ l (Plain.lst l l.length) _ hle hn HCAP.out (H.out.fresh HC.out)).mono ?_
      rintro e w2 ⟨v', rfl, r2, hc2⟩
      have R2 := Lib.hid r2
      have C2 := Lib.hid hc2
      clear r2 hc2
      go_wp2
      go_ret
      exact ⟨_, rfl, R2.out.base HC.out.size, HC.out.trans C2.out (by simp)⟩

end Go.Proofs.Ytfgbkpbakignhaa
/- package rota: turns as they lie in memory; the contract of beside. Conditions: turns that lie in memory and read so. -/
namespace Go.Proofs.Ytfgbkpbakignhaa
open Go.RowKit Go.Maps

/-- A Rota at rb: its turns T, the vertex that a dart leaves, its place in its turn, all darts. -/
structure RotaAt (w : World) (rb : Nat) (T : List (List Int)) (lv pl : Int → Option Int) (ds : List Int) (vt vd : Value) (lb pb n m : Nat) : Prop where
  cells : w.heap[rb]? = some (.cells #[vt, .map (some lb), .map (some pb), vd] 92 (0, 0))
  turn : RowsAt w vt T
  leaves : IMap w lb n lv
  place : IMap w pb m pl
  darts : IntsAt w vd ds

theorem beside_none (rb : Nat) (T : List (List Int)) (lv pl : Int → Option Int) (ds : List Int) (vt vd : Value) (lb pb n m : Nat) (d step : Int) (w : World) (hd : I64 d) (hl : lv d = none) (h : RotaAt w rb T lv pl ds vt vd lb pb n m) :
    Calls Try.prog 50 #[.pointer (some ⟨rb, 0, none⟩), .int .i64 d, .int .i64 step] w fun e w' => e = .returned (.tuple #[.int .i64 0, .bool false]) ∧ w = w' := by
  have c1 := (cell_of_row _ _ 1 _ _ _ h.cells).trans (show _ = some (Value.map (some lb)) from rfl)
  have HL := Lib.hid hl
  have HM := Lib.hid h.leaves
  clear hl h
  go_enter Try.func50, Try.ntmps50
  go_wp2_with (at_lookup; refine wp_look_miss _ rfl _ _ rfl HM.out rfl hd rfl HL ?_)
  exact bodyPost_ret (v := .tuple #[.int .i64 0, .bool false]) (by simp [results, Try.results50, go_sem]) rfl ⟨rfl, rfl⟩

theorem beside_some (rb : Nat) (T : List (List Int)) (lv pl : Int → Option Int) (ds : List Int) (vt vd : Value) (lb pb n m : Nat) (d step : Int) (v i j : Nat) (w : World) (hd : I64 d) (hl : lv d = some (v : Int)) (hp : pl d = some (i : Int)) (hv : v < T.length) (_hT : T.length < 4294967296) (hi : i < (T.getD v []).length) (hlen : (T.getD v []).length < 4294967296)
    (hs : -1 ≤ step ∧ step ≤ 1) (hj : Int.tmod ((i : Int) + step + ((T.getD v []).length : Int)) ((T.getD v []).length : Int) = (j : Int)) (hjl : j < (T.getD v []).length) (h : RotaAt w rb T lv pl ds vt vd lb pb n m) :
    Calls Try.prog 50 #[.pointer (some ⟨rb, 0, none⟩), .int .i64 d, .int .i64 step] w fun e w' => e = .returned (.tuple #[.int .i64 ((T.getD v []).getD j 0), .bool true]) ∧ w = w' := by
  obtain ⟨tto, tc, rfl, -, htc⟩ := h.turn
  obtain ⟨tb, toff, u, rfl, hu, -, hints⟩ := htc v hv
  obtain ⟨uo, uc, rfl, -, -, huc⟩ := hints
  obtain ⟨ub, uoff, rfl, hcell⟩ := huc (by intro e; rw [e] at hi; simp at hi)
  have cj := hcell j hjl
  have c0 := (cell_of_row _ _ 0 _ _ _ h.cells).trans (show _ = some (Value.slice (some ⟨tb, toff, none⟩) T.length tc) from rfl)
  have c1 := (cell_of_row _ _ 1 _ _ _ h.cells).trans (show _ = some (Value.map (some lb)) from rfl)
  have c2 := (cell_of_row _ _ 2 _ _ _ h.cells).trans (show _ = some (Value.map (some pb)) from rfl)
  have HL := Lib.hid hl
  have HP := Lib.hid (show (pl d).getD 0 = (i : Int) by rw [hp]; rfl)
  have HM := Lib.hid h.leaves
  have HQ := Lib.hid h.place
  clear hl hp h htc huc hcell
  generalize (T.getD v []).getD j 0 = z at *
  generalize (T.getD v []).length = len at *
  have hz : ((len : Int) == 0) = false := by rw [beq_eq_false_iff_ne]; omega
  have tok1 : True := trivial
  go_enter Try.func50, Try.ntmps50
  go_wp2_with (first
    | (at_lookup; have _t := tok1; refine wp_look_hit _ rfl _ _ rfl HM.out rfl hd rfl HL ?_; clear tok1)
    | (at_lookup; refine wp_look _ rfl _ _ rfl HQ.out rfl hd rfl HP ?_))
  exact bodyPost_ret (v := .tuple #[.int .i64 z, .bool true]) (by simp [results, Try.results50, go_sem]) rfl ⟨rfl, rfl⟩

end Go.Proofs.Ytfgbkpbakignhaa
/- map[int]int of a call's own whose number of entries is known: new keys, 'm[a], m[b] = x, y', len. Conditions: what each law says. -/
namespace Go.Proofs.Ytfgbkpbakignhaa
open Go.RowKit Go.Maps

/-- Block b is a map of just n entries; at x it holds f x. -/
def NMap (w : World) (b n : Nat) (f : Int → Option Int) : Prop :=
  ∃ D : DataW Unit, w.ownsMap Try.prog 3 (plainElem Try.prog 3) b n D ∧ Maps.size D = n ∧
    ∀ x, I64 x → Maps.has D (.int .i64 x) = (f x).isSome ∧ D.atKey (.int .i64 x) (.lit (.int .i64 0)) = .lit (.int .i64 ((f x).getD 0))

theorem NMap.imap {w : World} {b n : Nat} {f : Int → Option Int} (h : NMap w b n f) : IMap w b n f := by obtain ⟨D, h1, _, h2⟩ := h; exact ⟨D, h1, h2⟩

theorem NMap.made (w : World) : NMap (w.alloc (.map #[] 0)) w.heap.size 0 (fun _ => none) :=
  ⟨.map [], World.ownsMap_made _ _ _ _, rfl, fun _ _ => ⟨rfl, rfl⟩⟩

theorem NMap.chg {w w' : World} {own : List Nat} {b n : Nat} {f : Int → Option Int} (h : NMap w b n f) (hc : Chg own w w') (hb : b ∉ own) : NMap w' b n f := by
  obtain ⟨D, ⟨es, clock, he, r⟩, g⟩ := h
  exact ⟨D, ⟨es, clock, hc.heap he hb, r⟩, g⟩

theorem NMap.lt {w : World} {b n : Nat} {f : Int → Option Int} (h : NMap w b n f) : b < w.heap.size := h.imap.lt

theorem run_makeMap_hint {t k e : TypeId} (ht : Try.prog.underlying t = some (.map k e)) (n : Int) (w : World) : (Instr.makeMap t (some (.int .i64 n))).run Try.prog w = .ok (.map (some w.heap.size)) (w.alloc (.map #[] 0)) := by
  simp [Instr.makeMap, run_underlying ht, asInt, asIntOf, Result.andThen]

/-- A key that is not there: not found. -/
theorem notFound {P : Program} {k : TypeId} (K : Keyed P k) {R : Value → Option (DataW Unit × List MemPlace)} {es : Array MapEntry} {clock : Nat} (F : WideElems.Fit P k R es clock) {key : Value} {kl : Lit} (hkey : keyOf P k key = some kl)
    (hh : Maps.has (.map ((es.toList.map (WideElems.rg P k R)).foldr DataW.insert [])) kl = false) (w : World) : (Instr.findKey k key es.toList).run P w = .ok none w ∧ ∀ e ∈ es.toList, e.key ≠ key := by
  rcases K.find w hkey es.toList F.keys with h | ⟨j, e0, h1, h2, h3⟩
  · exact h
  · exfalso
    have hf := filter_one K F hkey h2 h3
    have hj : j < es.toList.length := (List.getElem?_eq_some_iff.1 h2).1
    rw [has_eq] at hh
    have hp := Go.WideShapes.sorted_perm (es.toList.map (WideElems.rg P k R))
    have h0 : ∀ p ∈ es.toList.map (WideElems.rg P k R), p.1.sameKey kl = false := fun p hp' => by
      have := List.any_eq_false.1 hh p (hp.mem_iff.2 hp')
      simpa using this
    have e1 : (es.toList.map (WideElems.rg P k R)).filter (ChangeMaps.notKey kl) = es.toList.map (WideElems.rg P k R) := List.filter_eq_self.2 fun p hp' => by
      unfold ChangeMaps.notKey
      rw [h0 p hp']
      rfl
    rw [e1] at hf
    have := congrArg List.length hf
    rw [List.length_eraseIdx, if_pos (by simpa using hj)] at this
    simp at this hj
    omega

section
variable {w : World} {b n : Nat} {f : Int → Option Int}

theorem NMap.put (h : NMap w b n f) (hn : n < maxLen) {k v : Int} (hk : I64 k) (hv : I64 v) (hf : f k = none) :
    ∃ w2, (Instr.mapUpdate 33 (.map (some b)) (.int .i64 k) (.int .i64 v)).run Try.prog w = .ok () w2 ∧ NMap w2 b (n + 1) (fun y => if y = k then some v else f y) ∧ Chg [b] w w2 := by
  obtain ⟨D, ho, hs, hD⟩ := h
  have hkey := keyOf_int_mk Try.underlying3 hk
  obtain ⟨w2, h1, h2, h3⟩ := ho.update keyedInt Try.underlying33 hn hkey (plainElem_int Try.underlying3 hv)
  refine ⟨w2, h1, ⟨_, h2, ?_, fun y hy => ?_⟩, (Chg.refl _ _).grown h3 (fun j hj => by cases hj; exact Or.inl (by simp))⟩
  · rw [size_put (ho.tidy keyedInt), (hD k hk).1, hf, hs]
    rfl
  · by_cases e : y = k
    · subst e
      have hkl := keyedInt.key hkey
      rw [has_put_same ho.isMap hkl, atKey_put_same ho.isMap hkl]
      simp
    · rw [has_put_other (litNe e), atKey_put_other (litNe e)]
      simp only [if_neg e]
      exact hD y hy

/-- 'm[k] = v' in two steps: the entry, then its value. -/
theorem NMap.entry (h : NMap w b n f) (hn : n < maxLen) {k v : Int} (hk : I64 k) (hv : I64 v) (hf : f k = none) :
    ∃ st w1 w2, (Instr.mapEntry 33 (.map (some b)) (.int .i64 k)).run Try.prog w = .ok (.tuple #[.int .i64 0, .int .i64 st]) w1 ∧ Chg [b] w w1 ∧
      (Instr.entryStore 33 (.map (some b)) (.int .i64 st) (.int .i64 v)).run Try.prog w1 = .ok () w2 ∧ NMap w2 b (n + 1) (fun y => if y = k then some v else f y) ∧ Chg [b] w w2 := by
  obtain ⟨w2, h1, h2, h3⟩ := h.put hn hk hv hf
  obtain ⟨D, ⟨es, clock, hb, F, hsz, rfl⟩, hs, hD⟩ := h
  have hkey := keyOf_int_mk Try.underlying3 hk
  obtain ⟨g1, g2⟩ := notFound keyedInt F hkey (by rw [(hD k hk).1, hf]; rfl) w
  have hu := Try.underlying33
  simp only [Instr.mapUpdate, Sem.run_bind, run_underlying hu, MapKept.run_getObj_map hb, keyedInt.check w false hkey, g1, MapKept.run_setObj_map _ hb, Result.andThen] at h1
  have e2 : w2 = ChangeMaps.setBlock w b (.map (es.push ⟨.int .i64 k, .int .i64 v, clock⟩) (clock + 1)) := by
    simp [ChangeMaps.setBlock] at h1 ⊢
    exact h1.symm
  have hb1 := ChangeMaps.heap_setBlock_same hb (.map (es.push ⟨.int .i64 k, .int .i64 0, clock⟩) (clock + 1))
  refine ⟨clock, ChangeMaps.setBlock w b (.map (es.push ⟨.int .i64 k, .int .i64 0, clock⟩) (clock + 1)), w2, ?_, ⟨rfl, rfl, rfl, by simp [ChangeMaps.setBlock], fun i _ hi => ChangeMaps.heap_setBlock_other hb _ (fun e => hi (by simp [e]))⟩, ?_, h2, h3⟩
  · simp [Instr.mapEntry, run_underlying hu, MapKept.run_getObj_map hb, keyedInt.check w false hkey, g1, MapKept.run_setObj_map _ hb, Result.andThen, ChangeMaps.setBlock, goInt]
  · have hidx : (es.push ⟨.int .i64 k, .int .i64 0, clock⟩).findIdx? (fun e => (e.born : Int) == (clock : Int)) = some es.size := by
      rw [Array.findIdx?_eq_some_iff_getElem]
      refine ⟨by simp, by simp, fun j hj => ?_⟩
      rw [Array.getElem_push_lt hj]
      have := F.stamped.1 es[j] (by simp)
      simp
      omega
    have hmod : (es.push ⟨.int .i64 k, .int .i64 0, clock⟩).modify es.size (fun e => { e with val := .int .i64 v }) = es.push ⟨.int .i64 k, .int .i64 v, clock⟩ := by
      apply Array.ext
      · simp
      · intro i h1 h2
        simp only [Array.getElem_modify, Array.getElem_push]
        split <;> split <;> simp_all <;> omega
    simp only [Instr.entryStore, Sem.run_bind, MapKept.run_getObj_map hb1, Result.andThen, asInt, asIntOf, Sem.run_pure, hidx, MapKept.run_setObj_map _ hb1, hmod, e2]
    simp [ChangeMaps.setBlock]

theorem NMap.len (h : NMap w b n f) (ty : TypeId) : (Builtin.len_ #[33] ty #[.map (some b)]).run Try.prog w = .ok (.int .i64 n) w := by
  obtain ⟨D, ho, hs, -⟩ := h
  rw [ho.len Try.underlying33 ty, hs]
end

section
variable (w : World) {ops : Array Oper} {rest : List Oper} {o : Oper} {a : Act} {Q : Exit → Act → World → Prop} {K : Act → World → Prop}

/-- 'm[k] = v', the key not there. -/
theorem wp_nstore (hg : o.guard = none) (m x u : Operand) (hop : o.op = Op.mapUpdate 33 m x u) {b n : Nat} {f : Int → Option Int} (h : NMap w b n f) (hn : n < maxLen) (hm : a.eval m = .map (some b))
    {k v : Int} (hk : I64 k) (hv : I64 v) (hf : f k = none) (hx : a.eval x = .int .i64 k) (hu : a.eval u = .int .i64 v)
    (hK : ∀ w', NMap w' b (n + 1) (fun y => if y = k then some v else f y) → Chg [b] w w' → wpList Try.prog ops Q rest (a.put o.dst undef) w') : wpList Try.prog ops Q (o :: rest) a w := by
  refine wpList_plain hg fun K' hK' => ?_
  obtain ⟨w2, hrun, r1, r2⟩ := h.put hn hk hv hf
  unfold Oper.wp
  simp [execOp, hop, hm, hx, hu, hrun, Result.andThen]
  exact hK' _ _ (hK w2 r1 r2)

/-- 'len(m)'. -/
theorem wp_nlen (hg : o.guard = none) (m : Operand) (hop : o.op = Op.call { callee := Callee.builtin Builtin.len, args := #[m], argTypes := #[33] }) {b n : Nat} {f : Int → Option Int} (h : NMap w b n f) (hm : a.eval m = .map (some b))
    (hK : wpList Try.prog ops Q rest (a.put o.dst (.int .i64 n)) w) : wpList Try.prog ops Q (o :: rest) a w := by
  refine wpList_plain hg fun K' hK' => ?_
  unfold Oper.wp
  simp [execOp, hop, resolve, invoke, builtin, hm, h.len o.type, Result.andThen]
  exact hK' _ _ hK

/-- 'make(map[int]int, n)'. -/
theorem wp_mmake (hg : o.guard = none) (x : Operand) (hop : o.op = Op.makeMap 33 (some x)) {n : Int} (hx : a.eval x = .int .i64 n)
    (hK : wpList Try.prog ops Q rest (a.put o.dst (.map (some w.heap.size))) (w.alloc (.map #[] 0))) : wpList Try.prog ops Q (o :: rest) a w := by
  refine wpList_plain hg fun K' hK' => ?_
  unfold Oper.wp
  simp [execOp, hop, hx, run_makeMap_hint Try.underlying33, Result.andThen]
  exact hK' _ _ hK

/-- The entry, at an operation of a drawn region. -/
theorem wp_entry (m x : Operand) (hop : o.op = Op.mapEntry 33 m x) {b : Nat} {k : Int} {w1 : World} {v : Value} (hrun : (Instr.mapEntry 33 (.map (some b)) (.int .i64 k)).run Try.prog w = .ok v w1) (hm : a.eval m = .map (some b)) (hx : a.eval x = .int .i64 k)
    (hK : K (a.put o.dst v) w1) : o.wp Try.prog a w K Q := by
  unfold Oper.wp
  simp [execOp, hop, hm, hx, hrun, Result.andThen]
  exact hK

theorem wp_estore (m x u : Operand) (hop : o.op = Op.entryStore 33 m x u) {b : Nat} {st v : Int} {w1 : World} (hrun : (Instr.entryStore 33 (.map (some b)) (.int .i64 st) (.int .i64 v)).run Try.prog w = .ok () w1) (hm : a.eval m = .map (some b)) (hx : a.eval x = .int .i64 st) (hu : a.eval u = .int .i64 v)
    (hK : K (a.put o.dst undef) w1) : o.wp Try.prog a w K Q := by
  unfold Oper.wp
  simp [execOp, hop, hm, hx, hu, hrun, Result.andThen]
  exact hK
end

end Go.Proofs.Ytfgbkpbakignhaa
