/- package rota: Next of turns: the dart behind one around its face. Conditions: turns that are turns, a dart of the part. -/
import Derived.Test.YtfgbkpbakignhaaGreatVNew
import Derived.Laws.Bits64
import Derived.RangeFuncNested
import Derived.RangeFuncBound
import Derived.RangeFuncCalls
import Derived.RangeFuncLeaves
import Derived.RangeFuncBox
import Derived.Shelf.Abstract
import Derived.Shelf.AbstractIn
import Derived.Shelf.RegionOpen
import Derived.OwnWalkIn
import Derived.TacticsInMore
import Derived.LoopNIn
import Derived.LoopIn
import Derived.Maps.OwnIn
namespace Go.Proofs.YtfgbkpbakignhaaGreat
open Go.RowKit Go.Maps

namespace Plain
theorem placeRow_eq (f : Int → Option Int) {L : List Int} (hn : L.Nodup) : ∀ k, k ≤ L.length → ∀ y, placeRow f L k y = if y ∈ L.take k then some ((L.idxOf y : Nat) : Int) else f y
 | 0, _, y => by simp [placeRow]
 | k + 1, hk, y => by
  unfold placeRow
  rw [placeRow_eq f hn k (by omega) y, take_snoc (show k < L.length by omega)]
  simp only [List.mem_append, List.mem_singleton]
  by_cases e : y = L.getD k 0
  ·rw [if_pos e, if_pos (Or.inr e), e, idxOf_at hn (by omega)]
  ·rw [if_neg e]
   by_cases h : y ∈ L.take k
   ·rw [if_pos h, if_pos (Or.inl h)]
   ·rw [if_neg h, if_neg (fun q => q.elim h e)]

theorem first_nodup {l : List Int} (h : l.Nodup) : (first l).Nodup := by
 have hp : (first l).Perm l := by
  unfold first
  exact List.perm_append_comm.trans (by rw [List.take_append_drop])
 exact hp.nodup_iff.2 h

theorem places_skip {T : List (List Int)} {y : Int} (hn : ∀ i, i < T.length → (T.getD i []).Nodup) : ∀ (j k : Nat), k + j ≤ T.length → (∀ i, k ≤ i → i < k + j → y ∉ T.getD i []) → places T (k + j) y = places T k y
 | 0, _, _, _ => rfl
 | j + 1, k, h, hy => by
  show placeRow (places T (k + j)) (first (T.getD (k + j) [])) (first (T.getD (k + j) [])).length y = _
  rw [placeRow_eq _ (first_nodup (hn (k + j) (by omega))) _ (Nat.le_refl _), List.take_length, if_neg (by rw [first_mem]; exact hy (k + j) (by omega) (by omega))]
  exact places_skip hn j k (by omega) (fun i h1 h2 => hy i h1 (by omega))

theorem places_at {T : List (List Int)} (hn : ∀ i, i < T.length → (T.getD i []).Nodup) {v : Nat} (hv : v < T.length) {d : Int} (hd : d ∈ T.getD v []) (hu : ∀ i, i < T.length → d ∈ T.getD i [] → i = v) : places T T.length d = some (((first (T.getD v [])).idxOf d : Nat) : Int) := by
 obtain ⟨j, hj⟩ : ∃ j, T.length = (v + 1) + j := ⟨T.length - (v + 1), by omega⟩
 have h1 := places_skip (y := d) hn j (v + 1) (by omega) (fun i h1 h2 h3 => by have := hu i (by omega) h3; omega)
 rw [← hj] at h1
 rw [h1]
 show placeRow (places T v) _ _ d = _
 rw [placeRow_eq _ (first_nodup (hn v hv)) _ (Nat.le_refl _), List.take_length, if_pos ((first_mem _ _).2 hd)]

theorem ahead_rot {a b : List Int} (hn : (a ++ b).Nodup) {x : Int} (hx : x ∈ a ++ b) : ahead (b ++ a) x = ahead (a ++ b) x := by
 have hn' : (b ++ a).Nodup := (List.perm_append_comm.nodup_iff).1 hn
 unfold ahead
 rw [List.length_append, List.length_append]
 have hdis : ∀ y, y ∈ a → y ∈ b → False := fun y h1 h2 => (List.nodup_append.1 hn).2.2 y h1 y h2 rfl
 have getA : ∀ i, i < a.length → (b ++ a).getD (b.length + i) 0 = a.getD i 0 := fun i hi => by simp [List.getD, List.getElem?_append_right]
 have getA' : ∀ i, i < a.length → (a ++ b).getD i 0 = a.getD i 0 := fun i hi => by simp [List.getD, List.getElem?_append_left hi]
 have getB : ∀ i, i < b.length → (b ++ a).getD i 0 = b.getD i 0 := fun i hi => by simp [List.getD, List.getElem?_append_left hi]
 have getB' : ∀ i, i < b.length → (a ++ b).getD (a.length + i) 0 = b.getD i 0 := fun i hi => by simp [List.getD, List.getElem?_append_right]
 rcases List.mem_append.1 hx with h | h
 ·have hb : x ∉ b := fun q => hdis x h q
  have i1 : (b ++ a).idxOf x = a.idxOf x + b.length := by rw [List.idxOf_append, if_neg hb]
  have i2 : (a ++ b).idxOf x = a.idxOf x := by rw [List.idxOf_append, if_pos h]
  have hi := List.idxOf_lt_length_of_mem h
  rw [i1, i2]
  by_cases h0 : a.idxOf x = 0
  ·rw [h0]
   by_cases hbl : b.length = 0
   ·have : b = [] := List.length_eq_zero_iff.1 hbl
    subst this
    simp
   ·rw [show (0 + b.length + (b.length + a.length) - 1) = (b.length - 1) + (b.length + a.length) by omega, Nat.add_mod_right, Nat.mod_eq_of_lt (by omega), getB _ (by omega)]
    rw [show 0 + (a.length + b.length) - 1 = a.length + (b.length - 1) by omega, Nat.mod_eq_of_lt (by omega), getB' _ (by omega)]
  ·rw [show a.idxOf x + b.length + (b.length + a.length) - 1 = (b.length + (a.idxOf x - 1)) + (b.length + a.length) by omega, Nat.add_mod_right, Nat.mod_eq_of_lt (by omega), getA _ (by omega)]
   rw [show a.idxOf x + (a.length + b.length) - 1 = (a.idxOf x - 1) + (a.length + b.length) by omega, Nat.add_mod_right, Nat.mod_eq_of_lt (by omega), getA' _ (by omega)]
 ·have ha : x ∉ a := fun q => hdis x q h
  have i1 : (b ++ a).idxOf x = b.idxOf x := by rw [List.idxOf_append, if_pos h]
  have i2 : (a ++ b).idxOf x = b.idxOf x + a.length := by rw [List.idxOf_append, if_neg ha]
  have hi := List.idxOf_lt_length_of_mem h
  rw [i1, i2]
  by_cases h0 : b.idxOf x = 0
  ·rw [h0]
   by_cases hal : a.length = 0
   ·have : a = [] := List.length_eq_zero_iff.1 hal
    subst this
    simp
   ·rw [show 0 + (b.length + a.length) - 1 = b.length + (a.length - 1) by omega, Nat.mod_eq_of_lt (by omega), getA _ (by omega)]
    rw [show (0 + a.length + (a.length + b.length) - 1) = (a.length - 1) + (a.length + b.length) by omega, Nat.add_mod_right, Nat.mod_eq_of_lt (by omega), getA' _ (by omega)]
  ·rw [show b.idxOf x + (b.length + a.length) - 1 = (b.idxOf x - 1) + (b.length + a.length) by omega, Nat.add_mod_right, Nat.mod_eq_of_lt (by omega), getB _ (by omega)]
   rw [show b.idxOf x + a.length + (a.length + b.length) - 1 = (a.length + (b.idxOf x - 1)) + (a.length + b.length) by omega, Nat.add_mod_right, Nat.mod_eq_of_lt (by omega), getB' _ (by omega)]

theorem ahead_first {l : List Int} (hn : l.Nodup) {x : Int} (hx : x ∈ l) : ahead (first l) x = ahead l x := by
 unfold first
 have := ahead_rot (a := l.take (lst l l.length)) (b := l.drop (lst l l.length)) (by rw [List.take_append_drop]; exact hn) (by rw [List.take_append_drop]; exact hx)
 rw [this, List.take_append_drop]
end Plain

theorem bits_twin (d : Nat) (hd : d < 4294967296) : bits .xor .i64 (d : Int) 1 = Plain.twin d := by
 have hx : d ^^^ 1 < 2 ^ 33 := Nat.xor_lt_two_pow (by omega) (by omega)
 have h1 : (BitVec.ofInt 64 (d : Int)).toNat = d := by
  rw [BitVec.ofInt_natCast, BitVec.toNat_ofNat]; exact Nat.mod_eq_of_lt (by omega)
 have h3 : bits .xor .i64 (d : Int) 1 = ((d ^^^ 1 : Nat) : Int) := by
  show IntKind.i64.wrap ((BitVec.ofInt 64 (d : Int) ^^^ BitVec.ofInt 64 1).toNat : Int) = _
  rw [BitVec.toNat_xor, h1, show (BitVec.ofInt 64 1).toNat = 1 from rfl, IntKind.wrap_i64]
  omega
 rw [h3]
 have h4 : (d ^^^ 1) / 2 = d / 2 := by rw [Nat.xor_div_two]; simp
 have h5 : (d ^^^ 1) % 2 = (d + 1) % 2 := by
  have h6 := Nat.xor_mod_two_pow (a := d) (b := 1) (n := 1)
  rw [Nat.pow_one] at h6
  rw [h6]
  rcases Nat.mod_two_eq_zero_or_one d with q | q <;> rw [q] <;> simp <;> omega
 unfold Plain.twin
 split <;> omega

theorem next_some (rb : Nat) (g : Plain.Gr) (p : Plain.Pt) (turn : List (List Int)) (vt vd : Value) (lb pb n m : Nat) (d : Nat) (w : World) (hp : Plain.PartOk g p) (hT : Plain.TurnsOk g p turn) (hTL : turn.length < 2147483648) (hS : Plain.sumLen turn turn.length < 2147483648) (hd : (d : Int) ∈ p.darts) (hd2 : (d : Int) < 4294967296)
  (h : RotaAt w rb (turn.map Plain.first) (fun d => if d ∈ p.darts then some (g.tail d) else none) (Plain.places turn turn.length) p.darts vt vd lb pb n m) :
  Calls Tryz.prog 88 #[.pointer (some ⟨rb, 0, none⟩), .int .i64 d] w fun e w' => e = .returned (.tuple #[.int .i64 (Plain.nextDart g turn d), .bool true]) ∧ w = w' := by
 have HB := Lib.hid (bits_twin d (by omega))
 have HRO := Lib.hid h
 have htw := Plain.twin_mem hd
 have hv := hp.vr _ (hp.tail_mem htw).1
 obtain ⟨v, hve⟩ : ∃ v : Nat, g.tail (Plain.twin d) = (v : Int) := ⟨(g.tail (Plain.twin d)).toNat, by omega⟩
 have hvT : v < turn.length := by have := hT.len; omega
 have hmem : Plain.twin d ∈ turn.getD v [] := by
  have := (hT.mem (v : Int) (by omega) (by rw [← hve]; exact hv.2) (Plain.twin d)).2 ⟨htw, hve⟩
  simpa [Plain.turnAt] using this
 have hnn : ∀ i, i < turn.length → (turn.getD i []).Nodup := fun i hi => by have := hT.nodup (i : Int); simpa [Plain.turnAt] using this
 have hpl := Plain.places_at hnn hvT hmem (fun i hi hm => by have := (hT.row hi hm).2; omega)
 have hmap : (turn.map Plain.first).getD v [] = Plain.first (turn.getD v []) := by simp [List.getD, hvT]
 have hsl : (turn.getD v []).length < 2147483648 := by
  have h1 : Plain.sumLen turn (v + 1) = Plain.sumLen turn v + (turn.getD v []).length := rfl
  have h2 := Plain.sumLen_mono turn (show v + 1 ≤ turn.length from hvT)
  omega
 have hah : Plain.nextDart g turn d = Plain.ahead (Plain.first (turn.getD v [])) (Plain.twin d) := by
  rw [Plain.ahead_first (hnn v hvT) hmem]
  unfold Plain.nextDart Plain.before Plain.turnAt
  rw [hve]; rfl
 have hfl := Plain.first_length (turn.getD v [])
 have hil : (Plain.first (turn.getD v [])).idxOf (Plain.twin d) < (Plain.first (turn.getD v [])).length := List.idxOf_lt_length_of_mem ((Plain.first_mem _ _).2 hmem)
 have htd : 0 ≤ Plain.twin d ∧ Plain.twin d ≤ d + 1 := by unfold Plain.twin; split <;> omega
 have HC := Lib.hid (beside_some rb (turn.map Plain.first) (fun d => if d ∈ p.darts then some (g.tail d) else none) (Plain.places turn turn.length) p.darts vt vd lb pb n m (Plain.twin d) (-1) v ((Plain.first (turn.getD v [])).idxOf (Plain.twin d)) (((Plain.first (turn.getD v [])).idxOf (Plain.twin d) + (Plain.first (turn.getD v [])).length - 1) % (Plain.first (turn.getD v [])).length) w (I64.mk (by omega) (by omega)) (by show (if _ then _ else _) = _; rw [if_pos htw, hve]) hpl (by simpa using hvT) (by rw [List.length_map]; omega) (by rw [hmap]; exact hil) (by rw [hmap]; omega) (by omega) (by
   rw [hmap]
   generalize (Plain.first (turn.getD v [])).length = len at *
   generalize (Plain.first (turn.getD v [])).idxOf (Plain.twin d) = i at *
   rw [Int.tmod_eq_emod_of_nonneg (by omega), show (i : Int) + -1 + (len : Int) = ((i + len - 1 : Nat) : Int) by omega]
   exact (Int.natCast_emod _ _).symm) (by rw [hmap]; exact Nat.mod_lt _ (by omega)) h)
 rw [hmap, show (Plain.first (turn.getD v [])).getD (((Plain.first (turn.getD v [])).idxOf (Plain.twin d) + (Plain.first (turn.getD v [])).length - 1) % (Plain.first (turn.getD v [])).length) 0 = Plain.nextDart g turn d from hah.symm] at HC
 clear h htw hv hve hvT hmem hnn hpl hmap hsl hah hfl hil htd
 go_enter Tryz.func88, Tryz.ntmps88
 go_wp2_with fail
 rw [HB.out]
 refine HC.out.mono ?_
 rintro e w2 ⟨rfl, rfl⟩
 go_wp2
 exact bodyPost_ret (v := .tuple #[.int .i64 (Plain.nextDart g turn d), .bool true]) (by simp [results, Tryz.results88, go_sem]) rfl ⟨rfl, rfl⟩

end Go.Proofs.YtfgbkpbakignhaaGreat
/- package rota: the contracts of Darts and of its iterator. Conditions: turns that lie in memory and read so. -/
namespace Go.Proofs.YtfgbkpbakignhaaGreat
open Go.RowKit Go.Maps

theorem darts_any (rb : Nat) (w : World) :
  Calls Tryz.prog 87 #[.pointer (some ⟨rb, 0, none⟩)] w fun e w' => e = .returned (.func (.func 109) #[] #[.pointer (some ⟨w.heap.size, 0, none⟩)]) ∧ w' = w.alloc (.cells #[.pointer (some ⟨rb, 0, none⟩)] 113) := by
 go_enter Tryz.func87, Tryz.ntmps87
 go_wp2
 go_ret
 exact ⟨rfl, rfl⟩

def ItAt (W : World) (Bs rb : Nat) (vd : Value) (ds : List Int) : Prop := W.cell? ⟨Bs, 0, none⟩ = some (.pointer (some ⟨rb, 0, none⟩)) ∧ W.cell? ⟨rb, 3, none⟩ = some vd ∧ IntsAt W vd ds

theorem ItAt.chg {W W' : World} {own : List Nat} {Bs rb : Nat} {vd : Value} {ds : List Int} (h : ItAt W Bs rb vd ds) (hc : Chg own W W') (h1 : Bs ∉ own) (h2 : rb ∉ own) (h3 : ∀ b n c, vd = .slice (some b) n c → b.block ∉ own) : ItAt W' Bs rb vd ds :=
 ⟨hc.cell h.1 h1, hc.cell h.2.1 h2, h.2.2.chg hc h3⟩

def ItKeeps (Bs rb : Nat) (vd : Value) (ds : List Int) (A B : World) : Prop := A.heap.size ≤ B.heap.size ∧ (ItAt A Bs rb vd ds → ItAt B Bs rb vd ds)

section
attribute [local go_sem] Oper.semAt_some
set_option maxRecDepth 100000 in
set_option maxHeartbeats 2000000 in
theorem darts1_in (α : Type) (enc : α → Int) (n : Nat) (hn : 1 ≤ n) (l Bs rb : Nat) (vd : Value) (xs : List α) (hl : xs.length < 4294967296) (J Jx : List α → World → Prop)
  (hY : ∀ pre x W, J pre W → pre.length < xs.length → YieldAt Fence.wide (n - 1) Tryz.prog l #[.int .i64 (enc x)] W fun e W' =>
   (e = .returned (.bool true) ∧ J (pre ++ [x]) W' ∧ ItKeeps Bs rb vd (xs.map enc) W W') ∨ (e = .returned (.bool false) ∧ Jx (pre ++ [x]) W'))
  (W : World) (hI : ItAt W Bs rb vd (xs.map enc)) (h0 : J [] W) :
  CallsIn Fence.wide n Tryz.prog 109 #[.func (.yield l) #[] #[], .pointer (some ⟨Bs, 0, none⟩)] W fun e W' => (∃ v, e = .returned v) ∧
   ((∃ ys, ys = xs ∧ J ys W') ∨ (∃ pre, (∃ k, k ≤ xs.length ∧ pre = xs.take k) ∧ Jx pre W')) := by
 have HIT := Lib.hid hI
 obtain ⟨hc1, hc2, hc3⟩ := hI
 obtain ⟨ao, cap, rfl, -, -, hcc⟩ := hc3
 rw [List.length_map] at hcc hc2
 have HIT2 : Hid (ItAt W Bs rb (.slice ao xs.length cap) (xs.map enc)) := by have := HIT.out; rw [List.length_map] at this; exact Lib.hid this
 have hY2 : Hid (∀ pre x W, J pre W → pre.length < xs.length → YieldAt Fence.wide (n - 1) Tryz.prog l #[.int .i64 (enc x)] W fun e W' =>
   (e = .returned (.bool true) ∧ J (pre ++ [x]) W' ∧ ItKeeps Bs rb (.slice ao xs.length cap) (xs.map enc) W W') ∨ (e = .returned (.bool false) ∧ Jx (pre ++ [x]) W')) := by
  have := hY; rw [List.length_map] at this; exact Lib.hid this
 clear hcc hY HIT
 refine callsIn_of_wp Tryz.func109 rfl trivial ?_ rfl
 simp only [Tryz.ntmps109, List.size_toArray, List.length_cons, List.length_nil, Nat.reduceAdd, Nat.reduceSub, Array.replicate_succ, Array.replicate_zero, List.push_toArray, List.append_toArray, List.nil_append, List.cons_append]
 gi_wp2
 gi_loopw [12] (fun i wr => ∃ k : Nat, k ≤ xs.length ∧ i = .int .i64 k ∧ J (xs.take k) wr ∧ Hid (ItAt wr Bs rb (.slice ao xs.length cap) (xs.map enc))) (fun i _ => xs.length - (intOf i).toNat)
 case atStart => exact ⟨0, Nat.zero_le _, rfl, by simpa using h0, HIT2⟩
 case round =>
  obtain ⟨k, hk, rfl, hJs, hit⟩ := hrel
  have HJ := Lib.hid hJs
  by_cases hlt : k < xs.length
  ·obtain ⟨x, hx⟩ : ∃ x, xs[k]? = some x := ⟨xs[k], List.getElem?_eq_getElem hlt⟩
   have HTK := Lib.hid (show xs.take (k + 1) = xs.take k ++ [x] by
    rw [List.take_succ_eq_append_getElem hlt]
    congr 1
    rw [List.getElem?_eq_getElem hlt] at hx
    simpa using hx)
   obtain ⟨ao2, cap2, e, -, -, hcc⟩ := hit.out.2.2
   obtain ⟨b, off, e2, hcell⟩ := hcc (by intro q; have := congrArg List.length q; rw [List.length_map] at this; simp at this; subst this; simp at hlt)
   simp only [Value.slice.injEq] at e
   obtain ⟨e3, -, -⟩ := e
   rw [e2] at e3
   subst e3
   have ck := hcell k (by rw [List.length_map]; exact hlt)
   have hxe : (xs.map enc).getD k 0 = enc x := by simp [List.getD, hx]
   rw [hxe] at ck
   obtain ⟨fn, tmps, assign, body, hy, hR⟩ := hY2.out (xs.take k) x wr hJs (by rw [List.length_take]; omega)
   clear hx hcell hcc hxe hJs
   generalize enc x = z at *
   gi_wp2
   refine hR.mono ?_
   rintro e W3 (⟨rfl, hJ3, hk3⟩ | ⟨rfl, hJx3⟩)
   ·have HJ3 := Lib.hid hJ3
    have HI3 := Lib.hid (hk3.2 hit.out)
    gi_wp2
    go_roundw
    case rel => exact ⟨k + 1, by omega, by go_num, by rw [HTK.out]; exact HJ3.out, HI3⟩
    case measure => simp [intOf]; omega
   ·have HJ3 := Lib.hid hJx3
    gi_wp2
    refine bodyPost_ret (results_none rfl _ _ _) rfl ?_
    exact ⟨⟨_, rfl⟩, .inr ⟨_, ⟨k + 1, by omega, rfl⟩, by rw [HTK.out]; exact HJ3.out⟩⟩
  ·have e : k = xs.length := by omega
   subst e
   gi_wp2
   go_end0
   exact ⟨⟨_, rfl⟩, .inl ⟨xs, rfl, by have := HJ.out; rwa [List.take_length] at this⟩⟩

theorem darts_stops (α : Type) (enc : α → Int) (n : Nat) (hn : 1 ≤ n) (Bs rb : Nat) (vd : Value) (xs : List α) (hl : xs.length < 4294967296) (w : World) (hI : ItAt w Bs rb vd (xs.map enc)) :
  SeqStopsK Fence.wide n Tryz.prog 109 #[.pointer (some ⟨Bs, 0, none⟩)] (fun x : α => #[Value.int .i64 (enc x)]) (ItKeeps Bs rb vd (xs.map enc)) (fun ys => ys = xs) (fun pre => ∃ k, k ≤ xs.length ∧ pre = xs.take k) xs.length w := fun l J Jx W hW _ _ hY h0 =>
 darts1_in α enc n hn l Bs rb vd xs hl J Jx hY W (by
  have hc : Chg [] w W := Chg.of_below hW (Nat.le_refl _)
  exact hI.chg hc (by simp) (by simp) (by simp)) h0
end

end Go.Proofs.YtfgbkpbakignhaaGreat
/- Laws at operations: appends whose outcome is known; maps, in a walk inside a fence. Conditions: what each law says. -/
namespace Go.Proofs.YtfgbkpbakignhaaGreat
open Go.RowKit Go.Maps

section
variable {ops : Array Oper} {rest : List Oper} {o : Oper} {a : Act} {Q : Exit → Act → World → Prop} {w w' : World} {F : Fence} {nF : Nat}

theorem wl_apprun (hg : o.guard = none) (s x : Operand) (t : TypeId) (ho : o.op = .call { callee := .builtin .append, args := #[s, x], argTypes := #[t, t] }) {v u r : Value} (hs : a.eval s = v) (hx : a.eval x = u)
  (hr : (Builtin.append_ #[t, t] o.type #[v, u]).run Tryz.prog w = .ok r w') (hK : wpList Tryz.prog ops Q rest (a.put o.dst r) w') : wpList Tryz.prog ops Q (o :: rest) a w := by
 refine wpList_plain hg fun K hK' => ?_
 unfold Oper.wp execOp
 simp only [ho, resolve, invoke, builtin, Sem.run_bind, Sem.run_pure, Result.andThen_ok, List.map_toArray, List.map_cons, List.map_nil, hs, hx, hr]
 exact hK' _ _ hK

theorem wi_apprun (hg : o.guard = none) (s x : Operand) (t : TypeId) (ho : o.op = .call { callee := .builtin .append, args := #[s, x], argTypes := #[t, t] }) {v u r : Value} (hs : a.eval s = v) (hx : a.eval x = u)
  (hr : (Builtin.append_ #[t, t] o.type #[v, u]).run Tryz.prog w = .ok r w') (hK : wpListIn F nF Tryz.prog ops Q rest (a.put o.dst r) w') : wpListIn F nF Tryz.prog ops Q (o :: rest) a w := by
 refine wpListIn_plain hg fun K hK' => ?_
 unfold Oper.wpIn
 refine ⟨by simp [Oper.about, ho, resolve, Target.leads, Sem.run_pure], ?_⟩
 rw [Oper.semAt_plain F _ _ (by rw [ho]; intro c hc'; cases hc')]
 unfold execOp
 simp only [ho, resolve, invoke, builtin, Sem.run_bind, Sem.run_pure, Result.andThen_ok, List.map_toArray, List.map_cons, List.map_nil, hs, hx, hr]
 exact hK' _ _ hK

variable (w)
theorem wi_look_any (hg : o.guard = none) (m x : Operand) (hop : o.op = Op.lookup 51 m x true) {b n : Nat} {f : Int → Option Int} (h : IMap w b n f) (hm : a.eval m = .map (some b))
  {k : Int} (hk : I64 k) (hx : a.eval x = .int .i64 k) {v : Int} {t : Bool} (hv : Hid ((f k).getD 0 = v)) (ht : Hid ((f k).isSome = t)) (hK : wpListIn F nF Tryz.prog ops Q rest (a.put o.dst (.tuple #[.int .i64 v, .bool t])) w) : wpListIn F nF Tryz.prog ops Q (o :: rest) a w := by
 obtain ⟨D, hown, hD⟩ := h
 refine wpListIn_lookup_own_ok_int w hg m x _ hop _ _ .i64 keyedInt Tryz.underlying51 Tryz.underlying3 (zeroInt _) b n D hm hown _ _ hx (keyOf_int_mk Tryz.underlying3 hk) (fun c hat _ => ?_)
 obtain ⟨h1, h2⟩ := hD k hk
 rw [h2, hv.out] at hat
 cases hat
 rw [h1, ht.out]
 exact hK

theorem wi_store (hg : o.guard = none) (m x u : Operand) (hop : o.op = Op.mapUpdate 51 m x u) {b n : Nat} {f : Int → Option Int} (h : IMap w b n f) (hn : n < maxLen) (hm : a.eval m = .map (some b))
  {k v : Int} (hk : I64 k) (hv : I64 v) (hx : a.eval x = .int .i64 k) (hu : a.eval u = .int .i64 v)
  (hK : ∀ w', IMap w' b (n + 1) (fun y => if y = k then some v else f y) → w.grownBy w' (some b) → wpListIn F nF Tryz.prog ops Q rest (a.put o.dst undef) w') : wpListIn F nF Tryz.prog ops Q (o :: rest) a w := by
 obtain ⟨D, hown, hD⟩ := h
 refine wpListIn_mapUpdate_own w hg m x u _ hop _ _ keyedInt Tryz.underlying51 _ b n D hm hown hn _ _ _ hx hu (keyOf_int_mk Tryz.underlying3 hk) _ [] (plainElem_int Tryz.underlying3 hv) (fun w' h1 h2 => hK w' ⟨_, h1, fun y hy => ?_⟩ h2)
 by_cases e : y = k
 ·subst e
  have hkl := keyedInt.key (keyOf_int_mk Tryz.underlying3 hk)
  rw [has_put_same hown.isMap hkl, atKey_put_same hown.isMap hkl]
  simp
 ·rw [has_put_other (litNe e), atKey_put_other (litNe e)]
  simp only [if_neg e]
  exact hD y hy

theorem wi_delete (hg : o.guard = none) (m x : Operand) (hop : o.op = Op.call { callee := Callee.builtin Builtin.delete, args := #[m, x], argTypes := #[51, 3] }) {b n : Nat} {f : Int → Option Int} (h : IMap w b n f) (hm : a.eval m = .map (some b))
  {k : Int} (hk : I64 k) (hx : a.eval x = .int .i64 k)
  (hK : ∀ w', IMap w' b n (fun y => if y = k then none else f y) → w.grownBy w' (some b) → wpListIn F nF Tryz.prog ops Q rest (a.put o.dst (.tuple #[])) w') : wpListIn F nF Tryz.prog ops Q (o :: rest) a w := by
 obtain ⟨D, hown, hD⟩ := h
 refine wpListIn_delete_own w hg m x _ _ hop _ keyedInt Tryz.underlying51 _ b n D hm hown _ _ hx (keyOf_int_mk Tryz.underlying3 hk) (fun w' h1 h2 => hK w' ⟨_, h1, fun y hy => ?_⟩ h2.grown)
 by_cases e : y = k
 ·subst e
  rw [has_del_same, atKey_del_same]
  simp
 ·rw [has_del_other (litNe e), atKey_del_other (litNe e)]
  simp only [if_neg e]
  exact hD y hy
end

theorem ownFrom_chg {β : Type} {B : Nat} {I : β → World → Prop} (h : ∀ s W W' own, I s W → Chg own W W' → (∀ j ∈ own, B ≤ j ∧ ∀ cs t r, W.heap[j]? ≠ some (.cells cs t r)) → I s W') : OwnFrom B I := by
 intro s W W' row hs hg hr
 refine h s W W' row.toList hs ((Chg.refl _ _).grown hg (fun j hj => Or.inl (by rw [hj]; simp))) (fun j hj => ?_)
 obtain ⟨h1, o, ho, hc⟩ := hr j (by simpa using hj)
 refine ⟨h1, fun cs t r e => ?_⟩
 rw [ho] at e
 cases e
 simp [Obj.isCells] at hc

theorem IntsAt.low {w : World} {v : Value} {l : List Int} (h : IntsAt w v l) (hl : l ≠ []) : ∃ b off n c, v = .slice (some ⟨b, off, none⟩) n c ∧ b < w.heap.size := by
 obtain ⟨ao, cap, rfl, -, -, h3⟩ := h
 obtain ⟨b, off, rfl, h4⟩ := h3 hl
 exact ⟨b, off, _, _, rfl, World.block_lt_of_cell? _ _ (h4 0 (List.length_pos_iff.2 hl))⟩

theorem itKeeps_chg {w2 A B : World} {own : List Nat} {Bs rb : Nat} {vd : Value} {ds : List Int} (hd : IntsAt w2 vd ds) (hrb : rb < w2.heap.size) (hc : Chg own A B) (ho : ∀ j ∈ own, w2.heap.size ≤ j ∧ j ≠ Bs) : ItKeeps Bs rb vd ds A B := by
 refine ⟨hc.size, fun h => ?_⟩
 obtain ⟨h1, h2, h3⟩ := h
 refine ⟨hc.cell h1 (fun e => (ho _ e).2 rfl), hc.cell h2 (fun e => by have := (ho _ e).1; simp at this; omega), ?_⟩
 by_cases hl : ds = []
 ·subst hl
  obtain ⟨ao, cap, rfl, -, -, -⟩ := h3
  exact ⟨ao, cap, rfl, by simp, by simp, by simp⟩
 ·obtain ⟨b, off, n, c, e, hb⟩ := hd.low hl
  refine h3.chg hc (fun b' n' c' e' hm => ?_)
  rw [e] at e'
  cases e'
  have := (ho _ hm).1
  simp at this
  omega

theorem itKeeps_put {W : World} {l Bs rb : Nat} {vd : Value} {ds : List Int} {o o' : Obj} (ho : W.heap[l]? = some o) (hc : o.isCells = false) : ItKeeps Bs rb vd ds W (W.putObj l o') := by
 have hch : Chg [l] W (W.putObj l o') := (Chg.refl _ _).grown (grownBy_putObj' W l o') (fun j hj => by cases hj; exact Or.inl (by simp))
 have hne : ∀ {b i : Nat} {v : Value}, W.cell? ⟨b, i, none⟩ = some v → b ≠ l := fun h e => by
  subst e
  unfold World.cell? at h
  simp only [ho] at h
  cases o <;> simp [Obj.isCells] at hc h
 refine ⟨hch.size, fun h => ?_⟩
 obtain ⟨h1, h2, h3⟩ := h
 refine ⟨hch.cell h1 (by simpa using hne h1), hch.cell h2 (by simpa using hne h2), ?_⟩
 obtain ⟨ao, cap, rfl, k1, k2, k3⟩ := h3
 refine ⟨ao, cap, rfl, k1, k2, fun hl => ?_⟩
 obtain ⟨b, off, rfl, k4⟩ := k3 hl
 exact ⟨b, off, rfl, fun i hi => hch.cell (k4 i hi) (by simpa using hne (k4 i hi))⟩

theorem itKeeps_trans {Bs rb : Nat} {vd : Value} {ds : List Int} {A B C : World} (h : ItKeeps Bs rb vd ds A B) (k : ItKeeps Bs rb vd ds B C) : ItKeeps Bs rb vd ds A C := ⟨Nat.le_trans h.1 k.1, fun x => k.2 (h.2 x)⟩

namespace Plain
theorem dart_small {g : Gr} {p : Pt} (h : p.err g = 0) {x : Int} (hx : x ∈ p.darts) : 0 ≤ x ∧ x < 2048 := by
 rw [mem_darts] at hx
 obtain ⟨i, hi, e⟩ := mem_getD hx
 have h1 := rises_at (Pt.err_ok h).2.2.1 hi
 have h2 := Gr.err_ok (Pt.err_ok h).1
 omega
end Plain

end Go.Proofs.YtfgbkpbakignhaaGreat
