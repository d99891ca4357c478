/- package rota: Next of turns: the dart behind one around its face. Conditions: turns that are turns, a dart of the part. -/
import Derived.Test.YtfgbkpbakignhaaVNew
import Derived.Laws.Bits64
namespace Go.Proofs.Ytfgbkpbakignhaa
open Go.RowKit Go.Maps

namespace Plain
theorem placeRow_eq (f : Int → Option Int) {L : List Int} (hn : L.Nodup) : ∀ k, k ≤ L.length → ∀ y, placeRow f L k y = if y ∈ L.take k then some ((L.idxOf y : Nat) : Int) else f y
  | 0, _, y => by simp [placeRow]
  | k + 1, hk, y => by
    unfold placeRow
    rw [placeRow_eq f hn k (by omega) y, take_snoc (show k < L.length by omega)]
    simp only [List.mem_append, List.mem_singleton]
    by_cases e : y = L.getD k 0
    · rw [if_pos e, if_pos (Or.inr e), e, idxOf_at hn (by omega)]
    · rw [if_neg e]
      by_cases h : y ∈ L.take k
      · rw [if_pos h, if_pos (Or.inl h)]
      · rw [if_neg h, if_neg (fun q => q.elim h e)]

theorem first_nodup {l : List Int} (h : l.Nodup) : (first l).Nodup := by
  have hp : (first l).Perm l := by
    unfold first
    exact List.perm_append_comm.trans (by rw [List.take_append_drop])
  exact hp.nodup_iff.2 h

theorem places_skip {T : List (List Int)} {y : Int} (hn : ∀ i, i < T.length → (T.getD i []).Nodup) : ∀ (j k : Nat), k + j ≤ T.length → (∀ i, k ≤ i → i < k + j → y ∉ T.getD i []) → places T (k + j) y = places T k y
  | 0, _, _, _ => rfl
  | j + 1, k, h, hy => by
    show placeRow (places T (k + j)) (first (T.getD (k + j) [])) (first (T.getD (k + j) [])).length y = _
    rw [placeRow_eq _ (first_nodup (hn (k + j) (by omega))) _ (Nat.le_refl _), List.take_length, if_neg (by rw [first_mem]; exact hy (k + j) (by omega) (by omega))]
    exact places_skip hn j k (by omega) (fun i h1 h2 => hy i h1 (by omega))

theorem places_at {T : List (List Int)} (hn : ∀ i, i < T.length → (T.getD i []).Nodup) {v : Nat} (hv : v < T.length) {d : Int} (hd : d ∈ T.getD v []) (hu : ∀ i, i < T.length → d ∈ T.getD i [] → i = v) : places T T.length d = some (((first (T.getD v [])).idxOf d : Nat) : Int) := by
  obtain ⟨j, hj⟩ : ∃ j, T.length = (v + 1) + j := ⟨T.length - (v + 1), by omega⟩
  have h1 := places_skip (y := d) hn j (v + 1) (by omega) (fun i h1 h2 h3 => by have := hu i (by omega) h3; omega)
  rw [← hj] at h1
  rw [h1]
  show placeRow (places T v) _ _ d = _
  rw [placeRow_eq _ (first_nodup (hn v hv)) _ (Nat.le_refl _), List.take_length, if_pos ((first_mem _ _).2 hd)]

/-- The dart ahead stays where the row begins elsewhere. -/
theorem ahead_rot {a b : List Int} (hn : (a ++ b).Nodup) {x : Int} (hx : x ∈ a ++ b) : ahead (b ++ a) x = ahead (a ++ b) x := by
  have hn' : (b ++ a).Nodup := (List.perm_append_comm.nodup_iff).1 hn
  unfold ahead
  rw [List.length_append, List.length_append]
  have hdis : ∀ y, y ∈ a → y ∈ b → False := fun y h1 h2 => (List.nodup_append.1 hn).2.2 y h1 y h2 rfl
  have getA : ∀ i, i < a.length → (b ++ a).getD (b.length + i) 0 = a.getD i 0 := fun i hi => by simp [List.getD, List.getElem?_append_right]
  have getA' : ∀ i, i < a.length → (a ++ b).getD i 0 = a.getD i 0 := fun i hi => by simp [List.getD, List.getElem?_append_left hi]
  have getB : ∀ i, i < b.length → (b ++ a).getD i 0 = b.getD i 0 := fun i hi => by simp [List.getD, List.getElem?_append_left hi]
  have getB' : ∀ i, i < b.length → (a ++ b).getD (a.length + i) 0 = b.getD i 0 := fun i hi => by simp [List.getD, List.getElem?_append_right]
  rcases List.mem_append.1 hx with h | h
  · have hb : x ∉ b := fun q => hdis x h q
    have i1 : (b ++ a).idxOf x = a.idxOf x + b.length := by rw [List.idxOf_append, if_neg hb]
    have i2 : (a ++ b).idxOf x = a.idxOf x := by rw [List.idxOf_append, if_pos h]
    have hi := List.idxOf_lt_length_of_mem h
    rw [i1, i2]
    by_cases h0 : a.idxOf x = 0
    · rw [h0]
      by_cases hbl : b.length = 0
      · have : b = [] := List.length_eq_zero_iff.1 hbl
        subst this
        simp
      · rw [show (0 + b.length + (b.length + a.length) - 1) = (b.length - 1) + (b.length + a.length) by omega, Nat.add_mod_right, Nat.mod_eq_of_lt (by omega), getB _ (by omega)]
        rw [show 0 + (a.length + b.length) - 1 = a.length + (b.length - 1) by omega, Nat.mod_eq_of_lt (by omega), getB' _ (by omega)]
    · rw [show a.idxOf x + b.length + (b.length + a.length) - 1 = (b.length + (a.idxOf x - 1)) + (b.length + a.length) by omega, Nat.add_mod_right, Nat.mod_eq_of_lt (by omega), getA _ (by omega)]
      rw [show a.idxOf x + (a.length + b.length) - 1 = (a.idxOf x - 1) + (a.length + b.length) by omega, Nat.add_mod_right, Nat.mod_eq_of_lt (by omega), getA' _ (by omega)]
  · have ha : x ∉ a := fun q => hdis x q h
    have i1 : (b ++ a).idxOf x = b.idxOf x := by rw [List.idxOf_append, if_pos h]
    have i2 : (a ++ b).idxOf x = b.idxOf x + a.length := by rw [List.idxOf_append, if_neg ha]
    have hi := List.idxOf_lt_length_of_mem h
    rw [i1, i2]
    by_cases h0 : b.idxOf x = 0
    · rw [h0]
      by_cases hal : a.length = 0
      · have : a = [] := List.length_eq_zero_iff.1 hal
        subst this
        simp
      · rw [show 0 + (b.length + a.length) - 1 = b.length + (a.length - 1) by omega, Nat.mod_eq_of_lt (by omega), getA _ (by omega)]
        rw [show (0 + a.length + (a.length + b.length) - 1) = (a.length - 1) + (a.length + b.length) by omega, Nat.add_mod_right, Nat.mod_eq_of_lt (by omega), getA' _ (by omega)]
    · rw [show b.idxOf x + (b.length + a.length) - 1 = (b.idxOf x - 1) + (b.length + a.length) by omega, Nat.add_mod_right, Nat.mod_eq_of_lt (by omega), getB _ (by omega)]
      rw [show b.idxOf x + a.length + (a.length + b.length) - 1 = (a.length + (b.idxOf x - 1)) + (a.length + b.length) by omega, Nat.add_mod_right, Nat.mod_eq_of_lt (by omega), getB' _ (by omega)]

theorem ahead_first {l : List Int} (hn : l.Nodup) {x : Int} (hx : x ∈ l) : ahead (first l) x = ahead l x := by
  unfold first
  have := ahead_rot (a := l.take (lst l l.length)) (b := l.drop (lst l l.length)) (by rw [List.take_append_drop]; exact hn) (by rw [List.take_append_drop]; exact hx)
  rw [this, List.take_append_drop]
end Plain

theorem bits_twin (d : Nat) (hd : d < 4294967296) : bits .xor .i64 (d : Int) 1 = Plain.twin d := by
  have hx : d ^^^ 1 < 2 ^ 33 := Nat.xor_lt_two_pow (by omega) (by omega)
  have h1 : (BitVec.ofInt 64 (d : Int)).toNat = d := by
    rw [BitVec.ofInt_natCast, BitVec.toNat_ofNat]; exact Nat.mod_eq_of_lt (by omega)
  have h3 : bits .xor .i64 (d : Int) 1 = ((d ^^^ 1 : Nat) : Int) := by
    show IntKind.i64.wrap ((BitVec.ofInt 64 (d : Int) ^^^ BitVec.ofInt 64 1).toNat : Int) = _
    rw [BitVec.toNat_xor, h1, show (BitVec.ofInt 64 1).toNat = 1 from rfl, IntKind.wrap_i64]
    omega
  rw [h3]
  have h4 : (d ^^^ 1) / 2 = d / 2 := by rw [Nat.xor_div_two]; simp
  have h5 : (d ^^^ 1) % 2 = (d + 1) % 2 := by
    have h6 := Nat.xor_mod_two_pow (a := d) (b := 1) (n := 1)
    rw [Nat.pow_one] at h6
    rw [h6]
    rcases Nat.mod_two_eq_zero_or_one d with q | q <;> rw [q] <;> simp <;> omega
  unfold Plain.twin
  split <;> omega

theorem next_some (rb : Nat) (g : Plain.Gr) (p : Plain.Pt) (turn : List (List Int)) (vt vd : Value) (lb pb n m : Nat) (d : Nat) (w : World) (hp : Plain.PartOk g p) (hT : Plain.TurnsOk g p turn) (hTL : turn.length < 2147483648) (hS : Plain.sumLen turn turn.length < 2147483648) (hd : (d : Int) ∈ p.darts) (hd2 : (d : Int) < 4294967296)
    (h : RotaAt w rb (turn.map Plain.first) (fun d => if d ∈ p.darts then some (g.tail d) else none) (Plain.places turn turn.length) p.darts vt vd lb pb n m) :
    Calls Try.prog 32 #[.pointer (some ⟨rb, 0, none⟩), .int .i64 d] w fun e w' => e = .returned (.tuple #[.int .i64 (Plain.nextDart g turn d), .bool true]) ∧ w = w' := by
  have HB := Lib.hid (bits_twin d (by omega))
  have HRO := Lib.hid h
  have htw := Plain.twin_mem hd
  have hv := hp.vr _ (hp.tail_mem htw).1
  obtain ⟨v, hve⟩ : ∃ v : Nat, g.tail (Plain.twin d) = (v : Int) := ⟨(g.tail (Plain.twin d)).toNat, by omega⟩
  have hvT : v < turn.length := by have := hT.len; omega
  have hmem : Plain.twin d ∈ turn.getD v [] := by
    have := (hT.mem (v : Int) (by omega) (by rw [← hve]; exact hv.2) (Plain.twin d)).2 ⟨htw, hve⟩
    simpa [Plain.turnAt] using this
  have hnn : ∀ i, i < turn.length → (turn.getD i []).Nodup := fun i hi => by have := hT.nodup (i : Int); simpa [Plain.turnAt] using this
  have hpl := Plain.places_at hnn hvT hmem (fun i hi hm => by have := (hT.row hi hm).2; omega)
  have hmap : (turn.map Plain.first).getD v [] = Plain.first (turn.getD v []) := by simp [List.getD, hvT]
  have hsl : (turn.getD v []).length < 2147483648 := by
    have h1 : Plain.sumLen turn (v + 1) = Plain.sumLen turn v + (turn.getD v []).length := rfl
    have h2 := Plain.sumLen_mono turn (show v + 1 ≤ turn.length from hvT)
    omega
  have hah : Plain.nextDart g turn d = Plain.ahead (Plain.first (turn.getD v [])) (Plain.twin d) := by
    rw [Plain.ahead_first (hnn v hvT) hmem]
    unfold Plain.nextDart Plain.before Plain.turnAt
    rw [hve]; rfl
  have hfl := Plain.first_length (turn.getD v [])
  have hil : (Plain.first (turn.getD v [])).idxOf (Plain.twin d) < (Plain.first (turn.getD v [])).length := List.idxOf_lt_length_of_mem ((Plain.first_mem _ _).2 hmem)
  have htd : 0 ≤ Plain.twin d ∧ Plain.twin d ≤ d + 1 := by unfold Plain.twin; split <;> omega
  have HC := Lib.hid (beside_some rb (turn.map Plain.first) (fun d => if d ∈ p.darts then some (g.tail d) else none) (Plain.places turn turn.length) p.darts vt vd lb pb n m (Plain.twin d) (-1) v ((Plain.first (turn.getD v [])).idxOf (Plain.twin d)) (((Plain.first (turn.getD v [])).idxOf (Plain.twin d) + (Plain.first (turn.getD v [])).length - 1) % (Plain.first (turn.getD v [])).length) w (I64.mk (by omega) (by omega)) (by show (if _ then _ else _) = _; rw [if_pos htw, hve]) hpl (by simpa using hvT) (by rw [List.length_map]; omega) (by rw [hmap]; exact hil) (by rw [hmap]; omega) (by omega) (by
      rw [hmap]
      generalize (Plain.first (turn.getD v [])).length = len at *
      generalize (Plain.first (turn.getD v [])).idxOf (Plain.twin d) = i at *
      rw [Int.tmod_eq_emod_of_nonneg (by omega), show (i : Int) + -1 + (len : Int) = ((i + len - 1 : Nat) : Int) by omega]
      exact (Int.natCast_emod _ _).symm) (by rw [hmap]; exact Nat.mod_lt _ (by omega)) h)
  rw [hmap, show (Plain.first (turn.getD v [])).getD (((Plain.first (turn.getD v [])).idxOf (Plain.twin d) + (Plain.first (turn.getD v [])).length - 1) % (Plain.first (turn.getD v [])).length) 0 = Plain.nextDart g turn d from hah.symm] at HC
  clear h htw hv hve hvT hmem hnn hpl hmap hsl hah hfl hil htd
  go_enter Try.func32, Try.ntmps32
  go_wp2_with fail
  rw [HB.out]
  refine HC.out.mono ?_
  rintro e w2 ⟨rfl, rfl⟩
  go_wp2
  exact bodyPost_ret (v := .tuple #[.int .i64 (Plain.nextDart g turn d), .bool true]) (by simp [results, Try.results32, go_sem]) rfl ⟨rfl, rfl⟩

end Go.Proofs.Ytfgbkpbakignhaa
