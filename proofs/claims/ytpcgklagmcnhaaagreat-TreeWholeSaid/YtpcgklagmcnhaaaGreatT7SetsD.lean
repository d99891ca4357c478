/- package sets: contracts of New and of the laws' own example. Conditions: a list of fewer than 2^32 ints. -/
import Derived.Test.YtpcgklagmcnhaaaGreatT7SetsC
import Derived.Test.YtpcgklagmcnhaaaGreatT7Leav
import Derived.Laws.Bits64
namespace Go.Proofs.YtpcgklagmcnhaaaGreat
open Go.RowKit Go.Maps
theorem SetsObj.empty (w : World) : SetsObj ((w.alloc (.map #[] 0)).alloc (.cells #[.map (some w.heap.size), .slice none 0 0, .slice none 0 0, .int .i64 0] 206)) (w.heap.size + 1) [w.heap.size + 1, w.heap.size] ⟨[], []⟩ := by
 refine ⟨w.heap.size, .slice none 0 0, .slice none 0 0, [], ⟨?_, ?_, World.ownsRow_nil _ _ _ _, World.ownsRow_nil _ _ _ _, Or.inl rfl, ⟨rfl, by simp⟩, rfl, by simp, by simp⟩, rfl⟩
 ·have := heap_alloc_new (w.alloc (.map #[] 0)) (.cells #[.map (some w.heap.size), .slice none 0 0, .slice none 0 0, .int .i64 0] 206)
  have e : (w.alloc (.map #[] 0)).heap.size = w.heap.size + 1 := by simp
  rw [e] at this
  exact this
 have : (pos ([] : List Int)) = fun _ => none := by funext x; simp [pos]
 simp only [List.length_nil]
 rw [this]
 exact (IMap.made w).alloc _
def St.new (l : List Int) : St := l.foldl St.put ⟨[], []⟩
theorem St.new_take {l : List Int} {k : Nat} (h : k < l.length) : St.new (l.take (k + 1)) = (St.new (l.take k)).put (l.getD k 0) := by
 unfold St.new
 rw [List.take_succ_eq_append_getElem h, List.foldl_append]
 grind
theorem St.new_len (l : List Int) : (St.new l).all.length ≤ l.length := by
 have : ∀ (l : List Int) (s : St), (l.foldl St.put s).all.length ≤ s.all.length + l.length := by
  intro l
  induction l with
  | nil => intro s; simp
  | cons x r ih =>
   grind [St.len_put]
 grind [St.new]
theorem new_any (v : Value) (l : List Int) (w : World) (hn : l.length < 4294967296) (h : IntsAt w v l) :
  Calls Tryz.prog 123 #[v] w fun e w' => ∃ pb own, e = .returned (.pointer (some ⟨pb, 0, none⟩)) ∧ SetsObj w' pb own (St.new l) ∧ Chg [] w w' ∧ ∀ j ∈ own, w.heap.size ≤ j := by
 obtain ⟨ao, cap, rfl, hsm, -, hcell⟩ := h
 have hmm := @run_makeMap Tryz.prog
 have HE := Lib.hid (SetsObj.empty w)
 go_enter Tryz.func123, Tryz.ntmps123
 go_wp2
 go_loopw [11] (fun c wr => ∃ k : Nat, k ≤ l.length ∧ c = .int .i64 k ∧ ∃ own, SetsObj wr (w.heap.size + 1) own (St.new (l.take k)) ∧ Chg [] w wr ∧ ∀ j ∈ own, w.heap.size ≤ j) (fun c _ => l.length - (intOf c).toNat)
 case atStart => exact ⟨0, Nat.zero_le _, rfl, _, HE.out, ((Chg.refl _ _).alloc _).alloc _, by simp⟩
 case round =>
  obtain ⟨k, hk, rfl, own, hobj, hch, hown⟩ := hrel
  by_cases hlt : k < l.length
  ·obtain ⟨b, off, rfl, hc⟩ := hcell (by grind)
   have ck := hch.cell (hc k hlt) (by simp)
   have hx := hsm (l.getD k 0) (by grind)
   have hl := St.new_len (l.take k)
   have hl2 : (l.take k).length ≤ k := by grind
   have HX := Lib.hid (St.new_take hlt)
   have HS := Lib.hid hsm
   have HC := Lib.hid hc
   clear hcell hc hsm
   generalize l.getD k 0 = x at *
   go_wp2_with fail
   refine (add_any _ own _ x _ hx (by omega) hobj).mono ?_
   rintro e w2 ⟨rfl, own2, ho2, hc2, hs2⟩
   have HO2 := Lib.hid ho2
   have hch2 := hch.trans hc2 (fun j hj => Or.inr (hown j hj))
   have hsz := hch.size
   have hown2 : ∀ j ∈ own2, w.heap.size ≤ j := fun j hj => by grind
   clear hobj hch hown ho2 hc2 hs2 ck
   go_wp2
   go_roundw
   case rel => exact ⟨k + 1, by omega, by go_num, own2, by rw [HX.out]; exact HO2.out, hch2, hown2⟩
   case measure => simp [intOf]; omega
  have e : k = l.length := by omega
  subst e
  have HO := Lib.hid hobj
  clear hobj
  go_wp2
  go_ret
  exact ⟨_, own, rfl, by simpa using HO.out, hch, hown⟩
section
variable {w : World} {b n : Nat} {f : Int → Option Int}
end
section
variable (w : World) {ops : Array Oper} {rest : List Oper} {o : Oper} {a : Act} {Q : Exit → Act → World → Prop} {K : Act → World → Prop}
end
end Go.Proofs.YtpcgklagmcnhaaaGreat
namespace Go.Proofs.YtpcgklagmcnhaaaGreat
open Go.RowKit Go.Maps
namespace Plain
end Plain
theorem free_at {w : World} {b : Nat} {cs : Array Value} {t : TypeId} (h : w.heap[b]? = some (.cells cs t (0, 0))) (i : Nat) : w.frozen? ⟨b, i, none⟩ = false := by
 simp [World.frozen?, h]
end Go.Proofs.YtpcgklagmcnhaaaGreat
namespace Go.Proofs.YtpcgklagmcnhaaaGreat.Plain
theorem len_le_of_sub : ∀ {l m : List Int}, l.Nodup → (∀ x ∈ l, x ∈ m) → l.length ≤ m.length
 | [], _, _, _ => Nat.zero_le _
 | x :: l, m, h, hs => by
  rw [List.nodup_cons] at h
  obtain ⟨a, b, rfl⟩ := List.append_of_mem (hs x (by simp))
  have h2 := len_le_of_sub h.2 (m := a ++ b) (fun y hy => by
   have h3 := hs y (by simp [hy])
   have h4 : y ≠ x := fun e => h.1 (e ▸ hy)
   simp only [List.mem_append, List.mem_cons] at h3 ⊢
   rcases h3 with q | q | q
   ·exact Or.inl q
   ·exact absurd q h4
   exact Or.inr q)
  simp only [List.length_append, List.length_cons] at h2 ⊢
  omega
def seen (turn : List (List Int)) (k j : Nat) : List Int := (turn.take k).flatten ++ (turn.getD k []).take j
theorem take_snoc {l : List Int} {j : Nat} (hj : j < l.length) : l.take (j + 1) = l.take j ++ [l.getD j 0] := by
 rw [List.take_succ_eq_append_getElem hj]
 grind
open Classical in
noncomputable def turnErr (g : Gr) (p : Pt) (turn : List (List Int)) : Int := if p.err g ≠ 0 then p.err g else if TurnsOk g p turn then 0 else 5
theorem turnErr_part {g : Gr} {p : Pt} {turn : List (List Int)} (h : p.err g ≠ 0) : turnErr g p turn = p.err g := if_pos h
theorem turnErr_bad {g : Gr} {p : Pt} {turn : List (List Int)} (h : p.err g = 0) (ht : ¬ TurnsOk g p turn) : turnErr g p turn = 5 := by
 grind [turnErr]
theorem turnErr_zero {g : Gr} {p : Pt} {turn : List (List Int)} (h : turnErr g p turn = 0) : p.err g = 0 ∧ TurnsOk g p turn := by
 all_goals grind [turnErr_bad, turnErr_part]
end Go.Proofs.YtpcgklagmcnhaaaGreat.Plain
-- READS ONLY
namespace Go.Proofs.YtpcgklagmcnhaaaGreat
open Go.RowKit Go.Maps
section
variable (w : World) {ops : Array Oper} {rest : List Oper} {o : Oper} {a : Act} {Q : Exit → Act → World → Prop}
theorem wp_look_any (hg : o.guard = none) (m x : Operand) (hop : o.op = Op.lookup 126 m x true) {b n : Nat} {f : Int → Option Int} (h : IMap w b n f) (hm : a.eval m = .map (some b))
  {k : Int} (hk : I64 k) (hx : a.eval x = .int .i64 k) {v : Int} {t : Bool} (hv : Hid ((f k).getD 0 = v)) (ht : Hid ((f k).isSome = t)) (hK : wpList Tryz.prog ops Q rest (a.put o.dst (.tuple #[.int .i64 v, .bool t])) w) : wpList Tryz.prog ops Q (o :: rest) a w := by
 cases hf : f k with
 | none =>
  have h1 := hv.out; have h2 := ht.out
  rw [hf] at h1 h2
  simp at h1 h2
  subst h1; subst h2
  exact wp_look_miss w hg m x hop h hm hk hx (Lib.hid hf) hK
 | some u =>
  have h1 := hv.out; have h2 := ht.out
  rw [hf] at h1 h2
  simp at h1 h2
  subst h1; subst h2
  exact wp_look_hit w hg m x hop h hm hk hx (Lib.hid hf) hK
end
theorem lit_two (w : World) {x y : Int} (hx : I64 x) (hy : I64 y) : IntsAt (w.alloc (.cells #[.int .i64 x, .int .i64 y] 3)) (.slice (some ⟨w.heap.size, 0, none⟩) 2 2) [x, y] := by
 refine ⟨_, 2, rfl, by simp [hx, hy], by simp, fun _ => ⟨w.heap.size, 0, rfl, fun i hi => ?_⟩⟩
 simp at hi
 rw [cell_of_row _ _ _ _ _ _ (heap_alloc_new w _)]
 rcases i with _ | _ | i
 ·rfl
 ·rfl
 omega
namespace Plain
end Plain
end Go.Proofs.YtpcgklagmcnhaaaGreat
