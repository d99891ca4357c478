/- map[int][]int of a call's own, as a function to lists: look-up, the append of one number, the store. Conditions: what each law says. -/
import Derived.Test.YtpcgklagmcnhaaaGreatT9Row
import Derived.Maps.OwnRows
import Derived.Maps.GroupsBeside
import Derived.Test.YtpcgklagmcnhaaaGreatT9GraphB
import Derived.ArgAppend
import Derived.Deep.LoopGhost
namespace Go.Proofs.YtpcgklagmcnhaaaGreat
open Go.RowKit Go.Maps Go.ChangeShapes
def SMap (w : World) (b n : Nat) (f : Int → List Int) : Prop :=
 ∃ D : DataW Unit, w.ownsGroups Tryz.prog 3 (b + 1) 3 .i64 b n D ∧
  ∀ x, I64 x → (f x = [] ∧ D.atKey (.int .i64 x) .nil = .nil) ∨ D.atKey (.int .i64 x) .nil = .slice (lits .i64 (f x)) []
theorem zeroRow (w : World) : (zeroValue 31).run Tryz.prog w = .ok (.slice none 0 0) w := by kernel_rfl
theorem SMap.made (w : World) : SMap (w.alloc (.map #[] 0)) w.heap.size 0 (fun _ => []) :=
 ⟨.map [], World.ownsGroups_made _ _ _ _ _, fun _ _ => Or.inl ⟨rfl, rfl⟩⟩
theorem SMap.lt {w : World} {b n : Nat} {f : Int → List Int} (h : SMap w b n f) : b < w.heap.size := by
 obtain ⟨D, ⟨es, clock, hb, -⟩, -⟩ := h
 grind
theorem lits_inj {a c : List Int} (h : (lits .i64 a : List (DataW Unit)) = lits .i64 c) : a = c := by
 induction a generalizing c with
 | nil => cases c with
  | nil => rfl
  | cons _ _ => simp [lits] at h
 | cons x a ih => cases c with
  | nil => simp [lits] at h
  | cons y c =>
   simp only [lits, List.map_cons, List.cons.injEq] at h
   obtain ⟨h1, h2⟩ := h
   have : x = y := by simpa using h1
   rw [this, ih h2]
theorem SMap.list {w : World} {f : Int → List Int} {D : DataW Unit} {x : Int} {v : Value} {zs : List Int} {base : Nat} (h : (f x = [] ∧ D.atKey (.int .i64 x) .nil = .nil) ∨ D.atKey (.int .i64 x) .nil = .slice (lits .i64 (f x)) []) (hat : D.atKey (.int .i64 x) .nil = rowDatum .i64 v zs) (ho : w.ownsInts base 3 .i64 v zs) : zs = f x := by
 rcases ho.datum (H := Unit) with ⟨e, rfl⟩ | e
 ·rw [e] at hat
  rcases h with ⟨h1, _⟩ | h2
  ·exact h1.symm
  rw [hat] at h2; cases h2
 rw [e] at hat
 rcases h with ⟨_, h2⟩ | h2
 ·rw [hat] at h2; cases h2
 rw [hat] at h2
 simp only [DataW.slice.injEq, and_true] at h2
 exact lits_inj h2
def SBack (w : World) (b n : Nat) (f : Int → List Int) (k : Int) (v : Value) : Prop :=
 ∀ (w1 : World) (v' : Value) (x : Int), RowAt w1 (b + 1) v' (f k ++ [x]) → Chg (foot v) w w1 → (∀ j ∈ foot v', j ∈ foot v ∨ w.heap.size ≤ j) →
  ∃ w2, (Instr.mapUpdate 121 (.map (some b)) (.int .i64 k) v').run Tryz.prog w1 = .ok () w2 ∧ SMap w2 b (n + 1) (fun y => if y = k then f k ++ [x] else f y) ∧ Chg [b] w1 w2
theorem owns_row {w : World} {B : Nat} {v : Value} {l : List Int} (h : w.ownsInts B 3 .i64 v l) (hn : l.length < 4294967296) : RowAt w B v l := ⟨h.1, h.2, hn⟩
theorem row_owns {w : World} {B : Nat} {v : Value} {l : List Int} (h : RowAt w B v l) : w.ownsInts B 3 .i64 v l := ⟨h.1, h.2.1⟩
theorem SMap.look {w : World} {b n : Nat} {f : Int → List Int} (h : SMap w b n f) (hn : n < 4294967296) {k : Int} (hk : I64 k) :
  ∃ v, (Instr.lookup 121 (.map (some b)) (.int .i64 k) false).run Tryz.prog w = .ok v w ∧ RowAt w (b + 1) v (f k) ∧ (f k).length ≤ n ∧ SBack w b n f k v := by
 obtain ⟨D, ho, hD⟩ := h
 have hkey := keyOf_int_mk Tryz.underlying3 hk
 obtain ⟨v, zs, hr, hat, hoi, hzl, hback⟩ := ho.at keyedInt Tryz.underlying121 (zeroRow w) (by unfold maxLen; omega) hkey
 obtain rfl := SMap.list (hD k hk) hat hoi
 refine ⟨v, hr, owns_row hoi (by omega), hzl, fun w1 v' x hrow hc hf => ?_⟩
 have hfo : foot v = v.ownBlock.toList := (owns_row hoi (by omega)).foot
 have hfo' : foot v' = v'.ownBlock.toList := hrow.foot
 have hgr : w.grownBy w1 v.ownBlock := hc.grownBy (fun j hj => by rw [hfo] at hj; exact (show v.ownBlock = some j by grind).symm)
 obtain ⟨g, c, e⟩ := owns_some hrow.1 (by simp)
 have hloc : v'.ownBlock = v.ownBlock ∨ ∃ g, v'.ownBlock = some g ∧ w.heap.size ≤ g := by
  have hb : v'.ownBlock = some g := by rw [e]; rfl
  rcases hf g (by grind) with q | q
  all_goals grind
 obtain ⟨w2, hr2, h2, h3⟩ := hback w1 v' (f k ++ [x]) hgr (row_owns hrow) (by simp; omega) hloc
 refine ⟨w2, hr2, ⟨_, h2, fun y hy => ?_⟩, (Chg.refl _ _).grown h3 (fun j hj => by cases hj; exact Or.inl (by simp))⟩
 have hdat : (rowDatum .i64 v' (f k ++ [x]) : DataW Unit) = .slice (lits .i64 (f k ++ [x])) [] := (row_owns hrow).datum_pos (by simp)
 obtain ⟨es, clock, hbm, F, hs, hDe, -⟩ := ho
 by_cases e1 : y = k
 ·subst e1
  right
  rw [atKey_put_same ⟨_, hDe⟩ (keyedInt.key hkey), hdat]
  simp
 rw [atKey_put_other (litNe e1)]
 grind
section
variable {ops : Array Oper} {rest : List Oper} {o : Oper} {a : Act} {Q : Exit → Act → World → Prop} {w : World}
end
end Go.Proofs.YtpcgklagmcnhaaaGreat
-- READS ONLY
namespace Go.Proofs.YtpcgklagmcnhaaaGreat
open Go.RowKit Go.Maps
namespace Plain
end Plain
theorem lit_ints (w : World) {x : Int} (hx : I64 x) : IntsAt (w.alloc (.cells #[.int .i64 x] 3)) (.slice (some ⟨w.heap.size, 0, none⟩) 1 1) [x] := by
 refine ⟨_, 1, rfl, by grind, by simp, fun _ => ⟨w.heap.size, 0, rfl, fun i hi => ?_⟩⟩
 have : i = 0 := by simpa using hi
 subst this
 rw [cell_of_row _ _ _ _ _ _ (heap_alloc_new w _)]
 rfl
end Go.Proofs.YtpcgklagmcnhaaaGreat
namespace Go.Proofs.YtpcgklagmcnhaaaGreat.Plain
def left (p : Pt) (f : Int → Option Int) : Nat := (p.v.filter fun u => (f u).isNone).length
theorem near_iff {g : Gr} {p : Pt} (_hp : PartOk g p) {u x : Int} : Near g p u x ↔ ∃ d ∈ p.darts.filter fun d => decide (g.tail d = u), g.head d = x := by
 constructor
 ·rintro ⟨e, he, h | h⟩
  ·have h1 := tail_even g e
   all_goals grind [mem_darts]
  have hd : 2 * e ∈ p.darts := mem_darts.2 (by rwa [show 2 * e / 2 = e by omega])
  have h1 := tail_even g e
  refine ⟨twin (2 * e), List.mem_filter.2 ⟨twin_mem hd, ?_⟩, ?_⟩
  all_goals grind [tail_twin, twin_twin]
 all_goals grind [near_dart]
end Go.Proofs.YtpcgklagmcnhaaaGreat.Plain
namespace Go.Proofs.YtpcgklagmcnhaaaGreat
open Go.RowKit Go.Maps
theorem SMap.fresh {w w' : World} {b n : Nat} {f : Int → List Int} (h : SMap w b n f) (hc : Chg [] w w') : SMap w' b n f := by
 obtain ⟨D, ho, hD⟩ := h
 refine ⟨D, ?_, hD⟩
 have hb : b < w.heap.size := SMap.lt ⟨D, ho, hD⟩
 exact ho.kept (hc.grownBy (row := none) (by simp)) (by simp) (fun es clock he x hx => by cases x.val.ownBlock <;> simp)
section
variable {w wr w' : World} {gb mp H : Nat} {gv : Array Value} {f f' : Int → Option Int} {m m' : Nat} {q q' : List Int}
end
end Go.Proofs.YtpcgklagmcnhaaaGreat
