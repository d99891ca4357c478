/- map[int][]int of a call's own, as a function to lists: look-up, the append of one number, the store. Conditions: what each law says. -/
import Derived.Test.YtpbljifejopecaaVMem
import Derived.Test.YtpbljifejopecaaVRow
import Derived.Maps.OwnRows
import Derived.Maps.GroupsBeside
namespace Go.Proofs.Ytpbljifejopecaa
open Go.RowKit Go.Maps Go.ChangeShapes

/-- Block b is a map of at most n entries; at x it holds the list f x (nothing: the empty one). -/
def SMap (w : World) (b n : Nat) (f : Int → List Int) : Prop :=
  ∃ D : DataW Unit, w.ownsGroups Try.prog 3 (b + 1) 3 .i64 b n D ∧
    ∀ x, I64 x → (f x = [] ∧ D.atKey (.int .i64 x) .nil = .nil) ∨ D.atKey (.int .i64 x) .nil = .slice (lits .i64 (f x)) []

theorem zeroRow (w : World) : (zeroValue 25).run Try.prog w = .ok (.slice none 0 0) w := by kernel_rfl

theorem SMap.made (w : World) : SMap (w.alloc (.map #[] 0)) w.heap.size 0 (fun _ => []) :=
  ⟨.map [], World.ownsGroups_made _ _ _ _ _, fun _ _ => Or.inl ⟨rfl, rfl⟩⟩

theorem SMap.lt {w : World} {b n : Nat} {f : Int → List Int} (h : SMap w b n f) : b < w.heap.size := by
  obtain ⟨D, ⟨es, clock, hb, -⟩, -⟩ := h
  exact (Array.getElem?_eq_some_iff.1 hb).1

theorem lits_inj {a c : List Int} (h : (lits .i64 a : List (DataW Unit)) = lits .i64 c) : a = c := by
  induction a generalizing c with
  | nil => cases c with
    | nil => rfl
    | cons _ _ => simp [lits] at h
  | cons x a ih => cases c with
    | nil => simp [lits] at h
    | cons y c =>
      simp only [lits, List.map_cons, List.cons.injEq] at h
      obtain ⟨h1, h2⟩ := h
      have : x = y := by simpa using h1
      rw [this, ih h2]

/-- What is owned at a key is the function's list. -/
theorem SMap.list {w : World} {f : Int → List Int} {D : DataW Unit} {x : Int} {v : Value} {zs : List Int} {base : Nat} (h : (f x = [] ∧ D.atKey (.int .i64 x) .nil = .nil) ∨ D.atKey (.int .i64 x) .nil = .slice (lits .i64 (f x)) []) (hat : D.atKey (.int .i64 x) .nil = rowDatum .i64 v zs) (ho : w.ownsInts base 3 .i64 v zs) : zs = f x := by
  rcases ho.datum (H := Unit) with ⟨e, rfl⟩ | e
  · rw [e] at hat
    rcases h with ⟨h1, _⟩ | h2
    · exact h1.symm
    · rw [hat] at h2; cases h2
  · rw [e] at hat
    rcases h with ⟨_, h2⟩ | h2
    · rw [hat] at h2; cases h2
    · rw [hat] at h2
      simp only [DataW.slice.injEq, and_true] at h2
      exact lits_inj h2

/-- The way back: a store of the list with one number more. -/
def SBack (w : World) (b n : Nat) (f : Int → List Int) (k : Int) (v : Value) : Prop :=
  ∀ (w1 : World) (v' : Value) (x : Int), RowAt w1 (b + 1) v' (f k ++ [x]) → Chg (foot v) w w1 → (∀ j ∈ foot v', j ∈ foot v ∨ w.heap.size ≤ j) →
    ∃ w2, (Instr.mapUpdate 103 (.map (some b)) (.int .i64 k) v').run Try.prog w1 = .ok () w2 ∧ SMap w2 b (n + 1) (fun y => if y = k then f k ++ [x] else f y) ∧ Chg [b] w1 w2

theorem owns_row {w : World} {B : Nat} {v : Value} {l : List Int} (h : w.ownsInts B 3 .i64 v l) (hn : l.length < 4294967296) : RowAt w B v l := ⟨h.1, h.2, hn⟩
theorem row_owns {w : World} {B : Nat} {v : Value} {l : List Int} (h : RowAt w B v l) : w.ownsInts B 3 .i64 v l := ⟨h.1, h.2.1⟩

theorem SMap.look {w : World} {b n : Nat} {f : Int → List Int} (h : SMap w b n f) (hn : n < 4294967296) {k : Int} (hk : I64 k) :
    ∃ v, (Instr.lookup 103 (.map (some b)) (.int .i64 k) false).run Try.prog w = .ok v w ∧ RowAt w (b + 1) v (f k) ∧ (f k).length ≤ n ∧ SBack w b n f k v := by
  obtain ⟨D, ho, hD⟩ := h
  have hkey := keyOf_int_mk Try.underlying3 hk
  obtain ⟨v, zs, hr, hat, hoi, hzl, hback⟩ := ho.at keyedInt Try.underlying103 (zeroRow w) (by unfold maxLen; omega) hkey
  obtain rfl := SMap.list (hD k hk) hat hoi
  refine ⟨v, hr, owns_row hoi (by omega), hzl, fun w1 v' x hrow hc hf => ?_⟩
  have hfo : foot v = v.ownBlock.toList := (owns_row hoi (by omega)).foot
  have hfo' : foot v' = v'.ownBlock.toList := hrow.foot
  have hgr : w.grownBy w1 v.ownBlock := hc.grownBy (fun j hj => by rw [hfo] at hj; exact (show v.ownBlock = some j by simpa using hj).symm)
  obtain ⟨g, c, e⟩ := owns_some hrow.1 (by simp)
  have hloc : v'.ownBlock = v.ownBlock ∨ ∃ g, v'.ownBlock = some g ∧ w.heap.size ≤ g := by
    have hb : v'.ownBlock = some g := by rw [e]; rfl
    rcases hf g (by rw [hfo', hb]; simp) with q | q
    · left
      rw [hfo] at q
      rw [hb]
      exact (show v.ownBlock = some g by simpa using q).symm
    · exact Or.inr ⟨g, hb, q⟩
  obtain ⟨w2, hr2, h2, h3⟩ := hback w1 v' (f k ++ [x]) hgr (row_owns hrow) (by simp; omega) hloc
  refine ⟨w2, hr2, ⟨_, h2, fun y hy => ?_⟩, (Chg.refl _ _).grown h3 (fun j hj => by cases hj; exact Or.inl (by simp))⟩
  have hdat : (rowDatum .i64 v' (f k ++ [x]) : DataW Unit) = .slice (lits .i64 (f k ++ [x])) [] := (row_owns hrow).datum_pos (by simp)
  obtain ⟨es, clock, hbm, F, hs, hDe, -⟩ := ho
  by_cases e1 : y = k
  · subst e1
    right
    rw [atKey_put_same ⟨_, hDe⟩ (keyedInt.key hkey), hdat]
    simp
  · rw [atKey_put_other (litNe e1)]
    simp only [if_neg e1]
    exact hD y hy

section
variable {ops : Array Oper} {rest : List Oper} {o : Oper} {a : Act} {Q : Exit → Act → World → Prop} {w : World}

/-- 'm[k]'. -/
theorem wl_slook (hg : o.guard = none) (m x : Operand) (hop : o.op = Op.lookup 103 m x false) {b n : Nat} {f : Int → List Int} (h : SMap w b n f) (hn : n < 4294967296) (hm : a.eval m = .map (some b)) {k : Int} (hk : I64 k) (hx : a.eval x = .int .i64 k)
    (hK : ∀ v, RowAt w (b + 1) v (f k) → (f k).length ≤ n → SBack w b n f k v → wpList Try.prog ops Q rest (a.put o.dst v) w) : wpList Try.prog ops Q (o :: rest) a w := by
  refine wpList_plain hg fun K' hK' => ?_
  obtain ⟨v, hrun, r1, r2, r3⟩ := h.look hn hk
  unfold Oper.wp
  simp [execOp, hop, hm, hx, hrun, Result.andThen]
  exact hK' _ _ (hK v r1 r2 r3)

/-- 'm[k] = append(m[k], x)': the store. -/
theorem wl_sback {w0 : World} (hg : o.guard = none) (m x u : Operand) (hop : o.op = Op.mapUpdate 103 m x u) {b n : Nat} {f : Int → List Int} {k z : Int} {v v' : Value} (hb : SBack w0 b n f k v) (hm : a.eval m = .map (some b)) (hx : a.eval x = .int .i64 k) (hu : a.eval u = v')
    (hrow : RowAt w (b + 1) v' (f k ++ [z])) (hc : Chg (foot v) w0 w) (hf : ∀ j ∈ foot v', j ∈ foot v ∨ w0.heap.size ≤ j)
    (hK : ∀ w2, SMap w2 b (n + 1) (fun y => if y = k then f k ++ [z] else f y) → Chg [b] w w2 → wpList Try.prog ops Q rest (a.put o.dst undef) w2) : wpList Try.prog ops Q (o :: rest) a w := by
  refine wpList_plain hg fun K' hK' => ?_
  obtain ⟨w2, hrun, r1, r2⟩ := hb w v' z hrow hc hf
  unfold Oper.wp
  simp [execOp, hop, hm, hx, hu, hrun, Result.andThen]
  exact hK' _ _ (hK w2 r1 r2)
end

end Go.Proofs.Ytpbljifejopecaa
