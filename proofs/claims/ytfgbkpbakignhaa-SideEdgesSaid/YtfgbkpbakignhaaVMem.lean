/- Graphs, parts, lists of lists as they lie in memory and are read. No condition beyond what each law says. -/
import Derived.Test.YtfgbkpbakignhaaVBase
import Derived.Test.YtfgbkpbakignhaaVGr
import Derived.Test.YtfgbkpbakignhaaVRow
import Derived.Maps.OwnRows
import Derived.Maps.GroupsBeside
namespace Go.Proofs.Ytfgbkpbakignhaa
open Go.RowKit Go.Maps

/-- v is an api.Graph that reads as g. -/
def GrAt (w : World) (v : Value) (g : Plain.Gr) : Prop :=
  ∃ eo cap, v = .agg #[.int .i64 g.n, .slice eo g.e.length cap] ∧ I64 g.n ∧ g.e.length ≤ 9223372036854775807 ∧
    (∀ i, i < g.e.length → I64 (g.ends i).1 ∧ I64 (g.ends i).2) ∧
    (∀ i, i < g.e.length → ∃ b off, eo = some ⟨b, off, none⟩ ∧ w.cell? ⟨b, off + i * 2, none⟩ = some (.int .i64 (g.ends i).1) ∧ w.cell? ⟨b, off + i * 2 + 1, none⟩ = some (.int .i64 (g.ends i).2))

/-- v is an api.Part that reads as p. -/
def PtAt (w : World) (v : Value) (p : Plain.Pt) : Prop := ∃ v1 v2, v = .agg #[v1, v2] ∧ IntsAt w v1 p.v ∧ IntsAt w v2 p.e

/-- A slice's length is within its capacity. -/
def CapOk (v : Value) : Prop := ∃ ao n cap, v = .slice ao n cap ∧ n ≤ cap ∧ cap ≤ 9223372036854775807

/-- v is a [][]int that reads as ll. -/
def RowsAt (w : World) (v : Value) (ll : List (List Int)) : Prop :=
  ∃ ao cap, v = .slice ao ll.length cap ∧ ll.length ≤ 9223372036854775807 ∧
    ∀ i, i < ll.length → ∃ b off u, ao = some ⟨b, off, none⟩ ∧ w.cell? ⟨b, off + i, none⟩ = some u ∧ CapOk u ∧ IntsAt w u (ll.getD i [])

theorem GrAt.fresh {w w' : World} {v : Value} {g : Plain.Gr} (h : GrAt w v g) (hc : Chg [] w w') : GrAt w' v g := by
  obtain ⟨eo, cap, e, h1, h2, h3, h4⟩ := h
  refine ⟨eo, cap, e, h1, h2, h3, fun i hi => ?_⟩
  obtain ⟨b, off, e1, c1, c2⟩ := h4 i hi
  exact ⟨b, off, e1, hc.cell c1 (by simp), hc.cell c2 (by simp)⟩

theorem PtAt.fresh {w w' : World} {v : Value} {p : Plain.Pt} (h : PtAt w v p) (hc : Chg [] w w') : PtAt w' v p := by
  obtain ⟨v1, v2, e, h1, h2⟩ := h
  exact ⟨v1, v2, e, h1.fresh hc, h2.fresh hc⟩

theorem RowsAt.fresh {w w' : World} {v : Value} {ll : List (List Int)} (h : RowsAt w v ll) (hc : Chg [] w w') : RowsAt w' v ll := by
  obtain ⟨ao, cap, e, h1, h2⟩ := h
  refine ⟨ao, cap, e, h1, fun i hi => ?_⟩
  obtain ⟨b, off, u, e1, c1, c2, c3⟩ := h2 i hi
  exact ⟨b, off, u, e1, hc.cell c1 (by simp), c2, c3.fresh hc⟩

end Go.Proofs.Ytfgbkpbakignhaa
/- map[int][]int of a call's own, as a function to lists: look-up, the append of one number, the store. Conditions: what each law says. -/
namespace Go.Proofs.Ytfgbkpbakignhaa
open Go.RowKit Go.Maps Go.ChangeShapes

/-- Block b is a map of at most n entries; at x it holds the list f x (nothing: the empty one). -/
def SMap (w : World) (b n : Nat) (f : Int → List Int) : Prop :=
  ∃ D : DataW Unit, w.ownsGroups Try.prog 3 (b + 1) 3 .i64 b n D ∧
    ∀ x, I64 x → (f x = [] ∧ D.atKey (.int .i64 x) .nil = .nil) ∨ D.atKey (.int .i64 x) .nil = .slice (lits .i64 (f x)) []

theorem zeroRow (w : World) : (zeroValue 25).run Try.prog w = .ok (.slice none 0 0) w := by kernel_rfl

theorem SMap.made (w : World) : SMap (w.alloc (.map #[] 0)) w.heap.size 0 (fun _ => []) :=
  ⟨.map [], World.ownsGroups_made _ _ _ _ _, fun _ _ => Or.inl ⟨rfl, rfl⟩⟩

theorem SMap.lt {w : World} {b n : Nat} {f : Int → List Int} (h : SMap w b n f) : b < w.heap.size := by
  obtain ⟨D, ⟨es, clock, hb, -⟩, -⟩ := h
  exact (Array.getElem?_eq_some_iff.1 hb).1

theorem lits_inj {a c : List Int} (h : (lits .i64 a : List (DataW Unit)) = lits .i64 c) : a = c := by
  induction a generalizing c with
  | nil => cases c with
    | nil => rfl
    | cons _ _ => simp [lits] at h
  | cons x a ih => cases c with
    | nil => simp [lits] at h
    | cons y c =>
      simp only [lits, List.map_cons, List.cons.injEq] at h
      obtain ⟨h1, h2⟩ := h
      have : x = y := by simpa using h1
      rw [this, ih h2]

/-- What is owned at a key is the function's list. -/
theorem SMap.list {w : World} {f : Int → List Int} {D : DataW Unit} {x : Int} {v : Value} {zs : List Int} {base : Nat} (h : (f x = [] ∧ D.atKey (.int .i64 x) .nil = .nil) ∨ D.atKey (.int .i64 x) .nil = .slice (lits .i64 (f x)) []) (hat : D.atKey (.int .i64 x) .nil = rowDatum .i64 v zs) (ho : w.ownsInts base 3 .i64 v zs) : zs = f x := by
  rcases ho.datum (H := Unit) with ⟨e, rfl⟩ | e
  · rw [e] at hat
    rcases h with ⟨h1, _⟩ | h2
    · exact h1.symm
    · rw [hat] at h2; cases h2
  · rw [e] at hat
    rcases h with ⟨_, h2⟩ | h2
    · rw [hat] at h2; cases h2
    · rw [hat] at h2
      simp only [DataW.slice.injEq, and_true] at h2
      exact lits_inj h2

/-- The way back: a store of the list with one number more. -/
def SBack (w : World) (b n : Nat) (f : Int → List Int) (k : Int) (v : Value) : Prop :=
  ∀ (w1 : World) (v' : Value) (x : Int), RowAt w1 (b + 1) v' (f k ++ [x]) → Chg (foot v) w w1 → (∀ j ∈ foot v', j ∈ foot v ∨ w.heap.size ≤ j) →
    ∃ w2, (Instr.mapUpdate 96 (.map (some b)) (.int .i64 k) v').run Try.prog w1 = .ok () w2 ∧ SMap w2 b (n + 1) (fun y => if y = k then f k ++ [x] else f y) ∧ Chg [b] w1 w2

theorem owns_row {w : World} {B : Nat} {v : Value} {l : List Int} (h : w.ownsInts B 3 .i64 v l) (hn : l.length < 4294967296) : RowAt w B v l := ⟨h.1, h.2, hn⟩
theorem row_owns {w : World} {B : Nat} {v : Value} {l : List Int} (h : RowAt w B v l) : w.ownsInts B 3 .i64 v l := ⟨h.1, h.2.1⟩

theorem SMap.look {w : World} {b n : Nat} {f : Int → List Int} (h : SMap w b n f) (hn : n < 4294967296) {k : Int} (hk : I64 k) :
    ∃ v, (Instr.lookup 96 (.map (some b)) (.int .i64 k) false).run Try.prog w = .ok v w ∧ RowAt w (b + 1) v (f k) ∧ (f k).length ≤ n ∧ SBack w b n f k v := by
  obtain ⟨D, ho, hD⟩ := h
  have hkey := keyOf_int_mk Try.underlying3 hk
  obtain ⟨v, zs, hr, hat, hoi, hzl, hback⟩ := ho.at keyedInt Try.underlying96 (zeroRow w) (by unfold maxLen; omega) hkey
  obtain rfl := SMap.list (hD k hk) hat hoi
  refine ⟨v, hr, owns_row hoi (by omega), hzl, fun w1 v' x hrow hc hf => ?_⟩
  have hfo : foot v = v.ownBlock.toList := (owns_row hoi (by omega)).foot
  have hfo' : foot v' = v'.ownBlock.toList := hrow.foot
  have hgr : w.grownBy w1 v.ownBlock := hc.grownBy (fun j hj => by rw [hfo] at hj; exact (show v.ownBlock = some j by simpa using hj).symm)
  obtain ⟨g, c, e⟩ := owns_some hrow.1 (by simp)
  have hloc : v'.ownBlock = v.ownBlock ∨ ∃ g, v'.ownBlock = some g ∧ w.heap.size ≤ g := by
    have hb : v'.ownBlock = some g := by rw [e]; rfl
    rcases hf g (by rw [hfo', hb]; simp) with q | q
    · left
      rw [hfo] at q
      rw [hb]
      exact (show v.ownBlock = some g by simpa using q).symm
    · exact Or.inr ⟨g, hb, q⟩
  obtain ⟨w2, hr2, h2, h3⟩ := hback w1 v' (f k ++ [x]) hgr (row_owns hrow) (by simp; omega) hloc
  refine ⟨w2, hr2, ⟨_, h2, fun y hy => ?_⟩, (Chg.refl _ _).grown h3 (fun j hj => by cases hj; exact Or.inl (by simp))⟩
  have hdat : (rowDatum .i64 v' (f k ++ [x]) : DataW Unit) = .slice (lits .i64 (f k ++ [x])) [] := (row_owns hrow).datum_pos (by simp)
  obtain ⟨es, clock, hbm, F, hs, hDe, -⟩ := ho
  by_cases e1 : y = k
  · subst e1
    right
    rw [atKey_put_same ⟨_, hDe⟩ (keyedInt.key hkey), hdat]
    simp
  · rw [atKey_put_other (litNe e1)]
    simp only [if_neg e1]
    exact hD y hy

section
variable {ops : Array Oper} {rest : List Oper} {o : Oper} {a : Act} {Q : Exit → Act → World → Prop} {w : World}

/-- 'm[k]'. -/
theorem wl_slook (hg : o.guard = none) (m x : Operand) (hop : o.op = Op.lookup 96 m x false) {b n : Nat} {f : Int → List Int} (h : SMap w b n f) (hn : n < 4294967296) (hm : a.eval m = .map (some b)) {k : Int} (hk : I64 k) (hx : a.eval x = .int .i64 k)
    (hK : ∀ v, RowAt w (b + 1) v (f k) → (f k).length ≤ n → SBack w b n f k v → wpList Try.prog ops Q rest (a.put o.dst v) w) : wpList Try.prog ops Q (o :: rest) a w := by
  refine wpList_plain hg fun K' hK' => ?_
  obtain ⟨v, hrun, r1, r2, r3⟩ := h.look hn hk
  unfold Oper.wp
  simp [execOp, hop, hm, hx, hrun, Result.andThen]
  exact hK' _ _ (hK v r1 r2 r3)

/-- 'm[k] = append(m[k], x)': the store. -/
theorem wl_sback {w0 : World} (hg : o.guard = none) (m x u : Operand) (hop : o.op = Op.mapUpdate 96 m x u) {b n : Nat} {f : Int → List Int} {k z : Int} {v v' : Value} (hb : SBack w0 b n f k v) (hm : a.eval m = .map (some b)) (hx : a.eval x = .int .i64 k) (hu : a.eval u = v')
    (hrow : RowAt w (b + 1) v' (f k ++ [z])) (hc : Chg (foot v) w0 w) (hf : ∀ j ∈ foot v', j ∈ foot v ∨ w0.heap.size ≤ j)
    (hK : ∀ w2, SMap w2 b (n + 1) (fun y => if y = k then f k ++ [z] else f y) → Chg [b] w w2 → wpList Try.prog ops Q rest (a.put o.dst undef) w2) : wpList Try.prog ops Q (o :: rest) a w := by
  refine wpList_plain hg fun K' hK' => ?_
  obtain ⟨w2, hrun, r1, r2⟩ := hb w v' z hrow hc hf
  unfold Oper.wp
  simp [execOp, hop, hm, hx, hu, hrun, Result.andThen]
  exact hK' _ _ (hK w2 r1 r2)
end

end Go.Proofs.Ytfgbkpbakignhaa
/- darts in the program and the document's answer: contracts of walk.target, face.leaves, ref04.Tail, ref04.In. Conditions: a graph, a list that lie in memory and read so; a dart of it. -/
namespace Go.Proofs.Ytfgbkpbakignhaa
open Go.RowKit Go.Maps

/-- A dart, by its edge and which way. -/
theorem dart_even (g : Plain.Gr) (e : Nat) : g.tail ((2 * e : Nat) : Int) = (g.ends e).1 ∧ g.head ((2 * e : Nat) : Int) = (g.ends e).2 := by
  unfold Plain.Gr.tail Plain.Gr.head Plain.Gr.at
  rw [if_pos (by omega), if_pos (by omega), show (((2 * e : Nat) : Int) / 2).toNat = e by omega]
  exact ⟨rfl, rfl⟩
theorem dart_odd (g : Plain.Gr) (e : Nat) : g.tail ((2 * e + 1 : Nat) : Int) = (g.ends e).2 ∧ g.head ((2 * e + 1 : Nat) : Int) = (g.ends e).1 := by
  unfold Plain.Gr.tail Plain.Gr.head Plain.Gr.at
  rw [if_neg (by omega), if_neg (by omega), show (((2 * e + 1 : Nat) : Int) / 2).toNat = e by omega]
  exact ⟨rfl, rfl⟩

theorem quo_even (e : Nat) : Int.tmod ((2 * e : Nat) : Int) 2 = 0 ∧ Int.tdiv ((2 * e : Nat) : Int) 2 = (e : Int) := by
  rw [Int.tmod_eq_emod_of_nonneg (by omega), Int.tdiv_eq_ediv_of_nonneg (by omega)]
  omega
theorem quo_odd (e : Nat) : Int.tmod ((2 * e + 1 : Nat) : Int) 2 = 1 ∧ Int.tdiv ((2 * e + 1 : Nat) : Int) 2 = (e : Int) := by
  rw [Int.tmod_eq_emod_of_nonneg (by omega), Int.tdiv_eq_ediv_of_nonneg (by omega)]
  omega

theorem target_any (v : Value) (g : Plain.Gr) (d : Nat) (w : World) (hd : d / 2 < g.e.length) (hm : g.e.length < 4294967296) (h : GrAt w v g) :
    Calls Try.prog 63 #[v, .int .i64 d] w fun e w' => e = .returned (.int .i64 (g.head d)) ∧ Chg [] w w' := by
  obtain ⟨eo, cap, rfl, -, -, -, hcell⟩ := h
  obtain ⟨b, off, rfl, hc0, hc1⟩ := hcell (d / 2) hd
  have HC1 := Lib.hid ((Chg.refl [] w).alloc (.cells #[.int .i64 g.n, .slice (some ⟨b, off, none⟩) g.e.length cap] 24))
  obtain ⟨e, he⟩ : ∃ e, d / 2 = e := ⟨_, rfl⟩
  rw [he] at hd hc0 hc1
  have c0 := fun o => cellNew hc0 o
  have c1 := fun o => cellNew hc1 o
  clear hcell hc0 hc1
  rcases (show d = 2 * e ∨ d = 2 * e + 1 by omega) with rfl | rfl
  · obtain ⟨q1, q2⟩ := quo_even e
    have HE := Lib.hid (dart_even g e).2
    rw [HE.out]
    clear he
    generalize ((2 * e : Nat) : Int) = dd at *
    generalize (g.ends e).1 = x at *
    generalize (g.ends e).2 = y at *
    go_enter Try.func63, Try.ntmps63
    go_wp2
    go_ret
    exact ⟨rfl, HC1.out⟩
  · obtain ⟨q1, q2⟩ := quo_odd e
    have HE := Lib.hid (dart_odd g e).2
    rw [HE.out]
    clear he
    generalize ((2 * e + 1 : Nat) : Int) = dd at *
    generalize (g.ends e).1 = x at *
    generalize (g.ends e).2 = y at *
    go_enter Try.func63, Try.ntmps63
    go_wp2
    go_ret
    exact ⟨rfl, HC1.out⟩

theorem leaves_any (v : Value) (g : Plain.Gr) (d : Nat) (w : World) (hd : d / 2 < g.e.length) (hm : g.e.length < 4294967296) (h : GrAt w v g) :
    Calls Try.prog 55 #[v, .int .i64 d] w fun e w' => e = .returned (.int .i64 (g.tail d)) ∧ Chg [] w w' := by
  obtain ⟨eo, cap, rfl, -, -, -, hcell⟩ := h
  obtain ⟨b, off, rfl, hc0, hc1⟩ := hcell (d / 2) hd
  have HC1 := Lib.hid ((Chg.refl [] w).alloc (.cells #[.int .i64 g.n, .slice (some ⟨b, off, none⟩) g.e.length cap] 24))
  obtain ⟨e, he⟩ : ∃ e, d / 2 = e := ⟨_, rfl⟩
  rw [he] at hd hc0 hc1
  have c0 := fun o => cellNew hc0 o
  have c1 := fun o => cellNew hc1 o
  clear hcell hc0 hc1
  rcases (show d = 2 * e ∨ d = 2 * e + 1 by omega) with rfl | rfl
  · obtain ⟨q1, q2⟩ := quo_even e
    have HE := Lib.hid (dart_even g e).1
    rw [HE.out]
    clear he
    generalize ((2 * e : Nat) : Int) = dd at *
    generalize (g.ends e).1 = x at *
    generalize (g.ends e).2 = y at *
    go_enter Try.func55, Try.ntmps55
    go_wp2
    go_ret
    exact ⟨rfl, HC1.out⟩
  · obtain ⟨q1, q2⟩ := quo_odd e
    have HE := Lib.hid (dart_odd g e).1
    rw [HE.out]
    clear he
    generalize ((2 * e + 1 : Nat) : Int) = dd at *
    generalize (g.ends e).1 = x at *
    generalize (g.ends e).2 = y at *
    go_enter Try.func55, Try.ntmps55
    go_wp2
    go_ret
    exact ⟨rfl, HC1.out⟩

theorem take_snoc_mem {l : List Int} {x : Int} {k : Nat} (hk : k < l.length) : x ∈ l.take (k + 1) ↔ x ∈ l.take k ∨ l.getD k 0 = x := by
  rw [List.take_succ_eq_append_getElem hk]
  simp only [List.mem_append, List.mem_singleton, List.getD, List.getElem?_eq_getElem hk, Option.getD_some]
  exact or_congr_right eq_comm

theorem in_any (v : Value) (l : List Int) (x : Int) (w : World) (h : IntsAt w v l) :
    Calls Try.prog 17 #[v, .int .i64 x] w fun e w' => e = .returned (.bool (decide (x ∈ l))) ∧ Chg [] w w' := by
  obtain ⟨ao, cap, rfl, hsm, hm, hcell⟩ := h
  have HCE := Lib.hid hcell
  clear hsm hcell
  go_enter Try.func17, Try.ntmps17
  go_wp2
  go_loopw [5] (fun c wr => ∃ k : Nat, k ≤ l.length ∧ c = .int .i64 k ∧ Chg [] w wr ∧ Hid (x ∉ l.take k)) (fun c _ => l.length - (intOf c).toNat)
  case atStart => exact ⟨0, Nat.zero_le _, rfl, Chg.refl _ _, Lib.hid (by simp)⟩
  case round =>
    obtain ⟨k, hk, rfl, hc, hall⟩ := hrel
    have HC := Lib.hid hc
    by_cases hlt : k < l.length
    · obtain ⟨b, off, rfl, hfc⟩ := HCE.out (by intro e; rw [e] at hlt; simp at hlt)
      have c0 := hc.cell (hfc k hlt) (by simp)
      have HS := Lib.hid (take_snoc_mem (x := x) hlt)
      have HIN := Lib.hid (fun (e : l.getD k 0 = x) => (show x ∈ l from List.mem_of_mem_take ((take_snoc_mem (x := x) hlt).2 (Or.inr e))))
      clear hfc hc
      generalize l.getD k 0 = z at *
      by_cases h1 : z = x
      · have HE := Lib.hid (decide_eq_true (HIN.out h1))
        subst h1
        go_wp2
        go_ret
        exact ⟨ret_bool HE.out.symm, HC.out⟩
      · have h2 : (z == x) = false := by rw [beq_eq_false_iff_ne]; exact h1
        go_wp2
        go_roundw
        case rel => exact ⟨k + 1, by omega, by go_num, HC.out, Lib.hid (fun q => (HS.out.1 q).elim hall.out h1)⟩
        case measure => simp [intOf]; omega
    · have e : k = l.length := by omega
      subst e
      have HE := Lib.hid (decide_eq_false (by have := hall.out; rwa [List.take_length] at this))
      go_wp2
      go_ret
      exact ⟨ret_bool HE.out.symm, HC.out⟩

end Go.Proofs.Ytfgbkpbakignhaa
