/- A map[int]int inside a drawn region: a look-up, a store. No condition beyond what each law says. -/
import Derived.Test.YtpcgklagmcnhaaaGreatT7EdC
import Derived.Shelf.SlicesQ.IndexFunc
namespace Go.Proofs.YtpcgklagmcnhaaaGreat
open Go.RowKit Go.Maps
theorem IMap.run {b n : Nat} {w : World} {f : Int → Option Int} (h : IMap w b n f) {k : Int} (hk : I64 k) : (Instr.lookup 126 (.map (some b)) (.int .i64 k) false).run Tryz.prog w = .ok (.int .i64 ((f k).getD 0)) w := by
 obtain ⟨D, hown, hv⟩ := h
 obtain ⟨c, hrun, hat, -⟩ := hown.lookup_int keyedInt Tryz.underlying126 Tryz.underlying3 (zeroInt w) (keyOf_int_mk Tryz.underlying3 hk)
 obtain ⟨h1, h2⟩ := hv k hk
 rw [h2] at hat
 have e : (f k).getD 0 = c := by grind
 rw [e]
 exact hrun
theorem op_look {o : Oper} {a : Act} {K : Act → World → Prop} {Q : Exit → Act → World → Prop} {w : World} (m x : Operand) (hop : o.op = Op.lookup 126 m x false) {b n : Nat} {f : Int → Option Int} (h : IMap w b n f) (hm : a.eval m = .map (some b))
  {k : Int} (hk : I64 k) (hx : a.eval x = .int .i64 k) {v : Int} (hf : Hid ((f k).getD 0 = v)) (hK : K (a.put o.dst (.int .i64 v)) w) : o.wp Tryz.prog a w K Q := by
 obtain ⟨D, hown, hv⟩ := h
 obtain ⟨c, hrun, hat, -⟩ := hown.lookup_int keyedInt Tryz.underlying126 Tryz.underlying3 (zeroInt w) (keyOf_int_mk Tryz.underlying3 hk)
 obtain ⟨h1, h2⟩ := hv k hk
 rw [h2, hf.out] at hat
 have e : v = c := by grind
 unfold Oper.wp
 simp [execOp, hop, hm, hx, hrun, Result.andThen]
 rw [← e]
 exact hK
theorem op_store {o : Oper} {a : Act} {K : Act → World → Prop} {Q : Exit → Act → World → Prop} {w : World} (m x u : Operand) (hop : o.op = Op.mapUpdate 126 m x u) {b n : Nat} {f : Int → Option Int} (h : IMap w b n f) (hn : n < maxLen) (hm : a.eval m = .map (some b))
  {k v : Int} (hk : I64 k) (hv : I64 v) (hx : a.eval x = .int .i64 k) (hu : a.eval u = .int .i64 v)
  (hK : ∀ w', IMap w' b (n + 1) (fun y => if y = k then some v else f y) → w.grownBy w' (some b) → K (a.put o.dst undef) w') : o.wp Tryz.prog a w K Q := by
 obtain ⟨D, hown, hD⟩ := h
 obtain ⟨w', hrun, r1, r2⟩ := hown.update keyedInt Tryz.underlying126 hn (keyOf_int_mk Tryz.underlying3 hk) (plainElem_int Tryz.underlying3 hv)
 unfold Oper.wp
 simp [execOp, hop, hm, hx, hu, hrun, Result.andThen]
 refine hK w' ⟨_, r1, fun y hy => ?_⟩ r2
 by_cases e : y = k
 ·subst e
  have hkl := keyedInt.key (keyOf_int_mk Tryz.underlying3 hk)
  rw [has_put_same hown.isMap hkl, atKey_put_same hown.isMap hkl]
  simp
 rw [has_put_other (litNe e), atKey_put_other (litNe e)]
 grind
end Go.Proofs.YtpcgklagmcnhaaaGreat
namespace Go.Proofs.YtpcgklagmcnhaaaGreat.Plain
structure Nd where
 kind : Int
 l : List Lk
deriving DecidableEq, Inhabited
def nd0 (ns : List Nd) (i : Nat) : Nd := ns.getD i default
def hasK (n : Nd) (id : Int) : Bool := n.l.any fun x => x.id == id
def atK (ns : List Nd) (id : Int) : List Nat := (List.range ns.length).filter fun i => hasK (nd0 ns i) id
def mergeS (ns : List Nd) (id : Int) : List Nd :=
 match atK ns id with
 | [i, j] => if (nd0 ns i).kind ≠ (nd0 ns j).kind ∨ ((nd0 ns i).kind ≠ 1 ∧ (nd0 ns i).kind ≠ 2) then ns else (ns.set i ⟨(nd0 ns i).kind, ((nd0 ns i).l ++ (nd0 ns j).l).filter fun x => x.id ≠ id⟩).eraseIdx j
 | _ => ns
def mergeK (ns : List Nd) : Nat → List Nd
 | 0 => ns
 | k + 1 => mergeS (mergeK ns k) (-1 - k)
theorem atK_lt {ns : List Nd} {id : Int} {i j : Nat} (h : atK ns id = [i, j]) : i < j ∧ j < ns.length := by
 have hp : (atK ns id).Pairwise (· < ·) := List.Pairwise.filter _ List.pairwise_lt_range
 have hj : j ∈ atK ns id := by rw [h]; simp
 rw [h] at hp
 simp [atK] at hj
 simp at hp
 exact ⟨hp, hj.1⟩
end Go.Proofs.YtpcgklagmcnhaaaGreat.Plain
namespace Go.Proofs.YtpcgklagmcnhaaaGreat
open Go.RowKit Go.Maps
theorem elemLL : Elem 113 24 (.slice none 0 0) 1 24 := ⟨Tryz.underlying113, by kernel_rfl, rfl, by decide, by decide⟩
theorem elemNd : Elem 70 26 (.agg #[.int .i64 0, .slice none 0 0]) 2 32 := ⟨Tryz.underlying70, by kernel_rfl, rfl, by decide, by decide⟩
theorem wl_spread {t e : TypeId} {z : Value} {size bytes : Nat} (E : Elem t e z size bytes) {ops : Array Oper} {rest : List Oper} {o : Oper} {a : Act} {Q : Exit → Act → World → Prop} {w : World} (hg : o.guard = none) (s x : Operand) (ho : o.op = .call { callee := .builtin .append, args := #[s, x], argTypes := #[t, t] })
  {B B' : Nat} {v u : Value} {n m : Nat} {xs ys : List Value} (hs : a.eval s = v) (hx : a.eval x = u) (hown : w.ownsRow B e size v n xs) (hsrc : w.ownsRow B' e size u m ys) (hB : B ≤ w.heap.size)
  (h1 : ∀ y ∈ ys, y.oneCell' = true) (hn : n + m < 68719476736)
  (hK : ∀ v' w', w'.ownsRow B e size v' (n + m) (xs ++ ys) → Chg v.ownBlock.toList w w' → (∀ b ∈ v'.ownBlock.toList, b ∈ v.ownBlock.toList ∨ w.heap.size ≤ b) → wpList Tryz.prog ops Q rest (a.put o.dst v') w') : wpList Tryz.prog ops Q (o :: rest) a w :=
 wpList_plain hg fun _ hK' => wp_spread E s x ho hs hx hown hsrc hB h1 hn fun v' w' r1 r2 r3 => hK' _ _ (hK v' w' r1 r2 r3)
structure LLRow (w : World) (B : Nat) (v : Value) (vs : List Value) (ls : List (List Plain.Lk)) : Prop where
 out : w.ownsRow B 24 1 v vs.length vs
 len : vs.length = ls.length
 row : ∀ i, i < ls.length → LkRow w 0 (vs.getD i undef) (ls.getD i [])
theorem LkRow.off {w w' : World} {B : Nat} {v : Value} {l : List Plain.Lk} {own : List Nat} (h : LkRow w B v l) (hc : Chg own w w') (ho : ∀ b ∈ own, ∀ cs t r, w.heap[b]? = some (.cells cs t r) → t ≠ 50) : LkRow w' B v l :=
 h.chg hc fun b hb hm => by
  obtain ⟨cs, r, hh⟩ := h.kind b hb
  exact ho b hm _ _ _ hh rfl
theorem LLRow.chg {w w' : World} {B : Nat} {v : Value} {vs : List Value} {ls : List (List Plain.Lk)} {own : List Nat} (h : LLRow w B v vs ls) (hc : Chg own w w') (hv : ∀ b, v.ownBlock = some b → b ∉ own) (ho : ∀ b ∈ own, ∀ cs t r, w.heap[b]? = some (.cells cs t r) → t ≠ 50) : LLRow w' B v vs ls :=
 ⟨owns_chg h.out hc hv, h.len, fun i hi => (h.row i hi).off hc ho⟩
theorem LLRow.cell {w : World} {B n c i : Nat} {ao : Option Addr} {vs : List Value} {ls : List (List Plain.Lk)} (h : LLRow w B (.slice ao n c) vs ls) (hi : i < ls.length) : ∃ g uo uc, ao = some ⟨g, 0, none⟩ ∧ vs.getD i undef = .slice uo (ls.getD i []).length uc ∧ w.cell? ⟨g, i, none⟩ = some (.slice uo (ls.getD i []).length uc) := by
 obtain ⟨uo, uc, e⟩ := (h.row i hi).shape
 rcases h.out.2 with ⟨q, h0⟩ | ⟨g, cap, cur, q, hb, hh, hnc, hcm, hcs, hys⟩
 ·have := h.len; omega
 cases q
 refine ⟨g, uo, uc, rfl, e, ?_⟩
 have hl := h.len
 obtain ⟨u, hu⟩ : ∃ u, vs.getD i undef = u := ⟨_, rfl⟩
 have q1 : vs[i]? = some u := by rw [← hu]; simp [List.getD, show i < vs.length by omega]
 rw [cell_of_row w _ i cur 24 (0, 0) hh, ← e, hu]
 rw [← hys, List.getElem?_take, if_pos (by omega)] at q1
 simpa using q1
theorem LLRow.fresh {w w' : World} {B : Nat} {v : Value} {vs : List Value} {ls : List (List Plain.Lk)} (h : LLRow w B v vs ls) (hc : Chg [] w w') : LLRow w' B v vs ls := h.chg hc (by simp) (by simp)
def ndCells : List Plain.Nd → List Value → List Value
 | n :: ns, v :: vs => .int .i64 n.kind :: v :: ndCells ns vs
 | _, _ => []
theorem ndCells_get : ∀ {ns : List Plain.Nd} {vs : List Value} {i : Nat}, vs.length = ns.length → i < ns.length → (ndCells ns vs)[i * 2]? = some (.int .i64 (Plain.nd0 ns i).kind) ∧ (ndCells ns vs)[i * 2 + 1]? = some (vs.getD i undef)
 | n :: ns, v :: vs, 0, _, _ => ⟨rfl, rfl⟩
 | n :: ns, v :: vs, i + 1, h, hi => by
  have ih := ndCells_get (ns := ns) (vs := vs) (i := i) (by simpa using h) (by simpa using hi)
  have e : ndCells (n :: ns) (v :: vs) = .int .i64 n.kind :: v :: ndCells ns vs := rfl
  have e2 : Plain.nd0 (n :: ns) (i + 1) = Plain.nd0 ns i := by simp [Plain.nd0]
  rw [e, e2, show (i + 1) * 2 = i * 2 + 1 + 1 by omega]
  exact ⟨by simpa using ih.1, by simpa using ih.2⟩
theorem ndCells_snoc : ∀ {ns : List Plain.Nd} {vs : List Value} (n : Plain.Nd) (v : Value), vs.length = ns.length → ndCells (ns ++ [n]) (vs ++ [v]) = ndCells ns vs ++ [.int .i64 n.kind, v]
 | [], [], _, _, _ => rfl
 | m :: ns, u :: vs, n, v, h => by
  have ih := ndCells_snoc (ns := ns) (vs := vs) n v (by simpa using h)
  show _ :: _ :: ndCells (ns ++ [n]) (vs ++ [v]) = _
  rw [ih]; rfl
structure NdRow (w : World) (B : Nat) (v : Value) (vs : List Value) (ns : List Plain.Nd) : Prop where
 out : w.ownsRow B 26 2 v ns.length (ndCells ns vs)
 len : vs.length = ns.length
 row : ∀ i, i < ns.length → I64 (Plain.nd0 ns i).kind ∧ LkRow w 0 (vs.getD i undef) (Plain.nd0 ns i).l
section
variable {w w' : World} {B : Nat} {v : Value} {vs : List Value} {ns : List Plain.Nd} {own : List Nat}
theorem NdRow.nil (w : World) (B : Nat) : NdRow w B (.slice none 0 0) [] [] := ⟨World.ownsRow_nil _ _ _ _, rfl, fun i hi => by simp at hi⟩
theorem NdRow.chg (h : NdRow w B v vs ns) (hc : Chg own w w') (hv : ∀ b, v.ownBlock = some b → b ∉ own) (ho : ∀ b ∈ own, ∀ cs t r, w.heap[b]? = some (.cells cs t r) → t ≠ 50) : NdRow w' B v vs ns :=
 ⟨owns_chg h.out hc hv, h.len, fun i hi => ⟨(h.row i hi).1, (h.row i hi).2.off hc ho⟩⟩
theorem NdRow.fresh (h : NdRow w B v vs ns) (hc : Chg [] w w') : NdRow w' B v vs ns := h.chg hc (by simp) (by simp)
theorem NdRow.shape (h : NdRow w B v vs ns) : ∃ ao c, v = .slice ao ns.length c := owns_shape h.out
theorem NdRow.some {ao : Option Addr} {n c i : Nat} (h : NdRow w B (.slice ao n c) vs ns) (hi : i < ns.length) : ∃ g, ao = Option.some ⟨g, 0, none⟩ ∧ w.cell? ⟨g, i * 2, none⟩ = Option.some (.int .i64 (Plain.nd0 ns i).kind) ∧ w.cell? ⟨g, i * 2 + 1, none⟩ = Option.some (vs.getD i undef) ∧ ∃ cs, w.heap[g]? = Option.some (.cells cs 26 (0, 0)) := by
 rcases h.out.2 with ⟨q, h0⟩ | ⟨g, cap, cur, q, hb, hh, hnc, hcm, hcs, hys⟩
 ·omega
 cases q
 obtain ⟨q1, q2⟩ := ndCells_get h.len hi
 refine ⟨g, rfl, ?_, ?_, _, hh⟩
 ·rw [cell_of_row w _ (i * 2) cur 26 (0, 0) hh]
  rw [← hys, List.getElem?_take, if_pos (by omega)] at q1
  simpa using q1
 obtain ⟨u, hu⟩ : ∃ u, vs.getD i undef = u := ⟨_, rfl⟩
 rw [hu] at q2 ⊢
 rw [cell_of_row w _ (i * 2 + 1) cur 26 (0, 0) hh]
 rw [← hys, List.getElem?_take, if_pos (by omega)] at q2
 simpa using q2
end
end Go.Proofs.YtpcgklagmcnhaaaGreat
namespace Go.Proofs
open Go.Shelf
def Tryz.hasRows_ren : Go.Shelf.Ren := ⟨fun | 8 => 103 | 6 => 139 | n => n, fun | 22 => 132 | 23 => 31 | 25 => 164 | 4 => 4 | 3 => 3 | 0 => 0 | n => n, fun | n => n⟩
theorem Tryz.hasRows : Go.Proofs.SlLaysH.n8 Tryz.prog Tryz.hasRows_ren := {
 mixed := by kernel_rfl
 f6 := ⟨Tryz.f139.name, by decide, Tryz.func139.trans (congrArg some (by kernel_rfl))⟩
 f8 := ⟨Tryz.f103.name, by decide, Tryz.func103.trans (congrArg some (by kernel_rfl))⟩
 t0 := Tryz.underlying0
 a0 := Tryz.isAgg0
 z0 := Tryz.sizeOf0
 v0 := Tryz.zeroValue0
 t3 := Tryz.underlying3
 a3 := Tryz.isAgg3
 z3 := Tryz.sizeOf3
 v3 := Tryz.zeroValue3
 t4 := Tryz.underlying4
 a4 := Tryz.isAgg4
 z4 := Tryz.sizeOf4
 v4 := Tryz.zeroValue4
 t22 := Tryz.underlying132
 a22 := Tryz.isAgg132
 z22 := Tryz.sizeOf132
 v22 := Tryz.zeroValue132
 a23 := Tryz.isAgg31
 z23 := Tryz.sizeOf31
 t25 := Tryz.underlying164
 a25 := Tryz.isAgg164
 z25 := Tryz.sizeOf164
 v25 := Tryz.zeroValue164 }
def Tryz.hasLinks_ren : Go.Shelf.Ren := ⟨fun | 8 => 56 | 6 => 85 | n => n, fun | 22 => 24 | 23 => 50 | 25 => 106 | 4 => 4 | 3 => 3 | 0 => 0 | n => n, fun | n => n⟩
theorem Tryz.hasLinks : Go.Proofs.SlLaysH0.n8 Tryz.prog Tryz.hasLinks_ren := {
 mixed := by kernel_rfl
 f6 := ⟨Tryz.f85.name, by decide, Tryz.func85.trans (congrArg some (by kernel_rfl))⟩
 f8 := ⟨Tryz.f56.name, by decide, Tryz.func56.trans (congrArg some (by kernel_rfl))⟩
 t0 := Tryz.underlying0
 a0 := Tryz.isAgg0
 z0 := Tryz.sizeOf0
 v0 := Tryz.zeroValue0
 t3 := Tryz.underlying3
 a3 := Tryz.isAgg3
 z3 := Tryz.sizeOf3
 v3 := Tryz.zeroValue3
 t4 := Tryz.underlying4
 a4 := Tryz.isAgg4
 z4 := Tryz.sizeOf4
 v4 := Tryz.zeroValue4
 t22 := Tryz.underlying24
 a22 := Tryz.isAgg24
 z22 := Tryz.sizeOf24
 v22 := Tryz.zeroValue24
 t25 := Tryz.underlying106
 a25 := Tryz.isAgg106
 z25 := Tryz.sizeOf106
 v25 := Tryz.zeroValue106 }
def Tryz.delInts_ren : Go.Shelf.Ren := ⟨fun | 10 => 121 | 6 => 159 | n => n, fun | 22 => 31 | 23 => 3 | 25 => 171 | 3 => 3 | 4 => 4 | 0 => 0 | n => n, fun | n => n⟩
theorem Tryz.delInts : Go.Proofs.SlLaysH.n10 Tryz.prog Tryz.delInts_ren := {
 mixed := by kernel_rfl
 f6 := ⟨Tryz.f159.name, by decide, Tryz.func159.trans (congrArg some (by kernel_rfl))⟩
 f10 := ⟨Tryz.f121.name, by decide, Tryz.func121.trans (congrArg some (by kernel_rfl))⟩
 t0 := Tryz.underlying0
 a0 := Tryz.isAgg0
 z0 := Tryz.sizeOf0
 v0 := Tryz.zeroValue0
 t3 := Tryz.underlying3
 a3 := Tryz.isAgg3
 z3 := Tryz.sizeOf3
 v3 := Tryz.zeroValue3
 t4 := Tryz.underlying4
 a4 := Tryz.isAgg4
 z4 := Tryz.sizeOf4
 v4 := Tryz.zeroValue4
 t22 := Tryz.underlying31
 a22 := Tryz.isAgg31
 z22 := Tryz.sizeOf31
 v22 := Tryz.zeroValue31
 a23 := Tryz.isAgg3
 z23 := Tryz.sizeOf3
 t25 := Tryz.underlying171
 a25 := Tryz.isAgg171
 z25 := Tryz.sizeOf171
 v25 := Tryz.zeroValue171 }
def Tryz.cloneLinks_ren : Go.Shelf.Ren := ⟨fun | 41 => 29 | n => n, fun | 22 => 24 | 23 => 50 | 4 => 4 | n => n, fun | n => n⟩
theorem Tryz.cloneLinks : Go.Proofs.SlLaysE0.n41 Tryz.prog Tryz.cloneLinks_ren := {
 mixed := by kernel_rfl
 f41 := ⟨Tryz.f29.name, by decide, Tryz.func29.trans (congrArg some (by kernel_rfl))⟩
 t4 := Tryz.underlying4
 a4 := Tryz.isAgg4
 z4 := Tryz.sizeOf4
 v4 := Tryz.zeroValue4
 t22 := Tryz.underlying24
 a22 := Tryz.isAgg24
 z22 := Tryz.sizeOf24
 v22 := Tryz.zeroValue24 }
end Go.Proofs
namespace Go.Proofs.YtpcgklagmcnhaaaGreat
open Go.RowKit Go.Maps Go.Shelf Go.Lib
def encLk (x : Plain.Lk) : List Value := [.int .i64 x.a, .int .i64 x.b, .int .i64 x.id]
theorem cut2_pred (id : Int) (B : Nat) (w : World) (hB : B < w.heap.size) (hcell : w.cell? ⟨B, 0, none⟩ = some (.int .i64 id)) :
  PredBelow Tryz.prog 106 #[.pointer (some ⟨B, 0, none⟩)] (fun x => .agg (encLk x).toArray) (fun x : Plain.Lk => x.id == id) w := fun W x hb => by
 have hc : W.cell? ⟨B, 0, none⟩ = some (.int .i64 id) := (hb.cell (p := ⟨B, 0, none⟩) hB).trans hcell
 have hBW : B < W.heap.size := Nat.lt_of_lt_of_le hB hb.size
 have hne : B ≠ W.heap.size := by omega
 show Calls Tryz.prog 106 #[.agg #[.int .i64 x.a, .int .i64 x.b, .int .i64 x.id], .pointer (some ⟨B, 0, none⟩)] W _
 go_enter Tryz.func106, Tryz.ntmps106
 go_wp2
 go_ret
 exact ⟨rfl, hb.alloc hb.size _⟩
theorem has1_pred (id : Int) (B : Nat) (w : World) (hB : B < w.heap.size) (hcell : w.cell? ⟨B, 0, none⟩ = some (.int .i64 id)) :
  PredBelow Tryz.prog 57 #[.pointer (some ⟨B, 0, none⟩)] (fun x => .agg (encLk x).toArray) (fun x : Plain.Lk => x.id == id) w := fun W x hb => by
 have hc : W.cell? ⟨B, 0, none⟩ = some (.int .i64 id) := (hb.cell (p := ⟨B, 0, none⟩) hB).trans hcell
 have hBW : B < W.heap.size := Nat.lt_of_lt_of_le hB hb.size
 have hne : B ≠ W.heap.size := by omega
 show Calls Tryz.prog 57 #[.agg #[.int .i64 x.a, .int .i64 x.b, .int .i64 x.id], .pointer (some ⟨B, 0, none⟩)] W _
 go_enter Tryz.func57, Tryz.ntmps57
 go_wp2
 go_ret
 exact ⟨rfl, hb.alloc hb.size _⟩
theorem at0_bang {l : List Plain.Lk} {j : Nat} (h : j < l.length) : l[j]! = Plain.at0 l j := by
 unfold Plain.at0
 rw [getElem!_pos l j h]
 simp [List.getD, h]
theorem indexLk_nil (lo : Option Addr) (cap : Nat) (fv : Value) (w : World) :
  Calls Tryz.prog 85 #[.slice lo 0 cap, fv] w fun e w' => e = .returned (.int .i64 (-1)) ∧ w' = w := by
 go_enter Tryz.func85, Tryz.ntmps85
 go_wp2_with fail
 go_loopw [8] (fun iv wr => iv = .int .i64 0 ∧ wr = w) (fun _ _ => 0)
 case atStart => exact ⟨rfl, rfl⟩
 case round =>
  obtain ⟨rfl, rfl⟩ := hrel
  go_wp2
  go_ret
  exact ⟨rfl, rfl⟩
theorem containsLk_nil (lo : Option Addr) (cap : Nat) (fv : Value) (w : World) :
  Calls Tryz.prog 56 #[.slice lo 0 cap, fv] w fun e w' => e = .returned (.bool false) ∧ w' = w := by
 go_enter Tryz.func56, Tryz.ntmps56
 go_wp2_with fail
 refine (indexLk_nil lo cap fv w).mono ?_
 rintro e w' ⟨rfl, rfl⟩
 go_wp2
 go_ret
 exact ⟨rfl, rfl⟩
theorem hasLk_any (g : Nat) (lb : Array Value) (eg : ∀ args w, (callFunc g args).run Tryz.prog w = .ok (.enter g args) w) (v : Value) (l : List Plain.Lk) (p : Plain.Lk → Bool) (w : World) (h : LksAt w v l) (hp : PredBelow Tryz.prog g lb (fun x => .agg (encLk x).toArray) p w) :
  Calls Tryz.prog 56 #[v, .func (.func g) #[] lb] w fun e w' => e = .returned (.bool (l.any p)) ∧ Chg [] w w' := by
 obtain ⟨lo, cap, rfl, hm, hsm, hcell⟩ := h
 by_cases h0 : l.length = 0
 ·have e := List.length_eq_zero_iff.1 h0
  subst e
  refine (containsLk_nil lo cap _ w).mono ?_
  rintro e w' ⟨rfl, rfl⟩
  exact ⟨rfl, Chg.refl _ _⟩
 obtain ⟨b, off, rfl, -⟩ := hcell 0 (by omega)
 have hbw : b < w.heap.size := by
  obtain ⟨b', off', e, c0, -, -⟩ := hcell 0 (by omega)
  cases e
  exact World.block_lt_of_cell? w _ c0
 have hcon := AnyQ.slices_ContainsFunc Tryz.hasLinks 3 Tryz.isAgg50 Tryz.sizeOf50 encLk (fun _ => rfl) p g lb eg b off l.length cap l w hp (Nat.le_refl _) (by omega) hbw (fun j hj i u hi => by
  obtain ⟨b', off', e, c0, c1, c2⟩ := hcell j hj
  cases e
  rw [at0_bang hj] at hi
  match i, hi with
  | 0, hi => simp [encLk] at hi; rw [← hi]; exact c0
  | 1, hi => simp [encLk] at hi; rw [← hi]; exact c1
  | 2, hi => simp [encLk] at hi; rw [← hi]; exact c2
  | i + 3, hi => simp [encLk] at hi)
 change Calls Tryz.prog 56 _ _ _ at hcon
 rw [List.take_length] at hcon
 refine hcon.mono ?_
 rintro e w' ⟨rfl, hb⟩
 exact ⟨rfl, Chg.of_below hb (Nat.le_refl _)⟩
set_option maxRecDepth 100000 in
theorem thas_any (kind id : Int) (v : Value) (l : List Plain.Lk) (w : World) (h : LksAt w v l) :
  Calls Tryz.prog 30 #[.agg #[.int .i64 kind, v], .int .i64 id] w fun e w' => e = .returned (.bool (l.any fun x => x.id == id)) ∧ Chg [] w w' := by
 have eg : ∀ args w, (callFunc 57 args).run Tryz.prog w = .ok (.enter 57 args) w := enters_of Tryz.func57 (by kernel_rfl) rfl
 have hs := h.shape
 have HL := Lib.hid h
 obtain ⟨lo, cap, rfl⟩ := hs
 clear h
 have HC := Lib.hid (((Chg.refl [] w).alloc (.cells #[.int .i64 kind, .slice lo l.length cap] 26)).alloc (.cells #[.int .i64 id] 3))
 go_enter Tryz.func30, Tryz.ntmps30
 go_wp2_with fail
 refine (hasLk_any 57 _ eg _ l (fun x => x.id == id) _ (HL.out.fresh HC.out) (has1_pred id (w.heap.size + 1) _ (by simp) ?_)).mono ?_
 ·have hb := (heap_alloc_new (w.alloc (.cells #[.int .i64 kind, .slice lo l.length cap] 26)) (.cells #[.int .i64 id] 3))
  rw [show (w.alloc (.cells #[.int .i64 kind, .slice lo l.length cap] 26)).heap.size = w.heap.size + 1 by simp] at hb
  exact (cell_of_row _ _ 0 _ _ _ hb).trans rfl
 rintro e w2 ⟨rfl, hc2⟩
 have HC2 := Lib.hid hc2
 clear hc2
 go_wp2
 go_ret
 exact ⟨rfl, HC.out.tr HC2.out⟩
end Go.Proofs.YtpcgklagmcnhaaaGreat
