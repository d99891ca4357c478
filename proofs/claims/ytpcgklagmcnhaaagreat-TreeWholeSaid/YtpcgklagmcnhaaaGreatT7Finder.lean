/- block's finder in memory; finder.take: contract. Conditions: what each law says. -/
import Derived.Test.YtpcgklagmcnhaaaGreatT7Dfs3
namespace Go.Proofs.YtpcgklagmcnhaaaGreat
open Go.RowKit Go.Maps
namespace Plain
def pot (g : Gr) (p : Pt) (s : Dfs) : Nat := ((p.v.filter fun u => decide (s.met u = 0)).map fun u => (dartsAt g p u).length + 1).sum
end Plain
theorem RowAt.cut {w : World} {B g n c i : Nat} {l : List Int} (h : RowAt w B (.slice (.some ⟨g, 0, none⟩) n c) l) (hi : i ≤ l.length) : RowAt w B (.slice (.some ⟨g, 0, none⟩) i c) (l.take i) := by
 have hl : (l.take i).length = i := by rw [List.length_take]; omega
 refine ⟨⟨by rw [hl]; unfold _root_.Go.Proofs.YtpcgklagmcnhaaaGreat.ints; rw [List.length_map, hl]; omega, ?_⟩, fun x hx => h.2.1 x (List.mem_of_mem_take hx), by have := h.2.2; omega⟩
 rw [hl]
 rcases h.1.2 with ⟨e, -⟩ | ⟨g', cap, cur, e, hg, hh, hn, hm, hs, ht⟩
 ·cases e
 simp only [Value.slice.injEq, Option.some.injEq, Addr.mk.injEq, and_true] at e
 obtain ⟨rfl, -, rfl⟩ := e
 refine Or.inr ⟨g, c, cur, rfl, hg, hh, by omega, hm, hs, ?_⟩
 rw [Nat.mul_one] at ht ⊢
 have h2 : cur.toList.take i = (cur.toList.take l.length).take i := by rw [List.take_take, Nat.min_eq_left hi]
 rw [h2, ht]
 unfold _root_.Go.Proofs.YtpcgklagmcnhaaaGreat.ints
 rw [List.map_take]
def FnAt (w : World) (b n : Nat) (f : Int → Int) : Prop := RowAt w 0 (.slice (some ⟨b, 0, none⟩) n n) ((List.range n).map fun i : Nat => f i)
theorem fn_get (n : Nat) (f : Int → Int) {i : Nat} (hi : i < n) : ((List.range n).map fun i : Nat => f i).getD i 0 = f i := by grind
theorem FnAt.cell {w : World} {b n : Nat} {f : Int → Int} (h : FnAt w b n f) {v : Nat} (hv : v < n) : w.cell? ⟨b, v, none⟩ = some (.int .i64 (f v)) := by
 obtain ⟨g, e, hc⟩ := RowAt.some h (by simp; omega)
 grind
theorem FnAt.free {w : World} {b n : Nat} {f : Int → Int} (h : FnAt w b n f) (hn : 0 < n) (i : Nat) : w.frozen? ⟨b, i, none⟩ = false := RowAt.free h (by simpa using hn) i
theorem FnAt.i64 {w : World} {b n : Nat} {f : Int → Int} (h : FnAt w b n f) {v : Nat} (hv : v < n) : I64 (f v) := h.2.1 _ (List.mem_map.2 ⟨v, List.mem_range.2 hv, rfl⟩)
theorem FnAt.chg {w w' : World} {own : List Nat} {b n : Nat} {f : Int → Int} (h : FnAt w b n f) (hc : Chg own w w') (hb : b ∉ own) : FnAt w' b n f := RowAt.chg h hc (fun j hj => by
 have h1 : j ∈ [b] := hj
 rw [List.mem_singleton.1 h1]; exact hb)
theorem FnAt.set {w : World} {b n : Nat} {f : Int → Int} (h : FnAt w b n f) {v : Nat} (_hv : v < n) {x : Int} (hx : I64 x) : FnAt (w.setCell ⟨b, v, none⟩ (.int .i64 x)) b n (Plain.upd f v x) := by
 have := RowAt.set h v x hx
 unfold FnAt
 have e : ((List.range n).map fun i : Nat => f i).set v x = (List.range n).map fun i : Nat => Plain.upd f v x i := by
  refine List.ext_getElem (by simp) fun i h1 h2 => ?_
  all_goals grind [Plain.upd]
 rwa [e] at this
theorem FnAt.kind {w : World} {b n : Nat} {f : Int → Int} (h : FnAt w b n f) : ∃ cs, w.heap[b]? = some (.cells cs 3 (0, 0)) := by
 rcases h.1.2 with ⟨e, -⟩ | ⟨g', cap, cur, e, -, hh, -⟩
 all_goals grind
def Rel (w : World) (B : Nat) (ev : Value) (F : Int → Option Value) (bl : List (List Int)) : Prop :=
 (∀ l ∈ bl, ∃ v, F (l.getD 0 0) = some v ∧ RowAt w B v l ∧ ∀ b, v.ownBlock = some b → ev.ownBlock ≠ some b) ∧ ∀ k v, F k = some v → ∃ l ∈ bl, l.getD 0 0 = k
theorem Rel.put {w : World} {B : Nat} {ev v : Value} {F : Int → Option Value} {bl : List (List Int)} (h : Rel w B ev F bl) {l : List Int} (hv : RowAt w B v l) (ho : ∀ b, v.ownBlock = some b → ev.ownBlock ≠ some b) : Rel w B ev (fun y => if y = l.getD 0 0 then some v else F y) (Plain.setB l bl) := by
 have hmem : ∀ m, m ∈ Plain.setB l bl → m = l ∨ (m ∈ bl ∧ m.getD 0 0 ≠ l.getD 0 0) := fun m hm => by
  all_goals grind [Plain.setB]
 have hl : l ∈ Plain.setB l bl := by
  all_goals grind [Plain.setB]
 have hkeep : ∀ m ∈ bl, m.getD 0 0 ≠ l.getD 0 0 → m ∈ Plain.setB l bl := fun m hm q => by
  all_goals grind [Plain.setB]
 refine ⟨fun m hm => ?_, fun k u hk => ?_⟩
 ·rcases hmem m hm with q | ⟨q, r⟩
  ·rw [q]; exact ⟨v, if_pos rfl, hv, ho⟩
  obtain ⟨u, h1, h2, h3⟩ := h.1 m q
  exact ⟨u, by simp only [if_neg r]; exact h1, h2, h3⟩
 by_cases q : k = l.getD 0 0
 ·exact ⟨l, hl, q.symm⟩
 simp only [if_neg q] at hk
 obtain ⟨m, hm, e⟩ := h.2 k u hk
 exact ⟨m, hkeep m hm (by rw [e]; exact q), e⟩
structure FK where
 w0 : World
 pb : Nat
 mb : Nat
 lb : Nat
 mp : Nat
 n : Nat
 gE : Value
 dv : Value
def FK.own (k : FK) : List Nat := [k.pb, k.mb, k.lb, k.mp]
structure FinAt (k : FK) (g : Plain.Gr) (w : World) (s : Plain.Dfs) (ev : Value) (m : Nat) (F : Int → Option Value) : Prop where
 row : w.heap[k.pb]? = some (.cells #[.int .i64 g.n, k.gE, k.dv, .slice (some ⟨k.mb, 0, none⟩) k.n k.n, .slice (some ⟨k.lb, 0, none⟩) k.n k.n, .int .i64 s.cnt, ev, .map (some k.mp)] 156 (0, 0))
 met : FnAt w k.mb k.n s.met
 low : FnAt w k.lb k.n s.low
 ed : RowAt w k.w0.heap.size ev s.ed
 map : VMap w k.mp m F
 rel : Rel w k.w0.heap.size ev F s.bl
 chg : Chg k.own k.w0 w
def Fin (k : FK) (g : Plain.Gr) (p : Plain.Pt) (w : World) (s : Plain.Dfs) (r : Nat) : Prop := ∃ ev m F, FinAt k g w s ev m F ∧ m + s.ed.length + Plain.pot g p s + r ≤ 100000 ∧ s.cnt + Plain.pot g p s ≤ 100000
structure FK.Ok (k : FK) : Prop where
 lt : ∀ j ∈ k.own, j < k.w0.heap.size
 ml : k.mb ≠ k.lb
theorem FinAt.eight {k : FK} {g : Plain.Gr} {w : World} {s : Plain.Dfs} {ev : Value} {m : Nat} {F : Int → Option Value} (h : FinAt k g w s ev m F) :
  w.cell? ⟨k.pb, 0, none⟩ = some (.int .i64 g.n) ∧ w.cell? ⟨k.pb, 1, none⟩ = some k.gE ∧ w.cell? ⟨k.pb, 2, none⟩ = some k.dv ∧ w.cell? ⟨k.pb, 3, none⟩ = some (.slice (some ⟨k.mb, 0, none⟩) k.n k.n) ∧ w.cell? ⟨k.pb, 4, none⟩ = some (.slice (some ⟨k.lb, 0, none⟩) k.n k.n) ∧
   w.cell? ⟨k.pb, 5, none⟩ = some (.int .i64 s.cnt) ∧ w.cell? ⟨k.pb, 6, none⟩ = some ev ∧ w.cell? ⟨k.pb, 7, none⟩ = some (.map (some k.mp)) :=
 ⟨(cell_of_row _ _ 0 _ _ _ h.row).trans rfl, (cell_of_row _ _ 1 _ _ _ h.row).trans rfl, (cell_of_row _ _ 2 _ _ _ h.row).trans rfl, (cell_of_row _ _ 3 _ _ _ h.row).trans rfl, (cell_of_row _ _ 4 _ _ _ h.row).trans rfl, (cell_of_row _ _ 5 _ _ _ h.row).trans rfl, (cell_of_row _ _ 6 _ _ _ h.row).trans rfl, (cell_of_row _ _ 7 _ _ _ h.row).trans rfl⟩
theorem FinAt.free {k : FK} {g : Plain.Gr} {w : World} {s : Plain.Dfs} {ev : Value} {m : Nat} {F : Int → Option Value} (h : FinAt k g w s ev m F) (i : Nat) : w.frozen? ⟨k.pb, i, none⟩ = false := free_at h.row i
theorem FinAt.ne {k : FK} {g : Plain.Gr} {w : World} {s : Plain.Dfs} {ev : Value} {m : Nat} {F : Int → Option Value} (h : FinAt k g w s ev m F) : k.pb ≠ k.mb ∧ k.pb ≠ k.lb ∧ k.pb ≠ k.mp ∧ k.mb ≠ k.mp ∧ k.lb ≠ k.mp := by
 obtain ⟨c1, h1⟩ := h.met.kind
 obtain ⟨c2, h2⟩ := h.low.kind
 refine ⟨fun e => ?_, fun e => ?_, h.map.ne h.row, h.map.ne h1, h.map.ne h2⟩
 ·have := h.row
  grind
 have := h.row
 grind
theorem Rel.chg {w w' : World} {B : Nat} {ev : Value} {F : Int → Option Value} {bl : List (List Int)} {own : List Nat} (h : Rel w B ev F bl) (hc : Chg own w w') (ho : ∀ j ∈ own, j < B) : Rel w' B ev F bl :=
 ⟨fun l hl => by
  obtain ⟨v, h1, h2, h3⟩ := h.1 l hl
  exact ⟨v, h1, h2.chg hc (fun b hb q => by
   have := (h2.low b hb).1
   have := ho b q
   omega), h3⟩, h.2⟩
section
variable {k : FK} {g : Plain.Gr} {w w' : World} {s : Plain.Dfs} {ev : Value} {m : Nat} {F : Int → Option Value}
theorem FinAt.fresh (h : FinAt k g w s ev m F) (hc : Chg [] w w') : FinAt k g w' s ev m F :=
 ⟨hc.heap h.row (by simp), h.met.chg hc (by simp), h.low.chg hc (by simp), h.ed.chg hc (by simp), h.map.chg hc (by simp), h.rel.chg hc (by simp), h.chg.trans hc (by simp)⟩
theorem FK.Ok.out (hk : k.Ok) {v : Value} {l : List Int} (h : RowAt w k.w0.heap.size v l) : ∀ b ∈ v.ownBlock.toList, ∀ own : List Nat, (∀ j ∈ own, j ∈ k.own) → b ∉ own := fun b hb own ho q => by
 have := (h.low b hb).1
 have := hk.lt b (ho b q)
 omega
theorem FinAt.edges (hk : k.Ok) (h : FinAt k g w s ev m F) {ev' : Value} {ed' : List Int} (hr : RowAt w k.w0.heap.size ev' ed') (ho : ∀ l ∈ s.bl, ∀ v, F (l.getD 0 0) = some v → ∀ b, v.ownBlock = some b → ev'.ownBlock ≠ some b) :
  FinAt k g (w.setCell ⟨k.pb, 6, none⟩ ev') { s with ed := ed' } ev' m F := by
 have hn := h.ne
 have hc : Chg [k.pb] w (w.setCell ⟨k.pb, 6, none⟩ ev') := (Chg.refl [k.pb] w).setCell (Or.inl (by simp)) _
 have hs : ∀ j ∈ [k.pb], j ∈ k.own := by simp [FK.own]
 refine ⟨by simpa using heap_setCell_same h.row 6 ev', h.met.chg hc (by grind), h.low.chg hc (by grind), hr.chg hc (fun b hb => hk.out hr b hb _ hs), h.map.chg hc (by grind), ?_, h.chg.trans hc (fun j hj => Or.inl (hs j hj))⟩
 have := h.rel.chg hc (fun j hj => hk.lt j (hs j hj))
 refine ⟨fun l hl => ?_, this.2⟩
 obtain ⟨v, h1, h2, -⟩ := this.1 l hl
 grind
theorem FinAt.count (hk : k.Ok) (h : FinAt k g w s ev m F) (x : Int) : FinAt k g (w.setCell ⟨k.pb, 5, none⟩ (.int .i64 x)) { s with cnt := x } ev m F := by
 have hn := h.ne
 have hc : Chg [k.pb] w (w.setCell ⟨k.pb, 5, none⟩ (.int .i64 x)) := (Chg.refl [k.pb] w).setCell (Or.inl (by simp)) _
 have hs : ∀ j ∈ [k.pb], j ∈ k.own := by simp [FK.own]
 exact ⟨by simpa using heap_setCell_same h.row 5 (.int .i64 x), h.met.chg hc (by grind), h.low.chg hc (by grind), h.ed.chg hc (fun b hb => hk.out h.ed b hb _ hs), h.map.chg hc (by grind), h.rel.chg hc (fun j hj => hk.lt j (hs j hj)), h.chg.trans hc (fun j hj => Or.inl (hs j hj))⟩
theorem FinAt.setMet (hk : k.Ok) (h : FinAt k g w s ev m F) {v : Nat} (hv : v < k.n) {x : Int} (hx : I64 x) : FinAt k g (w.setCell ⟨k.mb, v, none⟩ (.int .i64 x)) { s with met := Plain.upd s.met v x } ev m F := by
 have hn := h.ne
 have hc : Chg [k.mb] w (w.setCell ⟨k.mb, v, none⟩ (.int .i64 x)) := (Chg.refl [k.mb] w).setCell (Or.inl (by simp)) _
 have hs : ∀ j ∈ [k.mb], j ∈ k.own := by simp [FK.own]
 exact ⟨hc.heap h.row (by grind), h.met.set hv hx, h.low.chg hc (by simpa using fun e => hk.ml e.symm), h.ed.chg hc (fun b hb => hk.out h.ed b hb _ hs), h.map.chg hc (by grind), h.rel.chg hc (fun j hj => hk.lt j (hs j hj)), h.chg.trans hc (fun j hj => Or.inl (hs j hj))⟩
theorem FinAt.setLow (hk : k.Ok) (h : FinAt k g w s ev m F) {v : Nat} (hv : v < k.n) {x : Int} (hx : I64 x) : FinAt k g (w.setCell ⟨k.lb, v, none⟩ (.int .i64 x)) { s with low := Plain.upd s.low v x } ev m F := by
 have hn := h.ne
 have hc : Chg [k.lb] w (w.setCell ⟨k.lb, v, none⟩ (.int .i64 x)) := (Chg.refl [k.lb] w).setCell (Or.inl (by simp)) _
 have hs : ∀ j ∈ [k.lb], j ∈ k.own := by simp [FK.own]
 exact ⟨hc.heap h.row (by grind), h.met.chg hc (by simpa using hk.ml), h.low.set hv hx, h.ed.chg hc (fun b hb => hk.out h.ed b hb _ hs), h.map.chg hc (by grind), h.rel.chg hc (fun j hj => hk.lt j (hs j hj)), h.chg.trans hc (fun j hj => Or.inl (hs j hj))⟩
theorem FinAt.push (hk : k.Ok) (h : FinAt k g w s ev m F) {v6 : Value} {w6 : World} {e : Int} (hr : RowAt w6 k.w0.heap.size v6 (s.ed ++ [e])) (hc : Chg (foot ev) w w6) (ho : ∀ b ∈ foot v6, b ∈ foot ev ∨ w.heap.size ≤ b) :
  FinAt k g (w6.setCell ⟨k.pb, 6, none⟩ v6) (s.push e) v6 m F := by
 rw [h.ed.foot] at hc ho
 rw [hr.foot] at ho
 have hn := h.ne
 have hx : ∀ j ∈ k.own, j ∉ ev.ownBlock.toList := fun j hj q => by
  have := (h.ed.low j q).1
  have := hk.lt j hj
  omega
 have hc2 : Chg [k.pb] w6 (w6.setCell ⟨k.pb, 6, none⟩ v6) := (Chg.refl [k.pb] w6).setCell (Or.inl (by simp)) _
 have hs : ∀ j ∈ [k.pb], j ∈ k.own := by simp [FK.own]
 have hy : ∀ {v : Value} {l : List Int}, RowAt w6 k.w0.heap.size v l → ∀ b ∈ v.ownBlock.toList, b ∉ [k.pb] := fun hv b hb q => by
  have := (hv.low b hb).1
  have := hk.lt _ (hs b q)
  omega
 refine ⟨by simpa [Plain.Dfs.push] using heap_setCell_same (hc.heap h.row (hx _ (by grind))) 6 v6, (h.met.chg hc (hx _ (by simp [FK.own]))).chg hc2 (by grind), (h.low.chg hc (hx _ (by simp [FK.own]))).chg hc2 (by grind), hr.chg hc2 (hy hr), (h.map.chg hc (hx _ (by simp [FK.own]))).chg hc2 (by grind), ⟨fun l hl => ?_, h.rel.2⟩, (h.chg.trans hc (fun j hj => Or.inr (h.ed.low j hj).1)).trans hc2 (fun j hj => Or.inl (hs j hj))⟩
 obtain ⟨v, h1, h2, h3⟩ := h.rel.1 l hl
 have h4 := h2.chg hc (fun b hb q => h3 b (by grind) (by grind))
 refine ⟨v, h1, h4.chg hc2 (hy h4), fun b hb q => ?_⟩
 rcases ho b (by simp [q]) with r | r
 ·exact h3 b hb (by simpa using r)
 have := (h2.low b (by simp [hb])).2
 omega
theorem FinAt.put (hk : k.Ok) (h : FinAt k g w s ev m F) {l : List Int} {v : Value} {m' : Nat} (hv : RowAt w k.w0.heap.size v l) (ho : ∀ b, v.ownBlock = some b → ev.ownBlock ≠ some b) (hc : Chg [k.mp] w w') (hm : VMap w' k.mp m' (fun y => if y = l.getD 0 0 then some v else F y)) :
  FinAt k g w' { s with bl := Plain.setB l s.bl } ev m' (fun y => if y = l.getD 0 0 then some v else F y) := by
 have hn := h.ne
 have hs : ∀ j ∈ [k.mp], j ∈ k.own := by simp [FK.own]
 exact ⟨hc.heap h.row (by grind), h.met.chg hc (by grind), h.low.chg hc (by grind), h.ed.chg hc (fun b hb => hk.out h.ed b hb _ hs), hm, (h.rel.chg hc (fun j hj => hk.lt j (hs j hj))).put (hv.chg hc (fun b hb => hk.out hv b hb _ hs)) ho, h.chg.trans hc (fun j hj => Or.inl (hs j hj))⟩
theorem FinAt.other (h : FinAt k g w s ev m F) {b : Nat} (hb : k.w0.heap.size ≤ b) (hk : k.Ok) (hev : ev.ownBlock ≠ some b) (hr : ∀ l ∈ s.bl, ∀ v, F (l.getD 0 0) = some v → v.ownBlock ≠ some b) (hc : Chg [b] w w') : FinAt k g w' s ev m F := by
 have hx : ∀ j ∈ k.own, j ∉ [b] := fun j hj q => by
  have := hk.lt j hj
  grind
 have hm : ∀ j ∈ k.own, j ≠ b := fun j hj q => hx j hj (by simp [q])
 refine ⟨hc.heap h.row (hx _ (by simp [FK.own])), h.met.chg hc (hx _ (by simp [FK.own])), h.low.chg hc (hx _ (by simp [FK.own])), h.ed.chg hc (fun j hj q => hev ?_), h.map.chg hc (hx _ (by simp [FK.own])), ⟨fun l hl => ?_, h.rel.2⟩, h.chg.trans hc (fun j hj => Or.inr (by grind))⟩
 ·simp at q hj
  rw [← q]; exact hj
 obtain ⟨v, h1, h2, h3⟩ := h.rel.1 l hl
 refine ⟨v, h1, h2.chg hc (fun j hj q => hr l hl v h1 ?_), h3⟩
 simp at q hj
 rw [← q]; exact hj
end
end Go.Proofs.YtpcgklagmcnhaaaGreat
-- READS ONLY
namespace Go.Proofs.YtpcgklagmcnhaaaGreat
open Go.RowKit Go.Maps
theorem op_vstore {o : Oper} {a : Act} {Q : Exit → Act → World → Prop} {K : Act → World → Prop} {w : World} (m x u : Operand) (hop : o.op = Op.mapUpdate 121 m x u) {b n : Nat} {F : Int → Option Value} (h : VMap w b n F) (hn : n < maxLen) (hm : a.eval m = .map (some b)) {k : Int} (hk : I64 k) (hx : a.eval x = .int .i64 k) {v : Value} (hu : a.eval u = v) (hv : RowV v)
  (hK : ∀ w2, VMap w2 b (n + 1) (fun y => if y = k then some v else F y) → Chg [b] w w2 → K (a.put o.dst undef) w2) : Oper.wp Tryz.prog o a w K Q := by
 obtain ⟨w2, hrun, r1, r2⟩ := h.store_run hn hk hv
 unfold Oper.wp
 simp [execOp, hop, hm, hx, hu, hrun, Result.andThen]
 exact hK _ r1 r2
set_option maxRecDepth 100000 in
set_option maxHeartbeats 4000000 in
theorem ftake_any (k : FK) (g : Plain.Gr) (p : Plain.Pt) (hk : k.Ok) (s : Plain.Dfs) (e : Nat) (r : Nat) (w : World) (he : (e : Int) ∈ s.ed) (h : Fin k g p w s r) :
  Calls Tryz.prog 167 #[.pointer (some ⟨k.pb, 0, none⟩), .int .i64 e] w fun x w' => x = .returned (.tuple #[]) ∧ Fin k g p w' (s.take e) r := by
 obtain ⟨ev, m, F, hf, hm1, hm2⟩ := h
 have hlen : s.ed.length ≤ 100000 := by omega
 have HF := Lib.hid hf
 obtain ⟨eo, ec, rfl⟩ := RowAt.shape hf.ed
 have hpos : 0 < s.ed.length := List.length_pos_of_mem he
 obtain ⟨eb, rfl, hcell⟩ := RowAt.some hf.ed hpos
 have HCE := Lib.hid hcell
 have hcap : s.ed.length ≤ ec ∧ ec ≤ 9223372036854775807 := by
  rcases hf.ed.1.2 with ⟨q, -⟩ | ⟨g', cap, cur, q, -, -, hn, hmx, -⟩
  ·cases q
  simp only [Value.slice.injEq] at q
  obtain ⟨-, -, rfl⟩ := q
  exact ⟨hn, by unfold maxLen at hmx; omega⟩
 obtain ⟨i, hi⟩ : ∃ i, s.ed.idxOf (e : Int) = i := ⟨_, rfl⟩
 have hil : i < s.ed.length := by rw [← hi]; exact List.idxOf_lt_length_of_mem he
 have hix := Lib.idxOf_hit s.ed s.ed.length i e hil (Nat.le_refl _) (by
  subst hi
  simp [List.getD, hil, List.getElem_idxOf]) (fun j hj q => by
  have hjl : j < s.ed.length := by omega
  have h2 : s.ed[j] = (e : Int) := by simpa [List.getD, hjl] using q
  have h3 := List.not_of_lt_findIdx (p := fun x => x == (e : Int)) (xs := s.ed) (i := j) (by show j < s.ed.idxOf (e : Int); rw [hi]; exact hj)
  simp [h2] at h3)
 have HIX := Lib.hid hix
 have HI := Lib.hid hi
 obtain ⟨-, -, -, -, -, -, c6, c7⟩ := hf.eight
 have f6 := hf.free 6
 obtain ⟨L, hL⟩ : ∃ L, s.ed.length = L := ⟨_, rfl⟩
 have HL := Lib.hid hL
 rw [hL] at hcap hil HIX c6 hlen HCE
 have HCL := Lib.hid (show ∀ j, j < (s.ed.drop i).length → w.cell? ⟨eb, i + j, none⟩ = some (.int .i64 ((s.ed.drop i).getD j 0)) from fun j hj => by
  grind)
 clear hf hcell hix hi hL hpos he
 go_enter Tryz.func167, Tryz.ntmps167
 go_wp2_with fail
 refine (Tryz.slices_Index_int eb 0 L ec s.ed (e : Int) w (by rw [HL.out]; exact Nat.le_refl _) (by omega) (fun j hj => by rw [HL.out] at hj; rw [Nat.zero_add]; exact HCE.out j hj)).mono ?_
 rintro x w' ⟨rfl, rfl⟩
 rw [HIX.out]
 go_wp2_with fail
 refine (Tryz.slices_Clone_int eb i (L - i) (ec - i) (s.ed.drop i) _ (by rw [List.length_drop, HL.out]; exact Nat.le_refl _) (by omega) HCL.out).mono ?_
 rintro x wa ⟨vc, rfl, hcl, -, hbl⟩
 rw [show ((s.ed.drop i).take (L - i)).map (Value.int .i64) = ints (s.ed.drop i) by rw [List.take_of_length_le (by rw [List.length_drop, HL.out]; exact Nat.le_refl _)]; rfl] at hcl
 have hca := Chg.of_below hbl (Nat.le_refl _)
 obtain ⟨cb, ccap, rfl⟩ := owns_some hcl (by omega)
 have HCB := Lib.hid (show w'.heap.size ≤ cb from (hcl.lt cb rfl).1)
 have HFA := Lib.hid (HF.out.fresh hca)
 have hdl : (s.ed.drop i).length = L - i := by rw [List.length_drop, HL.out]
 have hra : RowAt wa w'.heap.size (.slice (some ⟨cb, 0, none⟩) (L - i) ccap) (s.ed.drop i) := ⟨by grind, fun x hx => HF.out.ed.2.1 x (List.mem_of_mem_drop hx), by grind⟩
 have HRA := Lib.hid hra
 have HSZ := Lib.hid (show k.w0.heap.size ≤ w'.heap.size from HF.out.chg.size)
 have HEB := Lib.hid (show eb < w'.heap.size from (HF.out.ed.low eb (by simp [Value.ownBlock])).2)
 have HRB := Lib.hid (show ∀ l ∈ s.bl, ∀ v, F (l.getD 0 0) = some v → ∀ b, v.ownBlock = some b → b < w'.heap.size ∧ b ≠ eb from fun l hl v hv b hb => by
  obtain ⟨u, h1, h2, h3⟩ := HF.out.rel.1 l hl
  rw [hv] at h1
  obtain rfl : v = u := by simpa using h1
  exact ⟨(h2.low b (by simp [hb])).2, fun q => h3 b hb (by rw [q]; rfl)⟩)
 have d6 := hca.cell c6 (by simp)
 have d7 := hca.cell c7 (by simp)
 have g6 := hca.frozen c6 f6 (by simp)
 have HFE := Lib.hid (HFA.out.edges hk (ev' := .slice (some ⟨eb, 0, none⟩) i ec) (ed' := s.ed.take i) ((HL.out ▸ HFA.out.ed : RowAt wa k.w0.heap.size (.slice (some ⟨eb, 0, none⟩) L ec) s.ed).cut (by grind)) (fun l hl v hv b hb q => (HRB.out l hl v hv b hb).2 (by simpa [Value.ownBlock] using q.symm)))
 clear hcl hbl hca hra hdl c6 c7 f6
 go_wp2_with fail
 have hcw : Chg [k.pb] wa (wa.setCell ⟨k.pb, 6, none⟩ (.slice (some ⟨eb, 0, none⟩) i ec)) := (Chg.refl [k.pb] wa).setCell (Or.inl (by simp)) _
 have hpb : k.pb < k.w0.heap.size := hk.lt _ (by simp [FK.own])
 have HRB2 := Lib.hid ((HRA.out.chg hcw (by
  intro b hb q
  have h1 : b = cb := by simpa [Value.ownBlock] using hb
  have h2 : b = k.pb := by grind
  have h3 := HCB.out
  have h4 := HSZ.out
  omega)).base HSZ.out)
 clear hcw d6 d7 g6 HRA HCL HFA HCE
 generalize wa.setCell ⟨k.pb, 6, none⟩ (.slice (some ⟨eb, 0, none⟩) i ec) = wb at *
 obtain ⟨Q, hQ⟩ : ∃ Q, s.ed.drop i = Q := ⟨_, rfl⟩
 have hql : Q.length = L - i := by rw [← hQ, List.length_drop, HL.out]
 rw [hQ] at HRB2
 refine (sortI_any _ Q _ wb (by omega) HRB2.out).mono ?_
 rintro x wc ⟨rfl, hrc, hcc⟩
 have hsl : (Plain.srt Q).length = L - i := by rw [(Plain.srt_perm Q).length_eq, hql]
 have hrc' : RowAt wc k.w0.heap.size (.slice (some ⟨cb, 0, none⟩) (L - i) ccap) (Plain.srt Q) := hrc
 have HRC := Lib.hid hrc'
 have hbe : eb ≠ cb := by have := HCB.out; have := HEB.out; omega
 have HFC := Lib.hid (HFE.out.other (b := cb) (by have := HCB.out; have := HSZ.out; omega) hk (by simpa [Value.ownBlock] using hbe) (fun l hl v hv q => by
  have h1 := (HRB.out l hl v hv cb q).1
  have h2 := HCB.out
  omega) (by simpa [Value.ownBlock] using hcc))
 obtain ⟨-, -, -, -, -, -, -, k7⟩ := HFC.out.eight
 obtain ⟨g', e1, hc0⟩ := RowAt.some hrc' (by omega)
 cases e1
 have k0 := hc0 0 (by omega)
 obtain ⟨z, hz⟩ : ∃ z, (Plain.srt Q).getD 0 0 = z := ⟨_, rfl⟩
 have HZ := Lib.hid hz
 have IZ : I64 z := hz ▸ hrc'.2.1 _ (Plain.getD_mem (by omega))
 rw [hz] at k0
 have hn0 : 0 < L - i := by omega
 generalize L - i = M at *
 have hn1 : (0 : Int) < (M : Int) := by omega
 have HQ := Lib.hid hQ
 clear hQ hql hrc hrc' hcc hc0 hz hsl hpb hbe HFE HRB2
 go_wp2_with fail
 have hS0 : Chg [] wc wc.drew := (Chg.refl [] wc).drew
 refine wp_region_way (Chg [] wc) [0, 1, 2, 3, 4, 5, 6, 7] (Way.line [0, 1, 2, 3, 4, 5, 6, 7, 8] .done) (by kernel_rfl) (by kernel_rfl) ?_
 simp only [Way.line]
 repeat (refine along_read (v := ?_) rfl (by rfl) (by rfl) (fun _ _ _ h => h) hS0 (fun w' hS' => ?_) ?_; rotate_left; (focus (have rd0 := hS'.cell k7 (by simp); have rd1 := hS'.cell k0 (by simp); clear hS'; go_simp; try with_reducible rfl)); simp only [Act.put, Z1, Z2, Z3, Z4, Z5, Z6])
 refine along_op rfl (by rfl) (by rfl) (fun K hK => ?_)
 refine op_vstore _ _ _ rfl ((HFC.out.fresh hS0).map) (by unfold maxLen; omega) rfl IZ rfl rfl (RowV.some _ _ _ _) ?_
 intro wd hmd hcd
 refine hK.out _ _ (fun h => absurd h (Bool.eq_false_iff.1 (by kernel_rfl))) ?_
 clear hK K
 try simp only [Act.put, List.getElem_toArray, List.getElem_cons_zero, List.getElem_cons_succ]
 refine along_done ?_
 have HFD := Lib.hid ((HFC.out.fresh hS0).put hk ((HRC.out.chg hS0 (by simp))) (fun b hb q => by
  have h1 : b = cb := by simpa [Value.ownBlock] using hb.symm
  have h2 : b = eb := by simpa [Value.ownBlock] using q.symm
  have := HCB.out
  have := HEB.out
  omega) hcd (by rw [HZ.out]; exact hmd))
 refine bodyPost_end (v := .tuple #[]) (by simp [results, Tryz.results167, go_sem]) rfl ?_
 have e : s.take (e : Int) = ⟨s.met, s.low, s.cnt, s.ed.take i, Plain.setB (Plain.srt Q) s.bl⟩ := by
  unfold Plain.Dfs.take
  rw [HI.out, HQ.out]
 rw [e]
 exact ⟨rfl, _, m + 1, _, HFD.out, by
  show m + 1 + (s.ed.take i).length + Plain.pot g p s + r ≤ 100000
  rw [List.length_take, HL.out, Nat.min_eq_left (by omega)]
  have := HL.out
  omega, hm2⟩
end Go.Proofs.YtpcgklagmcnhaaaGreat
namespace Go.Proofs.YtpcgklagmcnhaaaGreat.Plain
variable {g : Gr} {p : Pt}
theorem DSeen.less {s t : Dfs} {A : List Int} {v via : Int} (hE : Ent g p s A v via) {n : Nat} (hn : unm p s ≤ n + 1) {pre : List Int} {d : Int} (h : DSeen g p s t A v via pre) : unm p (t.push d) ≤ n := by
 have : unm p (t.push d) < unm p s := by
  refine filter_lt_filter (a := v) (fun x _ hx => ?_) hE.vV ?_ (decide_eq_true hE.vn)
  ·have hx : t.met x = 0 := of_decide_eq_true hx
   exact decide_eq_true (Classical.byContradiction fun q => h.mono q hx)
  exact decide_eq_false (h.newv hE).2
 omega
theorem DSeen.step (hp : PartOk g p) {n : Nat} {s t : Dfs} {A : List Int} {v via : Int} (hE : Ent g p s A v via) (hn : unm p s ≤ n + 1) {pre : List Int} {d : Int} (h : DSeen g p s t A v via pre) (hdm : d ∈ dartsAt g p v) (hdp : d ∉ pre) : DSeen g p s (stepD (visit g p n) g v via t d) A v via (pre ++ [d]) := by
 obtain ⟨hd, hv⟩ := mem_dartsAt.1 hdm
 have hnv := h.newv hE
 unfold stepD
 by_cases c1 : g.head d = v
 ·rw [if_pos c1]; exact h.loop hp hE hd hv c1
 rw [if_neg c1]
 by_cases c2 : d / 2 = via
 ·rw [if_pos c2]
  have hA := hE.via_head hp hd hv c2
  exact h.same (h.mono (hE.good.act _ hA)) (fun _ q => absurd c2 q) fun q => absurd c2 q
 rw [if_neg c2]
 by_cases c3 : t.met (g.head d) = 0
 ·rw [if_pos c3]
  refine h.child hp hE hd hv hdp c2 c3 (visit_ok hp n _ _ _ _ (h.ent hp hE hd hv c3) ?_)
  exact h.less hE hn
 rw [if_neg c3]
 by_cases c4 : t.met (g.head d) < t.met v
 ·rw [if_pos c4]; exact h.up hp hE hd hv hdp c1 c2 c3 c4
 rw [if_neg c4]
 have hs0 : s.met (g.head d) = 0 := Classical.byContradiction fun q => by
  have h1 := (hE.good.num (g.head d)).2
  rw [(h.old _ q).1, h.me] at c4
  omega
 refine h.same c3 (fun q => absurd hs0 (hE.good.act _ q)) fun q => ⟨q, twin d, twin_mem hd, twin_div d, by rw [tail_twin]; exact ⟨hs0, c3⟩, Or.inl (by grind [tail_twin])⟩
theorem sum_out {v : Int} {f f' : Int → Bool} {h : Int → Nat} (hf : f v = true) (hf' : f' v = false) (heq : ∀ x, x ≠ v → f x = f' x) : ∀ {l : List Int}, l.Nodup → v ∈ l → ((l.filter f).map h).sum = h v + ((l.filter f').map h).sum
 | [], _, hv => by simp at hv
 | x :: l, hn, hv => by
  by_cases e : x = v
  ·subst e
   have hx : x ∉ l := (List.nodup_cons.1 hn).1
   have : l.filter f = l.filter f' := List.filter_congr fun y hy => heq y fun q => hx (q ▸ hy)
   rw [List.filter_cons_of_pos hf, List.filter_cons_of_neg (by simp [hf']), this]
   simp
  have ih := sum_out (h := h) hf hf' heq (l := l) (List.nodup_cons.1 hn).2 ((List.mem_cons.1 hv).resolve_left fun q => e q.symm)
  have e2 := heq x e
  cases q : f' x with
  | true =>
   rw [q] at e2
   rw [List.filter_cons_of_pos e2, List.filter_cons_of_pos q]
   simp only [List.map_cons, List.sum_cons]
   omega
  | false =>
   rw [q] at e2
   rw [List.filter_cons_of_neg (by simp [e2]), List.filter_cons_of_neg (by simp [q])]
   exact ih
theorem pot_enter (hp : PartOk g p) {s : Dfs} {v : Int} (hv : v ∈ p.v) (hm : s.met v = 0) (hc : 0 ≤ s.cnt) : pot g p s = (dartsAt g p v).length + 1 + pot g p (s.enter v) := by
 unfold pot
 refine sum_out (v := v) (decide_eq_true hm) ?_ (fun x hx => ?_) hp.vn hv
 ·refine decide_eq_false ?_
  show upd s.met v (s.cnt + 1) v ≠ 0
  grind [upd_at]
 show decide (s.met x = 0) = decide (upd s.met v (s.cnt + 1) x = 0)
 rw [upd_ne hx]
end Go.Proofs.YtpcgklagmcnhaaaGreat.Plain
