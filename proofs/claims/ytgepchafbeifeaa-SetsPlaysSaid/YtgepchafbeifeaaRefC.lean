/- the document's answer for package sets: the contract of Join. Conditions: a value that stands in memory; few things. -/
import Derived.Test.YtgepchafbeifeaaRefB
namespace Go.Proofs.Ytgepchafbeifeaa
open Go.RowKit Go.Maps

theorem RefAt.chg {w w' : World} {B : Nat} {v : Value} {s : St} {own : List Nat} (h : RefAt w B v s) (hc : Chg own w w') (hn : ∀ b ∈ _root_.Go.Proofs.Ytgepchafbeifeaa.foot v, b ∉ own) : RefAt w' B v s := (firm_ref B s).1 own v w w' hc hn h

theorem RefAt.fresh {w w' : World} {B : Nat} {v : Value} {s : St} (h : RefAt w B v s) (hc : Chg [] w w') : RefAt w' B v s := h.chg hc (by simp)

theorem St.small_grp {s : St} (hs : s.Ok) (hn : s.all.length < 1000000) : ∀ x ∈ s.grp.map (fun (k : Nat) => (k : Int)), I64 x := by
  intro x hx
  obtain ⟨k, hk, rfl⟩ := List.mem_map.1 hx
  obtain ⟨i, hi, rfl⟩ := List.getElem_of_mem hk
  have h1 := hs.le i hi
  have h2 := hs.len
  simp only [St.hd, List.getD, List.getElem?_eq_getElem hi, Option.getD_some] at h1
  exact I64.mk (by omega) (by omega)

theorem RowAt.ne {w : World} {B : Nat} {v : Value} {l : List Int} (h : RowAt w B v l) {b : Nat} {cs : Array Value} {r : Nat × Nat} (hb : w.heap[b]? = some (.cells cs 37 r)) : ∀ j ∈ v.ownBlock.toList, j ≠ b := by
  intro j hj e
  subst e
  rcases h.1.2 with ⟨rfl, -⟩ | ⟨g, cap, cur, rfl, -, hh, -⟩
  · simp [Value.ownBlock] at hj
  · simp [Value.ownBlock] at hj
    subst hj
    rw [hb] at hh
    simp at hh

theorem RowAt.some {w : World} {B : Nat} {ao : Option Addr} {n c : Nat} {l : List Int} (h : RowAt w B (.slice ao n c) l) (hl : 0 < l.length) : ∃ g, ao = some ⟨g, 0, none⟩ ∧ ∀ i, i < l.length → w.cell? ⟨g, i, none⟩ = .some (.int .i64 (l.getD i 0)) := by
  rcases h.1.2 with ⟨e, h0⟩ | ⟨g, cap, cur, e, -, hh, -⟩
  · omega
  · obtain ⟨ao', c', e1, h1, h2, h3⟩ := h.ints
    obtain ⟨b, off, rfl, h4⟩ := h3 (by intro q; rw [q] at hl; simp at hl)
    simp only [Value.slice.injEq] at e e1
    obtain ⟨rfl, -, -⟩ := e
    obtain ⟨e2, -, -⟩ := e1
    simp only [Option.some.injEq, Addr.mk.injEq] at e2
    obtain ⟨rfl, rfl, -⟩ := e2
    exact ⟨_, rfl, fun i hi => by simpa using h4 i hi⟩

theorem two_args {u v u' v' : Value} (h : u = u') (h' : v = v') : [u, v] = [u', v'] := by rw [h, h']

theorem enter_find (args : Array Value) (w : World) : (callFunc 15 args).run Try.prog w = .ok (.enter 15 args) w := by
  kernel_rfl

/-- A call of a function by its name. -/
theorem wp_calls {P : Program} {o : Oper} {a : Act} {K : Act → World → Prop} {Q : Exit → Act → World → Prop} {w : World} {f : FuncId} {xs : Array Operand} {tys : Array TypeId} {args : Array Value} (ho : o.op = .call { callee := .value (.func f), args := xs, argTypes := tys })
    (he : ∀ args w, (callFunc f args).run P w = .ok (.enter f args) w) (hx : xs.toList.map a.eval = args.toList) (h : Calls P f args w fun e w' => ∃ v, e = .returned v ∧ K (a.put o.dst v) w') : o.wp P a w K Q := by
  have e : (execOp a.eval o).run P w = .ok (.enter f args) w := by
    unfold execOp
    have hx' : xs.map a.eval = args := by
      apply Array.toList_inj.1
      rw [Array.toList_map]
      exact hx
    simp only [ho]
    simp [resolve, go_sem, hx', he]
  unfold Oper.wp
  rw [e, Oper.upon_enter]
  refine h.mono ?_
  rintro e' w' ⟨v, rfl, hk⟩
  exact hk

theorem wl_cat {ops : Array Oper} {rest : List Oper} {o : Oper} {a : Act} {Q : Exit → Act → World → Prop} {w : World} (hg : o.guard = none) (s x : Operand) (ho : o.op = .call { callee := .builtin .append, args := #[s, x], argTypes := #[35, 35] })
    {B B' : Nat} {v u : Value} {l m : List Int} (hs : a.eval s = v) (hx : a.eval x = u) (h1 : RowAt w B v l) (h2 : RowAt w B' u m) (hB : B ≤ w.heap.size) (hn : l.length + m.length < 4294967296)
    (hK : ∀ v' w', RowAt w' B v' (l ++ m) → Chg (foot v) w w' → (∀ b ∈ foot v', b ∈ foot v ∨ w.heap.size ≤ b) → wpList Try.prog ops Q rest (a.put o.dst v') w') : wpList Try.prog ops Q (o :: rest) a w :=
  wpList_plain hg fun K hK' => wp_cat s x ho hs hx h1 h2 hB hn fun v' w' r1 r2 r3 => hK' _ _ (hK v' w' r1 r2 r3)

/-- A row written at a place. -/
theorem RowAt.set {w : World} {B g n c : Nat} {l : List Int} (h : RowAt w B (.slice (.some ⟨g, 0, none⟩) n c) l) (i : Nat) (x : Int) (hx : I64 x) : RowAt (w.setCell ⟨g, i, none⟩ (.int .i64 x)) B (.slice (.some ⟨g, 0, none⟩) n c) (l.set i x) := by
  obtain ⟨ao, c', e⟩ := h.shape
  simp only [Value.slice.injEq] at e
  obtain ⟨-, rfl, -⟩ := e
  refine ⟨?_, fun y hy => ?_, by rw [List.length_set]; exact h.2.2⟩
  · have := (h.1.stored i (.int .i64 x)).1
    rw [List.length_set, _root_.Go.Proofs.Ytgepchafbeifeaa.ints, List.map_set]
    exact this
  · rcases List.mem_or_eq_of_mem_set hy with q | q
    · exact h.2.1 y q
    · rw [q]; exact hx

theorem RowAt.free {w : World} {B g n c : Nat} {l : List Int} (h : RowAt w B (.slice (.some ⟨g, 0, none⟩) n c) l) (hl : 0 < l.length) (i : Nat) : w.frozen? ⟨g, i, none⟩ = false := by
  rcases h.1.2 with ⟨e, h0⟩ | ⟨g', cap, cur, e, -, hh, -⟩
  · omega
  · simp only [Value.slice.injEq, Option.some.injEq, Addr.mk.injEq] at e
    obtain ⟨⟨rfl, -⟩, -⟩ := e
    simp [World.frozen?, hh]

/-- The groups' numbers, the first k of them turned. -/
def turned (grp : List Nat) (a b k : Nat) : List Int := (((relabel grp a b).take k) ++ grp.drop k).map fun (k : Nat) => (k : Int)

theorem turned_len (grp : List Nat) (a b k : Nat) (h : k ≤ grp.length) : (turned grp a b k).length = grp.length := by
  simp [turned, relabel]
  omega

theorem turned_get (grp : List Nat) (a b k : Nat) (h : k < grp.length) : (turned grp a b k).getD k 0 = ((grp.getD k 0 : Nat) : Int) := by
  have hl : (relabel grp a b).length = grp.length := by simp [relabel]
  simp [turned, List.getD, List.getElem?_append, hl, h, Nat.min_eq_left (Nat.le_of_lt h)]

theorem turned_succ (grp : List Nat) (a b k : Nat) (h : k < grp.length) (x : Nat) (hx : x = if grp.getD k 0 = max a b then min a b else grp.getD k 0) : turned grp a b (k + 1) = (turned grp a b k).set k (x : Int) := by
  have hl : (relabel grp a b).length = grp.length := by simp [relabel]
  have hr : (relabel grp a b)[k]'(by omega) = x := by
    simp only [hx, relabel, List.getElem_map, List.getD, List.getElem?_eq_getElem h, Option.getD_some]
  unfold turned
  rw [← List.map_set]
  congr 1
  rw [List.take_succ_eq_append_getElem (by omega), hr, List.append_assoc, List.set_append, List.length_take, hl, Nat.min_eq_left (Nat.le_of_lt h), if_neg (by omega), Nat.sub_self, List.drop_eq_getElem_cons h, List.set_cons_zero]
  rfl

theorem turned_same (grp : List Nat) (a b k : Nat) (h : k < grp.length) (hx : grp.getD k 0 ≠ max a b) : turned grp a b (k + 1) = turned grp a b k := by
  rw [turned_succ grp a b k h (grp.getD k 0) (by rw [if_neg hx]), ← turned_get grp a b k h]
  have hl := turned_len grp a b k (Nat.le_of_lt h)
  have hk : k < (turned grp a b k).length := by omega
  simp [List.getD, hk]

theorem turned_zero (grp : List Nat) (a b : Nat) : turned grp a b 0 = grp.map fun (k : Nat) => (k : Int) := by simp [turned]

theorem turned_all (grp : List Nat) (a b : Nat) : turned grp a b grp.length = (relabel grp a b).map fun (k : Nat) => (k : Int) := by
  have hl : (relabel grp a b).length = grp.length := by simp [relabel]
  simp [turned, ← hl]

set_option maxHeartbeats 1000000 in
theorem refjoin_any (B : Nat) (v : Value) (s : St) (x y : Int) (w : World) (hx : I64 x) (hy : I64 y) (hn : s.all.length < 1000) (hok : s.Ok) (hok1 : (s.put x).Ok) (hok2 : ((s.put x).put y).Ok) (hB : B ≤ w.heap.size) (h : RefAt w B v s) :
    Calls Try.prog 16 #[v, .int .i64 x, .int .i64 y] w fun e w' => ∃ v', e = .returned (.tuple #[v', .bool (s.joins x y)]) ∧ RefAt w' B v' (s.join x y) ∧ Chg [] w w' ∧ ∀ b ∈ foot v', b ∈ foot v ∨ w.heap.size ≤ b := by
  have HOK := Lib.hid hok
  have HOK1 := Lib.hid hok1
  have HOK2 := Lib.hid hok2
  have h0 := h
  obtain ⟨va, vg, rfl, ha, hg⟩ := h
  obtain ⟨aa, ac, ea⟩ := owns_shape ha.1
  obtain ⟨ga, gc, eg⟩ := owns_shape hg.1
  rw [List.length_map] at eg
  subst ea eg
  have H0 := Lib.hid h0
  have HB := Lib.hid hB
  clear hok hok1 hok2 ha hg h0 hB
  go_enter Try.func16, Try.ntmps16
  go_wp2_with fail
  have hc0 := (((Chg.refl [] w).alloc (.cells #[.slice aa s.all.length ac, .slice ga s.grp.length gc] 37)).alloc (.cells #[.slice none 0 0, .slice none 0 0] 37))
  refine (refadd_any B _ s x _ hx (by omega) HOK.out.len (by have := HB.out; have := hc0.size; omega) (H0.out.fresh hc0)).mono ?_
  rintro e w1 ⟨v1, rfl, h1, hc1, hf1⟩
  have hl1 := (s.len_put x).2
  go_wp2_with fail
  refine (refadd_any B v1 (s.put x) y _ hy (by omega) HOK1.out.len (by have := HB.out; have := hc0.size; have := hc1.size; omega) h1).mono ?_
  rintro e w2 ⟨v2, rfl, h2, hc2, hf2⟩
  have hl2 := ((s.put x).len_put y).2
  have hmx := (s.put_put_mem x y).1
  have hmy := (s.put_put_mem x y).2
  have HJ := Lib.hid (show s.join x y = ⟨((s.put x).put y).all, relabel ((s.put x).put y).grp (((s.put x).put y).hd (((s.put x).put y).all.idxOf x)) (((s.put x).put y).hd (((s.put x).put y).all.idxOf y))⟩ from rfl)
  have HI := Lib.hid (show s.joins x y = (((s.put x).put y).hd (((s.put x).put y).all.idxOf x) != ((s.put x).put y).hd (((s.put x).put y).all.idxOf y)) from rfl)
  have hc := (hc0.trans hc1 (by simp)).trans hc2 (by simp)
  have hft : ∀ b ∈ foot v2, b ∈ foot (.agg #[.slice aa s.all.length ac, .slice ga s.grp.length gc]) ∨ w.heap.size ≤ b := fun b hb => by
    have e1 := hc0.size
    have e2 := hc1.size
    rcases hf2 b hb with q | q
    · rcases hf1 b q with q | q
      · exact Or.inl q
      · exact Or.inr (by omega)
    · exact Or.inr (by omega)
  clear hf1 hf2
  have hbx := (hc1.trans hc2 (by simp)).heap (((Chg.refl [] _).alloc (.cells #[.slice none 0 0, .slice none 0 0] 37)).heap (heap_alloc_new w (.cells #[.slice aa s.all.length ac, .slice ga s.grp.length gc] 37)) (by simp)) (by simp)
  have hby := (hc1.trans hc2 (by simp)).heap (heap_alloc_new (w.alloc (.cells #[.slice aa s.all.length ac, .slice ga s.grp.length gc] 37)) (.cells #[.slice none 0 0, .slice none 0 0] 37)) (by simp)
  simp only [World.size_alloc] at hby
  obtain ⟨va, vg, rfl, ha, hg⟩ := h2
  obtain ⟨ab, ac2, ea⟩ := owns_shape ha.1
  obtain ⟨gb, gc2, eg⟩ := owns_shape hg.1
  rw [List.length_map] at eg
  subst ea eg
  have HA := Lib.hid ha
  have HG := Lib.hid hg
  have HC := Lib.hid hc
  have HBX := Lib.hid hbx
  have HBY := Lib.hid hby
  have HLN := Lib.hid HOK2.out.len
  have HFT := Lib.hid hft
  clear hft
  have cx0 : w2.cell? ⟨w.heap.size, 0, none⟩ = some (.slice aa s.all.length ac) := by rw [cell_of_row _ _ _ _ _ _ hbx]; rfl
  have cx1 : w2.cell? ⟨w.heap.size, 1, none⟩ = some (.slice ga s.grp.length gc) := by rw [cell_of_row _ _ _ _ _ _ hbx]; rfl
  have zx0 : w2.frozen? ⟨w.heap.size, 0, none⟩ = false := by simp [World.frozen?, hbx]
  have zx1 : w2.frozen? ⟨w.heap.size, 1, none⟩ = false := by simp [World.frozen?, hbx]
  clear ha hg hc hc0 hc1 hc2 hbx hby h1 H0
  generalize (s.put x).put y = t at *
  have hlt : 0 < t.all.length := List.length_pos_iff.2 (List.ne_nil_of_mem hmx)
  obtain ⟨g, rfl, hgc⟩ := HG.out.some (by rw [List.length_map, ← HLN.out]; exact hlt)
  have ix := List.idxOf_lt_length_iff.2 hmx
  have iy := List.idxOf_lt_length_iff.2 hmy
  have hcx := hgc (t.all.idxOf x) (by rw [List.length_map, ← HLN.out]; exact ix)
  have hcy := hgc (t.all.idxOf y) (by rw [List.length_map, ← HLN.out]; exact iy)
  have hgd : ∀ i, i < t.grp.length → (t.grp.map fun (k : Nat) => (k : Int)).getD i 0 = ((t.hd i : Nat) : Int) := fun i hi => by simp [St.hd, List.getD, hi]
  rw [hgd _ (by rw [← HLN.out]; exact ix)] at hcx
  rw [hgd _ (by rw [← HLN.out]; exact iy)] at hcy
  have hfx : findv t.all x = ((t.all.idxOf x : Nat) : Int) := if_pos hmx
  have hfy : findv t.all y = ((t.all.idxOf y : Nat) : Int) := if_pos hmy
  have HFX := Lib.hid hfx
  have HFY := Lib.hid hfy
  have HCX := Lib.hid hcx
  have HCY := Lib.hid hcy
  have hib : ((t.all.idxOf x : Nat) : Int) < (t.grp.length : Int) := by have := HLN.out; omega
  have hib2 : ((t.all.idxOf y : Nat) : Int) < (t.grp.length : Int) := by have := HLN.out; omega
  clear hfx hfy hgc hgd hcx hcy ix iy
  go_wp2
  generalize hw3 : (w2.setCell ⟨w.heap.size, 0, none⟩ _).setCell ⟨w.heap.size, 1, none⟩ _ = w3
  have hc3 : Chg [w.heap.size] w2 w3 := by rw [← hw3]; exact ((Chg.refl _ w2).setCell (Or.inl (by simp)) _).setCell (Or.inl (by simp)) _
  have hb3 := heap_setCell_same (heap_setCell_same HBX.out 0 (.slice ab t.all.length ac2)) 1 (.slice (some ⟨g, 0, none⟩) t.grp.length gc2)
  rw [hw3] at hb3
  clear hw3
  have ha3 := HA.out.chg hc3 (fun b hb => by simpa using HA.out.ne HBX.out b hb)
  have hg3 := HG.out.chg hc3 (fun b hb => by simpa using HG.out.ne HBX.out b hb)
  have hne : g ≠ w.heap.size := HG.out.ne HBX.out g (by simp [Value.ownBlock])
  have dx0 : w3.cell? ⟨w.heap.size, 0, none⟩ = some (.slice ab t.all.length ac2) := by rw [cell_of_row _ _ _ _ _ _ hb3]; rfl
  have dx1 : w3.cell? ⟨w.heap.size, 1, none⟩ = some (.slice (some ⟨g, 0, none⟩) t.grp.length gc2) := by rw [cell_of_row _ _ _ _ _ _ hb3]; rfl
  have dgx := hc3.cell HCX.out (by simpa using hne)
  have dgy := hc3.cell HCY.out (by simpa using hne)
  have HA3 := Lib.hid ha3
  have HG3 := Lib.hid hg3
  have HC3 := Lib.hid hc3
  have HB3 := Lib.hid hb3
  clear ha3 hg3 hc3 hb3 hne cx0 cx1 zx0 zx1
  refine wp_region_lin [⟨[],[],false⟩, ⟨[0],[],false⟩, ⟨[],[],false⟩, ⟨[],[],false⟩, ⟨[2,3],[],false⟩, ⟨[1,4],[],false⟩, ⟨[5],[],false⟩, ⟨[],[],false⟩, ⟨[7],[],false⟩, ⟨[],[],false⟩, ⟨[],[],false⟩, ⟨[9,10],[],false⟩, ⟨[8,11],[],false⟩, ⟨[12],[],false⟩, ⟨[6],[],false⟩, ⟨[13],[],false⟩] 16 [14, 15] (fun w' => Chg [] w3 w') (by kernel_rfl) (by kernel_rfl) (Chg.refl [] w3).drew ?_
  (intro fr hfr; simp only [fillL, Act.put, List.setIfInBounds_toArray, List.set_cons_zero, List.set_cons_succ, Nat.reduceAdd] at hfr; obtain rfl := funext (fun vals => (hfr vals).symm); clear hfr; simp only [List.zip_cons_cons, List.zip_nil_right])
  (refine lin_read (c := ?_) rfl ⟨rfl, rfl⟩ (fun vals w' hG hF => ?_) ?_; rotate_left; (focus ((try simp only [Facts, List.nil_append, List.cons_append, List.getD_cons_zero, List.getD_cons_succ, and_true] at hF); refine ⟨by rfl, ?_⟩; go_simp; try with_reducible rfl)))
  (refine lin_read (c := ?_) rfl ⟨rfl, rfl⟩ (fun vals w' hG hF => ?_) ?_; rotate_left; (focus ((try simp only [Facts, List.nil_append, List.cons_append, List.getD_cons_zero, List.getD_cons_succ, and_true] at hF); have q0 := hG.cell dx1 (by simp); refine ⟨by rfl, ?_⟩; go_simp; try with_reducible rfl)))
  (refine lin_read (c := ?_) rfl ⟨rfl, rfl⟩ (fun vals w' hG hF => ?_) ?_; rotate_left; (focus ((try simp only [Facts, List.nil_append, List.cons_append, List.getD_cons_zero, List.getD_cons_succ, and_true] at hF); have q0 := hG.cell dx0 (by simp); have q1 := hG.cell dx1 (by simp); refine ⟨by rfl, ?_⟩; go_simp; try with_reducible rfl)))
  (refine lin_read (c := ?_) rfl ⟨rfl, rfl⟩ (fun vals w' hG hF => ?_) ?_; rotate_left; (focus ((try simp only [Facts, List.nil_append, List.cons_append, List.getD_cons_zero, List.getD_cons_succ, and_true] at hF); refine ⟨by rfl, ?_⟩; go_simp; try with_reducible rfl)))
  refine lin_op (fun v _ => v = .int .i64 ((t.all.idxOf x : Nat) : Int)) rfl (Or.inr fun _ _ _ q => q) (fun vals w' hG hF => ⟨by rfl, fun K hK => wp_calls rfl enter_find (args := #[.agg #[.slice ab t.all.length ac2, .slice (some ⟨g, 0, none⟩) t.grp.length gc2], .int .i64 x]) (two_args hF.1 hF.2.1) ((find_any _ _ t.all x _ hx (HA3.out.chg hG (by simp)).ints).mono fun e w4 he => ⟨_, he.1.trans (by rw [HFX.out]), hK.out _ _ rfl (Or.inr he.2) (Or.inr (Or.inl rfl)) (Or.inr (hG.trans he.2 (by simp)))⟩)⟩) ?_
  (refine lin_read (c := ?_) rfl ⟨rfl, rfl⟩ (fun vals w' hG hF => ?_) ?_; rotate_left; (focus ((try simp only [Facts, List.nil_append, List.cons_append, List.getD_cons_zero, List.getD_cons_succ, and_true] at hF); refine ⟨by rfl, ?_⟩; go_simp; try with_reducible rfl)))
  (refine lin_read (c := ?_) rfl ⟨rfl, rfl⟩ (fun vals w' hG hF => ?_) ?_; rotate_left; (focus ((try simp only [Facts, List.nil_append, List.cons_append, List.getD_cons_zero, List.getD_cons_succ, and_true] at hF); have q0 := hG.cell dgx (by simp); refine ⟨by rfl, ?_⟩; go_simp; try with_reducible rfl)))
  (refine lin_read (c := ?_) rfl ⟨rfl, rfl⟩ (fun vals w' hG hF => ?_) ?_; rotate_left; (focus ((try simp only [Facts, List.nil_append, List.cons_append, List.getD_cons_zero, List.getD_cons_succ, and_true] at hF); refine ⟨by rfl, ?_⟩; go_simp; try with_reducible rfl)))
  (refine lin_read (c := ?_) rfl ⟨rfl, rfl⟩ (fun vals w' hG hF => ?_) ?_; rotate_left; (focus ((try simp only [Facts, List.nil_append, List.cons_append, List.getD_cons_zero, List.getD_cons_succ, and_true] at hF); have q0 := hG.cell dx1 (by simp); refine ⟨by rfl, ?_⟩; go_simp; try with_reducible rfl)))
  (refine lin_read (c := ?_) rfl ⟨rfl, rfl⟩ (fun vals w' hG hF => ?_) ?_; rotate_left; (focus ((try simp only [Facts, List.nil_append, List.cons_append, List.getD_cons_zero, List.getD_cons_succ, and_true] at hF); have q0 := hG.cell dx0 (by simp); have q1 := hG.cell dx1 (by simp); refine ⟨by rfl, ?_⟩; go_simp; try with_reducible rfl)))
  (refine lin_read (c := ?_) rfl ⟨rfl, rfl⟩ (fun vals w' hG hF => ?_) ?_; rotate_left; (focus ((try simp only [Facts, List.nil_append, List.cons_append, List.getD_cons_zero, List.getD_cons_succ, and_true] at hF); refine ⟨by rfl, ?_⟩; go_simp; try with_reducible rfl)))
  refine lin_op (fun v _ => v = .int .i64 ((t.all.idxOf y : Nat) : Int)) rfl (Or.inr fun _ _ _ q => q) (fun vals w' hG hF => ⟨by rfl, fun K hK => wp_calls rfl enter_find (args := #[.agg #[.slice ab t.all.length ac2, .slice (some ⟨g, 0, none⟩) t.grp.length gc2], .int .i64 y]) (two_args hF.1 hF.2.1) ((find_any _ _ t.all y _ hy (HA3.out.chg hG (by simp)).ints).mono fun e w4 he => ⟨_, he.1.trans (by rw [HFY.out]), hK.out _ _ rfl (Or.inr he.2) (Or.inr (Or.inl rfl)) (Or.inr (hG.trans he.2 (by simp)))⟩)⟩) ?_
  (refine lin_read (c := ?_) rfl ⟨rfl, rfl⟩ (fun vals w' hG hF => ?_) ?_; rotate_left; (focus ((try simp only [Facts, List.nil_append, List.cons_append, List.getD_cons_zero, List.getD_cons_succ, and_true] at hF); refine ⟨by rfl, ?_⟩; go_simp; try with_reducible rfl)))
  (refine lin_read (c := ?_) rfl ⟨rfl, rfl⟩ (fun vals w' hG hF => ?_) ?_; rotate_left; (focus ((try simp only [Facts, List.nil_append, List.cons_append, List.getD_cons_zero, List.getD_cons_succ, and_true] at hF); have q0 := hG.cell dgy (by simp); refine ⟨by rfl, ?_⟩; go_simp; try with_reducible rfl)))
  (refine lin_read (c := ?_) rfl ⟨rfl, rfl⟩ (fun vals w' hG hF => ?_) ?_; rotate_left; (focus ((try simp only [Facts, List.nil_append, List.cons_append, List.getD_cons_zero, List.getD_cons_succ, and_true] at hF); refine ⟨by rfl, ?_⟩; go_simp; try with_reducible rfl)))
  (refine lin_read (c := ?_) rfl ⟨rfl, rfl⟩ (fun vals w' hG hF => ?_) ?_; rotate_left; (focus ((try simp only [Facts, List.nil_append, List.cons_append, List.getD_cons_zero, List.getD_cons_succ, and_true] at hF); refine ⟨by rfl, ?_⟩; go_simp; try with_reducible rfl)))
  refine lin_nil fun vals w4 hG hF => ?_
  have hG4 := hG (by decide)
  simp only [Facts, List.nil_append, List.cons_append, List.getD_cons_zero, List.getD_cons_succ, and_true] at hF
  obtain ⟨e14, e15⟩ := hF
  rw [e14, e15]
  have ey0 := hG4.heap (HC3.out.heap HBY.out (by simp)) (by simp)
  have dy0 := hG4.cell dx0 (by simp)
  have dy1 := hG4.cell dx1 (by simp)
  have cr0 : w4.cell? ⟨w.heap.size + 1, 0, none⟩ = some (.slice none 0 0) := by rw [cell_of_row _ _ _ _ _ _ ey0]; rfl
  have cr1 : w4.cell? ⟨w.heap.size + 1, 1, none⟩ = some (.slice none 0 0) := by rw [cell_of_row _ _ _ _ _ _ ey0]; rfl
  have zr0 : w4.frozen? ⟨w.heap.size + 1, 0, none⟩ = false := by simp [World.frozen?, ey0]
  have zr1 : w4.frozen? ⟨w.heap.size + 1, 1, none⟩ = false := by simp [World.frozen?, ey0]
  have HA4 := Lib.hid (HA3.out.chg hG4 (by simp))
  have HG4 := Lib.hid (HG3.out.chg hG4 (by simp))
  have HC4 := Lib.hid (((HC.out.trans HC3.out (by simp)).trans hG4 (by simp)))
  have HEY := Lib.hid ey0
  clear e14 e15 hG ey0 dx0 dx1 dgx dgy hib hib2 hG4
  have hal : t.hd (t.all.idxOf x) < 2000 := by have := HOK2.out.hd_lt hmx; omega
  have hbl : t.hd (t.all.idxOf y) < 2000 := by have := HOK2.out.hd_lt hmy; omega
  generalize t.hd (t.all.idxOf x) = a at *
  generalize t.hd (t.all.idxOf y) = b at *
  by_cases hab : a = b
  · subst hab
    go_wp2
    have hf := (HC4.out.setCell (p := ⟨w.heap.size + 1, 0, none⟩) (Or.inr (by simp)) (.slice ab t.all.length ac2)).setCell (p := ⟨w.heap.size + 1, 1, none⟩) (Or.inr (by simp)) (.slice (some ⟨g, 0, none⟩) t.grp.length gc2)
    have hf4 : Chg [w.heap.size + 1] w4 _ := ((Chg.refl _ w4).setCell (p := ⟨w.heap.size + 1, 0, none⟩) (Or.inl (by simp)) (.slice ab t.all.length ac2)).setCell (p := ⟨w.heap.size + 1, 1, none⟩) (Or.inl (by simp)) (.slice (some ⟨g, 0, none⟩) t.grp.length gc2)
    refine bodyPost_ret (v := .tuple #[.agg #[.slice ab t.all.length ac2, .slice (some ⟨g, 0, none⟩) t.grp.length gc2], .bool false]) (by simp [results, Try.results16, go_sem, cr0, cr1]) rfl ?_
    refine ⟨.agg #[.slice ab t.all.length ac2, .slice (some ⟨g, 0, none⟩) t.grp.length gc2], by rw [HI.out]; simp, ?_, hf, HFT.out⟩
    rw [HJ.out, relabel_self]
    exact ⟨_, _, rfl, HA4.out.chg hf4 (fun b hb => by simpa using HA4.out.ne HEY.out b hb), HG4.out.chg hf4 (fun b hb => by simpa using HG4.out.ne HEY.out b hb)⟩
  · have hab' : ((a : Int) == (b : Int)) = false := by rw [beq_eq_false_iff_ne]; omega
    have dn : ∀ o, (w4.alloc o).cell? ⟨w.heap.size, 1, none⟩ = some (.slice (some ⟨g, 0, none⟩) t.grp.length gc2) := fun o => cellNew dy1 o
    have hr0 : RowAt (w4.alloc (.cells #[] 3)) w4.heap.size (.slice (some ⟨w4.heap.size, 0, none⟩) 0 0) [] := ⟨World.ownsRow_lit w4 #[] 0 (Nat.le_refl _) (by decide) rfl, by simp, by decide⟩
    have hr1 := HG4.out.chg ((Chg.refl [] w4).alloc (.cells #[] 3)) (by simp)
    go_wp2_with (refine wl_cat rfl _ _ rfl rfl rfl hr0 hr1 (by simp) (by have := HLN.out; simp only [List.length_nil, List.length_map]; omega) ?_; intro v5 w5 r1 r2 r3)
    have hc5 : Chg [] w4 w5 := ((Chg.refl [] w4).alloc (.cells #[] 3)).trans (show Chg (foot (.slice (some ⟨w4.heap.size, 0, none⟩) 0 0)) _ w5 from r2) (fun j hj => Or.inr (by simp [foot, Value.ownBlock] at hj; omega))
    clear r2 r3 hr0 hr1 dn
    rw [List.nil_append] at r1
    obtain ⟨ao5, c5, e5⟩ := r1.shape
    rw [List.length_map] at e5
    subst e5
    obtain ⟨g5, rfl, -⟩ := r1.some (by rw [List.length_map, ← HLN.out]; exact hlt)
    have R1 := Lib.hid r1
    have HC5 := Lib.hid hc5
    have HD0 := Lib.hid dy0
    have hgl : t.grp.length < 2000 := by have := HLN.out; omega
    clear r1 hc5 hlt cr0 cr1 zr0 zr1 dy0 dy1
    go_loopw [11] (fun c wr => ∃ k : Nat, k ≤ t.grp.length ∧ c = .int .i64 k ∧ RowAt wr w4.heap.size (.slice (some ⟨g5, 0, none⟩) t.grp.length c5) (turned t.grp a b k) ∧ Chg [] w4 wr) (fun c _ => t.grp.length - (intOf c).toNat)
    case atStart => exact ⟨0, Nat.zero_le _, rfl, by rw [turned_zero]; exact R1.out, HC5.out⟩
    case round =>
      obtain ⟨k, hk, rfl, hrow, hch⟩ := hrel
      by_cases hlt : k < t.grp.length
      · have hl := turned_len t.grp a b k hk
        obtain ⟨_, e, hc⟩ := hrow.some (by omega)
        have ck := hc k (by omega)
        simp only [Option.some.injEq, Addr.mk.injEq] at e
        obtain ⟨rfl, -⟩ := e
        rw [turned_get _ _ _ _ hlt] at ck
        have fk := hrow.free (by omega) k
        have HR := Lib.hid hrow
        have HCH := Lib.hid hch
        have HT := Lib.hid (turned_succ t.grp a b k hlt)
        have HS := Lib.hid (turned_same t.grp a b k hlt)
        have hg5 := (hrow.low g5 (by simp [Value.ownBlock])).1
        clear hrow hch hc hl
        generalize t.grp.getD k 0 = q at *
        by_cases hq : q = max a b
        · have hq' : ((q : Int) == max (a : Int) (b : Int)) = true := by rw [beq_iff_eq]; omega
          have HM := Lib.hid (show (if b < a then (b : Int) else (a : Int)) = ((min a b : Nat) : Int) by split <;> omega)
          have HQ := Lib.hid hq
          have hsm : I64 ((min a b : Nat) : Int) := I64.mk (by omega) (by omega)
          clear hq
          go_wp2
          go_roundw
          case rel => exact ⟨k + 1, by omega, by go_num, by rw [HM.out, HT.out (min a b) (by rw [if_pos HQ.out])]; exact HR.out.set k _ hsm, HCH.out.setCell (Or.inr hg5) _⟩
          case measure => simp [intOf]; omega
        · have hq' : ((q : Int) == max (a : Int) (b : Int)) = false := by rw [beq_eq_false_iff_ne]; omega
          have HQ := Lib.hid hq
          clear hq
          go_wp2
          go_roundw
          case rel => exact ⟨k + 1, by omega, by go_num, by rw [HS.out HQ.out]; exact HR.out, HCH.out⟩
          case measure => simp [intOf]; omega
      · have e : k = t.grp.length := by omega
        subst e
        rw [turned_all] at hrow
        have ey := hch.heap HEY.out (by simp)
        have dy0 := hch.cell HD0.out (by simp)
        have cr0 : wr.cell? ⟨w.heap.size + 1, 0, none⟩ = some (.slice none 0 0) := by rw [cell_of_row _ _ _ _ _ _ ey]; rfl
        have cr1 : wr.cell? ⟨w.heap.size + 1, 1, none⟩ = some (.slice none 0 0) := by rw [cell_of_row _ _ _ _ _ _ ey]; rfl
        have zr0 : wr.frozen? ⟨w.heap.size + 1, 0, none⟩ = false := by simp [World.frozen?, ey]
        have zr1 : wr.frozen? ⟨w.heap.size + 1, 1, none⟩ = false := by simp [World.frozen?, ey]
        have HR := Lib.hid hrow
        have HCH := Lib.hid hch
        have HEY2 := Lib.hid ey
        clear hrow hch ey
        go_wp2
        have hf := ((HC4.out.trans HCH.out (by simp)).setCell (p := ⟨w.heap.size + 1, 0, none⟩) (Or.inr (by simp)) (.slice ab t.all.length ac2)).setCell (p := ⟨w.heap.size + 1, 1, none⟩) (Or.inr (by simp)) (.slice (some ⟨g5, 0, none⟩) t.grp.length c5)
        have hf4 : Chg [w.heap.size + 1] wr _ := ((Chg.refl _ wr).setCell (p := ⟨w.heap.size + 1, 0, none⟩) (Or.inl (by simp)) (.slice ab t.all.length ac2)).setCell (p := ⟨w.heap.size + 1, 1, none⟩) (Or.inl (by simp)) (.slice (some ⟨g5, 0, none⟩) t.grp.length c5)
        refine bodyPost_ret (v := .tuple #[.agg #[.slice ab t.all.length ac2, .slice (some ⟨g5, 0, none⟩) t.grp.length c5], .bool true]) (by simp [results, Try.results16, go_sem, cr0, cr1]) rfl ?_
        have hfin : RefAt ((wr.setCell ⟨w.heap.size + 1, 0, none⟩ (.slice ab t.all.length ac2)).setCell ⟨w.heap.size + 1, 1, none⟩ (.slice (some ⟨g5, 0, none⟩) t.grp.length c5)) B (.agg #[.slice ab t.all.length ac2, .slice (some ⟨g5, 0, none⟩) t.grp.length c5]) (s.join x y) := by
          rw [HJ.out]
          have hA5 := HA4.out.chg HCH.out (by simp)
          refine ⟨_, _, rfl, hA5.chg hf4 (fun b hb => by simpa using hA5.ne HEY2.out b hb), (HR.out.chg hf4 (fun b hb => by simpa using HR.out.ne HEY2.out b hb)).base ?_⟩
          have := HB.out
          have := HC4.out.size
          omega
        refine ⟨.agg #[.slice ab t.all.length ac2, .slice (some ⟨g5, 0, none⟩) t.grp.length c5], by rw [HI.out]; simp [hab], ?_, hf, fun b' hb => ?_⟩
        · exact hfin
        · simp only [foot, List.flatMap_cons, List.flatMap_nil, List.append_nil, List.mem_append] at hb
          rcases hb with q | q
          · exact HFT.out b' (by simp only [foot, List.flatMap_cons, List.flatMap_nil, List.append_nil, List.mem_append]; exact Or.inl q)
          · refine Or.inr ?_
            have h1 := (HR.out.low b' q).1
            have h2 := HC4.out.size
            omega

end Go.Proofs.Ytgepchafbeifeaa
