/- block.find: contract. Conditions: what each theorem says. -/
import Derived.Test.YtpcgklagmcnhaaaGreatT8VisW
import Derived.Shelf.SlIterI.Sorted
import Derived.Ground.GgzProg
-- READS ONLY
namespace Go.Proofs.YtpcgklagmcnhaaaGreat
open Go.RowKit Go.Maps
theorem op_make {t e : TypeId} {z : Value} {size bytes : Nat} (E : Elem t e z size bytes) {o : Oper} {a : Act} {Q : Exit → Act → World → Prop} {K : Act → World → Prop} {w : World} (l c : Operand) (hop : o.op = Op.makeSlice t l c) {B n : Nat} (hl : a.eval l = .int .i64 n) (hc : a.eval c = .int .i64 n) (hB : B ≤ w.heap.size) (hn : n < 68719476736)
  (hK : ∀ w', w'.ownsRow B e size (.slice (some ⟨w.heap.size, 0, none⟩) n n) n (madeCells z.cells (n * size)).toList → Chg [] w w' → K (a.put o.dst (.slice (some ⟨w.heap.size, 0, none⟩) n n)) w') : Oper.wp Tryz.prog o a w K Q := by
 obtain ⟨i0, hi, hz0, hz1, hz2⟩ := info_parts E.hi
 have hb := E.hb
 obtain ⟨w', hrun, r1, r2⟩ := run_make_full (P := Tryz.prog) w B t e i0 z size E.ht hi hz0 hz1 .i64 .i64 n (by
  rw [hz2]
  exact Nat.le_trans (Nat.mul_le_mul_right _ hb) (by omega)) (by unfold maxLen; omega) hB
 unfold Oper.wp
 simp [execOp, hop, hl, hc, hrun, Result.andThen]
 exact hK w' r1 ((Chg.refl _ _).grown r2 (by simp))
theorem nest_grow {w : World} {B n sz g cap q : Nat} {e : TypeId} {xs : List Value} {cs : List Cell} {l : List Int} {x : Int} (h : Nest w B e sz (.slice (some ⟨g, 0, none⟩) n cap) n xs cs) (he : e ≠ 3) (hB : B ≤ w.heap.size) (hq : q < xs.length) (hc : cs[q]? = some (.row l)) (hx : I64 x) (hn : l.length + 1 < 4294967296) :
  ∃ va vc va' vc' w2, w.cell? ⟨g, q, none⟩ = some (.slice va l.length vc) ∧ (Builtin.append_ #[31, 31] 31 #[.slice va l.length vc, .slice (some ⟨w.heap.size, 0, none⟩) 1 1]).run Tryz.prog (w.alloc (.cells #[.int .i64 x] 3)) = .ok (.slice va' (l.length + 1) vc') w2 ∧
   w2.cell? ⟨g, q, none⟩ = some (.slice va l.length vc) ∧ w2.frozen? ⟨g, q, none⟩ = false ∧
   Nest (w2.setCell ⟨g, q, none⟩ (.slice va' (l.length + 1) vc')) B e sz (.slice (some ⟨g, 0, none⟩) n cap) n (xs.set q (.slice va' (l.length + 1) vc')) (cs.set q (.row (l ++ [x]))) ∧
   (∀ b ∈ foot (.slice va' (l.length + 1) vc'), b ∈ foot (.slice va l.length vc) ∨ w.heap.size ≤ b) ∧ xs.getD q undef = .slice va l.length vc ∧ Chg (g :: foot (.slice va l.length vc)) w (w2.setCell ⟨g, q, none⟩ (.slice va' (l.length + 1) vc')) ∧ Chg (foot (.slice va l.length vc)) w w2 ∧ g ∉ foot (.slice va l.length vc) ∧ ∀ (b : Nat) (cs : Array Value) (t : TypeId) (r : Nat × Nat), w.heap[b]? = some (.cells cs t r) → t ≠ 3 → b ∉ foot (.slice va l.length vc) := by
 have hrow := h.row hc
 obtain ⟨va, vc, ev⟩ := hrow.shape
 have hcell := h.cell hq
 rw [ev] at hcell hrow
 have ca : Chg [] w (w.alloc (.cells #[.int .i64 x] 3)) := (Chg.refl _ _).alloc _
 obtain ⟨v', w2, hr, r1, r2, r3⟩ := run_app_read (hrow.chg ca (by simp)) (lit_ints w hx) (Nat.le_trans hB ca.size) (by simp; omega) 31
 obtain ⟨va', vc', ev'⟩ := r1.shape
 rw [show (l ++ [x]).length = l.length + 1 by simp] at ev'
 subst ev'
 have hc2 : Chg (foot (.slice va l.length vc)) w w2 := (ca.mono (by simp)).trans r2 (fun j hj => Or.inl hj)
 have hfg : g ∉ foot (.slice va l.length vc) := fun em => by
  obtain ⟨cs', r, hh⟩ := row_kind hrow g em
  rcases h.out.2 with ⟨q, _⟩ | ⟨g', c', cur, q, _, hg, _⟩
  ·cases q
  simp only [Value.slice.injEq, Option.some.injEq, Addr.mk.injEq] at q
  obtain ⟨⟨rfl, -⟩, -⟩ := q
  rw [hg] at hh
  simp at hh
  exact he hh.2.1
 have hcell2 := hc2.cell hcell hfg
 have hput := h.put (v := .slice va' (l.length + 1) vc') (m := l ++ [x]) he hq hc r1 (by rw [ev]; exact hc2) (fun b hb => by
  rw [ev]
  rcases r3 b hb with t | t
  ·exact Or.inl t
  exact Or.inr (Nat.le_trans ca.size t))
 have hgh : ∃ cur, w.heap[g]? = some (.cells cur e (0, 0)) := by
  rcases h.out.2 with ⟨q, _⟩ | ⟨g', c', cur, q, hb, hg, _⟩
  ·cases q
  simp only [Value.slice.injEq, Option.some.injEq, Addr.mk.injEq] at q
  obtain ⟨⟨rfl, -⟩, -⟩ := q
  exact ⟨_, hg⟩
 obtain ⟨cur, hg⟩ := hgh
 have hg2 := hc2.heap hg hfg
 have hset : Chg [g] w2 (w2.setCell ⟨g, q, none⟩ (.slice va' (l.length + 1) vc')) := (Chg.refl _ _).setCell (Or.inl (by simp)) _
 exact ⟨va, vc, va', vc', w2, hcell, hr, hcell2, by simp [World.frozen?, hg2], hput, fun b hb => (r3 b hb).imp id fun t => Nat.le_trans ca.size t, ev, (hc2.mono (fun j hj => Or.inl (by simp [hj]))).trans hset (fun j hj => Or.inl (by simp at hj; simp [hj])), hc2, hfg, fun b cs t r hb ht hm => by
  obtain ⟨cs', r', hh⟩ := row_kind hrow b hm
  rw [hb] at hh
  simp at hh
  exact ht hh.2.1⟩
theorem keptC {w w' : World} {b : Nat} {o : Obj} (hc : Chg [] w w') (h : w.heap[b]? = some o) : w'.heap[b]? = some o := hc.hp h
theorem nest_made {w : World} {B fb n : Nat} (h : w.ownsRow B 31 1 (.slice (some ⟨fb, 0, none⟩) n n) n (madeCells (Value.slice none 0 0).cells (n * 1)).toList) : Nest w B 31 1 (.slice (some ⟨fb, 0, none⟩) n n) n (List.replicate n (.slice none 0 0)) (List.replicate n (.row [])) := by
 have e1 : (madeCells (Value.slice none 0 0).cells (n * 1)).toList = List.replicate n (.slice none 0 0) := by
  show (madeCells #[Value.slice none 0 0] (n * 1)).toList = _
  rw [Nat.mul_one, toList_madeCells_one]
 rw [e1] at h
 have hv : ∀ k, k < n → (List.replicate n (Value.slice none 0 0)).getD k undef = .slice none 0 0 := fun k hk => by simp [List.getD, hk]
 refine ⟨h, by simp, by simp, fun k c hk => ?_, fun k l hk _ _ => Or.inl ?_⟩
 ·obtain ⟨h1, h2⟩ := List.getElem?_eq_some_iff.1 hk
  rw [List.length_replicate] at h1
  rw [List.getElem_replicate] at h2
  rw [hv k h1, ← h2]
  exact rowNil w B
 rw [List.length_replicate] at hk
 rw [hv k hk]
 rfl
theorem darts_row {g : Plain.Gr} {p : Plain.Pt} {N k a : Nat} {d : Int} (hk : k < p.darts.length) (hd : p.darts.getD k 0 = d) (ha : g.tail d = a) :
  ((List.range N).map fun v : Nat => Cell.row (Plain.dartsTo g p v k)).set a (.row (Plain.dartsTo g p a k ++ [d])) = (List.range N).map fun v : Nat => Cell.row (Plain.dartsTo g p v (k + 1)) := by
 refine List.ext_getElem (by simp) fun i h1 h2 => ?_
 rw [List.getElem_set]
 simp only [List.getElem_map, List.getElem_range]
 rw [Plain.dartsTo_next hk, hd, ha]
 by_cases e : a = i
 ·subst e
  rw [if_pos rfl, if_pos rfl]
 rw [if_neg e, if_neg (by omega)]
theorem low_set {a : Nat} {xs : List Value} {v v' : Value} {w : World} {B : Nat} (hlo : ∀ k b, k < xs.length → (xs.getD k undef).ownBlock = some b → B ≤ b) (ha : a < xs.length) (hv : xs.getD a undef = v) (hf : ∀ b ∈ foot v', b ∈ foot v ∨ w.heap.size ≤ b) (h1 : foot v' = v'.ownBlock.toList) (h2 : foot v = v.ownBlock.toList) (hB : B ≤ w.heap.size) :
  ∀ k b, k < (xs.set a v').length → ((xs.set a v').getD k undef).ownBlock = some b → B ≤ b := fun k b hk hb => by
 rw [List.length_set] at hk
 rw [getD_set' _ _ _ _ _ ha] at hb
 by_cases e : k = a
 ·rw [if_pos e] at hb
  rcases hf b (by rw [h1, hb]; simp) with q | q
  ·refine hlo a b ha ?_
   rw [hv]
   rw [h2] at q
   simpa using q
  omega
 rw [if_neg e] at hb
 exact hlo k b hk hb
theorem fn_zero (n : Nat) : ((List.range n).map fun i : Nat => (fun _ : Int => (0 : Int)) i) = List.replicate n 0 := by
 rw [List.map_const']
 simp
theorem filter_two (f : Int → Bool) : ∀ D : List Int, (D.filter f).length + (D.filter fun d => !f d).length = D.length
 | [] => rfl
 | d :: D => by
  have ih := filter_two f D
  cases h : f d <;> simp [h] <;> omega
theorem rises_len {l : List Int} {n : Int} (h : Plain.rises l n = true) : l.length ≤ n.toNat := by
 have h1 := Plain.len_le_of_sub (l := l) (m := (List.range n.toNat).map fun i : Nat => (i : Int)) (Plain.rises_nodup h) fun x hx => by
  obtain ⟨i, hi, rfl⟩ := Plain.mem_getD hx
  have := Plain.rises_at h hi
  exact List.mem_map.2 ⟨(l.getD i 0).toNat, List.mem_range.2 (by omega), by omega⟩
 simpa using h1
theorem sum_darts {g : Plain.Gr} {p : Plain.Pt} : ∀ {l : List Int} {D : List Int}, l.Nodup → (l.map fun u => (D.filter fun d => decide (g.tail d = u)).length + 1).sum ≤ D.length + l.length
 | [], D, _ => by simp
 | u :: l, D, hn => by
  rw [List.nodup_cons] at hn
  have h1 : (l.map fun v => (D.filter fun d => decide (g.tail d = v)).length + 1) = l.map fun v => ((D.filter fun d => !decide (g.tail d = u)).filter fun d => decide (g.tail d = v)).length + 1 := by
   refine List.map_congr_left fun v hv => ?_
   congr 2
   rw [List.filter_filter]
   refine List.filter_congr fun d _ => ?_
   by_cases e : g.tail d = v
   ·have : g.tail d ≠ u := fun q => hn.1 (by rw [← q, e]; exact hv)
    have h2 : v ≠ u := fun q => this (e.trans q)
    simp [e, h2]
   simp [e]
  have h2 := sum_darts (g := g) (p := p) (l := l) (D := D.filter fun d => !decide (g.tail d = u)) hn.2
  have h3 : (D.filter fun d => decide (g.tail d = u)).length + (D.filter fun d => !decide (g.tail d = u)).length = D.length := filter_two _ D
  rw [List.map_cons, List.sum_cons, h1, List.length_cons]
  omega
theorem pot_small {g : Plain.Gr} {p : Plain.Pt} (h : p.err g = 0) : Plain.pot g p Plain.Dfs.zero ≤ 10000 := by
 have hk := Plain.Pt.ok_of_err h
 obtain ⟨hz1, hz2, hz3, -⟩ := Plain.Pt.err_ok h
 obtain ⟨hz4, hz5, hz6, -⟩ := Plain.Gr.err_ok hz1
 unfold Plain.pot Plain.dartsAt
 have e : (p.v.filter fun u => decide (Plain.Dfs.zero.met u = 0)) = p.v := List.filter_eq_self.2 fun _ _ => rfl
 rw [e]
 have h1 := sum_darts (g := g) (p := p) (D := p.darts) hk.vn
 have h2 := Plain.darts_length p
 have h3 := rises_len hz2
 have h4 := rises_len hz3
 omega
set_option maxRecDepth 100000 in
set_option maxHeartbeats 4000000 in
theorem bfind_any (vg vp : Value) (g : Plain.Gr) (p : Plain.Pt) (w : World) (N : Nat) (hN : g.n = N) (hpe : p.err g = 0) (hg : GrAt w vg g) (hp : PtAt w vp p) :
  Calls Tryz.prog 98 #[vg, vp] w fun e w' => ∃ k ev m F, e = .returned (.pointer (some ⟨k.pb, 0, none⟩)) ∧ k.n = N ∧ FinAt k g w' (Plain.findAll g p) ev m F ∧ m + (Plain.findAll g p).ed.length ≤ 100000 ∧ k.Ok ∧ w.heap.size ≤ k.w0.heap.size ∧ (∀ j ∈ k.own, w.heap.size ≤ j) ∧ Chg [] w w' := by
 have HNN := Lib.hid hN
 have hok := Plain.Pt.ok_of_err hpe
 obtain ⟨hz1, hz2, hz3, -⟩ := Plain.Pt.err_ok hpe
 obtain ⟨hz4, hz5, hz6, -⟩ := Plain.Gr.err_ok hz1
 have hN1 : N ≤ 1024 := by omega
 have hse : g.e.length ≤ 1024 := by omega
 have hhe : ∀ e ∈ p.e, e < g.e.length := fun e he => (Plain.Pt.edge_in hpe he).2
 have HPE := Lib.hid hpe
 have HPOT := Lib.hid (show Plain.pot g p Plain.Dfs.zero ≤ 10000 from pot_small hpe)
 clear hN hz1 hz2 hz3 hz4 hz5 hz6 hpe
 obtain ⟨eo, cap, ao, ac, bo, bc, rfl, rfl, HG, HP, hm, ham, hbm, HAC, HBC, HAS, HBS, HC1, HBXS⟩ := box_gp hg hp
 clear hg hp
 obtain ⟨x0, x1, y0, y1, hsz⟩ := HBXS.out _ (Chg.refl _ _)
 go_enter Tryz.func98, Tryz.ntmps98
 go_wp2_with fail
 obtain ⟨w1, hw1⟩ : ∃ w1, ((w.alloc (.cells #[.int .i64 g.n, .slice eo g.e.length cap] 41)).alloc (.cells #[.slice ao p.v.length ac, .slice bo p.e.length bc] 43)) = w1 := ⟨_, rfl⟩
 rw [hw1] at HC1 HBXS ⊢
 clear hw1 x0 x1 y0 y1 hsz
 obtain ⟨x0, x1, y0, y1, hsz⟩ := HBXS.out w1 (Chg.refl _ _)
 refine wp_region_apart (w0 := w1) [[],[],[1],[2],[],[4],[5],[],[7],[8],[],[0,3,6,9,10],[11]] [12] [6, 9] (by kernel_rfl) (by kernel_rfl) (by kernel_rfl) (Chg.refl [] w1).drew ?_
 (intro fr hfr; simp only [fillL, Act.put, List.setIfInBounds_toArray, List.set_cons_zero, List.set_cons_succ, Nat.reduceAdd] at hfr; obtain rfl := funext (fun vals => (hfr vals).symm); clear hfr; simp only [List.dropLast, List.zip_cons_cons, List.zip_nil_right])
 refine apart_read (c := .agg #[.int .i64 g.n, .slice eo g.e.length cap]) rfl (by rfl) (fun vals w' hG hF hA => ⟨by rfl, by have q0 := hG.cel x0; have q1 := hG.cel x1; go_simp⟩) ?_
 refine apart_read (c := .pointer (some ⟨w.heap.size, 0, none⟩)) rfl (by rfl) (fun vals w' hG hF hA => ⟨by rfl, by go_simp⟩) ?_
 refine apart_read (c := .int .i64 g.n) rfl (by rfl) (fun vals w' hG hF hA => ⟨by rfl, by simp only [Facts, List.nil_append, List.cons_append, List.getD_cons_zero, List.getD_cons_succ, and_true] at hF; have q0 := hG.cel x0; simp only [hF]; go_simp⟩) ?_
 refine apart_op (fun v w => ∃ b, v = .slice (some ⟨b, 0, none⟩) N N ∧ w.ownsRow w1.heap.size 31 1 (.slice (some ⟨b, 0, none⟩) N N) N (madeCells (Value.slice none 0 0).cells (N * 1)).toList) rfl (by rfl) (fun u w w' hc ⟨b, e, h⟩ => ⟨b, e, owns_chg h hc (by simp)⟩) (fun vals w' hG hF hA => ⟨by rfl, fun K hK => by
  simp only [Facts, List.nil_append, List.cons_append, List.getD_cons_zero, List.getD_cons_succ, and_true] at hF
  refine op_make elemRow _ _ rfl (B := w1.heap.size) (n := N) (by show vals 2 = _; rw [hF, HNN.out]) (by show vals 2 = _; rw [hF, HNN.out]) hG.size (by omega) fun w2 h2 hc2 => ?_
  exact hK.out _ _ ⟨_, rfl, h2⟩ hc2⟩) ?_
 refine apart_read (c := .pointer (some ⟨w.heap.size, 0, none⟩)) rfl (by rfl) (fun vals w' hG hF hA => ⟨by rfl, by go_simp⟩) ?_
 refine apart_read (c := .int .i64 g.n) rfl (by rfl) (fun vals w' hG hF hA => ⟨by rfl, by simp only [Facts, List.nil_append, List.cons_append, List.getD_cons_zero, List.getD_cons_succ, and_true] at hF; have q0 := hG.cel x0; simp only [hF]; go_simp⟩) ?_
 refine apart_new (fun v w => ∃ b, v = .slice (some ⟨b, 0, none⟩) N N ∧ w1.heap.size ≤ b ∧ FnAt w b N fun _ => 0) rfl (fun u w w' hc ⟨b, e, hb, h⟩ => ⟨b, e, hb, h.chg hc (by simp)⟩) (fun vals w' hG hF hA => ⟨by rfl, fun K hK => by
  simp only [Facts, List.nil_append, List.cons_append, List.getD_cons_zero, List.getD_cons_succ, and_true] at hF
  refine op_make elemInt _ _ rfl (B := 0) (n := N) (by show vals 5 = _; rw [hF, HNN.out]) (by show vals 5 = _; rw [hF, HNN.out]) (Nat.zero_le _) (by omega) fun w2 h2 hc2 => ?_
  exact hK.out _ _ ⟨_, rfl, hG.size, by unfold FnAt; rw [fn_zero]; exact row_made h2 (by omega)⟩ hc2 (fun b hb => by
   have e : w'.heap.size = b := by simpa [Value.ownBlock] using hb
   have := owns_lt h2 (b := b) (by simp [Value.ownBlock, e])
   omega)⟩) ?_
 refine apart_read (c := .pointer (some ⟨w.heap.size, 0, none⟩)) rfl (by rfl) (fun vals w' hG hF hA => ⟨by rfl, by go_simp⟩) ?_
 refine apart_read (c := .int .i64 g.n) rfl (by rfl) (fun vals w' hG hF hA => ⟨by rfl, by simp only [Facts, List.nil_append, List.cons_append, List.getD_cons_zero, List.getD_cons_succ, and_true] at hF; have q0 := hG.cel x0; simp only [hF]; go_simp⟩) ?_
 refine apart_new (fun v w => ∃ b, v = .slice (some ⟨b, 0, none⟩) N N ∧ w1.heap.size ≤ b ∧ FnAt w b N fun _ => 0) rfl (fun u w w' hc ⟨b, e, hb, h⟩ => ⟨b, e, hb, h.chg hc (by simp)⟩) (fun vals w' hG hF hA => ⟨by rfl, fun K hK => by
  simp only [Facts, List.nil_append, List.cons_append, List.getD_cons_zero, List.getD_cons_succ, and_true] at hF
  refine op_make elemInt _ _ rfl (B := 0) (n := N) (by show vals 8 = _; rw [hF, HNN.out]) (by show vals 8 = _; rw [hF, HNN.out]) (Nat.zero_le _) (by omega) fun w2 h2 hc2 => ?_
  exact hK.out _ _ ⟨_, rfl, hG.size, by unfold FnAt; rw [fn_zero]; exact row_made h2 (by omega)⟩ hc2 (fun b hb => by
   have e : w'.heap.size = b := by simpa [Value.ownBlock] using hb
   have := owns_lt h2 (b := b) (by simp [Value.ownBlock, e])
   omega)⟩) ?_
 refine apart_op (fun v w => ∃ b, v = .map (some b) ∧ w1.heap.size ≤ b ∧ VMap w b 0 fun _ => none) rfl (by rfl) (fun u w w' hc ⟨b, e, hb, h⟩ => ⟨b, e, hb, h.chg hc (by simp)⟩) (fun vals w' hG hF hA => ⟨by rfl, fun K hK => by
  have hmm := @run_makeMap Tryz.prog
  go_simp
  exact hK.out _ _ ⟨_, rfl, hG.size, VMap.made w'⟩ ((Chg.refl _ _).alloc _)⟩) ?_
 refine apart_op (fun v w => ∃ db mb lb mp, v = .agg #[.int .i64 g.n, .slice eo g.e.length cap, .slice (some ⟨db, 0, none⟩) N N, .slice (some ⟨mb, 0, none⟩) N N, .slice (some ⟨lb, 0, none⟩) N N, .int .i64 0, .slice none 0 0, .map (some mp)] ∧
   w.ownsRow w1.heap.size 31 1 (.slice (some ⟨db, 0, none⟩) N N) N (madeCells (Value.slice none 0 0).cells (N * 1)).toList ∧ (w1.heap.size ≤ mb ∧ FnAt w mb N fun _ => 0) ∧ (w1.heap.size ≤ lb ∧ FnAt w lb N fun _ => 0) ∧ (w1.heap.size ≤ mp ∧ VMap w mp 0 fun _ => none) ∧ mb ≠ lb) rfl (by rfl)
  (fun u w w' hc ⟨db, mb, lb, mp, e, h1, h2, h3, h4, h5⟩ => ⟨db, mb, lb, mp, e, owns_chg h1 hc (by simp), ⟨h2.1, h2.2.chg hc (by simp)⟩, ⟨h3.1, h3.2.chg hc (by simp)⟩, ⟨h4.1, h4.2.chg hc (by simp)⟩, h5⟩) (fun vals w' hG hF hA => ⟨by rfl, fun K hK => by
  simp only [Facts, List.nil_append, List.cons_append, List.getD_cons_zero, List.getD_cons_succ, and_true] at hF
  obtain ⟨e0, ⟨db, e3, h3⟩, ⟨mb, e6, h6⟩, ⟨lb, e9, h9⟩, ⟨mp, e10, h10⟩⟩ := hF
  have hne : mb ≠ lb := fun q => hA 6 (by simp) 9 (by simp) (by simp) (by simp) (by simp) mb (by rw [e6]; rfl) (by rw [e9, q]; rfl)
  simp only [e0, e3, e6, e9, e10] at hK ⊢
  go_simp
  exact hK.out _ _ ⟨db, mb, lb, mp, rfl, h3, h6, h9, h10, hne⟩ (Chg.refl _ _)⟩) ?_
 refine apart_op (fun v w => ∃ pb db mb lb mp, v = .pointer (some ⟨pb, 0, none⟩) ∧ w1.heap.size ≤ pb ∧ w.heap[pb]? = some (.cells #[.int .i64 g.n, .slice eo g.e.length cap, .slice (some ⟨db, 0, none⟩) N N, .slice (some ⟨mb, 0, none⟩) N N, .slice (some ⟨lb, 0, none⟩) N N, .int .i64 0, .slice none 0 0, .map (some mp)] 156 (0, 0)) ∧
   w.ownsRow w1.heap.size 31 1 (.slice (some ⟨db, 0, none⟩) N N) N (madeCells (Value.slice none 0 0).cells (N * 1)).toList ∧ (w1.heap.size ≤ mb ∧ FnAt w mb N fun _ => 0) ∧ (w1.heap.size ≤ lb ∧ FnAt w lb N fun _ => 0) ∧ (w1.heap.size ≤ mp ∧ VMap w mp 0 fun _ => none) ∧ mb ≠ lb) rfl (by rfl)
  (fun u w w' hc ⟨pb, db, mb, lb, mp, e, hb, hr, h1, h2, h3, h4, h5⟩ => ⟨pb, db, mb, lb, mp, e, hb, keptC hc hr, owns_chg h1 hc (by simp), ⟨h2.1, h2.2.chg hc (by simp)⟩, ⟨h3.1, h3.2.chg hc (by simp)⟩, ⟨h4.1, h4.2.chg hc (by simp)⟩, h5⟩) (fun vals w' hG hF hA => ⟨by rfl, fun K hK => by
  simp only [Facts, List.nil_append, List.cons_append, List.getD_cons_zero, List.getD_cons_succ, and_true] at hF
  obtain ⟨db, mb, lb, mp, e, h1, h2, h3, h4, h5⟩ := hF
  simp only [e] at hK ⊢
  go_simp
  have hc := (Chg.refl [] w').alloc (.cells #[.int .i64 g.n, .slice eo g.e.length cap, .slice (some ⟨db, 0, none⟩) N N, .slice (some ⟨mb, 0, none⟩) N N, .slice (some ⟨lb, 0, none⟩) N N, .int .i64 0, .slice none 0 0, .map (some mp)] 156)
  exact hK.out _ _ ⟨_, db, mb, lb, mp, rfl, hG.size, box_new _ _, owns_chg h1 hc (by simp), ⟨h2.1, h2.2.chg hc (by simp)⟩, ⟨h3.1, h3.2.chg hc (by simp)⟩, ⟨h4.1, h4.2.chg hc (by simp)⟩, h5⟩ hc⟩) ?_
 refine apart_last rfl (fun vals w2 hG hF hA => ⟨by rfl, fun K hK => ?_⟩)
 simp only [Facts, List.nil_append, List.cons_append, List.getD_cons_zero, List.getD_cons_succ, and_true] at hF
 obtain ⟨pb, db, mb, lb, mp, e, hpb, hrow, hdb, ⟨hmb, hmet⟩, ⟨hlb, hlow⟩, ⟨hmp, hmap⟩, hml⟩ := hF
 simp only [e] at hK ⊢
 go_simp
 refine hK.out _ _ ?_
 clear hK K
 have HROW := Lib.hid hrow
 have HDB := Lib.hid hdb
 have HMET := Lib.hid hmet
 have HLOW := Lib.hid hlow
 have HMAP := Lib.hid hmap
 have HML := Lib.hid hml
 have HG2 := Lib.hid hG
 have HDBS := Lib.hid (show w.heap.size + 2 ≤ db from Nat.le_trans hsz (hdb.lt db rfl).1)
 obtain ⟨z0, z1, y0, y1, hsz2⟩ := HBXS.out w2 hG
 clear hrow hdb hmet hlow hmap hml e hA hG x0 x1 hsz
 generalize vals 0 = u0
 generalize vals 1 = u1
 generalize vals 2 = u2
 generalize vals 3 = u3
 generalize vals 4 = u4
 generalize vals 5 = u5
 generalize vals 6 = u6
 generalize vals 7 = u7
 generalize vals 8 = u8
 generalize vals 9 = u9
 generalize vals 10 = u10
 generalize vals 11 = u11
 go_wp2_with fail
 have HZ0 := Lib.hid z0
 have HZ1 := Lib.hid z1
 have HY0 := Lib.hid y0
 have HY1 := Lib.hid y1
 have HSZ2 := Lib.hid hsz2
 clear z0 z1 y0 y1 hsz2
 go_loopw [7, 8, 9, 28] (fun _ _ _ iv wr => ∃ i : Nat, i ≤ p.e.length ∧ iv = .int .i64 i ∧ ∃ xs, Nest wr w1.heap.size 31 1 (.slice (some ⟨db, 0, none⟩) N N) N xs ((List.range N).map fun v : Nat => Cell.row (Plain.dartsTo g p v (2 * i))) ∧ (∀ k b, k < xs.length → (xs.getD k undef).ownBlock = some b → w2.heap.size ≤ b) ∧ Chg [db] w2 wr) (fun _ _ _ iv _ => ((p.e.length : Int) - intOf iv).toNat)
 case atStart =>
  refine ⟨0, Nat.zero_le _, rfl, List.replicate N (.slice none 0 0), ?_, fun k b hk hb => ?_, Chg.refl _ _⟩
  ·have h1 := nest_made HDB.out
   rw [show ((List.range N).map fun v : Nat => Cell.row (Plain.dartsTo g p v (2 * 0))) = List.replicate N (.row []) by
    rw [Nat.mul_zero]
    simp only [Plain.dartsTo_zero]
    rw [List.map_const']
    simp]
   exact h1
  simp only [List.length_replicate] at hk
  simp [List.getD, hk, Value.ownBlock] at hb
 case round =>
  obtain ⟨i, hi, rfl, vs, hro, hlo, hcr⟩ := hrel
  have HRO := Lib.hid hro
  have HLO := Lib.hid hlo
  have HCR := Lib.hid hcr
  clear hro hlo
  have hw : ∀ j, j ≤ w.heap.size + 1 → j ∉ [db] := fun j hj q => by
   have := HDBS.out
   rw [List.mem_singleton] at q
   omega
  have y0r := HCR.out.cell HY0.out (hw _ (Nat.le_refl _))
  have z1r := HCR.out.cell HZ1.out (hw _ (Nat.le_succ _))
  by_cases h0 : i = p.e.length
  ·subst h0
   have b0 : decide ((p.e.length : Int) < (p.e.length : Int)) = false := decide_eq_false (by omega)
   have hpn : (w2.heap[pb]? = some (.cells #[.int .i64 g.n, .slice eo g.e.length cap, .slice (some ⟨db, 0, none⟩) N N, .slice (some ⟨mb, 0, none⟩) N N, .slice (some ⟨lb, 0, none⟩) N N, .int .i64 0, .slice none 0 0, .map (some mp)] 156 (0, 0))) := HROW.out
   have hdbk : ∃ cs, w2.heap[db]? = some (.cells cs 31 (0, 0)) := by
    rcases HDB.out.2 with ⟨q, _⟩ | ⟨g', c', cur, q, _, hg', _⟩
    ·cases q
    simp only [Value.slice.injEq, Option.some.injEq, Addr.mk.injEq] at q
    obtain ⟨⟨rfl, -⟩, -⟩ := q
    exact ⟨_, hg'⟩
   obtain ⟨dcs, hdbk⟩ := hdbk
   obtain ⟨mcs, hmk⟩ := HMET.out.kind
   obtain ⟨lcs, hlk⟩ := HLOW.out.kind
   have npd : pb ≠ db := fun q => by rw [q, hdbk] at hpn; simp at hpn
   have nmd : mb ≠ db := fun q => by rw [q, hdbk] at hmk; simp at hmk
   have nld : lb ≠ db := fun q => by rw [q, hdbk] at hlk; simp at hlk
   have nqd : mp ≠ db := fun q => HMAP.out.ne hdbk q.symm
   have hW0 : Chg [] w wr := (HC1.out.tr HG2.out).trans HCR.out (fun j hj => Or.inr (by rw [List.mem_singleton] at hj; have := HDBS.out; omega))
   have HK0 := Lib.hid (show (FK.mk wr pb mb lb mp N (.slice eo g.e.length cap) (.slice (some ⟨db, 0, none⟩) N N)).Ok from ⟨fun j hj => by
    have hsz := HCR.out.size
    have e1 := lt_of_block hpn
    have e2 := lt_of_block hmk
    have e3 := lt_of_block hlk
    have e4 := HMAP.out.lt
    simp only [FK.own, List.mem_cons, List.not_mem_nil, or_false] at hj
    rcases hj with rfl | rfl | rfl | rfl
    ·exact Nat.lt_of_lt_of_le e1 hsz
    ·exact Nat.lt_of_lt_of_le e2 hsz
    ·exact Nat.lt_of_lt_of_le e3 hsz
    exact Nat.lt_of_lt_of_le e4 hsz, HML.out⟩)
   have HOWN := Lib.hid (show ∀ j ∈ [pb, mb, lb, mp], w1.heap.size ≤ j ∧ j < w2.heap.size from fun j hj => by
    have e1 := lt_of_block hpn
    have e2 := lt_of_block hmk
    have e3 := lt_of_block hlk
    have e4 := HMAP.out.lt
    simp only [List.mem_cons, List.not_mem_nil, or_false] at hj
    rcases hj with rfl | rfl | rfl | rfl
    ·exact ⟨hpb, e1⟩
    ·exact ⟨hmb, e2⟩
    ·exact ⟨hlb, e3⟩
    exact ⟨hmp, e4⟩)
   have HH0 := Lib.hid (show (FK.mk wr pb mb lb mp N (.slice eo g.e.length cap) (.slice (some ⟨db, 0, none⟩) N N)).Has g p from by
    refine ⟨HNN.out, by show N ≤ 100000; omega, by omega, hhe, HG.out.fresh hW0, fun hge b n c eb q => ?_, db, N, fun v => vs.getD v undef, rfl, fun q => ?_, fun v (hv : v < N) => ⟨HRO.out.cell (by rw [HRO.out.cells]; omega), ?_, fun b n c e q => ?_⟩⟩
    ·obtain ⟨eo3, cap3, e3, -, -, -, hcl⟩ := HG.out
     obtain ⟨bb, boff, e4, hb0, -⟩ := hcl 0 hge
     simp only [Value.agg.injEq, Array.mk.injEq, List.cons.injEq, true_and, and_true] at e3
     rw [e3] at eb
     rw [e4] at eb
     simp only [Value.slice.injEq, Option.some.injEq] at eb
     have hlt := World.block_lt_of_cell? w _ hb0
     have := (HOWN.out _ q).1
     have h3 := HC1.out.size
     rw [← eb.1] at this
     have : w1.heap.size ≤ bb := this
     have : bb < w.heap.size := hlt
     omega
    ·simp only [FK.own, List.mem_cons, List.not_mem_nil, or_false] at q
     rcases q with q | q | q | q
     ·exact npd q.symm
     ·exact nmd q.symm
     ·exact nld q.symm
     exact nqd q.symm
    ·have hr := HRO.out.row (k := v) (l := Plain.dartsAt g p v) (by
      rw [List.getElem?_map, List.getElem?_range hv]
      simp only [Option.map_some]
      rw [← Plain.dartsTo_all, Plain.darts_length])
     exact hr.ints
    have h1 := HLO.out v b.block (by rw [HRO.out.cells]; omega) (by
     show (vs.getD v undef).ownBlock = _
     have e' : vs.getD v undef = .slice (some b) n c := e
     rw [e']; rfl)
    have h2 := (HOWN.out _ q).2
    omega)
   have hnd : ∀ j, j ≠ db → j ∉ [db] := fun j h q => h (List.mem_singleton.1 q)
   have HF0 := Lib.hid (show FinAt (FK.mk wr pb mb lb mp N (.slice eo g.e.length cap) (.slice (some ⟨db, 0, none⟩) N N)) g wr Plain.Dfs.zero (.slice none 0 0) 0 (fun _ => none) from
    ⟨HCR.out.heap hpn (hnd _ npd), HMET.out.chg HCR.out (hnd _ nmd), HLOW.out.chg HCR.out (hnd _ nld), rowNil _ _, HMAP.out.chg HCR.out (hnd _ nqd), ⟨by simp [Plain.Dfs.zero], by simp⟩, Chg.refl _ _⟩)
   have HW0 := Lib.hid hW0
   have HSZ3 := Lib.hid (show w2.heap.size ≤ wr.heap.size from HCR.out.size)
   have HP0 := Lib.hid hok
   obtain ⟨k, hk⟩ : ∃ k, FK.mk wr pb mb lb mp N (.slice eo g.e.length cap) (.slice (some ⟨db, 0, none⟩) N N) = k := ⟨_, rfl⟩
   have hkp : k.pb = pb := by rw [← hk]
   have hkn : k.n = N := by rw [← hk]
   have hkm : k.mb = mb := by rw [← hk]
   have hkw : k.w0 = wr := by rw [← hk]
   have hko : k.own = [pb, mb, lb, mp] := by rw [← hk]; rfl
   rw [hk] at HK0 HH0 HF0
   have z0r := HCR.out.cell HY0.out (hw _ (Nat.le_refl _))
   have HY0R := Lib.hid (show ∀ wx, Chg k.own wr wx → wx.cell? ⟨w.heap.size + 1, 0, none⟩ = some (.slice ao p.v.length ac) from fun wx hx => hx.cell z0r fun q => by
    rw [hko] at q
    have := (HOWN.out _ q).1
    have h3 := (HBXS.out w1 (Chg.refl _ _)).2.2.2.2
    have : w1.heap.size ≤ w.heap.size + 1 := this
    omega)
   have HVR := Lib.hid (show ∀ wx, Chg k.own wr wx → ∀ i, i < p.v.length → ∃ ab aoff, ao = some ⟨ab, aoff, none⟩ ∧ wx.cell? ⟨ab, aoff + i, none⟩ = some (.int .i64 (p.v.getD i 0)) from fun wx hx i hi => by
    obtain ⟨ab, aoff, e, hac⟩ := HAC.out (fun q => by rw [q] at hi; simp at hi)
    have h1 := hac i hi
    refine ⟨ab, aoff, e, hx.cell (hW0.cel h1) fun q => ?_⟩
    rw [hko] at q
    have h2 := (HOWN.out _ q).1
    have h3 := World.block_lt_of_cell? w _ h1
    have h4 := HC1.out.size
    have : ab < w.heap.size := h3
    have : w1.heap.size ≤ ab := h2
    omega)
   have z0q := HY0R.out wr (Chg.refl _ _)
   have HKP := Lib.hid hkp
   have HKN := Lib.hid hkn
   have HKM := Lib.hid hkm
   have HKW := Lib.hid hkw
   have HKO := Lib.hid hko
   clear hi hcr hpn hdbk hmk hlk npd nmd nld nqd hnd hW0 hk hkp hkn hkm hkw hko z0r
   go_wp2_with fail
   clear z0q
   rename World => wi
   go_loopw [11, 83] (fun _ iv wr => ∃ i : Nat, i ≤ p.v.length ∧ iv = .int .i64 i ∧ ∃ t, Hid (t = Plain.findR g p p.v.length (p.v.take i) Plain.Dfs.zero) ∧ Hid (Plain.Top g p t) ∧ Fin k g p wr t 0) (fun _ iv _ => ((p.v.length : Int) - intOf iv).toNat)
   case atStart => exact ⟨0, Nat.zero_le _, rfl, _, Lib.hid rfl, Lib.hid Plain.Top.start, _, _, _, HF0.out, by have := HPOT.out; show 0 + 0 + Plain.pot g p Plain.Dfs.zero + 0 ≤ 100000; omega, by have := HPOT.out; show (0 : Int) + Plain.pot g p Plain.Dfs.zero ≤ 100000; omega⟩
   case round =>
    obtain ⟨i, hi, rfl, t, ht, htp, ev, m, F, hf, hm1, hm2⟩ := hrel
    have HFI := Lib.hid hf
    have HCK := Lib.hid (show Chg k.own wi wr by have := hf.chg; rw [HKW.out] at this; exact this)
    have HM1 := Lib.hid hm1
    have HM2 := Lib.hid hm2
    have z0q := HY0R.out wr HCK.out
    by_cases h0 : i = p.v.length
    ·subst h0
     have b0 : decide ((p.v.length : Int) < (p.v.length : Int)) = false := decide_eq_false (by omega)
     clear hf hm1 hm2 hi
     go_wp2
     go_ret
     refine ⟨k, ev, m, F, (by rw [HKP.out]; rfl), HKN.out, ?_, ?_, HK0.out, ?_, fun j hj => ?_, ?_⟩
     ·have h1 := HFI.out
      rw [ht.out, List.take_length] at h1
      exact h1
     ·have h1 := HM1.out
      rw [ht.out, List.take_length] at h1
      show m + (Plain.findAll g p).ed.length ≤ 100000
      unfold Plain.findAll
      omega
     ·rw [HKW.out]; exact HW0.out.size
     ·rw [HKO.out] at hj
      have h1 := (HOWN.out j hj).1
      have h2 := HC1.out.size
      omega
     refine HW0.out.trans HCK.out fun j hj => Or.inr ?_
     rw [HKO.out] at hj
     have h1 := (HOWN.out j hj).1
     have h2 := HC1.out.size
     omega
    have hil : i < p.v.length := by omega
    have hji : (i : Int) < (p.v.length : Int) := by omega
    obtain ⟨ab, aoff, rfl, hcv⟩ := HVR.out wr HCK.out i hil
    have hvm : p.v.getD i 0 ∈ p.v := Plain.getD_mem hil
    have hvr := HP0.out.vr _ hvm
    obtain ⟨v, hv⟩ : ∃ v : Nat, p.v.getD i 0 = v := ⟨(p.v.getD i 0).toNat, by omega⟩
    rw [hv] at hcv hvm hvr
    have hvN : v < N := by have := hvr.2; rw [HNN.out] at this; omega
    have hvi : (v : Int) < (N : Int) := by omega
    have hTK : t.met v = 0 → _ := fun q => Plain.Top.step HP0.out htp.out hvm q (n := p.v.length) (List.length_filter_le _ _)
    have HTK := Lib.hid hTK
    have HTN := Lib.hid (show Plain.findR g p p.v.length (p.v.take (i + 1)) Plain.Dfs.zero = if t.met v = 0 then Plain.visit g p p.v.length v (-1) t else t by
     rw [List.take_succ_eq_append_getElem hil]
     unfold Plain.findR
     rw [List.foldl_append]
     have e : p.v[i] = (v : Int) := by rw [← hv]; simp [List.getD, hil]
     rw [e]
     have h1 := ht.out
     unfold Plain.findR at h1
     rw [← h1]
     rfl)
    obtain ⟨-, -, -, a3, -, -, -, -⟩ := hf.eight
    rw [HKP.out, HKM.out, HKN.out] at a3
    have cm := hf.met.cell (v := v) (by rw [HKN.out]; exact hvN)
    rw [HKM.out] at cm
    obtain ⟨tm, htm⟩ : ∃ tm, t.met (v : Int) = tm := ⟨_, rfl⟩
    have HTM := Lib.hid htm
    rw [htm] at cm
    have HVM := Lib.hid hvm
    clear hf hm1 hm2 hv hvm hvr hTK htm h0
    by_cases c0 : tm = 0
    ·have b1 : (tm == 0) = true := by simp [c0]
     have hE : Plain.Ent g p t [] v (-1) := ⟨htp.out.good, HVM.out, by rw [HTM.out]; exact c0, Or.inl ⟨rfl, rfl⟩, by rw [htp.out.ed]; simp, by rw [htp.out.ed]; simp⟩
     have hV := fvisit_any k g p HK0.out HH0.out HP0.out p.v.length t [] v (-1) 0 wr hE (List.length_filter_le _ _) ⟨ev, m, F, HFI.out, HM1.out, HM2.out⟩
     rw [HKP.out] at hV
     have HV := Lib.hid hV
     clear hE hV
     go_wp2_with fail
     refine HV.out.mono ?_
     rintro _ w3 ⟨rfl, hv3⟩
     have HV3 := Lib.hid hv3
     clear hv3
     go_wp2
     go_roundw
     case rel =>
      have h1 := HTN.out
      rw [if_pos (by rw [HTM.out]; exact c0)] at h1
      refine ⟨i + 1, by omega, by go_num, _, Lib.hid h1.symm, Lib.hid (HTK.out (by rw [HTM.out]; exact c0)).1, HV3.out⟩
     case measure => simp [intOf]; omega
    have b1 : (tm == 0) = false := by simp [c0]
    go_wp2
    go_roundw
    case rel =>
     have h1 := HTN.out
     rw [if_neg (by rw [HTM.out]; exact c0), ht.out] at h1
     exact ⟨i + 1, by omega, by go_num, t, Lib.hid (by rw [h1]; exact ht.out), htp, ev, m, F, HFI.out, HM1.out, HM2.out⟩
    case measure => simp [intOf]; omega
  have hil : i < p.e.length := by omega
  have hji : (i : Int) < (p.e.length : Int) := by omega
  obtain ⟨eb, poff, rfl, hec⟩ := HBC.out (fun q => by rw [q] at hil; simp at hil)
  have hec0 := hec i hil
  have hel := World.block_lt_of_cell? w _ hec0
  have hec2 := HCR.out.cell ((HC1.out.tr HG2.out).cel hec0) (hw _ (Nat.le_succ_of_le (Nat.le_of_lt hel)))
  have hem : p.e.getD i 0 ∈ p.e := Plain.getD_mem hil
  obtain ⟨en, hen⟩ : ∃ en : Nat, p.e.getD i 0 = en := ⟨(p.e.getD i 0).toNat, by have := hok.er _ hem; omega⟩
  rw [hen] at hec2 hem
  have henl : en < g.e.length := by have := hhe _ hem; omega
  obtain ⟨eo2, cap2, eq2, -, -, -, hcl⟩ := HG.out
  cases eq2
  obtain ⟨gb, goff, rfl, ha, hb⟩ := hcl en henl
  have hgl := World.block_lt_of_cell? w _ ha
  have ha2 := HCR.out.cell ((HC1.out.tr HG2.out).cel ha) (hw _ (Nat.le_succ_of_le (Nat.le_of_lt hgl)))
  have hb2 := HCR.out.cell ((HC1.out.tr HG2.out).cel hb) (hw _ (Nat.le_succ_of_le (Nat.le_of_lt hgl)))
  have hends := hok.ends _ hem
  rw [show g.at (en : Int) = g.ends en by simp [Plain.Gr.at]] at hends
  obtain ⟨a, hea⟩ : ∃ a : Nat, (g.ends en).1 = a := ⟨(g.ends en).1.toNat, by have := (hok.vr _ hends.1).1; omega⟩
  obtain ⟨b, heb⟩ : ∃ b : Nat, (g.ends en).2 = b := ⟨(g.ends en).2.toNat, by have := (hok.vr _ hends.2).1; omega⟩
  have haN : a < N := by have := (hok.vr _ hends.1).2; rw [hea, HNN.out] at this; omega
  have hbN : b < N := by have := (hok.vr _ hends.2).2; rw [heb, HNN.out] at this; omega
  rw [hea] at ha2
  rw [heb] at hb2
  have HEA := Lib.hid hea
  have HEB := Lib.hid heb
  have HEN := Lib.hid hen
  clear hec hec0 hcl ha hb hea heb hen hends hem h0
  have heni : (en : Int) < (g.e.length : Int) := by omega
  go_wp2_with fail
  have hS0 : Chg [] wr wr.drew := (Chg.refl [] wr).drew
  refine wp_region_way (Chg [] wr) [0, 1, 2, 3, 4, 5, 6, 7, 8, 9, 10, 11, 12, 13] (Way.line [0, 1, 2, 3, 4, 5, 6, 7, 8, 9, 10, 11, 12, 13] .done) (by kernel_rfl) (by kernel_rfl) ?_
  simp only [Way.line]
  repeat (refine along_read (v := ?_) rfl (by rfl) (by rfl) (fun _ _ _ h => h) hS0 (fun w' hS' => ?_) ?_; rotate_left; (focus (have rd0 := hS'.cell z1r (by simp); have rd1 := hS'.cell ha2 (by simp); have rd2 := hS'.cell hb2 (by simp); clear hS'; go_simp; try with_reducible rfl)); simp only [Act.put, Z1, Z2, Z3, Z4, Z5, Z6])
  refine along_done ?_
  have HRO0 := Lib.hid (HRO.out.fresh hS0)
  have HLO0 := HLO
  have HCR0 := Lib.hid (HCR.out.tr hS0)
  have hpc := (cell_of_row w2 pb 2 _ _ _ HROW.out).trans (show _ = some (Value.slice (some ⟨db, 0, none⟩) N N) from rfl)
  have HPC := Lib.hid (show ∀ wx, Chg [db] w2 wx → wx.cell? ⟨pb, 2, none⟩ = some (.slice (some ⟨db, 0, none⟩) N N) from fun wx hx => hx.cell hpc fun q => by
   rw [List.mem_singleton] at q
   have q : pb = db := q
   rcases HDB.out.2 with ⟨q2, _⟩ | ⟨g', c', cur, q2, _, hg', _⟩
   ·cases q2
   simp only [Value.slice.injEq, Option.some.injEq, Addr.mk.injEq] at q2
   obtain ⟨⟨rfl, -⟩, -⟩ := q2
   have h1 := HROW.out
   rw [q, hg'] at h1
   simp at h1)
  have HPR := Lib.hid (show ∀ wx, Chg [db] w2 wx → wx.heap[pb]? = some (.cells #[.int .i64 g.n, .slice (some ⟨gb, goff, none⟩) g.e.length cap, .slice (some ⟨db, 0, none⟩) N N, .slice (some ⟨mb, 0, none⟩) N N, .slice (some ⟨lb, 0, none⟩) N N, .int .i64 0, .slice none 0 0, .map (some mp)] 156 (0, 0)) from fun wx hx => hx.heap HROW.out fun q => by
   rw [List.mem_singleton] at q
   rcases HDB.out.2 with ⟨q2, _⟩ | ⟨g', c', cur, q2, _, hg', _⟩
   ·cases q2
   simp only [Value.slice.injEq, Option.some.injEq, Addr.mk.injEq] at q2
   obtain ⟨⟨rfl, -⟩, -⟩ := q2
   have h1 := HROW.out
   rw [q, hg'] at h1
   simp at h1)
  have hdl : p.darts.length = 2 * p.e.length := Plain.darts_length p
  have HD0 := Lib.hid (show p.darts.getD (2 * i) 0 = 2 * (en : Int) by have := Plain.darts_getD hil 0 (by omega); rw [HEN.out] at this; simpa using this)
  have HD1 := Lib.hid (show p.darts.getD (2 * i + 1) 0 = 2 * (en : Int) + 1 by have := Plain.darts_getD hil 1 (by omega); rw [HEN.out] at this; simpa using this)
  have HT0 := Lib.hid (show g.tail (2 * (en : Int)) = a by rw [← HEA.out]; have := (dart_even g en).1; simpa using this)
  have HT1 := Lib.hid (show g.tail (2 * (en : Int) + 1) = b by rw [← HEB.out]; have := (dart_odd g en).1; simpa using this)
  have HLEN := Lib.hid (show p.e.length ≤ 1024 by have := rises_len (Plain.Pt.err_ok HPE.out).2.2.1; omega)
  have HDL := Lib.hid hdl
  clear hS0 z1r ha2 hb2 y0r hec2 hcr hdl hpc
  generalize wr.drew = wa at *
  have ww0 : IntKind.i64.wrap (2 * (en : Int)) = 2 * (en : Int) := IntWalk.i64_in _ (by omega)
  have ww1 : IntKind.i64.wrap (2 * (en : Int) + 1) = 2 * (en : Int) + 1 := IntWalk.i64_in _ (by omega)
  have pc := HPC.out wa HCR0.out
  have hS0 : Chg [] wa wa.drew := (Chg.refl [] wa).drew
  have hxl0 := HRO0.out.cells
  obtain ⟨va, vc, va', vc', w3, p1, p2, p3, p4, p5, p6, p7, p8, p9, p10, p11⟩ := nest_grow (q := a) (x := 2 * (en : Int)) (HRO0.out.fresh hS0) (by decide) (Nat.le_trans (HRO0.out.out.lt db rfl).1 (Nat.le_trans (Nat.le_of_lt (HRO0.out.out.lt db rfl).2) hS0.size)) (by rw [hxl0]; show a < N * 1; omega) (show _ = some (Cell.row (Plain.dartsTo g p a (2 * i))) by rw [List.getElem?_map, List.getElem?_range haN]; rfl) (I64.mk (by omega) (by omega)) (by have h1 := Plain.dartsTo_len g p a (2 * i); have h2 := HLEN.out; omega)
  have hln : (Plain.dartsTo g p a (2 * i)).length ≤ 2 * i := Plain.dartsTo_len g p a (2 * i)
  obtain ⟨ln, hlne⟩ : ∃ ln, (Plain.dartsTo g p a (2 * i)).length = ln := ⟨_, rfl⟩
  have HP2 := Lib.hid p2
  have HLO1 := Lib.hid (low_set HLO0.out (by rw [hxl0]; show a < N * 1; omega) p7 p6 rfl rfl (Nat.le_trans HCR0.out.size hS0.size))
  have HCR1 := Lib.hid (show Chg [db] w2 _ from (HCR0.out.tr hS0).trans p8 (fun j hj => by
   rcases List.mem_cons.1 hj with q | q
   ·exact Or.inl (by simp [q])
   refine Or.inr (HLO0.out a j (by rw [hxl0]; show a < N * 1; omega) ?_)
   rw [p7]
   simpa [foot] using q))
  have HRO1 := Lib.hid (show Nest _ w1.heap.size 31 1 (.slice (some ⟨db, 0, none⟩) N N) N _ ((List.range N).map fun v : Nat => Cell.row (Plain.dartsTo g p v (2 * i + 1))) by
   have h1 := darts_row (g := g) (p := p) (N := N) (k := 2 * i) (a := a) (d := 2 * (en : Int)) (by rw [HDL.out]; omega) HD0.out HT0.out
   rw [← h1]
   exact p5)
  have hpbr : wa.heap[pb]? = some (.cells #[.int .i64 g.n, .slice (some ⟨gb, goff, none⟩) g.e.length cap, .slice (some ⟨db, 0, none⟩) N N, .slice (some ⟨mb, 0, none⟩) N N, .slice (some ⟨lb, 0, none⟩) N N, .int .i64 0, .slice none 0 0, .map (some mp)] 156 (0, 0)) := HPR.out _ HCR0.out
  have hpf := p11 pb _ _ _ hpbr (by decide)
  rw [hlne] at HP2 HLO1 HCR1 HRO1 p1 p3 p9 p10 hpf
  have HC9 := Lib.hid p9
  have p1b : wa.cell? ⟨db, a, none⟩ = some (.slice va ln vc) := p1
  clear p2 p5 p6 p7 p8 p9 p11 hpbr
  go_wp2_with fail
  have hS1 : Chg (foot (.slice va ln vc)) wa wa.drew := hS0.mono (by simp)
  refine wp_region_way (Chg (foot (.slice va ln vc)) wa) [0, 1, 2, 3, 4, 5, 6, 7, 8, 9, 10, 11, 12, 13] (Way.line [0, 1, 2, 3, 4, 5, 6, 7, 8, 9, 10, 11, 12, 13, 14, 15, 16, 17] .done) (by kernel_rfl) (by kernel_rfl) ?_
  simp only [Way.line]
  repeat (refine along_read (v := ?_) rfl (by rfl) (by rfl) (fun _ _ _ h => h) hS1 (fun w' hS' => ?_) ?_; rotate_left; (focus (have rd0 := hS'.cell pc (by first | exact hpf | exact p10); have rd1 := hS'.cell p1b (by first | exact hpf | exact p10); clear hS'; go_simp; try with_reducible rfl)); simp only [Act.put, Z1, Z2, Z3, Z4, Z5, Z6])
  refine along_op rfl (by rfl) (by rfl) (fun K hK => ?_)
  go_simp
  refine hK.out _ _ (fun _ => hS1.alloc _) ?_
  clear hK K
  try simp only [Act.put, Z1, Z2, Z3, Z4, Z5, Z6]
  refine along_op rfl (by rfl) (by rfl) (fun K hK => ?_)
  simp only [List.getElem_toArray, List.getElem_cons_zero, List.getElem_cons_succ]
  refine wp_apprun (.tmp 55) (.tmp 58) 31 rfl rfl rfl HP2.out ?_
  refine hK.out _ _ (fun _ => (hS0.mono (by simp)).trans HC9.out (fun j hj => Or.inl hj)) ?_
  clear hK K
  try simp only [Act.put, List.setIfInBounds_toArray, List.set_cons_zero, List.set_cons_succ]
  refine along_op rfl (by rfl) (by rfl) (fun K hK => ?_)
  go_simp
  refine hK.out _ _ (fun h => absurd h (Bool.eq_false_iff.1 (by kernel_rfl))) ?_
  clear hK K
  try simp only [Act.put, Z1, Z2, Z3, Z4, Z5, Z6]
  refine along_op rfl (by rfl) (by rfl) (fun K hK => ?_)
  go_simp
  refine hK.out _ _ (fun h => absurd h (Bool.eq_false_iff.1 (by kernel_rfl))) ?_
  clear hK K
  try simp only [Act.put, Z1, Z2, Z3, Z4, Z5, Z6]
  refine along_done ?_
  generalize (w3.setCell ⟨db, a, none⟩ (.slice va' (ln + 1) vc')) = wb at *
  clear p1 p1b p3 p4 p10 hpf hS1 HC9 HP2 pc hS0 hln hlne HRO0 HLO0 HCR0 hxl0
  have pc := HPC.out wb HCR1.out
  have hS0 : Chg [] wb wb.drew := (Chg.refl [] wb).drew
  have hxl1 := HRO1.out.cells
  obtain ⟨va, vc, va', vc', w3, p1, p2, p3, p4, p5, p6, p7, p8, p9, p10, p11⟩ := nest_grow (q := b) (x := 2 * (en : Int) + 1) (HRO1.out.fresh hS0) (by decide) (Nat.le_trans (HRO1.out.out.lt db rfl).1 (Nat.le_trans (Nat.le_of_lt (HRO1.out.out.lt db rfl).2) hS0.size)) (by rw [hxl1]; show b < N * 1; omega) (show _ = some (Cell.row (Plain.dartsTo g p b (2 * i + 1))) by rw [List.getElem?_map, List.getElem?_range hbN]; rfl) (I64.mk (by omega) (by omega)) (by have h1 := Plain.dartsTo_len g p b (2 * i + 1); have h2 := HLEN.out; omega)
  have hln : (Plain.dartsTo g p b (2 * i + 1)).length ≤ 2 * i + 1 := Plain.dartsTo_len g p b (2 * i + 1)
  obtain ⟨ln, hlne⟩ : ∃ ln, (Plain.dartsTo g p b (2 * i + 1)).length = ln := ⟨_, rfl⟩
  have HP2 := Lib.hid p2
  have HLO2 := Lib.hid (low_set HLO1.out (by rw [hxl1]; show b < N * 1; omega) p7 p6 rfl rfl (Nat.le_trans HCR1.out.size hS0.size))
  have HCR2 := Lib.hid (show Chg [db] w2 _ from (HCR1.out.tr hS0).trans p8 (fun j hj => by
   rcases List.mem_cons.1 hj with q | q
   ·exact Or.inl (by simp [q])
   refine Or.inr (HLO1.out b j (by rw [hxl1]; show b < N * 1; omega) ?_)
   rw [p7]
   simpa [foot] using q))
  have HRO2 := Lib.hid (show Nest _ w1.heap.size 31 1 (.slice (some ⟨db, 0, none⟩) N N) N _ ((List.range N).map fun v : Nat => Cell.row (Plain.dartsTo g p v (2 * i + 1 + 1))) by
   have h1 := darts_row (g := g) (p := p) (N := N) (k := 2 * i + 1) (a := b) (d := 2 * (en : Int) + 1) (by rw [HDL.out]; omega) HD1.out HT1.out
   rw [← h1]
   exact p5)
  have hpbr : wb.heap[pb]? = some (.cells #[.int .i64 g.n, .slice (some ⟨gb, goff, none⟩) g.e.length cap, .slice (some ⟨db, 0, none⟩) N N, .slice (some ⟨mb, 0, none⟩) N N, .slice (some ⟨lb, 0, none⟩) N N, .int .i64 0, .slice none 0 0, .map (some mp)] 156 (0, 0)) := HPR.out _ HCR1.out
  have hpf := p11 pb _ _ _ hpbr (by decide)
  rw [hlne] at HP2 HLO2 HCR2 HRO2 p1 p3 p9 p10 hpf
  have HC9 := Lib.hid p9
  have p1b : wb.cell? ⟨db, b, none⟩ = some (.slice va ln vc) := p1
  clear p2 p5 p6 p7 p8 p9 p11 hpbr
  go_wp2_with fail
  have hS1 : Chg (foot (.slice va ln vc)) wb wb.drew := hS0.mono (by simp)
  refine wp_region_way (Chg (foot (.slice va ln vc)) wb) [0, 1, 2, 3, 4, 5, 6, 7, 8, 9, 10, 11, 12, 13, 14] (Way.line [0, 1, 2, 3, 4, 5, 6, 7, 8, 9, 10, 11, 12, 13, 14, 15, 16, 17, 18] .done) (by kernel_rfl) (by kernel_rfl) ?_
  simp only [Way.line]
  repeat (refine along_read (v := ?_) rfl (by rfl) (by rfl) (fun _ _ _ h => h) hS1 (fun w' hS' => ?_) ?_; rotate_left; (focus (have rd0 := hS'.cell pc (by first | exact hpf | exact p10); have rd1 := hS'.cell p1b (by first | exact hpf | exact p10); clear hS'; go_simp; try with_reducible rfl)); simp only [Act.put, Z1, Z2, Z3, Z4, Z5, Z6])
  refine along_op rfl (by rfl) (by rfl) (fun K hK => ?_)
  go_simp
  refine hK.out _ _ (fun _ => hS1.alloc _) ?_
  clear hK K
  try simp only [Act.put, Z1, Z2, Z3, Z4, Z5, Z6]
  refine along_op rfl (by rfl) (by rfl) (fun K hK => ?_)
  simp only [List.getElem_toArray, List.getElem_cons_zero, List.getElem_cons_succ]
  refine wp_apprun (.tmp 72) (.tmp 76) 31 rfl rfl rfl HP2.out ?_
  refine hK.out _ _ (fun _ => (hS0.mono (by simp)).trans HC9.out (fun j hj => Or.inl hj)) ?_
  clear hK K
  try simp only [Act.put, List.setIfInBounds_toArray, List.set_cons_zero, List.set_cons_succ]
  refine along_op rfl (by rfl) (by rfl) (fun K hK => ?_)
  go_simp
  refine hK.out _ _ (fun h => absurd h (Bool.eq_false_iff.1 (by kernel_rfl))) ?_
  clear hK K
  try simp only [Act.put, Z1, Z2, Z3, Z4, Z5, Z6]
  refine along_op rfl (by rfl) (by rfl) (fun K hK => ?_)
  go_simp
  refine hK.out _ _ (fun h => absurd h (Bool.eq_false_iff.1 (by kernel_rfl))) ?_
  clear hK K
  try simp only [Act.put, Z1, Z2, Z3, Z4, Z5, Z6]
  refine along_done ?_
  generalize (w3.setCell ⟨db, b, none⟩ (.slice va' (ln + 1) vc')) = wc at *
  clear p1 p1b p3 p4 p10 hpf hS1 HC9 HP2 pc hS0 hln hlne HRO1 HLO1 HCR1 hxl1
  go_wp2
  go_roundw
  case rel => exact ⟨i + 1, by omega, by go_num, _, HRO2.out, HLO2.out, HCR2.out⟩
  case measure => simp [intOf]; omega
end Go.Proofs.YtpcgklagmcnhaaaGreat
-- READS ONLY
namespace Go.Proofs.YtpcgklagmcnhaaaGreat
open Go.RowKit Go.Maps
namespace Plain
def endsL (g : Gr) (edges : List Int) : List Int := edges.flatMap fun e => [(g.at e).1, (g.at e).2]
theorem endsL_snoc {g : Gr} {l : List Int} {k : Nat} (hk : k < l.length) : endsL g (l.take (k + 1)) = endsL g (l.take k) ++ [(g.at (l.getD k 0)).1, (g.at (l.getD k 0)).2] := by
 unfold endsL
 rw [List.take_succ_eq_append_getElem hk, List.flatMap_append]
 grind
theorem endsL_len (g : Gr) : ∀ l : List Int, (endsL g l).length = 2 * l.length
 | [] => rfl
 | e :: l => by
  have ih := endsL_len g l
  unfold endsL at ih ⊢
  rw [List.flatMap_cons, List.length_append, ih]
  simp only [List.length_cons, List.length_nil]
  omega
def bspan (g : Gr) (edges : List Int) : Pt := ⟨tidy (endsL g edges), edges⟩
end Plain
set_option maxRecDepth 100000 in
set_option maxHeartbeats 4000000 in
theorem bspan_any (vg vl : Value) (g : Plain.Gr) (edges : List Int) (w : World) (hge : g.err = 0) (hl : edges.length ≤ 1024) (hes : ∀ e ∈ edges, 0 ≤ e ∧ e < g.e.length) (hg : GrAt w vg g) (he : IntsAt w vl edges) :
  Calls Tryz.prog 101 #[vg, vl] w fun e w' => ∃ v1 v2, e = .returned (.agg #[v1, v2]) ∧ RowAt w' w.heap.size v1 (Plain.bspan g edges).v ∧ RowAt w' w.heap.size v2 edges ∧ (∀ j ∈ foot v1, j ∉ foot v2) ∧ Chg [] w w' := by
 have HES := Lib.hid hes
 have HG := Lib.hid hg
 have HE := Lib.hid he
 have HGE := Lib.hid (Plain.Gr.err_ok hge)
 obtain ⟨eo, cap, rfl, -, hm, hsm, hcell⟩ := hg
 have HCE := Lib.hid hcell
 have HSM := Lib.hid hsm
 obtain ⟨lo, lc, rfl, hI, -, -⟩ := he
 clear hes hcell hI hge hsm
 have HXC := Lib.hid (show Chg [] w ((w.alloc (.cells #[.int .i64 g.n, .slice eo g.e.length cap] 41)).alloc (.cells #[.slice none 0 0, .slice none 0 0] 43)) from (show Chg [] w ((w.alloc (.cells #[.int .i64 g.n, .slice eo g.e.length cap] 41)).alloc (.cells #[.slice none 0 0, .slice none 0 0] 43)) from (((Chg.refl [] w).alloc _).alloc _)))
 have qbx0 := heap_alloc_new w (.cells #[.int .i64 g.n, .slice eo g.e.length cap] 41)
 replace qbx0 := (show Chg [] (w.alloc (.cells #[.int .i64 g.n, .slice eo g.e.length cap] 41)) ((w.alloc (.cells #[.int .i64 g.n, .slice eo g.e.length cap] 41)).alloc (.cells #[.slice none 0 0, .slice none 0 0] 43)) from ((Chg.refl [] (w.alloc (.cells #[.int .i64 g.n, .slice eo g.e.length cap] 41))).alloc _)).heap qbx0 (by simp)
 have qbx1 := heap_alloc_new (w.alloc (.cells #[.int .i64 g.n, .slice eo g.e.length cap] 41)) (.cells #[.slice none 0 0, .slice none 0 0] 43)
 rw [show (w.alloc (.cells #[.int .i64 g.n, .slice eo g.e.length cap] 41)).heap.size = w.heap.size + 1 by simp] at qbx1
 have HX := Lib.hid (fun (w2 : World) (hbx : Chg [] ((w.alloc (.cells #[.int .i64 g.n, .slice eo g.e.length cap] 41)).alloc (.cells #[.slice none 0 0, .slice none 0 0] 43)) w2) => (⟨hbx.cell ((cell_of_row _ _ 0 _ _ _ qbx0).trans rfl) (by simp), hbx.cell ((cell_of_row _ _ 1 _ _ _ qbx0).trans rfl) (by simp), hbx.heap qbx1 (by simp), by have hz := hbx.size; simpa using hz⟩ : w2.cell? ⟨w.heap.size, 0, none⟩ = some (.int .i64 g.n) ∧ w2.cell? ⟨w.heap.size, 1, none⟩ = some (.slice eo g.e.length cap) ∧ w2.heap[w.heap.size + 1]? = some (.cells #[.slice none 0 0, .slice none 0 0] 43 (0, 0)) ∧ w.heap.size + 2 ≤ w2.heap.size))
 clear qbx0 qbx1
 have HXZ := Lib.hid (show ((w.alloc (.cells #[.int .i64 g.n, .slice eo g.e.length cap] 41)).alloc (.cells #[.slice none 0 0, .slice none 0 0] 43)).heap.size = w.heap.size + 2 by simp)
 go_enter Tryz.func101, Tryz.ntmps101
 go_wp2_with fail
 generalize ((w.alloc (.cells #[.int .i64 g.n, .slice eo g.e.length cap] 41)).alloc (.cells #[.slice none 0 0, .slice none 0 0] 43)) = w1 at *
 refine (clone_any _ edges _ (by omega) (HE.out.fresh HXC.out)).mono ?_
 rintro e w3 ⟨v2, rfl, hr2, hc3⟩
 obtain ⟨o2, c2, rfl⟩ := hr2.shape
 have HR2 := Lib.hid hr2
 have HC3 := Lib.hid hc3
 clear hr2 hc3
 have HOB := Lib.hid (heap_alloc_new w3 (.cells #[.slice none 0 0, .slice o2 edges.length c2] 43))
 have HC4 := Lib.hid ((Chg.refl [] w3).alloc (.cells #[.slice none 0 0, .slice o2 edges.length c2] 43))
 have HLEN := Lib.hid (Plain.endsL_len g)
 go_wp2_with fail
 go_loopw [7, 13] (fun _ iv wr => ∃ k : Nat, k ≤ edges.length ∧ iv = .int .i64 k ∧ ∃ uo uc, wr.heap[w3.heap.size]? = some (.cells #[.slice uo (2 * k) uc, .slice o2 edges.length c2] 43 (0, 0)) ∧ RowAt wr w3.heap.size (.slice uo (2 * k) uc) (Plain.endsL g (edges.take k)) ∧ Chg [] w3 wr) (fun _ iv _ => edges.length - (intOf iv).toNat)
 case atStart => exact ⟨0, Nat.zero_le _, rfl, none, 0, HOB.out, rowNil' _ _, HC4.out⟩
 case round =>
  obtain ⟨k, hk, rfl, uo, uc, ho, hr, hc⟩ := hrel
  have HO := Lib.hid ho
  have HR := Lib.hid hr
  have HC := Lib.hid hc
  have HW := Lib.hid (HXC.out.trans (HC3.out.trans hc (by simp)) (by simp))
  obtain ⟨x0, x1, r8, -⟩ := HX.out wr (HC3.out.trans hc (by simp))
  have HR8 := Lib.hid r8
  have o0 := (cell_of_row _ _ 0 _ _ _ ho).trans (show _ = some (Value.slice uo (2 * k) uc) from rfl)
  have o1 := (cell_of_row _ _ 1 _ _ _ ho).trans (show _ = some (Value.slice o2 edges.length c2) from rfl)
  have f0 := free_at ho 0
  have f1 := free_at ho 1
  clear ho hr hc r8
  by_cases hlt : k < edges.length
  ·obtain ⟨rb, roff, rfl, rc⟩ := IntsAt.cellAt HE.out hlt
   have rcell := HW.out.cell rc (by simp)
   have her := HES.out _ (Plain.getD_mem hlt)
   have HEL := Lib.hid (Plain.endsL_snoc (g := g) hlt)
   obtain ⟨ei, hei⟩ : ∃ ei : Nat, edges.getD k 0 = (ei : Int) := ⟨(edges.getD k 0).toNat, by omega⟩
   rw [hei] at rcell her HEL
   have hel : ei < g.e.length := by omega
   obtain ⟨eb, eoff, rfl, hc0, hc1⟩ := HCE.out ei hel
   obtain ⟨hi1, hi2⟩ := HSM.out ei hel
   have c0 := HW.out.cell hc0 (by simp)
   have c1 := HW.out.cell hc1 (by simp)
   have hat : g.at (ei : Int) = g.ends ei := by grind [Plain.Gr.at]
   rw [hat] at HEL
   obtain ⟨x, hx⟩ : ∃ x, (g.ends ei).1 = x := ⟨_, rfl⟩
   obtain ⟨y, hy⟩ : ∃ y, (g.ends ei).2 = y := ⟨_, rfl⟩
   rw [hx] at c0 hi1 HEL
   rw [hy] at c1 hi2 HEL
   have hnf : w3.heap.size ∉ foot (.slice uo (2 * k) uc) := fun q => by
    obtain ⟨cs, r, hh⟩ := row_kind HR.out _ q
    rw [HO.out] at hh
    simp at hh
   have hlow : ∀ j ∈ foot (.slice uo (2 * k) uc), w3.heap.size ≤ j := fun j hj => (HR.out.low j (by rw [← HR.out.foot]; exact hj)).1
   have HLOW := Lib.hid hlow
   have hSB : Chg (foot (.slice uo (2 * k) uc)) wr wr.drew := (Chg.refl _ wr).drew
   have hx1n : w.heap.size ∉ foot (.slice uo (2 * k) uc) := fun q => by have := hlow _ q; have := HC3.out.size; have := HXZ.out; omega
   have hebn : eb ∉ foot (.slice uo (2 * k) uc) := fun q => by have := hlow _ q; have := HC3.out.size; have := HXZ.out; have := World.block_lt_of_cell? w _ hc0; simp at this; omega
   have hrbn : rb ∉ foot (.slice uo (2 * k) uc) := fun q => by have := hlow _ q; have := HC3.out.size; have := HXZ.out; have := World.block_lt_of_cell? w _ rc; simp at this; omega
   have hkl : k < 1024 := by omega
   have eik : ei < 1024 := by have := HGE.out.2.2.1; have := HGE.out.1; omega
   clear rc her hei hc0 hc1 hat hx hy hlow
   go_wp2_with fail
   refine wp_region_way (Chg (foot (.slice uo (2 * k) uc)) wr) [0, 1, 2, 3, 4, 5, 6, 7, 8, 9, 10, 11, 12, 13] (Way.line [0, 1, 2, 3, 4, 5, 6, 7, 8, 9, 10, 11, 12, 13, 14, 15, 16, 17] .done) (by kernel_rfl) (by kernel_rfl) ?_
   simp only [Way.line]
   repeat (refine along_read (v := ?_) rfl (by rfl) (by rfl) (fun _ _ _ h => h) hSB (fun w' hS' => ?_) ?_; rotate_left; (focus (have rd0 := hS'.cell o0 (by first | exact hnf | exact hx1n | exact hebn); have rd1 := hS'.cell x1 (by first | exact hnf | exact hx1n | exact hebn); have rd2 := hS'.cell c0 (by first | exact hnf | exact hx1n | exact hebn); have rd3 := hS'.cell c1 (by first | exact hnf | exact hx1n | exact hebn); clear hS'; go_simp; try with_reducible rfl)); simp only [Act.put, Z1, Z2, Z3, Z4, Z5, Z6])
   refine along_op rfl (by rfl) (by rfl) (fun K hK => ?_)
   go_simp
   have HLI := Lib.hid ((lit_two wr hi1 hi2).fresh (Chg.refl [] _).drew)
   refine hK.out _ _ (fun _ => hSB.alloc _) ?_
   clear hK K
   try simp only [Act.put, Z1, Z2, Z3, Z4, Z5, Z6]
   refine along_op rfl (by rfl) (by rfl) (fun K hK => ?_)
   simp only [List.getElem_toArray, List.getElem_cons_zero, List.getElem_cons_succ]
   have ca : Chg [] wr (wr.alloc (.cells #[.int .i64 x, .int .i64 y] 3)).drew := ((Chg.refl [] wr).alloc _).drew
   have hel2 : (Plain.endsL g (edges.take k)).length = 2 * k := by rw [HLEN.out, List.length_take]; omega
   refine wp_app_readK _ _ rfl (B := w3.heap.size) (v := .slice uo (2 * k) uc) rfl rfl (HR.out.chg ca (by simp)) HLI.out (Nat.le_trans HC.out.size ca.size) (by grind) fun v' w7 r7 c7 f7 => ?_
   rw [← HEL.out] at r7
   have R7 := Lib.hid r7
   have C7 := Lib.hid c7
   have CA := Lib.hid ca
   have hel3 : (Plain.endsL g (edges.take (k + 1))).length = 2 * k + 2 := by rw [HLEN.out, List.length_take]; omega
   obtain ⟨vo, vc, rfl⟩ := r7.shape
   rw [hel3] at R7
   refine hK.out _ _ (fun _ => (ca.mono (by simp)).trans c7 (fun j hj => Or.inl hj)) ?_
   have o7 := c7.cell (ca.cell o0 (by simp)) hnf
   have g7 := c7.frozen (ca.cell o0 (by simp)) (free_at (ca.heap HO.out (by simp)) 0) hnf
   have HO7 := Lib.hid (c7.heap (ca.heap HO.out (by simp)) hnf)
   rw [hel3]
   clear hK K r7 c7 f7 ca hel2 hel3
   try simp only [Act.put, List.setIfInBounds_toArray, List.set_cons_zero, List.set_cons_succ]
   refine along_op rfl (by rfl) (by rfl) (fun K hK => ?_)
   go_simp
   refine hK.out _ _ (fun h => absurd h (Bool.eq_false_iff.1 (by kernel_rfl))) ?_
   clear hK K
   try simp only [Act.put, Z1, Z2, Z3, Z4, Z5, Z6]
   refine along_op rfl (by rfl) (by rfl) (fun K hK => ?_)
   go_simp
   refine hK.out _ _ (fun h => absurd h (Bool.eq_false_iff.1 (by kernel_rfl))) ?_
   clear hK K
   try simp only [Act.put, Z1, Z2, Z3, Z4, Z5, Z6]
   refine along_done ?_
   have hset : Chg [w3.heap.size] w7 (w7.setCell ⟨w3.heap.size, 0, none⟩ (.slice vo (2 * k + 2) vc)) := by grind [Chg.refl, Chg.setCell]
   have HO8 := Lib.hid (heap_setCell_same HO7.out 0 (.slice vo (2 * k + 2) vc))
   have HR8b := Lib.hid (R7.out.chg hset (fun b hb q => by
    obtain ⟨cs, r, hh⟩ := row_kind R7.out b (by rw [R7.out.foot]; exact hb)
    rw [List.mem_singleton] at q
    rw [q, HO7.out] at hh
    simp at hh))
   have HC8 := Lib.hid (show Chg [] w3 (w7.setCell ⟨w3.heap.size, 0, none⟩ (.slice vo (2 * k + 2) vc)) from ((HC.out.trans CA.out (by simp)).trans C7.out (fun j hj => Or.inr (HLOW.out j hj))).trans hset (fun j hj => Or.inr (by grind)))
   clear hset o7 g7 o0 o1 f0 f1 x0 x1 c0 c1 rcell
   generalize (w7.setCell ⟨w3.heap.size, 0, none⟩ (.slice vo (2 * k + 2) vc)) = w8 at *
   go_wp2
   go_roundw
   case rel => exact ⟨k + 1, by omega, by go_num, vo, vc, HO8.out, HR8b.out, HC8.out⟩
   case measure => simp [intOf]; omega
  have e : k = edges.length := by omega
  subst e
  have hel2 : (Plain.endsL g edges).length = 2 * edges.length := HLEN.out edges
  have HR9 := Lib.hid (show RowAt wr w3.heap.size (.slice uo (Plain.endsL g edges).length uc) (Plain.endsL g edges) by rw [hel2]; have := HR.out; rwa [List.take_length] at this)
  have HO9 := Lib.hid (show wr.heap[w3.heap.size]? = some (.cells #[.slice uo (Plain.endsL g edges).length uc, .slice o2 edges.length c2] 43 (0, 0)) by rw [hel2]; exact HO.out)
  rw [← hel2] at o0
  have HEL2 := Lib.hid hel2
  have HML := Lib.hid (show (Plain.endsL g edges).length < 1000000000 by grind)
  clear HR HO hk hlt hel2 x0 x1
  obtain ⟨M, hM⟩ : ∃ M, Plain.endsL g edges = M := ⟨_, rfl⟩
  rw [hM] at HR9 HO9 o0 HEL2 HML
  have HM := Lib.hid hM
  have hnf : ∀ (wx : World) (v : Value) (q : List Int), RowAt wx w3.heap.size v q → (∃ cs, wx.heap[w3.heap.size]? = some (.cells cs 43 (0, 0))) → w3.heap.size ∉ v.ownBlock.toList := fun _ _ _ h ⟨cs0, h0⟩ q => by
   obtain ⟨cs, r, hh⟩ := row_kind h _ (by rw [h.foot]; exact q)
   grind
  have HNF := Lib.hid hnf
  clear hM hnf
  go_wp2_with fail
  refine (sortI_any _ M _ _ HML.out HR9.out).mono ?_
  rintro e w5 ⟨rfl, hr5, hc5⟩
  have hn5 := HNF.out _ _ _ HR9.out ⟨_, HO9.out⟩
  have o05 := hc5.cell o0 hn5
  have HO5 := Lib.hid (hc5.heap HO9.out hn5)
  have hsl : (M.mergeSort fun x y => decide (x ≤ y)).length = M.length := (List.mergeSort_perm _ _).length_eq
  have HTY := Lib.hid (show Go.Lib.compact (M.mergeSort fun x y => decide (x ≤ y)) = Plain.tidy M from rfl)
  have HC5 := Lib.hid (show Chg [] w3 w5 from HC.out.trans hc5 (fun b hb => Or.inr (HR9.out.low b hb).1))
  obtain ⟨S, hS⟩ : ∃ S, (M.mergeSort fun x y => decide (x ≤ y)) = S := ⟨_, rfl⟩
  rw [hS] at hsl hr5 HTY
  have HR5 := Lib.hid hr5
  have HSL := Lib.hid hsl
  clear hr5 hc5 hn5 hsl hS o0 o1 f0 f1
  go_wp2_with fail
  refine (compactI_any _ S _ _ (by rw [HSL.out]; exact HML.out) HR5.out).mono ?_
  rintro e w6 ⟨v6, rfl, hr6, hc6⟩
  rw [HTY.out] at hr6
  have hn6 := HNF.out _ _ _ HR5.out ⟨_, HO5.out⟩
  have ho6 := hc6.heap HO5.out hn6
  have p06 := hc6.cell o05 hn6
  have g06 := free_at ho6 0
  have HO6 := Lib.hid ho6
  have HC6 := Lib.hid (show Chg [] w3 w6 from HC5.out.trans hc6 (fun b hb => Or.inr (HR5.out.low b hb).1))
  have HR6 := Lib.hid hr6
  obtain ⟨o6, c6, rfl⟩ := hr6.shape
  have hnv := HNF.out _ _ _ hr6 ⟨_, ho6⟩
  have hset : Chg [w3.heap.size] w6 (w6.setCell ⟨w3.heap.size, 0, none⟩ (.slice o6 (Plain.tidy M).length c6)) := by grind [Chg.refl, Chg.setCell]
  have ho7 := heap_setCell_same ho6 0 (.slice o6 (Plain.tidy M).length c6)
  have HR7 := Lib.hid (hr6.chg hset (fun b hb q => hnv (by grind)))
  have HC7 := Lib.hid (show Chg [] w3 (w6.setCell ⟨w3.heap.size, 0, none⟩ (.slice o6 (Plain.tidy M).length c6)) from HC6.out.trans hset (fun j hj => Or.inr (by grind)))
  have HO7 := Lib.hid ho7
  have p16 := (cell_of_row _ _ 1 _ _ _ ho6).trans (show _ = some (Value.slice o2 edges.length c2) from rfl)
  obtain ⟨-, -, r86, -⟩ := HX.out w6 (HC3.out.trans HC6.out (by simp))
  have y06 := (cell_of_row _ _ 0 _ _ _ r86).trans (show _ = some (Value.slice none 0 0) from rfl)
  have y16 := (cell_of_row _ _ 1 _ _ _ r86).trans (show _ = some (Value.slice none 0 0) from rfl)
  have g16 := free_at r86 0
  have g26 := free_at r86 1
  have hne1 : ¬ w3.heap.size = w.heap.size + 1 := fun q => by have := HC3.out.size; have := HXZ.out; omega
  have hne2 : ¬ w.heap.size + 1 = w3.heap.size := by grind
  clear hr6 hc6 ho6 hnv hset ho7 hn6 o05
  obtain ⟨-, -, r87, -⟩ := HX.out (w6.setCell ⟨w3.heap.size, 0, none⟩ (.slice o6 (Plain.tidy M).length c6)) (HC3.out.trans HC7.out (by simp))
  have hs0 : Chg [w.heap.size + 1] (w6.setCell ⟨w3.heap.size, 0, none⟩ (.slice o6 (Plain.tidy M).length c6)) (((w6.setCell ⟨w3.heap.size, 0, none⟩ (.slice o6 (Plain.tidy M).length c6)).setCell ⟨w.heap.size + 1, 0, none⟩ (.slice o6 (Plain.tidy M).length c6)).setCell ⟨w.heap.size + 1, 1, none⟩ (.slice o2 edges.length c2)) := by grind [Chg.refl, Chg.setCell, Plain.tidy]
  have hheap := heap_setCell_same (heap_setCell_same r87 0 (.slice o6 (Plain.tidy M).length c6)) 1 (.slice o2 edges.length c2)
  have q0 := (cell_of_row _ _ 0 _ _ _ hheap).trans (show _ = some (Value.slice o6 (Plain.tidy M).length c6) from rfl)
  have q1 := (cell_of_row _ _ 1 _ _ _ hheap).trans (show _ = some (Value.slice o2 edges.length c2) from rfl)
  have HQ0 := Lib.hid q0
  have HQ1 := Lib.hid q1
  have hkind : ∀ {v : Value} {q : List Int} {B : Nat}, RowAt (w6.setCell ⟨w3.heap.size, 0, none⟩ (.slice o6 (Plain.tidy M).length c6)) B v q → ∀ b ∈ v.ownBlock.toList, b ∉ [w.heap.size + 1] := fun h b hb e => by
   obtain ⟨cs, r, hh⟩ := row_kind h b (by rw [h.foot]; exact hb)
   grind
  have hsz3 : w.heap.size + 2 ≤ w3.heap.size := by have := HC3.out.size; have := HXZ.out; omega
  have HRA := Lib.hid ((HR7.out.chg hs0 (hkind HR7.out)).base (show w.heap.size ≤ w3.heap.size by omega))
  have hr2 := HR2.out.chg HC7.out (by simp)
  have HRB := Lib.hid ((hr2.chg hs0 (hkind hr2)).base (show w.heap.size ≤ w1.heap.size by have := HXZ.out; omega))
  have HAP := Lib.hid (show ∀ j ∈ foot (.slice o6 (Plain.tidy M).length c6), j ∉ foot (.slice o2 edges.length c2) from fun j hj q => by
   have h1 := (HR7.out.low j (by rw [← HR7.out.foot]; exact hj)).1
   have h2 := (HR2.out.low j (by rw [← HR2.out.foot]; exact q)).2
   omega)
  have HCF := Lib.hid (show Chg [] w _ from (HXC.out.trans (HC3.out.trans HC7.out (by simp)) (by simp)).trans hs0 (fun j hj => Or.inr (by grind)))
  have HMT := Lib.hid (show (Plain.bspan g edges).v = Plain.tidy M by show Plain.tidy (Plain.endsL g edges) = _; rw [HM.out])
  clear q0 q1 hs0 hheap hkind hr2 hsz3 r87
  go_wp2
  refine bodyPost_ret (v := .agg #[.slice o6 (Plain.tidy M).length c6, .slice o2 edges.length c2]) (by have h0 := HQ0.out; have h1 := HQ1.out; simp [results, Tryz.results101, go_sem, h0, h1]) rfl ?_
  rw [HMT.out]
  exact ⟨_, _, rfl, HRA.out, HRB.out, HAP.out, HCF.out⟩
end Go.Proofs.YtpcgklagmcnhaaaGreat
namespace Go.Proofs
open Go.Shelf
def Tryz.keysM_ren : Go.Shelf.Ren := ⟨fun | 7 => 100 | 10 => 137 | n => n, fun | 23 => 121 | 26 => 3 | 3 => 31 | 28 => 161 | 0 => 0 | 27 => 160 | 33 => 171 | 4 => 4 | n => n, fun | n => n⟩
theorem Tryz.keysM : Go.Proofs.SlLaysZI.n7 Tryz.prog Tryz.keysM_ren := {
 mixed := by kernel_rfl
 f7 := ⟨Tryz.f100.name, by decide, Tryz.func100.trans (congrArg some (by kernel_rfl))⟩
 f10 := ⟨Tryz.f137.name, by decide, Tryz.func137.trans (congrArg some (by kernel_rfl))⟩
 t0 := Tryz.underlying0
 a0 := Tryz.isAgg0
 z0 := Tryz.sizeOf0
 v0 := Tryz.zeroValue0
 t4 := Tryz.underlying4
 a4 := Tryz.isAgg4
 z4 := Tryz.sizeOf4
 v4 := Tryz.zeroValue4
 t23 := Tryz.underlying121
 a23 := Tryz.isAgg121
 z23 := Tryz.sizeOf121
 v23 := Tryz.zeroValue121
 t26 := Tryz.underlying3
 a26 := Tryz.isAgg3
 z26 := Tryz.sizeOf3
 v26 := Tryz.zeroValue3
 t27 := Tryz.underlying160
 a27 := Tryz.isAgg160
 z27 := Tryz.sizeOf160
 v27 := Tryz.zeroValue160
 t28 := Tryz.underlying161
 a28 := Tryz.isAgg161
 z28 := Tryz.sizeOf161
 v28 := Tryz.zeroValue161
 t33 := Tryz.underlying171
 a33 := Tryz.isAgg171
 z33 := Tryz.sizeOf171
 v33 := Tryz.zeroValue171 }
def Tryz.sortedM_ren : Go.Shelf.Ren := ⟨fun | 6 => 99 | 8 => 136 | 9 => 31 | 11 => 168 | 13 => 59 | 12 => 58 | 23 => 95 | 24 => 96 | 14 => 86 | 15 => 87 | 16 => 88 | 17 => 89 | 18 => 90 | 19 => 91 | 20 => 92 | 21 => 93 | 22 => 94 | 25 => 129 | 26 => 130 | 27 => 131 | 28 => 132 | 29 => 133 | 30 => 116 | 31 => 165 | n => n, fun | 26 => 3 | 28 => 161 | 24 => 31 | 0 => 0 | 3 => 3 | 37 => 109 | 48 => 151 | 50 => 153 | 4 => 4 | 40 => 145 | 39 => 144 | 45 => 29 | 5 => 5 | 9 => 9 | 51 => 184 | 55 => 188 | 57 => 210 | 58 => 211 | 33 => 171 | n => n, fun | n => n⟩
theorem Tryz.sortedM : Go.Proofs.SlLaysZI.n6 Tryz.prog Tryz.sortedM_ren := {
 mixed := by kernel_rfl
 f6 := ⟨Tryz.f99.name, by decide, Tryz.func99.trans (congrArg some (by kernel_rfl))⟩
 f8 := ⟨Tryz.f136.name, by decide, Tryz.func136.trans (congrArg some (by kernel_rfl))⟩
 f11 := ⟨Tryz.f168.name, by decide, Tryz.func168.trans (congrArg some (by kernel_rfl))⟩
 t0 := Tryz.underlying0
 a0 := Tryz.isAgg0
 z0 := Tryz.sizeOf0
 v0 := Tryz.zeroValue0
 t24 := Tryz.underlying31
 a24 := Tryz.isAgg31
 z24 := Tryz.sizeOf31
 v24 := Tryz.zeroValue31
 t26 := Tryz.underlying3
 a26 := Tryz.isAgg3
 z26 := Tryz.sizeOf3
 v26 := Tryz.zeroValue3
 t28 := Tryz.underlying161
 a28 := Tryz.isAgg161
 z28 := Tryz.sizeOf161
 v28 := Tryz.zeroValue161
 i26 := by kernel_rfl }
end Go.Proofs
namespace Go.Proofs.YtpcgklagmcnhaaaGreat
open Go.RowKit Go.Maps Go.Sort
theorem sorts_in (m : Nat) : AnyZI.SortsIn Tryz.prog Tryz.sortedM_ren Fence.wide m :=
 ⟨fun blk off cap ss W hH hblk hsz => callsIn_wide.2 (Tryz.slices_Sort_int blk off cap ss W hH hblk hsz),
  fun p cap W => callsIn_wide.2 (Tryz.slices_Sort_int_none p cap W)⟩
theorem keys_any (b : Nat) (w : World) : Calls Tryz.prog 100 #[.map (some b)] w fun e w' =>
  e = .returned (.func (.func 137) #[] #[.pointer (some ⟨w.heap.size, 0, none⟩)]) ∧ w' = w.alloc (.cells #[.map (some b)] 121) :=
 (callsIn_wide (n := 5)).1 (AnyZI.keys_in Tryz.keysM Fence.wide 5 trivial rfl (some b) w)
theorem VMap.keys {w : World} {b n : Nat} {F : Int → Option Value} (h : VMap w b n F) : ∃ D : DataW Unit, w.ownsMap Tryz.prog 3 litRow b n D ∧ Maps.size D ≤ n ∧ (intKeys D).Nodup ∧ ∀ x, x ∈ intKeys D ↔ I64 x ∧ (F x).isSome = true := by
 obtain ⟨D, hown, hD⟩ := h
 obtain ⟨es, rfl, hpw, _⟩ := hown.entries keyedInt
 obtain ⟨es', e, hko⟩ := hown.keysOf
 obtain rfl : es = es' := by simpa using e
 have hk : ∀ p ∈ es, ∃ x, p.1 = .int .i64 x ∧ I64 x := fun p hp => by
  obtain ⟨v, hv⟩ := hko p hp
  obtain ⟨x, _, hx, hw⟩ := Maps.keyOf_i64 Tryz.underlying3 hv
  exact ⟨x, hx, hw⟩
 refine ⟨_, hown, hown.size_le, ?_, fun x => ?_⟩
 ·show (es.map fun p => Go.intOf p.1).Nodup
  refine List.pairwise_map.2 (hpw.imp_of_mem fun {p q} hp' hq' hne e => hne ?_)
  obtain ⟨a, ha, -⟩ := hk p hp'
  obtain ⟨c, hc, -⟩ := hk q hq'
  rw [ha, hc] at e ⊢
  exact congrArg _ e
 show x ∈ es.map (fun p => Go.intOf p.1) ↔ _
 rw [List.mem_map]
 constructor
 ·rintro ⟨p, hp, rfl⟩
  obtain ⟨a, ha, hi⟩ := hk p hp
  rw [ha]
  show I64 a ∧ (F a).isSome = true
  refine ⟨hi, ?_⟩
  rw [← (hD a hi).1, has_eq, List.any_eq_true]
  exact ⟨p, hp, by rw [ha]; simp [Lit.sameKey]⟩
 rintro ⟨hi, hs⟩
 rw [← (hD x hi).1, has_eq, List.any_eq_true] at hs
 obtain ⟨p, hp, hs⟩ := hs
 obtain ⟨a, ha, -⟩ := hk p hp
 rw [ha] at hs
 refine ⟨p, hp, ?_⟩
 rw [ha]
 simpa [Lit.sameKey, Go.intOf] using hs
theorem sorted_any (b n : Nat) (F : Int → Option Value) (ks : List Int) (w : World) (h : VMap w b n F) (hn : n ≤ 1000000) (hks : ks.Nodup) (hm : ∀ x, x ∈ ks ↔ I64 x ∧ (F x).isSome = true) :
  Calls Tryz.prog 99 #[.func (.func 137) #[] #[.pointer (some ⟨w.heap.size, 0, none⟩)]] (w.alloc (.cells #[.map (some b)] 121)) fun e w' =>
   ∃ v, e = .returned v ∧ RowAt w' w.heap.size v (ks.mergeSort fun x y => decide (x ≤ y)) ∧ Chg [] w w' := by
 obtain ⟨D, hown, hsz, hnd, hmem⟩ := h.keys
 have hbl := hown.lt
 have hseq : SeqGives Fence.wide 2 Tryz.prog 137 #[.pointer (some ⟨w.heap.size, 0, none⟩)] encZ (fun ss => ss.Perm (intKeys D)) (Maps.size D) (w.alloc (.cells #[.map (some b)] 121)) :=
  AnyZI.keys_gives (ρ := Tryz.keysM_ren) { Tryz.keysM with } Fence.wide _ trivial rfl (by omega) w.heap.size b n D _ (by simp) (by simp) (by
   obtain ⟨es, clock, hb, Ft, hs, hD⟩ := hown
   exact ⟨es, clock, (Below.heap_alloc _ _ b hbl).trans hb, Ft, hs, hD⟩)
 have cS := AnyZI.sorted_in Tryz.sortedM Fence.wide 5 trivial trivial trivial trivial rfl (by omega) (sorts_in _) (enters_of Tryz.func31 (by kernel_rfl) rfl) 137 #[.pointer (some ⟨w.heap.size, 0, none⟩)] trivial (enters_of Tryz.func137 (by kernel_rfl) rfl) _ _ (show Maps.size D ≤ maxLen by unfold maxLen; omega) (by omega) _ hseq
 refine ((callsIn_wide (n := 5)).1 cS).mono ?_
 rintro e w' ⟨v, ss, rfl, hS, hrow, -, hb⟩
 have hperm : ss.Perm ks := hS.trans ((List.perm_ext_iff_of_nodup hnd hks).2 fun x => by grind)
 have hsort : (ss.mergeSort fun x y => decide (x ≤ y)) = ks.mergeSort fun x y => decide (x ≤ y) := mergeSort_of_perm_i hperm
 have hlen : ss.length = (ks.mergeSort fun x y => decide (x ≤ y)).length := by rw [hperm.length_eq, (List.mergeSort_perm _ _).length_eq]
 rw [hsort] at hrow
 have hc : Chg [] w (w.alloc (.cells #[.map (some b)] 121)) := (Chg.refl _ _).alloc _
 refine ⟨v, rfl, ⟨?_, fun x hx => ?_, ?_⟩, hc.trans (Chg.of_below hb (Nat.le_refl _)) (by simp)⟩
 ·rw [hlen] at hrow
  exact owns_base hrow hc.size
 ·exact ((hm x).1 ((List.mergeSort_perm _ _).mem_iff.1 hx)).1
 have h1 : (intKeys D).length = Maps.size D := by
  obtain ⟨es, rfl, -⟩ := hown.entries keyedInt
  show (es.map _).length = es.length
  simp
 have := hS.length_eq
 omega
end Go.Proofs.YtpcgklagmcnhaaaGreat
