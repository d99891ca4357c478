/- block.find: contract. Conditions: what each theorem says. -/
import Derived.Test.YtpcgklagmcnhaaaGreatT7VisW
-- READS ONLY
namespace Go.Proofs.YtpcgklagmcnhaaaGreat
open Go.RowKit Go.Maps
theorem op_make {t e : TypeId} {z : Value} {size bytes : Nat} (E : Elem t e z size bytes) {o : Oper} {a : Act} {Q : Exit → Act → World → Prop} {K : Act → World → Prop} {w : World} (l c : Operand) (hop : o.op = Op.makeSlice t l c) {B n : Nat} (hl : a.eval l = .int .i64 n) (hc : a.eval c = .int .i64 n) (hB : B ≤ w.heap.size) (hn : n < 68719476736)
  (hK : ∀ w', w'.ownsRow B e size (.slice (some ⟨w.heap.size, 0, none⟩) n n) n (madeCells z.cells (n * size)).toList → Chg [] w w' → K (a.put o.dst (.slice (some ⟨w.heap.size, 0, none⟩) n n)) w') : Oper.wp Tryz.prog o a w K Q := by
 obtain ⟨i0, hi, hz0, hz1, hz2⟩ := info_parts E.hi
 have hb := E.hb
 obtain ⟨w', hrun, r1, r2⟩ := run_make_full (P := Tryz.prog) w B t e i0 z size E.ht hi hz0 hz1 .i64 .i64 n (by
  rw [hz2]
  exact Nat.le_trans (Nat.mul_le_mul_right _ hb) (by omega)) (by unfold maxLen; omega) hB
 unfold Oper.wp
 simp [execOp, hop, hl, hc, hrun, Result.andThen]
 exact hK w' r1 ((Chg.refl _ _).grown r2 (by simp))
theorem nest_grow {w : World} {B n sz g cap q : Nat} {e : TypeId} {xs : List Value} {cs : List Cell} {l : List Int} {x : Int} (h : Nest w B e sz (.slice (some ⟨g, 0, none⟩) n cap) n xs cs) (he : e ≠ 3) (hB : B ≤ w.heap.size) (hq : q < xs.length) (hc : cs[q]? = some (.row l)) (hx : I64 x) (hn : l.length + 1 < 4294967296) :
  ∃ va vc va' vc' w2, w.cell? ⟨g, q, none⟩ = some (.slice va l.length vc) ∧ (Builtin.append_ #[31, 31] 31 #[.slice va l.length vc, .slice (some ⟨w.heap.size, 0, none⟩) 1 1]).run Tryz.prog (w.alloc (.cells #[.int .i64 x] 3)) = .ok (.slice va' (l.length + 1) vc') w2 ∧
   w2.cell? ⟨g, q, none⟩ = some (.slice va l.length vc) ∧ w2.frozen? ⟨g, q, none⟩ = false ∧
   Nest (w2.setCell ⟨g, q, none⟩ (.slice va' (l.length + 1) vc')) B e sz (.slice (some ⟨g, 0, none⟩) n cap) n (xs.set q (.slice va' (l.length + 1) vc')) (cs.set q (.row (l ++ [x]))) ∧
   (∀ b ∈ foot (.slice va' (l.length + 1) vc'), b ∈ foot (.slice va l.length vc) ∨ w.heap.size ≤ b) ∧ xs.getD q undef = .slice va l.length vc ∧ Chg (g :: foot (.slice va l.length vc)) w (w2.setCell ⟨g, q, none⟩ (.slice va' (l.length + 1) vc')) ∧ Chg (foot (.slice va l.length vc)) w w2 ∧ g ∉ foot (.slice va l.length vc) ∧ ∀ (b : Nat) (cs : Array Value) (t : TypeId) (r : Nat × Nat), w.heap[b]? = some (.cells cs t r) → t ≠ 3 → b ∉ foot (.slice va l.length vc) := by
 have hrow := h.row hc
 obtain ⟨va, vc, ev⟩ := hrow.shape
 have hcell := h.cell hq
 rw [ev] at hcell hrow
 have ca : Chg [] w (w.alloc (.cells #[.int .i64 x] 3)) := (Chg.refl _ _).alloc _
 obtain ⟨v', w2, hr, r1, r2, r3⟩ := run_app_read (hrow.chg ca (by simp)) (lit_ints w hx) (Nat.le_trans hB ca.size) (by simp; omega) 31
 obtain ⟨va', vc', ev'⟩ := r1.shape
 rw [show (l ++ [x]).length = l.length + 1 by simp] at ev'
 subst ev'
 have hc2 : Chg (foot (.slice va l.length vc)) w w2 := (ca.mono (by simp)).trans r2 (fun j hj => Or.inl hj)
 have hfg : g ∉ foot (.slice va l.length vc) := fun em => by
  obtain ⟨cs', r, hh⟩ := row_kind hrow g em
  rcases h.out.2 with ⟨q, _⟩ | ⟨g', c', cur, q, _, hg, _⟩
  ·cases q
  simp only [Value.slice.injEq, Option.some.injEq, Addr.mk.injEq] at q
  obtain ⟨⟨rfl, -⟩, -⟩ := q
  rw [hg] at hh
  simp at hh
  exact he hh.2.1
 have hcell2 := hc2.cell hcell hfg
 have hput := h.put (v := .slice va' (l.length + 1) vc') (m := l ++ [x]) he hq hc r1 (by rw [ev]; exact hc2) (fun b hb => by
  rw [ev]
  rcases r3 b hb with t | t
  ·exact Or.inl t
  exact Or.inr (Nat.le_trans ca.size t))
 have hgh : ∃ cur, w.heap[g]? = some (.cells cur e (0, 0)) := by
  rcases h.out.2 with ⟨q, _⟩ | ⟨g', c', cur, q, hb, hg, _⟩
  ·cases q
  simp only [Value.slice.injEq, Option.some.injEq, Addr.mk.injEq] at q
  obtain ⟨⟨rfl, -⟩, -⟩ := q
  exact ⟨_, hg⟩
 obtain ⟨cur, hg⟩ := hgh
 have hg2 := hc2.heap hg hfg
 have hset : Chg [g] w2 (w2.setCell ⟨g, q, none⟩ (.slice va' (l.length + 1) vc')) := (Chg.refl _ _).setCell (Or.inl (by simp)) _
 exact ⟨va, vc, va', vc', w2, hcell, hr, hcell2, by simp [World.frozen?, hg2], hput, fun b hb => (r3 b hb).imp id fun t => Nat.le_trans ca.size t, ev, (hc2.mono (fun j hj => Or.inl (by simp [hj]))).trans hset (fun j hj => Or.inl (by simp at hj; simp [hj])), hc2, hfg, fun b cs t r hb ht hm => by
  obtain ⟨cs', r', hh⟩ := row_kind hrow b hm
  rw [hb] at hh
  simp at hh
  exact ht hh.2.1⟩
theorem keptC {w w' : World} {b : Nat} {o : Obj} (hc : Chg [] w w') (h : w.heap[b]? = some o) : w'.heap[b]? = some o := hc.hp h
theorem nest_made {w : World} {B fb n : Nat} (h : w.ownsRow B 31 1 (.slice (some ⟨fb, 0, none⟩) n n) n (madeCells (Value.slice none 0 0).cells (n * 1)).toList) : Nest w B 31 1 (.slice (some ⟨fb, 0, none⟩) n n) n (List.replicate n (.slice none 0 0)) (List.replicate n (.row [])) := by
 have e1 : (madeCells (Value.slice none 0 0).cells (n * 1)).toList = List.replicate n (.slice none 0 0) := by
  show (madeCells #[Value.slice none 0 0] (n * 1)).toList = _
  rw [Nat.mul_one, toList_madeCells_one]
 rw [e1] at h
 have hv : ∀ k, k < n → (List.replicate n (Value.slice none 0 0)).getD k undef = .slice none 0 0 := fun k hk => by simp [List.getD, hk]
 refine ⟨h, by simp, by simp, fun k c hk => ?_, fun k l hk _ _ => Or.inl ?_⟩
 ·obtain ⟨h1, h2⟩ := List.getElem?_eq_some_iff.1 hk
  rw [List.length_replicate] at h1
  rw [List.getElem_replicate] at h2
  rw [hv k h1, ← h2]
  exact rowNil w B
 rw [List.length_replicate] at hk
 rw [hv k hk]
 rfl
theorem darts_row {g : Plain.Gr} {p : Plain.Pt} {N k a : Nat} {d : Int} (hk : k < p.darts.length) (hd : p.darts.getD k 0 = d) (ha : g.tail d = a) :
  ((List.range N).map fun v : Nat => Cell.row (Plain.dartsTo g p v k)).set a (.row (Plain.dartsTo g p a k ++ [d])) = (List.range N).map fun v : Nat => Cell.row (Plain.dartsTo g p v (k + 1)) := by
 refine List.ext_getElem (by simp) fun i h1 h2 => ?_
 rw [List.getElem_set]
 simp only [List.getElem_map, List.getElem_range]
 rw [Plain.dartsTo_next hk, hd, ha]
 by_cases e : a = i
 ·subst e
  rw [if_pos rfl, if_pos rfl]
 rw [if_neg e, if_neg (by omega)]
theorem low_set {a : Nat} {xs : List Value} {v v' : Value} {w : World} {B : Nat} (hlo : ∀ k b, k < xs.length → (xs.getD k undef).ownBlock = some b → B ≤ b) (ha : a < xs.length) (hv : xs.getD a undef = v) (hf : ∀ b ∈ foot v', b ∈ foot v ∨ w.heap.size ≤ b) (h1 : foot v' = v'.ownBlock.toList) (h2 : foot v = v.ownBlock.toList) (hB : B ≤ w.heap.size) :
  ∀ k b, k < (xs.set a v').length → ((xs.set a v').getD k undef).ownBlock = some b → B ≤ b := fun k b hk hb => by
 rw [List.length_set] at hk
 rw [getD_set' _ _ _ _ _ ha] at hb
 by_cases e : k = a
 ·rw [if_pos e] at hb
  rcases hf b (by rw [h1, hb]; simp) with q | q
  ·refine hlo a b ha ?_
   rw [hv]
   rw [h2] at q
   simpa using q
  omega
 rw [if_neg e] at hb
 exact hlo k b hk hb
theorem fn_zero (n : Nat) : ((List.range n).map fun i : Nat => (fun _ : Int => (0 : Int)) i) = List.replicate n 0 := by
 rw [List.map_const']
 simp
theorem filter_two (f : Int → Bool) : ∀ D : List Int, (D.filter f).length + (D.filter fun d => !f d).length = D.length
 | [] => rfl
 | d :: D => by
  have ih := filter_two f D
  cases h : f d <;> simp [h] <;> omega
theorem rises_len {l : List Int} {n : Int} (h : Plain.rises l n = true) : l.length ≤ n.toNat := by
 have h1 := Plain.len_le_of_sub (l := l) (m := (List.range n.toNat).map fun i : Nat => (i : Int)) (Plain.rises_nodup h) fun x hx => by
  obtain ⟨i, hi, rfl⟩ := Plain.mem_getD hx
  have := Plain.rises_at h hi
  exact List.mem_map.2 ⟨(l.getD i 0).toNat, List.mem_range.2 (by omega), by omega⟩
 simpa using h1
theorem sum_darts {g : Plain.Gr} {p : Plain.Pt} : ∀ {l : List Int} {D : List Int}, l.Nodup → (l.map fun u => (D.filter fun d => decide (g.tail d = u)).length + 1).sum ≤ D.length + l.length
 | [], D, _ => by simp
 | u :: l, D, hn => by
  rw [List.nodup_cons] at hn
  have h1 : (l.map fun v => (D.filter fun d => decide (g.tail d = v)).length + 1) = l.map fun v => ((D.filter fun d => !decide (g.tail d = u)).filter fun d => decide (g.tail d = v)).length + 1 := by
   refine List.map_congr_left fun v hv => ?_
   congr 2
   rw [List.filter_filter]
   refine List.filter_congr fun d _ => ?_
   by_cases e : g.tail d = v
   ·have : g.tail d ≠ u := fun q => hn.1 (by rw [← q, e]; exact hv)
    have h2 : v ≠ u := fun q => this (e.trans q)
    simp [e, h2]
   simp [e]
  have h2 := sum_darts (g := g) (p := p) (l := l) (D := D.filter fun d => !decide (g.tail d = u)) hn.2
  have h3 : (D.filter fun d => decide (g.tail d = u)).length + (D.filter fun d => !decide (g.tail d = u)).length = D.length := filter_two _ D
  rw [List.map_cons, List.sum_cons, h1, List.length_cons]
  omega
theorem pot_small {g : Plain.Gr} {p : Plain.Pt} (h : p.err g = 0) : Plain.pot g p Plain.Dfs.zero ≤ 10000 := by
 have hk := Plain.Pt.ok_of_err h
 obtain ⟨hz1, hz2, hz3, -⟩ := Plain.Pt.err_ok h
 obtain ⟨hz4, hz5, hz6, -⟩ := Plain.Gr.err_ok hz1
 unfold Plain.pot Plain.dartsAt
 have e : (p.v.filter fun u => decide (Plain.Dfs.zero.met u = 0)) = p.v := List.filter_eq_self.2 fun _ _ => rfl
 rw [e]
 have h1 := sum_darts (g := g) (p := p) (D := p.darts) hk.vn
 have h2 := Plain.darts_length p
 have h3 := rises_len hz2
 have h4 := rises_len hz3
 omega
set_option maxRecDepth 100000 in
set_option maxHeartbeats 4000000 in
theorem bfind_any (vg vp : Value) (g : Plain.Gr) (p : Plain.Pt) (w : World) (N : Nat) (hN : g.n = N) (hpe : p.err g = 0) (hg : GrAt w vg g) (hp : PtAt w vp p) :
  Calls Tryz.prog 98 #[vg, vp] w fun e w' => ∃ k ev m F, e = .returned (.pointer (some ⟨k.pb, 0, none⟩)) ∧ k.n = N ∧ FinAt k g w' (Plain.findAll g p) ev m F ∧ m + (Plain.findAll g p).ed.length ≤ 100000 ∧ k.Ok ∧ w.heap.size ≤ k.w0.heap.size ∧ (∀ j ∈ k.own, w.heap.size ≤ j) ∧ Chg [] w w' := by
 have HNN := Lib.hid hN
 have hok := Plain.Pt.ok_of_err hpe
 obtain ⟨hz1, hz2, hz3, -⟩ := Plain.Pt.err_ok hpe
 obtain ⟨hz4, hz5, hz6, -⟩ := Plain.Gr.err_ok hz1
 have hN1 : N ≤ 1024 := by omega
 have hse : g.e.length ≤ 1024 := by omega
 have hhe : ∀ e ∈ p.e, e < g.e.length := fun e he => (Plain.Pt.edge_in hpe he).2
 have HPE := Lib.hid hpe
 have HPOT := Lib.hid (show Plain.pot g p Plain.Dfs.zero ≤ 10000 from pot_small hpe)
 clear hN hz1 hz2 hz3 hz4 hz5 hz6 hpe
 obtain ⟨eo, cap, ao, ac, bo, bc, rfl, rfl, HG, HP, hm, ham, hbm, HAC, HBC, HAS, HBS, HC1, HBXS⟩ := box_gp hg hp
 clear hg hp
 obtain ⟨x0, x1, y0, y1, hsz⟩ := HBXS.out _ (Chg.refl _ _)
 go_enter Tryz.func98, Tryz.ntmps98
 go_wp2_with fail
 obtain ⟨w1, hw1⟩ : ∃ w1, ((w.alloc (.cells #[.int .i64 g.n, .slice eo g.e.length cap] 41)).alloc (.cells #[.slice ao p.v.length ac, .slice bo p.e.length bc] 43)) = w1 := ⟨_, rfl⟩
 rw [hw1] at HC1 HBXS ⊢
 clear hw1 x0 x1 y0 y1 hsz
 obtain ⟨x0, x1, y0, y1, hsz⟩ := HBXS.out w1 (Chg.refl _ _)
 refine wp_region_apart (w0 := w1) [[],[],[1],[2],[],[4],[5],[],[7],[8],[],[0,3,6,9,10],[11]] [12] [6, 9] (by kernel_rfl) (by kernel_rfl) (by kernel_rfl) (Chg.refl [] w1).drew ?_
 (intro fr hfr; simp only [fillL, Act.put, List.setIfInBounds_toArray, List.set_cons_zero, List.set_cons_succ, Nat.reduceAdd] at hfr; obtain rfl := funext (fun vals => (hfr vals).symm); clear hfr; simp only [List.dropLast, List.zip_cons_cons, List.zip_nil_right])
 refine apart_read (c := .agg #[.int .i64 g.n, .slice eo g.e.length cap]) rfl (by rfl) (fun vals w' hG hF hA => ⟨by rfl, by have q0 := hG.cel x0; have q1 := hG.cel x1; go_simp⟩) ?_
 refine apart_read (c := .pointer (some ⟨w.heap.size, 0, none⟩)) rfl (by rfl) (fun vals w' hG hF hA => ⟨by rfl, by go_simp⟩) ?_
 refine apart_read (c := .int .i64 g.n) rfl (by rfl) (fun vals w' hG hF hA => ⟨by rfl, by simp only [Facts, List.nil_append, List.cons_append, List.getD_cons_zero, List.getD_cons_succ, and_true] at hF; have q0 := hG.cel x0; simp only [hF]; go_simp⟩) ?_
 refine apart_op (fun v w => ∃ b, v = .slice (some ⟨b, 0, none⟩) N N ∧ w.ownsRow w1.heap.size 31 1 (.slice (some ⟨b, 0, none⟩) N N) N (madeCells (Value.slice none 0 0).cells (N * 1)).toList) rfl (by rfl) (fun u w w' hc ⟨b, e, h⟩ => ⟨b, e, owns_chg h hc (by simp)⟩) (fun vals w' hG hF hA => ⟨by rfl, fun K hK => by
  simp only [Facts, List.nil_append, List.cons_append, List.getD_cons_zero, List.getD_cons_succ, and_true] at hF
  refine op_make elemRow _ _ rfl (B := w1.heap.size) (n := N) (by show vals 2 = _; rw [hF, HNN.out]) (by show vals 2 = _; rw [hF, HNN.out]) hG.size (by omega) fun w2 h2 hc2 => ?_
  exact hK.out _ _ ⟨_, rfl, h2⟩ hc2⟩) ?_
 refine apart_read (c := .pointer (some ⟨w.heap.size, 0, none⟩)) rfl (by rfl) (fun vals w' hG hF hA => ⟨by rfl, by go_simp⟩) ?_
 refine apart_read (c := .int .i64 g.n) rfl (by rfl) (fun vals w' hG hF hA => ⟨by rfl, by simp only [Facts, List.nil_append, List.cons_append, List.getD_cons_zero, List.getD_cons_succ, and_true] at hF; have q0 := hG.cel x0; simp only [hF]; go_simp⟩) ?_
 refine apart_new (fun v w => ∃ b, v = .slice (some ⟨b, 0, none⟩) N N ∧ w1.heap.size ≤ b ∧ FnAt w b N fun _ => 0) rfl (fun u w w' hc ⟨b, e, hb, h⟩ => ⟨b, e, hb, h.chg hc (by simp)⟩) (fun vals w' hG hF hA => ⟨by rfl, fun K hK => by
  simp only [Facts, List.nil_append, List.cons_append, List.getD_cons_zero, List.getD_cons_succ, and_true] at hF
  refine op_make elemInt _ _ rfl (B := 0) (n := N) (by show vals 5 = _; rw [hF, HNN.out]) (by show vals 5 = _; rw [hF, HNN.out]) (Nat.zero_le _) (by omega) fun w2 h2 hc2 => ?_
  exact hK.out _ _ ⟨_, rfl, hG.size, by unfold FnAt; rw [fn_zero]; exact row_made h2 (by omega)⟩ hc2 (fun b hb => by
   have e : w'.heap.size = b := by simpa [Value.ownBlock] using hb
   have := owns_lt h2 (b := b) (by simp [Value.ownBlock, e])
   omega)⟩) ?_
 refine apart_read (c := .pointer (some ⟨w.heap.size, 0, none⟩)) rfl (by rfl) (fun vals w' hG hF hA => ⟨by rfl, by go_simp⟩) ?_
 refine apart_read (c := .int .i64 g.n) rfl (by rfl) (fun vals w' hG hF hA => ⟨by rfl, by simp only [Facts, List.nil_append, List.cons_append, List.getD_cons_zero, List.getD_cons_succ, and_true] at hF; have q0 := hG.cel x0; simp only [hF]; go_simp⟩) ?_
 refine apart_new (fun v w => ∃ b, v = .slice (some ⟨b, 0, none⟩) N N ∧ w1.heap.size ≤ b ∧ FnAt w b N fun _ => 0) rfl (fun u w w' hc ⟨b, e, hb, h⟩ => ⟨b, e, hb, h.chg hc (by simp)⟩) (fun vals w' hG hF hA => ⟨by rfl, fun K hK => by
  simp only [Facts, List.nil_append, List.cons_append, List.getD_cons_zero, List.getD_cons_succ, and_true] at hF
  refine op_make elemInt _ _ rfl (B := 0) (n := N) (by show vals 8 = _; rw [hF, HNN.out]) (by show vals 8 = _; rw [hF, HNN.out]) (Nat.zero_le _) (by omega) fun w2 h2 hc2 => ?_
  exact hK.out _ _ ⟨_, rfl, hG.size, by unfold FnAt; rw [fn_zero]; exact row_made h2 (by omega)⟩ hc2 (fun b hb => by
   have e : w'.heap.size = b := by simpa [Value.ownBlock] using hb
   have := owns_lt h2 (b := b) (by simp [Value.ownBlock, e])
   omega)⟩) ?_
 refine apart_op (fun v w => ∃ b, v = .map (some b) ∧ w1.heap.size ≤ b ∧ VMap w b 0 fun _ => none) rfl (by rfl) (fun u w w' hc ⟨b, e, hb, h⟩ => ⟨b, e, hb, h.chg hc (by simp)⟩) (fun vals w' hG hF hA => ⟨by rfl, fun K hK => by
  have hmm := @run_makeMap Tryz.prog
  go_simp
  exact hK.out _ _ ⟨_, rfl, hG.size, VMap.made w'⟩ ((Chg.refl _ _).alloc _)⟩) ?_
 refine apart_op (fun v w => ∃ db mb lb mp, v = .agg #[.int .i64 g.n, .slice eo g.e.length cap, .slice (some ⟨db, 0, none⟩) N N, .slice (some ⟨mb, 0, none⟩) N N, .slice (some ⟨lb, 0, none⟩) N N, .int .i64 0, .slice none 0 0, .map (some mp)] ∧
   w.ownsRow w1.heap.size 31 1 (.slice (some ⟨db, 0, none⟩) N N) N (madeCells (Value.slice none 0 0).cells (N * 1)).toList ∧ (w1.heap.size ≤ mb ∧ FnAt w mb N fun _ => 0) ∧ (w1.heap.size ≤ lb ∧ FnAt w lb N fun _ => 0) ∧ (w1.heap.size ≤ mp ∧ VMap w mp 0 fun _ => none) ∧ mb ≠ lb) rfl (by rfl)
  (fun u w w' hc ⟨db, mb, lb, mp, e, h1, h2, h3, h4, h5⟩ => ⟨db, mb, lb, mp, e, owns_chg h1 hc (by simp), ⟨h2.1, h2.2.chg hc (by simp)⟩, ⟨h3.1, h3.2.chg hc (by simp)⟩, ⟨h4.1, h4.2.chg hc (by simp)⟩, h5⟩) (fun vals w' hG hF hA => ⟨by rfl, fun K hK => by
  simp only [Facts, List.nil_append, List.cons_append, List.getD_cons_zero, List.getD_cons_succ, and_true] at hF
  obtain ⟨e0, ⟨db, e3, h3⟩, ⟨mb, e6, h6⟩, ⟨lb, e9, h9⟩, ⟨mp, e10, h10⟩⟩ := hF
  have hne : mb ≠ lb := fun q => hA 6 (by simp) 9 (by simp) (by simp) (by simp) (by simp) mb (by rw [e6]; rfl) (by rw [e9, q]; rfl)
  simp only [e0, e3, e6, e9, e10] at hK ⊢
  go_simp
  exact hK.out _ _ ⟨db, mb, lb, mp, rfl, h3, h6, h9, h10, hne⟩ (Chg.refl _ _)⟩) ?_
 refine apart_op (fun v w => ∃ pb db mb lb mp, v = .pointer (some ⟨pb, 0, none⟩) ∧ w1.heap.size ≤ pb ∧ w.heap[pb]? = some (.cells #[.int .i64 g.n, .slice eo g.e.length cap, .slice (some ⟨db, 0, none⟩) N N, .slice (some ⟨mb, 0, none⟩) N N, .slice (some ⟨lb, 0, none⟩) N N, .int .i64 0, .slice none 0 0, .map (some mp)] 156 (0, 0)) ∧
   w.ownsRow w1.heap.size 31 1 (.slice (some ⟨db, 0, none⟩) N N) N (madeCells (Value.slice none 0 0).cells (N * 1)).toList ∧ (w1.heap.size ≤ mb ∧ FnAt w mb N fun _ => 0) ∧ (w1.heap.size ≤ lb ∧ FnAt w lb N fun _ => 0) ∧ (w1.heap.size ≤ mp ∧ VMap w mp 0 fun _ => none) ∧ mb ≠ lb) rfl (by rfl)
  (fun u w w' hc ⟨pb, db, mb, lb, mp, e, hb, hr, h1, h2, h3, h4, h5⟩ => ⟨pb, db, mb, lb, mp, e, hb, keptC hc hr, owns_chg h1 hc (by simp), ⟨h2.1, h2.2.chg hc (by simp)⟩, ⟨h3.1, h3.2.chg hc (by simp)⟩, ⟨h4.1, h4.2.chg hc (by simp)⟩, h5⟩) (fun vals w' hG hF hA => ⟨by rfl, fun K hK => by
  simp only [Facts, List.nil_append, List.cons_append, List.getD_cons_zero, List.getD_cons_succ, and_true] at hF
  obtain ⟨db, mb, lb, mp, e, h1, h2, h3, h4, h5⟩ := hF
  simp only [e] at hK ⊢
  go_simp
  have hc := (Chg.refl [] w').alloc (.cells #[.int .i64 g.n, .slice eo g.e.length cap, .slice (some ⟨db, 0, none⟩) N N, .slice (some ⟨mb, 0, none⟩) N N, .slice (some ⟨lb, 0, none⟩) N N, .int .i64 0, .slice none 0 0, .map (some mp)] 156)
  exact hK.out _ _ ⟨_, db, mb, lb, mp, rfl, hG.size, box_new _ _, owns_chg h1 hc (by simp), ⟨h2.1, h2.2.chg hc (by simp)⟩, ⟨h3.1, h3.2.chg hc (by simp)⟩, ⟨h4.1, h4.2.chg hc (by simp)⟩, h5⟩ hc⟩) ?_
 refine apart_last rfl (fun vals w2 hG hF hA => ⟨by rfl, fun K hK => ?_⟩)
 simp only [Facts, List.nil_append, List.cons_append, List.getD_cons_zero, List.getD_cons_succ, and_true] at hF
 obtain ⟨pb, db, mb, lb, mp, e, hpb, hrow, hdb, ⟨hmb, hmet⟩, ⟨hlb, hlow⟩, ⟨hmp, hmap⟩, hml⟩ := hF
 simp only [e] at hK ⊢
 go_simp
 refine hK.out _ _ ?_
 clear hK K
 have HROW := Lib.hid hrow
 have HDB := Lib.hid hdb
 have HMET := Lib.hid hmet
 have HLOW := Lib.hid hlow
 have HMAP := Lib.hid hmap
 have HML := Lib.hid hml
 have HG2 := Lib.hid hG
 have HDBS := Lib.hid (show w.heap.size + 2 ≤ db from Nat.le_trans hsz (hdb.lt db rfl).1)
 obtain ⟨z0, z1, y0, y1, hsz2⟩ := HBXS.out w2 hG
 clear hrow hdb hmet hlow hmap hml e hA hG x0 x1 hsz
 generalize vals 0 = u0
 generalize vals 1 = u1
 generalize vals 2 = u2
 generalize vals 3 = u3
 generalize vals 4 = u4
 generalize vals 5 = u5
 generalize vals 6 = u6
 generalize vals 7 = u7
 generalize vals 8 = u8
 generalize vals 9 = u9
 generalize vals 10 = u10
 generalize vals 11 = u11
 go_wp2_with fail
 have HZ0 := Lib.hid z0
 have HZ1 := Lib.hid z1
 have HY0 := Lib.hid y0
 have HY1 := Lib.hid y1
 have HSZ2 := Lib.hid hsz2
 clear z0 z1 y0 y1 hsz2
 go_loopw [7, 8, 9, 28] (fun _ _ _ iv wr => ∃ i : Nat, i ≤ p.e.length ∧ iv = .int .i64 i ∧ ∃ xs, Nest wr w1.heap.size 31 1 (.slice (some ⟨db, 0, none⟩) N N) N xs ((List.range N).map fun v : Nat => Cell.row (Plain.dartsTo g p v (2 * i))) ∧ (∀ k b, k < xs.length → (xs.getD k undef).ownBlock = some b → w2.heap.size ≤ b) ∧ Chg [db] w2 wr) (fun _ _ _ iv _ => ((p.e.length : Int) - intOf iv).toNat)
 case atStart =>
  refine ⟨0, Nat.zero_le _, rfl, List.replicate N (.slice none 0 0), ?_, fun k b hk hb => ?_, Chg.refl _ _⟩
  ·have h1 := nest_made HDB.out
   rw [show ((List.range N).map fun v : Nat => Cell.row (Plain.dartsTo g p v (2 * 0))) = List.replicate N (.row []) by
    rw [Nat.mul_zero]
    simp only [Plain.dartsTo_zero]
    rw [List.map_const']
    simp]
   exact h1
  simp only [List.length_replicate] at hk
  simp [List.getD, hk, Value.ownBlock] at hb
 case round =>
  obtain ⟨i, hi, rfl, vs, hro, hlo, hcr⟩ := hrel
  have HRO := Lib.hid hro
  have HLO := Lib.hid hlo
  have HCR := Lib.hid hcr
  clear hro hlo
  have hw : ∀ j, j ≤ w.heap.size + 1 → j ∉ [db] := fun j hj q => by
   have := HDBS.out
   rw [List.mem_singleton] at q
   omega
  have y0r := HCR.out.cell HY0.out (hw _ (Nat.le_refl _))
  have z1r := HCR.out.cell HZ1.out (hw _ (Nat.le_succ _))
  by_cases h0 : i = p.e.length
  ·subst h0
   have b0 : decide ((p.e.length : Int) < (p.e.length : Int)) = false := decide_eq_false (by omega)
   have hpn : (w2.heap[pb]? = some (.cells #[.int .i64 g.n, .slice eo g.e.length cap, .slice (some ⟨db, 0, none⟩) N N, .slice (some ⟨mb, 0, none⟩) N N, .slice (some ⟨lb, 0, none⟩) N N, .int .i64 0, .slice none 0 0, .map (some mp)] 156 (0, 0))) := HROW.out
   have hdbk : ∃ cs, w2.heap[db]? = some (.cells cs 31 (0, 0)) := by
    rcases HDB.out.2 with ⟨q, _⟩ | ⟨g', c', cur, q, _, hg', _⟩
    ·cases q
    simp only [Value.slice.injEq, Option.some.injEq, Addr.mk.injEq] at q
    obtain ⟨⟨rfl, -⟩, -⟩ := q
    exact ⟨_, hg'⟩
   obtain ⟨dcs, hdbk⟩ := hdbk
   obtain ⟨mcs, hmk⟩ := HMET.out.kind
   obtain ⟨lcs, hlk⟩ := HLOW.out.kind
   have npd : pb ≠ db := fun q => by rw [q, hdbk] at hpn; simp at hpn
   have nmd : mb ≠ db := fun q => by rw [q, hdbk] at hmk; simp at hmk
   have nld : lb ≠ db := fun q => by rw [q, hdbk] at hlk; simp at hlk
   have nqd : mp ≠ db := fun q => HMAP.out.ne hdbk q.symm
   have hW0 : Chg [] w wr := (HC1.out.tr HG2.out).trans HCR.out (fun j hj => Or.inr (by rw [List.mem_singleton] at hj; have := HDBS.out; omega))
   have HK0 := Lib.hid (show (FK.mk wr pb mb lb mp N (.slice eo g.e.length cap) (.slice (some ⟨db, 0, none⟩) N N)).Ok from ⟨fun j hj => by
    have hsz := HCR.out.size
    have e1 := lt_of_block hpn
    have e2 := lt_of_block hmk
    have e3 := lt_of_block hlk
    have e4 := HMAP.out.lt
    simp only [FK.own, List.mem_cons, List.not_mem_nil, or_false] at hj
    rcases hj with rfl | rfl | rfl | rfl
    ·exact Nat.lt_of_lt_of_le e1 hsz
    ·exact Nat.lt_of_lt_of_le e2 hsz
    ·exact Nat.lt_of_lt_of_le e3 hsz
    exact Nat.lt_of_lt_of_le e4 hsz, HML.out⟩)
   have HOWN := Lib.hid (show ∀ j ∈ [pb, mb, lb, mp], w1.heap.size ≤ j ∧ j < w2.heap.size from fun j hj => by
    have e1 := lt_of_block hpn
    have e2 := lt_of_block hmk
    have e3 := lt_of_block hlk
    have e4 := HMAP.out.lt
    simp only [List.mem_cons, List.not_mem_nil, or_false] at hj
    rcases hj with rfl | rfl | rfl | rfl
    ·exact ⟨hpb, e1⟩
    ·exact ⟨hmb, e2⟩
    ·exact ⟨hlb, e3⟩
    exact ⟨hmp, e4⟩)
   have HH0 := Lib.hid (show (FK.mk wr pb mb lb mp N (.slice eo g.e.length cap) (.slice (some ⟨db, 0, none⟩) N N)).Has g p from by
    refine ⟨HNN.out, by show N ≤ 100000; omega, by omega, hhe, HG.out.fresh hW0, fun hge b n c eb q => ?_, db, N, fun v => vs.getD v undef, rfl, fun q => ?_, fun v (hv : v < N) => ⟨HRO.out.cell (by rw [HRO.out.cells]; omega), ?_, fun b n c e q => ?_⟩⟩
    ·obtain ⟨eo3, cap3, e3, -, -, -, hcl⟩ := HG.out
     obtain ⟨bb, boff, e4, hb0, -⟩ := hcl 0 hge
     simp only [Value.agg.injEq, Array.mk.injEq, List.cons.injEq, true_and, and_true] at e3
     rw [e3] at eb
     rw [e4] at eb
     simp only [Value.slice.injEq, Option.some.injEq] at eb
     have hlt := World.block_lt_of_cell? w _ hb0
     have := (HOWN.out _ q).1
     have h3 := HC1.out.size
     rw [← eb.1] at this
     have : w1.heap.size ≤ bb := this
     have : bb < w.heap.size := hlt
     omega
    ·simp only [FK.own, List.mem_cons, List.not_mem_nil, or_false] at q
     rcases q with q | q | q | q
     ·exact npd q.symm
     ·exact nmd q.symm
     ·exact nld q.symm
     exact nqd q.symm
    ·have hr := HRO.out.row (k := v) (l := Plain.dartsAt g p v) (by
      rw [List.getElem?_map, List.getElem?_range hv]
      simp only [Option.map_some]
      rw [← Plain.dartsTo_all, Plain.darts_length])
     exact hr.ints
    have h1 := HLO.out v b.block (by rw [HRO.out.cells]; omega) (by
     show (vs.getD v undef).ownBlock = _
     have e' : vs.getD v undef = .slice (some b) n c := e
     rw [e']; rfl)
    have h2 := (HOWN.out _ q).2
    omega)
   have hnd : ∀ j, j ≠ db → j ∉ [db] := fun j h q => h (List.mem_singleton.1 q)
   have HF0 := Lib.hid (show FinAt (FK.mk wr pb mb lb mp N (.slice eo g.e.length cap) (.slice (some ⟨db, 0, none⟩) N N)) g wr Plain.Dfs.zero (.slice none 0 0) 0 (fun _ => none) from
    ⟨HCR.out.heap hpn (hnd _ npd), HMET.out.chg HCR.out (hnd _ nmd), HLOW.out.chg HCR.out (hnd _ nld), rowNil _ _, HMAP.out.chg HCR.out (hnd _ nqd), ⟨by simp [Plain.Dfs.zero], by simp⟩, Chg.refl _ _⟩)
   have HW0 := Lib.hid hW0
   have HSZ3 := Lib.hid (show w2.heap.size ≤ wr.heap.size from HCR.out.size)
   have HP0 := Lib.hid hok
   obtain ⟨k, hk⟩ : ∃ k, FK.mk wr pb mb lb mp N (.slice eo g.e.length cap) (.slice (some ⟨db, 0, none⟩) N N) = k := ⟨_, rfl⟩
   have hkp : k.pb = pb := by rw [← hk]
   have hkn : k.n = N := by rw [← hk]
   have hkm : k.mb = mb := by rw [← hk]
   have hkw : k.w0 = wr := by rw [← hk]
   have hko : k.own = [pb, mb, lb, mp] := by rw [← hk]; rfl
   rw [hk] at HK0 HH0 HF0
   have z0r := HCR.out.cell HY0.out (hw _ (Nat.le_refl _))
   have HY0R := Lib.hid (show ∀ wx, Chg k.own wr wx → wx.cell? ⟨w.heap.size + 1, 0, none⟩ = some (.slice ao p.v.length ac) from fun wx hx => hx.cell z0r fun q => by
    rw [hko] at q
    have := (HOWN.out _ q).1
    have h3 := (HBXS.out w1 (Chg.refl _ _)).2.2.2.2
    have : w1.heap.size ≤ w.heap.size + 1 := this
    omega)
   have HVR := Lib.hid (show ∀ wx, Chg k.own wr wx → ∀ i, i < p.v.length → ∃ ab aoff, ao = some ⟨ab, aoff, none⟩ ∧ wx.cell? ⟨ab, aoff + i, none⟩ = some (.int .i64 (p.v.getD i 0)) from fun wx hx i hi => by
    obtain ⟨ab, aoff, e, hac⟩ := HAC.out (fun q => by rw [q] at hi; simp at hi)
    have h1 := hac i hi
    refine ⟨ab, aoff, e, hx.cell (hW0.cel h1) fun q => ?_⟩
    rw [hko] at q
    have h2 := (HOWN.out _ q).1
    have h3 := World.block_lt_of_cell? w _ h1
    have h4 := HC1.out.size
    have : ab < w.heap.size := h3
    have : w1.heap.size ≤ ab := h2
    omega)
   have z0q := HY0R.out wr (Chg.refl _ _)
   have HKP := Lib.hid hkp
   have HKN := Lib.hid hkn
   have HKM := Lib.hid hkm
   have HKW := Lib.hid hkw
   have HKO := Lib.hid hko
   clear hi hcr hpn hdbk hmk hlk npd nmd nld nqd hnd hW0 hk hkp hkn hkm hkw hko z0r
   go_wp2_with fail
   clear z0q
   rename World => wi
   go_loopw [11, 83] (fun _ iv wr => ∃ i : Nat, i ≤ p.v.length ∧ iv = .int .i64 i ∧ ∃ t, Hid (t = Plain.findR g p p.v.length (p.v.take i) Plain.Dfs.zero) ∧ Hid (Plain.Top g p t) ∧ Fin k g p wr t 0) (fun _ iv _ => ((p.v.length : Int) - intOf iv).toNat)
   case atStart => exact ⟨0, Nat.zero_le _, rfl, _, Lib.hid rfl, Lib.hid Plain.Top.start, _, _, _, HF0.out, by have := HPOT.out; show 0 + 0 + Plain.pot g p Plain.Dfs.zero + 0 ≤ 100000; omega, by have := HPOT.out; show (0 : Int) + Plain.pot g p Plain.Dfs.zero ≤ 100000; omega⟩
   case round =>
    obtain ⟨i, hi, rfl, t, ht, htp, ev, m, F, hf, hm1, hm2⟩ := hrel
    have HFI := Lib.hid hf
    have HCK := Lib.hid (show Chg k.own wi wr by have := hf.chg; rw [HKW.out] at this; exact this)
    have HM1 := Lib.hid hm1
    have HM2 := Lib.hid hm2
    have z0q := HY0R.out wr HCK.out
    by_cases h0 : i = p.v.length
    ·subst h0
     have b0 : decide ((p.v.length : Int) < (p.v.length : Int)) = false := decide_eq_false (by omega)
     clear hf hm1 hm2 hi
     go_wp2
     go_ret
     refine ⟨k, ev, m, F, (by rw [HKP.out]; rfl), HKN.out, ?_, ?_, HK0.out, ?_, fun j hj => ?_, ?_⟩
     ·have h1 := HFI.out
      rw [ht.out, List.take_length] at h1
      exact h1
     ·have h1 := HM1.out
      rw [ht.out, List.take_length] at h1
      show m + (Plain.findAll g p).ed.length ≤ 100000
      unfold Plain.findAll
      omega
     ·rw [HKW.out]; exact HW0.out.size
     ·rw [HKO.out] at hj
      have h1 := (HOWN.out j hj).1
      have h2 := HC1.out.size
      omega
     refine HW0.out.trans HCK.out fun j hj => Or.inr ?_
     rw [HKO.out] at hj
     have h1 := (HOWN.out j hj).1
     have h2 := HC1.out.size
     omega
    have hil : i < p.v.length := by omega
    have hji : (i : Int) < (p.v.length : Int) := by omega
    obtain ⟨ab, aoff, rfl, hcv⟩ := HVR.out wr HCK.out i hil
    have hvm : p.v.getD i 0 ∈ p.v := Plain.getD_mem hil
    have hvr := HP0.out.vr _ hvm
    obtain ⟨v, hv⟩ : ∃ v : Nat, p.v.getD i 0 = v := ⟨(p.v.getD i 0).toNat, by omega⟩
    rw [hv] at hcv hvm hvr
    have hvN : v < N := by have := hvr.2; rw [HNN.out] at this; omega
    have hvi : (v : Int) < (N : Int) := by omega
    have hTK : t.met v = 0 → _ := fun q => Plain.Top.step HP0.out htp.out hvm q (n := p.v.length) (List.length_filter_le _ _)
    have HTK := Lib.hid hTK
    have HTN := Lib.hid (show Plain.findR g p p.v.length (p.v.take (i + 1)) Plain.Dfs.zero = if t.met v = 0 then Plain.visit g p p.v.length v (-1) t else t by
     rw [List.take_succ_eq_append_getElem hil]
     unfold Plain.findR
     rw [List.foldl_append]
     have e : p.v[i] = (v : Int) := by rw [← hv]; simp [List.getD, hil]
     rw [e]
     have h1 := ht.out
     unfold Plain.findR at h1
     rw [← h1]
     rfl)
    obtain ⟨-, -, -, a3, -, -, -, -⟩ := hf.eight
    rw [HKP.out, HKM.out, HKN.out] at a3
    have cm := hf.met.cell (v := v) (by rw [HKN.out]; exact hvN)
    rw [HKM.out] at cm
    obtain ⟨tm, htm⟩ : ∃ tm, t.met (v : Int) = tm := ⟨_, rfl⟩
    have HTM := Lib.hid htm
    rw [htm] at cm
    have HVM := Lib.hid hvm
    clear hf hm1 hm2 hv hvm hvr hTK htm h0
    by_cases c0 : tm = 0
    ·have b1 : (tm == 0) = true := by simp [c0]
     have hE : Plain.Ent g p t [] v (-1) := ⟨htp.out.good, HVM.out, by rw [HTM.out]; exact c0, Or.inl ⟨rfl, rfl⟩, by rw [htp.out.ed]; simp, by rw [htp.out.ed]; simp⟩
     have hV := fvisit_any k g p HK0.out HH0.out HP0.out p.v.length t [] v (-1) 0 wr hE (List.length_filter_le _ _) ⟨ev, m, F, HFI.out, HM1.out, HM2.out⟩
     rw [HKP.out] at hV
     have HV := Lib.hid hV
     clear hE hV
     go_wp2_with fail
     refine HV.out.mono ?_
     rintro _ w3 ⟨rfl, hv3⟩
     have HV3 := Lib.hid hv3
     clear hv3
     go_wp2
     go_roundw
     case rel =>
      have h1 := HTN.out
      rw [if_pos (by rw [HTM.out]; exact c0)] at h1
      refine ⟨i + 1, by omega, by go_num, _, Lib.hid h1.symm, Lib.hid (HTK.out (by rw [HTM.out]; exact c0)).1, HV3.out⟩
     case measure => simp [intOf]; omega
    have b1 : (tm == 0) = false := by simp [c0]
    go_wp2
    go_roundw
    case rel =>
     have h1 := HTN.out
     rw [if_neg (by rw [HTM.out]; exact c0), ht.out] at h1
     exact ⟨i + 1, by omega, by go_num, t, Lib.hid (by rw [h1]; exact ht.out), htp, ev, m, F, HFI.out, HM1.out, HM2.out⟩
    case measure => simp [intOf]; omega
  have hil : i < p.e.length := by omega
  have hji : (i : Int) < (p.e.length : Int) := by omega
  obtain ⟨eb, poff, rfl, hec⟩ := HBC.out (fun q => by rw [q] at hil; simp at hil)
  have hec0 := hec i hil
  have hel := World.block_lt_of_cell? w _ hec0
  have hec2 := HCR.out.cell ((HC1.out.tr HG2.out).cel hec0) (hw _ (Nat.le_succ_of_le (Nat.le_of_lt hel)))
  have hem : p.e.getD i 0 ∈ p.e := Plain.getD_mem hil
  obtain ⟨en, hen⟩ : ∃ en : Nat, p.e.getD i 0 = en := ⟨(p.e.getD i 0).toNat, by have := hok.er _ hem; omega⟩
  rw [hen] at hec2 hem
  have henl : en < g.e.length := by have := hhe _ hem; omega
  obtain ⟨eo2, cap2, eq2, -, -, -, hcl⟩ := HG.out
  cases eq2
  obtain ⟨gb, goff, rfl, ha, hb⟩ := hcl en henl
  have hgl := World.block_lt_of_cell? w _ ha
  have ha2 := HCR.out.cell ((HC1.out.tr HG2.out).cel ha) (hw _ (Nat.le_succ_of_le (Nat.le_of_lt hgl)))
  have hb2 := HCR.out.cell ((HC1.out.tr HG2.out).cel hb) (hw _ (Nat.le_succ_of_le (Nat.le_of_lt hgl)))
  have hends := hok.ends _ hem
  rw [show g.at (en : Int) = g.ends en by simp [Plain.Gr.at]] at hends
  obtain ⟨a, hea⟩ : ∃ a : Nat, (g.ends en).1 = a := ⟨(g.ends en).1.toNat, by have := (hok.vr _ hends.1).1; omega⟩
  obtain ⟨b, heb⟩ : ∃ b : Nat, (g.ends en).2 = b := ⟨(g.ends en).2.toNat, by have := (hok.vr _ hends.2).1; omega⟩
  have haN : a < N := by have := (hok.vr _ hends.1).2; rw [hea, HNN.out] at this; omega
  have hbN : b < N := by have := (hok.vr _ hends.2).2; rw [heb, HNN.out] at this; omega
  rw [hea] at ha2
  rw [heb] at hb2
  have HEA := Lib.hid hea
  have HEB := Lib.hid heb
  have HEN := Lib.hid hen
  clear hec hec0 hcl ha hb hea heb hen hends hem h0
  have heni : (en : Int) < (g.e.length : Int) := by omega
  go_wp2_with fail
  have hS0 : Chg [] wr wr.drew := (Chg.refl [] wr).drew
  refine wp_region_way (Chg [] wr) [0, 1, 2, 3, 4, 5, 6, 7, 8, 9, 10, 11, 12, 13] (Way.line [0, 1, 2, 3, 4, 5, 6, 7, 8, 9, 10, 11, 12, 13] .done) (by kernel_rfl) (by kernel_rfl) ?_
  simp only [Way.line]
  repeat (refine along_read (v := ?_) rfl (by rfl) (by rfl) (fun _ _ _ h => h) hS0 (fun w' hS' => ?_) ?_; rotate_left; (focus (have rd0 := hS'.cell z1r (by simp); have rd1 := hS'.cell ha2 (by simp); have rd2 := hS'.cell hb2 (by simp); clear hS'; go_simp; try with_reducible rfl)); simp only [Act.put, Z1, Z2, Z3, Z4, Z5, Z6])
  refine along_done ?_
  have HRO0 := Lib.hid (HRO.out.fresh hS0)
  have HLO0 := HLO
  have HCR0 := Lib.hid (HCR.out.tr hS0)
  have hpc := (cell_of_row w2 pb 2 _ _ _ HROW.out).trans (show _ = some (Value.slice (some ⟨db, 0, none⟩) N N) from rfl)
  have HPC := Lib.hid (show ∀ wx, Chg [db] w2 wx → wx.cell? ⟨pb, 2, none⟩ = some (.slice (some ⟨db, 0, none⟩) N N) from fun wx hx => hx.cell hpc fun q => by
   rw [List.mem_singleton] at q
   have q : pb = db := q
   rcases HDB.out.2 with ⟨q2, _⟩ | ⟨g', c', cur, q2, _, hg', _⟩
   ·cases q2
   simp only [Value.slice.injEq, Option.some.injEq, Addr.mk.injEq] at q2
   obtain ⟨⟨rfl, -⟩, -⟩ := q2
   have h1 := HROW.out
   rw [q, hg'] at h1
   simp at h1)
  have HPR := Lib.hid (show ∀ wx, Chg [db] w2 wx → wx.heap[pb]? = some (.cells #[.int .i64 g.n, .slice (some ⟨gb, goff, none⟩) g.e.length cap, .slice (some ⟨db, 0, none⟩) N N, .slice (some ⟨mb, 0, none⟩) N N, .slice (some ⟨lb, 0, none⟩) N N, .int .i64 0, .slice none 0 0, .map (some mp)] 156 (0, 0)) from fun wx hx => hx.heap HROW.out fun q => by
   rw [List.mem_singleton] at q
   rcases HDB.out.2 with ⟨q2, _⟩ | ⟨g', c', cur, q2, _, hg', _⟩
   ·cases q2
   simp only [Value.slice.injEq, Option.some.injEq, Addr.mk.injEq] at q2
   obtain ⟨⟨rfl, -⟩, -⟩ := q2
   have h1 := HROW.out
   rw [q, hg'] at h1
   simp at h1)
  have hdl : p.darts.length = 2 * p.e.length := Plain.darts_length p
  have HD0 := Lib.hid (show p.darts.getD (2 * i) 0 = 2 * (en : Int) by have := Plain.darts_getD hil 0 (by omega); rw [HEN.out] at this; simpa using this)
  have HD1 := Lib.hid (show p.darts.getD (2 * i + 1) 0 = 2 * (en : Int) + 1 by have := Plain.darts_getD hil 1 (by omega); rw [HEN.out] at this; simpa using this)
  have HT0 := Lib.hid (show g.tail (2 * (en : Int)) = a by rw [← HEA.out]; have := (dart_even g en).1; simpa using this)
  have HT1 := Lib.hid (show g.tail (2 * (en : Int) + 1) = b by rw [← HEB.out]; have := (dart_odd g en).1; simpa using this)
  have HLEN := Lib.hid (show p.e.length ≤ 1024 by have := rises_len (Plain.Pt.err_ok HPE.out).2.2.1; omega)
  have HDL := Lib.hid hdl
  clear hS0 z1r ha2 hb2 y0r hec2 hcr hdl hpc
  generalize wr.drew = wa at *
  have ww0 : IntKind.i64.wrap (2 * (en : Int)) = 2 * (en : Int) := IntWalk.i64_in _ (by omega)
  have ww1 : IntKind.i64.wrap (2 * (en : Int) + 1) = 2 * (en : Int) + 1 := IntWalk.i64_in _ (by omega)
  have pc := HPC.out wa HCR0.out
  have hS0 : Chg [] wa wa.drew := (Chg.refl [] wa).drew
  have hxl0 := HRO0.out.cells
  obtain ⟨va, vc, va', vc', w3, p1, p2, p3, p4, p5, p6, p7, p8, p9, p10, p11⟩ := nest_grow (q := a) (x := 2 * (en : Int)) (HRO0.out.fresh hS0) (by decide) (Nat.le_trans (HRO0.out.out.lt db rfl).1 (Nat.le_trans (Nat.le_of_lt (HRO0.out.out.lt db rfl).2) hS0.size)) (by rw [hxl0]; show a < N * 1; omega) (show _ = some (Cell.row (Plain.dartsTo g p a (2 * i))) by rw [List.getElem?_map, List.getElem?_range haN]; rfl) (I64.mk (by omega) (by omega)) (by have h1 := Plain.dartsTo_len g p a (2 * i); have h2 := HLEN.out; omega)
  have hln : (Plain.dartsTo g p a (2 * i)).length ≤ 2 * i := Plain.dartsTo_len g p a (2 * i)
  obtain ⟨ln, hlne⟩ : ∃ ln, (Plain.dartsTo g p a (2 * i)).length = ln := ⟨_, rfl⟩
  have HP2 := Lib.hid p2
  have HLO1 := Lib.hid (low_set HLO0.out (by rw [hxl0]; show a < N * 1; omega) p7 p6 rfl rfl (Nat.le_trans HCR0.out.size hS0.size))
  have HCR1 := Lib.hid (show Chg [db] w2 _ from (HCR0.out.tr hS0).trans p8 (fun j hj => by
   rcases List.mem_cons.1 hj with q | q
   ·exact Or.inl (by simp [q])
   refine Or.inr (HLO0.out a j (by rw [hxl0]; show a < N * 1; omega) ?_)
   rw [p7]
   simpa [foot] using q))
  have HRO1 := Lib.hid (show Nest _ w1.heap.size 31 1 (.slice (some ⟨db, 0, none⟩) N N) N _ ((List.range N).map fun v : Nat => Cell.row (Plain.dartsTo g p v (2 * i + 1))) by
   have h1 := darts_row (g := g) (p := p) (N := N) (k := 2 * i) (a := a) (d := 2 * (en : Int)) (by rw [HDL.out]; omega) HD0.out HT0.out
   rw [← h1]
   exact p5)
  have hpbr : wa.heap[pb]? = some (.cells #[.int .i64 g.n, .slice (some ⟨gb, goff, none⟩) g.e.length cap, .slice (some ⟨db, 0, none⟩) N N, .slice (some ⟨mb, 0, none⟩) N N, .slice (some ⟨lb, 0, none⟩) N N, .int .i64 0, .slice none 0 0, .map (some mp)] 156 (0, 0)) := HPR.out _ HCR0.out
  have hpf := p11 pb _ _ _ hpbr (by decide)
  rw [hlne] at HP2 HLO1 HCR1 HRO1 p1 p3 p9 p10 hpf
  have HC9 := Lib.hid p9
  have p1b : wa.cell? ⟨db, a, none⟩ = some (.slice va ln vc) := p1
  clear p2 p5 p6 p7 p8 p9 p11 hpbr
  go_wp2_with fail
  have hS1 : Chg (foot (.slice va ln vc)) wa wa.drew := hS0.mono (by simp)
  refine wp_region_way (Chg (foot (.slice va ln vc)) wa) [0, 1, 2, 3, 4, 5, 6, 7, 8, 9, 10, 11, 12, 13] (Way.line [0, 1, 2, 3, 4, 5, 6, 7, 8, 9, 10, 11, 12, 13, 14, 15, 16, 17] .done) (by kernel_rfl) (by kernel_rfl) ?_
  simp only [Way.line]
  repeat (refine along_read (v := ?_) rfl (by rfl) (by rfl) (fun _ _ _ h => h) hS1 (fun w' hS' => ?_) ?_; rotate_left; (focus (have rd0 := hS'.cell pc (by first | exact hpf | exact p10); have rd1 := hS'.cell p1b (by first | exact hpf | exact p10); clear hS'; go_simp; try with_reducible rfl)); simp only [Act.put, Z1, Z2, Z3, Z4, Z5, Z6])
  refine along_op rfl (by rfl) (by rfl) (fun K hK => ?_)
  go_simp
  refine hK.out _ _ (fun _ => hS1.alloc _) ?_
  clear hK K
  try simp only [Act.put, Z1, Z2, Z3, Z4, Z5, Z6]
  refine along_op rfl (by rfl) (by rfl) (fun K hK => ?_)
  simp only [List.getElem_toArray, List.getElem_cons_zero, List.getElem_cons_succ]
  refine wp_apprun (.tmp 55) (.tmp 58) 31 rfl rfl rfl HP2.out ?_
  refine hK.out _ _ (fun _ => (hS0.mono (by simp)).trans HC9.out (fun j hj => Or.inl hj)) ?_
  clear hK K
  try simp only [Act.put, List.setIfInBounds_toArray, List.set_cons_zero, List.set_cons_succ]
  refine along_op rfl (by rfl) (by rfl) (fun K hK => ?_)
  go_simp
  refine hK.out _ _ (fun h => absurd h (Bool.eq_false_iff.1 (by kernel_rfl))) ?_
  clear hK K
  try simp only [Act.put, Z1, Z2, Z3, Z4, Z5, Z6]
  refine along_op rfl (by rfl) (by rfl) (fun K hK => ?_)
  go_simp
  refine hK.out _ _ (fun h => absurd h (Bool.eq_false_iff.1 (by kernel_rfl))) ?_
  clear hK K
  try simp only [Act.put, Z1, Z2, Z3, Z4, Z5, Z6]
  refine along_done ?_
  generalize (w3.setCell ⟨db, a, none⟩ (.slice va' (ln + 1) vc')) = wb at *
  clear p1 p1b p3 p4 p10 hpf hS1 HC9 HP2 pc hS0 hln hlne HRO0 HLO0 HCR0 hxl0
  have pc := HPC.out wb HCR1.out
  have hS0 : Chg [] wb wb.drew := (Chg.refl [] wb).drew
  have hxl1 := HRO1.out.cells
  obtain ⟨va, vc, va', vc', w3, p1, p2, p3, p4, p5, p6, p7, p8, p9, p10, p11⟩ := nest_grow (q := b) (x := 2 * (en : Int) + 1) (HRO1.out.fresh hS0) (by decide) (Nat.le_trans (HRO1.out.out.lt db rfl).1 (Nat.le_trans (Nat.le_of_lt (HRO1.out.out.lt db rfl).2) hS0.size)) (by rw [hxl1]; show b < N * 1; omega) (show _ = some (Cell.row (Plain.dartsTo g p b (2 * i + 1))) by rw [List.getElem?_map, List.getElem?_range hbN]; rfl) (I64.mk (by omega) (by omega)) (by have h1 := Plain.dartsTo_len g p b (2 * i + 1); have h2 := HLEN.out; omega)
  have hln : (Plain.dartsTo g p b (2 * i + 1)).length ≤ 2 * i + 1 := Plain.dartsTo_len g p b (2 * i + 1)
  obtain ⟨ln, hlne⟩ : ∃ ln, (Plain.dartsTo g p b (2 * i + 1)).length = ln := ⟨_, rfl⟩
  have HP2 := Lib.hid p2
  have HLO2 := Lib.hid (low_set HLO1.out (by rw [hxl1]; show b < N * 1; omega) p7 p6 rfl rfl (Nat.le_trans HCR1.out.size hS0.size))
  have HCR2 := Lib.hid (show Chg [db] w2 _ from (HCR1.out.tr hS0).trans p8 (fun j hj => by
   rcases List.mem_cons.1 hj with q | q
   ·exact Or.inl (by simp [q])
   refine Or.inr (HLO1.out b j (by rw [hxl1]; show b < N * 1; omega) ?_)
   rw [p7]
   simpa [foot] using q))
  have HRO2 := Lib.hid (show Nest _ w1.heap.size 31 1 (.slice (some ⟨db, 0, none⟩) N N) N _ ((List.range N).map fun v : Nat => Cell.row (Plain.dartsTo g p v (2 * i + 1 + 1))) by
   have h1 := darts_row (g := g) (p := p) (N := N) (k := 2 * i + 1) (a := b) (d := 2 * (en : Int) + 1) (by rw [HDL.out]; omega) HD1.out HT1.out
   rw [← h1]
   exact p5)
  have hpbr : wb.heap[pb]? = some (.cells #[.int .i64 g.n, .slice (some ⟨gb, goff, none⟩) g.e.length cap, .slice (some ⟨db, 0, none⟩) N N, .slice (some ⟨mb, 0, none⟩) N N, .slice (some ⟨lb, 0, none⟩) N N, .int .i64 0, .slice none 0 0, .map (some mp)] 156 (0, 0)) := HPR.out _ HCR1.out
  have hpf := p11 pb _ _ _ hpbr (by decide)
  rw [hlne] at HP2 HLO2 HCR2 HRO2 p1 p3 p9 p10 hpf
  have HC9 := Lib.hid p9
  have p1b : wb.cell? ⟨db, b, none⟩ = some (.slice va ln vc) := p1
  clear p2 p5 p6 p7 p8 p9 p11 hpbr
  go_wp2_with fail
  have hS1 : Chg (foot (.slice va ln vc)) wb wb.drew := hS0.mono (by simp)
  refine wp_region_way (Chg (foot (.slice va ln vc)) wb) [0, 1, 2, 3, 4, 5, 6, 7, 8, 9, 10, 11, 12, 13, 14] (Way.line [0, 1, 2, 3, 4, 5, 6, 7, 8, 9, 10, 11, 12, 13, 14, 15, 16, 17, 18] .done) (by kernel_rfl) (by kernel_rfl) ?_
  simp only [Way.line]
  repeat (refine along_read (v := ?_) rfl (by rfl) (by rfl) (fun _ _ _ h => h) hS1 (fun w' hS' => ?_) ?_; rotate_left; (focus (have rd0 := hS'.cell pc (by first | exact hpf | exact p10); have rd1 := hS'.cell p1b (by first | exact hpf | exact p10); clear hS'; go_simp; try with_reducible rfl)); simp only [Act.put, Z1, Z2, Z3, Z4, Z5, Z6])
  refine along_op rfl (by rfl) (by rfl) (fun K hK => ?_)
  go_simp
  refine hK.out _ _ (fun _ => hS1.alloc _) ?_
  clear hK K
  try simp only [Act.put, Z1, Z2, Z3, Z4, Z5, Z6]
  refine along_op rfl (by rfl) (by rfl) (fun K hK => ?_)
  simp only [List.getElem_toArray, List.getElem_cons_zero, List.getElem_cons_succ]
  refine wp_apprun (.tmp 72) (.tmp 76) 31 rfl rfl rfl HP2.out ?_
  refine hK.out _ _ (fun _ => (hS0.mono (by simp)).trans HC9.out (fun j hj => Or.inl hj)) ?_
  clear hK K
  try simp only [Act.put, List.setIfInBounds_toArray, List.set_cons_zero, List.set_cons_succ]
  refine along_op rfl (by rfl) (by rfl) (fun K hK => ?_)
  go_simp
  refine hK.out _ _ (fun h => absurd h (Bool.eq_false_iff.1 (by kernel_rfl))) ?_
  clear hK K
  try simp only [Act.put, Z1, Z2, Z3, Z4, Z5, Z6]
  refine along_op rfl (by rfl) (by rfl) (fun K hK => ?_)
  go_simp
  refine hK.out _ _ (fun h => absurd h (Bool.eq_false_iff.1 (by kernel_rfl))) ?_
  clear hK K
  try simp only [Act.put, Z1, Z2, Z3, Z4, Z5, Z6]
  refine along_done ?_
  generalize (w3.setCell ⟨db, b, none⟩ (.slice va' (ln + 1) vc')) = wc at *
  clear p1 p1b p3 p4 p10 hpf hS1 HC9 HP2 pc hS0 hln hlne HRO1 HLO1 HCR1 hxl1
  go_wp2
  go_roundw
  case rel => exact ⟨i + 1, by omega, by go_num, _, HRO2.out, HLO2.out, HCR2.out⟩
  case measure => simp [intOf]; omega
end Go.Proofs.YtpcgklagmcnhaaaGreat
namespace Go.Proofs.YtpcgklagmcnhaaaGreat.Plain
def EndOf (g : Gr) (e v : Int) : Prop := (g.at e).1 = v ∨ (g.at e).2 = v
theorem dart_end (g : Gr) (d : Int) : EndOf g (d / 2) (g.tail d) ∧ EndOf g (d / 2) (g.head d) := by
 all_goals grind [EndOf, dart_ats]
theorem end_head {g : Gr} {d v : Int} (h : EndOf g (d / 2) v) : v = g.tail d ∨ v = g.head d := by
 all_goals grind [EndOf, dart_ats]
end Go.Proofs.YtpcgklagmcnhaaaGreat.Plain
