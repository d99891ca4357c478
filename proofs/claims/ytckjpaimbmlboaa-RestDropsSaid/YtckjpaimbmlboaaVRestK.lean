/- A row that others own too is put into a plan's second list: its head tells it from the rows that are there. Conditions: what each law says. -/
import Derived.Test.YtckjpaimbmlboaaVRegP
import Derived.Test.YtckjpaimbmlboaaVRows2
import Derived.Test.YtckjpaimbmlboaaVKeep
import Derived.Test.YtckjpaimbmlboaaVSortf
namespace Go.Proofs.Ytckjpaimbmlboaa
open Go.RowKit Go.Maps

theorem owns_head {w : World} {B b : Nat} {v : Value} {l : List Int} (h : w.ownsRow B 3 1 v l.length (ints l)) (hl : l ≠ []) (hb : v.ownBlock = some b) : w.cell? ⟨b, 0, none⟩ = some (.int .i64 (l.getD 0 0)) := by
 have h0 : 0 < l.length := List.length_pos_iff.2 hl
 obtain ⟨g, cap, rfl⟩ := owns_some h h0
 have e : g = b := by simpa [Value.ownBlock] using hb
 subst e
 have := h.cellAt 0 (by simpa using h0)
 rw [this]
 cases l with
 | nil => exact absurd rfl hl
 | cons x l => rfl
theorem heads_apart {w : World} {B b : Nat} {v u : Value} {m l : List Int} (h1 : w.ownsRow B 3 1 v m.length (ints m)) (h2 : w.ownsRow B 3 1 u l.length (ints l)) (hl : l ≠ []) (hh : m.getD 0 0 ≠ l.getD 0 0) (hm : m ≠ []) (hb : v.ownBlock = some b) : u.ownBlock ≠ some b := fun e => by
 have e1 := owns_head h1 hm hb
 have e2 := owns_head h2 hl e
 rw [e1] at e2
 simp at e2
 exact hh e2

theorem run_rowh {w0 w : World} {B : Nat} {ov v : Value} {vs : List Value} {ll : List (List Int)} {l : List Int} (h : RowsOwn w0 B ov vs ll) (hB : B ≤ w0.heap.size) (hv : RowAt w0 B v l) (hX : ∀ k b, k < vs.length → (vs.getD k undef).ownBlock = some b → v.ownBlock ≠ some b) (hn : vs.length < 68719476736)
  (hw : w = w0.alloc (.cells #[v] 25) ∨ w = (w0.alloc (.cells #[v] 25)).drew) (ty : TypeId) :
  ∃ g cap w', (Builtin.append_ #[28, 28] ty #[ov, .slice (some ⟨w0.heap.size, 0, none⟩) 1 1]).run Try.prog w = .ok (.slice (some ⟨g, 0, none⟩) (vs.length + 1) cap) w' ∧
   RowsOwn w' B (.slice (some ⟨g, 0, none⟩) (vs.length + 1) cap) (vs ++ [v]) (ll ++ [l]) ∧ Chg ov.ownBlock.toList w0 w' ∧ (ov.ownBlock = some g ∨ w0.heap.size ≤ g) := by
 obtain ⟨va, vc, rfl⟩ := hv.shape
 obtain ⟨g, cap, w', hr, r2, r3, r4⟩ := run_app elemRow h.out hB (cs := #[.slice va l.length vc]) rfl (oneSlice _ _ _) hn hw ty
 exact ⟨g, cap, w', hr, h.add hv.1 (fun k b hk hb e => hX k b hk hb e) r2 r3, r3, r4⟩

theorem PlanVar.push1h {w0 w : World} {pb B T : Nat} {t s : List (List Int)} {v : Value} {l : List Int} (h : PlanVar w0 pb B T t s) (hB : B ≤ w0.heap.size) (hv : RowAt w0 B v l) (hne : l ≠ []) (hh : ∀ m ∈ s, m ≠ [] ∧ m.getD 0 0 ≠ l.getD 0 0) (hn : s.length < 1000000000)
  (hw : w = w0.alloc (.cells #[v] 25) ∨ w = (w0.alloc (.cells #[v] 25)).drew) {ao : Option Addr} {n c : Nat} (hc0 : w0.cell? ⟨pb, 1, none⟩ = some (.slice ao n c)) (ty : TypeId) :
  ∃ g cap w', (Builtin.append_ #[28, 28] ty #[.slice ao n c, .slice (some ⟨w0.heap.size, 0, none⟩) 1 1]).run Try.prog w = .ok (.slice (some ⟨g, 0, none⟩) (n + 1) cap) w' ∧
   w'.frozen? ⟨pb, 1, none⟩ = false ∧ (∃ u, w'.cell? ⟨pb, 1, none⟩ = some u) ∧ PlanVar (w'.setCell ⟨pb, 1, none⟩ (.slice (some ⟨g, 0, none⟩) (n + 1) cap)) pb B w'.heap.size t (s ++ [l]) ∧
   ∃ own, Chg own w0 (w'.setCell ⟨pb, 1, none⟩ (.slice (some ⟨g, 0, none⟩) (n + 1) cap)) ∧ ∀ j ∈ own, j = pb ∨ (B ≤ j ∧ ∃ cs r, w0.heap[j]? = some (.cells cs 25 r)) := by
 obtain ⟨⟨o1, v1, o2, v2, h1, h2, h3, h4, h5, h6⟩, h7⟩ := h
 have e0 := (cell_of_row _ _ 1 _ _ _ h1).trans (show _ = some o2 from rfl)
 rw [hc0] at e0
 obtain rfl : Value.slice ao n c = o2 := by simpa using e0
 have hnl : n = v2.length := by
  obtain ⟨a1, c1, e⟩ := owns_shape h3.out
  simp only [Value.slice.injEq] at e
  exact e.2.1
 subst hnl
 obtain ⟨g, cap, w', hr, r1, r2, r3⟩ := run_rowh h3 hB hv (fun k b hk hb => heads_apart (h3.rows k hk) hv.1 hne (hh _ (by have := h3.len; simp [List.getD, show k < s.length by omega])).2 (hh _ (by have := h3.len; simp [List.getD, show k < s.length by omega])).1 hb) (by have := h3.len; omega) hw ty
 have hno : pb ∉ (Value.slice ao v2.length c).ownBlock.toList := fun e => owns_other h3.out h1 (by decide) (by simpa using e)
 have hp := r2.heap h1 hno
 have h2' : RowsOwn w' B o1 v1 t := h2.chg r2 (fun b hb e => by
   rcases h4 with q | q
   ·rw [q] at hb; cases hb
   ·simp at e; exact q (hb.trans e.symm)) (fun k b hk hb e => by
   rcases owns_two h3.out (h2.rows k hk) (by decide) with q | q
   ·rw [q] at e; simp at e
   ·simp at e; exact q (e.trans hb.symm))
 have hset : Chg [pb] w' (w'.setCell ⟨pb, 1, none⟩ (.slice (some ⟨g, 0, none⟩) (v2.length + 1) cap)) := (Chg.refl _ _).setCell (Or.inl (by simp)) _
 have keep : ∀ {ov : Value} {vs : List Value} {ll : List (List Int)}, RowsOwn w' B ov vs ll → RowsOwn (w'.setCell ⟨pb, 1, none⟩ (.slice (some ⟨g, 0, none⟩) (v2.length + 1) cap)) B ov vs ll := fun hr => hr.chg hset
  (fun b hb e => owns_other hr.out hp (by decide) (by rw [hb, List.mem_singleton.1 e])) (fun k b hk hb e => owns_other (hr.rows k hk) hp (by decide) (by rw [hb, List.mem_singleton.1 e]))
 have hx := row_below r1
 have hx2 := row_below h2'
 refine ⟨g, cap, w', hr, free_at hp 1, ⟨_, (cell_of_row _ _ 1 _ _ _ hp).trans rfl⟩, ⟨⟨o1, v1, _, _, heap_setCell_same hp 1 _, keep h2', keep r1, ?_, hx2, hx⟩, ?_⟩, pb :: (Value.slice ao v2.length c).ownBlock.toList, (r2.mono (fun j hj => Or.inl (by simp [hj]))).trans hset (fun j hj => Or.inl (by simp at hj; simp [hj])), fun j hj => ?_⟩
 ·cases hq : o1.ownBlock with
  | none => exact Or.inl rfl
  | some b =>
   right
   intro e
   have e : some b = some g := e
   rcases r3 with q | q
   ·rcases h4 with r | r
    ·rw [r] at hq; cases hq
    ·exact r (hq.trans (e.trans q.symm))
   ·have := owns_lt h2.out hq
    cases e
    omega
 ·intro m hm
  rw [← List.append_assoc] at hm
  rcases List.mem_append.1 hm with q | q
  ·exact h7 m q
  ·rw [List.mem_singleton.1 q]; exact hv.2
 ·rcases List.mem_cons.1 hj with q | q
  ·exact Or.inl q
  ·obtain ⟨cs, hh⟩ := owns_kind h3.out (by simpa using q)
   exact Or.inr ⟨(h3.out.lt j (by simpa using q)).1, cs, _, hh⟩

def IntsStay (w w' : World) : Prop := ∀ (b : Nat) (cs : Array Value) (r : Nat × Nat), w.heap[b]? = some (Obj.cells cs 3 r) → w'.heap[b]? = some (Obj.cells cs 3 r)
theorem IntsStay.trans {a b c : World} (h : IntsStay a b) (k : IntsStay b c) : IntsStay a c := fun j cs r q => k j cs r (h j cs r q)
theorem IntsStay.chg {w w' : World} {own : List Nat} (hc : Chg own w w') (h : ∀ j ∈ own, ∀ (cs : Array Value) (r : Nat × Nat), w.heap[j]? ≠ some (Obj.cells cs 3 r)) : IntsStay w w' := fun b cs r q => hc.heap q (fun hm => h b hm cs r q)
theorem IntsStay.row {w w' : World} {B : Nat} {v : Value} {l : List Int} (h : IntsStay w w') (hr : RowAt w B v l) : RowAt w' B v l := by
 refine ⟨⟨hr.1.1, ?_⟩, hr.2⟩
 rcases hr.1.2 with q | ⟨g, cap, cur, h1, h2, h3, h4⟩
 ·exact Or.inl q
 ·exact Or.inr ⟨g, cap, cur, h1, h2, h _ _ _ h3, h4⟩

theorem ranges_at {P : Program} {k : TypeId} {R : Value → Option (DataW Unit × List MemPlace)} {w w' : World} {b r n : Nat} {D : DataW Unit} {left : Lit → Bool} {cnt : Nat} {l : List Nat} (h : w.ranges P k R b r n D left cnt) (hc : Chg l w w') (hb : b ∉ l) (hr : r ∉ l) : w'.ranges P k R b r n D left cnt := by
 obtain ⟨es, clock, since, seen, c0, h1, F, hs, hD, h2, rest⟩ := h
 exact ⟨es, clock, since, seen, c0, hc.heap h1 hb, F, hs, hD, hc.heap h2 hr, rest⟩
theorem ranges_kind {P : Program} {k : TypeId} {R : Value → Option (DataW Unit × List MemPlace)} {w : World} {b r n : Nat} {D : DataW Unit} {left : Lit → Bool} {cnt : Nat} (h : w.ranges P k R b r n D left cnt) : (∀ cs u f, w.heap[b]? ≠ some (Obj.cells cs u f)) ∧ ∀ cs u f, w.heap[r]? ≠ some (Obj.cells cs u f) := by
 obtain ⟨es, clock, since, seen, c0, h1, F, hs, hD, h2, rest⟩ := h
 exact ⟨fun cs u f q => (by rw [h1] at q; cases q), fun cs u f q => (by rw [h2] at q; cases q)⟩
theorem sub_len {α : Type} [DecidableEq α] : ∀ {l m : List α}, l.Nodup → (∀ x ∈ l, x ∈ m) → l.length ≤ m.length
 | [], _, _, _ => Nat.zero_le _
 | a :: l, m, hn, hs => by
  have h1 := sub_len (l := l) (m := m.erase a) (List.nodup_cons.1 hn).2 (fun x hx => (List.mem_erase_of_ne (show x ≠ a from fun e => (List.nodup_cons.1 hn).1 (by rw [← e]; exact hx))).2 (hs x (by simp [hx])))
  rw [List.length_erase_of_mem (hs a (by simp))] at h1
  have := List.length_pos_of_mem (hs a (by simp))
  rw [List.length_cons]
  omega

namespace Plain
theorem keys_heads {c : Face → Int} {W : List Face} (hk : (W.map (·.1)).Pairwise (· < ·)) {a b : Int} (ha : keysAt c W a ≠ []) (hb : keysAt c W b ≠ []) (h : (keysAt c W a).getD 0 0 = (keysAt c W b).getD 0 0) : a = b := by
 have key : ∀ {a : Int}, keysAt c W a ≠ [] → ∃ f ∈ W, c f = a ∧ f.1 = (keysAt c W a).getD 0 0 := by
  intro a ha
  unfold keysAt at ha ⊢
  cases e : W.filter fun x => decide (c x = a) with
  | nil => rw [e] at ha; exact absurd rfl ha
  | cons f m =>
   have hf : f ∈ W.filter fun x => decide (c x = a) := by rw [e]; simp
   obtain ⟨h1, h2⟩ := List.mem_filter.1 hf
   exact ⟨f, h1, of_decide_eq_true h2, rfl⟩
 obtain ⟨f, hf, rfl, e1⟩ := key ha
 obtain ⟨x, hx, rfl, e2⟩ := key hb
 have e3 : f.1 = x.1 := by rw [e1, e2, h]
 obtain ⟨i, hi, rfl⟩ := List.getElem_of_mem hf
 obtain ⟨j, hj, rfl⟩ := List.getElem_of_mem hx
 rw [List.pairwise_map] at hk
 have hq := List.pairwise_iff_getElem.1 hk
 rcases Nat.lt_trichotomy i j with q | q | q
 ·have := hq i j hi hj q; omega
 ·subst q; rfl
 ·have := hq j i hj hi q; omega
structure Got (c : Face → Int) (W : List Face) (left : Int → Bool) (C : List (List Int)) : Prop where
 nodup : C.Nodup
 mem : ∀ l, l ∈ C ↔ ∃ h, I64 h ∧ left h = false ∧ l = keysAt c W h ∧ 1 < l.length
theorem Got.start {c : Face → Int} {W : List Face} {left : Int → Bool} (h : ∀ x, I64 x → left x = false → keysAt c W x = []) : Got c W left [] :=
 ⟨List.nodup_nil, fun l => ⟨fun q => (by cases q), fun ⟨x, ix, h1, h2, h3⟩ => by rw [h2, h x ix h1] at h3; simp at h3⟩⟩
theorem Got.heads {c : Face → Int} {W : List Face} {left : Int → Bool} {C : List (List Int)} (h : Got c W left C) (hk : (W.map (·.1)).Pairwise (· < ·)) {x : Int} (hl : left x = true) (h1 : keysAt c W x ≠ []) : ∀ m ∈ C, m ≠ [] ∧ m.getD 0 0 ≠ (keysAt c W x).getD 0 0 := by
 intro m hm
 obtain ⟨y, iy, q1, rfl, q3⟩ := (h.mem m).1 hm
 have hne : keysAt c W y ≠ [] := by intro e; rw [e] at q3; simp at q3
 refine ⟨hne, fun e => ?_⟩
 have := keys_heads hk hne h1 e
 rw [this, hl] at q1
 cases q1
theorem Got.skip {c : Face → Int} {W : List Face} {left : Int → Bool} {C : List (List Int)} (h : Got c W left C) {x : Int} (h1 : ¬ 1 < (keysAt c W x).length) : Got c W (fun z => left z && !decide (z = x)) C := by
 refine ⟨h.nodup, fun l => (h.mem l).trans ⟨fun ⟨y, iy, q1, q2, q3⟩ => ⟨y, iy, by rw [q1]; rfl, q2, q3⟩, fun ⟨y, iy, q1, q2, q3⟩ => ⟨y, iy, ?_, q2, q3⟩⟩⟩
 by_cases e : y = x
 ·rw [q2, e] at q3; exact absurd q3 h1
 ·simpa [e] using q1
theorem Got.more {c : Face → Int} {W : List Face} {left : Int → Bool} {C : List (List Int)} (h : Got c W left C) (hk : (W.map (·.1)).Pairwise (· < ·)) {x : Int} (ix : I64 x) (hl : left x = true) (h1 : 1 < (keysAt c W x).length) : Got c W (fun z => left z && !decide (z = x)) (C ++ [keysAt c W x]) := by
 have hne : keysAt c W x ≠ [] := by intro e; rw [e] at h1; simp at h1
 refine ⟨List.nodup_append.2 ⟨h.nodup, by simp, fun m hm l hl2 e => ?_⟩, fun l => ?_⟩
 ·rw [List.mem_singleton.1 hl2] at e
  exact (h.heads hk hl hne m hm).2 (by rw [e])
 ·rw [List.mem_append, List.mem_singleton, h.mem l]
  constructor
  ·rintro (⟨y, iy, q1, q2, q3⟩ | rfl)
   ·exact ⟨y, iy, by rw [q1]; rfl, q2, q3⟩
   ·exact ⟨x, ix, by simp, rfl, h1⟩
  ·rintro ⟨y, iy, q1, q2, q3⟩
   by_cases e : y = x
   ·rw [e] at q2; exact Or.inr q2
   ·exact Or.inl ⟨y, iy, by simpa [e] using q1, q2, q3⟩
theorem Got.len {c : Face → Int} {W : List Face} {left : Int → Bool} {C : List (List Int)} (h : Got c W left C) : C.length ≤ W.length := by
 have h1 := sub_len h.nodup (m := grps c W) fun l hl => by
  obtain ⟨x, -, -, q2, q3⟩ := (h.mem l).1 hl
  exact mem_grps.2 ⟨x, q2, q3⟩
 have h2 : (grps c W).length ≤ W.length := by unfold grps; rw [List.length_map]; exact List.length_filter_le _ _
 omega
end Plain

end Go.Proofs.Ytckjpaimbmlboaa
/- rest.To's last part: the lists by their first numbers. Conditions: what each law says. -/
namespace Go.Proofs.Ytckjpaimbmlboaa
open Go.RowKit Go.Maps

theorem to2_any (ga oa gb ob n m c c' : Nat) (x y : Int) (w : World) (hn : 0 < n) (hm : 0 < m) (h1 : w.cell? ⟨ga, oa, none⟩ = some (.int .i64 x)) (h2 : w.cell? ⟨gb, ob, none⟩ = some (.int .i64 y)) :
  Calls Try.prog 59 #[.slice (some ⟨ga, oa, none⟩) n c, .slice (some ⟨gb, ob, none⟩) m c'] w fun e w' => e = .returned (.int .i64 (Lib.compareInt x y)) ∧ ∃ q, w' = w.drewN q := by
 have i3 : (0 : Int) < (n : Int) := by omega
 have i4 : (0 : Int) < (m : Int) := by omega
 obtain ⟨r, hr⟩ : ∃ r, Lib.compareInt x y = r := ⟨_, rfl⟩
 have HR := Lib.hid hr
 rw [hr]
 clear hr
 go_enter Try.func59, Try.ntmps59
 go_wp2
 have hS0 : (fun w' : World => w'.cell? ⟨ga, oa, none⟩ = some (.int .i64 x) ∧ w'.cell? ⟨gb, ob, none⟩ = some (.int .i64 y)) w.drew := ⟨h1, h2⟩
 refine wp_region_way (fun w' : World => w'.cell? ⟨ga, oa, none⟩ = some (.int .i64 x) ∧ w'.cell? ⟨gb, ob, none⟩ = some (.int .i64 y)) [0, 1, 2, 3, 4, 5] (Way.line [0, 1, 2, 3, 4, 5, 6, 7] .done) (by kernel_rfl) (by kernel_rfl) ?_
 simp only [Way.line]
 repeat
  first
   | (refine along_off rfl (by rfl) (by rfl) (fun _ _ _ h => h) hS0 ?_; simp only [Act.put, lz1, lz2, lz3, lz4, lz5, lz6])
   | (refine along_read (v := ?_) rfl (by rfl) (by rfl) (fun _ _ _ h => h) hS0 (fun w' hS' => ?_) ?_; rotate_left; (focus ((try dsimp only at hS'); go_simp; try with_reducible rfl)); simp only [Act.put, lz1, lz2, lz3, lz4, lz5, lz6])
   | (refine along_skip rfl (by rfl) (by rfl) hS0 ?_; simp only [Act.put, lz1, lz2, lz3, lz4, lz5, lz6])
 refine along_op rfl (by rfl) (by rfl) (fun K hK => ?_)
 go_simp
 refine (compare_any x y _).mono ?_
 rw [HR.out]
 rintro e w7 ⟨rfl, rfl⟩
 refine hK.out _ _ (fun _ => hS0) ?_
 clear hK K
 try simp only [Act.put, lz1, lz2, lz3, lz4, lz5, lz6]
 refine along_op rfl (by rfl) (by rfl) (fun K hK => ?_)
 go_simp
 refine hK.out _ _ (fun _ => hS0) ?_
 clear hK K
 try simp only [Act.put, lz1, lz2, lz3, lz4, lz5, lz6]
 refine along_done ?_
 go_wp2
 go_ret
 exact ⟨rfl, 1, rfl⟩

set_option maxHeartbeats 1000000 in
theorem restSort_any (v : Value) (vs : List Value) (ll : List (List Int)) (B : Nat) (w : World) (hn : vs.length < 4294967296) (h : RowsOwn w B v vs ll) (hne : ∀ l ∈ ll, l ≠ []) :
  Calls Try.prog 58 #[v, .func (.func 59) #[] #[]] w fun e w' => e = .returned (.tuple #[]) ∧ ∃ vs' ll', RowsOwn w' B v vs' ll' ∧ vs'.length = vs.length ∧ ll'.Perm ll ∧ ll'.Pairwise (fun a b => a.getD 0 0 ≤ b.getD 0 0) ∧ Chg v.ownBlock.toList w w' := by
 by_cases h0 : vs.length = 0
 ·obtain ⟨ao, cap, rfl⟩ := owns_shape h.out
  have hl0 : ll = [] := List.length_eq_zero_iff.1 (by rw [← h.len, h0])
  have hcon := AnyF.slices_SortFunc_none { Try.sortRows with } ao cap (.func (.func 59) #[] #[]) w
  change Calls Try.prog 58 _ _ _ at hcon
  rw [h0]
  refine hcon.mono ?_
  rintro e w' ⟨rfl, rfl⟩
  exact ⟨rfl, vs, ll, by rw [← h0]; exact h, h0, List.Perm.refl _, by rw [hl0]; exact List.Pairwise.nil, Chg.refl _ _⟩
 ·obtain ⟨g, cap, rfl⟩ := owns_some h.out (by omega)
  have hrow : ∀ k, k < vs.length → w.ownsRow B 3 1 (vs.getD k undef) (ll.getD k []).length (ints (ll.getD k [])) ∧ ll.getD k [] ≠ [] := fun k hk => ⟨h.rows k hk, hne _ (by have := h.len; simp [List.getD, show k < ll.length by omega])⟩
  haveI : Inhabited (RowIn w B) := ⟨⟨(vs.getD 0 undef, ll.getD 0 []), hrow 0 (by omega)⟩⟩
  obtain ⟨dl, hvl, hll⟩ := rows_in vs ll h.len hrow
  obtain ⟨d, hd⟩ : ∃ d : Array (RowIn w B), d = dl.toArray := ⟨_, rfl⟩
  have hv : d.toList.map RowIn.val = vs := by rw [hd]; exact hvl
  have hl : d.toList.map (fun z => z.1.2) = ll := by rw [hd]; exact hll
  have hds : d.size = vs.length := by rw [← hv]; simp
  have hg : ∀ z : RowIn w B, ∀ b, z.val.ownBlock = some b → b ≠ g := fun z b hb e => by
   rcases owns_two z.2.1 h.out (by decide) with q | q
   ·rw [show z.1.1.ownBlock = some b from hb] at q; cases q
   ·exact q (by rw [show z.1.1.ownBlock = some b from hb, e]; rfl)
  have hgb : g < w.heap.size := owns_lt h.out rfl
  have eg : ∀ args w, (callFunc 59 args).run Try.prog w = .ok (.enter 59 args) w := enters_of Try.func59 (by kernel_rfl) rfl
  have hcmp : CmpLays1 (α := RowIn w B) Try.prog 59 #[] RowIn.val RowIn.cmp g 0 d.size w := by
   refine CmpReads.lays (fun m os dk _ x y => ?_)
   obtain ⟨b1, n1, c1, e1, hn1, hc1⟩ := x.cell (hg x) m os dk
   obtain ⟨b2, n2, c2, e2, hn2, hc2⟩ := y.cell (hg y) m os dk
   rw [e1, e2]
   exact to2_any b1 0 b2 0 n1 n2 c1 c2 x.key y.key _ hn1 hn2 hc1 hc2
  have hcon := Any.slices_SortFunc Try.sortRows RowIn.val RowIn.one RowIn.cmp RowIn.swo 59 #[] g 0 cap d w eg hcmp (sorted_holds h.out hv) hgb (by omega)
  change Calls Try.prog 58 _ _ _ at hcon
  rw [hds] at hcon
  have hres : ∀ d' n os, Go.Sort.PermIn 0 vs.length d d' → Go.Sort.SortedIn (ltOf RowIn.cmp) 0 vs.length d' → ∃ vs' ll', RowsOwn (Go.Proofs.sortWorld RowIn.val w g 0 n d' os) B (.slice (some ⟨g, 0, none⟩) vs.length cap) vs' ll' ∧ vs'.length = vs.length ∧ ll'.Perm ll ∧ ll'.Pairwise (fun a b => a.getD 0 0 ≤ b.getD 0 0) := by
   intro d' n os hp hs
   refine RowsOwn.sorted h hv hl ?_ (by rw [hds]; exact hs) hg
   obtain ⟨p1, -, p3⟩ := hp
   have q1 : (d'.extract 0 vs.length) = d' := by rw [← hds, ← p1]; simp
   have q2 : (d.extract 0 vs.length) = d := by rw [← hds]; simp
   rw [q1, q2] at p3
   exact p3
  refine hcon.mono ?_
  rintro e w' ⟨rfl, d', n, os, hp, hs, rfl⟩
  obtain ⟨vs', ll', r1, r2, r3, r4⟩ := hres d' n os hp hs
  exact ⟨rfl, vs', ll', r1, r2, r3, r4, sorted_chg (fun z : RowIn w B => z.val) w g n os d'⟩

theorem PlanVar.sorts {w : World} {pb B T : Nat} {t s : List (List Int)} (h : PlanVar w pb B T t s) (hne : ∀ l ∈ s, l ≠ []) (hn : s.length < 1000000000) {ao : Option Addr} {n c : Nat} (hc : w.cell? ⟨pb, 1, none⟩ = some (.slice ao n c)) :
  Calls Try.prog 58 #[.slice ao n c, .func (.func 59) #[] #[]] w fun e w' => e = .returned (.tuple #[]) ∧ ∃ s', PlanVar w' pb B w'.heap.size t s' ∧ s'.Perm s ∧ s'.Pairwise (fun a b => a.getD 0 0 ≤ b.getD 0 0) ∧ ∃ own, Chg own w w' ∧ ∀ j ∈ own, B ≤ j := by
 obtain ⟨⟨o1, v1, o2, v2, h1, h2, h3, h4, h5, h6⟩, h7⟩ := h
 have e0 := (cell_of_row _ _ 1 _ _ _ h1).trans (show _ = some o2 from rfl)
 rw [hc] at e0
 obtain rfl : Value.slice ao n c = o2 := by simpa using e0
 refine (restSort_any _ v2 s B w (by have := h3.len; omega) h3 hne).mono ?_
 rintro e w' ⟨rfl, vs', ll', r1, r2, r3, r4, hch⟩
 have hno : pb ∉ (Value.slice ao n c).ownBlock.toList := fun e => owns_other h3.out h1 (by decide) (by simpa using e)
 have hp := hch.heap h1 hno
 have h2' : RowsOwn w' B o1 v1 t := h2.chg hch (fun b hb e => by
   rcases h4 with q | q
   ·rw [q] at hb; cases hb
   ·simp at e; exact q (hb.trans e.symm)) (fun k b hk hb e => by
   rcases owns_two h3.out (h2.rows k hk) (by decide) with q | q
   ·rw [q] at e; simp at e
   ·simp at e; exact q (e.trans hb.symm))
 refine ⟨rfl, ll', ⟨⟨o1, v1, _, vs', hp, h2', r1, h4, row_below h2', row_below r1⟩, fun l hl => ?_⟩, r3, r4, _, hch, fun j hj => (h3.out.lt j (by simpa using hj)).1⟩
 rcases List.mem_append.1 hl with q | q
 ·exact h7 l (List.mem_append.2 (Or.inl q))
 ·exact h7 l (List.mem_append.2 (Or.inr (r3.mem_iff.1 q)))
end Go.Proofs.Ytckjpaimbmlboaa
