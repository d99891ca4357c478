/- (*tree.Tree).Nodes: the iterator's contract. Conditions: what each law says. -/
import Derived.Test.YtpcgklagmcnhaaaGreatT7TMerge
namespace Go.Proofs.YtpcgklagmcnhaaaGreat
open Go.RowKit Go.Maps
theorem yieldAt_at {m m' l : Nat} {args : Array Value} {W : World} {R : Ending → World → Prop} (h : YieldAt Fence.wide m Tryz.prog l args W R) : YieldAt Fence.wide m' Tryz.prog l args W R := by
 obtain ⟨fn, tmps, assign, body, hy, h1, h2⟩ := h
 exact ⟨fn, tmps, assign, body, hy, h1, fun c cs _ => h2 c cs (room_wide _)⟩
def NdView (p cb n : Nat) (ns : List Plain.Nd) (W : World) : Prop := W.cell? ⟨cb, 0, none⟩ = some (.pointer (some ⟨p, 0, none⟩)) ∧ ns.length = n ∧ (∀ k, k < n → (Plain.nd0 ns k).l.length ≤ 400000) ∧ ∃ v vs B, W.cell? ⟨p, 0, none⟩ = some v ∧ NdRow W B v vs ns
def NdRd (k : Nat) (ns : List Plain.Nd) (W0 W : World) (v1 v2 : Value) : Prop := v1 = .int .i64 k ∧ ∃ u, v2 = .agg #[.int .i64 (Plain.nd0 ns k).kind, u] ∧ I64 (Plain.nd0 ns k).kind ∧ LkRow W W0.heap.size u (Plain.nd0 ns k).l
theorem NdRd.stays (k : Nat) (ns : List Plain.Nd) (W0 W W' : World) (v1 v2 : Value) (own : List Nat) (h : NdRd k ns W0 W v1 v2) (hc : Chg own W W') (hh : Hard W own) : NdRd k ns W0 W' v1 v2 := by
 obtain ⟨h1, u, h2, h3, h4⟩ := h
 refine ⟨h1, u, h2, h3, h4.chg hc fun b hb hm => ?_⟩
 obtain ⟨cs, r, e⟩ := h4.kind b hb
 exact (hh b hm).1 _ _ _ e
theorem nodes_any (p : Nat) (w : World) : Calls Tryz.prog 11 #[.pointer (some ⟨p, 0, none⟩)] w fun e w' => e = .returned (.func (.func 32) #[] #[.pointer (some ⟨w.heap.size, 0, none⟩)]) ∧ w'.heap[w.heap.size]? = some (.cells #[.pointer (some ⟨p, 0, none⟩)] 23 (0, 0)) ∧ Chg [] w w' := by
 have HC := Lib.hid ((Chg.refl [] w).alloc (.cells #[.pointer (some ⟨p, 0, none⟩)] 23))
 have HX := Lib.hid (heap_alloc_new w (.cells #[.pointer (some ⟨p, 0, none⟩)] 23))
 go_enter Tryz.func11, Tryz.ntmps11
 go_wp2
 go_ret
 exact ⟨rfl, HX.out, HC.out⟩
section
attribute [local go_sem] Oper.semAt_some
set_option maxRecDepth 100000 in
set_option maxHeartbeats 4000000 in
theorem nodes1_gives (p cb n : Nat) (hn : n ≤ 100000) : Gives3 32 #[.pointer (some ⟨cb, 0, none⟩)] n (NdView p cb n) NdRd := by
 intro l J s W hA h0 hV hY
 have HA := Lib.hid hA
 have HY := Lib.hid hY
 have HV := Lib.hid hV
 have H0 := Lib.hid h0
 obtain ⟨v1, v2, -, v, vs, B, v4, v5⟩ := hV 0 s W h0
 obtain ⟨ao, c, rfl⟩ := v5.shape
 rw [v2] at v4
 clear hA hY hV h0 v2 v5
 refine (callsIn_wide (n := 9)).1 (callsIn_of_wp Tryz.func32 rfl trivial ?_ rfl)
 simp only [Tryz.ntmps32, List.size_toArray, List.length_cons, List.length_nil, Nat.reduceAdd, Nat.reduceSub, Array.replicate_succ, Array.replicate_zero, List.push_toArray, List.append_toArray, List.nil_append, List.cons_append]
 gi_wp2
 refine ⟨trivial, ?_⟩
 refine (callsIn_wide.2 (tlen_any p ao n c W v4)).mono ?_
 rintro e w2 ⟨rfl, rfl⟩
 clear v1 v4
 gi_wp2
 gi_loopw [8] (fun c8 wr => ∃ (k : Nat) (s : List Plain.Nd), k ≤ n ∧ c8 = .int .i64 k ∧ J k s wr ∧ w2.heap.size ≤ wr.heap.size) (fun c8 _ => n - (intOf c8).toNat)
 case atStart => exact ⟨0, s, Nat.zero_le _, rfl, H0.out, Nat.le_refl _⟩
 case round =>
  obtain ⟨k, s, hk, rfl, hj, hsz⟩ := hrel
  have HJ := Lib.hid hj
  have HSZ := Lib.hid hsz
  clear hj hsz
  by_cases hlt : k < n
  ·obtain ⟨v1, v2, v3, v, vs, B, v4, v5⟩ := HV.out k s wr HJ.out
   have HND := Lib.hid v5
   have HLL := Lib.hid (v3 k hlt)
   have HKI := Lib.hid (v5.row k (by omega)).1
   have HLN := Lib.hid v2
   have HC4 := Lib.hid v4
   clear v2 v3 v4 v5
   gi_wp2
   refine ⟨trivial, ?_⟩
   refine (callsIn_wide.2 (tnode_any p v vs s B k wr HC4.out HND.out (by have := HLN.out; omega) (by have := HLN.out; omega) (by have := HLL.out; omega))).mono ?_
   rintro e w3 ⟨u, rfl, hu, hc3⟩
   obtain ⟨uo, uc, rfl⟩ := hu.shape
   obtain ⟨N, hN⟩ : ∃ N, Plain.nd0 s k = N := ⟨_, rfl⟩
   have hc4 := hc3.alloc (.cells #[.int .i64 N.kind, .slice uo N.l.length uc] 26)
   have HB4 := Lib.hid (heap_alloc_new w3 (.cells #[.int .i64 N.kind, .slice uo N.l.length uc] 26))
   rw [hN] at hu HKI ⊢
   have hu4 : LkRow (w3.alloc (.cells #[.int .i64 N.kind, .slice uo N.l.length uc] 26)) wr.heap.size (.slice uo N.l.length uc) N.l := hu.fresh ((Chg.refl [] w3).alloc _)
   obtain ⟨fn, tmps, assign, body, hy, hR⟩ := yieldAt_at (m' := 8) (HY.out k s wr _ (.int .i64 k) (.agg #[.int .i64 N.kind, .slice uo N.l.length uc]) HJ.out HSZ.out hc4 hlt ⟨rfl, _, by rw [hN], by rw [hN]; exact HKI.out, by rw [hN]; exact hu4⟩)
   have HR := Lib.hid hR
   have HSZ4 := Lib.hid (Nat.le_trans HSZ.out hc4.size)
   have c0 := (cell_of_row _ _ 0 _ _ _ HB4.out).trans (show _ = some (Value.int .i64 N.kind) from rfl)
   have c1 := (cell_of_row _ _ 1 _ _ _ HB4.out).trans (show _ = some (Value.slice uo N.l.length uc) from rfl)
   clear hu hc3 hc4 hN hu4 hR v1
   gi_wp2
   refine HR.out.mono ?_
   rintro e W3 ⟨rfl, s', own, h1, h2, -⟩
   have HJ3 := Lib.hid h1
   have HSZ3 := Lib.hid (Nat.le_trans HSZ4.out h2.size)
   clear h1 h2
   gi_wp2
   go_roundw
   case rel => exact ⟨k + 1, s', by omega, by go_num, HJ3.out, HSZ3.out⟩
   case measure => simp [intOf]; omega
  have e : k = n := by omega
  subst e
  gi_wp2
  go_end0
  exact ⟨⟨_, rfl⟩, s, HJ.out⟩
end
end Go.Proofs.YtpcgklagmcnhaaaGreat
namespace Go.Proofs.YtpcgklagmcnhaaaGreat
open Go.RowKit Go.Maps
theorem drawn_store {p : Program} {w w' : World} {at_ : Addr} {u : TypeId} {k : Addr} {v : Value} {b : Bool} {l : List Addr} (h : w.viewStore p at_ u k v b = .ok (w', l)) : w'.drawn = w.drawn := by
 unfold World.viewStore at h
 simp only [bind, Except.bind, pure, Except.pure] at h
 repeat' split at h
 all_goals first
  | (cases h; done)
  | (cases h; rfl)
theorem drawn_far {p : Program} {w w' : World} {a : Addr} {v : Value} {b : Bool} {l : List Addr} (h : w.farStore p a v b = .ok (w', l)) : w'.drawn = w.drawn := by
 unfold World.farStore at h
 split at h
 ·split at h
  ·rename_i q
   cases h
   exact drawn_store q
  cases h
 cases h
theorem drawn_ask {α : Type} : ∀ (x : Ask α) (w : World), w.drawn ≤ (w.ask x).2.drawn
 | .done _, w => Nat.le_refl _
 | .ask what range k, w => by
  unfold World.ask
  simp only
  split
  ·exact drawn_ask _ w
  have h2 := drawn_ask (k ((Question.extern what range).cut (w.tape w.drawn (Question.extern what range)))) { w with drawn := w.drawn + 1 }
  exact Nat.le_trans (Nat.le_succ _) h2
theorem drawn_sys (w : World) (c : Sys) : w.drawn ≤ (w.sys c).2.drawn := by
 have h := drawn_ask (Kernel.perform c w.os) w
 unfold World.sys
 split
 ·exact Nat.le_refl _
 rename_i q
 rw [q] at h
 exact h
theorem drawn_run {α : Type} {p : Program} : ∀ (m : Sem α) (w w' : World) (a : α), m.run p w = .ok a w' → w.drawn ≤ w'.drawn := by
 intro m
 induction m with
 | pure x => intro w w' a h; cases h; exact Nat.le_refl _
 | load m a k ih =>
  intro w w' x h
  simp only [Sem.run] at h
  repeat' split at h
  all_goals first | exact ih _ _ _ _ h | (cases h; done) | (have h2 := ih _ _ _ _ h; exact h2)
 | store m a v k ih =>
  intro w w' x h
  cases v
  all_goals simp only [Sem.run] at h
  all_goals first
   | (cases h; done)
   | skip
  all_goals
   split at h
   ·split at h
    ·cases h
    have h2 := ih _ _ _ h
    exact h2
   split at h
   ·rename_i q
    have h2 := ih _ _ _ h
    rw [drawn_far q] at h2
    exact h2
   cases h
 | new o k ih =>
  intro w w' x h
  have h2 := ih _ _ _ _ h
  exact h2
 | shape r k ih => intro w w' x h; exact ih _ _ _ _ h
 | freeze a n k ih =>
  intro w w' x h
  have h2 := ih (w.freeze a n) _ _ h
  have e : (w.freeze a n).drawn = w.drawn := by unfold World.freeze; split <;> rfl
  rwa [e] at h2
 | frozen a k ih => intro w w' x h; exact ih _ _ _ _ h
 | getObj r k ih =>
  intro w w' x h
  simp only [Sem.run] at h
  repeat' split at h
  all_goals first | exact ih _ _ _ _ h | (cases h; done) | (have h2 := ih _ _ _ _ h; exact h2)
 | setObj r o k ih =>
  intro w w' x h
  simp only [Sem.run] at h
  repeat' split at h
  all_goals first | (cases h; done) | (have h2 := ih _ _ _ h; exact h2)
 | choose q k ih =>
  intro w w' x h
  simp only [Sem.run] at h
  split at h
  ·exact ih _ _ _ _ h
  have h2 := ih _ _ _ _ h
  exact Nat.le_trans (Nat.le_succ _) h2
 | sys c k ih =>
  intro w w' x h
  have h2 := ih _ _ _ _ h
  exact Nat.le_trans (drawn_sys w c) h2
 | program k ih => intro w w' x h; exact ih _ _ _ _ h
 | mark m k ih => intro w w' x h; exact ih _ _ _ h
 | halt h => intro w w' x h; cases h
theorem grow_of {w w' : World} (h : Chg [] w w') (hd : w.drawn ≤ w'.drawn) : ∃ q os, w' = Go.Sort.grow (w.drewN q) os := by
 refine ⟨w'.drawn - w.drawn, w'.heap.extract w.heap.size w'.heap.size, ?_⟩
 have e1 := h.os
 have e2 := h.tape
 have e3 := h.output
 have hs := h.size
 have hh : w'.heap = w.heap ++ w'.heap.extract w.heap.size w'.heap.size := by
  apply Array.ext_getElem?
  intro i
  by_cases hi : i < w.heap.size
  ·rw [Array.getElem?_append_left hi]
   exact h.block i hi (by simp)
  rw [Array.getElem?_append_right (by omega)]
  by_cases hj : i < w'.heap.size
  ·simp [Array.getElem?_extract]
   rw [if_pos (by omega)]
   congr 1
   omega
  rw [Array.getElem?_eq_none (by omega), Array.getElem?_eq_none (by simp; omega)]
 unfold Go.Sort.grow World.drewN
 cases w
 cases w'
 simp only at *
 subst e1 e2 e3
 congr 1
 omega
end Go.Proofs.YtpcgklagmcnhaaaGreat
namespace Go.Proofs.YtpcgklagmcnhaaaGreat
open Go.RowKit Go.Maps
theorem wl_app_readD {ops : Array Oper} {rest : List Oper} {o : Oper} {a : Act} {Q : Exit → Act → World → Prop} {w : World} (hg : o.guard = none) (s x : Operand) (ho : o.op = .call { callee := .builtin .append, args := #[s, x], argTypes := #[31, 31] })
  {B : Nat} {v u : Value} {l m : List Int} (hs : a.eval s = v) (hx : a.eval x = u) (h1 : RowAt w B v l) (h2 : IntsAt w u m) (hB : B ≤ w.heap.size) (hn : l.length + m.length < 4294967296)
  (hK : ∀ v' w', RowAt w' B v' (l ++ m) → Chg (foot v) w w' → (∀ b ∈ foot v', b ∈ foot v ∨ w.heap.size ≤ b) → w.drawn ≤ w'.drawn → wpList Tryz.prog ops Q rest (a.put o.dst v') w') : wpList Tryz.prog ops Q (o :: rest) a w := by
 refine wpList_plain hg fun K hK' => ?_
 obtain ⟨v', w', hr, r1, r2, r3⟩ := run_app_read h1 h2 hB hn o.type
 unfold Oper.wp execOp
 simp only [ho, resolve, invoke, builtin, Sem.run_bind, Sem.run_pure, Result.andThen_ok, List.map_toArray, List.map_cons, List.map_nil, hs, hx, hr]
 exact hK' _ _ (hK v' w' r1 r2 r3 (drawn_run _ _ _ _ hr))
theorem sortI_d (v : Value) (l : List Int) (B : Nat) (w : World) (hn : l.length < 1000000000) (h : RowAt w B v l) :
  Calls Tryz.prog 31 #[v] w fun e w' => e = .returned (.tuple #[]) ∧ RowAt w' B v (l.mergeSort fun x y => decide (x ≤ y)) ∧ Chg v.ownBlock.toList w w' ∧ w.drawn ≤ w'.drawn := by
 obtain ⟨ao, c, rfl⟩ := h.shape
 by_cases h0 : l = []
 ·subst h0
  refine (Tryz.slices_Sort_int_none ao c w).mono ?_
  rintro e w' ⟨rfl, rfl⟩
  exact ⟨rfl, by rw [List.mergeSort_nil]; exact h, Chg.refl _ _, Nat.le_refl _⟩
 obtain ⟨g, cap, e⟩ := owns_some h.1 (List.length_pos_iff.2 h0)
 cases e
 have hl : (ints l).length = l.length := by simp [ints]
 have hown := h.1
 rw [← hl] at hown
 have hH : Go.Sort.Holds (Value.int .i64) w g 0 l.toArray := sorted_holds hown (by simp [ints])
 have hg : g < w.heap.size := owns_lt h.1 rfl
 refine (Tryz.slices_Sort_int g 0 _ l w hH hg (by omega)).mono ?_
 rintro e w' ⟨rfl, n, os, rfl⟩
 have hs : (l.mergeSort fun x y => decide (x ≤ y)).length = l.length := (List.mergeSort_perm _ _).length_eq
 have hso := sorted_owns (enc := Value.int .i64) (n := n) (os := os) (d := (l.mergeSort fun x y => decide (x ≤ y)).toArray) hown (by simp [hs, hl])
 refine ⟨rfl, ⟨?_, fun x hx => h.2.1 x ((List.mergeSort_perm _ _).mem_iff.1 hx), by rw [hs]; exact h.2.2⟩, ?_, Nat.le_add_right w.drawn n⟩
 ·rw [hl] at hso
  rw [hs]
  exact hso
 exact sorted_chg (Value.int .i64) w g n os _
theorem compactI_d (v : Value) (l : List Int) (B : Nat) (w : World) (hn : l.length < 1000000000) (h : RowAt w B v l) :
  Calls Tryz.prog 70 #[v] w fun e w' => ∃ v', e = .returned v' ∧ RowAt w' B v' (Go.Lib.compact l) ∧ Chg v.ownBlock.toList w w' ∧ w.drawn ≤ w'.drawn := by
 obtain ⟨ao, c, rfl⟩ := h.shape
 by_cases h0 : l = []
 ·subst h0
  refine (Tryz.slices_Compact_int_empty ao c w).mono ?_
  rintro e w' ⟨rfl, rfl⟩
  exact ⟨_, rfl, h, Chg.refl _ _, Nat.le_refl _⟩
 obtain ⟨g, cap, e⟩ := owns_some h.1 (List.length_pos_iff.2 h0)
 cases e
 have hl : (ints l).length = l.length := by simp [ints]
 have hown := h.1
 rw [← hl] at hown
 have hH : Go.Sort.Holds (Value.int .i64) w g 0 l.toArray := sorted_holds hown (by simp [ints])
 have hcap : l.length ≤ c := by
  rcases h.1.2 with ⟨e1, _⟩ | ⟨g', c', cur, e1, _, _, hnc, _⟩
  all_goals grind
 refine (Tryz.slices_Compact_int g 0 _ l w hH (by omega) hcap).mono ?_
 rintro e w' ⟨rfl, q, rfl⟩
 have hcl : (Go.Lib.compact l).length ≤ l.length := by
  unfold Go.Lib.compact Go.Lib.compactUpTo
  grind
 have hcm : ∀ x ∈ Go.Lib.compact l, x ∈ l := by
  intro x hx
  unfold Go.Lib.compact Go.Lib.compactUpTo at hx
  grind
 obtain ⟨D, hD⟩ : ∃ D, (Go.Lib.compact l ++ List.replicate (l.length - (Go.Lib.compact l).length) 0).toArray = D := ⟨_, rfl⟩
 have hDs : D.size = (ints l).length := by rw [← hD, hl]; simp; omega
 have hso := sorted_owns (enc := Value.int .i64) (n := q) (os := #[]) (d := D) hown hDs
 rw [hl] at hso
 have hpt := owns_take hso hcl
 have htk : (D.toList.map (Value.int .i64)).take (Go.Lib.compact l).length = ints (Go.Lib.compact l) := by
  rw [← hD, List.map_append, List.take_left' (by simp)]
  rfl
 rw [htk] at hpt
 have hw : Go.Sort.putRow (Value.int .i64) (Go.Sort.ahead w q) g 0 D = sortWorld (Value.int .i64) w g 0 q D #[] := by simp [sortWorld, Go.Sort.grow]; rfl
 rw [hD, hw]
 refine ⟨_, rfl, ⟨?_, fun x hx => h.2.1 x (hcm x hx), by grind⟩, ?_⟩
 ·exact hpt
 exact ⟨sorted_chg (Value.int .i64) w g q #[] D, Nat.le_add_right w.drawn q⟩
set_option maxRecDepth 100000 in
set_option maxHeartbeats 4000000 in
theorem vertices_d (v : Value) (l : List Plain.Lk) (w : World) (hl : l.length ≤ 100000000) (h : LksAt w v l) :
  Calls Tryz.prog 41 #[v] w fun e w' => ∃ ov, e = .returned ov ∧ RowAt w' w.heap.size ov (Plain.vertsK l) ∧ Chg [] w w' ∧ w.drawn ≤ w'.drawn := by
 obtain ⟨lo, cap, rfl, hm, hsm, hcell⟩ := h
 have HSM := Lib.hid hsm
 have HCE := Lib.hid hcell
 have HLE := Lib.hid (fun k => Plain.endsK_le (l := l) k)
 clear hsm hcell
 obtain ⟨B, hB⟩ : ∃ B, w.heap.size = B := ⟨_, rfl⟩
 have HB := Lib.hid hB
 rw [hB]
 clear hB
 go_enter Tryz.func41, Tryz.ntmps41
 go_wp2_with fail
 go_loopw [3, 8] (fun c3 iv wr => ∃ k : Nat, k ≤ l.length ∧ iv = .int .i64 k ∧ RowAt wr B c3 (Plain.endsK (l.take k)) ∧ Chg [] w wr ∧ w.drawn ≤ wr.drawn) (fun _ iv _ => l.length - (intOf iv).toNat)
 case atStart => exact ⟨0, Nat.zero_le _, rfl, rowNil' _ _, Chg.refl _ _, Nat.le_refl _⟩
 case round =>
  obtain ⟨k, hk, rfl, hr, hc, hdn⟩ := hrel
  have HDN := Lib.hid hdn
  clear hdn
  obtain ⟨uo, uc, rfl⟩ := hr.shape
  have HR := Lib.hid hr
  have HC := Lib.hid hc
  have hle := HLE.out k
  clear hr hc
  by_cases hlt : k < l.length
  ·obtain ⟨b, off, rfl, c0, c1, c2⟩ := HCE.out k hlt
   obtain ⟨hi1, hi2, -⟩ := HSM.out k hlt
   have d0 := HC.out.cel c0
   have d1 := HC.out.cel c1
   have d2 := HC.out.cel c2
   have HEL := Lib.hid (Plain.endsK_snoc hlt)
   obtain ⟨x, hx⟩ : ∃ x, (Plain.at0 l k).a = x := ⟨_, rfl⟩
   obtain ⟨y, hy⟩ : ∃ y, (Plain.at0 l k).b = y := ⟨_, rfl⟩
   obtain ⟨z, hz⟩ : ∃ z, (Plain.at0 l k).id = z := ⟨_, rfl⟩
   obtain ⟨M, hM⟩ : ∃ M, Plain.endsK (l.take k) = M := ⟨_, rfl⟩
   rw [hx] at d0 hi1 HEL
   rw [hy] at d1 hi2 HEL
   rw [hz] at d2
   rw [hM] at HR HEL hle ⊢
   clear c0 c1 c2 hx hy hz hM
   have CB := Lib.hid (((Chg.refl [] wr).alloc (.cells #[.int .i64 x, .int .i64 y, .int .i64 z] 50)).alloc (.cells #[.int .i64 x, .int .i64 y] 3))
   have HLI := Lib.hid (show IntsAt ((wr.alloc (.cells #[.int .i64 x, .int .i64 y, .int .i64 z] 50)).alloc (.cells #[.int .i64 x, .int .i64 y] 3)) (.slice (some ⟨wr.heap.size + 1, 0, none⟩) 2 2) [x, y] by have := lit_two (wr.alloc (.cells #[.int .i64 x, .int .i64 y, .int .i64 z] 50)) hi1 hi2; simpa using this)
   have HSZ := Lib.hid (show B ≤ ((wr.alloc (.cells #[.int .i64 x, .int .i64 y, .int .i64 z] 50)).alloc (.cells #[.int .i64 x, .int .i64 y] 3)).heap.size by rw [← HB.out]; exact Nat.le_trans HC.out.size CB.out.size)
   have hsum : M.length + [x, y].length < 4294967296 := by simp; omega
   go_wp2_with (at_builtin; refine wl_app_readD rfl _ _ rfl (B := B) (v := .slice uo M.length uc) rfl rfl (HR.out.chg CB.out (by simp)) HLI.out HSZ.out hsum ?_; intro v6 w6 r6 c6 f6 d6; have D6 := Lib.hid d6; have R6 := Lib.hid r6; have C6 := Lib.hid c6; clear r6 c6 f6 d6)
   go_roundw
   case rel => exact ⟨k + 1, by omega, by go_num, by rw [HEL.out]; exact R6.out, (HC.out.tr CB.out).trans C6.out (fun j hj => Or.inr (by
    have h1 := (HR.out.low j (by rw [← HR.out.foot]; exact hj)).1
    have := HB.out
    omega)), Nat.le_trans HDN.out D6.out⟩
   case measure => simp [intOf]; omega
  have e : k = l.length := by omega
  subst e
  rw [List.take_length] at HR hle ⊢
  have HV := Lib.hid (show Go.Lib.compact ((Plain.endsK l).mergeSort fun x y => decide (x ≤ y)) = Plain.vertsK l from rfl)
  obtain ⟨M, hM⟩ : ∃ M, Plain.endsK l = M := ⟨_, rfl⟩
  rw [hM] at HR hle HV ⊢
  have HML := Lib.hid (show M.length < 1000000000 by omega)
  clear hM hk hlt hle
  go_wp2_with fail
  refine (sortI_d _ M _ _ HML.out HR.out).mono ?_
  rintro e w5 ⟨rfl, hr5, hc5, hd5⟩
  have HD5 := Lib.hid (Nat.le_trans HDN.out hd5)
  clear hd5
  have hsl : (M.mergeSort fun x y => decide (x ≤ y)).length = M.length := (List.mergeSort_perm _ _).length_eq
  have HC5 := Lib.hid (show Chg [] w w5 from HC.out.trans hc5 (fun b hb => Or.inr (by have := (HR.out.low b hb).1; have := HB.out; omega)))
  obtain ⟨S, hS⟩ : ∃ S, (M.mergeSort fun x y => decide (x ≤ y)) = S := ⟨_, rfl⟩
  rw [hS] at hsl hr5 HV
  have HR5 := Lib.hid hr5
  have HSL := Lib.hid hsl
  clear hr5 hc5 hsl hS
  go_wp2_with fail
  refine (compactI_d _ S _ _ (by rw [HSL.out]; exact HML.out) HR5.out).mono ?_
  rintro e w6 ⟨v6, rfl, hr6, hc6, hd6⟩
  have HD6 := Lib.hid (Nat.le_trans HD5.out hd6)
  clear hd6
  rw [HV.out] at hr6
  have HC6 := Lib.hid (show Chg [] w w6 from HC5.out.trans hc6 (fun b hb => Or.inr (by have := (HR5.out.low b hb).1; have := HB.out; omega)))
  have HR6 := Lib.hid hr6
  clear hr6 hc6
  go_wp2
  go_ret
  exact ⟨_, rfl, HR6.out, HC6.out, HD6.out⟩
end Go.Proofs.YtpcgklagmcnhaaaGreat
namespace Go.Proofs.YtpcgklagmcnhaaaGreat
open Go.RowKit Go.Maps
set_option maxHeartbeats 4000000 in
theorem newCmp_any (kx ky : Int) (vx vy : Value) (lx ly : List Plain.Lk) (w : World) (hx : lx.length ≤ 100000000) (hy : ly.length ≤ 100000000) (h1 : LksAt w vx lx) (h2 : LksAt w vy ly) :
  Calls Tryz.prog 39 #[.agg #[.int .i64 kx, vx], .agg #[.int .i64 ky, vy]] w fun e w' => e = .returned (.int .i64 (Plain.cmpL (Plain.vertsK lx) (Plain.vertsK ly))) ∧ Chg [] w w' ∧ w.drawn ≤ w'.drawn := by
 have H1 := Lib.hid h1
 have H2 := Lib.hid h2
 obtain ⟨xo, xc, rfl, -⟩ := h1
 obtain ⟨yo, yc, rfl, -⟩ := h2
 obtain ⟨wb, hwb⟩ : ∃ wb, (w.alloc (.cells #[.int .i64 kx, .slice xo lx.length xc] 26)).alloc (.cells #[.int .i64 ky, .slice yo ly.length yc] 26) = wb := ⟨_, rfl⟩
 obtain ⟨t1, t2, t3⟩ := box_two w #[.int .i64 kx, .slice xo lx.length xc] #[.int .i64 ky, .slice yo ly.length yc] 26 26
 have HDB := Lib.hid (show w.drawn ≤ ((w.alloc (.cells #[.int .i64 kx, .slice xo lx.length xc] 26)).alloc (.cells #[.int .i64 ky, .slice yo ly.length yc] 26)).drawn from Nat.le_refl _)
 rw [hwb] at t1 t2 t3 HDB
 have HC := Lib.hid t3
 have a1 := (cell_of_row _ _ 1 _ _ _ t1).trans (show _ = some (Value.slice xo lx.length xc) from rfl)
 have b1 := (cell_of_row _ _ 1 _ _ _ t2).trans (show _ = some (Value.slice yo ly.length yc) from rfl)
 clear t1 t2 t3
 go_enter Tryz.func39, Tryz.ntmps39
 go_wp2_with fail
 clear hwb
 have hS0 : Chg [] wb wb.drew := (Chg.refl [] wb).drew
 refine wp_region_way (Chg [] wb) [0, 1, 3, 4] (Way.line [0, 1, 3, 4, 2, 5, 6, 7] .done) (by kernel_rfl) (by kernel_rfl) ?_
 simp only [Way.line]
 repeat
  first
   | (refine along_off rfl (by rfl) (by rfl) (fun _ _ _ h => h) hS0 ?_; simp only [Act.put, Z1, Z2, Z3, Z4, Z5, Z6])
   | (refine along_read (v := ?_) rfl (by rfl) (by rfl) (fun _ _ _ h => h) hS0 (fun w' hS' => ?_) ?_; rotate_left; (focus (have rd0 := hS'.cell a1 (by simp); have rd1 := hS'.cell b1 (by simp); clear hS'; go_simp; try with_reducible rfl)); simp only [Act.put, Z1, Z2, Z3, Z4, Z5, Z6])
   | (refine along_skip rfl (by rfl) (by rfl) hS0 ?_; simp only [Act.put, Z1, Z2, Z3, Z4, Z5, Z6])
 refine along_op rfl (by rfl) (by rfl) (fun K hK => ?_)
 go_simp
 refine (vertices_d _ lx _ hx ((H1.out.fresh HC.out).fresh hS0)).mono ?_
 rintro e w2 ⟨xv, rfl, hxv, hc2, hd2⟩
 have HX := Lib.hid hxv
 have HC2 := Lib.hid (hS0.trans hc2 (fun _ h => nomatch h))
 have HD2 := Lib.hid (Nat.le_trans (Nat.le_trans HDB.out (Nat.le_succ _)) hd2)
 obtain ⟨uo, uc, rfl⟩ := hxv.shape
 refine hK.out _ _ (fun _ => HC2.out) ?_
 clear hK K hxv hc2 hd2 hS0
 try simp only [Act.put, Z1, Z2, Z3, Z4, Z5, Z6]
 refine along_op rfl (by rfl) (by rfl) (fun K hK => ?_)
 go_simp
 refine (vertices_d _ ly _ hy ((H2.out.fresh HC.out).fresh HC2.out)).mono ?_
 rintro e w3 ⟨yv, rfl, hyv, hc3, hd3⟩
 have HY := Lib.hid hyv
 have HX3 := Lib.hid (HX.out.chg hc3 (by simp))
 have HC3 := Lib.hid (HC2.out.trans hc3 (fun _ h => nomatch h))
 have HD3 := Lib.hid (Nat.le_trans HD2.out hd3)
 obtain ⟨vo, vc, rfl⟩ := hyv.shape
 refine hK.out _ _ (fun _ => HC3.out) ?_
 clear hK K hyv hc3 hd3
 try simp only [Act.put, Z1, Z2, Z3, Z4, Z5, Z6]
 refine along_op rfl (by rfl) (by rfl) (fun K hK => ?_)
 go_simp
 refine (compareL_any _ _ _ _ w3 HX3.out.ints HY.out.ints).mono ?_
 rintro e w4 ⟨rfl, rfl⟩
 refine hK.out _ _ (fun _ => HC3.out) ?_
 clear hK K
 try simp only [Act.put, Z1, Z2, Z3, Z4, Z5, Z6]
 refine along_op rfl (by rfl) (by rfl) (fun K hK => ?_)
 go_simp
 refine hK.out _ _ (fun _ => HC3.out) ?_
 clear hK K
 try simp only [Act.put, Z1, Z2, Z3, Z4, Z5, Z6]
 refine along_done ?_
 go_wp2
 go_ret
 exact ⟨rfl, HC.out.tr HC3.out, HD3.out⟩
end Go.Proofs.YtpcgklagmcnhaaaGreat
