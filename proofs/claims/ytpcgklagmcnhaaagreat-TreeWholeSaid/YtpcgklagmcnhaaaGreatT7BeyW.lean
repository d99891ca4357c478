/- (*tree.Tree).Beyond of a link that stands: contract. Conditions: a tree as it lies. -/
import Derived.Test.YtpcgklagmcnhaaaGreatT7NewW
namespace Go.Proofs.YtpcgklagmcnhaaaGreat
open Go.RowKit Go.Maps
theorem elemSt : Elem 79 78 (.agg #[.int .i64 0, .int .i64 0]) 2 16 := ⟨Tryz.underlying79, by kernel_rfl, rfl, by decide, by decide⟩
def stCells (l : List (Nat × Int)) : List Value := l.flatMap fun p => [.int .i64 p.1, .int .i64 p.2]
def StRow (w : World) (B : Nat) (v : Value) (l : List (Nat × Int)) : Prop := w.ownsRow B 78 2 v l.length (stCells l)
theorem StRow.shape {w : World} {B : Nat} {v : Value} {l : List (Nat × Int)} (h : StRow w B v l) : ∃ ao c, v = .slice ao l.length c := owns_shape h
theorem StRow.cell {w : World} {B n c j : Nat} {ao : Option Addr} {l : List (Nat × Int)} (h : StRow w B (.slice ao n c) l) (hj : j < l.length) : ∃ g, ao = some ⟨g, 0, none⟩ ∧ w.cell? ⟨g, j * 2, none⟩ = some (.int .i64 (l.getD j default).1) ∧ w.cell? ⟨g, j * 2 + 1, none⟩ = some (.int .i64 (l.getD j default).2) := by
 rcases h.2 with ⟨q, h0⟩ | ⟨g, cap, cur, q, hb, hh, hnc, hcm, hcs, hys⟩
 ·omega
 cases q
 have hat : ∀ i, i < 2 → (stCells l)[j * 2 + i]? = [Value.int .i64 (l.getD j default).1, .int .i64 (l.getD j default).2][i]? := fun i hi => by
  have h1 := flatMap_at (enc := fun t : Nat × Int => [Value.int .i64 t.1, .int .i64 t.2]) (k := 2) (fun _ => rfl) l (j * 2 + i) (by omega)
  rw [show (j * 2 + i) / 2 = j by omega, show (j * 2 + i) % 2 = i by omega] at h1
  rw [show stCells l = l.flatMap fun t : Nat × Int => [Value.int .i64 t.1, .int .i64 t.2] from rfl, h1]
  simp [List.getD, hj]
 have hc : ∀ i, i < 2 → w.cell? ⟨g, j * 2 + i, none⟩ = [Value.int .i64 (l.getD j default).1, .int .i64 (l.getD j default).2][i]? := fun i hi => by
  rw [cell_of_row w _ (j * 2 + i) cur 78 (0, 0) hh, ← hat i hi, ← hys, List.getElem?_take, if_pos (by omega)]
  simp
 exact ⟨g, rfl, hc 0 (by decide), hc 1 (by decide)⟩
theorem StRow.pop {w : World} {B g c : Nat} {l : List (Nat × Int)} {p : Nat × Int} (h : StRow w B (.slice (some ⟨g, 0, none⟩) (l.length + 1) c) (l ++ [p])) : StRow w B (.slice (some ⟨g, 0, none⟩) l.length c) l := by
 unfold StRow at h
 rw [List.length_append] at h
 have h1 := owns_short h (m := l.length) (Nat.le_succ _)
 have e : (stCells (l ++ [p])).take (l.length * 2) = stCells l := by
  unfold stCells
  rw [List.flatMap_append, List.take_left']
  rw [flatMap_len (k := 2) (fun _ => rfl)]
 rw [e] at h1
 exact h1
theorem StRow.one (w : World) (m : Nat) (u : Int) : StRow (w.alloc (.cells #[.int .i64 m, .int .i64 u] 78)) w.heap.size (.slice (some ⟨w.heap.size, 0, none⟩) 1 1) [(m, u)] :=
 World.ownsRow_lit w #[.int .i64 m, .int .i64 u] 1 (Nat.le_refl _) (by decide) rfl
theorem wl_st {ops : Array Oper} {rest : List Oper} {o : Oper} {a : Act} {Q : Exit → Act → World → Prop} {w w0 : World} (hg : o.guard = none) (s x : Operand) (ho : o.op = .call { callee := .builtin .append, args := #[s, x], argTypes := #[79, 79] })
  {B : Nat} {v : Value} {l : List (Nat × Int)} (p : Nat × Int) (hs : a.eval s = v) (hx : a.eval x = .slice (some ⟨w0.heap.size, 0, none⟩) 1 1) (h : StRow w0 B v l) (hB : B ≤ w0.heap.size) (hn : l.length < 4294967290) (hw : w = w0.alloc (.cells #[.int .i64 p.1, .int .i64 p.2] 78))
  (hK : ∀ v' w', StRow w' B v' (l ++ [p]) → Chg v.ownBlock.toList w0 w' → (∀ b ∈ v'.ownBlock.toList, b ∈ v.ownBlock.toList ∨ w0.heap.size ≤ b) → wpList Tryz.prog ops Q rest (a.put o.dst v') w') : wpList Tryz.prog ops Q (o :: rest) a w := by
 subst hw
 have hc := (Chg.refl [] w0).alloc (.cells #[.int .i64 p.1, .int .i64 p.2] 78)
 have h' : StRow _ B v l := owns_chg h hc (by simp)
 refine wl_spread elemSt hg s x ho hs hx h' (B' := w0.heap.size) (StRow.one w0 p.1 p.2) (Nat.le_trans hB hc.size) (by intro u hu; simp [stCells] at hu; rcases hu with rfl | rfl <;> rfl) (by simp; omega) fun v' w' r1 r2 r3 => ?_
 refine hK v' w' ?_ ((hc.mono (by simp)).trans r2 fun j hj => Or.inl hj) (fun b hb => (r3 b hb).imp id fun q => Nat.le_trans hc.size q)
 unfold StRow
 rw [List.length_append]
 have e : stCells (l ++ [p]) = stCells l ++ stCells [p] := by unfold stCells; rw [List.flatMap_append]
 rw [e]
 exact r1
namespace Plain
def beyV (ms : List Nd) (rs : List T3) (i : Nat) (id : Int) : List Int := if id < 0 then beyM ms rs i id else [id]
def edJ (L : List Lk) (j : Nat) : List Int := (idsL (L.take j)).filter fun v => decide (0 ≤ v)
def outJ (L : List Lk) (u : Int) (f : Int → Nat) (j : Nat) : List (Nat × Int) := (((idsL (L.take j)).filter fun v => decide (v < 0)).filter fun w => decide (w ≠ u)).map fun w => (f w, w)
theorem idsL_snoc {L : List Lk} {j : Nat} (h : j < L.length) : idsL (L.take (j + 1)) = idsL (L.take j) ++ [(at0 L j).id] := by
 rw [lk_snoc h]; simp [idsL]
theorem edJ_put {L : List Lk} {j : Nat} (h : j < L.length) (h0 : 0 ≤ (at0 L j).id) : edJ L (j + 1) = edJ L j ++ [(at0 L j).id] := by
 unfold edJ
 rw [idsL_snoc h, List.filter_append, List.filter_cons, if_pos (decide_eq_true h0)]
 rfl
theorem edJ_skip {L : List Lk} {j : Nat} (h : j < L.length) (h0 : ¬ 0 ≤ (at0 L j).id) : edJ L (j + 1) = edJ L j := by
 unfold edJ
 rw [idsL_snoc h, List.filter_append, List.filter_cons, if_neg (by simpa using h0)]
 simp
theorem outJ_put {L : List Lk} {u : Int} {f : Int → Nat} {j : Nat} (h : j < L.length) (h0 : (at0 L j).id < 0) (h1 : (at0 L j).id ≠ u) : outJ L u f (j + 1) = outJ L u f j ++ [(f (at0 L j).id, (at0 L j).id)] := by
 unfold outJ
 rw [idsL_snoc h, List.filter_append, List.filter_cons, if_pos (decide_eq_true h0), List.filter_nil, List.filter_append, List.filter_cons, if_pos (decide_eq_true h1), List.map_append]
 rfl
theorem outJ_skip {L : List Lk} {u : Int} {f : Int → Nat} {j : Nat} (h : j < L.length) (h0 : ¬ (at0 L j).id < 0 ∨ (at0 L j).id = u) : outJ L u f (j + 1) = outJ L u f j := by
 unfold outJ
 rw [idsL_snoc h, List.filter_append, List.filter_append]
 rcases h0 with q | q
 ·rw [show ([(at0 L j).id].filter fun v => decide (v < 0)) = [] by rw [List.filter_cons, if_neg (by simpa using q)]; rfl]
  simp
 rw [show (([(at0 L j).id].filter fun v => decide (v < 0)).filter fun w => decide (w ≠ u)) = [] by
  rw [List.filter_eq_nil_iff]
  intro x hx
  rw [List.mem_singleton.1 (List.mem_filter.1 hx).1]
  simpa using q]
 simp
theorem beyF_nil (ed vl : Nat → List Int) (mt : Nat → Int → Nat) (f : Nat) (es : List Int) : beyF ed vl mt f [] es = es := by cases f <;> rfl
theorem beyF_cons {ms : List Nd} {rs : List T3} {f : Nat} {p : Nat × Int} {todo : List (Nat × Int)} {es : List Int} : beyF (edM ms) (vlM ms) (mtM rs) (f + 1) (p :: todo) es = beyF (edM ms) (vlM ms) (mtM rs) f ((outJ (nd0 ms p.1).l p.2 (mtM rs p.1) (nd0 ms p.1).l.length).reverse ++ todo) (es ++ edJ (nd0 ms p.1).l (nd0 ms p.1).l.length) := by
 unfold outJ edJ
 rw [List.take_length]
 rfl
theorem TreeP.mateV {E : List Int} {ms : List Nd} {rs : List T3} (h : TreeP E ms rs) {i : Nat} {v : Int} (hi : i < ms.length) (hv : v < 0) (hiv : v ∈ idsL (nd0 ms i).l) : Plain.mateV rs i v = ((mtM rs i v : Int), true) := by
 obtain ⟨h1, h2, h3, h4, h5⟩ := h.mt hi hv hiv
 unfold Plain.mateV
 rcases h5 with ⟨e1, e2⟩ | ⟨e1, e2⟩
 ·rw [if_pos e1.symm, e2]
 rw [if_neg (by rw [e1]; omega), if_pos e2.symm, e1]
theorem Bl_pos {s : Int → Nat → Bool} {n m : Nat} {u : Int} (h : m < n) : 1 ≤ (Bl s n m u).length := List.length_pos_of_mem (show m ∈ Bl s n m u from List.mem_filter.2 ⟨List.mem_range.2 h, by simp⟩)
theorem sum_len {s : Int → Nat → Bool} {n : Nat} : ∀ {todo : List (Nat × Int)}, (∀ p ∈ todo, p.1 < n) → todo.length ≤ (todo.map fun p => (Bl s n p.1 p.2).length).sum
 | [], _ => Nat.le_refl _
 | p :: todo, h => by
  have ih := sum_len (s := s) (todo := todo) fun q hq => h q (by simp [hq])
  have := Bl_pos (s := s) (u := p.2) (h p (by simp))
  rw [List.map_cons, List.sum_cons, List.length_cons]
  omega
end Plain
theorem tmate_at (pb : Nat) (v ev : Value) (rs : List Plain.T3) (B : Nat) (i id : Int) (w : World) (h0 : w.heap[pb]? = some (.cells #[v, ev] 73 (0, 0))) (hr : T2Row w B ev rs) (hid : id < 0) (hk : (-1 - id).toNat < rs.length) (hn : rs.length ≤ 1000000) :
  Calls Tryz.prog 9 #[.pointer (some ⟨pb, 0, none⟩), .int .i64 i, .int .i64 id] w fun e w' => e = .returned (.tuple #[.int .i64 (Plain.mateV rs i id).1, .bool (Plain.mateV rs i id).2]) ∧ Chg [] w w' := by
 obtain ⟨k, rfl⟩ : ∃ k : Nat, id = -1 - (k : Int) := ⟨(-1 - id).toNat, by omega⟩
 rw [show (-1 - (-1 - (k : Int))).toNat = k by omega] at hk
 exact tmate_any pb v ev rs B i k w h0 hr hk hn
set_option maxRecDepth 100000 in
set_option maxHeartbeats 8000000 in
theorem tbeyond_any (pb : Nat) (v ev : Value) (vs : List Value) (E : List Int) (ms : List Plain.Nd) (rs : List Plain.T3) (B : Nat) (w : World) (H : Plain.TreeP E ms rs) (h0 : w.heap[pb]? = some (.cells #[v, ev] 73 (0, 0))) (hn : NdRow w B v vs ms) (hr : T2Row w B ev rs) (hml : ms.length ≤ 100000) (hE : E.length ≤ 100000) (hrs : rs.length ≤ 100000) (hll : ∀ i, i < ms.length → (Plain.nd0 ms i).l.length ≤ 100000)
  (i : Nat) (hi : i < ms.length) (id : Int) (hid : id ∈ Plain.idsL (Plain.nd0 ms i).l) :
  Calls Tryz.prog 10 #[.pointer (some ⟨pb, 0, none⟩), .int .i64 i, .int .i64 id] w fun e w' => ∃ ov l, e = .returned (.tuple #[ov, .bool true]) ∧ RowAt w' w.heap.size ov l ∧ l.Pairwise (· ≤ ·) ∧ l.Perm (Plain.beyV ms rs i id) ∧ Chg [] w w' := by
 have HH := Lib.hid H
 have HN := Lib.hid hn
 have HR := Lib.hid hr
 have HT := Lib.hid h0
 have HLL := Lib.hid hll
 have HID := Lib.hid hid
 obtain ⟨no, nc, rfl⟩ := hn.shape
 obtain ⟨ng, rfl, n0, n1, -⟩ := hn.some hi
 obtain ⟨hkI, hkr⟩ := hn.row i hi
 have HKR := Lib.hid hkr
 obtain ⟨xo, xc, ex⟩ := hkr.shape
 rw [ex] at n1 HKR
 have t0 := (cell_of_row _ _ 0 _ _ _ h0).trans (show _ = some (Value.slice (some ⟨ng, 0, none⟩) ms.length nc) from rfl)
 have hlen := hll i hi
 obtain ⟨N, hN⟩ : ∃ N, Plain.nd0 ms i = N := ⟨_, rfl⟩
 have HNN := Lib.hid hN
 rw [hN] at n0 n1 HKR hkI hlen HID
 have I64id : I64 id := by
  obtain ⟨x, hx, rfl⟩ := List.mem_map.1 HID.out
  exact (HKR.out.2.1 x hx).2.2
 have hany : (N.l.any fun x => x.id == id) = true := by
  rw [List.any_eq_true]
  obtain ⟨x, hx, rfl⟩ := List.mem_map.1 HID.out
  exact ⟨x, hx, by simp⟩
 have hii : (i : Int) < ms.length := by omega
 clear hn hr h0 hll hid hkr ex hN H
 go_enter Tryz.func10, Tryz.ntmps10
 go_wp2_with fail
 refine (thas_any _ id _ N.l _ HKR.out.lks).mono ?_
 rw [hany]
 rintro e w2 ⟨rfl, hc2⟩
 have HC2 := Lib.hid hc2
 clear hc2 n0 n1
 by_cases hneg : id < 0
 ·obtain ⟨hm1, hm2, hm3, hm4, -⟩ := HH.out.mt hi hneg (by rw [HNN.out]; exact HID.out)
  have HMV := Lib.hid (HH.out.mateV hi hneg (by rw [HNN.out]; exact HID.out))
  obtain ⟨mt, hmt⟩ : ∃ mt, Plain.mtM rs i id = mt := ⟨_, rfl⟩
  have HMT := Lib.hid hmt
  rw [hmt] at hm1 hm2 hm3 HMV
  have HM3 := Lib.hid hm3
  have HT2 := Lib.hid (HC2.out.hp HT.out)
  clear hmt hm3
  go_wp2_with fail
  refine (tmate_at pb _ ev rs B i id _ HT2.out (owns_chg HR.out HC2.out (by simp)) hneg hm4 (by omega)).mono ?_
  rw [HMV.out]
  rintro e w3 ⟨rfl, hc3⟩
  have HC3 := Lib.hid (HC2.out.tr hc3)
  obtain ⟨s, hs, hu, hrun⟩ := HH.out.bey
  have HU := Lib.hid hu
  have HRUN := Lib.hid hrun
  have HBV := Lib.hid (show Plain.beyV ms rs i id = Plain.beyF (Plain.edM ms) (Plain.vlM ms) (Plain.mtM rs) ms.length [(mt, id)] [] by
   unfold Plain.beyV Plain.beyM
   rw [if_pos hneg, HMT.out])
  have HBL := Lib.hid (show (Plain.beyV ms rs i id).length ≤ E.length by
   have h1 := (HH.out.sides hi hneg (by rw [HNN.out]; exact HID.out)).length_eq
   rw [List.length_append] at h1
   unfold Plain.beyV
   rw [if_pos hneg]
   omega)
  have HS1 := Lib.hid (StRow.one w3 mt id)
  have HA1 := Lib.hid ((Chg.refl [] w3).alloc (.cells #[.int .i64 mt, .int .i64 id] 78))
  clear hc3 hs hu hrun HC2 HT2 HMV hm4 t0 hany I64id hkI hm2 hlen
  go_wp2_with fail
  go_loopg [8, 11] ms.length (fun fuel c8 c11 wr => fuel ≤ ms.length ∧ ∃ (todo : List (Nat × Int)) (es : List Int), RowAt wr w.heap.size c8 es ∧ StRow wr w.heap.size c11 todo.reverse ∧ Hid (Plain.beyF (Plain.edM ms) (Plain.vlM ms) (Plain.mtM rs) fuel todo es = Plain.beyV ms rs i id) ∧ (∀ p ∈ todo, p.1 < ms.length ∧ p.2 < 0 ∧ p.2 ∈ Plain.idsL (Plain.nd0 ms p.1).l) ∧ (todo.map fun p => (Plain.Bl s ms.length p.1 p.2).length).sum ≤ fuel ∧ Chg [] w wr)
  case atStart => exact ⟨Nat.le_refl _, [(mt, id)], [], rowNil' _ _, (owns_base HS1.out HC3.out.size), Lib.hid HBV.out.symm, (fun p hp => by rw [List.mem_singleton.1 hp]; exact ⟨hm1, hneg, HM3.out⟩), by simpa using Plain.Bl_len s ms.length mt id, HC3.out.tr HA1.out⟩
  case round =>
   obtain ⟨hf, todo, es, hes, hst, HBE, hval, hsum, hc⟩ := hrel
   have HES := Lib.hid hes
   have HST := Lib.hid hst
   have HV := Lib.hid hval
   have HC := Lib.hid hc
   have HSUM := Lib.hid hsum
   have hel : es.length ≤ 100000 := by
    have h1 := (HRUN.out gk todo es hval hsum).length_eq
    rw [HBE.out, List.length_append] at h1
    have := HBL.out
    omega
   have htl : todo.length ≤ 100000 := by have := Plain.sum_len (s := s) (n := ms.length) fun p hp => (hval p hp).1; omega
   obtain ⟨eo, ec, rfl⟩ := hes.shape
   obtain ⟨so, sc, rfl⟩ := hst.shape
   rw [List.length_reverse] at HST ⊢
   have HFF := Lib.hid hf
   clear hes hst hval hsum hc hm1 hf
   cases todo with
   | nil =>
    have HBE2 := Lib.hid (show es = Plain.beyV ms rs i id by rw [← HBE.out, Plain.beyF_nil])
    go_wp2_with fail
    refine (sortI_any _ es w.heap.size _ (by omega) HES.out).mono ?_
    rintro e w5 ⟨rfl, hr5, hc5⟩
    have hl5 : (es.mergeSort fun x y => decide (x ≤ y)).length = es.length := List.length_mergeSort _
    have HR5 := Lib.hid hr5
    have HC5 := Lib.hid (HC.out.trans hc5 fun j hj => Or.inr (HES.out.low j (by simpa using hj)).1)
    clear hr5 hc5
    go_wp2
    refine bodyPost_ret (v := .tuple #[.slice eo es.length ec, .bool true]) (by simp [results, Tryz.results10, go_sem]) rfl ?_
    refine ⟨_, _, rfl, HR5.out, ?_, by rw [← HBE2.out]; exact List.mergeSort_perm _ _, HC5.out⟩
    have := List.pairwise_mergeSort (le := fun x y : Int => decide (x ≤ y)) (fun a b c h1 h2 => by simp at *; omega) (fun a b => by simp; omega) es
    exact this.imp fun h => of_decide_eq_true h
   | cons p rest =>
    obtain ⟨m, u⟩ := p
    obtain ⟨hm, hu0, hmu⟩ := HV.out (m, u) (by simp)
    have hm : m < ms.length := hm
    have hu0 : u < 0 := hu0
    have hs2 := HSUM.out
    rw [List.map_cons, List.sum_cons] at hs2
    have HUL := Lib.hid (HU.out m u hm hu0 hmu).length_eq
    obtain ⟨f, rfl⟩ : ∃ f, gk = f + 1 := ⟨gk - 1, by have := Plain.Bl_pos (s := s) (u := u) hm; dsimp only at hs2; omega⟩
    have HSUM2 := Lib.hid (show (((Plain.outJ (Plain.nd0 ms m).l u (Plain.mtM rs m) (Plain.nd0 ms m).l.length).reverse ++ rest).map fun p => (Plain.Bl s ms.length p.1 p.2).length).sum ≤ f from by
     have h2 := HUL.out
     rw [List.length_cons, List.length_flatMap] at h2
     unfold Plain.outJ
     rw [List.take_length, List.map_append, List.sum_append, List.map_reverse, List.sum_reverse, List.map_map]
     have e : ((fun p : Nat × Int => (Plain.Bl s ms.length p.1 p.2).length) ∘ fun w => (Plain.mtM rs m w, w)) = fun w => (Plain.Bl s ms.length (Plain.mtM rs m w) w).length := rfl
     rw [e]
     unfold Plain.vlM at h2
     dsimp only at hs2
     omega)
    rw [List.reverse_cons, List.length_cons] at HST
    have h1l : ((rest.length + 1 : Nat) : Int) = rest.length + 1 := by omega
    have hrl : rest.length ≤ 100000 := by simp at htl; omega
    obtain ⟨sg, rfl, s0, s1⟩ := HST.out.cell (j := rest.length) (by simp)
    have e0 : (rest.reverse ++ [(m, u)]).getD rest.length default = (m, u) := by
     rw [List.getD_eq_getElem?_getD, List.getElem?_append_right (by simp)]
     simp
    rw [e0] at s0 s1
    have HPOP := Lib.hid (show StRow wr w.heap.size (.slice (some ⟨sg, 0, none⟩) rest.length sc) rest.reverse from by
     have := HST.out
     rw [show rest.length = rest.reverse.length by simp] at this ⊢
     exact this.pop)
    have hcap : rest.length + 1 ≤ sc := by
     rcases HST.out.2 with ⟨q, -⟩ | ⟨g', cap', cur, q, -, -, h3, -, -⟩
     ·cases q
     simp only [Value.slice.injEq] at q
     obtain ⟨-, -, rfl⟩ := q
     simpa using h3
    rw [Plain.beyF_cons] at HBE
    have HCX := Lib.hid ((Chg.refl [] wr).alloc (.cells #[.int .i64 m, .int .i64 u] 78))
    have HBX := Lib.hid (heap_alloc_new wr (.cells #[.int .i64 m, .int .i64 u] 78))
    have HCR := Lib.hid (HC.out.tr HCX.out)
    have b0 := (cell_of_row _ _ 0 _ _ _ HBX.out).trans (show _ = some (Value.int .i64 m) from rfl)
    have t0 := (cell_of_row _ _ 0 _ _ _ (HCR.out.hp HT.out)).trans (show _ = some (Value.slice (some ⟨ng, 0, none⟩) ms.length nc) from rfl)
    have HNR := Lib.hid (HN.out.fresh HCR.out)
    obtain ⟨ng2, eg2, -, n1, -⟩ := HNR.out.some hm
    simp only [Option.some.injEq, Addr.mk.injEq] at eg2
    obtain ⟨rfl, -⟩ := eg2
    obtain ⟨hkI2, hkr2⟩ := HN.out.row m hm
    obtain ⟨lo, lc, ex2⟩ := hkr2.shape
    rw [ex2] at n1 hkr2
    have hl2 := HLL.out m hm
    obtain ⟨M, hM⟩ : ∃ M, Plain.nd0 ms m = M := ⟨_, rfl⟩
    have HMM := Lib.hid hM
    rw [hM] at n1 hkr2 hl2 HBE HSUM2
    have HLK := Lib.hid hkr2
    have hmi : (m : Int) < ms.length := by omega
    clear e0 hmu hkI2 hkr2 ex2 hM hs2 htl
    go_wp2_with fail
    generalize hwx : wr.alloc (.cells #[.int .i64 m, .int .i64 u] 78) = wx at *
    have hS0 : Chg [] wx wx.drew := (Chg.refl [] wx).drew
    refine wp_region_way (Chg [] wx) [0, 1, 2, 3, 4, 5, 6, 7, 8, 9, 10] (Way.line [0, 1, 2, 3, 4, 5, 6, 7, 8, 9, 10] .done) (by kernel_rfl) (by kernel_rfl) ?_
    simp only [Way.line]
    repeat
     first
      | (refine along_off rfl (by rfl) (by rfl) (fun _ _ _ h => h) hS0 ?_; simp only [Act.put, Z1, Z2, Z3, Z4, Z5, Z6])
      | (refine along_read (v := ?_) rfl (by rfl) (by rfl) (fun _ _ _ h => h) hS0 (fun w' hS' => ?_) ?_; rotate_left; (focus (have rd0 := hS'.cell t0 (by simp); have rd1 := hS'.cell b0 (by simp); have rd2 := hS'.cell n1 (by simp); clear hS'; go_simp; try with_reducible rfl)); simp only [Act.put, Z1, Z2, Z3, Z4, Z5, Z6])
      | (refine along_skip rfl (by rfl) (by rfl) hS0 ?_; simp only [Act.put, Z1, Z2, Z3, Z4, Z5, Z6])
    refine along_done ?_
    have HCW := Lib.hid (HCR.out.tr hS0)
    have HBW := Lib.hid (hS0.hp HBX.out)
    have HES2 := Lib.hid ((HES.out.chg HCX.out (by simp)).chg hS0 (by simp))
    have HSG := Lib.hid (show sg < wr.heap.size from (HPOP.out.lt sg rfl).2)
    have HPO2 := Lib.hid (show StRow wx.drew w.heap.size (.slice (some ⟨sg, 0, none⟩) rest.length sc) rest.reverse from owns_chg (owns_chg HPOP.out HCX.out (by simp)) hS0 (by simp))
    have HBZ := Lib.hid (show w.heap.size ≤ wr.heap.size from HC.out.size)
    have HBB := Lib.hid (lt_of_block HBX.out)
    obtain ⟨tb, htb⟩ : ∃ b, wr.heap.size = b := ⟨_, rfl⟩
    rw [htb] at HBW HBZ HBB HSG ⊢
    have HOUTL := Lib.hid (show ∀ j, (Plain.outJ M.l u (Plain.mtM rs m) j).length ≤ M.l.length from fun j => by
     unfold Plain.outJ
     rw [List.length_map]
     refine Nat.le_trans (List.length_filter_le _ _) (Nat.le_trans (List.length_filter_le _ _) ?_)
     unfold Plain.idsL
     rw [List.length_map, List.length_take]
     omega)
    have HEDL := Lib.hid (show ∀ j, (Plain.edJ M.l j).length ≤ M.l.length from fun j => by
     unfold Plain.edJ
     refine Nat.le_trans (List.length_filter_le _ _) ?_
     unfold Plain.idsL
     rw [List.length_map, List.length_take]
     omega)
    clear hS0 t0 b0 n1 HCX HBX HES HPOP HNR HCR s0 s1 hcap HST HSUM hwx htb HC
    generalize wx.drew = wy at *
    go_wp2_with fail
    go_loopw [8, 11, 83] (fun c8 c11 iv wz => ∃ j : Nat, j ≤ M.l.length ∧ iv = .int .i64 j ∧ RowAt wz w.heap.size c8 (es ++ Plain.edJ M.l j) ∧ StRow wz w.heap.size c11 (rest.reverse ++ Plain.outJ M.l u (Plain.mtM rs m) j) ∧ wz.heap[tb]? = some (.cells #[.int .i64 m, .int .i64 u] 78 (0, 0)) ∧ (∀ b ∈ c11.ownBlock.toList, b ≠ tb) ∧ Chg [] w wz) (fun _ _ iv _ => M.l.length - (intOf iv).toNat)
    case atStart => exact ⟨0, Nat.zero_le _, rfl, by simpa [Plain.edJ, Plain.idsL] using HES2.out, by simpa [Plain.outJ, Plain.idsL] using HPO2.out, HBW.out, (fun b hb => by have h1 := HSG.out; have h2 : b = sg := (by simpa [Value.ownBlock] using hb); omega), HCW.out⟩
    case round =>
     obtain ⟨j, hj, rfl, hr1, hr2, hbx, hbn, hc⟩ := hrel
     have H1 := Lib.hid hr1
     have H2 := Lib.hid hr2
     have HBX := Lib.hid hbx
     have HBN := Lib.hid hbn
     have HC := Lib.hid hc
     obtain ⟨xo1, xc1, rfl⟩ := hr1.shape
     obtain ⟨yo1, yc1, rfl⟩ := hr2.shape
     obtain ⟨K1, hK1⟩ : ∃ K, es ++ Plain.edJ M.l j = K := ⟨_, rfl⟩
     obtain ⟨K2, hK2⟩ : ∃ K, rest.reverse ++ Plain.outJ M.l u (Plain.mtM rs m) j = K := ⟨_, rfl⟩
     have hl1 : K1.length ≤ 200000 := by have := HEDL.out j; rw [← hK1, List.length_append]; omega
     have hl2' : K2.length ≤ 200000 := by have := HOUTL.out j; rw [← hK2, List.length_append, List.length_reverse]; omega
     have HK1 := Lib.hid hK1
     have HK2 := Lib.hid hK2
     rw [hK1] at H1 ⊢
     rw [hK2] at H2 HBN ⊢
     clear hr1 hr2 hbn hc hK1 hK2
     by_cases hjl : j < M.l.length
     ·obtain ⟨lo', lc', el, -, hsm2, hcell⟩ := (HLK.out.fresh HC.out).lks
      simp only [Value.slice.injEq] at el
      obtain ⟨rfl, -, rfl⟩ := el
      obtain ⟨lb, loff, rfl, q0, q1, q2⟩ := hcell j hjl
      have HI := Lib.hid (hsm2 j hjl)
      have HP1 := Lib.hid (fun h => Plain.edJ_put (L := M.l) hjl h)
      have HP2 := Lib.hid (fun h => Plain.edJ_skip (L := M.l) hjl h)
      have HP3 := Lib.hid (fun h1 h2 => Plain.outJ_put (L := M.l) (u := u) (f := Plain.mtM rs m) hjl h1 h2)
      have HP4 := Lib.hid (fun h => Plain.outJ_skip (L := M.l) (u := u) (f := Plain.mtM rs m) hjl h)
      have HML := Lib.hid (show (Plain.at0 M.l j).id ∈ Plain.idsL (Plain.nd0 ms m).l from by
       rw [HMM.out]
       exact List.mem_map.2 ⟨_, Plain.at0_mem hjl, rfl⟩)
      obtain ⟨L, hL⟩ : ∃ L, Plain.at0 M.l j = L := ⟨_, rfl⟩
      rw [hL] at q0 q1 q2 HI HP1 HP2 HP3 HP4 HML
      have HBY := Lib.hid (heap_alloc_new wr (.cells #[.int .i64 L.a, .int .i64 L.b, .int .i64 L.id] 50))
      have HCY := Lib.hid ((Chg.refl [] wr).alloc (.cells #[.int .i64 L.a, .int .i64 L.b, .int .i64 L.id] 50))
      have y2 := (cell_of_row _ _ 2 _ _ _ HBY.out).trans (show _ = some (Value.int .i64 L.id) from rfl)
      have H1' := Lib.hid (H1.out.chg HCY.out (by simp))
      have H2' := Lib.hid (show StRow _ w.heap.size (.slice yo1 K2.length yc1) K2 from owns_chg H2.out HCY.out (by simp))
      have HBX' := Lib.hid (HCY.out.hp HBX.out)
      have HC' := Lib.hid (HC.out.tr HCY.out)
      have b0 := (cell_of_row _ _ 0 _ _ _ HBX'.out).trans (show _ = some (Value.int .i64 m) from rfl)
      have b1 := (cell_of_row _ _ 1 _ _ _ HBX'.out).trans (show _ = some (Value.int .i64 u) from rfl)
      have hll1 : K1.length < 4294967290 := by omega
      have hll2 : K2.length < 4294967290 := by omega
      have II := HI.out.2.2
      clear hcell hsm2 hL
      by_cases hge : 0 ≤ L.id
      ·have HP2 := Lib.hid (HP4.out (Or.inl (by omega)))
       have HP1 := Lib.hid (HP1.out hge)
       go_wp2_with (at_builtin; refine wl_push rfl _ _ rfl (w0 := wr.alloc (.cells #[.int .i64 L.a, .int .i64 L.b, .int .i64 L.id] 50)) (B := w.heap.size) (v := .slice xo1 K1.length xc1) (l := K1) (k := L.id) rfl (by simp; rfl) H1'.out II HC'.out.size hll1 rfl ?_; intro v7 w7 r7 c7 f7; have R7 := Lib.hid r7; have C7 := Lib.hid c7; clear r7 c7 f7)
       go_roundw
       case rel =>
        refine ⟨j + 1, by omega, by go_num, ?_, ?_, ?_, HBN.out, HC'.out.trans C7.out fun b hb => Or.inr ?_⟩
        ·rw [HP1.out, ← List.append_assoc, HK1.out]; exact R7.out
        ·rw [HP2.out, HK2.out]
         exact owns_chg H2'.out C7.out fun b hb q => by
          obtain ⟨cs, e1⟩ := owns_kind H2'.out hb
          obtain ⟨cs2, r2, e2⟩ := row_kind H1'.out b (by rw [H1'.out.foot]; exact q)
          rw [e1] at e2
          simp at e2
        ·refine C7.out.heap HBX'.out fun q => ?_
         obtain ⟨cs2, r2, e2⟩ := row_kind H1'.out tb (by rw [H1'.out.foot]; exact q)
         rw [HBX'.out] at e2
         simp at e2
        exact (H1'.out.low b (by rw [← H1'.out.foot]; exact hb)).1
       case measure => simp [intOf]; omega
      have HE1 := Lib.hid (HP2.out hge)
      have hn0 : L.id < 0 := by omega
      by_cases hu : L.id = u
      ·have HO1 := Lib.hid (HP4.out (Or.inr hu))
       have bu : (L.id != u) = false := by simpa using hu
       have hu2 := Lib.hid hu
       clear hu
       go_wp2
       go_roundw
       case rel => exact ⟨j + 1, by omega, by go_num, by rw [HE1.out, HK1.out]; exact H1'.out, by rw [HO1.out, HK2.out]; exact H2'.out, HBX'.out, HBN.out, HC'.out⟩
       case measure => simp [intOf]; omega
      have HO1 := Lib.hid (HP3.out hn0 hu)
      have bu : (L.id != u) = true := by simpa using hu
      have HMV := Lib.hid (HH.out.mateV hm hn0 HML.out)
      obtain ⟨-, -, -, hk4, -⟩ := HH.out.mt hm hn0 HML.out
      have HTB := Lib.hid (HC'.out.hp HT.out)
      have HRB := Lib.hid (show T2Row _ B ev rs from owns_chg HR.out HC'.out (by simp))
      clear hu
      go_wp2_with fail
      refine (tmate_at pb _ ev rs B m L.id _ HTB.out HRB.out hn0 hk4 (by omega)).mono ?_
      rw [HMV.out]
      rintro e w6 ⟨rfl, hc6⟩
      have HC6 := Lib.hid (HC'.out.tr hc6)
      have H16 := Lib.hid (H1'.out.chg hc6 (by simp))
      have H26 := Lib.hid (show StRow _ w.heap.size (.slice yo1 K2.length yc1) K2 from owns_chg H2'.out hc6 (by simp))
      have HBX6 := Lib.hid (hc6.hp HBX'.out)
      have y2 := hc6.cel y2
      have HTBL := Lib.hid (lt_of_block HBX6.out)
      clear hc6 b0 b1
      go_wp2_with (at_builtin; refine wl_st rfl _ _ rfl (w0 := w6) (B := w.heap.size) (v := .slice yo1 K2.length yc1) (l := K2) (Plain.mtM rs m L.id, L.id) rfl rfl H26.out HC6.out.size hll2 rfl ?_; intro v7 w7 r7 c7 f7; have R7 := Lib.hid r7; have C7 := Lib.hid c7; have F7 := Lib.hid f7; clear r7 c7 f7)
      go_roundw
      case rel =>
       refine ⟨j + 1, by omega, by go_num, ?_, ?_, ?_, ?_, HC6.out.trans C7.out fun b hb => Or.inr ?_⟩
       ·rw [HE1.out, HK1.out]
        exact H16.out.chg C7.out fun b hb q => by
         obtain ⟨cs, e1⟩ := owns_kind H26.out (b := b) (by simpa using q)
         obtain ⟨cs2, r2, e2⟩ := row_kind H16.out b (by rw [H16.out.foot]; exact hb)
         rw [e1] at e2
         simp at e2
       ·rw [HO1.out, ← List.append_assoc, HK2.out]; exact R7.out
       ·exact C7.out.heap HBX6.out fun q => HBN.out tb q rfl
       ·intro b hb e
        rcases F7.out b hb with q | q
        ·exact HBN.out b q e
        have := HTBL.out; omega
       exact (H26.out.lt b (by simpa using hb)).1
      case measure => simp [intOf]; omega
     have e : j = M.l.length := by omega
     subst e
     go_wp2_with fail
     go_roundg f
     case measure => omega
     case rel =>
      refine ⟨by have := HFF.out; omega, (Plain.outJ M.l u (Plain.mtM rs m) M.l.length).reverse ++ rest, es ++ Plain.edJ M.l M.l.length, by rw [HK1.out]; exact H1.out, by rw [List.reverse_append, List.reverse_reverse, HK2.out]; exact H2.out, Lib.hid HBE.out, fun p hp => ?_, HSUM2.out, HC.out⟩
      rcases List.mem_append.1 hp with q | q
      ·have q := List.mem_reverse.1 q
       unfold Plain.outJ at q
       rw [List.take_length] at q
       obtain ⟨x, hx, rfl⟩ := List.mem_map.1 q
       obtain ⟨hx1, -⟩ := List.mem_filter.1 hx
       obtain ⟨hx2, hx3⟩ := List.mem_filter.1 hx1
       rw [← HMM.out] at hx2
       obtain ⟨r1, -, r3, -⟩ := HH.out.mt hm (of_decide_eq_true hx3) hx2
       exact ⟨r1, of_decide_eq_true hx3, r3⟩
      exact HV.out p (by simp [q])
 have hge : 0 ≤ id := by omega
 have HBV := Lib.hid (show Plain.beyV ms rs i id = [id] by unfold Plain.beyV; rw [if_neg hneg])
 have HB := Lib.hid (row_lit1 (w := w2) (B := w.heap.size) HC2.out.size I64id)
 have HA := Lib.hid ((Chg.refl [] w2).alloc (.cells #[.int .i64 id] 3))
 clear hneg
 go_wp2
 refine bodyPost_ret (v := .tuple #[.slice (some ⟨w2.heap.size, 0, none⟩) 1 1, .bool true]) (by simp [results, Tryz.results10, go_sem]) rfl ?_
 exact ⟨_, [id], rfl, HB.out, List.pairwise_singleton _ _, by rw [HBV.out], HC2.out.tr HA.out⟩
end Go.Proofs.YtpcgklagmcnhaaaGreat
-- READS ONLY
namespace Go.Proofs.YtpcgklagmcnhaaaGreat
open Go.RowKit Go.Maps
namespace Plain
def small15 (g : Gr) (p : Pt) : Bool := small4 g p && decide (p.e.length ≤ 14) && decide (p.v.length ≤ 14)
theorem small15_is {g : Gr} {p : Pt} (h : small15 g p = true) : p.e.length ≤ 14 ∧ p.v.length ≤ 14 ∧ g.e.length ≤ 60 := by
 grind [small15, small4]
end Plain
set_option maxRecDepth 100000 in
set_option maxHeartbeats 4000000 in
theorem small15_any (vg vp : Value) (g : Plain.Gr) (p : Plain.Pt) (w : World) (hg : GrAt w vg g) (hp : PtAt w vp p) :
  Calls Tryz.prog 13 #[vg, vp] w fun e w' => e = .returned (.bool (Plain.small15 g p)) ∧ Chg [] w w' := by
 obtain ⟨eo, cap, ao, ac, bo, bc, rfl, rfl, HG, HP, hm, ham, hbm, HAC, HBC, HAS, HBS, HC1, HBXS⟩ := box_gp hg hp
 clear hg hp
 obtain ⟨x0, x1, y0, y1, hsz⟩ := HBXS.out _ (Chg.refl _ _)
 go_enter Tryz.func13, Tryz.ntmps13
 go_wp2_with fail
 obtain ⟨w1, hw1⟩ : ∃ w1, ((w.alloc (.cells #[.int .i64 g.n, .slice eo g.e.length cap] 41)).alloc (.cells #[.slice ao p.v.length ac, .slice bo p.e.length bc] 43)) = w1 := ⟨_, rfl⟩
 rw [hw1] at HC1 HBXS ⊢
 clear hw1 x0 x1 y0 y1 hsz
 refine (small4_any _ _ g p _ (HG.out.fresh HC1.out) (HP.out.fresh HC1.out)).mono ?_
 rintro e w2 ⟨rfl, hc2⟩
 have HC2 := Lib.hid (HC1.out.tr hc2)
 obtain ⟨x0, x1, y0, y1, hsz⟩ := HBXS.out _ hc2
 have HSM := Lib.hid (show Plain.small15 g p = (Plain.small4 g p && decide (p.e.length ≤ 14) && decide (p.v.length ≤ 14)) from rfl)
 clear hc2
 cases hb : Plain.small4 g p with
 | false =>
  rw [hb] at HSM
  rw [show bit false = 0 from rfl]
  clear hb
  go_wp2
  go_ret
  exact ⟨ret_bool (by rw [HSM.out]; first | rfl | simp <;> omega), HC2.out⟩
 | true =>
  rw [hb] at HSM
  rw [show bit true = 1 from rfl]
  clear hb
  by_cases h1 : p.e.length ≤ 14
  ·have e1 : decide (p.e.length ≤ 14) = true := decide_eq_true h1
   have i1 : (p.e.length : Int) ≤ 14 := by omega
   rw [e1] at HSM
   by_cases h2 : p.v.length ≤ 14
   ·have e2 : decide (p.v.length ≤ 14) = true := decide_eq_true h2
    have i2 : (p.v.length : Int) ≤ 14 := by omega
    rw [e2] at HSM
    go_wp2
    go_ret
    exact ⟨ret_bool (by rw [HSM.out]; first | rfl | simp <;> omega), HC2.out⟩
   have e2 : decide (p.v.length ≤ 14) = false := decide_eq_false h2
   have i2 : ¬ (p.v.length : Int) ≤ 14 := by omega
   rw [e2] at HSM
   go_wp2
   go_ret
   exact ⟨ret_bool (by rw [HSM.out]; first | rfl | simp <;> omega), HC2.out⟩
  have e1 : decide (p.e.length ≤ 14) = false := decide_eq_false h1
  have i1 : ¬ (p.e.length : Int) ≤ 14 := by omega
  rw [e1] at HSM
  go_wp2
  go_ret
  exact ⟨ret_bool (by rw [HSM.out]; first | rfl | simp <;> omega), HC2.out⟩
end Go.Proofs.YtpcgklagmcnhaaaGreat
namespace Go.Proofs.YtpcgklagmcnhaaaGreat.Plain
theorem len_sub {l m : List Int} (hl : l.Nodup) (h : ∀ x ∈ l, x ∈ m) : l.length ≤ m.length := hl.length_le_of_subset h
theorem flat_len (ms : List Nd) : ((List.range ms.length).flatMap fun i => idsL (nd0 ms i).l).length = ((List.range ms.length).map fun i => (nd0 ms i).l.length).sum := by
 rw [List.length_flatMap]
 simp [idsL]
theorem sum_mem : ∀ {l : List Nat} {x : Nat}, x ∈ l → x ≤ l.sum
 | y :: l, x, h => by
  rcases List.mem_cons.1 h with rfl | h
  ·rw [List.sum_cons]; omega
  have := sum_mem h
  rw [List.sum_cons]; omega
theorem sum_least (c : Nat) : ∀ {l : List Nat}, (∀ x ∈ l, c ≤ x) → c * l.length ≤ l.sum
 | [], _ => by simp
 | y :: l, h => by
  have ih := sum_least c (l := l) fun x hx => h x (by simp [hx])
  have := h y (by simp)
  rw [List.sum_cons, List.length_cons, Nat.mul_succ]
  omega
theorem TreeP.small {E : List Int} {ms : List Nd} {rs : List T3} (h : TreeP E ms rs) : ms.length ≤ E.length + 1 ∧ rs.length ≤ 3 * E.length ∧ ∀ i, i < ms.length → (nd0 ms i).l.length ≤ 3 * E.length := by
 have c := h.cnt
 have e := h.edg.length_eq
 obtain ⟨F, hF⟩ : ∃ F, ((List.range ms.length).flatMap fun i => idsL (nd0 ms i).l) = F := ⟨_, rfl⟩
 have ht := flat_len ms
 rw [hF] at c e ht
 have hs : F.length = (F.filter fun v => decide (0 ≤ v)).length + (F.filter fun v => decide (v < 0)).length := by
  rw [← filter_two (fun v => decide (0 ≤ v)) F]
  congr 2
  refine List.filter_congr fun v _ => ?_
  by_cases q : 0 ≤ v
  ·simp [q]
  simp [q]; omega
 have hb : ms.length = 1 ∨ 3 * ms.length ≤ F.length := by
  rcases h.big with q | q
  ·exact Or.inl q
  right
  rw [ht]
  have := sum_least 3 (l := (List.range ms.length).map fun i => (nd0 ms i).l.length) (fun x hx => by
   obtain ⟨i, hi, rfl⟩ := List.mem_map.1 hx
   exact q i (List.mem_range.1 hi))
  simpa using this
 have hr : rs.length ≤ (F.filter fun v => decide (v < 0)).length := by
  have := len_sub (l := (List.range rs.length).map fun k : Nat => -1 - (k : Int)) (m := F.filter fun v => decide (v < 0)) (by
   unfold List.Nodup
   rw [List.pairwise_map]
   exact List.nodup_range.imp fun q e => q (by omega)) (fun x hx => by
   obtain ⟨k, hk, rfl⟩ := List.mem_map.1 hx
   obtain ⟨i, j, -, -, hij, hj, h1, -⟩ := h.row k (List.mem_range.1 hk)
   refine List.mem_filter.2 ⟨?_, decide_eq_true (by omega)⟩
   rw [← hF]
   exact List.mem_flatMap.2 ⟨i, List.mem_range.2 (by omega), h1⟩)
  simpa using this
 refine ⟨by omega, by omega, fun i hi => ?_⟩
 have := sum_mem (l := (List.range ms.length).map fun i => (nd0 ms i).l.length) (List.mem_map.2 ⟨i, List.mem_range.2 hi, rfl⟩)
 rw [← ht] at this
 omega
theorem TreeOf.tree {g : Gr} {p : Pt} {ms : List Nd} {rs : List T3} (he : p.err g = 0) (h : TreeOf g p ms rs) (hg : g.e.length ≤ 100000) (hp : p.e.length ≤ 100000) : TreeP p.e ms rs := by
 obtain ⟨ns, h1, -, h3, h4, -, h6⟩ := h
 obtain ⟨t1, t2⟩ := tree_ns he h1
 exact tree_of t1 (fun i hi v hv => by
  have := t2 i hi v hv
  exact I64.mk (by omega) (by omega)) h3 h4 h6
theorem newErr_ok {g : Gr} {p : Pt} (h : newErr g p = 0) : p.err g = 0 ∧ solidB g p = true ∧ loopB g p p.e.length = false := by
 unfold newErr at h
 split at h
 ·rename_i q; exact absurd h q
 rename_i q
 split at h
 ·cases h
 rename_i q2
 split at h
 ·cases h
 rename_i q3
 exact ⟨Classical.byContradiction q, by simpa using q2, by simpa using q3⟩
def Vx (l : List Lk) (w : Int) : Prop := ∃ x ∈ l, x.a = w ∨ x.b = w
def ConV (l : List Lk) (v : Int) : Prop := ∀ c : Int → Bool, (∀ x ∈ l, x.a ≠ v → x.b ≠ v → c x.a = c x.b) → ∀ y z, Vx l y → Vx l z → y ≠ v → z ≠ v → c y = c z
structure Rt (l : List Lk) : Prop where
 ne : l ≠ []
 nod : (idsL l).Nodup
 ok : ∀ x ∈ l, 0 ≤ x.a ∧ 0 ≤ x.b ∧ x.a ≠ x.b ∧ x.a < 1024 ∧ x.b < 1024
 siz : nK l + l.length ≤ 1024
 con : ∀ v, Vx l v → ConV l v
theorem vx_mem {l : List Lk} {w : Int} : w ∈ vertsK l ↔ Vx l w := by
 unfold vertsK
 rw [(tidy_ok _).2]
 unfold endsK Vx
 rw [List.mem_flatMap]
 simp only [List.mem_cons, List.not_mem_nil, or_false]
 exact ⟨fun ⟨x, h1, h2⟩ => ⟨x, h1, h2.imp Eq.symm Eq.symm⟩, fun ⟨x, h1, h2⟩ => ⟨x, h1, h2.imp Eq.symm Eq.symm⟩⟩
theorem nK_ge {l : List Lk} : ∀ x ∈ l, x.a < nK l ∧ x.b < nK l := by
 have : ∀ (l : List Lk) (n : Int), n ≤ l.foldl (fun n x => max (max n (x.a + 1)) (x.b + 1)) n ∧ ∀ x ∈ l, x.a < l.foldl (fun n x => max (max n (x.a + 1)) (x.b + 1)) n ∧ x.b < l.foldl (fun n x => max (max n (x.a + 1)) (x.b + 1)) n := by
  intro l
  induction l with
  | nil => intro n; exact ⟨Int.le_refl _, fun x hx => by cases hx⟩
  | cons y l ih =>
   intro n
   obtain ⟨h1, h2⟩ := ih (max (max n (y.a + 1)) (y.b + 1))
   refine ⟨by rw [List.foldl_cons]; omega, fun x hx => ?_⟩
   rw [List.foldl_cons]
   rcases List.mem_cons.1 hx with rfl | hx
   ·omega
   exact h2 x hx
 exact (this l 0).2
theorem nK_le {l : List Lk} {n : Int} (h0 : 0 ≤ n) (h : ∀ x ∈ l, x.a < n ∧ x.b < n) : nK l ≤ n := by
 have : ∀ (l : List Lk) (m : Int), m ≤ n → (∀ x ∈ l, x.a < n ∧ x.b < n) → l.foldl (fun n x => max (max n (x.a + 1)) (x.b + 1)) m ≤ n := by
  intro l
  induction l with
  | nil => intro m h _; exact h
  | cons y l ih =>
   intro m hm h
   rw [List.foldl_cons]
   have := h y (by simp)
   exact ih _ (by omega) fun x hx => h x (by simp [hx])
 exact this l 0 h0 h
theorem ix_mem {l : List Lk} {x : Lk} (h : x ∈ l) : ∃ i, i < l.length ∧ at0 l i = x := by
 obtain ⟨i, hi, rfl⟩ := List.getElem_of_mem h
 exact ⟨i, hi, by simp [at0, List.getD, hi]⟩
theorem at0_in {l : List Lk} {i : Nat} (h : i < l.length) : at0 l i ∈ l := at0_mem h
theorem grK_at {l : List Lk} {i : Nat} (h : i < l.length) : (grK l).at (i : Int) = ((at0 l i).a, (at0 l i).b) := by
 unfold Gr.at
 rw [show ((i : Int)).toNat = i by omega]
 exact grK_ends h
theorem whole_iff {l : List Lk} : wholeB l = true ↔ (idsL l).Nodup ∧ (∀ x ∈ l, 0 ≤ x.a ∧ 0 ≤ x.b ∧ x.a ≠ x.b ∧ x.a < 1024 ∧ x.b < 1024) ∧ nK l + l.length ≤ 1024 := by
 have hok : (List.range l.length).all (okK l) = true ↔ (idsL l).Nodup ∧ ∀ x ∈ l, 0 ≤ x.a ∧ 0 ≤ x.b ∧ x.a ≠ x.b ∧ x.a < 1024 ∧ x.b < 1024 := by
  rw [List.all_eq_true]
  constructor
  ·intro h
   have h' : ∀ k, k < l.length → ((l.take k).any fun y => y.id == (at0 l k).id) = false ∧ 0 ≤ (at0 l k).a ∧ 0 ≤ (at0 l k).b ∧ (at0 l k).a ≠ (at0 l k).b ∧ (at0 l k).a < 1024 ∧ (at0 l k).b < 1024 := fun k hk => okK_iff.1 (h k (List.mem_range.2 hk))
   refine ⟨?_, fun x hx => ?_⟩
   ·unfold idsL List.Nodup
    rw [List.pairwise_map, List.pairwise_iff_getElem]
    intro i j hi hj hij e
    have h1 := (h' j hj).1
    rw [List.any_eq_false] at h1
    refine h1 l[i] ?_ ?_
    ·rw [List.mem_take_iff_getElem]
     exact ⟨i, by omega, rfl⟩
    rw [show at0 l j = l[j] by simp [at0, List.getD, hj]]
    simpa using e
   obtain ⟨i, hi, rfl⟩ := ix_mem hx
   exact (h' i hi).2
  rintro ⟨h1, h2⟩ k hk
  have hk := List.mem_range.1 hk
  refine okK_iff.2 ⟨?_, h2 _ (at0_in hk)⟩
  rw [List.any_eq_false]
  intro y hy e
  obtain ⟨i, hi, rfl⟩ := List.mem_take_iff_getElem.1 hy
  unfold idsL List.Nodup at h1
  rw [List.pairwise_map, List.pairwise_iff_getElem] at h1
  refine h1 i k (by omega) hk (by omega) ?_
  rw [show at0 l k = l[k] by simp [at0, List.getD, hk]] at e
  simpa using e
 unfold wholeB
 rw [Bool.and_eq_true, hok, beq_iff_eq, and_assoc]
 refine and_congr_right fun h1 => and_congr_right fun h2 => ?_
 have hr : rises (ixs l.length) (grK l).e.length = true := by
  refine rises_of ?_ fun x hx => ?_
  ·unfold ixs
   rw [List.pairwise_map]
   exact List.pairwise_lt_range.imp fun q => by omega
  have := mem_ixs.1 hx
  simpa [grK] using this
 have hge : (grK l).err = 0 ↔ nK l + l.length ≤ 1024 := by
  have hp := nK_pos l
  have hl : (grK l).e.length = l.length := by simp [grK]
  unfold Gr.err
  rw [hl]
  show (if nK l < 0 then _ else if 1024 < nK l ∨ 1024 - nK l < (l.length : Int) then _ else _) = 0 ↔ _
  rw [if_neg (by omega)]
  split
  ·exact ⟨fun q => (by omega), fun q => (by omega)⟩
  rw [if_pos]
  ·exact ⟨fun _ => by omega, fun _ => rfl⟩
  rw [List.all_eq_true]
  intro i hi
  have hi := List.mem_range.1 hi
  have h3 := h2 _ (at0_in hi)
  have h4 := nK_ge _ (at0_in hi)
  unfold Gr.okEdge
  rw [grK_ends hi]
  show (!(decide ((at0 l i).a < 0) || decide (nK l ≤ (at0 l i).a) || decide ((at0 l i).b < 0) || decide (nK l ≤ (at0 l i).b))) = true
  rw [decide_eq_false (by omega), decide_eq_false (by omega), decide_eq_false (by omega), decide_eq_false (by omega)]
  rfl
 unfold spanErr
 rw [if_pos hr]
 rw [← hge]
 by_cases q : (grK l).err = 0
 ·rw [if_neg (by simp [q])]; exact ⟨fun _ => q, fun _ => rfl⟩
 rw [if_pos q]
theorem ptvx {l : List Lk} {w : Int} : w ∈ (ptK l).v ↔ Vx l w := by
 unfold ptK bspan
 show w ∈ tidy _ ↔ _
 rw [(tidy_ok _).2, endsL_mem]
 constructor
 ·rintro ⟨e, he, h⟩
  obtain ⟨h1, h2⟩ := mem_ixs.1 he
  obtain ⟨i, rfl⟩ : ∃ i : Nat, e = i := ⟨e.toNat, by omega⟩
  rw [grK_at (by omega)] at h
  exact ⟨_, at0_in (by omega), h⟩
 rintro ⟨x, hx, h⟩
 obtain ⟨i, hi, rfl⟩ := ix_mem hx
 exact ⟨i, mem_ixs.2 ⟨by omega, by omega⟩, by rw [grK_at hi]; exact h⟩
theorem ptK_err {l : List Lk} (h : wholeB l = true) : (ptK l).err (grK l) = 0 := by
 obtain ⟨h1, h2, h3⟩ := whole_iff.1 h
 have hs : spanErr (grK l) (ixs l.length) = 0 := by
  unfold wholeB at h
  rw [Bool.and_eq_true, beq_iff_eq] at h
  exact h.2
 unfold spanErr at hs
 split at hs
 ·rename_i q; exact absurd hs q
 rename_i q
 have q := Classical.byContradiction fun c => q c
 refine Pt.err_of q ?_ ?_ fun e he => ?_
 ·refine rises_of (tidy_ok _).1 fun x hx => ?_
  obtain ⟨y, hy, hyx⟩ := ptvx.1 hx
  have a1 := h2 y hy
  have a2 := nK_ge y hy
  show 0 ≤ x ∧ x < nK l
  rcases hyx with rfl | rfl <;> omega
 ·split at hs
  ·assumption
  cases hs
 obtain ⟨a1, a2⟩ := mem_ixs.1 (show e ∈ ixs l.length from he)
 obtain ⟨i, rfl⟩ : ∃ i : Nat, e = i := ⟨e.toNat, by omega⟩
 rw [show ((i : Int)).toNat = i by omega, grK_ends (by omega)]
 exact ⟨ptvx.2 ⟨_, at0_in (by omega), Or.inl rfl⟩, ptvx.2 ⟨_, at0_in (by omega), Or.inr rfl⟩⟩
theorem nearK_iff {l : List Lk} {u w : Int} : Near (grK l) (ptK l) u w ↔ ∃ x ∈ l, (x.a = u ∧ x.b = w) ∨ (x.a = w ∧ x.b = u) := by
 constructor
 ·rintro ⟨e, he, h⟩
  obtain ⟨h1, h2⟩ := mem_ixs.1 (show e ∈ ixs l.length from he)
  obtain ⟨i, rfl⟩ : ∃ i : Nat, e = i := ⟨e.toNat, by omega⟩
  rw [grK_at (by omega)] at h
  simp only [Prod.mk.injEq] at h
  exact ⟨_, at0_in (by omega), h⟩
 rintro ⟨x, hx, h⟩
 obtain ⟨i, hi, rfl⟩ := ix_mem hx
 refine ⟨i, mem_ixs.2 ⟨by omega, by omega⟩, ?_⟩
 rw [grK_at hi]
 simpa using h
theorem come_col {l : List Lk} {v a b : Int} {c : Int → Bool} (hc : ∀ x ∈ l, x.a ≠ v → x.b ≠ v → c x.a = c x.b) (ha : a ≠ v) (h : Come (grK l) (ptK l) v a b) : c a = c b ∧ b ≠ v := by
 induction h with
 | here => exact ⟨rfl, ha⟩
 | step h1 hn hs ih =>
  refine ⟨ih.1.trans ?_, hs⟩
  obtain ⟨x, hx, ⟨e1, e2⟩ | ⟨e1, e2⟩⟩ := nearK_iff.1 hn
  ·have := hc x hx (by rw [e1]; exact ih.2) (by rw [e2]; exact hs)
   rw [e1, e2] at this; exact this
  have := hc x hx (by rw [e1]; exact hs) (by rw [e2]; exact ih.2)
  rw [e1, e2] at this; exact this.symm
theorem off_at {l : List Lk} {i : Nat} (hi : i < l.length) (v : Int) : off (grK l) v (i : Int) = if (at0 l i).a = v then (at0 l i).b else (at0 l i).a := by
 unfold off
 rw [grK_at hi]
theorem right_iff {l : List Lk} : rightK l = true ↔ Rt l := by
 unfold rightK
 rw [Bool.and_eq_true, solidB_iff]
 constructor
 ·rintro ⟨hw, he, ⟨e0, t, het, hap⟩, -⟩
  obtain ⟨h1, h2, h3⟩ := whole_iff.1 hw
  have hne : l ≠ [] := fun q => by
   subst q
   have : (ptK []).e = [] := rfl
   rw [this] at het
   cases het
  have hpos : 0 < l.length := List.length_pos_iff.2 hne
  have he0 : e0 = ((0 : Nat) : Int) := by
   have : (ptK l).e = ixs l.length := rfl
   rw [this] at het
   unfold ixs at het
   obtain ⟨n, hn⟩ : ∃ n, l.length = n + 1 := ⟨l.length - 1, by omega⟩
   rw [hn, List.range_succ_eq_map, List.map_cons] at het
   exact (List.cons.inj het).1.symm
  subst he0
  refine ⟨hne, h1, h2, h3, fun v hv c hc => ?_⟩
  have key : ∀ i, i < l.length → c (off (grK l) v ((0 : Nat) : Int)) = c (off (grK l) v (i : Int)) := by
   intro i hi
   have h5 := hap i (mem_ixs.2 ⟨by omega, by omega⟩) v (ptvx.2 hv)
   unfold Apart at h5
   by_cases e : ((0 : Nat) : Int) = i
   ·rw [e]
   have h6 : Come (grK l) (ptK l) v (off (grK l) v ((0 : Nat) : Int)) (off (grK l) v i) := Classical.byContradiction fun q => h5 ⟨e, Or.inr (Or.inr q)⟩
   refine (come_col hc ?_ h6).1
   rw [off_at hpos]
   have := (h2 _ (at0_in hpos)).2.2.1
   split
   ·rename_i q; rw [← q]; exact Ne.symm this
   assumption
  have one : ∀ y, Vx l y → y ≠ v → c y = c (off (grK l) v ((0 : Nat) : Int)) := by
   rintro y ⟨x, hx, hxy⟩ hyv
   obtain ⟨i, hi, rfl⟩ := ix_mem hx
   rw [key i hi, off_at hi]
   split
   ·rename_i q
    rcases hxy with e | e
    ·exact absurd (e.symm.trans q) hyv
    rw [e]
   rename_i q
   rcases hxy with e | e
   ·rw [e]
   have := hc _ hx q (by rw [e]; exact hyv)
   rw [this, e]
  intro y z hy hz hyv hzv
  rw [one y hy hyv, one z hz hzv]
 intro h
 have hw := whole_iff.2 ⟨h.nod, h.ok, h.siz⟩
 have hpos : 0 < l.length := List.length_pos_iff.2 h.ne
 refine ⟨hw, ptK_err hw, ⟨((0 : Nat) : Int), (List.range (l.length - 1)).map fun i : Nat => ((i + 1 : Nat) : Int), ?_, ?_⟩, ?_⟩
 ·show ixs l.length = _
  unfold ixs
  obtain ⟨n, hn⟩ : ∃ n, l.length = n + 1 := ⟨l.length - 1, by omega⟩
  rw [hn, List.range_succ_eq_map, List.map_cons, List.map_map]
  rfl
 ·intro e he v hv hap
  obtain ⟨a1, a2⟩ := mem_ixs.1 (show e ∈ ixs l.length from he)
  obtain ⟨i, rfl⟩ : ∃ i : Nat, e = i := ⟨e.toNat, by omega⟩
  have hi : i < l.length := by omega
  have hv := ptvx.1 hv
  have offv : ∀ i, i < l.length → off (grK l) v (i : Int) ≠ v ∧ Vx l (off (grK l) v (i : Int)) := fun i hi => by
   rw [off_at hi]
   have := (h.ok _ (at0_in hi)).2.2.1
   split
   ·rename_i q; exact ⟨by rw [← q]; exact Ne.symm this, _, at0_in hi, Or.inr rfl⟩
   exact ⟨by assumption, _, at0_in hi, Or.inl rfl⟩
  obtain ⟨hne, q | q | q⟩ := hap
  ·rw [grK_at hpos] at q; exact (h.ok _ (at0_in hpos)).2.2.1 (q.1.trans q.2.symm)
  ·rw [grK_at hi] at q; exact (h.ok _ (at0_in hi)).2.2.1 (q.1.trans q.2.symm)
  open Classical in
  have := h.con v hv (fun y => decide (Come (grK l) (ptK l) v (off (grK l) v ((0 : Nat) : Int)) y)) (fun x hx ha hb => by
   rw [decide_eq_decide]
   exact ⟨fun k => k.step (nearK_iff.2 ⟨x, hx, Or.inl ⟨rfl, rfl⟩⟩) hb, fun k => k.step (nearK_iff.2 ⟨x, hx, Or.inr ⟨rfl, rfl⟩⟩) ha⟩) _ _ (offv 0 hpos).2 (offv i hi).2 (offv 0 hpos).1 (offv i hi).1
  rw [decide_eq_decide] at this
  exact q (this.1 .here)
 intro v hv
 obtain ⟨x, hx, hxv⟩ := ptvx.1 hv
 obtain ⟨i, hi, rfl⟩ := ix_mem hx
 have hm : (i : Int) ∈ (ptK l).e := mem_ixs.2 ⟨by omega, by omega⟩
 obtain ⟨d, hd, h1, h2, h3⟩ := edge_dart (g := grK l) hm
 rw [grK_at hi] at h2 h3
 rcases hxv with e | e
 ·exact ⟨d, hd, by rw [h2]; exact e⟩
 exact ⟨twin d, twin_mem hd, by rw [tail_twin, h3]; exact e⟩
structure ClOk (u v : Int) (l : List Lk) (k : Nat) (c : Cl) : Prop where
 ok : c.s.Ok
 met : ∀ j, j < k → ∀ w, (at0 l j).a = w ∨ (at0 l j).b = w → w ≠ u → w ≠ v → ∃ i, c.f w = some i ∧ c.s.rel i (j : Int)
theorem clEnd_ok {u v : Int} {k : Nat} {c : Cl} {x : Int} (ho : c.s.Ok) (P : Int → Int → Prop) (hP : ∀ w j, P w j → ∃ i, c.f w = some i ∧ c.s.rel i j) :
  (clEnd u v k c x).s.Ok ∧ (∀ w j, P w j → ∃ i, (clEnd u v k c x).f w = some i ∧ (clEnd u v k c x).s.rel i j) ∧ (x ≠ u → x ≠ v → ∃ i, (clEnd u v k c x).f x = some i ∧ (clEnd u v k c x).s.rel i k) := by
 unfold clEnd
 split
 ·rename_i h
  exact ⟨ho, hP, fun h1 h2 => absurd h (by simp [h1, h2])⟩
 cases hf : c.f x with
 | some i =>
  dsimp only
  refine ⟨ho.join _ _, fun w j h => ?_, fun _ _ => ⟨i, hf, St.rel_joined ho i k⟩⟩
  obtain ⟨i', h1, h2⟩ := hP w j h
  exact ⟨i', h1, (St.rel_join ho i k i' j).2 (Or.inl h2)⟩
 | none =>
  dsimp only
  refine ⟨ho, fun w j h => ?_, fun _ _ => ⟨k, by simp, St.rel_refl _ _⟩⟩
  obtain ⟨i', h1, h2⟩ := hP w j h
  refine ⟨i', ?_, h2⟩
  by_cases e : w = x
  ·subst e; rw [hf] at h1; cases h1
  rw [if_neg e]; exact h1
theorem clRun_ok (u v : Int) (l : List Lk) : ∀ k, ClOk u v l k (clRun u v l k)
 | 0 => ⟨⟨rfl, by simp [clRun, St.new], fun i hi => by simp [clRun, St.new] at hi, fun i hi => by simp [clRun, St.new] at hi⟩, fun j hj => by omega⟩
 | k + 1 => by
  obtain ⟨h1, h2⟩ := clRun_ok u v l k
  have o0 := h1.put (k : Int)
  obtain ⟨a1, a2, a3⟩ := clEnd_ok (u := u) (v := v) (k := k) (c := ⟨(clRun u v l k).s.put k, (clRun u v l k).f⟩) (x := (at0 l k).a) o0 (fun w jj => ∃ j : Nat, jj = j ∧ j < k ∧ ((at0 l j).a = w ∨ (at0 l j).b = w) ∧ w ≠ u ∧ w ≠ v) (by
   rintro w jj ⟨j, rfl, hj, hw, n1, n2⟩
   obtain ⟨i, q1, q2⟩ := h2 j hj w hw n1 n2
   exact ⟨i, q1, (St.rel_put h1 _ _ _).2 q2⟩)
  obtain ⟨b1, b2, b3⟩ := clEnd_ok (u := u) (v := v) (k := k) (x := (at0 l k).b) a1 (fun w jj => (∃ j : Nat, jj = j ∧ j < k ∧ ((at0 l j).a = w ∨ (at0 l j).b = w) ∧ w ≠ u ∧ w ≠ v) ∨ (jj = k ∧ (at0 l k).a = w ∧ w ≠ u ∧ w ≠ v)) (by
   rintro w jj (h | ⟨rfl, rfl, n1, n2⟩)
   ·exact a2 w jj h
   exact a3 n1 n2)
  refine ⟨b1, fun j hj w hw n1 n2 => ?_⟩
  by_cases e : j = k
  ·subst e
   rcases hw with hw | hw
   ·exact b2 w j (Or.inr ⟨rfl, hw, n1, n2⟩)
   subst hw; exact b3 n1 n2
  exact b2 w j (Or.inl ⟨j, rfl, by omega, hw, n1, n2⟩)
theorem cls_row2 {l : List Lk} {u v : Int} {s : List Int} (h : s ∈ classesK l u v) : ∃ k : Nat, ∀ i, i < l.length → ((i : Int) ∈ s ↔ (clRun u v l l.length).s.hd i = k) := by
 unfold classesK St.groups St.gr at h
 obtain ⟨k, -, rfl⟩ := List.mem_map.1 h
 have hall := (clRun_inv u v l l.length).1
 refine ⟨k, fun i hi => ?_⟩
 unfold St.row
 rw [hall, ixs_len, List.mem_map]
 constructor
 ·rintro ⟨j, hj, e⟩
  obtain ⟨h1, h2⟩ := List.mem_filter.1 hj
  have hj2 := List.mem_range.1 h1
  have e2 : ((ixs l.length).getD j 0) = j := by simp [ixs, List.getD, hj2]
  rw [e2] at e
  have : j = i := by omega
  subst this
  simpa using h2
 intro q
 exact ⟨i, List.mem_filter.2 ⟨List.mem_range.2 hi, by simpa using q⟩, by simp [ixs, List.getD, hi]⟩
theorem cls_sep {l : List Lk} {u v : Int} {s : List Int} (h : s ∈ classesK l u v) {i j : Nat} (hi : i < l.length) (hj : j < l.length) (hs : (i : Int) ∈ s) (hn : (j : Int) ∉ s) {w : Int} (h1 : (at0 l i).a = w ∨ (at0 l i).b = w) (h2 : (at0 l j).a = w ∨ (at0 l j).b = w) : w = u ∨ w = v := by
 refine Classical.byContradiction fun q => ?_
 have n1 : w ≠ u := fun e => q (Or.inl e)
 have n2 : w ≠ v := fun e => q (Or.inr e)
 obtain ⟨hok, hmet⟩ := clRun_ok u v l l.length
 have hall := (clRun_inv u v l l.length).1
 obtain ⟨k, hk⟩ := cls_row2 h
 obtain ⟨a, a1, a2⟩ := hmet i hi w h1 n1 n2
 obtain ⟨b, b1, b2⟩ := hmet j hj w h2 n1 n2
 rw [a1] at b1
 cases b1
 have hr : (clRun u v l l.length).s.rel i j := St.rel_trans (St.rel_symm a2) b2
 have hm : (j : Int) ∈ (clRun u v l l.length).s.all := by rw [hall]; exact mem_ixs.2 ⟨by omega, by omega⟩
 have ix : ∀ i, i < l.length → (clRun u v l l.length).s.all.idxOf (i : Int) = i := fun i hi => by
  rw [hall]
  have hn : (ixs l.length).Nodup := by rw [← hall]; exact hok.nodup
  have hi2 : i < (ixs l.length).length := by rw [ixs_len]; exact hi
  have e : (ixs l.length)[i] = (i : Int) := by simp [ixs]
  rw [← e]
  exact hn.idxOf_getElem _ hi2
 have := (St.rel_at hr hm).2
 rw [ix i hi, ix j hj] at this
 exact hn ((hk j hj).2 (by rw [← this]; exact (hk i hi).1 hs))
theorem vx_perm {l m : List Lk} (h : l.Perm m) {w : Int} : Vx l w ↔ Vx m w := ⟨fun ⟨x, a, b⟩ => ⟨x, h.mem_iff.1 a, b⟩, fun ⟨x, a, b⟩ => ⟨x, h.mem_iff.2 a, b⟩⟩
theorem vx_app {l m : List Lk} {w : Int} : Vx (l ++ m) w ↔ Vx l w ∨ Vx m w := by
 constructor
 ·rintro ⟨x, a, b⟩
  exact (List.mem_append.1 a).imp (fun q => ⟨x, q, b⟩) fun q => ⟨x, q, b⟩
 rintro (⟨x, a, b⟩ | ⟨x, a, b⟩)
 ·exact ⟨x, List.mem_append_left _ a, b⟩
 exact ⟨x, List.mem_append_right _ a, b⟩
theorem vx_one {x : Lk} {w : Int} : Vx [x] w ↔ x.a = w ∨ x.b = w := ⟨fun ⟨y, a, b⟩ => by rw [List.mem_singleton.1 a] at b; exact b, fun b => ⟨x, by simp, b⟩⟩
theorem cutK_sep {l a b : List Lk} {u v : Int} {s : List Int} {id : Int} (h : cutK l u v s id = some (a, b)) : ∃ a0 b0 : List Lk, a = a0 ++ [⟨u, v, id⟩] ∧ b = b0 ++ [⟨u, v, id⟩] ∧ (a0 ++ b0).Perm l ∧ 2 ≤ a0.length ∧ 2 ≤ b0.length ∧ id < 0 ∧ (∀ x ∈ l, x.id ≠ id) ∧ (∀ w, Vx a0 w → Vx b0 w → w = u ∨ w = v) ∧ u ≠ v ∧ Vx l u ∧ Vx l v ∧ Rt l := by
 obtain ⟨rfl, rfl, h1, h2, h3, h4, h5, -⟩ := cutK_some h
 obtain ⟨q, hq⟩ := cls_row h3
 obtain ⟨e1, e2⟩ := offK_row hq
 refine ⟨_, _, rfl, rfl, by rw [e1, e2]; exact cut_perm, h4, h5, h1, h2, ?_, ?_⟩
 ·rintro w ⟨x, hx, hxw⟩ ⟨y, hy, hyw⟩
  unfold offK at hx
  unfold leftK at hy
  obtain ⟨i, hi, rfl⟩ := List.mem_map.1 hx
  obtain ⟨j, hj, rfl⟩ := List.mem_map.1 hy
  obtain ⟨i1, i2⟩ := List.mem_filter.1 hi
  obtain ⟨j1, j2⟩ := List.mem_filter.1 hj
  exact cls_sep h3 (List.mem_range.1 i1) (List.mem_range.1 j1) (of_decide_eq_true i2) (by simpa using j2) hxw hyw
 unfold cutK at h
 split at h
 ·rename_i hc
  have hc := hc.1
  unfold classesR at hc
  split at hc
  ·simp at hc
  rename_i hn
  have n1 : u ≠ v := fun e => hn (Or.inl e)
  have n2 : u ∈ vertsK l := Classical.byContradiction fun e => hn (Or.inr (Or.inl e))
  have n3 : v ∈ vertsK l := Classical.byContradiction fun e => hn (Or.inr (Or.inr (Or.inl e)))
  have n4 : rightK l = true := by
   cases e : rightK l with
   | false => exact absurd (Or.inr (Or.inr (Or.inr e))) hn
   | true => rfl
  exact ⟨n1, vx_mem.1 n2, vx_mem.1 n3, right_iff.1 n4⟩
 cases h
theorem Rt.side {l a0 b0 : List Lk} {u v id : Int} (h : Rt l) (hp : (a0 ++ b0).Perm l) (hb : 1 ≤ b0.length) (hs : ∀ w, Vx a0 w → Vx b0 w → w = u ∨ w = v) (huv : u ≠ v) (hu : Vx l u) (hv : Vx l v) (hid : ∀ x ∈ l, x.id ≠ id) : Rt (a0 ++ [⟨u, v, id⟩]) := by
 have sub : ∀ x ∈ a0, x ∈ l := fun x hx => hp.mem_iff.1 (List.mem_append_left _ hx)
 have bnd : ∀ w, Vx l w → 0 ≤ w ∧ w < 1024 ∧ w < nK l := fun w ⟨x, hx, hw⟩ => by
  have h1 := h.ok x hx
  have h2 := nK_ge x hx
  rcases hw with rfl | rfl <;> omega
 have vl : ∀ w, Vx l w ↔ Vx a0 w ∨ Vx b0 w := fun w => by rw [← vx_perm hp, vx_app]
 have va : ∀ w, Vx (a0 ++ [⟨u, v, id⟩]) w ↔ Vx a0 w ∨ u = w ∨ v = w := fun w => by rw [vx_app, vx_one]
 refine ⟨by simp, ?_, fun x hx => ?_, ?_, fun w hw c hc => ?_⟩
 ·unfold idsL
  rw [List.map_append]
  have h0 : (idsL (a0 ++ b0)).Nodup := (hp.map Lk.id).nodup_iff.2 h.nod
  unfold idsL at h0
  rw [List.map_append] at h0
  refine List.nodup_append.2 ⟨(List.nodup_append.1 h0).1, by simp, fun y hy z hz e => ?_⟩
  obtain ⟨x, hx, rfl⟩ := List.mem_map.1 hy
  simp only [List.map_cons, List.map_nil, List.mem_singleton] at hz
  exact hid x (sub x hx) (e.trans hz)
 ·rcases List.mem_append.1 hx with q | q
  ·exact h.ok x (sub x q)
  rw [List.mem_singleton.1 q]
  exact ⟨(bnd u hu).1, (bnd v hv).1, huv, (bnd u hu).2.1, (bnd v hv).2.1⟩
 ·have h1 : nK (a0 ++ [⟨u, v, id⟩]) ≤ nK l := nK_le (nK_pos l) fun x hx => by
   rcases List.mem_append.1 hx with q | q
   ·exact nK_ge x (sub x q)
   rw [List.mem_singleton.1 q]
   exact ⟨(bnd u hu).2.2, (bnd v hv).2.2⟩
  have h2 := hp.length_eq
  have h3 := h.siz
  rw [List.length_append] at h2 ⊢
  simp only [List.length_cons, List.length_nil]
  omega
 -- colours of one side, told of all
 have hca : ∀ x ∈ a0, x.a ≠ w → x.b ≠ w → c x.a = c x.b := fun x hx => hc x (List.mem_append_left _ hx)
 have huv2 : u ≠ w → v ≠ w → c u = c v := fun h1 h2 => hc ⟨u, v, id⟩ (by simp) h1 h2
 have big : ∀ k : Int, (k = u ∨ k = v) → k ≠ w → (∀ t, (t = u ∨ t = v) → t ≠ w → c t = c k) → ((Vx b0 w → w = u ∨ w = v)) → ∀ y z, Vx (a0 ++ [⟨u, v, id⟩]) y → Vx (a0 ++ [⟨u, v, id⟩]) z → y ≠ w → z ≠ w → c y = c z := by
  intro k hk hkw ht hbw y z hy hz hyw hzw
  open Classical in
  have hl : Vx l w := by
   rcases (va w).1 hw with q | rfl | rfl
   ·exact (vl w).2 (Or.inl q)
   ·exact hu
   exact hv
  have hcol := h.con w hl (fun t => if Vx a0 t then c t else c k) (fun x hx h1 h2 => by
   rcases List.mem_append.1 (hp.mem_iff.2 hx) with q | q
   ·rw [if_pos ⟨x, q, Or.inl rfl⟩, if_pos ⟨x, q, Or.inr rfl⟩]
    exact hca x q h1 h2
   have one : ∀ t, Vx b0 t → t ≠ w → (if Vx a0 t then c t else c k) = c k := fun t htb htw => by
    split
    ·exact ht t (hs t (by assumption) htb) htw
    rfl
   rw [one x.a ⟨x, q, Or.inl rfl⟩ h1, one x.b ⟨x, q, Or.inr rfl⟩ h2])
  have val : ∀ t, Vx (a0 ++ [⟨u, v, id⟩]) t → t ≠ w → c t = (if Vx a0 t then c t else c k) ∧ Vx l t := fun t htv htw => by
   rcases (va t).1 htv with q | rfl | rfl
   ·exact ⟨by rw [if_pos q], (vl t).2 (Or.inl q)⟩
   ·refine ⟨?_, hu⟩
    split
    ·rfl
    exact ht _ (Or.inl rfl) htw
   refine ⟨?_, hv⟩
   split
   ·rfl
   exact ht _ (Or.inr rfl) htw
  rw [(val y hy hyw).1, (val z hz hzw).1]
  exact hcol y z (val y hy hyw).2 (val z hz hzw).2 hyw hzw
 by_cases e1 : u = w
 ·refine big v (Or.inr rfl) (fun q => huv (e1.trans q.symm)) (fun t h1 h2 => ?_) (fun _ => Or.inl e1.symm)
  rcases h1 with rfl | rfl
  ·exact absurd e1 h2
  rfl
 refine big u (Or.inl rfl) e1 (fun t h1 h2 => ?_) (fun q => ?_)
 ·rcases h1 with rfl | rfl
  ·rfl
  exact (huv2 e1 h2).symm
 rcases (va w).1 hw with q2 | q2 | q2
 ·exact hs w q2 q
 ·exact Or.inl q2.symm
 exact Or.inr q2.symm
theorem cut_right {l a b : List Lk} {u v : Int} {s : List Int} {id : Int} (h : cutK l u v s id = some (a, b)) : Rt a ∧ Rt b := by
 obtain ⟨a0, b0, rfl, rfl, hp, ha, hb, -, hid, hs, huv, hu, hv, hr⟩ := cutK_sep h
 exact ⟨hr.side hp (by omega) hs huv hu hv hid, hr.side (List.perm_append_comm.trans hp) (by omega) (fun w h1 h2 => hs w h2 h1) huv hu hv hid⟩
end Go.Proofs.YtpcgklagmcnhaaaGreat.Plain
