/- tree.New: contract. Conditions: a graph, a part that lie in memory and read so, of a thousand edges at most. -/
import Derived.Test.YtpcgklagmcnhaaaGreatT7TrN
namespace Go.Proofs.YtpcgklagmcnhaaaGreat
open Go.RowKit Go.Maps
theorem wl_makeL {ops : Array Oper} {rest : List Oper} {o : Oper} {a : Act} {Q : Exit → Act → World → Prop} {w : World} (hg : o.guard = none) (l c : Operand) (hop : o.op = Op.makeSlice 24 l c) {B n : Nat} (hl : a.eval l = .int .i64 0) (hc : a.eval c = .int .i64 n) (hB : B ≤ w.heap.size) (hn : n < 100000000)
  (hK : ∀ v w', LkRow w' B v [] → Chg [] w w' → wpList Tryz.prog ops Q rest (a.put o.dst v) w') : wpList Tryz.prog ops Q (o :: rest) a w := by
 obtain ⟨i0, hi, hz0, hz1, hz2⟩ := info_parts elemLink.hi
 refine wpList_make_own w hg l c 24 hop B 50 i0 (.agg #[.int .i64 0, .int .i64 0, .int .i64 0]) 3 elemLink.ht hi hz0 hz1 .i64 .i64 (n : Int) n hl hc rfl ?_ (by unfold maxLen; omega) hB (fun w' h1 h2 => hK _ w' ⟨h1, by simp, by simp⟩ ((Chg.refl _ _).grown h2 (by simp)))
 grind
theorem NdRow.base {w : World} {B B' : Nat} {v : Value} {vs : List Value} {ns : List Plain.Nd} (h : NdRow w B' v vs ns) (hB : B ≤ B') : NdRow w B v vs ns := ⟨owns_base h.out hB, h.len, h.row⟩
def TreeAt (w : World) (B pb : Nat) (ms : List Plain.Nd) (rs : List Plain.T3) : Prop :=
 B ≤ pb ∧ ∃ v vs ev, w.heap[pb]? = some (.cells #[v, ev] 73 (0, 0)) ∧ NdRow w B v vs ms ∧ T2Row w B ev rs
def Plain.TreeOf (g : Plain.Gr) (p : Plain.Pt) (ms : List Plain.Nd) (rs : List Plain.T3) : Prop :=
 ∃ ns, ns.Perm (Plain.mergeK (Plain.cutT (Plain.linksP g p)).1 (-(Plain.cutT (Plain.linksP g p)).2).toNat) ∧ ns.Pairwise Plain.ordN ∧ (∀ t, t ∈ rs ↔ I64 t.c ∧ Plain.atF ns ns.length 0 t.c = [t.a, t.b]) ∧ (rs.map Plain.T3.c).Nodup ∧ rs.Pairwise (fun x y => ¬ Plain.cmpL y.list x.list < 0) ∧ Plain.NumDone (Plain.numF rs rs.length) ns ns.length ms
set_option maxRecDepth 100000 in
set_option maxHeartbeats 8000000 in
theorem tnew_any (vg vp : Value) (g : Plain.Gr) (p : Plain.Pt) (w : World) (hpv : p.v.length ≤ 1000) (hpe : p.e.length ≤ 1000) (hg : GrAt w vg g) (hp : PtAt w vp p) :
  Calls Tryz.prog 14 #[vg, vp] w fun e w' => Chg [] w w' ∧ (Plain.newErr g p ≠ 0 → e = .returned (.tuple #[.pointer none, .int .i64 (Plain.newErr g p)])) ∧
   (Plain.newErr g p = 0 → ∃ pb ms rs, e = .returned (.tuple #[.pointer (some ⟨pb, 0, none⟩), .int .i64 0]) ∧ TreeAt w' w.heap.size pb ms rs ∧ Plain.TreeOf g p ms rs) := by
 have HSM := Lib.hid (show ∀ i, i < g.e.length → I64 (g.ends i).1 ∧ I64 (g.ends i).2 from by obtain ⟨-, -, -, -, -, h, -⟩ := hg; exact h)
 obtain ⟨eo, cap, ao, ac, bo, bc, rfl, rfl, HG, HP, hm, ham, hbm, HAC, HBC, HAS, HBS, HC1, HBXS⟩ := box_gp hg hp
 clear hg hp
 have HNE := Lib.hid (show Plain.newErr g p = if p.err g ≠ 0 then p.err g else if Plain.solidB g p = false then 10 else if Plain.loopB g p p.e.length = true then 16 else 0 from rfl)
 obtain ⟨x0, x1, y0, y1, hsz⟩ := HBXS.out _ (Chg.refl _ _)
 go_enter Tryz.func14, Tryz.ntmps14
 go_wp2_with fail
 obtain ⟨w1, hw1⟩ : ∃ w1, ((w.alloc (.cells #[.int .i64 g.n, .slice eo g.e.length cap] 41)).alloc (.cells #[.slice ao p.v.length ac, .slice bo p.e.length bc] 43)) = w1 := ⟨_, rfl⟩
 rw [hw1] at HC1 HBXS ⊢
 clear hw1 x0 x1 y0 y1 hsz
 refine (rightPart_any _ _ g p _ (by omega) (HG.out.fresh HC1.out) (HP.out.fresh HC1.out)).mono ?_
 rintro e w2 ⟨rfl, hc2⟩
 have HC2 := Lib.hid hc2
 obtain ⟨x0, x1, y0, y1, hsz⟩ := HBXS.out _ hc2
 clear hc2
 by_cases he : p.err g = 0
 ·rw [he] at HNE ⊢
  have HER := Lib.hid he
  clear he
  go_wp2_with fail
  refine (bsolid_any _ _ g p _ (by omega) (HG.out.fresh (HC1.out.tr HC2.out)) (HP.out.fresh (HC1.out.tr HC2.out))).mono ?_
  rintro e w3 ⟨rfl, hc3⟩
  have HC3 := Lib.hid (HC2.out.tr hc3)
  obtain ⟨x0, x1, y0, y1, hsz⟩ := HBXS.out _ HC3.out
  clear hc3 HC2
  by_cases hs : Plain.solidB g p = true
  ·rw [hs] at HNE ⊢
   clear hs
   have hpe2 : p.e.length < 100000000 := by omega
   go_wp2_with (at_make; refine wl_makeL rfl _ _ rfl (B := w3.heap.size) (n := p.e.length) rfl rfl (Nat.le_refl _) hpe2 ?_; intro v1 w4 r1 c1; obtain ⟨o1, k1, rfl⟩ := r1.shape; have R1 := Lib.hid r1; have C1 := Lib.hid c1; have y1 := c1.cel y1; clear r1 c1)
   have HCE := Lib.hid (show ∀ i, i < g.e.length → ∃ b off, eo = some ⟨b, off, none⟩ ∧ w.cell? ⟨b, off + i * 2, none⟩ = some (.int .i64 (g.ends i).1) ∧ w.cell? ⟨b, off + i * 2 + 1, none⟩ = some (.int .i64 (g.ends i).2) from by
    obtain ⟨eo', cap', eg, -, -, -, hce⟩ := HG.out
    simp only [Value.agg.injEq, Array.mk.injEq, List.cons.injEq, Value.slice.injEq, and_true] at eg
    obtain ⟨-, rfl, -⟩ := eg
    exact hce)
   have HW3 := Lib.hid (HC1.out.tr HC3.out)
   go_loopw [7, 30] (fun c7 iv wr => ∃ k : Nat, k ≤ p.e.length ∧ iv = .int .i64 k ∧ LkRow wr 0 c7 ((Plain.linksP g p).take k) ∧ (∀ b ∈ foot c7, w3.heap.size ≤ b) ∧ Hid (Plain.loopB g p k = false) ∧ Chg [] w3 wr) (fun _ iv _ => p.e.length - (intOf iv).toNat)
   case atStart => exact ⟨0, Nat.zero_le _, rfl, R1.out.base (Nat.zero_le _), fun b hb => (R1.out.low b hb).1, Lib.hid rfl, C1.out⟩
   case round =>
    obtain ⟨k, hk, rfl, hr, hlow, hlb, hc⟩ := hrel
    have HR := Lib.hid hr
    have HLOW := Lib.hid hlow
    have HC := Lib.hid hc
    have HWW := Lib.hid (HW3.out.tr hc)
    obtain ⟨uo, uc, rfl⟩ := hr.shape
    have hlk : ((Plain.linksP g p).take k).length = k := by rw [List.length_take, Plain.linksP_len]; omega
    rw [hlk] at HR HLOW ⊢
    clear hr hlow
    by_cases hlt : k < p.e.length
    ·have hne : p.e ≠ [] := fun q => by rw [q] at hlt; simp at hlt
     obtain ⟨rb, roff, rfl, hrc⟩ := HBC.out hne
     have rc := hrc k hlt
     have her := Plain.Pt.edge_in HER.out (Plain.getD_mem hlt)
     have HSN := Lib.hid (Plain.linksP_snoc (g := g) hlt)
     have HLB := Lib.hid (Plain.loopB_succ (g := g) hlt)
     rw [hlb.out, Bool.false_or] at HLB
     obtain ⟨ei, hei⟩ : ∃ ei : Nat, p.e.getD k 0 = (ei : Int) := ⟨(p.e.getD k 0).toNat, by omega⟩
     rw [hei] at rc her HSN HLB
     have hel : ei < g.e.length := by omega
     obtain ⟨eb, eoff, rfl, hc0, hc1⟩ := HCE.out ei hel
     obtain ⟨hi1, hi2⟩ := HSM.out ei hel
     have hat : g.at (ei : Int) = g.ends ei := by grind [Plain.Gr.at]
     rw [hat] at HSN HLB
     obtain ⟨x, hx⟩ : ∃ x, (g.ends ei).1 = x := ⟨_, rfl⟩
     obtain ⟨y, hy⟩ : ∃ y, (g.ends ei).2 = y := ⟨_, rfl⟩
     rw [hx] at hc0 hi1 HSN HLB
     rw [hy] at hc1 hi2 HSN HLB
     have far : ∀ {b : Nat} {off : Nat} {v : Value}, w.cell? ⟨b, off, none⟩ = some v → b ∉ foot (.slice uo k uc) := fun h q => by
      have h1 := HLOW.out _ q
      have h2 := World.block_lt_of_cell? w _ h
      have h3 := HW3.out.size
      simp at h2
      omega
     have hebn := far hc0
     have hx1n : w.heap.size ∉ foot (.slice uo k uc) := fun q => by have := HLOW.out _ q; omega
     have rcell := HWW.out.cel rc
     have c0 := HWW.out.cel hc0
     have c1 := HWW.out.cel hc1
     have x1 := HC.out.cel x1
     have hk10 : k < 1000 := by omega
     have eik : (ei : Int) < 1024 := by have := (Plain.Gr.err_ok (Plain.Pt.err_ok HER.out).1); omega
     have hIE : I64 (ei : Int) := I64.mk (by omega) (by omega)
     clear hrc rc hei hc0 hc1 hat hx hy far her hlb
     go_wp2_with fail
     have hS0 : Chg [] wr wr.drew := (Chg.refl [] wr).drew
     refine wp_region_way (Chg [] wr) [0, 1, 2, 3, 4, 5, 6, 7, 8, 9, 10, 11, 12] (Way.line [0, 1, 2, 3, 4, 5, 6, 7, 8, 9, 10, 11, 12] .done) (by kernel_rfl) (by kernel_rfl) ?_
     simp only [Way.line]
     repeat
      first
       | (refine along_off rfl (by rfl) (by rfl) (fun _ _ _ h => h) hS0 ?_; simp only [Act.put, Z1, Z2, Z3, Z4, Z5, Z6])
       | (refine along_read (v := ?_) rfl (by rfl) (by rfl) (fun _ _ _ h => h) hS0 (fun w' hS' => ?_) ?_; rotate_left; (focus (have rd0 := hS'.cell x1 (by simp); have rd1 := hS'.cell c0 (by simp); have rd2 := hS'.cell c1 (by simp); clear hS'; go_simp; try with_reducible rfl)); simp only [Act.put, Z1, Z2, Z3, Z4, Z5, Z6])
       | (refine along_skip rfl (by rfl) (by rfl) hS0 ?_; simp only [Act.put, Z1, Z2, Z3, Z4, Z5, Z6])
     refine along_done ?_
     by_cases hxy : x = y
     ·have bxy : (x == y) = true := by simpa using hxy
      have HE := Lib.hid (show Plain.newErr g p = 16 by rw [HNE.out, if_neg (by simp), if_neg (by simp), if_pos (Plain.loopB_all (k := k + 1) (by rw [HLB.out, bxy]))])
      clear x1 c0 c1 rcell hxy
      go_wp2
      refine bodyPost_ret (v := .tuple #[.pointer none, .int .i64 16]) (by simp [results, Tryz.results14, go_sem]) rfl ?_
      exact ⟨HWW.out.tr hS0, fun _ => by rw [HE.out], fun q => by rw [HE.out] at q; cases q⟩
     have bxy : (x == y) = false := by simpa using hxy
     rw [bxy] at HLB
     have HWR := Lib.hid hS0
     have x1 := hS0.cel x1
     have c0 := hS0.cel c0
     have c1 := hS0.cel c1
     have HR1 := Lib.hid (HR.out.fresh hS0)
     clear hS0 rcell
     go_wp2_with fail
     generalize wr.drew = wt at *
     have hSB : Chg (foot (.slice uo k uc)) wt wt.drew := (Chg.refl _ wt).drew
     refine wp_region_way (Chg (foot (.slice uo k uc)) wt) [0, 1, 2, 3, 4, 5, 6, 7, 8, 9, 10, 11, 12, 13, 14] (Way.line [0, 1, 2, 3, 4, 5, 6, 7, 8, 9, 10, 11, 12, 13, 14, 15, 16, 17] .done) (by kernel_rfl) (by kernel_rfl) ?_
     simp only [Way.line]
     repeat
      first
       | (refine along_off rfl (by rfl) (by rfl) (fun _ _ _ h => h) hSB ?_; simp only [Act.put, Z1, Z2, Z3, Z4, Z5, Z6])
       | (refine along_read (v := ?_) rfl (by rfl) (by rfl) (fun _ _ _ h => h) hSB (fun w' hS' => ?_) ?_; rotate_left; (focus (have rd0 := hS'.cell x1 (by first | exact hx1n | exact hebn); have rd1 := hS'.cell c0 (by first | exact hx1n | exact hebn); have rd2 := hS'.cell c1 (by first | exact hx1n | exact hebn); clear hS'; go_simp; try with_reducible rfl)); simp only [Act.put, Z1, Z2, Z3, Z4, Z5, Z6])
       | (refine along_skip rfl (by rfl) (by rfl) hSB ?_; simp only [Act.put, Z1, Z2, Z3, Z4, Z5, Z6])
     refine along_op rfl (by rfl) (by rfl) (fun K hK => ?_)
     simp only [List.getElem_toArray, List.getElem_cons_zero, List.getElem_cons_succ]
     refine op_litL (.tmp 61) rfl (L := ⟨x, y, ei⟩) rfl ⟨hi1, hi2, hIE⟩ fun v5 w5 r5 c5 f5 => ?_
     have ca : Chg [] wt w5 := (Chg.refl [] wt).drew.tr c5
     have R5 := Lib.hid r5
     have CA := Lib.hid ca
     refine hK.out _ _ (fun _ => ca.mono (by simp)) ?_
     clear hK K r5 c5
     try simp only [Act.put, List.setIfInBounds_toArray, List.set_cons_zero, List.set_cons_succ]
     refine along_op rfl (by rfl) (by rfl) (fun K hK => ?_)
     simp only [List.getElem_toArray, List.getElem_cons_zero, List.getElem_cons_succ]
     refine op_catL (.tmp 47) (.tmp 62) rfl (v := .slice uo k uc) (u := v5) (l := (Plain.linksP g p).take k) (m := [⟨x, y, ei⟩]) rfl rfl (HR1.out.fresh ca) R5.out (by rw [hlk]; simp; omega) fun v7 w7 r7 c7 f7 => ?_
     rw [← HSN.out] at r7
     have R7 := Lib.hid r7
     have C7 := Lib.hid c7
     have F7 := Lib.hid f7
     obtain ⟨vo, vc, rfl⟩ := r7.shape
     have hlk2 : ((Plain.linksP g p).take (k + 1)).length = k + 1 := by rw [List.length_take, Plain.linksP_len]; omega
     rw [hlk2] at R7 F7 ⊢
     refine hK.out _ _ (fun _ => (ca.mono (by simp)).trans c7 fun j hj => Or.inl hj) ?_
     clear hK K r7 c7 f7 f5 ca
     try simp only [Act.put, List.setIfInBounds_toArray, List.set_cons_zero, List.set_cons_succ]
     refine along_op rfl (by rfl) (by rfl) (fun K hK => ?_)
     go_simp
     refine hK.out _ _ (fun h => absurd h (Bool.eq_false_iff.1 (by kernel_rfl))) ?_
     clear hK K
     try simp only [Act.put, Z1, Z2, Z3, Z4, Z5, Z6]
     refine along_done ?_
     have HC8 := Lib.hid (show Chg [] w3 w7 from ((HC.out.tr HWR.out).tr CA.out).trans C7.out fun j hj => Or.inr (HLOW.out j hj))
     have HL8 := Lib.hid (show ∀ b ∈ foot (.slice vo (k + 1) vc), w3.heap.size ≤ b from fun b hb => (F7.out b hb).elim (fun q => HLOW.out b q) fun q => Nat.le_trans ((HC.out.tr HWR.out).tr CA.out).size q)
     clear x1 c0 c1 hx1n hebn
     go_wp2
     go_roundw
     case rel => exact ⟨k + 1, by omega, by go_num, R7.out, HL8.out, Lib.hid HLB.out, HC8.out⟩
     case measure => simp [intOf]; omega
    have e : k = p.e.length := by omega
    subst e
    have HE0 := Lib.hid (show Plain.newErr g p = 0 by rw [HNE.out, if_neg (by simp), if_neg (by simp), if_neg (by rw [hlb.out]; simp)])
    have HTN := Lib.hid (Plain.tree_new HER.out)
    obtain ⟨K, hK⟩ : ∃ K, Plain.linksP g p = K := ⟨_, rfl⟩
    have HKK := Lib.hid hK
    have hKL : K.length = p.e.length := by rw [← hK, Plain.linksP_len]
    rw [List.take_of_length_le (by rw [Plain.linksP_len]; exact Nat.le_refl _), hK] at HR
    rw [hK] at HTN
    obtain ⟨m, hm⟩ : ∃ m : Nat, (Plain.cutT K).2 = -(m : Int) := ⟨(-(Plain.cutT K).2).toNat, by have := HTN.out.2.2.1; omega⟩
    have hm2 : m ≤ 10000 := by have := HTN.out.2.2.2; omega
    have HMM := Lib.hid hm
    have HSZ := Lib.hid HTN.out.1.size
    have HSZ2 := Lib.hid (HTN.out.1.mergeK m).size
    clear hlt hlk hlb hK x1
    go_wp2_with fail
    refine (tcut_any _ K 0 _ (by omega) HR.out).mono ?_
    rw [hm]
    rintro e w5 ⟨nv, vs, rfl, hnr, hc5⟩
    have HN5 := Lib.hid (hnr.base (B := w.heap.size) (by have := HWW.out.size; exact this))
    have HC5 := Lib.hid (HWW.out.tr hc5)
    have HL5 := Lib.hid (show ∀ b ∈ nv.ownBlock.toList, w.heap.size ≤ b from fun b hb => by have := (hnr.out.lt b (by simpa using hb)).1; have := HWW.out.size; omega)
    clear hnr hc5 hm
    go_wp2_with fail
    refine (tmerge_any nv vs _ m w.heap.size _ (by omega) (by have := HSZ.out; omega) (by have := HSZ.out; omega) HC5.out.size HN5.out).mono ?_
    rintro e w6 ⟨nv6, vs6, rfl, hn6, hc6⟩
    obtain ⟨G, hG⟩ : ∃ G, Plain.mergeK (Plain.cutT K).1 m = G := ⟨_, rfl⟩
    have HGG := Lib.hid hG
    rw [hG] at hn6 HSZ2
    obtain ⟨no, nc, rfl⟩ := hn6.shape
    have HN6 := Lib.hid hn6
    have HC6 := Lib.hid (HC5.out.trans hc6 fun j hj => Or.inr (HL5.out j hj))
    have hGn : G.length ≤ 1001 := by have := HSZ2.out; omega
    have hGl : ∀ i, i < G.length → (Plain.nd0 G i).l.length ≤ 1000000 := fun i hi => by have := Plain.sumK_one hi; have := HSZ2.out; omega
    clear hn6 hc6 hG
    go_wp2_with fail
    refine (sortNd_any _ vs6 G w.heap.size _ HN6.out (by omega) hGl).mono ?_
    rintro e w7 ⟨rfl, vs7, ns, hn7, hp7, ho7, hc7⟩
    have HN7 := Lib.hid hn7
    have HP7 := Lib.hid hp7
    have HO7 := Lib.hid ho7
    have hl7 : ns.length = G.length := hp7.length_eq
    have HC7 := Lib.hid (HC6.out.trans hc7 fun j hj => Or.inr (HN6.out.out.lt j (by simpa using hj)).1)
    have HBX := Lib.hid (heap_alloc_new w7 (.cells #[.slice no G.length nc, .slice none 0 0] 73))
    have HCX := Lib.hid ((Chg.refl [] w7).alloc (.cells #[.slice no G.length nc, .slice none 0 0] 73))
    have HN8 := Lib.hid (HN7.out.fresh HCX.out)
    clear hn7 hp7 ho7 hc7 hl7 hGl
    go_wp2_with fail
    have HTS := Lib.hid (Plain.tree_ns (g := g) HER.out (ns := ns) (m := m) (by rw [HKK.out, HGG.out]; exact HP7.out))
    have HSN := Lib.hid HTS.out.1.size
    have hge : (g.e.length : Int) ≤ 1024 := by have := Plain.Gr.err_ok (Plain.Pt.err_ok HER.out).1; omega
    have hlt7 : ∀ {b : Nat}, b < w7.heap.size → b ∉ [w7.heap.size] := fun h q => by rw [List.mem_singleton.1 q] at h; omega
    refine (number_any w7.heap.size _ vs7 ns w.heap.size _ HBX.out HN8.out (by have := HSN.out; omega) (by have := HSN.out; omega) (fun i hi x hx => by
     have := HTS.out.2 i hi x.id (List.mem_map.2 ⟨x, hx, rfl⟩)
     omega)).mono ?_
    rintro e w9 ⟨rfl, rs, ms, vs9, ev, h1, h2, h3, h4, h5, h6, h7, h8⟩
    have HEND := Lib.hid (show TreeAt w9 w.heap.size w7.heap.size ms rs from ⟨HC7.out.size, _, _, _, h5, h7, owns_base h6 (by have := HCX.out.size; have := HC7.out.size; omega)⟩)
    have HOF := Lib.hid (show Plain.TreeOf g p ms rs from ⟨ns, by rw [HKK.out, HMM.out, show (-(-(m : Int))).toNat = m by omega, HGG.out]; exact HP7.out, HO7.out, h1, h2, h3, h4⟩)
    have HC9 := Lib.hid (show Chg [] w w9 from (HC7.out.tr HCX.out).trans h8 fun j hj => Or.inr (by
     rcases List.mem_cons.1 hj with q | q
     ·have := HC7.out.size; omega
     exact (HN8.out.out.lt j (by simpa using q)).1))
    clear h1 h2 h3 h4 h5 h6 h7 h8 hlt7
    go_wp2
    refine bodyPost_ret (v := .tuple #[.pointer (some ⟨w7.heap.size, 0, none⟩), .int .i64 0]) (by simp [results, Tryz.results14, go_sem]) rfl ?_
    exact ⟨HC9.out, fun q => absurd HE0.out q, fun _ => ⟨_, ms, rs, rfl, HEND.out, HOF.out⟩⟩
  rw [Bool.not_eq_true] at hs
  rw [hs] at HNE ⊢
  clear hs
  have HE := Lib.hid (show Plain.newErr g p = 10 by rw [HNE.out]; rfl)
  clear x0 x1 y0 y1
  go_wp2
  refine bodyPost_ret (v := .tuple #[.pointer none, .int .i64 10]) (by simp [results, Tryz.results14, go_sem]) rfl ?_
  exact ⟨HC1.out.tr HC3.out, fun _ => by rw [HE.out], fun q => by rw [HE.out] at q; cases q⟩
 have HE := Lib.hid (show Plain.newErr g p = p.err g by rw [HNE.out, if_pos he])
 obtain ⟨er, her⟩ : ∃ er, p.err g = er := ⟨_, rfl⟩
 rw [her] at he HE ⊢
 have be : (er != 0) = true := by simpa using he
 go_wp2
 refine bodyPost_ret (v := .tuple #[.pointer none, .int .i64 er]) (by simp [results, Tryz.results14, go_sem]) rfl ?_
 exact ⟨HC1.out.tr HC2.out, fun _ => by rw [HE.out], fun q => absurd (HE.out.symm.trans q) he⟩
end Go.Proofs.YtpcgklagmcnhaaaGreat
namespace Go.Proofs.YtpcgklagmcnhaaaGreat.Plain
def g15 : Gr := ⟨4, [(0, 1), (1, 2), (2, 3), (3, 0), (0, 2)]⟩
def p15 : Pt := ⟨[0, 1, 2, 3], [0, 1, 2, 3, 4]⟩
def lA : List Lk := [⟨0, 1, 0⟩, ⟨1, 2, 1⟩, ⟨2, 3, 2⟩, ⟨3, 0, 3⟩, ⟨0, 2, 4⟩]
def lB : List Lk := [⟨0, 1, 0⟩, ⟨1, 2, 1⟩, ⟨0, 2, -1⟩]
def lC : List Lk := [⟨2, 3, 2⟩, ⟨3, 0, 3⟩, ⟨0, 2, 4⟩, ⟨0, 2, -1⟩]
def lD : List Lk := [⟨2, 3, 2⟩, ⟨3, 0, 3⟩, ⟨0, 2, -2⟩]
def lF : List Lk := [⟨0, 2, 4⟩, ⟨0, 2, -1⟩, ⟨0, 2, -2⟩]
theorem tidy_eq {l m : List Int} (h : m.Pairwise (· < ·)) (hm : ∀ x, x ∈ l ↔ x ∈ m) : tidy l = m := rise_ext (tidy_ok l).1 h fun x => by rw [(tidy_ok l).2, hm]
theorem ptA : ptK lA = ⟨[0, 1, 2, 3], [0, 1, 2, 3, 4]⟩ := by
 unfold ptK bspan
 rw [tidy_eq (m := [0, 1, 2, 3]) (by decide) (fun x => by
  rw [show endsL (grK lA) (ixs lA.length) = [0, 1, 1, 2, 2, 3, 3, 0, 0, 2] by decide]
  simp only [List.mem_cons, List.not_mem_nil, or_false]
  omega)]
 rfl
theorem ptB : ptK lB = ⟨[0, 1, 2], [0, 1, 2]⟩ := by
 unfold ptK bspan
 rw [tidy_eq (m := [0, 1, 2]) (by decide) (fun x => by
  rw [show endsL (grK lB) (ixs lB.length) = [0, 1, 1, 2, 0, 2] by decide]
  simp only [List.mem_cons, List.not_mem_nil, or_false]
  omega)]
 rfl
theorem ptC : ptK lC = ⟨[0, 2, 3], [0, 1, 2, 3]⟩ := by
 unfold ptK bspan
 rw [tidy_eq (m := [0, 2, 3]) (by decide) (fun x => by
  rw [show endsL (grK lC) (ixs lC.length) = [2, 3, 3, 0, 0, 2, 0, 2] by decide]
  simp only [List.mem_cons, List.not_mem_nil, or_false]
  omega)]
 rfl
theorem ptD : ptK lD = ⟨[0, 2, 3], [0, 1, 2]⟩ := by
 unfold ptK bspan
 rw [tidy_eq (m := [0, 2, 3]) (by decide) (fun x => by
  rw [show endsL (grK lD) (ixs lD.length) = [2, 3, 3, 0, 0, 2] by decide]
  simp only [List.mem_cons, List.not_mem_nil, or_false]
  omega)]
 rfl
theorem ptF : ptK lF = ⟨[0, 2], [0, 1, 2]⟩ := by
 unfold ptK bspan
 rw [tidy_eq (m := [0, 2]) (by decide) (fun x => by
  rw [show endsL (grK lF) (ixs lF.length) = [0, 2, 0, 2, 0, 2] by decide]
  simp only [List.mem_cons, List.not_mem_nil, or_false]
  omega)]
 rfl
theorem right_of {l : List Lk} {p : Pt} (hp : ptK l = p) (hw : wholeB l = true) (he : p.err (grK l) = 0) (h1 : (findAll (grK l) p).bl.length = 1) (hv : ∀ v ∈ p.v, ∃ d ∈ p.darts, (grK l).tail d = v) : rightK l = true := by
 unfold rightK
 rw [hw, Bool.true_and, solidB_iff, hp]
 exact ⟨he, (one_block (Pt.ok_of_err he)).1 ⟨h1, hv⟩⟩
theorem rightA : rightK lA = true := right_of ptA (by kernel_rfl) (by kernel_rfl) (by kernel_rfl) (by decide)
theorem rightB : rightK lB = true := right_of ptB (by kernel_rfl) (by kernel_rfl) (by kernel_rfl) (by decide)
theorem rightC : rightK lC = true := right_of ptC (by kernel_rfl) (by kernel_rfl) (by kernel_rfl) (by decide)
theorem rightD : rightK lD = true := right_of ptD (by kernel_rfl) (by kernel_rfl) (by kernel_rfl) (by decide)
theorem rightF : rightK lF = true := right_of ptF (by kernel_rfl) (by kernel_rfl) (by kernel_rfl) (by decide)
theorem cutsA : 2 ∈ cutsB (grK lA) ⟨[1, 2, 3], [1, 2]⟩ := by
 have h1 : (findAll (grK lA) ⟨[1, 2, 3], [1, 2]⟩).bl = [[2], [1]] := by kernel_rfl
 have b2 : blkV (grK lA) ⟨[1, 2, 3], [1, 2]⟩ 2 = [2, 3] := by
  unfold blkV bspan
  rw [h1]
  exact tidy_eq (by decide) fun x => by
   rw [show endsL (grK lA) (blAt [[2], [1]] 2) = [2, 3] by decide]
 have b1 : blkV (grK lA) ⟨[1, 2, 3], [1, 2]⟩ 1 = [1, 2] := by
  unfold blkV bspan
  rw [h1]
  exact tidy_eq (by decide) fun x => by
   rw [show endsL (grK lA) (blAt [[2], [1]] 1) = [1, 2] by decide]
 have hk : (keysB (grK lA) ⟨[1, 2, 3], [1, 2]⟩).Perm [2, 1] := by
  unfold keysB
  rw [h1]
  exact List.mergeSort_perm _ _
 unfold cutsB
 rw [if_neg (by decide)]
 refine List.mem_filter.2 ⟨by decide, ?_⟩
 rw [decide_eq_true_iff, (hk.flatMap_right _).count_eq, List.flatMap_cons, List.flatMap_cons, List.flatMap_nil, b2, b1]
 decide
theorem firstA : firstK lA = some (0, 2, [0, 1]) := by
 have hr : restU (grK lA) ⟨[0, 1, 2, 3], [0, 1, 2, 3, 4]⟩ 0 = ⟨[1, 2, 3], [1, 2]⟩ := by kernel_rfl
 have hb : ∃ r, besideK (grK lA) ⟨[0, 1, 2, 3], [0, 1, 2, 3, 4]⟩ 0 = 2 :: r ∨ besideK (grK lA) ⟨[0, 1, 2, 3], [0, 1, 2, 3, 4]⟩ 0 = 1 :: 2 :: r := by
  unfold besideK
  rw [hr]
  have h2 : (!(decide ((2 : Int) < 0) || (decide ((goU (grK lA) [0, 1, 2, 3, 4] 0).count 2 < 2) && !decide (2 ∈ cutsB (grK lA) ⟨[1, 2, 3], [1, 2]⟩)))) = true := by
   rw [decide_eq_true cutsA]; simp
  simp only [List.filter_cons, h2, if_true]
  split
  ·exact ⟨_, Or.inr rfl⟩
  exact ⟨_, Or.inl rfl⟩
 have c1 : firstC lA 0 1 = none := by kernel_rfl
 have c2 : firstC lA 0 2 = some (0, 2, [0, 1]) := by kernel_rfl
 unfold firstK
 rw [if_pos ⟨rightA, by kernel_rfl⟩, ptA]
 have h0 : firstV lA 0 = some (0, 2, [0, 1]) := by
  unfold firstV
  rw [ptA]
  obtain ⟨r, e | e⟩ := hb
  ·rw [e, List.findSome?_cons, c2]
  rw [e, List.findSome?_cons, c1]
  dsimp only
  rw [List.findSome?_cons, c2]
 rw [List.findSome?_cons, h0]
theorem firstC' : firstK lC = some (0, 2, [0, 1]) := by
 have c2 : firstC lC 0 2 = some (0, 2, [0, 1]) := by kernel_rfl
 have hr : restU (grK lC) ⟨[0, 2, 3], [0, 1, 2, 3]⟩ 0 = ⟨[2, 3], [0]⟩ := by kernel_rfl
 have hb : ∃ r, besideK (grK lC) ⟨[0, 2, 3], [0, 1, 2, 3]⟩ 0 = 2 :: r := by
  unfold besideK
  rw [hr]
  have h2 : (!(decide ((2 : Int) < 0) || (decide ((goU (grK lC) [0, 1, 2, 3] 0).count 2 < 2) && !decide (2 ∈ cutsB (grK lC) ⟨[2, 3], [0]⟩)))) = true := by
   rw [show decide ((goU (grK lC) [0, 1, 2, 3] 0).count 2 < 2) = false by decide]; simp
  simp only [List.filter_cons, h2, if_true]
  exact ⟨_, rfl⟩
 unfold firstK
 rw [if_pos ⟨rightC, by kernel_rfl⟩, ptC]
 have h0 : firstV lC 0 = some (0, 2, [0, 1]) := by
  unfold firstV
  rw [ptC]
  obtain ⟨r, e⟩ := hb
  rw [e, List.findSome?_cons, c2]
 rw [List.findSome?_cons, h0]
theorem firstB : firstK lB = none := by
 unfold firstK
 rw [if_neg fun h => by have := h.2; revert this; decide]
theorem firstD : firstK lD = none := by
 unfold firstK
 rw [if_neg fun h => by have := h.2; revert this; decide]
theorem firstF : firstK lF = none := by
 unfold firstK
 rw [if_pos ⟨rightF, by kernel_rfl⟩, ptF]
 have c1 : firstC lF 0 2 = none := by kernel_rfl
 have c2 : firstC lF 2 0 = none := by kernel_rfl
 have hr : restU (grK lF) ⟨[0, 2], [0, 1, 2]⟩ 0 = ⟨[2], []⟩ := by kernel_rfl
 have hr2 : restU (grK lF) ⟨[0, 2], [0, 1, 2]⟩ 2 = ⟨[0], []⟩ := by kernel_rfl
 rw [List.findSome?_eq_none_iff]
 intro u hu
 unfold firstV
 rw [ptF, List.findSome?_eq_none_iff]
 intro v hv
 have hv2 := (List.mem_filter.1 hv).1
 simp only [List.mem_cons, List.not_mem_nil, or_false] at hu
 rcases hu with rfl | rfl
 ·rw [hr] at hv2
  rw [List.mem_singleton.1 hv2]; exact c1
 rw [hr2] at hv2
 rw [List.mem_singleton.1 hv2]; exact c2
theorem kindB : (kindK lB).1 = 1 := by
 unfold kindK
 rw [rightB, if_neg (by decide), if_neg (by decide), if_pos (by kernel_rfl)]
theorem kindD : (kindK lD).1 = 1 := by
 unfold kindK
 rw [rightD, if_neg (by decide), if_neg (by decide), if_pos (by kernel_rfl)]
theorem vertsB : vertsK lB = [0, 1, 2] := tidy_eq (by decide) fun x => by
 rw [show endsK lB = [0, 1, 1, 2, 0, 2] by rfl]
 simp only [List.mem_cons, List.not_mem_nil, or_false]
 omega
theorem vertsD : vertsK lD = [0, 2, 3] := tidy_eq (by decide) fun x => by
 rw [show endsK lD = [2, 3, 3, 0, 0, 2] by rfl]
 simp only [List.mem_cons, List.not_mem_nil, or_false]
 omega
theorem vertsF : vertsK lF = [0, 2] := tidy_eq (by decide) fun x => by
 rw [show endsK lF = [0, 2, 0, 2, 0, 2] by rfl]
 simp only [List.mem_cons, List.not_mem_nil, or_false]
 omega
theorem kindF' : (kindK lF).1 = 2 := by
 unfold kindK
 rw [rightF, if_neg (by decide), if_neg (by decide), if_neg (by decide), vertsF]
 rfl
theorem classR {l : List Lk} {u v : Int} (h1 : rightK l = true) (h2 : u ≠ v) (_hv : vertsK l = vertsK l) (h3 : u ∈ endsK l) (h4 : v ∈ endsK l) : classesR l u v = classesK l u v := by
 unfold classesR
 rw [if_neg]
 rintro (q | q | q | q)
 ·exact h2 q
 ·exact q ((tidy_ok _).2 u |>.2 h3)
 ·exact q ((tidy_ok _).2 v |>.2 h4)
 rw [h1] at q; cases q
theorem cutA : cutN lA 0 = some (lB, lC) := by
 unfold cutN cutK
 rw [firstA]
 show (if (classesR lA 0 2).contains [0, 1] = true ∧ _ then _ else _) = _
 rw [classR rightA (by decide) rfl (by decide) (by decide), if_pos (by decide)]
 rfl
theorem cutC : cutN lC (-1) = some (lD, lF) := by
 unfold cutN cutK
 rw [firstC']
 show (if (classesR lC 0 2).contains [0, 1] = true ∧ _ then _ else _) = _
 rw [classR rightC (by decide) rfl (by decide) (by decide), if_pos (by decide)]
 rfl
theorem cut15 : cutT (linksP g15 p15) = ([⟨1, lB⟩, ⟨1, lD⟩, ⟨2, lF⟩], -2) := by
 have e : linksP g15 p15 = lA := by rfl
 rw [e]
 show cutF (11 + 1) [lA] [] 0 = _
 rw [cutF_cut cutA]
 rw [show (11 : Nat) = 10 + 1 from rfl, cutF_done (by unfold cutN; rw [firstB]; rfl), kindB]
 rw [show (10 : Nat) = 9 + 1 from rfl, show (0 : Int) - 1 = -1 from rfl, cutF_cut cutC]
 rw [show (9 : Nat) = 8 + 1 from rfl, cutF_done (by unfold cutN; rw [firstD]; rfl), kindD]
 rw [show (8 : Nat) = 7 + 1 from rfl, cutF_done (by unfold cutN; rw [firstF]; rfl), kindF']
 rfl
theorem err15 : p15.err g15 = 0 := by kernel_rfl
theorem solid15 : solidB g15 p15 = true := solidB_iff.2 ⟨err15, (one_block (Pt.ok_of_err err15)).1 ⟨by kernel_rfl, by decide⟩⟩
theorem new15 : newErr g15 p15 = 0 := by
 unfold newErr
 rw [if_neg (by rw [err15]; simp), if_neg (by rw [solid15]; simp), if_neg (by decide)]
theorem merge15 : mergeK [⟨1, lB⟩, ⟨1, lD⟩, ⟨2, lF⟩] 2 = [⟨1, lB⟩, ⟨1, lD⟩, ⟨2, lF⟩] := by decide
theorem tree15 {ms : List Nd} {rs : List T3} (h : TreeOf g15 p15 ms rs) : ms.length = 3 ∧ (nd0 ms 1).kind = 2 ∧ (nd0 ms 1).l.length = 3 ∧ (at0 (nd0 ms 1).l 0).id = 4 := by
 obtain ⟨ns, hp, ho, hrs, hn, -, hd⟩ := h
 rw [cut15] at hp
 rw [show (-(-2 : Int)).toNat = 2 by decide, merge15] at hp
 have e : ns = [⟨1, lB⟩, ⟨2, lF⟩, ⟨1, lD⟩] := by
  refine (hp.trans (show List.Perm _ [⟨1, lB⟩, ⟨2, lF⟩, ⟨1, lD⟩] from (List.Perm.swap _ _ _).cons _)).eq_of_pairwise (le := ordN) (fun x y hx hy h1 h2 => ?_) ho ?_
  ·have hx := hp.mem_iff.1 hx
   simp only [List.mem_cons, List.not_mem_nil, or_false] at hx hy
   unfold ordN at h1 h2
   rcases hx with rfl | rfl | rfl <;> rcases hy with rfl | rfl | rfl <;> (try rfl) <;> (simp only [vertsB, vertsD, vertsF] at h1 h2; first | exact absurd (by decide) h1 | exact absurd (by decide) h2)
  refine List.Pairwise.cons (fun y hy => ?_) (List.Pairwise.cons (fun y hy => ?_) (List.pairwise_singleton _ _))
  ·simp only [List.mem_cons, List.not_mem_nil, or_false] at hy
   rcases hy with rfl | rfl <;> (simp only [ordN, vertsB, vertsD, vertsF]; decide)
  simp only [List.mem_cons, List.not_mem_nil, or_false] at hy
  rcases hy with rfl
  simp only [ordN, vertsD, vertsF]; decide
 subst e
 have h1 := hd.done 1 (by decide)
 have e1 : nd0 [⟨1, lB⟩, ⟨2, lF⟩, ⟨1, lD⟩] 1 = ⟨2, lF⟩ := rfl
 rw [e1] at h1
 have num : ∀ v : Int, v = -1 ∨ v = -2 → (numF rs rs.length v).getD 0 < 0 := fun v hv => by
  have : ∃ t ∈ rs, t.c = v := by
   rcases hv with rfl | rfl
   ·exact ⟨⟨0, 1, -1⟩, (hrs _).2 ⟨I64.mk (by decide) (by decide), by decide⟩, rfl⟩
   exact ⟨⟨1, 2, -2⟩, (hrs _).2 ⟨I64.mk (by decide) (by decide), by decide⟩, rfl⟩
  obtain ⟨t, ht, rfl⟩ := this
  obtain ⟨k, hk, rfl⟩ := List.getElem_of_mem ht
  have := numF_at hn _ (Nat.le_refl _) k hk
  rw [show t30 rs k = rs[k] by simp [t30, List.getD, hk]] at this
  rw [this, Option.getD_some]
  omega
 have hl : (nd0 ms 1).l.length = 3 := by rw [h1.2.1.length_eq]; rfl
 refine ⟨hd.len, h1.1, hl, ?_⟩
 have hpi := h1.2.1.map Lk.id
 have ha := num (-1) (Or.inl rfl)
 have hb := num (-2) (Or.inr rfl)
 generalize (nd0 ms 1).l = L at *
 match L, hl with
 | [x, y, z], _ =>
  have hm : ∀ i : Int, i ∈ [x.id, y.id, z.id] ↔ i = 4 ∨ i = (numF rs rs.length (-1)).getD 0 ∨ i = (numF rs rs.length (-2)).getD 0 := fun i => by
   have := hpi.mem_iff (a := i)
   simpa [lF, renK] using this
  have ho := h1.2.2
  simp only [List.pairwise_cons, List.mem_cons, List.not_mem_nil, or_false, forall_eq_or_imp, forall_eq] at ho
  show x.id = 4
  have hx := (hm x.id).1 (by simp)
  rcases hx with q | q
  ·exact q
  exfalso
  have hneg : x.id < 0 := by rcases q with q | q <;> rw [q] <;> assumption
  have h4 := (hm 4).2 (Or.inl rfl)
  simp only [List.mem_cons, List.not_mem_nil, or_false] at h4
  unfold ordK at ho
  rcases h4 with q2 | q2 | q2
  ·omega
  ·have := ho.1.1
   rw [← q2, if_neg (by omega)] at this
   omega
  have := ho.1.2
  rw [← q2, if_neg (by omega)] at this
  omega
end Go.Proofs.YtpcgklagmcnhaaaGreat.Plain
namespace Go.Proofs.YtpcgklagmcnhaaaGreat
open Go.RowKit Go.Maps
set_option maxRecDepth 100000 in
set_option maxHeartbeats 4000000 in
theorem awake15_any (w : World) : Calls Tryz.prog 7 #[] w fun e w' => e = .returned (.bool true) ∧ Chg [] w w' := by
 have HXC := Lib.hid (show Chg [] w ((w.alloc (.cells #[.int .i64 0, .int .i64 1, .int .i64 1, .int .i64 2, .int .i64 2, .int .i64 3, .int .i64 3, .int .i64 0, .int .i64 0, .int .i64 2] 53)).alloc (.cells #[.int .i64 4, .slice (some ⟨w.heap.size, 0, none⟩) 5 5] 41)) from (show Chg [] w ((w.alloc (.cells #[.int .i64 0, .int .i64 1, .int .i64 1, .int .i64 2, .int .i64 2, .int .i64 3, .int .i64 3, .int .i64 0, .int .i64 0, .int .i64 2] 53)).alloc (.cells #[.int .i64 4, .slice (some ⟨w.heap.size, 0, none⟩) 5 5] 41)) from (((Chg.refl [] w).alloc _).alloc _)))
 have qbx0 := heap_alloc_new w (.cells #[.int .i64 0, .int .i64 1, .int .i64 1, .int .i64 2, .int .i64 2, .int .i64 3, .int .i64 3, .int .i64 0, .int .i64 0, .int .i64 2] 53)
 replace qbx0 := (show Chg [] (w.alloc (.cells #[.int .i64 0, .int .i64 1, .int .i64 1, .int .i64 2, .int .i64 2, .int .i64 3, .int .i64 3, .int .i64 0, .int .i64 0, .int .i64 2] 53)) ((w.alloc (.cells #[.int .i64 0, .int .i64 1, .int .i64 1, .int .i64 2, .int .i64 2, .int .i64 3, .int .i64 3, .int .i64 0, .int .i64 0, .int .i64 2] 53)).alloc (.cells #[.int .i64 4, .slice (some ⟨w.heap.size, 0, none⟩) 5 5] 41)) from ((Chg.refl [] (w.alloc (.cells #[.int .i64 0, .int .i64 1, .int .i64 1, .int .i64 2, .int .i64 2, .int .i64 3, .int .i64 3, .int .i64 0, .int .i64 0, .int .i64 2] 53))).alloc _)).heap qbx0 (by simp)
 have qbx1 := heap_alloc_new (w.alloc (.cells #[.int .i64 0, .int .i64 1, .int .i64 1, .int .i64 2, .int .i64 2, .int .i64 3, .int .i64 3, .int .i64 0, .int .i64 0, .int .i64 2] 53)) (.cells #[.int .i64 4, .slice (some ⟨w.heap.size, 0, none⟩) 5 5] 41)
 rw [show (w.alloc (.cells #[.int .i64 0, .int .i64 1, .int .i64 1, .int .i64 2, .int .i64 2, .int .i64 3, .int .i64 3, .int .i64 0, .int .i64 0, .int .i64 2] 53)).heap.size = w.heap.size + 1 by simp] at qbx1
 have HX := Lib.hid (fun (w2 : World) (hbx : Chg [] ((w.alloc (.cells #[.int .i64 0, .int .i64 1, .int .i64 1, .int .i64 2, .int .i64 2, .int .i64 3, .int .i64 3, .int .i64 0, .int .i64 0, .int .i64 2] 53)).alloc (.cells #[.int .i64 4, .slice (some ⟨w.heap.size, 0, none⟩) 5 5] 41)) w2) => (⟨hbx.heap qbx0 (by simp), hbx.cell ((cell_of_row _ _ 0 _ _ _ qbx1).trans rfl) (by simp), hbx.cell ((cell_of_row _ _ 1 _ _ _ qbx1).trans rfl) (by simp), by have hz := hbx.size; simpa using hz⟩ : w2.heap[w.heap.size]? = some (.cells #[.int .i64 0, .int .i64 1, .int .i64 1, .int .i64 2, .int .i64 2, .int .i64 3, .int .i64 3, .int .i64 0, .int .i64 0, .int .i64 2] 53 (0, 0)) ∧ w2.cell? ⟨w.heap.size + 1, 0, none⟩ = some (.int .i64 4) ∧ w2.cell? ⟨w.heap.size + 1, 1, none⟩ = some (.slice (some ⟨w.heap.size, 0, none⟩) 5 5) ∧ w.heap.size + 2 ≤ w2.heap.size))
 clear qbx0 qbx1
 have HXZ := Lib.hid (show ((w.alloc (.cells #[.int .i64 0, .int .i64 1, .int .i64 1, .int .i64 2, .int .i64 2, .int .i64 3, .int .i64 3, .int .i64 0, .int .i64 0, .int .i64 2] 53)).alloc (.cells #[.int .i64 4, .slice (some ⟨w.heap.size, 0, none⟩) 5 5] 41)).heap.size = w.heap.size + 2 by simp)
 obtain ⟨rb, ra0, ra1, hsz⟩ := HX.out _ (Chg.refl _ _)
 go_enter Tryz.func7, Tryz.ntmps7
 go_wp2_with fail
 generalize ((w.alloc (.cells #[.int .i64 0, .int .i64 1, .int .i64 1, .int .i64 2, .int .i64 2, .int .i64 3, .int .i64 3, .int .i64 0, .int .i64 0, .int .i64 2] 53)).alloc (.cells #[.int .i64 4, .slice (some ⟨w.heap.size, 0, none⟩) 5 5] 41)) = w1 at *
 have HGR := Lib.hid (show GrAt w1 (.agg #[.int .i64 Plain.g15.n, .slice (some ⟨w.heap.size, 0, none⟩) 5 5]) Plain.g15 from by
  refine ⟨_, 5, rfl, I64.mk (by decide) (by decide), by decide, fun i hi => ?_, fun i hi => ?_⟩
  ·have hi : i < 5 := hi
   rcases (show i = 0 ∨ i = 1 ∨ i = 2 ∨ i = 3 ∨ i = 4 by omega) with rfl | rfl | rfl | rfl | rfl <;> exact ⟨I64.mk (by decide) (by decide), I64.mk (by decide) (by decide)⟩
  have hi : i < 5 := hi
  have hc := fun j => cell_of_row _ _ j _ _ _ rb
  rcases (show i = 0 ∨ i = 1 ∨ i = 2 ∨ i = 3 ∨ i = 4 by omega) with rfl | rfl | rfl | rfl | rfl <;> exact ⟨_, 0, rfl, (hc _).trans rfl, (hc _).trans rfl⟩)
 clear rb
 have hS0 : Chg [] w1 w1.drew := (Chg.refl [] w1).drew
 refine wp_region_way (Chg [] w1) [0, 1, 4, 5, 6, 7, 8] (Way.line [0, 1, 2, 3, 4, 5, 6, 7, 8] .done) (by kernel_rfl) (by kernel_rfl) ?_
 simp only [Way.line]
 repeat (refine along_read (v := ?_) rfl (by rfl) (by rfl) (fun _ _ _ h => h) hS0 (fun w' hS' => ?_) ?_; rotate_left; (focus (have rd0 := hS'.cell ra0 (by simp); have rd1 := hS'.cell ra1 (by simp); clear hS'; go_simp; try with_reducible rfl)); simp only [Act.put, Z1, Z2, Z3, Z4, Z5, Z6])
 refine along_op rfl (by rfl) (by rfl) (fun K hK => ?_)
 go_simp
 refine (whole_any _ Plain.g15 4 _ rfl (by decide) (by decide) (HGR.out.fresh hS0)).mono ?_
 rintro e w2 ⟨v1, v2, rfl, r1, r2, hcx⟩
 have hS1 := hS0.trans hcx (by simp)
 clear hS0 hcx
 have hS0 := hS1
 clear hS1
 refine hK.out _ _ (fun _ => hS0) ?_
 clear hK K
 try simp only [Act.put, Z1, Z2, Z3, Z4, Z5, Z6]
 have HP2 := Lib.hid (show PtAt w2 (.agg #[v1, v2]) Plain.p15 from ⟨v1, v2, rfl, r1.ints, r2.ints⟩)
 clear r1 r2
 refine along_op rfl (by rfl) (by rfl) (fun K hK => ?_)
 go_simp
 refine (tnew_any _ _ Plain.g15 Plain.p15 _ (by decide) (by decide) (HGR.out.fresh hS0) HP2.out).mono ?_
 rintro e w3 ⟨hc3, -, hyes⟩
 obtain ⟨pb, ms, rs, rfl, htr, hof⟩ := hyes Plain.new15
 have HC3 := Lib.hid (hS0.tr hc3)
 obtain ⟨hl3, hk1, hlen, hid0⟩ := Plain.tree15 hof
 obtain ⟨hpb, tv, tvs, tev, th, tn, -⟩ := htr
 have TN := Lib.hid tn
 have TH := Lib.hid th
 have HH := Lib.hid hid0
 obtain ⟨no, nc, rfl⟩ := tn.shape
 refine hK.out _ _ (fun _ => HC3.out) ?_
 clear hK K hc3 hyes hof hS0 HP2 HGR tn hid0
 try simp only [Act.put, Z1, Z2, Z3, Z4, Z5, Z6]
 have hS0 := HC3.out
 repeat (refine along_read (v := ?_) rfl (by rfl) (by rfl) (fun _ _ _ h => h) hS0 (fun w' hS' => ?_) ?_; rotate_left; (focus (skip; clear hS'; go_simp; try with_reducible rfl)); simp only [Act.put, Z1, Z2, Z3, Z4, Z5, Z6])
 refine along_done ?_
 have t0 := (cell_of_row _ _ 0 _ _ _ th).trans (show _ = some (Value.slice no ms.length nc) from rfl)
 clear hS0 th
 go_wp2_with fail
 refine (tnode_any pb _ tvs ms w2.heap.size 1 _ t0 TN.out (by omega) (by omega) (by omega)).mono ?_
 rintro e w4 ⟨nu, rfl, hrow, hc4⟩
 obtain ⟨uo, uc, rfl⟩ := hrow.shape
 obtain ⟨ug, ucap, eug⟩ := owns_some hrow.1 (by omega)
 simp only [Value.slice.injEq] at eug
 obtain ⟨rfl, -, -⟩ := eug
 obtain ⟨lo', lc', el, -, -, hcell⟩ := hrow.lks
 simp only [Value.slice.injEq] at el
 obtain ⟨e1, -, -⟩ := el
 subst e1
 obtain ⟨tb, toff, e1, -, -, q2⟩ := hcell 0 (by omega)
 simp only [Option.some.injEq, Addr.mk.injEq] at e1
 obtain ⟨rfl, rfl, -⟩ := e1
 rw [HH.out] at q2
 rw [hk1, hlen]
 have HC4 := Lib.hid (HC3.out.tr hc4)
 have HCX := Lib.hid ((Chg.refl [] w4).alloc (.cells #[.int .i64 2, .slice (some ⟨ug, 0, none⟩) 3 uc] 26))
 have HBX := Lib.hid (heap_alloc_new w4 (.cells #[.int .i64 2, .slice (some ⟨ug, 0, none⟩) 3 uc] 26))
 have t0 := HCX.out.cel (hc4.cel t0)
 have q2 := HCX.out.cel q2
 have n0 := (cell_of_row _ _ 0 _ _ _ HBX.out).trans (show _ = some (Value.int .i64 2) from rfl)
 have n1 := (cell_of_row _ _ 1 _ _ _ HBX.out).trans (show _ = some (Value.slice (some ⟨ug, 0, none⟩) 3 uc) from rfl)
 have HL3 := Lib.hid hl3
 clear hrow hc4 hcell hlen hk1 hl3
 go_wp2_with fail
 refine (tlen_any pb _ ms.length nc _ t0).mono ?_
 rw [HL3.out]
 rintro e w5 ⟨rfl, rfl⟩
 go_wp2
 go_ret
 exact ⟨rfl, (HXC.out.tr HC4.out).tr HCX.out⟩
theorem T2Row.cell {w : World} {B n c j : Nat} {ao : Option Addr} {l : List Plain.T3} (h : T2Row w B (.slice ao n c) l) (hj : j < l.length) : ∃ g, ao = some ⟨g, 0, none⟩ ∧ w.cell? ⟨g, j * 2, none⟩ = some (.int .i64 (Plain.t30 l j).a) ∧ w.cell? ⟨g, j * 2 + 1, none⟩ = some (.int .i64 (Plain.t30 l j).b) := by
 rcases h.2 with ⟨q, h0⟩ | ⟨g, cap, cur, q, hb, hh, hnc, hcm, hcs, hys⟩
 ·omega
 cases q
 have hat : ∀ i, i < 2 → (t2Cells l)[j * 2 + i]? = [Value.int .i64 (Plain.t30 l j).a, .int .i64 (Plain.t30 l j).b][i]? := fun i hi => by
  have h1 := flatMap_at (enc := fun t : Plain.T3 => [Value.int .i64 t.a, .int .i64 t.b]) (k := 2) (fun _ => rfl) l (j * 2 + i) (by omega)
  rw [show (j * 2 + i) / 2 = j by omega, show (j * 2 + i) % 2 = i by omega] at h1
  rw [show t2Cells l = l.flatMap fun t : Plain.T3 => [Value.int .i64 t.a, .int .i64 t.b] from rfl, h1]
  simp [Plain.t30, List.getD, hj]
 have hc : ∀ i, i < 2 → w.cell? ⟨g, j * 2 + i, none⟩ = [Value.int .i64 (Plain.t30 l j).a, .int .i64 (Plain.t30 l j).b][i]? := fun i hi => by
  rw [cell_of_row w _ (j * 2 + i) cur 75 (0, 0) hh, ← hat i hi, ← hys, List.getElem?_take, if_pos (by omega)]
  simp
 exact ⟨g, rfl, hc 0 (by decide), hc 1 (by decide)⟩
def Plain.mateV (rs : List Plain.T3) (i id : Int) : Int × Bool := if i = (Plain.t30 rs (-1 - id).toNat).a then ((Plain.t30 rs (-1 - id).toNat).b, true) else if i = (Plain.t30 rs (-1 - id).toNat).b then ((Plain.t30 rs (-1 - id).toNat).a, true) else (0, false)
set_option maxRecDepth 100000 in
set_option maxHeartbeats 4000000 in
theorem tmate_any (pb : Nat) (v ev : Value) (rs : List Plain.T3) (B : Nat) (i : Int) (k : Nat) (w : World) (h0 : w.heap[pb]? = some (.cells #[v, ev] 73 (0, 0))) (hr : T2Row w B ev rs) (hk : k < rs.length) (hn : rs.length ≤ 1000000) :
  Calls Tryz.prog 9 #[.pointer (some ⟨pb, 0, none⟩), .int .i64 i, .int .i64 (-1 - (k : Int))] w fun e w' => e = .returned (.tuple #[.int .i64 (Plain.mateV rs i (-1 - (k : Int))).1, .bool (Plain.mateV rs i (-1 - (k : Int))).2]) ∧ Chg [] w w' := by
 obtain ⟨eo, ec, rfl⟩ := hr.shape
 obtain ⟨g, rfl, q0, q1⟩ := hr.cell hk
 have hm : Plain.mateV rs i (-1 - (k : Int)) = if i = (Plain.t30 rs k).a then ((Plain.t30 rs k).b, true) else if i = (Plain.t30 rs k).b then ((Plain.t30 rs k).a, true) else (0, false) := by
  unfold Plain.mateV
  rw [show (-1 - (-1 - (k : Int))).toNat = k by omega]
 rw [hm]
 obtain ⟨x, hx⟩ : ∃ x, (Plain.t30 rs k).a = x := ⟨_, rfl⟩
 obtain ⟨y, hy⟩ : ∃ y, (Plain.t30 rs k).b = y := ⟨_, rfl⟩
 rw [hx] at q0 ⊢
 rw [hy] at q1 ⊢
 have c1 := (cell_of_row _ _ 1 _ _ _ h0).trans (show _ = some (Value.slice (some ⟨g, 0, none⟩) rs.length ec) from rfl)
 have HB := Lib.hid (heap_alloc_new w (.cells #[.int .i64 x, .int .i64 y] 75))
 have HC := Lib.hid ((Chg.refl [] w).alloc (.cells #[.int .i64 x, .int .i64 y] 75))
 have b0 := (cell_of_row _ _ 0 _ _ _ HB.out).trans (show _ = some (Value.int .i64 x) from rfl)
 have b1 := (cell_of_row _ _ 1 _ _ _ HB.out).trans (show _ = some (Value.int .i64 y) from rfl)
 have hneg : (-1 - (k : Int)) < 0 := by omega
 have hkk : -1 - (-1 - (k : Int)) = (k : Int) := by omega
 have hkb : ¬ ((rs.length : Int) ≤ k) := by omega
 obtain ⟨id, hid⟩ : ∃ id, -1 - (k : Int) = id := ⟨_, rfl⟩
 rw [hid] at hneg hkk ⊢
 clear hm hx hy h0 hr hid
 by_cases h1 : i = x
 ·rw [if_pos h1]
  have e1 : (i == x) = true := by simpa using h1
  clear h1
  go_enter Tryz.func9, Tryz.ntmps9
  go_wp2
  refine bodyPost_ret (v := .tuple #[.int .i64 y, .bool true]) (by simp [results, Tryz.results9, go_sem]) rfl ?_
  exact ⟨rfl, HC.out⟩
 rw [if_neg h1]
 have e1 : (i == x) = false := by simpa using h1
 by_cases h2 : i = y
 ·rw [if_pos h2]
  have e2 : (i == y) = true := by simpa using h2
  clear h1 h2
  go_enter Tryz.func9, Tryz.ntmps9
  go_wp2
  refine bodyPost_ret (v := .tuple #[.int .i64 x, .bool true]) (by simp [results, Tryz.results9, go_sem]) rfl ?_
  exact ⟨rfl, HC.out⟩
 rw [if_neg h2]
 have e2 : (i == y) = false := by simpa using h2
 clear h1 h2
 go_enter Tryz.func9, Tryz.ntmps9
 go_wp2
 refine bodyPost_ret (v := .tuple #[.int .i64 0, .bool false]) (by simp [results, Tryz.results9, go_sem]) rfl ?_
 exact ⟨rfl, HC.out⟩
end Go.Proofs.YtpcgklagmcnhaaaGreat
