/- pair.Right: contract. Conditions: links that lie in memory and read so. -/
import Derived.Test.YtpcgklagmcnhaaaGreatT9PairW
namespace Go.Proofs.YtpcgklagmcnhaaaGreat
open Go.RowKit Go.Maps
theorem Plain.ptK_small (l : List Plain.Lk) : (Plain.ptK l).v.length ≤ 2 * l.length := by
 have h : (Plain.ptK l).v.length ≤ (Plain.endsL (Plain.grK l) (Plain.ixs l.length)).length :=
  Plain.len_le_of_sub ((Plain.tidy_ok _).1.imp fun h e => by omega) fun x hx => ((Plain.tidy_ok _).2 x).1 hx
 rw [Plain.endsL_len, Plain.ixs_len] at h
 exact h
set_option maxRecDepth 100000 in
set_option maxHeartbeats 4000000 in
theorem pright_any (v : Value) (l : List Plain.Lk) (w : World) (hl : l.length ≤ 50000) (h : LksAt w v l) :
  Calls Tryz.prog 43 #[v] w fun e w' => e = .returned (.bool (Plain.rightK l)) ∧ Chg [] w w' := by
 have hpv := Plain.ptK_small l
 go_enter Tryz.func43, Tryz.ntmps43
 go_wp2_with fail
 refine (pwhole_any _ l _ (by omega) h).mono ?_
 rintro e w2 ⟨n, so, sn, sc, v1, v2, rfl, ⟨a1, n1, c1, rfl⟩, ⟨a2, n2, c2, rfl⟩, hgp, hc2⟩
 have HC2 := Lib.hid hc2
 clear hc2
 by_cases hw : Plain.wholeB l = true
 ·obtain ⟨hg, hp⟩ := hgp hw
  have HG := Lib.hid hg
  have HP := Lib.hid hp
  have HR := Lib.hid (show Plain.rightK l = Plain.solidB (Plain.grK l) (Plain.ptK l) by unfold Plain.rightK; rw [hw, Bool.true_and])
  rw [hw]
  clear hg hp hgp hw
  have HC3 := Lib.hid (((Chg.refl [] w2).alloc (.cells #[.int .i64 n, .slice so sn sc] 41)).alloc (.cells #[.slice a1 n1 c1, .slice a2 n2 c2] 43))
  go_wp2_with fail
  refine (bsolid_any _ _ (Plain.grK l) (Plain.ptK l) _ (by omega) (HG.out.fresh HC3.out) (HP.out.fresh HC3.out)).mono ?_
  rintro e w3 ⟨rfl, hc3⟩
  have HC4 := Lib.hid (HC2.out.tr (HC3.out.tr hc3))
  clear hc3
  go_wp2
  go_ret
  exact ⟨ret_bool HR.out.symm, HC4.out⟩
 rw [Bool.not_eq_true] at hw
 have HR := Lib.hid (show Plain.rightK l = false by unfold Plain.rightK; rw [hw]; rfl)
 rw [hw]
 have HC3 := Lib.hid (HC2.out.tr (((Chg.refl [] w2).alloc (.cells #[.int .i64 n, .slice so sn sc] 41)).alloc (.cells #[.slice a1 n1 c1, .slice a2 n2 c2] 43)))
 clear hgp hw
 go_wp2
 go_ret
 exact ⟨ret_bool HR.out.symm, HC3.out⟩
set_option maxRecDepth 100000 in
set_option maxHeartbeats 4000000 in
theorem pClasses_any (v : Value) (l : List Plain.Lk) (u x : Int) (w : World) (hl : l.length ≤ 50000) (hu : I64 u) (hx : I64 x) (h : LksAt w v l) :
  Calls Tryz.prog 104 #[v, .int .i64 u, .int .i64 x] w fun e w' => ∃ ov vs, e = .returned ov ∧ RowsOwn w' w.heap.size ov vs (Plain.classesR l u x) ∧ Chg [] w w' := by
 have H := Lib.hid h
 obtain ⟨lo, cap, rfl, -⟩ := h
 have HLE := Lib.hid (show (Plain.vertsK l).length ≤ 1000000 by
  have h : (Plain.vertsK l).length ≤ (Plain.endsK l).length := Plain.len_le_of_sub ((Plain.tidy_ok _).1.imp fun h e => by omega) fun x hx => ((Plain.tidy_ok _).2 x).1 hx
  rw [Plain.endsK_len] at h
  omega)
 have HVP := Lib.hid (show (Plain.vertsK l).Pairwise (· < ·) from (Plain.tidy_ok _).1)
 go_enter Tryz.func104, Tryz.ntmps104
 go_wp2_with fail
 refine (vertices_any _ l _ (by omega) H.out).mono ?_
 rintro e w2 ⟨ov, rfl, hr, hc⟩
 have HR := Lib.hid hr.ints
 have HC := Lib.hid hc
 clear hr hc
 have HCR := Lib.hid (show Plain.classesR l u x = if u = x ∨ u ∉ Plain.vertsK l ∨ x ∉ Plain.vertsK l ∨ Plain.rightK l = false then [] else Plain.classesK l u x from rfl)
 obtain ⟨V, hV⟩ : ∃ V, Plain.vertsK l = V := ⟨_, rfl⟩
 rw [hV] at HR HLE HVP HCR
 clear hV
 by_cases hux : u = x
 ·subst hux
  rw [if_pos (Or.inl rfl)] at HCR
  go_wp2
  go_ret
  exact ⟨_, [], rfl, by rw [HCR.out]; exact RowsOwn.nil _ _, HC.out⟩
 have bux : (u == x) = false := beq_eq_false_iff_ne.2 hux
 by_cases huV : u ∈ V
 ·by_cases hxV : x ∈ V
  ·go_wp2_with fail
   refine (has_any _ V u _ HVP.out (by have := HLE.out; omega) HR.out).mono ?_
   rintro e w3 ⟨rfl, hc3⟩
   have HC3 := Lib.hid (HC.out.tr hc3)
   have HR3 := Lib.hid (HR.out.fresh hc3)
   rw [decide_eq_true huV]
   clear hc3
   go_wp2_with fail
   refine (has_any _ V x _ HVP.out (by have := HLE.out; omega) HR3.out).mono ?_
   rintro e w4 ⟨rfl, hc4⟩
   have HC4 := Lib.hid (HC3.out.tr hc4)
   rw [decide_eq_true hxV]
   clear hc4
   go_wp2_with fail
   refine (pright_any _ l _ hl (H.out.fresh HC4.out)).mono ?_
   rintro e w5 ⟨rfl, hc5⟩
   have HC5 := Lib.hid (HC4.out.tr hc5)
   clear hc5
   obtain ⟨rk, hrk⟩ : ∃ rk, Plain.rightK l = rk := ⟨_, rfl⟩
   rw [hrk] at HCR ⊢
   cases rk
   ·rw [if_pos (Or.inr (Or.inr (Or.inr rfl)))] at HCR
    go_wp2
    go_ret
    exact ⟨_, [], rfl, by rw [HCR.out]; exact RowsOwn.nil _ _, HC5.out⟩
   rw [if_neg (by rintro (q | q | q | q); exact hux q; exact q huV; exact q hxV; cases q)] at HCR
   go_wp2_with fail
   refine (pclasses_any _ l u x _ (by omega) hu hx (H.out.fresh HC5.out)).mono ?_
   rintro e w6 ⟨ov6, vs6, rfl, hro, hc6⟩
   have HRO := Lib.hid (hro.base HC5.out.size)
   have HC6 := Lib.hid (HC5.out.tr hc6)
   clear hro hc6
   go_wp2
   go_ret
   exact ⟨_, _, rfl, by rw [HCR.out]; exact HRO.out, HC6.out⟩
  rw [if_pos (Or.inr (Or.inr (Or.inl hxV)))] at HCR
  go_wp2_with fail
  refine (has_any _ V u _ HVP.out (by have := HLE.out; omega) HR.out).mono ?_
  rintro e w3 ⟨rfl, hc3⟩
  have HC3 := Lib.hid (HC.out.tr hc3)
  have HR3 := Lib.hid (HR.out.fresh hc3)
  rw [decide_eq_true huV]
  clear hc3
  go_wp2_with fail
  refine (has_any _ V x _ HVP.out (by have := HLE.out; omega) HR3.out).mono ?_
  rintro e w4 ⟨rfl, hc4⟩
  have HC4 := Lib.hid (HC3.out.tr hc4)
  rw [decide_eq_false hxV]
  clear hc4
  go_wp2
  go_ret
  exact ⟨_, [], rfl, by rw [HCR.out]; exact RowsOwn.nil _ _, HC4.out⟩
 rw [if_pos (Or.inr (Or.inl huV))] at HCR
 go_wp2_with fail
 refine (has_any _ V u _ HVP.out (by have := HLE.out; omega) HR.out).mono ?_
 rintro e w3 ⟨rfl, hc3⟩
 have HC3 := Lib.hid (HC.out.tr hc3)
 rw [decide_eq_false huV]
 clear hc3
 go_wp2
 go_ret
 exact ⟨_, [], rfl, by rw [HCR.out]; exact RowsOwn.nil _ _, HC3.out⟩
namespace Plain
def cutL (g : Gr) (p : Pt) : List Int := (keysB g p).flatMap (blkV g p)
theorem blkV_in {g : Gr} {p : Pt} (h : p.err g = 0) {r : Int} (hr : r ∈ keysB g p) : ∀ x ∈ blkV g p r, 0 ≤ x ∧ x < g.n := by
 intro x hx
 have hx2 := ((tidy_ok _).2 x).1 hx
 obtain ⟨e, he, hxe⟩ := List.mem_flatMap.1 hx2
 have hb := blAt_mem (keysB_mem.1 hr)
 have hep := ((bl_small (Pt.ok_of_err h)).2 _ hb.1).2 e he
 obtain ⟨h1, h2, h3, h4⟩ := Pt.err_ok h
 obtain ⟨i, hi, rfl⟩ := List.getElem_of_mem hep
 have h5 := rises_at h3 hi
 have e1 : p.e.getD i 0 = p.e[i] := by simp [List.getD, hi]
 rw [e1] at h5
 have h6 := (Gr.err_ok h1).2.2.2 (p.e[i]).toNat (by omega)
 simp only [List.mem_cons, List.not_mem_nil, or_false] at hxe
 unfold Gr.at at hxe
 rcases hxe with rfl | rfl <;> omega
theorem blkV_small {g : Gr} {p : Pt} (h : p.err g = 0) {r : Int} (hr : r ∈ keysB g p) : (blkV g p r).length ≤ 1024 := by
 have h1 := blkV_in h hr
 have h2 : (blkV g p r).Pairwise (· < ·) := (tidy_ok _).1
 have hg := Gr.err_ok (Pt.err_ok h).1
 have h3 : (blkV g p r).length ≤ (ixs g.n.toNat).length := by
  refine len_le_of_sub (h2.imp fun q e => by omega) fun x hx => mem_ixs.2 ?_
  have := h1 x hx
  omega
 rw [ixs_len] at h3
 omega
def cutS (g : Gr) (p : Pt) (i j : Nat) : List Int := ((keysB g p).take i).flatMap (blkV g p) ++ (blkV g p ((keysB g p).getD i 0)).take j
theorem cutS_next {g : Gr} {p : Pt} {i : Nat} (hi : i < (keysB g p).length) : cutS g p i (blkV g p ((keysB g p).getD i 0)).length = cutS g p (i + 1) 0 := by
 unfold cutS
 rw [List.take_length, List.take_succ_eq_append_getElem hi, List.flatMap_append]
 simp [List.getD, hi]
theorem cutS_snoc {g : Gr} {p : Pt} {i j : Nat} (hj : j < (blkV g p ((keysB g p).getD i 0)).length) : cutS g p i (j + 1) = cutS g p i j ++ [(blkV g p ((keysB g p).getD i 0)).getD j 0] := by
 unfold cutS
 rw [List.append_assoc]
 congr 1
 generalize blkV g p ((keysB g p).getD i 0) = L at hj ⊢
 rw [List.take_succ_eq_append_getElem hj]
 simp [List.getD, hj]
theorem cutS_end (g : Gr) (p : Pt) : cutS g p (keysB g p).length 0 = cutL g p := by simp [cutS, cutL]
theorem flat_small {V : Int → List Int} : ∀ {R : List Int}, (∀ r ∈ R, (V r).length ≤ 1024) → (R.flatMap V).length ≤ 1024 * R.length
 | [], _ => by simp
 | r :: R, h => by
  have ih := flat_small (R := R) fun s hs => h s (List.mem_cons_of_mem _ hs)
  have := h r (by simp)
  rw [List.flatMap_cons, List.length_append, List.length_cons]
  omega
theorem cutS_small {g : Gr} {p : Pt} (h : p.err g = 0) {i j : Nat} (hi : i < (keysB g p).length) : (cutS g p i j).length ≤ 2000000 := by
 have hk := bl_small (Pt.ok_of_err h)
 have hke := keysB_len g p
 have hg := Gr.err_ok (Pt.err_ok h).1
 have hrl := rises_len (Pt.err_ok h).2.2.1
 have hmem : ∀ r ∈ keysB g p, (blkV g p r).length ≤ 1024 := fun r hr => blkV_small h hr
 have h1 := flat_small (V := blkV g p) (R := (keysB g p).take i) fun r hr => hmem r (List.mem_of_mem_take hr)
 have h2 := hmem _ (getD_mem hi)
 have h3 : (((keysB g p).take i)).length ≤ 1024 := by rw [List.length_take]; omega
 unfold cutS
 rw [List.length_append, List.length_take]
 omega
theorem upd_cnt (M : List Int) (x : Int) : upd (fun y => (M.count y : Int)) x ((M.count x : Int) + 1) = fun y => ((M ++ [x]).count y : Int) := by
 funext y
 unfold upd
 by_cases e : y = x
 ·subst e
  simp [List.count_append]
 simp [e, List.count_append, Ne.symm e]
theorem ixs_filter_snoc (q : Int → Bool) (k : Nat) : (ixs (k + 1)).filter q = (ixs k).filter q ++ if q k = true then [(k : Int)] else [] := by
 rw [ixs_snoc, List.filter_append]
 congr 1
 by_cases h : q k = true <;> simp [h]
end Plain
theorem fn_made {w : World} {B b n : Nat} (h : RowAt w B (.slice (some ⟨b, 0, none⟩) n n) (List.replicate n 0)) : FnAt w b n fun _ => 0 := by
 have e : (List.range n).map (fun _ : Nat => (0 : Int)) = List.replicate n 0 := List.eq_replicate_iff.2 ⟨by rw [List.length_map, List.length_range], fun x hx => by
  obtain ⟨y, -, rfl⟩ := List.mem_map.1 hx
  rfl⟩
 unfold FnAt
 rw [e]
 exact h.base (Nat.zero_le _)
set_option maxRecDepth 100000 in
set_option maxHeartbeats 8000000 in
theorem cuts_any (vg vp : Value) (g : Plain.Gr) (p : Plain.Pt) (w : World) (hpl : p.v.length ≤ 100000) (hg : GrAt w vg g) (hp : PtAt w vp p) :
  Calls Tryz.prog 120 #[vg, vp] w fun e w' => ∃ ov, e = .returned (.tuple #[ov, .int .i64 (p.err g)]) ∧ RowAt w' w.heap.size ov (Plain.cutsB g p) ∧ Chg [] w w' := by
 obtain ⟨eo, cap, ao, ac, bo, bc, rfl, rfl, HG, HP, hm, ham, hbm, HAC, HBC, HAS, HBS, HC1, HBXS⟩ := box_gp hg hp
 clear hg hp
 obtain ⟨x0, x1, y0, y1, hsz⟩ := HBXS.out _ (Chg.refl _ _)
 go_enter Tryz.func120, Tryz.ntmps120
 go_wp2_with fail
 obtain ⟨w1, hw1⟩ : ∃ w1, ((w.alloc (.cells #[.int .i64 g.n, .slice eo g.e.length cap] 41)).alloc (.cells #[.slice ao p.v.length ac, .slice bo p.e.length bc] 43)) = w1 := ⟨_, rfl⟩
 rw [hw1] at HC1 HBXS ⊢
 clear hw1 x0 x1 y0 y1 hsz
 refine (blocks_any _ _ g p _ hpl (HG.out.fresh HC1.out) (HP.out.fresh HC1.out)).mono ?_
 rintro e w2 ⟨ov, rfl, hno, hyes, hc2⟩
 have HC2 := Lib.hid (HC1.out.tr hc2)
 obtain ⟨x0, x1, y0, y1, hsz⟩ := HBXS.out _ hc2
 clear hc2
 by_cases hr : p.err g = 0
 ·obtain ⟨xs, hne⟩ := hyes hr
  have HNE := Lib.hid hne
  have HR := Lib.hid hr
  obtain ⟨uo, uc, rfl⟩ := hne.shape
  rw [hr]
  have hge := Plain.Gr.err_ok (Plain.Pt.err_ok hr).1
  obtain ⟨N, hN⟩ : ∃ N : Nat, g.n = N := ⟨g.n.toNat, by omega⟩
  have HN := Lib.hid hN
  have hNl : N ≤ 1024 := by omega
  rw [hN] at x0
  obtain ⟨B0, hB0⟩ : ∃ B0, w.heap.size = B0 := ⟨_, rfl⟩
  have HB0 := Lib.hid hB0
  rw [hB0] at x0 x1 y0 y1 ⊢
  clear hne hno hyes hr hge hN hB0
  have hB2 : B0 ≤ w2.heap.size := by rw [← HB0.out]; exact HC2.out.size
  have hN1 : N < 68719476736 := by omega
  have hN2 : N < 4294967296 := by omega
  go_wp2_with (at_make; refine wp_make elemInt rfl _ _ rfl (B := B0) (n := N) rfl rfl hB2 hN1 ?_; intro w3 h3 c3; have R3 := Lib.hid (fn_made (row_made h3 hN2)); have C3 := Lib.hid c3; clear h3 c3)
  obtain ⟨cb, hcb⟩ : ∃ cb, w2.heap.size = cb := ⟨_, rfl⟩
  have HCB := Lib.hid hcb
  rw [hcb] at R3 ⊢
  have HIN := Lib.hid (fun r (hr : r ∈ Plain.keysB g p) => Plain.blkV_in HR.out hr)
  have HVS := Lib.hid (fun r (hr : r ∈ Plain.keysB g p) => Plain.blkV_small HR.out hr)
  have HCS := Lib.hid (fun i j (hi : i < (Plain.keysB g p).length) => Plain.cutS_small HR.out (i := i) (j := j) hi)
  have HKL := Lib.hid (show (Plain.keysB g p).length ≤ 1024 by
   have h1 := Plain.keysB_len g p
   have h2 := (Plain.bl_small (Plain.Pt.ok_of_err HR.out)).1
   have h3 := rises_len (Plain.Pt.err_ok HR.out).2.2.1
   have h4 := Plain.Gr.err_ok (Plain.Pt.err_ok HR.out).1
   omega)
  have HNX := Lib.hid (fun i (hi : i < (Plain.keysB g p).length) => Plain.cutS_next (g := g) (p := p) hi)
  have HSN := Lib.hid (fun i j (hj : j < (Plain.blkV g p ((Plain.keysB g p).getD i 0)).length) => Plain.cutS_snoc (g := g) (p := p) (i := i) hj)
  have HEND := Lib.hid (Plain.cutS_end g p)
  have HS0 := Lib.hid (show Plain.cutS g p 0 0 = [] by simp [Plain.cutS])
  have HCT := Lib.hid (show Plain.cutsB g p = (Plain.ixs N).filter fun v => 1 < (Plain.cutL g p).count v by unfold Plain.cutsB; rw [if_neg (by simpa using HR.out), HN.out]; rfl)
  obtain ⟨K, hK⟩ : ∃ K, Plain.keysB g p = K := ⟨_, rfl⟩
  rw [hK] at HNE HIN HVS HCS HKL HNX HSN HEND ⊢
  obtain ⟨V, hV⟩ : ∃ V, Plain.blkV g p = V := ⟨_, rfl⟩
  rw [hV] at HNE HIN HVS HNX HSN
  obtain ⟨S, hS⟩ : ∃ S, Plain.cutS g p = S := ⟨_, rfl⟩
  rw [hS] at HCS HNX HSN HEND HS0
  obtain ⟨M, hM⟩ : ∃ M, Plain.cutL g p = M := ⟨_, rfl⟩
  rw [hM] at HEND HCT
  have hkl := HKL.out
  have hBB := HC2.out.size
  rw [HB0.out] at hBB
  clear hcb hB2 hN1 hN2 hK hV hS hM x0 x1 y0 y1 hsz
  go_wp2_with fail
  go_loopw [30] (fun iv wr => ∃ i : Nat, i ≤ K.length ∧ iv = .int .i64 i ∧ FnAt wr cb N (fun y => ((S i 0).count y : Int)) ∧ Chg [] w2 wr) (fun iv _ => K.length - (intOf iv).toNat)
  case atStart => exact ⟨0, Nat.zero_le _, rfl, by rw [HS0.out]; simpa using R3.out, C3.out⟩
  case round =>
   obtain ⟨i, hi, rfl, hfn, hc⟩ := hrel
   have HF := Lib.hid hfn
   have HC := Lib.hid hc
   clear hfn hc
   by_cases hlt : i < K.length
   ·obtain ⟨g1, c1, va, vc, ea, ec, he1, hc0, hc1, rV, rE⟩ := nest_pair HNE.out rfl hlt
    simp only [Value.slice.injEq] at he1
    obtain ⟨rfl, -, rfl⟩ := he1
    have d0 := HC.out.cel hc0
    have d1 := HC.out.cel hc1
    have hmem : K.getD i 0 ∈ K := Plain.getD_mem hlt
    have HRV := Lib.hid rV.ints
    have HV1 := Lib.hid (HIN.out _ hmem)
    have HV2 := HVS.out _ hmem
    have HN1 := Lib.hid (HNX.out i hlt)
    have HS1 := Lib.hid (fun j => HSN.out i j)
    have HL1 := Lib.hid (fun j => HCS.out i j hlt)
    obtain ⟨L, hL⟩ : ∃ L, V (K.getD i 0) = L := ⟨_, rfl⟩
    rw [hL] at d0 HRV HV1 HV2 HN1 HS1
    obtain ⟨L2, hL2⟩ : ∃ L2, Plain.blkE g p (K.getD i 0) = L2 := ⟨_, rfl⟩
    rw [hL2] at d1
    have HBC := Lib.hid ((Chg.refl [] wr).alloc (.cells #[.slice va L.length vc, .slice ea L2.length ec] 43))
    clear hc0 hc1 rV rE hmem hL hL2
    go_wp2_with fail
    go_loopw [37] (fun iv wx => ∃ j : Nat, j ≤ L.length ∧ iv = .int .i64 j ∧ FnAt wx cb N (fun y => ((S i j).count y : Int)) ∧ Chg [] w2 wx) (fun iv _ => L.length - (intOf iv).toNat)
    case atStart => exact ⟨0, Nat.zero_le _, rfl, HF.out.chg HBC.out (by simp), HC.out.tr HBC.out⟩
    case round =>
     obtain ⟨j, hj, rfl, hfn, hc⟩ := hrel
     have HF2 := Lib.hid hfn
     have HC2' := Lib.hid hc
     clear hfn hc
     by_cases hjl : j < L.length
     ·obtain ⟨rb, roff, rfl, rc⟩ := IntsAt.cellAt HRV.out hjl
      have cj := HC2'.out.cel rc
      have hvn := HV1.out _ (Plain.getD_mem hjl)
      have HSJ := Lib.hid (HS1.out j hjl)
      obtain ⟨vn, hvn2⟩ : ∃ vn : Nat, L.getD j 0 = (vn : Int) := ⟨(L.getD j 0).toNat, by omega⟩
      rw [hvn2] at cj hvn HSJ
      have hvlt : vn < N := by have := HN.out; omega
      have hvl2 : (vn : Int) < (N : Int) := by omega
      have cv := HF2.out.cell hvlt
      have fv := HF2.out.free (by omega) vn
      have HLJ := HL1.out j
      have HUP := Lib.hid (Plain.upd_cnt (S i j) (vn : Int))
      have hc1 : (S i j).count (vn : Int) ≤ 2000000 := Nat.le_trans List.count_le_length HLJ
      obtain ⟨q, hq⟩ : ∃ q : Int, ((S i j).count (vn : Int) : Int) = q := ⟨_, rfl⟩
      have hq0 : 0 ≤ q := by omega
      have hq1 : q ≤ 2000000 := by omega
      have IQ : I64 (q + 1) := I64.mk (by omega) (by omega)
      rw [hq] at cv HUP
      have HCBL := Lib.hid (show w2.heap.size ≤ cb by rw [HCB.out]; exact Nat.le_refl _)
      clear rc hvn2 hvn HLJ hc1 hq
      go_wp2
      have hset : Chg [cb] wr (wr.setCell ⟨cb, vn, none⟩ (.int .i64 (q + 1))) := (Chg.refl _ _).setCell (Or.inl (by simp)) _
      have hf2 := HF2.out.set hvlt IQ
      go_roundw
      case rel => exact ⟨j + 1, by omega, by go_num, by rw [HSJ.out, ← HUP.out]; exact hf2, HC2'.out.trans hset (fun b hb => Or.inr (by rw [List.mem_singleton.1 hb]; exact HCBL.out))⟩
      case measure => simp [intOf]; omega
     have e : j = L.length := by omega
     subst e
     rw [HN1.out] at HF2
     clear hj hjl
     go_wp2
     go_roundw
     case rel => exact ⟨i + 1, by omega, by go_num, HF2.out, HC2'.out⟩
     case measure => simp [intOf]; omega
   have e : i = K.length := by omega
   subst e
   rw [HEND.out] at HF
   have HMC := Lib.hid (show ∀ y, M.count y ≤ 2000000 by
    intro y
    by_cases h0 : K.length = 0
    ·rw [← HEND.out, h0, HS0.out]; simp
    have h1 := HCS.out (K.length - 1) (V (K.getD (K.length - 1) 0)).length (by omega)
    rw [HNX.out (K.length - 1) (by omega), show K.length - 1 + 1 = K.length by omega, HEND.out] at h1
    exact Nat.le_trans List.count_le_length h1)
   clear hi hlt
   go_wp2_with fail
   go_loopw [13, 51] (fun c13 iv wx => ∃ k : Nat, k ≤ N ∧ iv = .int .i64 k ∧ RowAt wx (cb + 1) c13 ((Plain.ixs k).filter fun v => 1 < M.count v) ∧ FnAt wx cb N (fun y => (M.count y : Int)) ∧ Chg [] w2 wx) (fun _ iv _ => N - (intOf iv).toNat)
   case atStart => exact ⟨0, Nat.zero_le _, rfl, rowNil' _ _, HF.out, HC.out⟩
   case round =>
    obtain ⟨k, hk, rfl, hr, hfn, hc⟩ := hrel
    have HR3 := Lib.hid hr
    have HF3 := Lib.hid hfn
    have HC3 := Lib.hid hc
    obtain ⟨so, sc, rfl⟩ := hr.shape
    clear hr hfn hc
    by_cases hkN : k < N
    ·have ck := HF3.out.cell hkN
     have hkI : (k : Int) < (N : Int) := by omega
     have HSN3 := Lib.hid (Plain.ixs_filter_snoc (fun v => decide (1 < M.count v)) k)
     have hmc := HMC.out (k : Int)
     have IK : I64 (k : Int) := I64.mk (by omega) (by omega)
     have HLN := Lib.hid (show ((Plain.ixs k).filter fun v => decide (1 < M.count v)).length ≤ k from by have h := List.length_filter_le (fun v => decide (1 < M.count v)) (Plain.ixs k); rwa [Plain.ixs_len] at h)
     obtain ⟨q, hq⟩ : ∃ q : Int, (M.count (k : Int) : Int) = q := ⟨_, rfl⟩
     rw [hq] at ck
     have HSZ3 := Lib.hid (show cb + 1 ≤ wr.heap.size by
      obtain ⟨cs, hh⟩ := HF3.out.kind
      have := lt_of_block hh
      omega)
     by_cases hgt : 1 < M.count (k : Int)
     ·rw [if_pos (by simpa using hgt)] at HSN3
      have hqg : 1 < q := by omega
      obtain ⟨A, hA⟩ : ∃ A, (Plain.ixs k).filter (fun v => decide (1 < M.count v)) = A := ⟨_, rfl⟩
      rw [hA] at HR3 HSN3 HLN ⊢
      have hAl : A.length < 4294967290 := by have := HLN.out; omega
      have hfb : ∀ b ∈ foot (.slice so A.length sc), cb + 1 ≤ b := fun b hb => (HR3.out.low b (by rw [← HR3.out.foot]; exact hb)).1
      have HFB := Lib.hid hfb
      have HNC := Lib.hid (show cb ∉ foot (.slice so A.length sc) from fun e => by have := hfb cb e; omega)
      clear hq hgt hmc hA hfb
      go_wp2_with (at_builtin; refine wl_push rfl _ _ rfl (w0 := wr) (B := cb + 1) (v := .slice so A.length sc) (l := A) (k := (k : Int)) rfl rfl HR3.out IK HSZ3.out hAl rfl ?_; intro v7 w7 r7 c7 f7; have R7 := Lib.hid r7; have C7 := Lib.hid c7; clear r7 c7 f7)
      go_roundw
      case rel => exact ⟨k + 1, by omega, by go_num, by rw [HSN3.out]; exact R7.out, HF3.out.chg C7.out HNC.out, HC3.out.trans C7.out (fun b hb => Or.inr (by have := HFB.out b hb; have := HCB.out; omega))⟩
      case measure => simp [intOf]; omega
     rw [if_neg (by simpa using hgt), List.append_nil] at HSN3
     have hqg : ¬ 1 < q := by omega
     clear hq hgt hmc
     go_wp2
     go_roundw
     case rel => exact ⟨k + 1, by omega, by go_num, by rw [HSN3.out]; exact HR3.out, HF3.out, HC3.out⟩
     case measure => simp [intOf]; omega
    have e : k = N := by omega
    subst e
    rw [← HCT.out] at HR3 ⊢
    clear hk hkN
    go_wp2
    refine bodyPost_ret (v := .tuple #[.slice so (Plain.cutsB g p).length sc, .int .i64 0]) (by simp [results, Tryz.results120, go_sem]) rfl ?_
    exact ⟨_, by rw [HR.out], HR3.out.base (by have := HCB.out; have := HB0.out; omega), HC2.out.tr HC3.out⟩
 have HCT := Lib.hid (show Plain.cutsB g p = [] by unfold Plain.cutsB; rw [if_pos hr])
 have hre : (p.err g == 0) = false := beq_eq_false_iff_ne.2 hr
 have hov := hno hr
 subst hov
 clear hno hyes
 go_wp2
 refine bodyPost_ret (v := .tuple #[.slice none 0 0, .int .i64 (p.err g)]) (by simp [results, Tryz.results120, go_sem]) rfl ?_
 exact ⟨_, rfl, by rw [HCT.out]; exact rowNil' _ _, HC2.out⟩
end Go.Proofs.YtpcgklagmcnhaaaGreat
