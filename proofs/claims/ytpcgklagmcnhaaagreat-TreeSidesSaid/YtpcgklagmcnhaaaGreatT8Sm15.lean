/- Law 15's small: contract. Conditions: a graph, a part that lie in memory and read so. -/
import Derived.Test.YtpcgklagmcnhaaaGreatT8Awk15
-- READS ONLY
namespace Go.Proofs.YtpcgklagmcnhaaaGreat
open Go.RowKit Go.Maps
namespace Plain
def small15 (g : Gr) (p : Pt) : Bool := small4 g p && decide (p.e.length ≤ 14) && decide (p.v.length ≤ 14)
theorem small15_is {g : Gr} {p : Pt} (h : small15 g p = true) : p.e.length ≤ 14 ∧ p.v.length ≤ 14 ∧ g.e.length ≤ 60 := by
 grind [small15, small4]
end Plain
set_option maxRecDepth 100000 in
set_option maxHeartbeats 4000000 in
theorem small15_any (vg vp : Value) (g : Plain.Gr) (p : Plain.Pt) (w : World) (hg : GrAt w vg g) (hp : PtAt w vp p) :
  Calls Tryz.prog 13 #[vg, vp] w fun e w' => e = .returned (.bool (Plain.small15 g p)) ∧ Chg [] w w' := by
 obtain ⟨eo, cap, ao, ac, bo, bc, rfl, rfl, HG, HP, hm, ham, hbm, HAC, HBC, HAS, HBS, HC1, HBXS⟩ := box_gp hg hp
 clear hg hp
 obtain ⟨x0, x1, y0, y1, hsz⟩ := HBXS.out _ (Chg.refl _ _)
 go_enter Tryz.func13, Tryz.ntmps13
 go_wp2_with fail
 obtain ⟨w1, hw1⟩ : ∃ w1, ((w.alloc (.cells #[.int .i64 g.n, .slice eo g.e.length cap] 41)).alloc (.cells #[.slice ao p.v.length ac, .slice bo p.e.length bc] 43)) = w1 := ⟨_, rfl⟩
 rw [hw1] at HC1 HBXS ⊢
 clear hw1 x0 x1 y0 y1 hsz
 refine (small4_any _ _ g p _ (HG.out.fresh HC1.out) (HP.out.fresh HC1.out)).mono ?_
 rintro e w2 ⟨rfl, hc2⟩
 have HC2 := Lib.hid (HC1.out.tr hc2)
 obtain ⟨x0, x1, y0, y1, hsz⟩ := HBXS.out _ hc2
 have HSM := Lib.hid (show Plain.small15 g p = (Plain.small4 g p && decide (p.e.length ≤ 14) && decide (p.v.length ≤ 14)) from rfl)
 clear hc2
 cases hb : Plain.small4 g p with
 | false =>
  rw [hb] at HSM
  rw [show bit false = 0 from rfl]
  clear hb
  go_wp2
  go_ret
  exact ⟨ret_bool (by rw [HSM.out]; first | rfl | simp <;> omega), HC2.out⟩
 | true =>
  rw [hb] at HSM
  rw [show bit true = 1 from rfl]
  clear hb
  by_cases h1 : p.e.length ≤ 14
  ·have e1 : decide (p.e.length ≤ 14) = true := decide_eq_true h1
   have i1 : (p.e.length : Int) ≤ 14 := by omega
   rw [e1] at HSM
   by_cases h2 : p.v.length ≤ 14
   ·have e2 : decide (p.v.length ≤ 14) = true := decide_eq_true h2
    have i2 : (p.v.length : Int) ≤ 14 := by omega
    rw [e2] at HSM
    go_wp2
    go_ret
    exact ⟨ret_bool (by rw [HSM.out]; first | rfl | simp <;> omega), HC2.out⟩
   have e2 : decide (p.v.length ≤ 14) = false := decide_eq_false h2
   have i2 : ¬ (p.v.length : Int) ≤ 14 := by omega
   rw [e2] at HSM
   go_wp2
   go_ret
   exact ⟨ret_bool (by rw [HSM.out]; first | rfl | simp <;> omega), HC2.out⟩
  have e1 : decide (p.e.length ≤ 14) = false := decide_eq_false h1
  have i1 : ¬ (p.e.length : Int) ≤ 14 := by omega
  rw [e1] at HSM
  go_wp2
  go_ret
  exact ⟨ret_bool (by rw [HSM.out]; first | rfl | simp <;> omega), HC2.out⟩
end Go.Proofs.YtpcgklagmcnhaaaGreat
namespace Go.Proofs.YtpcgklagmcnhaaaGreat.Plain
theorem sides_law {E : List Int} {ms : List Nd} {rs : List T3} (h : TreeP E ms rs) (hE : E.Pairwise (· < ·)) {i : Nat} {v : Int} {l m : List Int} (hi : i < ms.length) (hv : v < 0) (hiv : v ∈ idsL (nd0 ms i).l) (hl : l.Perm (beyV ms rs i v)) (hls : l.Pairwise (· ≤ ·)) (hm : m.Perm (beyV ms rs (mtM rs i v) v)) (hms : m.Pairwise (· ≤ ·)) : andOf m l = [] ∧ orL l m = E := by
 unfold beyV at hl hm
 rw [if_pos hv] at hl hm
 have hp : (l ++ m).Perm E := (hl.append hm).trans (h.sides hi hv hiv)
 have hn : (l ++ m).Nodup := hp.nodup_iff.2 (hE.imp fun q => Int.ne_of_lt q)
 obtain ⟨n1, n2, n3⟩ := List.nodup_append.1 hn
 have lt : ∀ {k : List Int}, k.Nodup → k.Pairwise (· ≤ ·) → k.Pairwise (· < ·) := fun a b => (b.and a).imp fun q => Int.lt_iff_le_and_ne.2 q
 constructor
 ·unfold andOf
  rw [List.filter_eq_nil_iff]
  intro x hx q
  exact n3 x hx x (of_decide_eq_true q) rfl
 refine rise_ext (orL_rise (lt n1 hls) (lt n2 hms)) hE fun x => ?_
 rw [← hp.mem_iff, List.mem_append]
 exact mem_orL
theorem TreeP.beyV_some {E : List Int} {ms : List Nd} {rs : List T3} (h : TreeP E ms rs) {i : Nat} {v : Int} (hi : i < ms.length) (hiv : v ∈ idsL (nd0 ms i).l) : beyV ms rs i v ≠ [] := by
 unfold beyV
 split
 ·exact h.beyM_some hi (by assumption) hiv
 simp
theorem len_sub {l m : List Int} (hl : l.Nodup) (h : ∀ x ∈ l, x ∈ m) : l.length ≤ m.length := hl.length_le_of_subset h
theorem flat_len (ms : List Nd) : ((List.range ms.length).flatMap fun i => idsL (nd0 ms i).l).length = ((List.range ms.length).map fun i => (nd0 ms i).l.length).sum := by
 rw [List.length_flatMap]
 simp [idsL]
theorem sum_mem : ∀ {l : List Nat} {x : Nat}, x ∈ l → x ≤ l.sum
 | y :: l, x, h => by
  rcases List.mem_cons.1 h with rfl | h
  ·rw [List.sum_cons]; omega
  have := sum_mem h
  rw [List.sum_cons]; omega
theorem sum_least (c : Nat) : ∀ {l : List Nat}, (∀ x ∈ l, c ≤ x) → c * l.length ≤ l.sum
 | [], _ => by simp
 | y :: l, h => by
  have ih := sum_least c (l := l) fun x hx => h x (by simp [hx])
  have := h y (by simp)
  rw [List.sum_cons, List.length_cons, Nat.mul_succ]
  omega
theorem TreeP.small {E : List Int} {ms : List Nd} {rs : List T3} (h : TreeP E ms rs) : ms.length ≤ E.length + 1 ∧ rs.length ≤ 3 * E.length ∧ ∀ i, i < ms.length → (nd0 ms i).l.length ≤ 3 * E.length := by
 have c := h.cnt
 have e := h.edg.length_eq
 obtain ⟨F, hF⟩ : ∃ F, ((List.range ms.length).flatMap fun i => idsL (nd0 ms i).l) = F := ⟨_, rfl⟩
 have ht := flat_len ms
 rw [hF] at c e ht
 have hs : F.length = (F.filter fun v => decide (0 ≤ v)).length + (F.filter fun v => decide (v < 0)).length := by
  rw [← filter_two (fun v => decide (0 ≤ v)) F]
  congr 2
  refine List.filter_congr fun v _ => ?_
  by_cases q : 0 ≤ v
  ·simp [q]
  simp [q]; omega
 have hb : ms.length = 1 ∨ 3 * ms.length ≤ F.length := by
  rcases h.big with q | q
  ·exact Or.inl q
  right
  rw [ht]
  have := sum_least 3 (l := (List.range ms.length).map fun i => (nd0 ms i).l.length) (fun x hx => by
   obtain ⟨i, hi, rfl⟩ := List.mem_map.1 hx
   exact q i (List.mem_range.1 hi))
  simpa using this
 have hr : rs.length ≤ (F.filter fun v => decide (v < 0)).length := by
  have := len_sub (l := (List.range rs.length).map fun k : Nat => -1 - (k : Int)) (m := F.filter fun v => decide (v < 0)) (by
   unfold List.Nodup
   rw [List.pairwise_map]
   exact List.nodup_range.imp fun q e => q (by omega)) (fun x hx => by
   obtain ⟨k, hk, rfl⟩ := List.mem_map.1 hx
   obtain ⟨i, j, -, -, hij, hj, h1, -⟩ := h.row k (List.mem_range.1 hk)
   refine List.mem_filter.2 ⟨?_, decide_eq_true (by omega)⟩
   rw [← hF]
   exact List.mem_flatMap.2 ⟨i, List.mem_range.2 (by omega), h1⟩)
  simpa using this
 refine ⟨by omega, by omega, fun i hi => ?_⟩
 have := sum_mem (l := (List.range ms.length).map fun i => (nd0 ms i).l.length) (List.mem_map.2 ⟨i, List.mem_range.2 hi, rfl⟩)
 rw [← ht] at this
 omega
theorem TreeOf.tree {g : Gr} {p : Pt} {ms : List Nd} {rs : List T3} (he : p.err g = 0) (h : TreeOf g p ms rs) (hg : g.e.length ≤ 100000) (hp : p.e.length ≤ 100000) : TreeP p.e ms rs := by
 obtain ⟨ns, h1, -, h3, h4, -, h6⟩ := h
 obtain ⟨t1, t2⟩ := tree_ns he h1
 exact tree_of t1 (fun i hi v hv => by
  have := t2 i hi v hv
  exact I64.mk (by omega) (by omega)) h3 h4 h6
theorem newErr_ok {g : Gr} {p : Pt} (h : newErr g p = 0) : p.err g = 0 ∧ solidB g p = true ∧ loopB g p p.e.length = false := by
 unfold newErr at h
 split at h
 ·rename_i q; exact absurd h q
 rename_i q
 split at h
 ·cases h
 rename_i q2
 split at h
 ·cases h
 rename_i q3
 exact ⟨Classical.byContradiction q, by simpa using q2, by simpa using q3⟩
end Go.Proofs.YtpcgklagmcnhaaaGreat.Plain
namespace Go.Proofs.YtpcgklagmcnhaaaGreat
open Go.RowKit Go.Maps
theorem sides_end {tmps : Array Value} {w W : World} {rb : Nat} {x : Value} (ds : List Nat) (ht : tmps.getD 4 undef = .pointer (some ⟨rb, 0, none⟩)) (hr : W.heap[rb]? = some (.cells #[x] 4 (0, 0))) (hc : Chg [] w W) (hrb : w.heap.size ≤ rb) (hnd : ds.Nodup) (hds : ∀ D ∈ ds, W.heap[D]? = some (.deferred (some [])) ∧ w.heap.size ≤ D) :
  LeavesInM Fence.wide 9 Tryz.prog Tryz.f5 tmps (fun e w' => e = .returned (.bool true) ∧ Chg [] w w') (ds.map fun D => { target := .collected D, args := #[] }) .returning (W.setCell ⟨rb, 0, none⟩ (.bool true)) := by
 have h1 := heap_setCell_same hr 0 (.bool true)
 have hcs : Chg [rb] W (W.setCell ⟨rb, 0, none⟩ (.bool true)) := (Chg.refl _ _).setCell (Or.inl (by simp)) _
 have hne : ∀ D ∈ ds, D ≠ rb := fun D hD e => by
  have h2 := (hds D hD).1
  rw [e, hr] at h2
  cases h2
 refine leaves_past hnd (fun D hD => hcs.heap (hds D hD).1 (by simpa using hne D hD)) fun W' hc' => ?_
 have hw := hc'.heap h1 fun q => hne _ q rfl
 have c1 := (cell_of_row _ _ 0 _ _ _ hw).trans (show _ = some (Value.bool true) from rfl)
 have ht' : tmps[4]?.getD undef = .pointer (some ⟨rb, 0, none⟩) := by simpa using ht
 refine ⟨.bool true, ?_, rfl, ?_⟩
 ·simp [results, Tryz.results5, go_sem, ht', c1]
 exact (hc.trans hcs fun j hj => Or.inr (by rw [List.mem_singleton.1 hj]; exact hrb)).trans hc' fun j hj => Or.inr (hds j hj).2
section
attribute [local go_sem] Oper.semAt_some
set_option maxRecDepth 100000 in
set_option maxHeartbeats 16000000 in
theorem treeSides_any (vg vp : Value) (g : Plain.Gr) (p : Plain.Pt) (w : World) (hg : GrAt w vg g) (hp : PtAt w vp p) :
  Calls Tryz.prog 5 #[vg, vp] w fun e w' => e = .returned (.bool true) ∧ Chg [] w w' := by
 obtain ⟨eo, cap, ao, ac, bo, bc, rfl, rfl, HG, HP, hm, ham, hbm, HAC, HBC, HAS, HBS, HC1, HBXS⟩ := box_gp hg hp
 clear hg hp
 obtain ⟨wa, hwa⟩ : ∃ wa, ((w.alloc (.cells #[.int .i64 g.n, .slice eo g.e.length cap] 41)).alloc (.cells #[.slice ao p.v.length ac, .slice bo p.e.length bc] 43)) = wa := ⟨_, rfl⟩
 have hsa : wa.heap.size = w.heap.size + 1 + 1 := by rw [← hwa]; simp
 rw [hwa] at HC1 HBXS
 have HRB := Lib.hid (heap_alloc_new wa (.cells #[.bool false] 4))
 have HCB := Lib.hid ((Chg.refl [] wa).alloc (.cells #[.bool false] 4))
 rw [hsa] at HRB
 obtain ⟨x0, x1, y0, y1, hsz⟩ := HBXS.out _ HCB.out
 refine (callsIn_wide (n := 9)).1 (callsIn_of_wp_marks Tryz.func5 rfl trivial (wpIn_wide.2 ?_) rfl)
 simp only [Tryz.ntmps5, List.size_toArray, List.length_cons, List.length_nil, Nat.reduceAdd, Nat.reduceSub, Array.replicate_succ, Array.replicate_zero, List.push_toArray, List.append_toArray, List.nil_append, List.cons_append]
 go_wp2_with fail
 refine (awake15_any _).mono ?_
 rintro e w2 ⟨rfl, hc2⟩
 have HC2 := Lib.hid (HCB.out.tr hc2)
 obtain ⟨x0, x1, y0, y1, -⟩ := HBXS.out _ HC2.out
 have HR2 := Lib.hid (hc2.hp HRB.out)
 have HCW2 := Lib.hid (HC1.out.tr HC2.out)
 clear hc2 hwa
 go_wp2_with fail
 refine (small15_any _ _ g p _ (HG.out.fresh HCW2.out) (HP.out.fresh HCW2.out)).mono ?_
 rintro e w3 ⟨rfl, hc3⟩
 have HC3 := Lib.hid (HC2.out.tr hc3)
 have HR3 := Lib.hid (hc3.hp HR2.out)
 have HCW3 := Lib.hid (HC1.out.tr HC3.out)
 obtain ⟨x0, x1, y0, y1, -⟩ := HBXS.out _ HC3.out
 clear hc3
 by_cases hsm : Plain.small15 g p = true
 ·rw [hsm]
  have HSM := Lib.hid (Plain.small15_is hsm)
  clear hsm
  go_wp2_with fail
  refine (tnew_any _ _ g p _ (by have := HSM.out; omega) (by have := HSM.out; omega) (HG.out.fresh HCW3.out) (HP.out.fresh HCW3.out)).mono ?_
  rintro e w4 ⟨hc4, hno, hyes⟩
  have HC4 := Lib.hid (HC3.out.tr hc4)
  have HR4 := Lib.hid (hc4.hp HR3.out)
  obtain ⟨x0, x1, y0, y1, -⟩ := HBXS.out _ HC4.out
  clear hc4
  by_cases hne : Plain.newErr g p = 0
  ·obtain ⟨pb, ms, rs, rfl, htr, hof⟩ := hyes hne
   obtain ⟨hpe, -, -⟩ := Plain.newErr_ok hne
   have HT := Lib.hid (hof.tree hpe (by have := HSM.out; omega) (by have := HSM.out; omega))
   have HS := Lib.hid HT.out.small
   have HRI := Lib.hid (Plain.part_rise hpe).2
   obtain ⟨hpb, tv, tvs, tev, th, tn, tr⟩ := htr
   have TH := Lib.hid th
   have TN := Lib.hid tn
   have TR := Lib.hid tr
   obtain ⟨no, nc, rfl⟩ := tn.shape
   have HBX := Lib.hid (heap_alloc_new w4 (.cells #[.pointer (some ⟨pb, 0, none⟩)] 23))
   have HCX := Lib.hid ((Chg.refl [] w4).alloc (.cells #[.pointer (some ⟨pb, 0, none⟩)] 23))
   have t0 := (cell_of_row _ _ 0 _ _ _ HBX.out).trans (show _ = some (Value.pointer (some ⟨pb, 0, none⟩)) from rfl)
   clear hno hyes hof hne th tn tr
   go_wp2_with fail
   refine (nodes_any pb _).mono ?_
   obtain ⟨cb, hcb⟩ : ∃ n, (w4.alloc (.cells #[.pointer (some ⟨pb, 0, none⟩)] 23)).heap.size = n := ⟨_, rfl⟩
   rw [hcb]
   rintro e w6 ⟨rfl, hb6, hc6⟩
   have HCB6 := Lib.hid hb6
   have HC46 := Lib.hid (HCX.out.tr hc6)
   have HWA6 := Lib.hid (HC4.out.tr HC46.out)
   have HW6 := Lib.hid (HC1.out.tr HWA6.out)
   have HT6 := Lib.hid (HC46.out.hp TH.out)
   have HN6 := Lib.hid (TN.out.fresh HC46.out)
   have HM6 := Lib.hid (show T2Row w6 w3.heap.size tev rs from owns_chg TR.out HC46.out (by simp))
   have HX6 := Lib.hid (hc6.hp HBX.out)
   have HR6 := Lib.hid (HC46.out.hp HR4.out)
   have HY6 := Lib.hid ((HBXS.out _ HWA6.out).2.2.2.1)
   clear hb6 hc6 t0 x0 x1 y0 y1 HBX HCX
   obtain ⟨tb, htb⟩ : ∃ n, w4.heap.size = n := ⟨_, rfl⟩
   rw [htb] at HX6 ⊢
   generalize w4.alloc (.cells #[.pointer (some ⟨pb, 0, none⟩)] 23) = w5 at *
   clear hcb htb
   go_wp2
   refine (wpIn_wide (n := 9)).1 ?_
   have hn1 : ms.length ≤ 100000 := by have := HS.out.1; have := HSM.out; omega
   refine range_nodes 7 8 (p := pb) (cb := cb) (n := ms.length) hn1 rfl (fun _ s W => s = ms ∧ Chg [] w6 W) ms ?calm ⟨rfl, Chg.refl _ _⟩ ?view ?assign ?body ?done
   case calm =>
    rintro k s W W' own ⟨h1, h2⟩ hc ho hh
    exact ⟨h1, h2.trans hc fun j hj => Or.inr (ho j hj)⟩
   case view =>
    rintro k s W ⟨rfl, h2⟩
    exact ⟨(cell_of_row _ _ 0 _ _ _ (h2.hp HCB6.out)).trans rfl, rfl, fun k hk => by have := HS.out.2.2 k hk; have := HSM.out; omega, _, tvs, w3.heap.size, (cell_of_row _ _ 0 _ _ _ (h2.hp HT6.out)).trans rfl, HN6.out.fresh h2⟩
   case assign =>
    intro l' k kind uo m uc W5 K hK
    gi_wp2
    exact hK
   case body =>
    intro l k s W0 W W2 N uo uc hN hI0 hc0 hsz hl hI hk hkI hcl hlw hrow hbox
    obtain ⟨rfl, hc⟩ := hI
    have HC := Lib.hid hc
    have HN := Lib.hid hN
    have HRW := Lib.hid hrow
    have HNL := Lib.hid (show N.l.length ≤ 42 from by rw [← hN]; have := HS.out.2.2 k hk; have := HSM.out; omega)
    obtain ⟨nb, hnb⟩ : ∃ n, W.heap.size = n := ⟨_, rfl⟩
    simp only [numAct, List.setIfInBounds_toArray, List.set_cons_zero, List.set_cons_succ]
    rw [hnb] at hbox ⊢
    have HBX := Lib.hid hbox
    clear hN hI0 hc0 hsz hl hkI hcl hlw hrow hbox hnb hc
    gi_wp2
    gi_loopw [9] (fun iv wr => ∃ j : Nat, j ≤ N.l.length ∧ iv = .int .i64 j ∧ Chg [] W2 wr) (fun iv _ => N.l.length - (intOf iv).toNat)
    case atStart => exact ⟨0, Nat.zero_le _, rfl, Chg.refl _ _⟩
    case round =>
     obtain ⟨j, hj, rfl, hcr⟩ := hrel
     have HCR := Lib.hid hcr
     have HA := Lib.hid (HC.out.tr hcr)
     have hnl := HNL.out
     have b1 := (cell_of_row _ _ 1 _ _ _ (hcr.hp HBX.out)).trans (show _ = some (Value.slice uo N.l.length uc) from rfl)
     clear hcr
     by_cases hjl : j < N.l.length
     ·obtain ⟨lo', lc', el, -, hsm2, hcell⟩ := (HRW.out.fresh HCR.out).lks
      simp only [Value.slice.injEq] at el
      obtain ⟨rfl, -, rfl⟩ := el
      obtain ⟨lb, loff, rfl, -, -, q2⟩ := hcell j hjl
      have HI := Lib.hid (hsm2 j hjl).2.2
      have HML := Lib.hid (show (Plain.at0 N.l j).id ∈ Plain.idsL (Plain.nd0 s k).l from by
       rw [HN.out]
       exact List.mem_map.2 ⟨_, Plain.at0_mem hjl, rfl⟩)
      obtain ⟨id, hid⟩ : ∃ id, (Plain.at0 N.l j).id = id := ⟨_, rfl⟩
      rw [hid] at q2 HI HML
      have t0 := (cell_of_row _ _ 0 _ _ _ (HA.out.hp HX6.out)).trans (show _ = some (Value.pointer (some ⟨pb, 0, none⟩)) from rfl)
      have HT := HT.out
      have hE : p.e.length ≤ 100000 := by have := HSM.out; omega
      have hr1 : rs.length ≤ 100000 := by have := HS.out.2.1; have := HSM.out; omega
      have hlls : ∀ i, i < s.length → (Plain.nd0 s i).l.length ≤ 100000 := fun i hi => by have := HS.out.2.2 i hi; have := HSM.out; omega
      have HTT := Lib.hid HT
      have HLS := Lib.hid hlls
      clear hcell hsm2 hid HT hlls
      gi_wp2_with fail
      refine ⟨trivial, ?_⟩
      refine (CallsIn.inRound l (callsIn_wide.2 (tbeyond_any pb _ tev tvs p.e s rs w3.heap.size _ HTT.out (HA.out.hp HT6.out) (HN6.out.fresh HA.out) (owns_chg HM6.out HA.out (by simp)) hn1 hE hr1 HLS.out k hk id HML.out))).mono ?_
      rintro e w7 ⟨ov, l1, rfl, hov, hls, hlp, hc7⟩
      obtain ⟨L1, hL1⟩ : ∃ n : Nat, l1.length = n := ⟨_, rfl⟩
      have hl1 : L1 ≠ 0 := fun q => HTT.out.beyV_some hk HML.out (List.length_eq_zero_iff.1 (by rw [← hlp.length_eq, hL1, q]))
      have b2 : ((L1 : Int) == 0) = false := by simpa using hl1
      have HOV := Lib.hid hov
      have HLS1 := Lib.hid hls
      have HLP1 := Lib.hid hlp
      have HC7 := Lib.hid (HA.out.tr hc7)
      have HCR7 := Lib.hid (HCR.out.tr hc7)
      obtain ⟨o1, c1, rfl⟩ := hov.shape
      have HL1 := Lib.hid hL1
      rw [hL1] at HOV ⊢
      have t0 := hc7.cel t0
      clear hov hls hlp hc7 hL1 hl1 q2 b1
      by_cases hge : 0 ≤ id
      ·gi_wp2
       go_roundw
       case rel => exact ⟨j + 1, by omega, by go_num, HCR7.out⟩
       case measure => simp [intOf]; omega
      have hn0 : id < 0 := by omega
      obtain ⟨hm1, hm2, hm3, hm4, -⟩ := HTT.out.mt hk hn0 HML.out
      have HMV := Lib.hid (HTT.out.mateV hk hn0 HML.out)
      obtain ⟨mt, hmt⟩ : ∃ mt, Plain.mtM rs k id = mt := ⟨_, rfl⟩
      have HMT := Lib.hid hmt
      rw [hmt] at hm1 hm2 hm3 HMV
      have HM3 := Lib.hid hm3
      clear hmt hm2 hm3
      gi_wp2_with fail
      refine ⟨trivial, ?_⟩
      refine (CallsIn.inRound l (callsIn_wide.2 (tmate_at pb _ tev rs w3.heap.size k id _ (HC7.out.hp HT6.out) (owns_chg HM6.out HC7.out (by simp)) hn0 hm4 (by omega)))).mono ?_
      rw [HMV.out]
      rintro e w8 ⟨rfl, hc8⟩
      have HC8 := Lib.hid (HC7.out.tr hc8)
      have HC78 := Lib.hid hc8
      have t0 := hc8.cel t0
      clear hc8
      gi_wp2_with fail
      refine ⟨trivial, ?_⟩
      refine (CallsIn.inRound l (callsIn_wide.2 (tbeyond_any pb _ tev tvs p.e s rs w3.heap.size _ HTT.out (HC8.out.hp HT6.out) (HN6.out.fresh HC8.out) (owns_chg HM6.out HC8.out (by simp)) hn1 hE hr1 HLS.out mt hm1 id HM3.out))).mono ?_
      rintro e w9 ⟨ov2, l2, rfl, hov2, hls2, hlp2, hc9⟩
      obtain ⟨HAND, HORL⟩ := Plain.sides_law HTT.out HRI.out hk hn0 HML.out HLP1.out HLS1.out (m := l2) (by rw [HMT.out]; exact hlp2) hls2
      have HOV2 := Lib.hid hov2
      have HLP2 := Lib.hid hlp2
      have HC89 := Lib.hid (HC78.out.tr hc9)
      have HC9 := Lib.hid (HC8.out.tr hc9)
      obtain ⟨o2, c2, rfl⟩ := hov2.shape
      have HAN := Lib.hid HAND
      have HOR := Lib.hid HORL
      clear hov2 hls2 hlp2 hc9 HAND HORL t0
      have y1 := HC9.out.cel HY6.out
      have hmix : Tryz.prog.follows .mixedOrders = true := by kernel_rfl
      gi_wp2_with fail
      have hS0 : Chg [] w9 w9.drew := (Chg.refl [] w9).drew
      refine wpIn_region_way (Chg [] w9) [0, 1, 2, 3, 4, 6, 7, 8, 9, 10, 11, 13, 14, 16, 17] (Way.line [0, 1, 2, 3, 4, 5, 6, 7, 8, 9, 10, 11, 13, 14, 12, 15, 16, 17] .done) hmix (by kernel_rfl) (by simp) (fun ⟨_, _, h⟩ => by first | exact h | cases h.1) ?_
      simp only [Way.line]
      repeat
       first
        | (refine along_off rfl (by rfl) (by rfl) (fun _ _ _ h => h) hS0 ?_; simp only [Act.put, Z1, Z2, Z3, Z4, Z5, Z6])
        | (refine along_read (v := ?_) rfl (by rfl) (by rfl) (fun _ _ _ h => h) hS0 (fun w' hS' => ?_) ?_; rotate_left; (focus (have rd0 := hS'.cell y1 (by simp); clear hS'; go_simp; try with_reducible rfl)); simp only [Act.put, Z1, Z2, Z3, Z4, Z5, Z6])
        | (refine along_skip rfl (by rfl) (by rfl) hS0 ?_; simp only [Act.put, Z1, Z2, Z3, Z4, Z5, Z6])
      have HLE1 := Lib.hid (show l1.length ≤ 1000 from by
       have h1 := HLP1.out.length_eq
       have h2 := (HTT.out.sides hk hn0 HML.out).length_eq
       unfold Plain.beyV at h1
       rw [if_pos hn0] at h1
       rw [List.length_append] at h2
       have := HSM.out; omega)
      have HLE2 := Lib.hid (show l2.length ≤ 1000 from by
       have h1 := HLP2.out.length_eq
       have h2 := (HTT.out.sides hk hn0 HML.out).length_eq
       unfold Plain.beyV at h1
       rw [if_pos hn0] at h1
       rw [List.length_append, HMT.out] at h2
       have := HSM.out; omega)
      have HA9 := Lib.hid (show IntsAt w9 (.slice o1 L1 c1) l1 from (HOV.out.chg HC89.out (by simp)).ints)
      have HB9 := Lib.hid (show IntsAt w9 (.slice o2 l2.length c2) l2 from HOV2.out.ints)
      have HP9 := Lib.hid (show IntsAt w9 (.slice bo p.e.length bc) p.e from by
       obtain ⟨v1, v2, e1, -, h2⟩ := HP.out
       simp only [Value.agg.injEq, Array.mk.injEq, List.cons.injEq, and_true] at e1
       obtain ⟨-, rfl⟩ := e1
       exact h2.fresh (HW6.out.tr HC9.out))
      refine along_op rfl (by rfl) (by rfl) (fun K hK => ?_)
      go_simp
      refine (refAnd_any _ _ l1 l2 _ (by have := HLE1.out; omega) (HA9.out.fresh hS0) (HB9.out.fresh hS0)).mono ?_
      rw [HAN.out]
      rintro e wa1 ⟨ov3, rfl, hr3, hca⟩
      obtain ⟨ao3, ac3, rfl⟩ := hr3.shape
      have hS1 := hS0.trans hca (by simp)
      clear hS0 hca hr3
      have hS0 := hS1
      clear hS1
      refine hK.out _ _ (fun _ => hS0) ?_
      clear hK K
      try simp only [Act.put, Z1, Z2, Z3, Z4, Z5, Z6]
      repeat
       first
        | (refine along_off rfl (by rfl) (by rfl) (fun _ _ _ h => h) hS0 ?_; simp only [Act.put, Z1, Z2, Z3, Z4, Z5, Z6])
        | (refine along_read (v := ?_) rfl (by rfl) (by rfl) (fun _ _ _ h => h) hS0 (fun w' hS' => ?_) ?_; rotate_left; (focus (have rd0 := hS'.cell y1 (by simp); clear hS'; go_simp; try with_reducible rfl)); simp only [Act.put, Z1, Z2, Z3, Z4, Z5, Z6])
        | (refine along_skip rfl (by rfl) (by rfl) hS0 ?_; simp only [Act.put, Z1, Z2, Z3, Z4, Z5, Z6])
      refine along_op rfl (by rfl) (by rfl) (fun K hK => ?_)
      go_simp
      refine (refOrL_any _ _ l1 l2 _ (by have := HLE1.out; omega) (by have := HLE2.out; omega) (HA9.out.fresh hS0) (HB9.out.fresh hS0)).mono ?_
      rw [HOR.out]
      rintro e wa2 ⟨ov4, rfl, hr4, hca⟩
      obtain ⟨ao4, ac4, rfl⟩ := hr4.shape
      have HR4' := Lib.hid hr4
      have hS1 := hS0.trans hca (by simp)
      clear hS0 hca hr4
      have hS0 := hS1
      clear hS1
      refine hK.out _ _ (fun _ => hS0) ?_
      clear hK K
      try simp only [Act.put, Z1, Z2, Z3, Z4, Z5, Z6]
      repeat
       first
        | (refine along_off rfl (by rfl) (by rfl) (fun _ _ _ h => h) hS0 ?_; simp only [Act.put, Z1, Z2, Z3, Z4, Z5, Z6])
        | (refine along_read (v := ?_) rfl (by rfl) (by rfl) (fun _ _ _ h => h) hS0 (fun w' hS' => ?_) ?_; rotate_left; (focus (have rd0 := hS'.cell y1 (by simp); clear hS'; go_simp; try with_reducible rfl)); simp only [Act.put, Z1, Z2, Z3, Z4, Z5, Z6])
        | (refine along_skip rfl (by rfl) (by rfl) hS0 ?_; simp only [Act.put, Z1, Z2, Z3, Z4, Z5, Z6])
      refine along_op rfl (by rfl) (by rfl) (fun K hK => ?_)
      go_simp
      refine (equal_any _ _ p.e p.e _ HR4'.out.ints (HP9.out.fresh hS0)).mono ?_
      rw [decide_eq_true rfl]
      rintro e wa3 ⟨rfl, hca⟩
      have hS1 := hS0.trans hca (by simp)
      clear hS0 hca
      have hS0 := hS1
      clear hS1
      refine hK.out _ _ (fun _ => hS0) ?_
      clear hK K
      try simp only [Act.put, Z1, Z2, Z3, Z4, Z5, Z6]
      repeat
       first
        | (refine along_off rfl (by rfl) (by rfl) (fun _ _ _ h => h) hS0 ?_; simp only [Act.put, Z1, Z2, Z3, Z4, Z5, Z6])
        | (refine along_read (v := ?_) rfl (by rfl) (by rfl) (fun _ _ _ h => h) hS0 (fun w' hS' => ?_) ?_; rotate_left; (focus (have rd0 := hS'.cell y1 (by simp); clear hS'; go_simp; try with_reducible rfl)); simp only [Act.put, Z1, Z2, Z3, Z4, Z5, Z6])
        | (refine along_skip rfl (by rfl) (by rfl) hS0 ?_; simp only [Act.put, Z1, Z2, Z3, Z4, Z5, Z6])
      refine along_done ?_
      have HCE := Lib.hid ((HCR7.out.tr HC89.out).tr hS0)
      clear hS0 y1
      gi_wp2
      go_roundw
      case rel => exact ⟨j + 1, by omega, by go_num, HCE.out⟩
      case measure => simp [intOf]; omega
     have e : j = N.l.length := by omega
     subst e
     gi_wp2
     exact ⟨s, [], ⟨rfl, HA.out⟩, HCR.out, Soft.nil _⟩
   case done =>
    rintro D s W hD ⟨rfl, h2⟩ hK
    have HRZ := Lib.hid (h2.hp HR6.out)
    have c0 := (cell_of_row _ _ 0 _ _ _ HRZ.out).trans (show _ = some (Value.bool false) from rfl)
    have f0 := free_at HRZ.out 0
    have HZ := Lib.hid (HW6.out.tr h2)
    have HKK := Lib.hid hK
    have HDD := Lib.hid hD
    clear h2 hK hD
    go_wp2
    exact sides_end [D] rfl HRZ.out HZ.out (by omega) (by simp) fun D' hD' => by
     rw [List.mem_singleton.1 hD']
     exact ⟨HKK.out, Nat.le_trans HW6.out.size HDD.out⟩
  have h1 := hno hne
  rw [h1]
  obtain ⟨er, her⟩ : ∃ er, Plain.newErr g p = er := ⟨_, rfl⟩
  rw [her] at hne ⊢
  have be : (er != 0) = true := by simpa using hne
  have HCX := Lib.hid ((Chg.refl [] w4).alloc (.cells #[.pointer none] 23))
  have HRX := Lib.hid (HCX.out.hp HR4.out)
  have c0 := (cell_of_row _ _ 0 _ _ _ HRX.out).trans (show _ = some (Value.bool false) from rfl)
  have f0 := free_at HRX.out 0
  clear hno hyes h1 her
  go_wp2
  exact sides_end [] rfl HRX.out ((HC1.out.tr HC4.out).tr HCX.out) (by omega) List.nodup_nil (by simp)
 rw [Bool.not_eq_true] at hsm
 rw [hsm]
 clear hsm
 go_wp2_with fail
 refine (awake15_any _).mono ?_
 rintro e w4 ⟨rfl, hc4⟩
 have HC4 := Lib.hid (HCW3.out.tr hc4)
 have HR4 := Lib.hid (hc4.hp HR3.out)
 have c0 := (cell_of_row _ _ 0 _ _ _ HR4.out).trans (show _ = some (Value.bool false) from rfl)
 have f0 := free_at HR4.out 0
 clear hc4
 go_wp2
 exact sides_end [] rfl HR4.out HC4.out (by omega) List.nodup_nil (by simp)
end
end Go.Proofs.YtpcgklagmcnhaaaGreat
