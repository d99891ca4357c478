/- block.target, finder.visit: contracts. Conditions: what each theorem says. -/
import Derived.Test.YtpcgklagmcnhaaaGreatT7Finder
-- READS ONLY
namespace Go.Proofs.YtpcgklagmcnhaaaGreat
open Go.RowKit Go.Maps
theorem btarget_any (v : Value) (g : Plain.Gr) (d : Nat) (w : World) (hd : d / 2 < g.e.length) (_hm : g.e.length < 4294967296) (h : GrAt w v g) :
  Calls Tryz.prog 166 #[v, .int .i64 d] w fun e w' => e = .returned (.int .i64 (g.head d)) ∧ Chg [] w w' := by
 obtain ⟨eo, cap, rfl, -, -, -, hcell⟩ := h
 obtain ⟨b, off, rfl, hc0, hc1⟩ := hcell (d / 2) hd
 have HC1 := Lib.hid ((Chg.refl [] w).alloc (.cells #[.int .i64 g.n, .slice (some ⟨b, off, none⟩) g.e.length cap] 41))
 obtain ⟨e, he⟩ : ∃ e, d / 2 = e := ⟨_, rfl⟩
 rw [he] at hd hc0 hc1
 have c0 := fun o => cellNew hc0 o
 have c1 := fun o => cellNew hc1 o
 clear hcell hc0 hc1
 rcases (show d = 2 * e ∨ d = 2 * e + 1 by omega) with rfl | rfl
 ·obtain ⟨q1, q2⟩ := quo_even e
  have HE := Lib.hid (dart_even g e).2
  rw [HE.out]
  clear he
  generalize ((2 * e : Nat) : Int) = dd at *
  generalize (g.ends e).1 = x at *
  generalize (g.ends e).2 = y at *
  go_enter Tryz.func166, Tryz.ntmps166
  go_wp2
  go_ret
  exact ⟨rfl, HC1.out⟩
 obtain ⟨q1, q2⟩ := quo_odd e
 have HE := Lib.hid (dart_odd g e).2
 rw [HE.out]
 clear he
 generalize ((2 * e + 1 : Nat) : Int) = dd at *
 generalize (g.ends e).1 = x at *
 generalize (g.ends e).2 = y at *
 go_enter Tryz.func166, Tryz.ntmps166
 go_wp2
 go_ret
 exact ⟨rfl, HC1.out⟩
theorem GrAt.chg {w w' : World} {n : Int} {ge : Value} {g : Plain.Gr} {own : List Nat} (h : GrAt w (.agg #[.int .i64 n, ge]) g) (hc : Chg own w w') (hn : 0 < g.e.length → ∀ b n c, ge = .slice (some b) n c → b.block ∉ own) : GrAt w' (.agg #[.int .i64 n, ge]) g := by
 obtain ⟨eo, cap, e, h1, h2, h3, h4⟩ := h
 simp only [Value.agg.injEq, Array.mk.injEq, List.cons.injEq, Value.int.injEq, true_and, and_true] at e
 obtain ⟨rfl, rfl⟩ := e
 refine ⟨eo, cap, rfl, h1, h2, h3, fun i hi => ?_⟩
 obtain ⟨b, off, rfl, e1, e2⟩ := h4 i hi
 have hb := hn (Nat.lt_of_le_of_lt (Nat.zero_le _) hi) _ _ _ rfl
 exact ⟨b, off, rfl, hc.cell e1 hb, hc.cell e2 hb⟩
structure FK.Has (k : FK) (g : Plain.Gr) (p : Plain.Pt) : Prop where
 n : g.n = k.n
 sn : k.n ≤ 100000
 se : g.e.length ≤ 100000
 he : ∀ e ∈ p.e, e < g.e.length
 gr : GrAt k.w0 (.agg #[.int .i64 g.n, k.gE]) g
 gro : 0 < g.e.length → ∀ b n c, k.gE = .slice (some b) n c → b.block ∉ k.own
 dv : ∃ (db c : Nat) (rv : Nat → Value), k.dv = .slice (some ⟨db, 0, none⟩) k.n c ∧ db ∉ k.own ∧ ∀ v, v < k.n → k.w0.cell? ⟨db, v, none⟩ = some (rv v) ∧ IntsAt k.w0 (rv v) (Plain.dartsAt g p v) ∧ ∀ b n c, rv v = .slice (some b) n c → b.block ∉ k.own
theorem i64_min {x y : Int} (h1 : I64 x) (h2 : I64 y) : I64 (min x y) := by
 by_cases h : x ≤ y
 ·rwa [Int.min_eq_left h]
 rwa [Int.min_eq_right (by omega)]
theorem box_new (w : World) (o : Obj) : (w.alloc o).heap[w.heap.size]? = some o := by
 unfold World.alloc
 exact Array.getElem?_push_size
theorem row_single (w : World) {B : Nat} (hB : B ≤ w.heap.size) {x : Int} (hx : I64 x) : RowAt (w.alloc (.cells #[.int .i64 x] 3)) B (.slice (some ⟨w.heap.size, 0, none⟩) 1 1) [x] :=
 ⟨⟨rfl, Or.inr ⟨w.heap.size, 1, #[.int .i64 x], rfl, hB, box_new w _, Nat.le_refl _, by unfold maxLen; decide, rfl, rfl⟩⟩, by simpa using hx, by simp⟩
def Fins (g : Plain.Gr) (p : Plain.Pt) (k : FK) (N : Nat) : Prop := ∀ (s : Plain.Dfs) (A : List Int) (v : Nat) (via : Int) (r : Nat) (w : World), Plain.Ent g p s A v via → Plain.unm p s ≤ N → Fin k g p w s r →
  Calls Tryz.prog 135 #[.pointer (some ⟨k.pb, 0, none⟩), .int .i64 v, .int .i64 via] w fun x w' => x = .returned (.tuple #[]) ∧ Fin k g p w' (Plain.visit g p N v via s) r
set_option maxRecDepth 100000 in
set_option maxHeartbeats 8000000 in
theorem fins_succ (k : FK) (g : Plain.Gr) (p : Plain.Pt) (hk : k.Ok) (hh : k.Has g p) (hp : Plain.PartOk g p) (N : Nat) (ih : Fins g p k N) : Fins g p k (N + 1) := by
 intro s A v via r w hE hu hfin
 have HE := Lib.hid hE
 have HP := Lib.hid hp
 have HIH := Lib.hid ih
 have HK := Lib.hid hk
 have HH := Lib.hid hh
 have HU := Lib.hid hu
 obtain ⟨ev, m, F, hf, hm1, hm2⟩ := hfin
 have hcn := hE.good.cnt
 have hpe := Plain.pot_enter hp hE.vV hE.vn hcn
 have hvn : v < k.n := by
  have := (hp.vr v hE.vV).2
  rw [hh.n] at this
  omega
 obtain ⟨db, dc, rv, hdv, hdb, hdr⟩ := hh.dv
 obtain ⟨hr1, hr2, hr3⟩ := hdr v hvn
 obtain ⟨D, hD⟩ : ∃ D, Plain.dartsAt g p v = D := ⟨_, rfl⟩
 rw [hD] at hpe hr2
 have HD := Lib.hid hD
 have HF := Lib.hid hf
 obtain ⟨-, -, -, -, -, c5, -, -⟩ := hf.eight
 have f5 := hf.free 5
 obtain ⟨c, hc⟩ : ∃ c, s.cnt = c := ⟨_, rfl⟩
 have HC := Lib.hid hc
 rw [hc] at c5 hm2 hcn
 have wc : IntKind.i64.wrap (c + 1) = c + 1 := IntWalk.i64_in _ (by omega)
 have HFC := Lib.hid (hf.count hk (c + 1))
 have HI1 := Lib.hid (show I64 (c + 1) from I64.mk (by omega) (by omega))
 have HM1 := Lib.hid hm1
 have HM2 := Lib.hid hm2
 have HPE := Lib.hid hpe
 clear hE hp ih hk hh hu hf hm1 hm2 hpe hdr hD hc
 go_enter Tryz.func135, Tryz.ntmps135
 go_wp2_with fail
 generalize w.setCell ⟨k.pb, 5, none⟩ (.int .i64 (c + 1)) = wb at *
 obtain ⟨-, -, a2, a3, a4, a5, -, -⟩ := HFC.out.eight
 rw [hdv] at a2
 have fm := HFC.out.met.free (by omega) v
 have fl := HFC.out.low.free (by omega) v
 have cm := HFC.out.met.cell hvn
 have cl := HFC.out.low.cell hvn
 have hvi : (v : Int) < (k.n : Int) := by omega
 have hne := HFC.out.ne
 have hS0 : Chg [k.mb] wb wb.drew := (Chg.refl [k.mb] wb).drew
 refine wp_region_way (Chg [k.mb] wb) [0, 1, 2, 3, 4, 5, 6, 7, 8, 9, 10, 11, 12, 13, 14, 15, 16, 17, 18, 20] (Way.line [0, 1, 2, 3, 4, 5, 6, 7, 8, 9, 10, 11, 12, 13, 14, 15, 16, 17, 18, 19, 20, 21] .done) (by kernel_rfl) (by kernel_rfl) ?_
 simp only [Way.line]
 repeat (refine along_read (v := ?_) rfl (by rfl) (by rfl) (fun _ _ _ h => h) hS0 (fun w' hS' => ?_) ?_; rotate_left; (focus (have rd0 := hS'.cell a3 (by simpa using hne.1); have rd1 := hS'.cell a4 (by simpa using hne.1); have rd2 := hS'.cell a5 (by simpa using hne.1); clear hS'; go_simp; try with_reducible rfl)); simp only [Act.put, Z1, Z2, Z3, Z4, Z5, Z6])
 refine along_op rfl (by rfl) (by rfl) (fun K hK => ?_)
 go_simp
 have hS1 : Chg [k.mb] wb (wb.setCell ⟨k.mb, v, none⟩ (.int .i64 (c + 1))).drew := ((Chg.refl [k.mb] wb).setCell (p := ⟨k.mb, v, none⟩) (Or.inl (by simp)) (.int .i64 (c + 1))).drew
 have HFM := Lib.hid (HFC.out.setMet HK.out hvn HI1.out)
 refine hK.out _ _ (fun _ => hS1) ?_
 clear hK K hS0
 try simp only [Act.put, Z1, Z2, Z3, Z4, Z5, Z6]
 generalize wb.setCell ⟨k.mb, v, none⟩ (.int .i64 (c + 1)) = wm at *
 repeat (refine along_read (v := ?_) rfl (by rfl) (by rfl) (fun _ _ _ h => h) hS1 (fun w' hS' => ?_) ?_; rotate_left; (focus (have rd0 := hS'.cell a3 (by simpa using hne.1); have rd1 := hS'.cell a4 (by simpa using hne.1); have rd2 := hS'.cell a5 (by simpa using hne.1); clear hS'; go_simp; try with_reducible rfl)); simp only [Act.put, Z1, Z2, Z3, Z4, Z5, Z6])
 have fl2 := HFM.out.low.free (by omega) v
 have cl2 := HFM.out.low.cell hvn
 refine along_op rfl (by rfl) (by rfl) (fun K hK => ?_)
 go_simp
 have HFL := Lib.hid (HFM.out.setLow HK.out hvn HI1.out)
 refine hK.out _ _ (fun h => absurd h (Bool.eq_false_iff.1 (by kernel_rfl))) ?_
 clear hK K hS1
 try simp only [Act.put, Z1, Z2, Z3, Z4, Z5, Z6]
 refine along_done ?_
 generalize wm.setCell ⟨k.lb, v, none⟩ (.int .i64 (c + 1)) = wl at *
 have HFE := Lib.hid (show FinAt k g wl.drew (s.enter v) ev m F by
  have := HFL.out.fresh (Chg.refl [] wl).drew
  unfold Plain.Dfs.enter
  rw [HC.out]
  exact this)
 clear HFL HFM HFC a3 a4 a5 fm fl cm cl fl2 cl2 c5 f5
 generalize wl.drew = w1 at *
 obtain ⟨-, -, a2, -, -, -, -, -⟩ := HFE.out.eight
 rw [hdv] at a2
 have hcd : w1.cell? ⟨db, v, none⟩ = some (rv v) := HFE.out.chg.cell hr1 (by simpa using hdb)
 have hID : IntsAt w1 (rv v) D := hr2.chg HFE.out.chg hr3
 have HID := Lib.hid (show ∀ wx, Chg k.own k.w0 wx → IntsAt wx (rv v) D from fun wx hx => hr2.chg hx hr3)
 obtain ⟨ao, ac, e, hI, hDm, -⟩ := hID
 rw [e] at hcd HID
 have HI := Lib.hid hI
 clear hr1 hr2 hr3 hI e
 go_wp2_with fail
 have HFE0 := Lib.hid (show Fin k g p w1 (s.enter v) (r + D.length) from ⟨ev, m, F, HFE.out, by
  have h1 := HM1.out
  have h2 := HPE.out
  show m + s.ed.length + Plain.pot g p (s.enter v) + (r + D.length) ≤ 100000
  omega, by
  have h1 := HM2.out
  have h2 := HPE.out
  show s.cnt + 1 + Plain.pot g p (s.enter v) ≤ 100000
  rw [HC.out]
  omega⟩)
 have HSN := Lib.hid (show Plain.DSeen g p s (s.enter v) A v via [] from Plain.DSeen.start HP.out HE.out)
 clear HFE HM1 HM2 HPE HI1 a2 hcd hcn
 go_loopw [7, 8, 9, 45, 57, 68, 72, 134] (fun _ _ _ iv _ _ _ _ wr => ∃ j : Nat, j ≤ D.length ∧ iv = .int .i64 j ∧ ∃ t, t = (D.take j).foldl (Plain.stepD (Plain.visit g p N) g v via) (s.enter v) ∧ Fin k g p wr t (r + (D.length - j)) ∧ Plain.DSeen g p s t A v via (D.take j)) (fun _ _ _ iv _ _ _ _ _ => ((D.length : Int) - intOf iv).toNat)
 case atStart => exact ⟨0, Nat.zero_le _, rfl, _, rfl, by rw [Nat.sub_zero]; exact HFE0.out, HSN.out⟩
 case round =>
  obtain ⟨j, hj, rfl, t, ht, hft, hsn⟩ := hrel
  clear HFE0 HSN
  have HT := Lib.hid ht
  have HSN := Lib.hid hsn
  have HFT := Lib.hid hft
  clear ht hsn
  by_cases h0 : j = D.length
  ·subst h0
   have b0 : decide ((D.length : Int) < (D.length : Int)) = false := decide_eq_false (by omega)
   clear hft hj
   go_wp2
   refine bodyPost_end (v := .tuple #[]) (by simp [results, Tryz.results135, go_sem]) rfl ?_
   refine ⟨rfl, ?_⟩
   have h1 := HFT.out
   rw [HT.out, List.take_length, Nat.sub_self] at h1
   unfold Plain.visit
   rw [HD.out]
   exact h1
  have hjl : j < D.length := by omega
  obtain ⟨ev1, m1, F1, hf1, hm11, hm12⟩ := hft
  have HF1 := Lib.hid hf1
  have HID1 := Lib.hid (HID.out wr hf1.chg)
  obtain ⟨bb, boff, rfl, hdc⟩ := HID1.out.cellAt hjl
  have hdm : D.getD j 0 ∈ D := Plain.getD_mem hjl
  obtain ⟨d, hd⟩ : ∃ d, D.getD j 0 = d := ⟨_, rfl⟩
  rw [hd] at hdm hdc
  have hdm2 : d ∈ Plain.dartsAt g p v := by rw [HD.out]; exact hdm
  obtain ⟨hdd, hdt⟩ := Plain.mem_dartsAt.1 hdm2
  have he0 := Plain.mem_darts.1 hdd
  have hpos := HP.out.er _ he0
  have hlt := HH.out.he _ he0
  obtain ⟨dn, rfl⟩ : ∃ dn : Nat, d = dn := ⟨d.toNat, by omega⟩
  obtain ⟨en, hen⟩ : ∃ en, dn / 2 = en := ⟨_, rfl⟩
  have hen2 : ((dn : Int) / 2) = (en : Int) := by omega
  rw [hen2] at he0 hlt
  have hen3 : dn / 2 < g.e.length := by omega
  have hq : Int.tdiv (dn : Int) 2 = (en : Int) := by rw [Int.tdiv_eq_ediv_of_nonneg (by omega)]; omega
  have hxv := (HP.out.tail_mem hdd).2
  have hxr := HP.out.vr _ hxv
  obtain ⟨x, hx⟩ : ∃ x : Nat, g.head (dn : Int) = x := ⟨(g.head dn).toNat, by omega⟩
  rw [hx] at hxv hxr
  have hxn : x < k.n := by have := hxr.2; rw [HH.out.n] at this; omega
  have HX := Lib.hid hx
  have HEN := Lib.hid hen2
  have hdp : (dn : Int) ∉ D.take j := fun q => by
   have hnd : D.Nodup := by rw [← HD.out]; exact Plain.dartsAt_nodup HP.out.en v
   obtain ⟨i, hi1, hi2⟩ := List.mem_iff_getElem.1 q
   rw [List.getElem_take] at hi2
   rw [List.length_take] at hi1
   have h3 : D[j] = (dn : Int) := by rw [← hd]; simp [List.getD, hjl]
   exact (List.pairwise_iff_getElem.1 hnd i j (by omega) hjl (by omega)) (by rw [hi2, h3])
  have HST := Lib.hid (HSN.out.step HP.out HE.out HU.out hdm2 hdp)
  have hts : D.take (j + 1) = D.take j ++ [(dn : Int)] := by
   rw [List.take_succ_eq_append_getElem hjl]
   congr 2
   rw [← hd]; simp [List.getD, hjl]
  have HTS := Lib.hid hts
  have HTN := Lib.hid (show (D.take (j + 1)).foldl (Plain.stepD (Plain.visit g p N) g v via) (s.enter v) = Plain.stepD (Plain.visit g p N) g v via t dn by rw [hts, List.foldl_append, ← HT.out]; rfl)
  have hji : (j : Int) < (D.length : Int) := by omega
  have HGR := Lib.hid (show ∀ wx, Chg k.own k.w0 wx → GrAt wx (.agg #[.int .i64 g.n, k.gE]) g from fun wx hc => HH.out.gr.chg hc HH.out.gro)
  obtain ⟨a0, a1, -, -, -, -, -, -⟩ := hf1.eight
  have HDD := Lib.hid hdd
  have HDT := Lib.hid hdt
  clear hf1 hd hdm hdm2 hdd hdt hts hx hen hdp
  go_wp2_with fail
  refine (btarget_any _ g dn wr hen3 (by have := HH.out.se; omega) (HGR.out wr HF1.out.chg)).mono ?_
  rintro _ w2 ⟨rfl, hc2⟩
  rw [HX.out]
  have HF2 := Lib.hid (HF1.out.fresh hc2)
  obtain ⟨-, -, -, a3, a4, -, a6, a7⟩ := HF2.out.eight
  have IE := Lib.hid (show I64 (en : Int) from I64.mk (by omega) (by have := HH.out.se; omega))
  clear HF1 HFT HID1 HGR hdc a0 a1 hc2 hq hen3
  have wq : wrap64 (en : Int) = (en : Int) := IntWalk.wrap64_in _ (by have := HH.out.se; omega)
  by_cases c1 : x = v
  ·have b1 : ((x : Int) == (v : Int)) = true := by simp [c1]
   have hst : Plain.stepD (Plain.visit g p N) g v via t dn = t.lay en := by
    unfold Plain.stepD
    rw [HX.out, if_pos (by rw [c1]), HEN.out]
   have HA := Lib.hid (HF2.out.fresh ((Chg.refl [] w2).alloc (.cells #[.int .i64 (en : Int)] 3)))
   have HRS := Lib.hid (row_single w2 (B := k.w0.heap.size) HF2.out.chg.size IE.out)
   have HLT := Lib.hid (show ∀ b, ev1.ownBlock = some b → b < w2.heap.size from fun b hb => (HF2.out.ed.low b (by simp [hb])).2)
   clear hji h0
   go_wp2_with (first
    | (at_mapUpdate; refine wl_vstore rfl _ _ _ rfl HA.out.map (by unfold maxLen; omega) rfl IE.out rfl rfl (RowV.some _ _ _ _) ?_; intro w6 m6 c6; have M6 := Lib.hid m6; have C6 := Lib.hid c6; clear m6 c6)
    | fail)
   go_roundw
   case rel =>
    have h1 := HA.out.put HK.out (l := [(en : Int)]) HRS.out (fun b hb q => by
     have e1 : w2.heap.size = b := by simpa [Value.ownBlock] using hb
     have := HLT.out b q
     omega) C6.out M6.out
    refine ⟨j + 1, by omega, by go_num, t.lay en, ?_, ⟨_, _, _, h1, ?_, hm12⟩, ?_⟩
    ·rw [HTN.out, hst]
    ·show m1 + 1 + t.ed.length + Plain.pot g p t + (r + (D.length - (j + 1))) ≤ 100000
     omega
    rw [HTS.out, ← hst]
    exact HST.out
   case measure => simp [intOf]; omega
  have b1 : ((x : Int) == (v : Int)) = false := by simp; omega
  by_cases c2 : (en : Int) = via
  ·have b2 : ((en : Int) == via) = true := by simp [c2]
   have hst : Plain.stepD (Plain.visit g p N) g v via t dn = t := by
    unfold Plain.stepD
    rw [HX.out, if_neg (by omega), HEN.out, if_pos c2]
   clear hji h0 c2
   go_wp2
   go_roundw
   case rel =>
    refine ⟨j + 1, by omega, by go_num, t, by rw [HTN.out, hst], ⟨_, _, _, HF2.out, by omega, hm12⟩, ?_⟩
    have h1 := HST.out
    rw [hst] at h1
    rw [HTS.out]
    exact h1
   case measure => simp [intOf]; omega
  have b2 : ((en : Int) == via) = false := by simp [c2]
  have hne2 := HF2.out.ne
  have cmx := HF2.out.met.cell hxn
  have hxi : (x : Int) < (k.n : Int) := by omega
  obtain ⟨tm, htm⟩ : ∃ tm, t.met (x : Int) = tm := ⟨_, rfl⟩
  have HTM := Lib.hid htm
  rw [htm] at cmx
  clear htm
  by_cases c3 : tm = 0
  ·have b3 : (tm == 0) = true := by simp [c3]
   have HBD := Lib.hid (show m1 + (t.push en).ed.length + Plain.pot g p (t.push en) + (r + (D.length - (j + 1))) ≤ 100000 by
    show m1 + (t.ed ++ [(en : Int)]).length + Plain.pot g p t + (r + (D.length - (j + 1))) ≤ 100000
    rw [List.length_append]
    simp only [List.length_cons, List.length_nil]
    omega)
   have HXV := Lib.hid (show ¬ (x : Int) = (v : Int) by omega)
   have hfr := HF2.out.low.free (by omega) v
   have HST3 := Lib.hid (show Plain.stepD (Plain.visit g p N) g v via t dn = (Plain.visit g p N x en (t.push en)).back v x en from by
    unfold Plain.stepD
    rw [HX.out, if_neg HXV.out, HEN.out, if_neg c2, if_pos (by rw [HTM.out]; exact c3)])
   have HX0 := Lib.hid (show t.met (g.head dn) = 0 by rw [HX.out, HTM.out]; exact c3)
   have HEX := Lib.hid (HSN.out.ent HP.out HE.out HDD.out HDT.out HX0.out)
   have HUX := Lib.hid (HSN.out.less (d := (dn : Int) / 2) HE.out HU.out)
   rw [HX.out, HEN.out] at HEX
   rw [HEN.out] at HUX
   have HSX := Lib.hid (Plain.visit_ok HP.out N _ _ _ _ HEX.out HUX.out)
   have HNP := Lib.hid (show 0 < k.n by omega)
   clear hji h0 hfr
   have q6 := HF2.out.free 6
   obtain ⟨eo1, ec1, rfl⟩ := HF2.out.ed.shape
   have HPB := Lib.hid (show k.pb ∉ foot (.slice eo1 t.ed.length ec1) from fun q => by
    rw [HF2.out.ed.foot] at q
    have := (HF2.out.ed.low _ q).1
    have := HK.out.lt k.pb (by simp [FK.own])
    omega)
   go_wp2_with (first
    | (at_builtin; refine wl_push rfl _ _ rfl (B := k.w0.heap.size) (v := .slice eo1 _ ec1) rfl rfl HF2.out.ed IE.out HF2.out.chg.size (by omega) rfl ?_; intro v6 w6 r6 c6 f6; obtain ⟨o6, n6, rfl⟩ := r6.shape; have R6 := Lib.hid r6; have C6 := Lib.hid c6; have F6 := Lib.hid f6; have d6 := c6.cell a6 HPB.out; have g6 := c6.frozen a6 q6 HPB.out; clear r6 c6 f6)
    | fail)
   have HP6 := Lib.hid (HF2.out.push HK.out R6.out C6.out F6.out)
   clear d6 g6 a3 a4 a6 a7 q6 R6 C6 F6 HPB
   rw [show (t.ed ++ [(en : Int)]).length = t.ed.length + 1 by simp] at HP6
   generalize w6.setCell ⟨k.pb, 6, none⟩ (.slice o6 (t.ed.length + 1) n6) = w7 at *
   refine (HIH.out (t.push en) (A ++ [(v : Int)]) x en (r + (D.length - (j + 1))) w7 HEX.out HUX.out ⟨_, _, _, HP6.out, ?_, hm12⟩).mono ?_
   ·exact HBD.out
   rintro _ w3 ⟨rfl, hv3⟩
   obtain ⟨t3, ht3⟩ : ∃ t3, Plain.visit g p N x en (t.push en) = t3 := ⟨_, rfl⟩
   rw [ht3] at HSX hv3 HST3
   have hen3 : (en : Int) ∈ t3.ed := by
    obtain ⟨R, N', e1, -⟩ := HSX.out.cov
    rw [e1]
    show (en : Int) ∈ (t.ed ++ [(en : Int)]) ++ R
    simp
   have HEN3 := Lib.hid hen3
   clear HP6 HEX HUX HSX ht3 hen3 HX0 hm11 hm12 HF2 hne2 cmx HTM HIH HID
   obtain ⟨ev3, m3, F3, hf3, hm31, hm32⟩ := hv3
   have HF3 := Lib.hid hf3
   obtain ⟨-, -, -, z3, z4, -, -, -⟩ := hf3.eight
   have lv := hf3.low.cell hvn
   have lx := hf3.low.cell hxn
   have lf := hf3.low.free HNP.out v
   have hi1 := hf3.low.i64 hvn
   have hi2 := hf3.low.i64 hxn
   obtain ⟨y1, hy1⟩ : ∃ y1, t3.low (v : Int) = y1 := ⟨_, rfl⟩
   obtain ⟨y2, hy2⟩ : ∃ y2, t3.low (x : Int) = y2 := ⟨_, rfl⟩
   rw [hy1] at lv hi1
   rw [hy2] at lx hi2
   have HMI := Lib.hid (i64_min hi1 hi2)
   clear hi1 hi2
   have HY1 := Lib.hid hy1
   have HY2 := Lib.hid hy2
   clear hf3 hy1 hy2
   go_wp2_with fail
   have hS0 : Chg [] w3 w3.drew := (Chg.refl [] w3).drew
   refine wp_region_way (Chg [] w3) [0, 1, 2, 3, 4, 5, 6, 7, 8, 9, 10, 11, 12, 13, 14, 15, 16, 17, 18, 19, 20] (Way.line [0, 1, 2, 3, 4, 5, 6, 7, 8, 9, 10, 11, 12, 13, 14, 15, 16, 17, 18, 19, 20, 21] .done) (by kernel_rfl) (by kernel_rfl) ?_
   simp only [Way.line]
   repeat (refine along_read (v := ?_) rfl (by rfl) (by rfl) (fun _ _ _ h => h) hS0 (fun w' hS' => ?_) ?_; rotate_left; (focus (have rd0 := hS'.cell z4 (by simp); have rd1 := hS'.cell lv (by simp); have rd2 := hS'.cell lx (by simp); clear hS'; go_simp; try with_reducible rfl)); simp only [Act.put, Z1, Z2, Z3, Z4, Z5, Z6])
   refine along_op rfl (by rfl) (by rfl) (fun K hK => ?_)
   go_simp
   refine hK.out _ _ (fun h => absurd h (Bool.eq_false_iff.1 (by kernel_rfl))) ?_
   clear hK K
   try simp only [Act.put, Z1, Z2, Z3, Z4, Z5, Z6]
   refine along_done ?_
   have HF4 := Lib.hid (show FinAt k g (w3.setCell ⟨k.lb, v, none⟩ (.int .i64 (min y1 y2))).drew (t3.lower v y2) ev3 m3 F3 by
    have := (HF3.out.setLow HK.out hvn HMI.out).fresh (Chg.refl [] _).drew
    unfold Plain.Dfs.lower
    rw [HY1.out]
    exact this)
   clear HF3 z3 z4 lv lx lf hS0
   generalize (w3.setCell ⟨k.lb, v, none⟩ (.int .i64 (min y1 y2))).drew = w4 at *
   obtain ⟨-, -, -, z3, z4, -, -, -⟩ := HF4.out.eight
   have lx := HF4.out.low.cell hxn
   have mv := HF4.out.met.cell hvn
   rw [show (t3.lower v y2).low (x : Int) = y2 from (Plain.upd_ne HXV.out).trans HY2.out] at lx
   obtain ⟨y3, hy3⟩ : ∃ y3, (t3.lower v y2).met (v : Int) = y3 := ⟨_, rfl⟩
   rw [hy3] at mv
   have HY3 := Lib.hid (show t3.met (v : Int) = y3 from hy3)
   clear hy3
   go_wp2_with fail
   have hS0 : Chg [] w4 w4.drew := (Chg.refl [] w4).drew
   refine wp_region_way (Chg [] w4) [0, 1, 2, 3, 4, 5, 6, 7, 8, 9, 10, 11, 12, 13, 14] (Way.line [0, 1, 2, 3, 4, 5, 6, 7, 8, 9, 10, 11, 12, 13, 14] .done) (by kernel_rfl) (by kernel_rfl) ?_
   simp only [Way.line]
   repeat (refine along_read (v := ?_) rfl (by rfl) (by rfl) (fun _ _ _ h => h) hS0 (fun w' hS' => ?_) ?_; rotate_left; (focus (have rd0 := hS'.cell z3 (by simp); have rd1 := hS'.cell z4 (by simp); have rd2 := hS'.cell lx (by simp); have rd3 := hS'.cell mv (by simp); clear hS'; go_simp; try with_reducible rfl)); simp only [Act.put, Z1, Z2, Z3, Z4, Z5, Z6])
   refine along_done ?_
   have HF5 := Lib.hid (HF4.out.fresh hS0)
   clear HF4 hS0 z3 z4 lx mv
   generalize w4.drew = w5 at *
   have HB5 := Lib.hid (show m3 + (t3.lower v y2).ed.length + Plain.pot g p (t3.lower v y2) + (r + (D.length - (j + 1))) ≤ 100000 from hm31)
   have HC5 := Lib.hid (show (t3.lower v y2).cnt + Plain.pot g p (t3.lower v y2) ≤ 100000 from hm32)
   clear hm31 hm32
   by_cases c5 : y3 ≤ y2
   ·have b5 : decide (y2 ≥ y3) = true := decide_eq_true c5
    have HBK := Lib.hid (show (t3).back v x en = (t3.lower v y2).take en by
     unfold Plain.Dfs.back
     rw [HY2.out, HY3.out, if_pos c5])
    have b6 : decide (y3 ≤ y2) = true := decide_eq_true c5
    have b7 : ¬ y2 < y3 := Int.not_lt.2 c5
    go_wp2_with fail
    refine (ftake_any k g p HK.out (t3.lower v y2) en (r + (D.length - (j + 1))) w5 HEN3.out ⟨_, _, _, HF5.out, HB5.out, HC5.out⟩).mono ?_
    rintro _ w6 ⟨rfl, hv6⟩
    go_wp2
    go_roundw
    case rel =>
     refine ⟨j + 1, by omega, by go_num, _, rfl, ?_, ?_⟩
     ·rw [HTN.out, HST3.out, HBK.out]
      exact hv6
     rw [HTN.out, HTS.out]
     exact HST.out
    case measure => simp [intOf]; omega
   have b5 : decide (y2 ≥ y3) = false := decide_eq_false c5
   have HBK := Lib.hid (show (t3).back v x en = t3.lower v y2 by
    unfold Plain.Dfs.back
    rw [HY2.out, HY3.out, if_neg c5])
   have b6 : decide (y3 ≤ y2) = false := decide_eq_false c5
   have b7 : y2 < y3 := Int.not_le.1 c5
   go_wp2
   go_roundw
   case rel =>
    refine ⟨j + 1, by omega, by go_num, _, rfl, ?_, ?_⟩
    ·rw [HTN.out, HST3.out, HBK.out]
     exact ⟨_, _, _, HF5.out, HB5.out, HC5.out⟩
    rw [HTN.out, HTS.out]
    exact HST.out
   case measure => simp [intOf]; omega
  have b3 : (tm == 0) = false := by simp [c3]
  have mv := HF2.out.met.cell hvn
  obtain ⟨tv, htv⟩ : ∃ tv, t.met (v : Int) = tv := ⟨_, rfl⟩
  have HTV := Lib.hid htv
  rw [htv] at mv
  clear htv
  have HBD0 := Lib.hid (show m1 + t.ed.length + Plain.pot g p t + (r + (D.length - (j + 1))) ≤ 100000 by omega)
  have HXV := Lib.hid (show ¬ (x : Int) = (v : Int) by omega)
  have HNP := Lib.hid (show 0 < k.n by omega)
  by_cases c4 : tm < tv
  ·have b4 : decide (tm < tv) = true := decide_eq_true c4
   have HBD := Lib.hid (show m1 + (t.push en).ed.length + Plain.pot g p (t.push en) + (r + (D.length - (j + 1))) ≤ 100000 by
    show m1 + (t.ed ++ [(en : Int)]).length + Plain.pot g p t + (r + (D.length - (j + 1))) ≤ 100000
    rw [List.length_append]
    simp only [List.length_cons, List.length_nil]
    omega)
   have HST3 := Lib.hid (show Plain.stepD (Plain.visit g p N) g v via t dn = (t.push en).lower v tm from by
    unfold Plain.stepD
    rw [HX.out, if_neg HXV.out, HEN.out, if_neg c2, if_neg (by rw [HTM.out]; exact c3), HTM.out, HTV.out, if_pos c4])
   have q6 := HF2.out.free 6
   obtain ⟨eo1, ec1, rfl⟩ := HF2.out.ed.shape
   have HPB := Lib.hid (show k.pb ∉ foot (.slice eo1 t.ed.length ec1) from fun q => by
    rw [HF2.out.ed.foot] at q
    have := (HF2.out.ed.low _ q).1
    have := HK.out.lt k.pb (by simp [FK.own])
    omega)
   have HL9 := Lib.hid (show t.ed.length < 4294967290 by omega)
   clear hji h0
   go_wp2_with fail
   have hS0 : Chg [] w2 w2.drew := (Chg.refl [] w2).drew
   refine wp_region_way (Chg [] w2) [0, 1, 2, 3, 4, 5, 6, 7, 8, 9, 10, 11, 12, 13, 14, 15] (Way.line [0, 1, 2, 3, 4, 5, 6, 7, 8, 9, 10, 11, 12, 13, 14, 15] .done) (by kernel_rfl) (by kernel_rfl) ?_
   simp only [Way.line]
   repeat (refine along_read (v := ?_) rfl (by rfl) (by rfl) (fun _ _ _ h => h) hS0 (fun w' hS' => ?_) ?_; rotate_left; (focus (have rd0 := hS'.cell a3 (by simp); have rd1 := hS'.cell cmx (by simp); have rd2 := hS'.cell mv (by simp); clear hS'; go_simp; try with_reducible rfl)); simp only [Act.put, Z1, Z2, Z3, Z4, Z5, Z6])
   refine along_done ?_
   have a6 := hS0.cell a6 (by simp)
   have q6 := hS0.frozen a6 q6 (by simp)
   have HFR := Lib.hid (HF2.out.fresh hS0)
   have HMV := Lib.hid (hS0.cell mv (by simp))
   clear hS0 a3 a4 a7 cmx mv HF2
   generalize w2.drew = w3 at *
   go_wp2_with (first
    | (at_builtin; refine wl_push rfl _ _ rfl (B := k.w0.heap.size) (v := .slice eo1 _ ec1) rfl rfl HFR.out.ed IE.out HFR.out.chg.size HL9.out rfl ?_; intro v6 w6 r6 c6 f6; obtain ⟨o6, n6, rfl⟩ := r6.shape; have R6 := Lib.hid r6; have C6 := Lib.hid c6; have F6 := Lib.hid f6; have d6 := c6.cell a6 HPB.out; have g6 := c6.frozen a6 q6 HPB.out; clear r6 c6 f6)
    | fail)
   have HP6 := Lib.hid (HFR.out.push HK.out R6.out C6.out F6.out)
   clear d6 g6 a6 q6 R6 C6 F6 HPB HFR
   rw [show (t.ed ++ [(en : Int)]).length = t.ed.length + 1 by simp] at HP6
   generalize w6.setCell ⟨k.pb, 6, none⟩ (.slice o6 (t.ed.length + 1) n6) = w7 at *
   obtain ⟨-, -, -, z3, z4, -, -, -⟩ := HP6.out.eight
   have lv := HP6.out.low.cell hvn
   have mx := HP6.out.met.cell hxn
   have lf := HP6.out.low.free HNP.out v
   have hi1 := HP6.out.low.i64 hvn
   have hi2 := HP6.out.met.i64 hxn
   have hy2 : (t.push en).met (x : Int) = tm := HTM.out
   rw [hy2] at mx hi2
   obtain ⟨y1, hy1⟩ : ∃ y1, (t.push en).low (v : Int) = y1 := ⟨_, rfl⟩
   rw [hy1] at lv hi1
   have HY1 := Lib.hid hy1
   have HMI := Lib.hid (i64_min hi1 hi2)
   clear hi1 hi2 hy1 hy2
   go_wp2_with fail
   have hS0 : Chg [] w7 w7.drew := (Chg.refl [] w7).drew
   refine wp_region_way (Chg [] w7) [0, 1, 2, 3, 4, 5, 6, 7, 8, 9, 10, 11, 12, 13, 14, 15, 16, 17, 18, 19, 20] (Way.line [0, 1, 2, 3, 4, 5, 6, 7, 8, 9, 10, 11, 12, 13, 14, 15, 16, 17, 18, 19, 20, 21] .done) (by kernel_rfl) (by kernel_rfl) ?_
   simp only [Way.line]
   repeat (refine along_read (v := ?_) rfl (by rfl) (by rfl) (fun _ _ _ h => h) hS0 (fun w' hS' => ?_) ?_; rotate_left; (focus (have rd0 := hS'.cell z3 (by simp); have rd1 := hS'.cell z4 (by simp); have rd2 := hS'.cell lv (by simp); have rd3 := hS'.cell mx (by simp); clear hS'; go_simp; try with_reducible rfl)); simp only [Act.put, Z1, Z2, Z3, Z4, Z5, Z6])
   refine along_op rfl (by rfl) (by rfl) (fun K hK => ?_)
   go_simp
   refine hK.out _ _ (fun h => absurd h (Bool.eq_false_iff.1 (by kernel_rfl))) ?_
   clear hK K
   try simp only [Act.put, Z1, Z2, Z3, Z4, Z5, Z6]
   refine along_done ?_
   have HF4 := Lib.hid (show FinAt k g (w7.setCell ⟨k.lb, v, none⟩ (.int .i64 (min y1 tm))).drew ((t.push en).lower v tm) _ m1 F1 by
    have := (HP6.out.setLow HK.out hvn HMI.out).fresh (Chg.refl [] _).drew
    unfold Plain.Dfs.lower
    rw [HY1.out]
    exact this)
   clear z3 z4 lv mx lf hS0 HP6
   generalize (w7.setCell ⟨k.lb, v, none⟩ (.int .i64 (min y1 tm))).drew = w8 at *
   have HC5 := Lib.hid (show ((t.push en).lower v tm).cnt + Plain.pot g p ((t.push en).lower v tm) ≤ 100000 from hm12)
   have HB5 := Lib.hid (show m1 + ((t.push en).lower v tm).ed.length + Plain.pot g p ((t.push en).lower v tm) + (r + (D.length - (j + 1))) ≤ 100000 from HBD.out)
   go_wp2
   go_roundw
   case rel =>
    refine ⟨j + 1, by omega, by go_num, _, rfl, ?_, ?_⟩
    ·rw [HTN.out, HST3.out]
     exact ⟨_, _, _, HF4.out, HB5.out, HC5.out⟩
    rw [HTN.out, HTS.out]
    exact HST.out
   case measure => simp [intOf]; omega
  have b4 : decide (tm < tv) = false := decide_eq_false c4
  have HST3 := Lib.hid (show Plain.stepD (Plain.visit g p N) g v via t dn = t from by
   unfold Plain.stepD
   rw [HX.out, if_neg HXV.out, HEN.out, if_neg c2, if_neg (by rw [HTM.out]; exact c3), HTM.out, HTV.out, if_neg c4])
  have HB4 := Lib.hid hm12
  clear hji h0 hm11 hm12
  go_wp2_with fail
  have hS0 : Chg [] w2 w2.drew := (Chg.refl [] w2).drew
  refine wp_region_way (Chg [] w2) [0, 1, 2, 3, 4, 5, 6, 7, 8, 9, 10, 11, 12, 13, 14, 15] (Way.line [0, 1, 2, 3, 4, 5, 6, 7, 8, 9, 10, 11, 12, 13, 14, 15] .done) (by kernel_rfl) (by kernel_rfl) ?_
  simp only [Way.line]
  repeat (refine along_read (v := ?_) rfl (by rfl) (by rfl) (fun _ _ _ h => h) hS0 (fun w' hS' => ?_) ?_; rotate_left; (focus (have rd0 := hS'.cell a3 (by simp); have rd1 := hS'.cell cmx (by simp); have rd2 := hS'.cell mv (by simp); clear hS'; go_simp; try with_reducible rfl)); simp only [Act.put, Z1, Z2, Z3, Z4, Z5, Z6])
  refine along_done ?_
  have HFR := Lib.hid (HF2.out.fresh hS0)
  clear hS0 a3 a4 a6 a7 cmx mv HF2
  generalize w2.drew = w3 at *
  go_wp2
  go_roundw
  case rel =>
   refine ⟨j + 1, by omega, by go_num, _, rfl, ?_, ?_⟩
   ·rw [HTN.out, HST3.out]
    exact ⟨_, _, _, HFR.out, HBD0.out, HB4.out⟩
   rw [HTN.out, HTS.out]
   exact HST.out
  case measure => simp [intOf]; omega
theorem fvisit_any (k : FK) (g : Plain.Gr) (p : Plain.Pt) (hk : k.Ok) (hh : k.Has g p) (hp : Plain.PartOk g p) : ∀ N, Fins g p k N
 | 0 => fun s A v via r w hE hu _ => by
  have : 0 < Plain.unm p s := List.length_pos_of_mem (List.mem_filter.2 ⟨hE.vV, decide_eq_true hE.vn⟩)
  omega
 | N + 1 => fins_succ k g p hk hh hp N (fvisit_any k g p hk hh hp N)
end Go.Proofs.YtpcgklagmcnhaaaGreat
namespace Go.Proofs.YtpcgklagmcnhaaaGreat
open Go
section
variable {P : Program} {ops : Array Oper} {Q : Exit → Act → World → Prop} {md : Region.Mode} {w0 : World} {fr : (Nat → Value) → Act} {z : Nat} {fin M : List Nat}
def NewB (v : Value) (w w' : World) : Prop := ∀ b, v.ownBlock = some b → w.heap.size ≤ b ∧ b < w'.heap.size
def ApartV (d M : List Nat) (vals : Nat → Value) : Prop := ∀ i ∈ M, ∀ j ∈ M, i ∈ d → j ∈ d → i ≠ j → ∀ b, (vals i).ownBlock = some b → (vals j).ownBlock ≠ some b
def MonoD (P : Program) (ops : Array Oper) (Q : Exit → Act → World → Prop) (w0 : World) (fr : (Nat → Value) → Act) (z : Nat) (fin : List Nat) (M : List Nat) (L : List (Value → World → Prop)) : Nat → List (Oper × List Nat) → Prop
 | _, [] => ∀ vals w, Chg [] w0 w → Facts L vals w fin → ApartV fin M vals → wpOp P ops Q z (fun a' w' => Q .normal a' w') (fr vals) w
 | i, (o, d) :: r => ∃ p, (Calm p ∧ ∀ vals w, Chg [] w0 w → Facts L vals w d → ApartV d M vals → wpOp P ops Q i (fun a' w' => ∃ v, a' = (fr vals).put o.dst v ∧ p v w' ∧ Chg [] w w' ∧ (i ∈ M → NewB v w w')) (fr vals) w) ∧ MonoD P ops Q w0 fr z fin M (L ++ [p]) (i + 1) r
theorem monoD_out : ∀ (todo : List (Oper × List Nat)) (i : Nat) (L : List (Value → World → Prop)), L.length = i → MonoD P ops Q w0 fr z fin M L i todo → (∀ k o d, todo[k]? = some (o, d) → ∀ x ∈ d, x < i + k) →
  ∃ L', (∀ j, j < i → L'.getD j (fun _ _ => True) = L.getD j (fun _ _ => True)) ∧ L'.length = i + todo.length ∧
   (∀ k o d, todo[k]? = some (o, d) → Calm (L'.getD (i + k) (fun _ _ => True)) ∧ ∀ vals w, Chg [] w0 w → Facts L' vals w d → ApartV d M vals → wpOp P ops Q (i + k) (fun a' w' => ∃ v, a' = (fr vals).put o.dst v ∧ (L'.getD (i + k) (fun _ _ => True)) v w' ∧ Chg [] w w' ∧ (i + k ∈ M → NewB v w w')) (fr vals) w) ∧
   (∀ vals w, Chg [] w0 w → Facts L' vals w fin → ApartV fin M vals → wpOp P ops Q z (fun a' w' => Q .normal a' w') (fr vals) w)
 | [], i, L, hl, h, _ => ⟨L, fun _ _ => rfl, by simp [hl], fun k o d hk => by simp at hk, h⟩
 | (o, d) :: r, i, L, hl, ⟨p, ⟨h1, h2⟩, h3⟩, hd => by
  obtain ⟨L', k1, k2, k3, k4⟩ := monoD_out r (i + 1) (L ++ [p]) (by simp [hl]) h3 (fun k o' d' hk x hx => by have := hd (k + 1) o' d' (by simpa using hk) x hx; omega)
  have hp : L'.getD i (fun _ _ => True) = p := by
   rw [k1 i (by omega)]
   simp [List.getD, hl]
  have hold : ∀ j, j < i → L'.getD j (fun _ _ => True) = L.getD j (fun _ _ => True) := fun j hj => by
   rw [k1 j (by omega)]
   simp [List.getD, List.getElem?_append_left (by omega : j < L.length)]
  refine ⟨L', hold, by rw [k2]; simp; omega, fun k o' d' hk => ?_, k4⟩
  cases k with
  | zero =>
   obtain ⟨rfl, rfl⟩ : o = o' ∧ d = d' := by simpa using hk
   rw [Nat.add_zero, hp]
   refine ⟨h1, fun vals w hG hF hA => h2 vals w hG ?_ hA⟩
   rw [← facts_congr (L := L') (L' := L) (fun x hx => hold x (by have := hd 0 o d rfl x hx; omega))]
   exact hF
  | succ k =>
   have := k3 k o' d' (by simpa using hk)
   rw [show i + 1 + k = i + (k + 1) by omega] at this
   exact this
theorem wpAny_apart {a0 : Act} {deps : Nat → List Nat} {I : Nat → Value → World → Prop} (hfr : ∀ vals, fr vals = fillL vals 0 ops.toList a0) (hap : apart ops.toList = true)
  (hacy : ∀ j oj, ops[j]? = some oj → ∀ e ∈ oj.after, Region.binds md e = true → e.on < j) (hdeps : ∀ j oj, ops[j]? = some oj → ∀ x ∈ deps j, ∃ e ∈ oj.after, Region.binds md e = true ∧ e.on = x)
  (hready : ∀ listed : Array Bool, listed.size = ops.size → (∀ j oj, ops[j]? = some oj → listed.getD j false = true → ∀ e ∈ oj.after, Region.binds md e = true → listed.getD e.on false = true) → z ∈ Region.ready md ops listed → ∀ j, j < ops.size → j ≠ z → listed.getD j false = true) (hM : ∀ j ∈ M, j < ops.size ∧ j ≠ z) (hz : z < ops.size)
  (hop : ∀ i o, ops[i]? = some o → i ≠ z → Calm (I i) ∧ ∀ vals w, Chg [] w0 w → (∀ x ∈ deps i, I x (vals x) w) → ApartV (deps i) M vals →
   wpOp P ops Q i (fun a' w' => ∃ v, a' = (fr vals).put o.dst v ∧ I i v w' ∧ Chg [] w w' ∧ (i ∈ M → NewB v w w')) (fr vals) w)
  (hend : ∀ vals w, Chg [] w0 w → (∀ j, j < ops.size → j ≠ z → I j (vals j) w) → (∀ d, ApartV d M vals) → wpOp P ops Q z (fun a' w' => Q .normal a' w') (fr vals) w) :
  ∀ (fuel : Nat) (listed : Array Bool) (vals : Nat → Value) (w : World), listed.size = ops.size → (List.range ops.size).countP (fun j => !listed.getD j false) ≤ fuel →
   (∀ j oj, ops[j]? = some oj → listed.getD j false = true → ∀ e ∈ oj.after, Region.binds md e = true → listed.getD e.on false = true) →
   listed.getD z false = false → (∀ j, listed.getD j false = true → I j (vals j) w) → (∀ j ∈ M, listed.getD j false = true → ∀ b, (vals j).ownBlock = some b → b < w.heap.size) → (∀ i ∈ M, ∀ j ∈ M, i ≠ j → listed.getD i false = true → listed.getD j false = true → ∀ b, (vals i).ownBlock = some b → (vals j).ownBlock ≠ some b) → Chg [] w0 w → wpAny P md ops Q fuel listed (fr vals) w := by
 have hall : ∀ listed : Array Bool, listed.size = ops.size → Region.ready md ops listed = [] → ∀ j, j < ops.size → listed.getD j false = true := by
  intro listed hs hnil j
  induction j using Nat.strongRecOn with
  | _ j ih =>
   intro hj
   apply Classical.byContradiction
   intro hc
   have : j ∈ Region.ready md ops listed := by
    refine mem_ready.2 ⟨?_, ops[j], Array.getElem?_eq_getElem hj, fun e he hb => ih e.on (hacy j _ (Array.getElem?_eq_getElem hj) e he hb) (by have := hacy j _ (Array.getElem?_eq_getElem hj) e he hb; omega)⟩
    grind
   grind
 have hdone : ∀ listed : Array Bool, listed.size = ops.size → (∀ j, j < ops.size → listed.getD j false = true) → Region.ready md ops listed = [] := by
  intro listed hs ha
  refine List.eq_nil_iff_forall_not_mem.2 fun j hj => ?_
  obtain ⟨h0, o, ho, -⟩ := mem_ready.1 hj
  grind
 intro fuel
 induction fuel with
 | zero =>
  intro listed vals w hs hc hdn hnz h1 hm1 hm2 hG
  exact absurd (by grind) (List.countP_eq_zero.1 (Nat.le_zero.1 hc) z (by grind))
 | succ fuel ih =>
  intro listed vals w hs hc hdn hnz h1 hm1 hm2 hG
  refine ⟨fun hnil => absurd (hall listed hs hnil z hz) (by grind), fun i hi => ?_⟩
  obtain ⟨h0, o, ho, haft⟩ := mem_ready.1 hi
  have hlt : i < ops.size := (Array.getElem?_eq_some_iff.1 ho).1
  have hl : i < listed.size := by omega
  have h0' : listed.getD i false = false := by simp [hl] at h0 ⊢; exact h0
  have hset : ∀ j, (listed.setIfInBounds i true).getD j false = if j = i then true else listed.getD j false := fun j => by
   by_cases hji : j = i
   ·subst hji; simp [hl]
   rw [getD_set_ne false (Ne.symm hji), if_neg hji]
  by_cases hiz : i = z
  ·subst hiz
   have ha : ∀ j, j < ops.size → (listed.setIfInBounds i true).getD j false = true := fun j hj => by
    all_goals grind
   have hnil := hdone (listed.setIfInBounds i true) (by grind) ha
   refine wpOp_mono ?_ (hend vals w hG (fun j hj hji => h1 j (hready listed hs hdn hi j hj hji)) (fun _ i' hi' j hj _ _ hne => hm2 i' hi' j hj hne (hready listed hs hdn hi i' (hM i' hi').1 (hM i' hi').2) (hready listed hs hdn hi j (hM j hj).1 (hM j hj).2)))
   intro a' w' hq
   cases fuel with
   | zero => exact ⟨hnil, hq⟩
   | succ fuel => exact ⟨fun _ => hq, fun k hk => by grind⟩
  refine wpOp_mono ?_ ((hop i o ho hiz).2 vals w hG (fun x hx => ?_) (fun i' hi' j hj hid hjd hne => hm2 i' hi' j hj hne (by grind) (by grind)))
  ·rintro a' w' ⟨v, rfl, hv, hR, hN⟩
   have e : (fr vals).put o.dst v = fr (upd vals i v) := by
    rw [hfr, hfr]
    have := fillL_upd vals v ops.toList 0 i o a0 hap (by grind)
    grind
   rw [e]
   refine ih _ _ _ (by grind) ?_ (fun j oj hj hlj e he hb => ?_) ?_ (fun j hj => ?_) (fun j hj hlj b hb => ?_) (fun i' hi' j hj hne hli hlj b hb q => ?_) (hG.trans hR (by simp))
   ·have := countP_less (fun j => !listed.getD j false) (fun j => !(listed.setIfInBounds i true).getD j false) i (by grind) (by grind) (fun k hk => by grind) ops.size hlt
    omega
   ·rw [hset] at hlj ⊢
    all_goals grind
   ·grind
   ·by_cases hji : j = i
    ·subst hji
     rw [show upd vals j v j = v from if_pos rfl]
     exact hv
    rw [hset, if_neg hji] at hj
    rw [show upd vals i v j = vals j from if_neg hji]
    have hjz : j ≠ z := fun q => by rw [q, hnz] at hj; cases hj
    have hjl : j < listed.size := by
     rcases Nat.lt_or_ge j listed.size with q | q
     ·exact q
     simp [Array.getElem?_eq_none q] at hj
    obtain ⟨oj, hoj⟩ : ∃ oj, ops[j]? = some oj := ⟨_, Array.getElem?_eq_getElem (by omega)⟩
    exact (hop j oj hoj hjz).1 _ _ _ hR (h1 j hj)
   ·by_cases hji : j = i
    ·subst hji
     rw [show upd vals j v j = v from if_pos rfl] at hb
     exact (hN hj b hb).2
    rw [hset, if_neg hji] at hlj
    rw [show upd vals i v j = vals j from if_neg hji] at hb
    exact Nat.lt_of_lt_of_le (hm1 j hj hlj b hb) hR.size
   rw [hset] at hli hlj
   by_cases hii : i' = i
   ·subst hii
    rw [show upd vals i' v i' = v from if_pos rfl] at hb
    rw [if_neg (Ne.symm hne)] at hlj
    rw [show upd vals i' v j = vals j from if_neg (Ne.symm hne)] at q
    have h1 := (hN hi' b hb).1
    grind
   rw [if_neg hii] at hli
   rw [show upd vals i v i' = vals i' from if_neg hii] at hb
   by_cases hji : j = i
   ·subst hji
    rw [show upd vals j v j = v from if_pos rfl] at q
    have h1 := (hN hj b q).1
    grind
   all_goals grind [upd]
  all_goals grind
theorem wp_region_apart {id : Nat} {a : Act} {w : World} (deps : List (List Nat)) (fin : List Nat) (M : List Nat) (hMM : (M.all fun j => decide (j < ops.size - 1)) = true) (hm : P.follows .mixedOrders = true)
  (hc : calmChk .any ops deps fin = true) (hG : Chg [] w0 w.drew)
  (h' : ∀ fr : (Nat → Value) → Act, (∀ vals, fillL vals 0 ops.toList a = fr vals) → MonoD P ops Q w0 fr (ops.size - 1) fin M [] 0 (ops.toList.dropLast.zip deps)) : (Code.region id ops true).wp P Q a w := by
 obtain ⟨fr, hfr⟩ : ∃ fr : (Nat → Value) → Act, ∀ vals, fillL vals 0 ops.toList a = fr vals := ⟨_, fun _ => rfl⟩
 have h := h' fr hfr
 unfold calmChk at hc
 simp only [Bool.and_eq_true, Bool.or_eq_true, decide_eq_true_eq, beq_iff_eq, List.all_eq_true, List.mem_range, List.contains_eq_mem] at hc
 obtain ⟨⟨⟨⟨⟨hap, hlen⟩, hacy⟩, hdep⟩, hz⟩, hfin⟩ := hc
 have hpos : 0 < ops.size := by omega
 have hzip : ∀ k o, ops[k]? = some o → k ≠ ops.size - 1 → (ops.toList.dropLast.zip deps)[k]? = some (o, deps.getD k []) := fun k o ho hk => by
  grind
 have hzip' : ∀ k o d, (ops.toList.dropLast.zip deps)[k]? = some (o, d) → ops[k]? = some o ∧ deps.getD k [] = d ∧ k < ops.size - 1 := fun k o d hk => by
  all_goals grind
 have hafter : ∀ j oj, ops[j]? = some oj → ∀ e ∈ oj.after, Region.binds .any e = true → e.on < j := fun j oj hj e he hb =>
  hacy j (Array.getElem?_eq_some_iff.1 hj).1 e.on (mem_afters.2 ⟨oj, hj, e, he, hb, rfl⟩)
 have hdeps : ∀ j oj, ops[j]? = some oj → ∀ x ∈ (if j < ops.size - 1 then deps.getD j [] else []), ∃ e ∈ oj.after, Region.binds .any e = true ∧ e.on = x := fun j oj hj x hx => by
  all_goals grind [mem_afters]
 obtain ⟨L, -, -, hO, hE⟩ := monoD_out _ 0 [] rfl h (fun k o d hk x hx => by
  grind)
 refine wp_region_any hm ?_
 have hstart := wpAny_apart (P := P) (Q := Q) (md := .any) (a0 := a) (w0 := w0) (deps := fun j => if j < ops.size - 1 then deps.getD j [] else []) (I := fun j => if j < ops.size - 1 then L.getD j (fun _ _ => True) else fun _ _ => True) (fr := fr) (z := ops.size - 1) (fun vals => (hfr vals).symm) hap hafter hdeps
  (fun listed hs hdn hzr j hj hjz => by
   obtain ⟨-, o, ho, haft⟩ := mem_ready.1 hzr
   grind [reach_sound, mem_afters]) (fun j hj => by have := of_decide_eq_true (List.all_eq_true.1 hMM j hj); exact ⟨by omega, by omega⟩) (by omega)
  (fun i o ho hi => by
   have hi2 : i < ops.size := (Array.getElem?_eq_some_iff.1 ho).1
   have hi3 : i < ops.size - 1 := by omega
   have := hO i o _ (hzip i o ho hi)
   rw [Nat.zero_add] at this
   simp only [if_pos hi3]
   refine ⟨this.1, fun vals w hG hF hA => this.2 vals w hG (facts_of fun x hx => ?_) hA⟩
   grind)
  (fun vals w hG h1 hA => hE vals w hG (facts_of fun x hx => by
   grind) (hA _))
 have e0 : a = fr (fun k => match ops.toList[k]? with | some o => held a o | none => undef) := by
  grind [fillL_own]
 have hno : ∀ j, (Array.replicate ops.size false).getD j false = false := fun j => by
  rcases Nat.lt_or_ge j (Array.replicate ops.size false).size with q | q
  ·simp only [Array.size_replicate] at q
   simp [q]
  all_goals grind
 have := hstart ops.size (Array.replicate ops.size false) (fun k => match ops.toList[k]? with | some o => held a o | none => undef) w.drew (by simp) (Nat.le_trans (List.countP_le_length) (by simp))
  (fun j _ _ hj => by grind) (hno _) (fun j hj => by grind) (fun j _ hj => by grind) (fun i _ j _ _ hj => by grind) hG
 rw [← e0] at this
 exact this
theorem apart_op {i : Nat} {rest : List (Oper × List Nat)} {L : List (Value → World → Prop)} {o : Oper} {d : List Nat} (p : Value → World → Prop) (ho : ops[i]? = some o) (hi : M.contains i = false) (hp : Calm p)
  (h : ∀ vals w, Chg [] w0 w → Facts L vals w d → ApartV d M vals → Region.wanted o (yielded ops (fr vals).tmps) = true ∧
   ∀ K : Act → World → Prop, Shut (∀ v w', p v w' → Chg [] w w' → K ((fr vals).put o.dst v) w') → o.wp P (fr vals) w K Q)
  (hn : MonoD P ops Q w0 fr z fin M (L ++ [p]) (i + 1) rest) : MonoD P ops Q w0 fr z fin M L i ((o, d) :: rest) := by
 refine ⟨p, ⟨hp, fun vals w hG hF hA => ?_⟩, hn⟩
 obtain ⟨h1, h2⟩ := h vals w hG hF hA
 unfold wpOp
 simp only [ho, h1, if_true]
 exact .inl (h2 _ (fun v w' a b => ⟨v, rfl, a, b, fun q => absurd (List.contains_iff_mem.2 q) (by grind)⟩))
theorem apart_new {i : Nat} {rest : List (Oper × List Nat)} {L : List (Value → World → Prop)} {o : Oper} {d : List Nat} (p : Value → World → Prop) (ho : ops[i]? = some o) (hp : Calm p)
  (h : ∀ vals w, Chg [] w0 w → Facts L vals w d → ApartV d M vals → Region.wanted o (yielded ops (fr vals).tmps) = true ∧
   ∀ K : Act → World → Prop, Shut (∀ v w', p v w' → Chg [] w w' → NewB v w w' → K ((fr vals).put o.dst v) w') → o.wp P (fr vals) w K Q)
  (hn : MonoD P ops Q w0 fr z fin M (L ++ [p]) (i + 1) rest) : MonoD P ops Q w0 fr z fin M L i ((o, d) :: rest) := by
 refine ⟨p, ⟨hp, fun vals w hG hF hA => ?_⟩, hn⟩
 obtain ⟨h1, h2⟩ := h vals w hG hF hA
 unfold wpOp
 simp only [ho, h1, if_true]
 exact .inl (h2 _ (fun v w' a b c => ⟨v, rfl, a, b, fun _ => c⟩))
theorem apart_read {i : Nat} {rest : List (Oper × List Nat)} {L : List (Value → World → Prop)} {o : Oper} {d : List Nat} {c : Value} (ho : ops[i]? = some o) (hi : M.contains i = false)
  (h : ∀ vals w, Chg [] w0 w → Facts L vals w d → ApartV d M vals → Region.wanted o (yielded ops (fr vals).tmps) = true ∧ (execOp (fr vals).eval o).run P w = .ok (.value c) w)
  (hn : MonoD P ops Q w0 fr z fin M (L ++ [fun v _ => v = c]) (i + 1) rest) : MonoD P ops Q w0 fr z fin M L i ((o, d) :: rest) := by
 refine ⟨fun v _ => v = c, ⟨fun _ _ _ _ q => q, fun vals w hG hF hA => ?_⟩, hn⟩
 obtain ⟨h1, h2⟩ := h vals w hG hF hA
 unfold wpOp
 simp only [ho, h1, if_true, Oper.wp, h2, Oper.upon]
 grind [Chg.refl]
theorem apart_last {i : Nat} {L : List (Value → World → Prop)} {o : Oper} (ho : ops[z]? = some o)
  (h : ∀ vals w, Chg [] w0 w → Facts L vals w fin → ApartV fin M vals → Region.wanted o (yielded ops (fr vals).tmps) = true ∧
   ∀ K : Act → World → Prop, Shut (∀ a' w', Q .normal a' w' → K a' w') → o.wp P (fr vals) w K Q) : MonoD P ops Q w0 fr z fin M L i [] := by
 intro vals w hG hF hA
 obtain ⟨h1, h2⟩ := h vals w hG hF hA
 unfold wpOp
 simp only [ho, h1, if_true]
 exact .inl (h2 _ (fun a' w' q => q))
end
end Go.Proofs.YtpcgklagmcnhaaaGreat
