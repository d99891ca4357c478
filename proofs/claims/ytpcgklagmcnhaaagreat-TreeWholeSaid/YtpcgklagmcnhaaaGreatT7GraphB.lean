/- package graph: contracts of Has, RightPart. Conditions: a graph and a part that lie in memory and read so; a list that rises. -/
import Derived.Test.YtpcgklagmcnhaaaGreatT7Lin
namespace Go.Proofs.YtpcgklagmcnhaaaGreat
open Go.RowKit Go.Maps
theorem Chg.drewN {own : List Nat} {a w : World} (h : Chg own a w) (q : Nat) : Chg own a (w.drewN q) := by
 induction q with
 | zero => exact h
 | succ q ih => exact ih.drew
theorem box_two (w : World) (cs ds : Array Value) (t u : TypeId) : ((w.alloc (.cells cs t)).alloc (.cells ds u)).heap[w.heap.size]? = some (.cells cs t (0, 0)) ∧ ((w.alloc (.cells cs t)).alloc (.cells ds u)).heap[w.heap.size + 1]? = some (.cells ds u (0, 0)) ∧ Chg [] w ((w.alloc (.cells cs t)).alloc (.cells ds u)) := by
 have hc := ((Chg.refl [] (w.alloc (.cells cs t))).alloc (.cells ds u))
 refine ⟨hc.hp (heap_alloc_new w _), ?_, ((Chg.refl [] w).alloc _).alloc _⟩
 have := heap_alloc_new (w.alloc (.cells cs t)) (.cells ds u (0, 0))
 simpa using this
theorem has_any (v : Value) (l : List Int) (x : Int) (w : World) (hs : l.Pairwise (· < ·)) (hl : l.length < 4611686018427387904) (h : IntsAt w v l) :
  Calls Tryz.prog 62 #[v, .int .i64 x] w fun e w' => e = .returned (.bool (decide (x ∈ l))) ∧ Chg [] w w' := by
 obtain ⟨ao, cap, rfl, hsm, hm, hcell⟩ := h
 go_enter Tryz.func62, Tryz.ntmps62
 cases l with
 | nil =>
  go_wp2_with (go_at_call 97; refine (Tryz.slices_BinarySearch_int_empty ao cap x _).mono ?_; rintro e w1 ⟨rfl, rfl⟩)
  go_ret
  exact ⟨ret_bool (by simp), Chg.refl _ _⟩
 | cons y r =>
  obtain ⟨b, off, rfl, hc⟩ := hcell (by simp)
  have HS := Lib.hid (show ((y :: r).take (y :: r).length).Pairwise (· ≤ ·) by rw [List.take_length]; exact hs.imp (fun h => by omega))
  have HC := Lib.hid hc
  have HL := Lib.hid hl
  have HT := Lib.hid (show ((y :: r).take (y :: r).length).contains x = decide (x ∈ y :: r) by grind)
  clear hs hc hcell hsm
  generalize y :: r = l at *
  go_wp2_with (go_at_call 97; refine (Tryz.slices_BinarySearch_int b off l.length cap l x _ (Nat.le_refl _) HL.out HC.out HS.out).mono ?_; rintro e w1 ⟨rfl, q, rfl⟩)
  go_ret
  exact ⟨rfl, (Chg.refl [] w).drewN q⟩
set_option maxHeartbeats 800000 in
theorem rightPart_any (vg vp : Value) (g : Plain.Gr) (p : Plain.Pt) (w : World) (hl : p.v.length < 4611686018427387904) (hg : GrAt w vg g) (hp : PtAt w vp p) :
  Calls Tryz.prog 34 #[vg, vp] w fun e w' => e = .returned (.int .i64 (p.err g)) ∧ Chg [] w w' := by
 have HG := Lib.hid hg
 obtain ⟨eo, cap, rfl, hn, hm, hsm, hcell⟩ := hg
 obtain ⟨v1, v2, rfl, hv, he⟩ := hp
 have HV := Lib.hid hv
 have HE := Lib.hid he
 obtain ⟨ao, ac, rfl, -, -, -⟩ := hv
 obtain ⟨bo, bc, rfl, hbs, hbm, hbcell⟩ := he
 have HCE := Lib.hid hcell
 have HBC := Lib.hid hbcell
 have HBS := Lib.hid hbs
 clear hsm hcell hbcell hbs
 go_enter Tryz.func34, Tryz.ntmps34
 obtain ⟨hb1, hb2, hc1⟩ := box_two w #[.int .i64 g.n, .slice eo g.e.length cap] #[.slice ao p.v.length ac, .slice bo p.e.length bc] 41 43
 have x0 := (cell_of_row _ _ 0 _ _ _ hb1).trans (show _ = some (Value.int .i64 g.n) from rfl)
 have x1 := (cell_of_row _ _ 1 _ _ _ hb1).trans (show _ = some (Value.slice eo g.e.length cap) from rfl)
 have y0 := (cell_of_row _ _ 0 _ _ _ hb2).trans (show _ = some (Value.slice ao p.v.length ac) from rfl)
 have y1 := (cell_of_row _ _ 1 _ _ _ hb2).trans (show _ = some (Value.slice bo p.e.length bc) from rfl)
 have X0 := Lib.hid x0
 have X1 := Lib.hid x1
 have Y0 := Lib.hid y0
 have Y1 := Lib.hid y1
 have HC1 := Lib.hid hc1
 clear hb1 hb2 hc1 x0 x1 y0 y1
 go_wp2_with fail
 refine (graphRight_any _ g _ (HG.out.fresh HC1.out)).mono ?_
 rintro e w2 ⟨rfl, hc2⟩
 have HC2 := Lib.hid hc2
 generalize ((w.alloc (.cells #[.int .i64 g.n, .slice eo g.e.length cap] 41)).alloc (.cells #[.slice ao p.v.length ac, .slice bo p.e.length bc] 43)) = w1 at *
 generalize w.heap.size + 1 = pb at *
 generalize w.heap.size = gb at *
 clear hc2
 by_cases h1 : g.err = 0
 ·rw [h1]
  have HER := Lib.hid (show p.err g = if !(Plain.rises p.v g.n && Plain.rises p.e g.e.length) then 4 else if (List.range p.e.length).all (p.okEdge g) then 0 else 4 by unfold Plain.Pt.err; rw [if_neg (by simp [h1])])
  have HGE := Lib.hid h1
  clear h1
  have x0 := HC2.out.cel X0.out
  have x1 := HC2.out.cel X1.out
  have y0 := HC2.out.cel Y0.out
  have y1 := HC2.out.cel Y1.out
  go_wp2_with fail
  refine (rising_any _ p.v g.n _ hn ((HV.out.fresh HC1.out).fresh HC2.out)).mono ?_
  rintro e w3 ⟨rfl, hc3⟩
  have HC3 := Lib.hid (HC2.out.tr hc3)
  clear x0 x1 y0 y1 hc3
  cases hr : Plain.rises p.v g.n with
  | false =>
   have HE4 := Lib.hid (show p.err g = 4 by rw [HER.out, hr]; rfl)
   have y1 := HC3.out.cel Y1.out
   have x1 := HC3.out.cel X1.out
   clear hr
   go_wp2
   go_ret
   exact ⟨ret_int HE4.out.symm, HC1.out.tr HC3.out⟩
  | true =>
   have HRV := Lib.hid hr
   have y1 := HC3.out.cel Y1.out
   have x1 := HC3.out.cel X1.out
   clear hr
   go_wp2_with fail
   refine (rising_any _ p.e g.e.length _ (I64.mk (by omega) (by omega)) ((HE.out.fresh HC1.out).fresh HC3.out)).mono ?_
   rintro e w4 ⟨rfl, hc4⟩
   have HC4 := Lib.hid (HC3.out.tr hc4)
   clear x1 y1 hc4
   cases hr : Plain.rises p.e g.e.length with
   | false =>
    have HE4 := Lib.hid (show p.err g = 4 by rw [HER.out, HRV.out, hr]; rfl)
    clear hr
    go_wp2
    go_ret
    exact ⟨ret_int HE4.out.symm, HC1.out.tr HC4.out⟩
   | true =>
    have HER2 := Lib.hid (show p.err g = if (List.range p.e.length).all (p.okEdge g) then 0 else 4 by rw [HER.out, HRV.out, hr]; rfl)
    have HRE := Lib.hid hr
    have HSO := Lib.hid (Plain.rises_pair HRV.out)
    have y1 := HC4.out.cel Y1.out
    clear hr HER
    go_wp2
    clear y1
    go_loopw [31] (fun c wr => ∃ k : Nat, k ≤ p.e.length ∧ c = .int .i64 k ∧ Chg [] w1 wr ∧ Hid ((List.range k).all (p.okEdge g) = true)) (fun c _ => p.e.length - (intOf c).toNat)
    case atStart => exact ⟨0, Nat.zero_le _, rfl, HC4.out, rfl⟩
    case round =>
     obtain ⟨k, hk, rfl, hc, hall⟩ := hrel
     have HC := Lib.hid hc
     by_cases hlt : k < p.e.length
     ·obtain ⟨bb, boff, rfl, hbc⟩ := HBC.out (by grind)
      have ce := hc.cel (HC1.out.cel (hbc k hlt))
      have hre := Plain.rises_at HRE.out hlt
      have HF := Lib.hid (fun h => Plain.all_range_false (p := p.okEdge g) hlt h)
      have HS := Lib.hid (Plain.all_range_succ (p.okEdge g) k)
      obtain ⟨ei, hei⟩ : ∃ ei : Nat, p.e.getD k 0 = (ei : Int) := ⟨(p.e.getD k 0).toNat, by omega⟩
      rw [hei] at ce hre
      have hei2 : ei < g.e.length := by omega
      obtain ⟨eb, eoff, rfl, hc0, hc1⟩ := HCE.out ei hei2
      obtain ⟨ea, hea⟩ : ∃ ea, (g.ends ei).1 = ea := ⟨_, rfl⟩
      obtain ⟨ez, hez⟩ : ∃ ez, (g.ends ei).2 = ez := ⟨_, rfl⟩
      have HR := Lib.hid (show p.okEdge g k = (decide (ea ∈ p.v) && decide (ez ∈ p.v)) by simp only [Plain.Pt.okEdge, hei, Int.toNat_natCast, hea, hez])
      rw [hea] at hc0
      rw [hez] at hc1
      have c0 := HC1.out.cel hc0
      have c1 := HC1.out.cel hc1
      have C0 := Lib.hid c0
      have C1 := Lib.hid c1
      clear hbc hc hre hei hc0 hc1 c0 c1 hea hez
      go_wp2
      clear ce
      have HSA := Lib.hid (fun wx (hx : Chg [] w1 wx) => (show (fun w' : World => w'.cell? ⟨pb, 0, none⟩ = some (.slice ao p.v.length ac) ∧ w'.cell? ⟨gb, 1, none⟩ = some (.slice (some ⟨eb, eoff, none⟩) g.e.length cap) ∧ w'.cell? ⟨eb, eoff + ei * 2, none⟩ = some (.int .i64 ea) ∧ w'.cell? ⟨eb, eoff + ei * 2 + 1, none⟩ = some (.int .i64 ez)) wx from ⟨hx.cel Y0.out, hx.cel X1.out, hx.cel C0.out, hx.cel C1.out⟩))
      have hS0 := HSA.out wr.drew HC.out.drew
      refine wp_region_way (fun w' : World => w'.cell? ⟨pb, 0, none⟩ = some (.slice ao p.v.length ac) ∧ w'.cell? ⟨gb, 1, none⟩ = some (.slice (some ⟨eb, eoff, none⟩) g.e.length cap) ∧ w'.cell? ⟨eb, eoff + ei * 2, none⟩ = some (.int .i64 ea) ∧ w'.cell? ⟨eb, eoff + ei * 2 + 1, none⟩ = some (.int .i64 ez)) [0, 1, 2, 3, 4, 5, 6, 7, 9, 10, 11, 12, 13, 14, 15, 16, 17, 18, 20, 21] (Way.line [0, 1, 2, 3, 4, 5, 6, 7, 8, 9, 10, 11, 12, 13, 14, 15, 16, 17, 18, 19, 20, 21] .done) (by kernel_rfl) (by kernel_rfl) ?_
      simp only [Way.line]
      repeat (refine along_read (v := ?_) rfl (by rfl) (by rfl) (fun _ _ _ h => h) hS0 (fun w' hS' => ?_) ?_; rotate_left; (focus ((try dsimp only at hS'); go_simp; try with_reducible rfl)); simp only [Act.put, Z1, Z2, Z3, Z4, Z5, Z6])
      refine along_op rfl (by rfl) (by rfl) (fun K hK => ?_)
      go_simp
      refine (has_any _ p.v ea _ HSO.out hl ((HV.out.fresh HC1.out).fresh HC.out.drew)).mono ?_
      rintro e w5 ⟨rfl, hc5⟩
      have HC5 := Lib.hid (HC.out.drew.tr hc5)
      have hS1 := HSA.out w5 HC5.out
      refine hK.out _ _ (fun _ => hS1) ?_
      clear hK K hc5 hS0
      obtain ⟨q1, hq1⟩ : ∃ q, decide (ea ∈ p.v) = q := ⟨_, rfl⟩
      obtain ⟨q2, hq2⟩ : ∃ q, decide (ez ∈ p.v) = q := ⟨_, rfl⟩
      have HQ2 := Lib.hid hq2
      rw [hq1, hq2] at HR
      rw [hq1]
      clear hq1 hq2
      cases q1 with
      | false =>
       have HE4 := Lib.hid (show p.err g = 4 by rw [HER2.out, if_neg (by rw [HF.out (by rw [HR.out]; rfl)]; decide)])
       try simp only [Act.put, Z1, Z2, Z3, Z4, Z5, Z6]
       repeat
        first
         | (refine along_off rfl (by rfl) (by rfl) (fun _ _ _ h => h) hS1 ?_; simp only [Act.put, Z1, Z2, Z3, Z4, Z5, Z6])
         | (refine along_read (v := ?_) rfl (by rfl) (by rfl) (fun _ _ _ h => h) hS1 (fun w' hS' => ?_) ?_; rotate_left; (focus ((try dsimp only at hS'); go_simp; try with_reducible rfl)); simp only [Act.put, Z1, Z2, Z3, Z4, Z5, Z6])
         | (refine along_skip rfl (by rfl) (by rfl) hS1 ?_; simp only [Act.put, Z1, Z2, Z3, Z4, Z5, Z6])
       refine along_done ?_
       go_wp2
       go_ret
       exact ⟨ret_int HE4.out.symm, HC1.out.tr HC5.out⟩
      | true =>
       try simp only [Act.put, Z1, Z2, Z3, Z4, Z5, Z6]
       repeat (refine along_read (v := ?_) rfl (by rfl) (by rfl) (fun _ _ _ h => h) hS1 (fun w' hS' => ?_) ?_; rotate_left; (focus ((try dsimp only at hS'); go_simp; try with_reducible rfl)); simp only [Act.put, Z1, Z2, Z3, Z4, Z5, Z6])
       refine along_op rfl (by rfl) (by rfl) (fun K hK => ?_)
       go_simp
       refine (has_any _ p.v ez _ HSO.out hl ((HV.out.fresh HC1.out).fresh HC5.out)).mono ?_
       rintro e w6 ⟨rfl, hc6⟩
       have HC6 := Lib.hid (HC5.out.tr hc6)
       have hS2 := HSA.out w6 HC6.out
       refine hK.out _ _ (fun _ => hS2) ?_
       clear hK K hc6 hS1
       rw [HQ2.out]
       cases q2 with
       | false =>
        have HE4 := Lib.hid (show p.err g = 4 by rw [HER2.out, if_neg (by rw [HF.out (by rw [HR.out]; rfl)]; decide)])
        try simp only [Act.put, Z1, Z2, Z3, Z4, Z5, Z6]
        repeat (refine along_read (v := ?_) rfl (by rfl) (by rfl) (fun _ _ _ h => h) hS2 (fun w' hS' => ?_) ?_; rotate_left; (focus ((try dsimp only at hS'); go_simp; try with_reducible rfl)); simp only [Act.put, Z1, Z2, Z3, Z4, Z5, Z6])
        refine along_done ?_
        go_wp2
        go_ret
        exact ⟨ret_int HE4.out.symm, HC1.out.tr HC6.out⟩
       | true =>
        try simp only [Act.put, Z1, Z2, Z3, Z4, Z5, Z6]
        repeat (refine along_read (v := ?_) rfl (by rfl) (by rfl) (fun _ _ _ h => h) hS2 (fun w' hS' => ?_) ?_; rotate_left; (focus ((try dsimp only at hS'); go_simp; try with_reducible rfl)); simp only [Act.put, Z1, Z2, Z3, Z4, Z5, Z6])
        refine along_done ?_
        clear hS2
        go_wp2
        go_roundw
        case rel => exact ⟨k + 1, by omega, by go_num, HC6.out, Lib.hid (by rw [HS.out, HR.out, hall.out]; rfl)⟩
        case measure => simp [intOf]; omega
     have e : k = p.e.length := by omega
     subst e
     have HE0 := Lib.hid (HER2.out.trans (if_pos hall.out))
     go_wp2
     go_ret
     exact ⟨ret_int HE0.out.symm, HC1.out.tr HC.out⟩
 have HEQ := Lib.hid (show p.err g = g.err by grind [Plain.Pt.err])
 have hne : (g.err == 0) = false := by rw [beq_eq_false_iff_ne]; exact h1
 clear h1
 go_wp2
 go_ret
 exact ⟨ret_int HEQ.out.symm, HC1.out.tr HC2.out⟩
end Go.Proofs.YtpcgklagmcnhaaaGreat
