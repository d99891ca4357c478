/- the law SetsPlays: every call, in every order, answers what the document says: the walk. Conditions: the lists read as a list of ints and a list of calls. -/
import Derived.Test.YtgepchafbeifeaaPlaysB
import Derived.Test.YtgepchafbeifeaaFork
namespace Go.Proofs.Ytgepchafbeifeaa
open Go.RowKit Go.Maps
attribute [local go_sem ↓] Go.wp_at_zero Go.wp_at_succ

set_option maxRecDepth 100000 in
set_option maxHeartbeats 6000000 in
theorem playslaw_few (v0 v : Value) (f : List Int) (l : List Act3) (x y : Int) (w : World) (hn : l.length ≤ 100) (hm : f.length ≤ 100) (hx : I64 x) (hy : I64 y) (hf : IntsAt w v0 f) (h : ActsAt w v l) :
    Calls Try.prog 5 #[v0, v, .int .i64 x, .int .i64 y] w fun e w' => e = .returned (.bool true) ∧ Chg [] w w' := by
  obtain ⟨ao, cap, rfl, hsm, hlm, hcell⟩ := h
  have HF0 := Lib.hid hf
  obtain ⟨fo, fcap, rfl, fsm, flm, fcell⟩ := hf
  have HSM := Lib.hid hsm
  have HCE := Lib.hid hcell
  have FSM := Lib.hid fsm
  have FCE := Lib.hid fcell
  clear hsm hcell fsm fcell
  go_enter Try.func5, Try.ntmps5
  go_wp2_with fail
  refine (awake_any _).mono ?_
  rintro e w1 ⟨rfl, hc1⟩
  go_wp2_with fail
  refine (new_any _ f _ (by omega) (HF0.out.fresh hc1)).mono ?_
  rintro e w2 ⟨pb, own, rfl, h2, hc2, hs2⟩
  have hc := hc1.trans hc2 (by simp)
  have hp : Play w pb w2.heap.size (St.new f) ⟨[], []⟩ (w2.alloc (.cells #[.slice none 0 0, .slice none 0 0] 37)) := by
    refine ⟨own, .slice none 0 0, .slice none 0 0, h2.chg ((Chg.refl [] _).alloc _) (by simp), hc.alloc _, fun j hj => Nat.le_trans hc1.size (hs2 j hj), heap_alloc_new _ _, ⟨_, _, rfl, ⟨World.ownsRow_nil _ _ _ _, by simp, by simp⟩, ⟨World.ownsRow_nil _ _ _ _, by simp, by simp⟩⟩, by simp [foot, Value.ownBlock], hc.size, fun q => ?_⟩
    have := h2.low _ q
    omega
  have HP := Lib.hid hp
  clear hc1 hc2 hs2 hc h2 hp HF0
  go_wp2
  generalize w2.heap.size = mb at *
  go_loopw [11] (fun c wr => ∃ k : Nat, k ≤ f.length ∧ c = .int .i64 k ∧ Play w pb mb (St.new f) (St.new (f.take k)) wr) (fun c _ => f.length - (intOf c).toNat)
  case atStart => exact ⟨0, Nat.zero_le _, rfl, HP.out⟩
  case round =>
    obtain ⟨k, hk, rfl, own1, va, vg, p1, p2, p3, p4, p5, p6, p7, p8⟩ := hrel
    by_cases hlt : k < f.length
    · obtain ⟨b, off, rfl, hfc⟩ := FCE.out (by intro e; rw [e] at hlt; simp at hlt)
      have cf := p2.cell (hfc k hlt) (by simp)
      have hz := FSM.out (f.getD k 0) (by simp [List.getD, hlt])
      have HNT := Lib.hid (St.new_take hlt)
      have hnl := St.new_len (f.take k)
      have hkl : (f.take k).length ≤ k := List.length_take_le _ _
      have p5' := p5
      obtain ⟨va2, vg2, e, ra, rg⟩ := p5'
      simp only [Value.agg.injEq, Array.mk.injEq, List.cons.injEq, and_true] at e
      obtain ⟨rfl, rfl⟩ := e
      have hlen : (St.new (f.take k)).all.length = (St.new (f.take k)).grp.length := (St.new_ok _).len
      obtain ⟨aa, ac, ea⟩ := ra.shape
      obtain ⟨ga, gc, eg⟩ := rg.shape
      rw [List.length_map, ← hlen] at eg
      subst ea eg
      clear ra rg
      have cm0 : wr.cell? ⟨mb, 0, none⟩ = some (.slice aa (St.new (f.take k)).all.length ac) := by rw [cell_of_row _ _ _ _ _ _ p4]; rfl
      have cm1 : wr.cell? ⟨mb, 1, none⟩ = some (.slice ga (St.new (f.take k)).all.length gc) := by rw [cell_of_row _ _ _ _ _ _ p4]; rfl
      have HP1 := Lib.hid p1
      have HP2 := Lib.hid p2
      have HP3 := Lib.hid p3
      have HP4 := Lib.hid p4
      have HP5 := Lib.hid p5
      have HP6 := Lib.hid p6
      have HP7 := Lib.hid p7
      have HP8 := Lib.hid p8
      have HLE := Lib.hid hlen
      have HOKT := Lib.hid (St.new_ok (f.take k))
      clear p1 p2 p3 p4 p5 p6 p7 p8 hfc hlen
      generalize f.getD k 0 = z at *
      generalize St.new (f.take k) = t at *
      go_wp2
      have hS0 : (fun w' : World => Chg [] wr w' ∧ w'.cell? ⟨mb, 0, none⟩ = some (.slice aa t.all.length ac) ∧ w'.cell? ⟨mb, 1, none⟩ = some (.slice ga t.all.length gc) ∧ w'.cell? ⟨b, off + k, none⟩ = some (.int .i64 z)) wr.drew := ⟨(Chg.refl [] wr).drew, cm0, cm1, cf⟩
      refine wp_region_seq (fun w' : World => Chg [] wr w' ∧ w'.cell? ⟨mb, 0, none⟩ = some (.slice aa t.all.length ac) ∧ w'.cell? ⟨mb, 1, none⟩ = some (.slice ga t.all.length gc) ∧ w'.cell? ⟨b, off + k, none⟩ = some (.int .i64 z)) [0, 1, 2, 3, 4] [0, 1, 2, 3, 4, 5, 6] (by kernel_rfl) (by kernel_rfl) ?_
      simp only [pick, List.filterMap_cons, List.filterMap_nil, List.getElem?_toArray, List.getElem?_cons_zero, List.getElem?_cons_succ, Option.map_some]
      repeat
        first
          | (refine seqN_off (by rfl) (by rfl) (fun _ _ _ h => h) hS0 ?_; simp only [Act.put, List.setIfInBounds_toArray, List.set_cons_zero, List.set_cons_succ])
          | (refine seqN_read (v := ?_) (by rfl) (by rfl) (fun _ _ _ h => h) hS0 (fun w' hS' => ?_) ?_; rotate_left; (focus ((try dsimp only at hS'); go_simp; try with_reducible rfl)); simp only [Act.put, List.setIfInBounds_toArray, List.set_cons_zero, List.set_cons_succ])
          | (refine seqN_skip (by rfl) rfl (by rfl) hS0 ?_; simp only [Act.put, List.setIfInBounds_toArray, List.set_cons_zero, List.set_cons_succ])
      refine seqN_op (by rfl) rfl (by rfl) (fun K hK => ?_)
      go_simp
      refine (refadd_any w.heap.size _ t z wr.drew hz (by omega) HLE.out (show w.heap.size ≤ wr.drew.heap.size from HP2.out.size) (HP5.out.fresh hS0.1)).mono ?_
      rintro e w4 ⟨v4, rfl, r4, c4, f4⟩
      have c5 := (Chg.refl [] wr).drew.trans c4 (by simp)
      refine hK.out _ _ (fun _ => ⟨c5, c5.cell cm0 (by simp), c5.cell cm1 (by simp), c5.cell cf (by simp)⟩) ?_
      clear hK K
      try simp only [Act.put, List.setIfInBounds_toArray, List.set_cons_zero, List.set_cons_succ]
      obtain ⟨va, vg, rfl, ra, rg⟩ := r4
      refine seqN_op (by rfl) rfl (by rfl) (fun K hK => ?_)
      refine wp_store2 (b := mb) _ _ rfl rfl rfl (by obtain ⟨ao, c, e⟩ := ra.shape; exact ⟨_, _, _, e⟩) (by obtain ⟨ao, c, e⟩ := rg.shape; exact ⟨_, _, _, e⟩) (c5.heap HP4.out (by simp)) fun w6 h6 h7 => ?_
      have HPL := Lib.hid (Play.laid (t := t) (t' := t.put z) HP1.out HP2.out HP3.out HP4.out HP6.out HP7.out HP8.out ⟨va, vg, rfl, ra, rg⟩ c5 f4 h6 h7)
      refine hK.out _ _ (fun h => absurd h (Bool.eq_false_iff.1 (by kernel_rfl))) ?_
      clear hK K
      try simp only [Act.put, List.setIfInBounds_toArray, List.set_cons_zero, List.set_cons_succ]
      refine seqN_nil ?_
      clear ra rg f4 c4 c5 h6 h7 hS0
      go_wp2
      go_roundw
      case rel => exact ⟨k + 1, by omega, by go_num, by rw [HNT.out]; exact HPL.out⟩
      case measure => simp [intOf]; omega
    · have e : k = f.length := by omega
      subst e
      rw [List.take_length] at p5
      have hp : Play w pb mb (St.new f) (St.new f) wr := ⟨own1, va, vg, p1, p2, p3, p4, p5, p6, p7, p8⟩
      have HP1 := Lib.hid hp
      clear p1 p2 p3 p4 p5 p6 p7 p8 hp HP
      go_wp2
      go_loopw [12] (fun c wr => ∃ k : Nat, k ≤ l.length ∧ c = .int .i64 k ∧ Play w pb mb ((St.new f).playAll (l.take k)) ((St.new f).playAll (l.take k)) wr) (fun c _ => l.length - (intOf c).toNat)
      case atStart => exact ⟨0, Nat.zero_le _, rfl, HP1.out⟩
      case round =>
        obtain ⟨k, hk, rfl, hp⟩ := hrel
        have HPL := Lib.hid hp
        have hch := hp.chg
        by_cases hlt : k < l.length
        · obtain ⟨a, ha⟩ : ∃ a, l[k]? = some a := ⟨_, List.getElem?_eq_getElem hlt⟩
          obtain ⟨b, off, rfl, hco, hcx, hcy⟩ := HCE.out k a ha
          have ko := hch.cell hco (by simp)
          have kx := hch.cell hcx (by simp)
          have ky := hch.cell hcy (by simp)
          have hao := (HSM.out a (List.mem_of_getElem? ha)).1
          have hax := (HSM.out a (List.mem_of_getElem? ha)).2.1
          have hay := (HSM.out a (List.mem_of_getElem? ha)).2.2
          have HX := Lib.hid (St.playAll_take (s := St.new f) ha)
          have hlen := St.playAll_len (l.take k) (St.new f)
          have hlen2 : (l.take k).length ≤ k := List.length_take_le _ _
          have hlen3 := St.new_len f
          have HCX := Lib.hid hcx
          have HCY := Lib.hid hcy
          have hall : ((St.new f).playAll (l.take k)).all.length < 500 := by omega
          clear hp hch ha hco hcx hcy hlen hlen2 hlen3
          generalize (St.new f).playAll (l.take k) = s at *
          have HOKS := Lib.hid HPL.out.ok
          obtain ⟨own2, aa, ac, ga, gc, p1, p2, p3, p4, p5, p6, p7, p8, cm0, cm1⟩ := HPL.out.open HOKS.out
          have HP1 := Lib.hid p1
          have HP2 := Lib.hid p2
          have HP3 := Lib.hid p3
          have HP4 := Lib.hid p4
          have HP5 := Lib.hid p5
          have HP6 := Lib.hid p6
          have HP7 := Lib.hid p7
          have HP8 := Lib.hid p8
          clear p1 p2 p3 p4 p5 p6 p7 p8
          by_cases hd : a.op % 3 = 0
          · have h3 : (a.op % 3 == 0) = true := by rw [beq_iff_eq]; exact hd
            have HPY := Lib.hid (show s.play a = s.put a.x from if_pos hd)
            clear hd
            go_wp2
            refine wp_region_lin [⟨[],[],false⟩, ⟨[],[],false⟩, ⟨[],[],false⟩, ⟨[1,2],[],false⟩, ⟨[3],[],false⟩, ⟨[4],[],false⟩, ⟨[0,5],[],false⟩, ⟨[6],[],false⟩, ⟨[7],[],false⟩] 9 [8] (fun w' => Chg [] wr w') (by kernel_rfl) (by kernel_rfl) (Chg.refl [] wr).drew ?_
            (intro fr hfr; simp only [fillL, Act.put, List.setIfInBounds_toArray, List.set_cons_zero, List.set_cons_succ, Nat.reduceAdd] at hfr; obtain rfl := funext (fun vals => (hfr vals).symm); clear hfr; simp only [List.zip_cons_cons, List.zip_nil_right])
            (refine lin_read (c := ?_) rfl ⟨rfl, rfl⟩ (fun vals w' hG hF => ?_) ?_; rotate_left; (focus ((try simp only [Facts, List.nil_append, List.cons_append, List.getD_cons_zero, List.getD_cons_succ, and_true] at hF); have q0 := hG.cell cm0 (by simp); have q1 := hG.cell cm1 (by simp); refine ⟨by rfl, ?_⟩; go_simp; try with_reducible rfl)))
            (refine lin_read (c := ?_) rfl ⟨rfl, rfl⟩ (fun vals w' hG hF => ?_) ?_; rotate_left; (focus ((try simp only [Facts, List.nil_append, List.cons_append, List.getD_cons_zero, List.getD_cons_succ, and_true] at hF); refine ⟨by rfl, ?_⟩; go_simp; try with_reducible rfl)))
            (refine lin_read (c := ?_) rfl ⟨rfl, rfl⟩ (fun vals w' hG hF => ?_) ?_; rotate_left; (focus ((try simp only [Facts, List.nil_append, List.cons_append, List.getD_cons_zero, List.getD_cons_succ, and_true] at hF); refine ⟨by rfl, ?_⟩; go_simp; try with_reducible rfl)))
            (refine lin_read (c := ?_) rfl ⟨rfl, rfl⟩ (fun vals w' hG hF => ?_) ?_; rotate_left; (focus ((try simp only [Facts, List.nil_append, List.cons_append, List.getD_cons_zero, List.getD_cons_succ, and_true] at hF); refine ⟨by rfl, ?_⟩; go_simp; try with_reducible rfl)))
            (refine lin_read (c := ?_) rfl ⟨rfl, rfl⟩ (fun vals w' hG hF => ?_) ?_; rotate_left; (focus ((try simp only [Facts, List.nil_append, List.cons_append, List.getD_cons_zero, List.getD_cons_succ, and_true] at hF); refine ⟨by rfl, ?_⟩; go_simp; try with_reducible rfl)))
            (refine lin_read (c := ?_) rfl ⟨rfl, rfl⟩ (fun vals w' hG hF => ?_) ?_; rotate_left; (focus ((try simp only [Facts, List.nil_append, List.cons_append, List.getD_cons_zero, List.getD_cons_succ, and_true] at hF); have q0 := hG.cell kx (by simp); refine ⟨by rfl, ?_⟩; go_simp; try with_reducible rfl)))
            refine lin_op (fun v _ => v = .int .i64 (findv s.all a.x)) rfl (Or.inr fun _ _ _ q => q) (fun vals w' hG hF => ⟨by rfl, fun K hK => wp_calls rfl enter_find (args := #[.agg #[.slice aa s.all.length ac, .slice ga s.all.length gc], .int .i64 a.x]) (two_args hF.1 hF.2.1) ((find_any _ _ s.all a.x _ hax (by obtain ⟨_, _, e, ra, -⟩ := HP5.out.fresh hG; simp only [Value.agg.injEq, Array.mk.injEq, List.cons.injEq, and_true] at e; rw [e.1]; exact ra.ints)).mono fun e w4 he => ⟨_, he.1, hK.out _ _ rfl (Or.inr he.2) (Or.inr (Or.inl rfl)) (Or.inr (hG.trans he.2 (by simp)))⟩)⟩) ?_
            (refine lin_read (c := ?_) rfl ⟨rfl, rfl⟩ (fun vals w' hG hF => ?_) ?_; rotate_left; (focus ((try simp only [Facts, List.nil_append, List.cons_append, List.getD_cons_zero, List.getD_cons_succ, and_true] at hF); refine ⟨by rfl, ?_⟩; go_simp; try with_reducible rfl)))
            (refine lin_read (c := ?_) rfl ⟨rfl, rfl⟩ (fun vals w' hG hF => ?_) ?_; rotate_left; (focus ((try simp only [Facts, List.nil_append, List.cons_append, List.getD_cons_zero, List.getD_cons_succ, and_true] at hF); refine ⟨by rfl, ?_⟩; go_simp; try with_reducible rfl)))
            refine lin_nil fun vals w4 hG hF => ?_
            have hG4 := hG (by decide)
            simp only [Facts, List.nil_append, List.cons_append, List.getD_cons_zero, List.getD_cons_succ, and_true] at hF
            have HC4 := Lib.hid hG4
            have HV := Lib.hid (hF.trans (congrArg Value.bool (findv_neg s.all a.x)))
            have kx4 := hG4.cell kx (by simp)
            clear hF hG hG4
            have HPL4 := Lib.hid (HPL.out.fresh HC4.out)
            clear HPL HP1 HP2 HP3 HP4 HP5 HP6 HP7 HP8 cm0 cm1 ko kx ky
            obtain ⟨own3, ba, bc, ha, hc, p1, p2, p3, p4, p5, p6, p7, p8, dm0, dm1⟩ := HPL4.out.open HOKS.out
            have HP1 := Lib.hid p1
            have HP2 := Lib.hid p2
            have HP3 := Lib.hid p3
            have HP4 := Lib.hid p4
            have HP5 := Lib.hid p5
            have HP6 := Lib.hid p6
            have HP7 := Lib.hid p7
            have HP8 := Lib.hid p8
            clear p1 p2 p3 p4 p5 p6 p7 p8
            obtain ⟨q, hq⟩ : ∃ q, q = decide (a.x ∉ s.all) := ⟨_, rfl⟩
            have HQ := Lib.hid hq
            have hv8 : vals 8 = .bool q := by rw [hq]; exact HV.out
            clear hq HV
            go_wp2
            have hS0 : (fun w' : World => Chg [] w4 w' ∧ w'.cell? ⟨mb, 0, none⟩ = some (.slice ba s.all.length bc) ∧ w'.cell? ⟨mb, 1, none⟩ = some (.slice ha s.all.length hc) ∧ w'.cell? ⟨b, off + k * 3 + 1, none⟩ = some (.int .i64 a.x)) w4.drew := ⟨(Chg.refl [] w4).drew, dm0, dm1, kx4⟩
            refine wp_region_seq (fun w' : World => Chg [] w4 w' ∧ w'.cell? ⟨mb, 0, none⟩ = some (.slice ba s.all.length bc) ∧ w'.cell? ⟨mb, 1, none⟩ = some (.slice ha s.all.length hc) ∧ w'.cell? ⟨b, off + k * 3 + 1, none⟩ = some (.int .i64 a.x)) [0, 1, 2, 3, 4, 5] [0, 1, 2, 3, 4, 5, 6, 7] (by kernel_rfl) (by kernel_rfl) ?_
            simp only [pick, List.filterMap_cons, List.filterMap_nil, List.getElem?_toArray, List.getElem?_cons_zero, List.getElem?_cons_succ, Option.map_some]
            repeat
              first
                | (refine seqN_off (by rfl) (by rfl) (fun _ _ _ h => h) hS0 ?_; simp only [Act.put, List.setIfInBounds_toArray, List.set_cons_zero, List.set_cons_succ])
                | (refine seqN_read (v := ?_) (by rfl) (by rfl) (fun _ _ _ h => h) hS0 (fun w' hS' => ?_) ?_; rotate_left; (focus ((try dsimp only at hS'); go_simp; try with_reducible rfl)); simp only [Act.put, List.setIfInBounds_toArray, List.set_cons_zero, List.set_cons_succ])
                | (refine seqN_skip (by rfl) rfl (by rfl) hS0 ?_; simp only [Act.put, List.setIfInBounds_toArray, List.set_cons_zero, List.set_cons_succ])
            refine seqN_op (by rfl) rfl (by rfl) (fun K hK => ?_)
            go_simp
            refine (refadd_any w.heap.size _ s a.x w4.drew hax (by omega) HOKS.out.len (show w.heap.size ≤ w4.drew.heap.size from HP2.out.size) (HP5.out.fresh hS0.1)).mono ?_
            rintro e w5 ⟨v4, rfl, r4, c4, f4⟩
            have c5 := (Chg.refl [] w4).drew.trans c4 (by simp)
            refine hK.out _ _ (fun _ => ⟨c5, c5.cell dm0 (by simp), c5.cell dm1 (by simp), c5.cell kx4 (by simp)⟩) ?_
            clear hK K
            try simp only [Act.put, List.setIfInBounds_toArray, List.set_cons_zero, List.set_cons_succ]
            obtain ⟨va, vg, rfl, ra, rg⟩ := r4
            refine seqN_op (by rfl) rfl (by rfl) (fun K hK => ?_)
            refine wp_store2 (b := mb) _ _ rfl rfl rfl (by obtain ⟨ao, c, e⟩ := ra.shape; exact ⟨_, _, _, e⟩) (by obtain ⟨ao, c, e⟩ := rg.shape; exact ⟨_, _, _, e⟩) (c5.heap HP4.out (by simp)) fun w6 h6 h7 => ?_
            have HPL := Lib.hid (Play.laid (t := s) (t' := s.put a.x) HP1.out HP2.out HP3.out HP4.out HP6.out HP7.out HP8.out ⟨va, vg, rfl, ra, rg⟩ c5 f4 h6 h7)
            refine hK.out _ _ (fun h => absurd h (Bool.eq_false_iff.1 (by kernel_rfl))) ?_
            clear hK K
            try simp only [Act.put, List.setIfInBounds_toArray, List.set_cons_zero, List.set_cons_succ]
            refine seqN_nil ?_
            clear ra rg f4 c4 c5 h6 h7 hS0 dm0 dm1 kx4 HP1 HP2 HP3 HP4 HP5 HP6 HP7 HP8 HPL4 HC4
            have kx6 := HPL.out.chg.cell HCX.out (by simp)
            go_wp2_with fail
            refine (play_add hax (by omega) HPL.out).mono ?_
            rintro e w7 ⟨rfl, hp7⟩
            have HP7 := Lib.hid hp7
            rw [← HQ.out]
            have hqq : (q != q) = false := by simp
            have hqq2 : (q == q) = true := by simp
            clear kx6 hp7
            go_wp2
            go_roundw
            case rel => exact ⟨k + 1, by omega, by go_num, by rw [HX.out, HPY.out]; exact HP7.out⟩
            case measure => simp [intOf]; omega
          · have h3 : (a.op % 3 == 0) = false := by rw [beq_eq_false_iff_ne]; exact hd
            have HPY := Lib.hid (show s.play a = s.join a.x a.y from if_neg hd)
            clear hd
            go_wp2
            have hS0 : (fun w' : World => Chg [] wr w' ∧ w'.cell? ⟨mb, 0, none⟩ = some (.slice aa s.all.length ac) ∧ w'.cell? ⟨mb, 1, none⟩ = some (.slice ga s.all.length gc) ∧ w'.cell? ⟨b, off + k * 3 + 1, none⟩ = some (.int .i64 a.x) ∧ w'.cell? ⟨b, off + k * 3 + 2, none⟩ = some (.int .i64 a.y)) wr.drew := ⟨(Chg.refl [] wr).drew, cm0, cm1, kx, ky⟩
            refine wp_region_way (fun w' : World => Chg [] wr w' ∧ w'.cell? ⟨mb, 0, none⟩ = some (.slice aa s.all.length ac) ∧ w'.cell? ⟨mb, 1, none⟩ = some (.slice ga s.all.length gc) ∧ w'.cell? ⟨b, off + k * 3 + 1, none⟩ = some (.int .i64 a.x) ∧ w'.cell? ⟨b, off + k * 3 + 2, none⟩ = some (.int .i64 a.y)) [0, 1, 2, 3, 4, 5, 6, 7, 8, 9, 10, 12, 13, 14, 17] (.then_ 0 (.then_ 1 (.then_ 2 (.then_ 3 (.then_ 4 (.then_ 5 (.then_ 6 (.then_ 7 (.then_ 8 (.then_ 9 (.then_ 10 (.fork 11 15 (.then_ 12 (.then_ 13 (.then_ 14 (.then_ 15 (.then_ 16 (.then_ 17 .done)))))) (.then_ 11 (.then_ 12 (.then_ 13 (.then_ 14 (.then_ 16 (.then_ 17 .done)))))))))))))))))) (by kernel_rfl) (by kernel_rfl) ?_
            repeat
              first
                | (refine along_off rfl (by rfl) (by rfl) (fun _ _ _ h => h) hS0 ?_; simp only [Act.put, List.getElem_toArray, List.getElem_cons_zero, List.getElem_cons_succ, List.setIfInBounds_toArray, List.set_cons_zero, List.set_cons_succ])
                | (refine along_read (v := ?_) rfl (by rfl) (by rfl) (fun _ _ _ h => h) hS0 (fun w' hS' => ?_) ?_; rotate_left; (focus ((try dsimp only at hS'); go_simp; try with_reducible rfl)); simp only [Act.put, List.getElem_toArray, List.getElem_cons_zero, List.getElem_cons_succ, List.setIfInBounds_toArray, List.set_cons_zero, List.set_cons_succ])
                | (refine along_skip rfl (by rfl) (by rfl) hS0 ?_; simp only [Act.put, List.getElem_toArray, List.getElem_cons_zero, List.getElem_cons_succ, List.setIfInBounds_toArray, List.set_cons_zero, List.set_cons_succ])
            have HJL := Lib.hid (HOKS.out.join a.x a.y).len
            refine along_fork (by rfl) (by rfl) ?_ ?_
            · refine along_op rfl (by rfl) (by rfl) (fun K hK => ?_)
              go_simp
              refine (refjoin_any w.heap.size _ s a.x a.y wr.drew hax hay (by omega) HOKS.out (HOKS.out.put _) ((HOKS.out.put _).put _) (show w.heap.size ≤ wr.drew.heap.size from HP2.out.size) (HP5.out.fresh hS0.1)).mono ?_
              rintro e w4 ⟨v4, rfl, r4, c4, f4⟩
              obtain ⟨va, vg, rfl, ra, rg⟩ := r4
              obtain ⟨ja, jb, e1⟩ := ra.shape
              obtain ⟨la, lb, e2⟩ := rg.shape
              rw [List.length_map, ← HJL.out] at e2
              subst e1 e2
              have c5 := (Chg.refl [] wr).drew.trans c4 (by simp)
              have hS1 : (fun w' : World => Chg [] wr w' ∧ w'.cell? ⟨mb, 0, none⟩ = some (.slice aa s.all.length ac) ∧ w'.cell? ⟨mb, 1, none⟩ = some (.slice ga s.all.length gc) ∧ w'.cell? ⟨b, off + k * 3 + 1, none⟩ = some (.int .i64 a.x) ∧ w'.cell? ⟨b, off + k * 3 + 2, none⟩ = some (.int .i64 a.y)) w4 := ⟨c5, c5.cell cm0 (by simp), c5.cell cm1 (by simp), c5.cell kx (by simp), c5.cell ky (by simp)⟩
              refine hK.out _ _ (fun _ => hS1) ?_
              clear hK K
              try simp only [Act.put, List.getElem_toArray, List.getElem_cons_zero, List.getElem_cons_succ, List.setIfInBounds_toArray, List.set_cons_zero, List.set_cons_succ]
              repeat
                first
                  | (refine along_off rfl (by rfl) (by rfl) (fun _ _ _ h => h) hS1 ?_; simp only [Act.put, List.getElem_toArray, List.getElem_cons_zero, List.getElem_cons_succ, List.setIfInBounds_toArray, List.set_cons_zero, List.set_cons_succ])
                  | (refine along_read (v := ?_) rfl (by rfl) (by rfl) (fun _ _ _ h => h) hS1 (fun w' hS' => ?_) ?_; rotate_left; (focus ((try dsimp only at hS'); go_simp; try with_reducible rfl)); simp only [Act.put, List.getElem_toArray, List.getElem_cons_zero, List.getElem_cons_succ, List.setIfInBounds_toArray, List.set_cons_zero, List.set_cons_succ])
                  | (refine along_skip rfl (by rfl) (by rfl) hS1 ?_; simp only [Act.put, List.getElem_toArray, List.getElem_cons_zero, List.getElem_cons_succ, List.setIfInBounds_toArray, List.set_cons_zero, List.set_cons_succ])
              refine along_op rfl (by rfl) (by rfl) (fun K hK => ?_)
              go_simp
              have c6 := c5.alloc (.cells #[.slice none 0 0, .slice none 0 0] 37)
              have r6 : RefAt (w4.alloc (.cells #[.slice none 0 0, .slice none 0 0] 37)) w.heap.size (.agg #[.slice ja (s.join a.x a.y).all.length jb, .slice la (s.join a.x a.y).all.length lb]) (s.join a.x a.y) := RefAt.fresh ⟨_, _, rfl, ra, rg⟩ ((Chg.refl [] w4).alloc _)
              have hn0 : (w4.alloc (.cells #[.slice none 0 0, .slice none 0 0] 37)).heap[w4.heap.size]? = some (.cells #[.slice none 0 0, .slice none 0 0] 37 (0, 0)) := heap_alloc_new _ _
              have hnb : wr.heap.size ≤ w4.heap.size := c5.size
              have hS4 : (fun w' : World => Chg [] wr w' ∧ w'.cell? ⟨mb, 0, none⟩ = some (.slice aa s.all.length ac) ∧ w'.cell? ⟨mb, 1, none⟩ = some (.slice ga s.all.length gc) ∧ w'.cell? ⟨b, off + k * 3 + 1, none⟩ = some (.int .i64 a.x) ∧ w'.cell? ⟨b, off + k * 3 + 2, none⟩ = some (.int .i64 a.y)) (w4.alloc (.cells #[.slice none 0 0, .slice none 0 0] 37)) := ⟨c6, c6.cell cm0 (by simp), c6.cell cm1 (by simp), c6.cell kx (by simp), c6.cell ky (by simp)⟩
              refine hK.out _ _ (fun _ => hS4) ?_
              clear hK K hS0 hS1 hS4 c4
              generalize w4.alloc (.cells #[.slice none 0 0, .slice none 0 0] 37) = w5 at *
              generalize w4.heap.size = nb at *
              try simp only [Act.put, List.getElem_toArray, List.getElem_cons_zero, List.getElem_cons_succ, List.setIfInBounds_toArray, List.set_cons_zero, List.set_cons_succ]
              refine along_op rfl (by rfl) (by rfl) (fun K hK => ?_)
              simp only [List.getElem_toArray, List.getElem_cons_zero, List.getElem_cons_succ]
              refine wp_store2 (b := nb) _ _ rfl rfl rfl ⟨_, _, _, rfl⟩ ⟨_, _, _, rfl⟩ hn0 fun w6 h6 h7 => ?_
              obtain ⟨F1, F2⟩ := store_ref c6 hnb r6 hn0 h6
              have hS2 : (fun w' : World => Chg [] wr w' ∧ w'.cell? ⟨mb, 0, none⟩ = some (.slice aa s.all.length ac) ∧ w'.cell? ⟨mb, 1, none⟩ = some (.slice ga s.all.length gc) ∧ w'.cell? ⟨b, off + k * 3 + 1, none⟩ = some (.int .i64 a.x) ∧ w'.cell? ⟨b, off + k * 3 + 2, none⟩ = some (.int .i64 a.y)) w6 := ⟨F1, F1.cell cm0 (by simp), F1.cell cm1 (by simp), F1.cell kx (by simp), F1.cell ky (by simp)⟩
              refine hK.out _ _ (fun _ => hS2) ?_
              clear hK K
              try simp only [Act.put, List.getElem_toArray, List.getElem_cons_zero, List.getElem_cons_succ, List.setIfInBounds_toArray, List.set_cons_zero, List.set_cons_succ]
              repeat
                first
                  | (refine along_off rfl (by rfl) (by rfl) (fun _ _ _ h => h) hS2 ?_; simp only [Act.put, List.getElem_toArray, List.getElem_cons_zero, List.getElem_cons_succ, List.setIfInBounds_toArray, List.set_cons_zero, List.set_cons_succ])
                  | (refine along_read (v := ?_) rfl (by rfl) (by rfl) (fun _ _ _ h => h) hS2 (fun w' hS' => ?_) ?_; rotate_left; (focus ((try dsimp only at hS'); go_simp; try with_reducible rfl)); simp only [Act.put, List.getElem_toArray, List.getElem_cons_zero, List.getElem_cons_succ, List.setIfInBounds_toArray, List.set_cons_zero, List.set_cons_succ])
                  | (refine along_skip rfl (by rfl) (by rfl) hS2 ?_; simp only [Act.put, List.getElem_toArray, List.getElem_cons_zero, List.getElem_cons_succ, List.setIfInBounds_toArray, List.set_cons_zero, List.set_cons_succ])
              refine along_done ?_
              have n0 : w6.cell? ⟨nb, 0, none⟩ = some (.slice ja (s.join a.x a.y).all.length jb) := by rw [cell_of_row _ _ _ _ _ _ h7]; rfl
              have n1 : w6.cell? ⟨nb, 1, none⟩ = some (.slice la (s.join a.x a.y).all.length lb) := by rw [cell_of_row _ _ _ _ _ _ h7]; rfl
              have F3 := F1.heap HP4.out (by simp)
              have z0 : w6.frozen? ⟨mb, 0, none⟩ = false := by simp [World.frozen?, F3]
              have z1 : w6.frozen? ⟨mb, 1, none⟩ = false := by simp [World.frozen?, F3]
              have m0 := F1.cell cm0 (by simp)
              have m1 := F1.cell cm1 (by simp)
              have h8 : Chg [mb] w6 ((w6.setCell ⟨mb, 0, none⟩ (.slice ja (s.join a.x a.y).all.length jb)).setCell ⟨mb, 1, none⟩ (.slice la (s.join a.x a.y).all.length lb)) := ((Chg.refl _ w6).setCell (Or.inl (by simp)) _).setCell (Or.inl (by simp)) _
              have h9 : ((w6.setCell ⟨mb, 0, none⟩ (.slice ja (s.join a.x a.y).all.length jb)).setCell ⟨mb, 1, none⟩ (.slice la (s.join a.x a.y).all.length lb)).heap[mb]? = some (.cells #[.slice ja (s.join a.x a.y).all.length jb, .slice la (s.join a.x a.y).all.length lb] 37 (0, 0)) := by
                have := heap_setCell_same (heap_setCell_same F3 0 (.slice ja (s.join a.x a.y).all.length jb)) 1 (.slice la (s.join a.x a.y).all.length lb)
                simpa using this
              have HPL := Lib.hid (Play.laid (t := s) (t' := s.join a.x a.y) HP1.out HP2.out HP3.out HP4.out HP6.out HP7.out HP8.out F2 F1 f4 h8 h9)
              obtain ⟨w8, hw8⟩ : ∃ w8, w8 = ((w6.setCell ⟨mb, 0, none⟩ (.slice ja (s.join a.x a.y).all.length jb)).setCell ⟨mb, 1, none⟩ (.slice la (s.join a.x a.y).all.length lb)) := ⟨_, rfl⟩
              have HW8 := Lib.hid hw8
              rw [← hw8] at HPL
              clear h6 h7 hn0 r6 c6 hS2 F1 F2 F3 f4 ra rg cm0 cm1 h8 h9 hw8
              go_wp2
              have kx8 := HPL.out.chg.cell HCX.out (by simp)
              have ky8 := HPL.out.chg.cell HCY.out (by simp)
              rw [← HW8.out]
              clear z0 z1 m0 m1 n0 n1 HW8
              have hS5 : (fun w' : World => w'.cell? ⟨b, off + k * 3 + 1, none⟩ = some (.int .i64 a.x) ∧ w'.cell? ⟨b, off + k * 3 + 2, none⟩ = some (.int .i64 a.y)) w8.drew := ⟨kx8, ky8⟩
              refine wp_region_way (fun w' : World => w'.cell? ⟨b, off + k * 3 + 1, none⟩ = some (.int .i64 a.x) ∧ w'.cell? ⟨b, off + k * 3 + 2, none⟩ = some (.int .i64 a.y)) [0, 1, 2, 3, 4, 5, 6, 7, 8, 9, 10, 12, 13] (Way.line [0, 1, 2, 3, 4, 5, 6, 7, 8, 9, 10, 12, 11, 13] .done) (by kernel_rfl) (by kernel_rfl) ?_
              simp only [Way.line]
              repeat
                first
                  | (refine along_off rfl (by rfl) (by rfl) (fun _ _ _ h => h) hS5 ?_; simp only [Act.put, List.getElem_toArray, List.getElem_cons_zero, List.getElem_cons_succ, List.setIfInBounds_toArray, List.set_cons_zero, List.set_cons_succ])
                  | (refine along_read (v := ?_) rfl (by rfl) (by rfl) (fun _ _ _ h => h) hS5 (fun w' hS' => ?_) ?_; rotate_left; (focus ((try dsimp only at hS'); go_simp; try with_reducible rfl)); simp only [Act.put, List.getElem_toArray, List.getElem_cons_zero, List.getElem_cons_succ, List.setIfInBounds_toArray, List.set_cons_zero, List.set_cons_succ])
                  | (refine along_skip rfl (by rfl) (by rfl) hS5 ?_; simp only [Act.put, List.getElem_toArray, List.getElem_cons_zero, List.getElem_cons_succ, List.setIfInBounds_toArray, List.set_cons_zero, List.set_cons_succ])
              refine along_op rfl (by rfl) (by rfl) (fun K hK => ?_)
              go_simp
              refine (play_join hax hay (by omega) HPL.out.drew).mono ?_
              rintro e w9 ⟨rfl, hp9⟩
              have hS6 : (fun w' : World => w'.cell? ⟨b, off + k * 3 + 1, none⟩ = some (.int .i64 a.x) ∧ w'.cell? ⟨b, off + k * 3 + 2, none⟩ = some (.int .i64 a.y)) w9 := ⟨hp9.chg.cell HCX.out (by simp), hp9.chg.cell HCY.out (by simp)⟩
              refine hK.out _ _ (fun _ => hS6) ?_
              clear hK K
              have HP9 := Lib.hid hp9
              have hqq : (s.joins a.x a.y != s.joins a.x a.y) = false := by simp
              have hqq2 : (s.joins a.x a.y == s.joins a.x a.y) = true := by simp
              clear hp9
              try simp only [Act.put, List.getElem_toArray, List.getElem_cons_zero, List.getElem_cons_succ, List.setIfInBounds_toArray, List.set_cons_zero, List.set_cons_succ]
              repeat
                first
                  | (refine along_off rfl (by rfl) (by rfl) (fun _ _ _ h => h) hS6 ?_; simp only [Act.put, List.getElem_toArray, List.getElem_cons_zero, List.getElem_cons_succ, List.setIfInBounds_toArray, List.set_cons_zero, List.set_cons_succ])
                  | (refine along_read (v := ?_) rfl (by rfl) (by rfl) (fun _ _ _ h => h) hS6 (fun w' hS' => ?_) ?_; rotate_left; (focus ((try dsimp only at hS'); go_simp; try with_reducible rfl)); simp only [Act.put, List.getElem_toArray, List.getElem_cons_zero, List.getElem_cons_succ, List.setIfInBounds_toArray, List.set_cons_zero, List.set_cons_succ])
                  | (refine along_skip rfl (by rfl) (by rfl) hS6 ?_; simp only [Act.put, List.getElem_toArray, List.getElem_cons_zero, List.getElem_cons_succ, List.setIfInBounds_toArray, List.set_cons_zero, List.set_cons_succ])
              refine along_done ?_
              go_wp2
              go_roundw
              case rel => exact ⟨k + 1, by omega, by go_num, by rw [HX.out, HPY.out]; exact HP9.out⟩
              case measure => simp [intOf]; omega
            · refine along_op rfl (by rfl) (by rfl) (fun K hK => ?_)
              go_simp
              have c6 := ((Chg.refl [] wr).alloc (.cells #[.slice none 0 0, .slice none 0 0] 37)).drew
              have hn3 : ((wr.alloc (.cells #[.slice none 0 0, .slice none 0 0] 37)).drew).heap[wr.heap.size]? = some (.cells #[.slice none 0 0, .slice none 0 0] 37 (0, 0)) := heap_alloc_new _ _
              have hnb : wr.heap.size ≤ wr.heap.size := Nat.le_refl _
              have hS3 : (fun w' : World => Chg [] wr w' ∧ w'.cell? ⟨mb, 0, none⟩ = some (.slice aa s.all.length ac) ∧ w'.cell? ⟨mb, 1, none⟩ = some (.slice ga s.all.length gc) ∧ w'.cell? ⟨b, off + k * 3 + 1, none⟩ = some (.int .i64 a.x) ∧ w'.cell? ⟨b, off + k * 3 + 2, none⟩ = some (.int .i64 a.y)) (wr.alloc (.cells #[.slice none 0 0, .slice none 0 0] 37)).drew := ⟨c6, c6.cell cm0 (by simp), c6.cell cm1 (by simp), c6.cell kx (by simp), c6.cell ky (by simp)⟩
              refine hK.out _ _ (fun _ => hS3) ?_
              clear hK K hS0
              have hsz : wr.heap.size ≤ (wr.alloc (.cells #[.slice none 0 0, .slice none 0 0] 37)).drew.heap.size := c6.size
              generalize (wr.alloc (.cells #[.slice none 0 0, .slice none 0 0] 37)).drew = w3 at *
              try simp only [Act.put, List.getElem_toArray, List.getElem_cons_zero, List.getElem_cons_succ, List.setIfInBounds_toArray, List.set_cons_zero, List.set_cons_succ]
              refine along_op rfl (by rfl) (by rfl) (fun K hK => ?_)
              go_simp
              refine (refjoin_any w.heap.size _ s a.x a.y w3 hax hay (by omega) HOKS.out (HOKS.out.put _) ((HOKS.out.put _).put _) (Nat.le_trans HP2.out.size hsz) (HP5.out.fresh c6)).mono ?_
              rintro e w5 ⟨v4, rfl, r4, c4, f4'⟩
              have f4 := fun b hb => (f4' b hb).imp id (Nat.le_trans hsz)
              clear f4'
              obtain ⟨va, vg, rfl, ra, rg⟩ := r4
              obtain ⟨ja, jb, e1⟩ := ra.shape
              obtain ⟨la, lb, e2⟩ := rg.shape
              rw [List.length_map, ← HJL.out] at e2
              subst e1 e2
              have c7 := c6.trans c4 (by simp)
              have hS1 : (fun w' : World => Chg [] wr w' ∧ w'.cell? ⟨mb, 0, none⟩ = some (.slice aa s.all.length ac) ∧ w'.cell? ⟨mb, 1, none⟩ = some (.slice ga s.all.length gc) ∧ w'.cell? ⟨b, off + k * 3 + 1, none⟩ = some (.int .i64 a.x) ∧ w'.cell? ⟨b, off + k * 3 + 2, none⟩ = some (.int .i64 a.y)) w5 := ⟨c7, c7.cell cm0 (by simp), c7.cell cm1 (by simp), c7.cell kx (by simp), c7.cell ky (by simp)⟩
              have hn0 := c4.heap hn3 (by simp)
              have r6 : RefAt w5 w.heap.size (.agg #[.slice ja (s.join a.x a.y).all.length jb, .slice la (s.join a.x a.y).all.length lb]) (s.join a.x a.y) := ⟨_, _, rfl, ra, rg⟩
              refine hK.out _ _ (fun _ => hS1) ?_
              clear hK K c6 hn3 hS3
              have c6 := c7
              try simp only [Act.put, List.getElem_toArray, List.getElem_cons_zero, List.getElem_cons_succ, List.setIfInBounds_toArray, List.set_cons_zero, List.set_cons_succ]
              repeat
                first
                  | (refine along_off rfl (by rfl) (by rfl) (fun _ _ _ h => h) hS1 ?_; simp only [Act.put, List.getElem_toArray, List.getElem_cons_zero, List.getElem_cons_succ, List.setIfInBounds_toArray, List.set_cons_zero, List.set_cons_succ])
                  | (refine along_read (v := ?_) rfl (by rfl) (by rfl) (fun _ _ _ h => h) hS1 (fun w' hS' => ?_) ?_; rotate_left; (focus ((try dsimp only at hS'); go_simp; try with_reducible rfl)); simp only [Act.put, List.getElem_toArray, List.getElem_cons_zero, List.getElem_cons_succ, List.setIfInBounds_toArray, List.set_cons_zero, List.set_cons_succ])
                  | (refine along_skip rfl (by rfl) (by rfl) hS1 ?_; simp only [Act.put, List.getElem_toArray, List.getElem_cons_zero, List.getElem_cons_succ, List.setIfInBounds_toArray, List.set_cons_zero, List.set_cons_succ])
              clear hS1
              refine along_op rfl (by rfl) (by rfl) (fun K hK => ?_)
              simp only [List.getElem_toArray, List.getElem_cons_zero, List.getElem_cons_succ]
              refine wp_store2 (b := wr.heap.size) _ _ rfl rfl rfl ⟨_, _, _, rfl⟩ ⟨_, _, _, rfl⟩ hn0 fun w6 h6 h7 => ?_
              obtain ⟨F1, F2⟩ := store_ref c6 hnb r6 hn0 h6
              have hS2 : (fun w' : World => Chg [] wr w' ∧ w'.cell? ⟨mb, 0, none⟩ = some (.slice aa s.all.length ac) ∧ w'.cell? ⟨mb, 1, none⟩ = some (.slice ga s.all.length gc) ∧ w'.cell? ⟨b, off + k * 3 + 1, none⟩ = some (.int .i64 a.x) ∧ w'.cell? ⟨b, off + k * 3 + 2, none⟩ = some (.int .i64 a.y)) w6 := ⟨F1, F1.cell cm0 (by simp), F1.cell cm1 (by simp), F1.cell kx (by simp), F1.cell ky (by simp)⟩
              refine hK.out _ _ (fun _ => hS2) ?_
              clear hK K
              try simp only [Act.put, List.getElem_toArray, List.getElem_cons_zero, List.getElem_cons_succ, List.setIfInBounds_toArray, List.set_cons_zero, List.set_cons_succ]
              repeat
                first
                  | (refine along_off rfl (by rfl) (by rfl) (fun _ _ _ h => h) hS2 ?_; simp only [Act.put, List.getElem_toArray, List.getElem_cons_zero, List.getElem_cons_succ, List.setIfInBounds_toArray, List.set_cons_zero, List.set_cons_succ])
                  | (refine along_read (v := ?_) rfl (by rfl) (by rfl) (fun _ _ _ h => h) hS2 (fun w' hS' => ?_) ?_; rotate_left; (focus ((try dsimp only at hS'); go_simp; try with_reducible rfl)); simp only [Act.put, List.getElem_toArray, List.getElem_cons_zero, List.getElem_cons_succ, List.setIfInBounds_toArray, List.set_cons_zero, List.set_cons_succ])
                  | (refine along_skip rfl (by rfl) (by rfl) hS2 ?_; simp only [Act.put, List.getElem_toArray, List.getElem_cons_zero, List.getElem_cons_succ, List.setIfInBounds_toArray, List.set_cons_zero, List.set_cons_succ])
              refine along_done ?_
              have n0 : w6.cell? ⟨wr.heap.size, 0, none⟩ = some (.slice ja (s.join a.x a.y).all.length jb) := by rw [cell_of_row _ _ _ _ _ _ h7]; rfl
              have n1 : w6.cell? ⟨wr.heap.size, 1, none⟩ = some (.slice la (s.join a.x a.y).all.length lb) := by rw [cell_of_row _ _ _ _ _ _ h7]; rfl
              have F3 := F1.heap HP4.out (by simp)
              have z0 : w6.frozen? ⟨mb, 0, none⟩ = false := by simp [World.frozen?, F3]
              have z1 : w6.frozen? ⟨mb, 1, none⟩ = false := by simp [World.frozen?, F3]
              have m0 := F1.cell cm0 (by simp)
              have m1 := F1.cell cm1 (by simp)
              have h8 : Chg [mb] w6 ((w6.setCell ⟨mb, 0, none⟩ (.slice ja (s.join a.x a.y).all.length jb)).setCell ⟨mb, 1, none⟩ (.slice la (s.join a.x a.y).all.length lb)) := ((Chg.refl _ w6).setCell (Or.inl (by simp)) _).setCell (Or.inl (by simp)) _
              have h9 : ((w6.setCell ⟨mb, 0, none⟩ (.slice ja (s.join a.x a.y).all.length jb)).setCell ⟨mb, 1, none⟩ (.slice la (s.join a.x a.y).all.length lb)).heap[mb]? = some (.cells #[.slice ja (s.join a.x a.y).all.length jb, .slice la (s.join a.x a.y).all.length lb] 37 (0, 0)) := by
                have := heap_setCell_same (heap_setCell_same F3 0 (.slice ja (s.join a.x a.y).all.length jb)) 1 (.slice la (s.join a.x a.y).all.length lb)
                simpa using this
              have HPL := Lib.hid (Play.laid (t := s) (t' := s.join a.x a.y) HP1.out HP2.out HP3.out HP4.out HP6.out HP7.out HP8.out F2 F1 f4 h8 h9)
              obtain ⟨w8, hw8⟩ : ∃ w8, w8 = ((w6.setCell ⟨mb, 0, none⟩ (.slice ja (s.join a.x a.y).all.length jb)).setCell ⟨mb, 1, none⟩ (.slice la (s.join a.x a.y).all.length lb)) := ⟨_, rfl⟩
              have HW8 := Lib.hid hw8
              rw [← hw8] at HPL
              clear h6 h7 hn0 r6 c6 hS2 F1 F2 F3 f4 ra rg cm0 cm1 h8 h9 hw8
              go_wp2
              have kx8 := HPL.out.chg.cell HCX.out (by simp)
              have ky8 := HPL.out.chg.cell HCY.out (by simp)
              rw [← HW8.out]
              clear z0 z1 m0 m1 n0 n1 HW8
              have hS5 : (fun w' : World => w'.cell? ⟨b, off + k * 3 + 1, none⟩ = some (.int .i64 a.x) ∧ w'.cell? ⟨b, off + k * 3 + 2, none⟩ = some (.int .i64 a.y)) w8.drew := ⟨kx8, ky8⟩
              refine wp_region_way (fun w' : World => w'.cell? ⟨b, off + k * 3 + 1, none⟩ = some (.int .i64 a.x) ∧ w'.cell? ⟨b, off + k * 3 + 2, none⟩ = some (.int .i64 a.y)) [0, 1, 2, 3, 4, 5, 6, 7, 8, 9, 10, 12, 13] (Way.line [0, 1, 2, 3, 4, 5, 6, 7, 8, 9, 10, 12, 11, 13] .done) (by kernel_rfl) (by kernel_rfl) ?_
              simp only [Way.line]
              repeat
                first
                  | (refine along_off rfl (by rfl) (by rfl) (fun _ _ _ h => h) hS5 ?_; simp only [Act.put, List.getElem_toArray, List.getElem_cons_zero, List.getElem_cons_succ, List.setIfInBounds_toArray, List.set_cons_zero, List.set_cons_succ])
                  | (refine along_read (v := ?_) rfl (by rfl) (by rfl) (fun _ _ _ h => h) hS5 (fun w' hS' => ?_) ?_; rotate_left; (focus ((try dsimp only at hS'); go_simp; try with_reducible rfl)); simp only [Act.put, List.getElem_toArray, List.getElem_cons_zero, List.getElem_cons_succ, List.setIfInBounds_toArray, List.set_cons_zero, List.set_cons_succ])
                  | (refine along_skip rfl (by rfl) (by rfl) hS5 ?_; simp only [Act.put, List.getElem_toArray, List.getElem_cons_zero, List.getElem_cons_succ, List.setIfInBounds_toArray, List.set_cons_zero, List.set_cons_succ])
              refine along_op rfl (by rfl) (by rfl) (fun K hK => ?_)
              go_simp
              refine (play_join hax hay (by omega) HPL.out.drew).mono ?_
              rintro e w9 ⟨rfl, hp9⟩
              have hS6 : (fun w' : World => w'.cell? ⟨b, off + k * 3 + 1, none⟩ = some (.int .i64 a.x) ∧ w'.cell? ⟨b, off + k * 3 + 2, none⟩ = some (.int .i64 a.y)) w9 := ⟨hp9.chg.cell HCX.out (by simp), hp9.chg.cell HCY.out (by simp)⟩
              refine hK.out _ _ (fun _ => hS6) ?_
              clear hK K
              have HP9 := Lib.hid hp9
              have hqq : (s.joins a.x a.y != s.joins a.x a.y) = false := by simp
              have hqq2 : (s.joins a.x a.y == s.joins a.x a.y) = true := by simp
              clear hp9
              try simp only [Act.put, List.getElem_toArray, List.getElem_cons_zero, List.getElem_cons_succ, List.setIfInBounds_toArray, List.set_cons_zero, List.set_cons_succ]
              repeat
                first
                  | (refine along_off rfl (by rfl) (by rfl) (fun _ _ _ h => h) hS6 ?_; simp only [Act.put, List.getElem_toArray, List.getElem_cons_zero, List.getElem_cons_succ, List.setIfInBounds_toArray, List.set_cons_zero, List.set_cons_succ])
                  | (refine along_read (v := ?_) rfl (by rfl) (by rfl) (fun _ _ _ h => h) hS6 (fun w' hS' => ?_) ?_; rotate_left; (focus ((try dsimp only at hS'); go_simp; try with_reducible rfl)); simp only [Act.put, List.getElem_toArray, List.getElem_cons_zero, List.getElem_cons_succ, List.setIfInBounds_toArray, List.set_cons_zero, List.set_cons_succ])
                  | (refine along_skip rfl (by rfl) (by rfl) hS6 ?_; simp only [Act.put, List.getElem_toArray, List.getElem_cons_zero, List.getElem_cons_succ, List.setIfInBounds_toArray, List.set_cons_zero, List.set_cons_succ])
              refine along_done ?_
              go_wp2
              go_roundw
              case rel => exact ⟨k + 1, by omega, by go_num, by rw [HX.out, HPY.out]; exact HP9.out⟩
              case measure => simp [intOf]; omega
        --REST
        · have e : k = l.length := by omega
          subst e
          have HOKS := Lib.hid hp.ok
          have hlen := St.playAll_len l (St.new f)
          have hlen2 := St.new_len f
          rw [List.take_length] at HPL HOKS
          have hall : ((St.new f).playAll l).all.length < 500 := by omega
          clear hlen hlen2 hp hch HP1 HSM HCE FSM FCE hk hlt hlm flm
          generalize (St.new f).playAll l = s at *
          obtain ⟨own2, aa, ac, ga, gc, p1, p2, p3, p4, p5, p6, p7, p8, cm0, cm1⟩ := HPL.out.open HOKS.out
          have HP1 := Lib.hid p1
          have HP2 := Lib.hid p2
          have HP3 := Lib.hid p3
          have HP4 := Lib.hid p4
          have HP5 := Lib.hid p5
          have HP6 := Lib.hid p6
          have HP7 := Lib.hid p7
          have HP8 := Lib.hid p8
          clear p1 p2 p3 p4 p5 p6 p7 p8
          go_wp2
          have hS0 : (fun w' : World => w'.cell? ⟨mb, 0, none⟩ = some (.slice aa s.all.length ac) ∧ w'.cell? ⟨mb, 1, none⟩ = some (.slice ga s.all.length gc)) wr.drew := ⟨cm0, cm1⟩
          refine wp_region_way (fun w' : World => w'.cell? ⟨mb, 0, none⟩ = some (.slice aa s.all.length ac) ∧ w'.cell? ⟨mb, 1, none⟩ = some (.slice ga s.all.length gc)) [0, 2, 4, 5] (Way.line [0, 2, 1, 3, 4, 5] .done) (by kernel_rfl) (by kernel_rfl) ?_
          simp only [Way.line]
          repeat
            first
              | (refine along_off rfl (by rfl) (by rfl) (fun _ _ _ h => h) hS0 ?_; simp only [Act.put, List.getElem_toArray, List.getElem_cons_zero, List.getElem_cons_succ, List.setIfInBounds_toArray, List.set_cons_zero, List.set_cons_succ])
              | (refine along_read (v := ?_) rfl (by rfl) (by rfl) (fun _ _ _ h => h) hS0 (fun w' hS' => ?_) ?_; rotate_left; (focus ((try dsimp only at hS'); go_simp; try with_reducible rfl)); simp only [Act.put, List.getElem_toArray, List.getElem_cons_zero, List.getElem_cons_succ, List.setIfInBounds_toArray, List.set_cons_zero, List.set_cons_succ])
              | (refine along_skip rfl (by rfl) (by rfl) hS0 ?_; simp only [Act.put, List.getElem_toArray, List.getElem_cons_zero, List.getElem_cons_succ, List.setIfInBounds_toArray, List.set_cons_zero, List.set_cons_succ])
          refine along_op rfl (by rfl) (by rfl) (fun K hK => ?_)
          go_simp
          refine (groups_keep pb own2 s wr.drew (by omega) (HP1.out.chg (Chg.refl [] wr).drew (by simp))).mono ?_
          rintro e w1' ⟨ov, vs, rfl, g1, g2, g3⟩
          have hS1 : (fun w' : World => w'.cell? ⟨mb, 0, none⟩ = some (.slice aa s.all.length ac) ∧ w'.cell? ⟨mb, 1, none⟩ = some (.slice ga s.all.length gc)) w1' := ⟨g3.cell cm0 HP8.out, g3.cell cm1 HP8.out⟩
          refine hK.out _ _ (fun _ => hS1) ?_
          clear hK K
          try simp only [Act.put, List.getElem_toArray, List.getElem_cons_zero, List.getElem_cons_succ, List.setIfInBounds_toArray, List.set_cons_zero, List.set_cons_succ]
          refine along_op rfl (by rfl) (by rfl) (fun K hK => ?_)
          go_simp
          have g0 := (Chg.refl own2 wr).drew.trans g3 (by intro j hj; exact Or.inl hj)
          refine (refgroups_any w.heap.size _ s w1' (by omega) HOKS.out (HP5.out.chg g0 HP6.out)).mono ?_
          rintro e w2' ⟨ov', vs', rfl, k1, k2⟩
          have HB := Lib.hid (both_start (w1 := w1') (w2 := w2') HP2.out HP3.out HP1.out.low HP4.out HP5.out HP6.out HP8.out g1 g2 g0 k1 k2)
          refine hK.out _ _ (fun _ => ⟨HB.out.at0, HB.out.at1⟩) ?_
          clear hK K hS0 hS1 g0 g1 g2 g3 k1 k2 cm0 cm1 HP1 HP2 HP3 HP4 HP5 HP6 HP7 HP8
          try simp only [Act.put, List.getElem_toArray, List.getElem_cons_zero, List.getElem_cons_succ, List.setIfInBounds_toArray, List.set_cons_zero, List.set_cons_succ]
          have hS2 : (fun w' : World => w'.cell? ⟨mb, 0, none⟩ = some (.slice aa s.all.length ac) ∧ w'.cell? ⟨mb, 1, none⟩ = some (.slice ga s.all.length gc)) w2' := ⟨HB.out.at0, HB.out.at1⟩
          repeat
            first
              | (refine along_off rfl (by rfl) (by rfl) (fun _ _ _ h => h) hS2 ?_; simp only [Act.put, List.getElem_toArray, List.getElem_cons_zero, List.getElem_cons_succ, List.setIfInBounds_toArray, List.set_cons_zero, List.set_cons_succ])
              | (refine along_read (v := ?_) rfl (by rfl) (by rfl) (fun _ _ _ h => h) hS2 (fun w' hS' => ?_) ?_; rotate_left; (focus ((try dsimp only at hS'); go_simp; try with_reducible rfl)); simp only [Act.put, List.getElem_toArray, List.getElem_cons_zero, List.getElem_cons_succ, List.setIfInBounds_toArray, List.set_cons_zero, List.set_cons_succ])
              | (refine along_skip rfl (by rfl) (by rfl) hS2 ?_; simp only [Act.put, List.getElem_toArray, List.getElem_cons_zero, List.getElem_cons_succ, List.setIfInBounds_toArray, List.set_cons_zero, List.set_cons_succ])
          refine along_done ?_
          clear hS2
          obtain ⟨B1, vs1, hr1⟩ := HB.out.rows
          obtain ⟨oa, oc, rfl⟩ := hr1.shape
          obtain ⟨B2, vs2, hr2⟩ := HB.out.rows'
          obtain ⟨oa', oc', rfl⟩ := hr2.shape
          have HCG := Lib.hid HOKS.out.count_groups
          have hng : s.groups.length < 500 := by rw [HCG.out]; exact Nat.lt_of_le_of_lt s.count_le (by rw [← HOKS.out.len]; exact hall)
          clear hr1 hr2 vs vs' vs1 vs2
          go_wp2
          have hS3 : (fun w' : World => w'.cell? ⟨mb, 0, none⟩ = some (.slice aa s.all.length ac)) w2'.drew := HB.out.drew.at0
          refine wp_region_way (fun w' : World => w'.cell? ⟨mb, 0, none⟩ = some (.slice aa s.all.length ac)) [0, 1, 2, 3, 4, 5, 6, 8, 9, 10, 11, 12, 13, 15, 16, 17, 18, 19] (Way.line [0, 1, 2, 3, 4, 5, 6, 8, 9, 7, 10, 11, 12, 13, 15, 16, 17, 14, 18, 19] .done) (by kernel_rfl) (by kernel_rfl) ?_
          simp only [Way.line]
          repeat
            first
              | (refine along_off rfl (by rfl) (by rfl) (fun _ _ _ h => h) hS3 ?_; simp only [Act.put, List.getElem_toArray, List.getElem_cons_zero, List.getElem_cons_succ, List.setIfInBounds_toArray, List.set_cons_zero, List.set_cons_succ])
              | (refine along_read (v := ?_) rfl (by rfl) (by rfl) (fun _ _ _ h => h) hS3 (fun w' hS' => ?_) ?_; rotate_left; (focus ((try dsimp only at hS'); go_simp; try with_reducible rfl)); simp only [Act.put, List.getElem_toArray, List.getElem_cons_zero, List.getElem_cons_succ, List.setIfInBounds_toArray, List.set_cons_zero, List.set_cons_succ])
              | (refine along_skip rfl (by rfl) (by rfl) hS3 ?_; simp only [Act.put, List.getElem_toArray, List.getElem_cons_zero, List.getElem_cons_succ, List.setIfInBounds_toArray, List.set_cons_zero, List.set_cons_succ])
          refine along_op rfl (by rfl) (by rfl) (fun K hK => ?_)
          go_simp
          refine (both_count HB.out.drew).mono ?_
          rw [← HCG.out]
          rintro e w3 ⟨rfl, rfl⟩
          refine hK.out _ _ (fun _ => hS3) ?_
          clear hK K
          try simp only [Act.put, List.getElem_toArray, List.getElem_cons_zero, List.getElem_cons_succ, List.setIfInBounds_toArray, List.set_cons_zero, List.set_cons_succ]
          repeat
            first
              | (refine along_off rfl (by rfl) (by rfl) (fun _ _ _ h => h) hS3 ?_; simp only [Act.put, List.getElem_toArray, List.getElem_cons_zero, List.getElem_cons_succ, List.setIfInBounds_toArray, List.set_cons_zero, List.set_cons_succ])
              | (refine along_read (v := ?_) rfl (by rfl) (by rfl) (fun _ _ _ h => h) hS3 (fun w' hS' => ?_) ?_; rotate_left; (focus ((try dsimp only at hS'); go_simp; try with_reducible rfl)); simp only [Act.put, List.getElem_toArray, List.getElem_cons_zero, List.getElem_cons_succ, List.setIfInBounds_toArray, List.set_cons_zero, List.set_cons_succ])
              | (refine along_skip rfl (by rfl) (by rfl) hS3 ?_; simp only [Act.put, List.getElem_toArray, List.getElem_cons_zero, List.getElem_cons_succ, List.setIfInBounds_toArray, List.set_cons_zero, List.set_cons_succ])
          refine along_op rfl (by rfl) (by rfl) (fun K hK => ?_)
          go_simp
          refine (both_len HB.out.drew).mono ?_
          rintro e w3 ⟨rfl, rfl⟩
          refine hK.out _ _ (fun _ => hS3) ?_
          clear hK K
          try simp only [Act.put, List.getElem_toArray, List.getElem_cons_zero, List.getElem_cons_succ, List.setIfInBounds_toArray, List.set_cons_zero, List.set_cons_succ]
          repeat
            first
              | (refine along_off rfl (by rfl) (by rfl) (fun _ _ _ h => h) hS3 ?_; simp only [Act.put, List.getElem_toArray, List.getElem_cons_zero, List.getElem_cons_succ, List.setIfInBounds_toArray, List.set_cons_zero, List.set_cons_succ])
              | (refine along_read (v := ?_) rfl (by rfl) (by rfl) (fun _ _ _ h => h) hS3 (fun w' hS' => ?_) ?_; rotate_left; (focus ((try dsimp only at hS'); go_simp; try with_reducible rfl)); simp only [Act.put, List.getElem_toArray, List.getElem_cons_zero, List.getElem_cons_succ, List.setIfInBounds_toArray, List.set_cons_zero, List.set_cons_succ])
              | (refine along_skip rfl (by rfl) (by rfl) hS3 ?_; simp only [Act.put, List.getElem_toArray, List.getElem_cons_zero, List.getElem_cons_succ, List.setIfInBounds_toArray, List.set_cons_zero, List.set_cons_succ])
          refine along_done ?_
          have HB2 := Lib.hid HB.out.drew
          clear hS3
          go_wp2
          go_loopw [18] (fun c wr => ∃ i : Nat, i ≤ s.groups.length ∧ c = .int .i64 i ∧ Both.Now w pb mb s own2 aa ga ac gc (.slice oa s.groups.length oc) (.slice oa' s.groups.length oc') w2' wr) (fun c _ => s.groups.length - (intOf c).toNat)
          case atStart => exact ⟨0, Nat.zero_le _, rfl, HB2.out⟩
          case round =>
            obtain ⟨wo, rfl⟩ : ∃ wo, wo = wr := ⟨wr, rfl⟩
            obtain ⟨i, hi, rfl, hb⟩ := hrel
            have HBO := Lib.hid hb
            by_cases hlt : i < s.groups.length
            · obtain ⟨go1, c1, g1, ci1, e1, k1⟩ := hb.both.at1_ hlt
              obtain ⟨rfl, rfl⟩ : oa = some ⟨go1, 0, none⟩ ∧ oc = c1 := by simpa using e1
              obtain ⟨go2, c2, g2, ci2, e2, k2⟩ := hb.both.at2_ hlt
              obtain ⟨rfl, rfl⟩ : oa' = some ⟨go2, 0, none⟩ ∧ oc' = c2 := by simpa using e2
              have a1 := (k1 _ hb.kept).1
              have a2 := (k2 _ hb.kept).1
              have HR1 := Lib.hid k1
              have HR2 := Lib.hid k2
              have hrl := s.group_le i
              have HGT := Lib.hid (fun k hk => HOKS.out.group_thing (k := k) hlt hk)
              have hr0 := HOKS.out.group_some hlt
              clear e1 e2 k1 k2 hb
              generalize s.groups.getD i [] = row at *
              go_wp2
              have hS4 : (fun w' : World => w'.cell? ⟨go1, i, none⟩ = some (.slice (some ⟨g1, 0, none⟩) row.length ci1) ∧ w'.cell? ⟨go2, i, none⟩ = some (.slice (some ⟨g2, 0, none⟩) row.length ci2)) wo.drew := ⟨a1, a2⟩
              refine wp_region_way (fun w' : World => w'.cell? ⟨go1, i, none⟩ = some (.slice (some ⟨g1, 0, none⟩) row.length ci1) ∧ w'.cell? ⟨go2, i, none⟩ = some (.slice (some ⟨g2, 0, none⟩) row.length ci2)) [0, 1, 2, 3, 4, 5, 6, 7, 8, 9, 10] (Way.line [0, 1, 2, 3, 4, 5, 6, 7, 8, 9, 10] .done) (by kernel_rfl) (by kernel_rfl) ?_
              simp only [Way.line]
              repeat
                first
                  | (refine along_off rfl (by rfl) (by rfl) (fun _ _ _ h => h) hS4 ?_; simp only [Act.put, List.getElem_toArray, List.getElem_cons_zero, List.getElem_cons_succ, List.setIfInBounds_toArray, List.set_cons_zero, List.set_cons_succ])
                  | (refine along_read (v := ?_) rfl (by rfl) (by rfl) (fun _ _ _ h => h) hS4 (fun w' hS' => ?_) ?_; rotate_left; (focus ((try dsimp only at hS'); go_simp; try with_reducible rfl)); simp only [Act.put, List.getElem_toArray, List.getElem_cons_zero, List.getElem_cons_succ, List.setIfInBounds_toArray, List.set_cons_zero, List.set_cons_succ])
                  | (refine along_skip rfl (by rfl) (by rfl) hS4 ?_; simp only [Act.put, List.getElem_toArray, List.getElem_cons_zero, List.getElem_cons_succ, List.setIfInBounds_toArray, List.set_cons_zero, List.set_cons_succ])
              refine along_done ?_
              clear hS4
              have HBO2 := Lib.hid HBO.out.drew
              go_wp2
              go_loopw [19] (fun c wr => ∃ k : Nat, k ≤ row.length ∧ c = .int .i64 k ∧ Both.Now w pb mb s own2 aa ga ac gc (.slice (some ⟨go1, 0, none⟩) s.groups.length oc) (.slice (some ⟨go2, 0, none⟩) s.groups.length oc') w2' wr) (fun c _ => row.length - (intOf c).toNat)
              case atStart => exact ⟨0, Nat.zero_le _, rfl, HBO2.out⟩
              case round =>
                obtain ⟨k, hk, rfl, hb⟩ := hrel
                have b1 := (HR1.out _ hb.kept).1
                have b2 := (HR2.out _ hb.kept).1
                by_cases hkl : k < row.length
                · have d1 := (HR1.out _ hb.kept).2 k hkl
                  obtain ⟨q1, q2⟩ := HGT.out k hkl
                  have hz : I64 (row.getD k 0) := St.mem_all_small hb.both.obj q1
                  have HZ1 := Lib.hid (decide_eq_true q1)
                  have HD1 := Lib.hid (fun wx (hx : Chg own2 w2' wx) => (HR1.out wx hx).2 k hkl)
                  have HD2 := Lib.hid (fun wx (hx : Chg own2 w2' wx) => (HR2.out wx hx).2 k hkl)
                  have HD0 := Lib.hid (fun wx (hx : Chg own2 w2' wx) => (HR2.out wx hx).2 0 hr0)
                  have HE1 := Lib.hid (fun wx (hx : Chg own2 w2' wx) => (HR1.out wx hx).1)
                  have HE2 := Lib.hid (fun wx (hx : Chg own2 w2' wx) => (HR2.out wx hx).1)
                  have HQ2 := Lib.hid q2
                  have HBB := Lib.hid hb
                  clear q1 q2 hb
                  generalize row.getD k 0 = z at *
                  generalize row.getD 0 0 = h0 at *
                  go_wp2_with fail
                  refine (both_head hz (by omega) HBB.out).mono ?_
                  rw [HZ1.out, HQ2.out]
                  rintro e w5 ⟨rfl, hb5⟩
                  have HB5 := Lib.hid hb5
                  have hS5 : (fun w' : World => w'.cell? ⟨go1, i, none⟩ = some (.slice (some ⟨g1, 0, none⟩) row.length ci1) ∧ w'.cell? ⟨go2, i, none⟩ = some (.slice (some ⟨g2, 0, none⟩) row.length ci2) ∧ w'.cell? ⟨g1, k, none⟩ = some (.int .i64 z) ∧ w'.cell? ⟨g2, k, none⟩ = some (.int .i64 z) ∧ w'.cell? ⟨g2, 0, none⟩ = some (.int .i64 h0)) w5.drew := ⟨HE1.out _ hb5.drew.kept, HE2.out _ hb5.drew.kept, HD1.out _ hb5.drew.kept, HD2.out _ hb5.drew.kept, HD0.out _ hb5.drew.kept⟩
                  clear b1 b2 d1 a1 a2 hb5
                  go_wp2
                  refine wp_region_way (fun w' : World => w'.cell? ⟨go1, i, none⟩ = some (.slice (some ⟨g1, 0, none⟩) row.length ci1) ∧ w'.cell? ⟨go2, i, none⟩ = some (.slice (some ⟨g2, 0, none⟩) row.length ci2) ∧ w'.cell? ⟨g1, k, none⟩ = some (.int .i64 z) ∧ w'.cell? ⟨g2, k, none⟩ = some (.int .i64 z) ∧ w'.cell? ⟨g2, 0, none⟩ = some (.int .i64 h0)) [0, 1, 2, 3, 4, 5, 6, 7, 8, 9, 10, 11, 12, 13, 14, 15, 16, 17, 18, 19, 20, 21, 22, 23, 24, 25, 26, 27, 28] (Way.line [0, 1, 2, 3, 4, 5, 6, 7, 8, 9, 10, 11, 12, 13, 14, 15, 16, 17, 18, 19, 20, 21, 22, 23, 24, 25, 26, 27, 28] .done) (by kernel_rfl) (by kernel_rfl) ?_
                  simp only [Way.line]
                  repeat
                    first
                      | (refine along_off rfl (by rfl) (by rfl) (fun _ _ _ h => h) hS5 ?_; simp only [Act.put, List.getElem_toArray, List.getElem_cons_zero, List.getElem_cons_succ, List.setIfInBounds_toArray, List.set_cons_zero, List.set_cons_succ])
                      | (refine along_read (v := ?_) rfl (by rfl) (by rfl) (fun _ _ _ h => h) hS5 (fun w' hS' => ?_) ?_; rotate_left; (focus ((try dsimp only at hS'); go_simp; try with_reducible rfl)); simp only [Act.put, List.getElem_toArray, List.getElem_cons_zero, List.getElem_cons_succ, List.setIfInBounds_toArray, List.set_cons_zero, List.set_cons_succ])
                      | (refine along_skip rfl (by rfl) (by rfl) hS5 ?_; simp only [Act.put, List.getElem_toArray, List.getElem_cons_zero, List.getElem_cons_succ, List.setIfInBounds_toArray, List.set_cons_zero, List.set_cons_succ])
                  refine along_done ?_
                  clear hS5
                  have HB6 := Lib.hid HB5.out.drew
                  go_wp2
                  go_roundw
                  case rel => exact ⟨k + 1, by omega, by go_num, HB6.out⟩
                  case measure => simp [intOf]; omega
                · have HBB := Lib.hid hb
                  clear hb
                  go_wp2
                  go_roundw
                  case rel => exact ⟨i + 1, by omega, by go_num, HBB.out⟩
                  case measure => simp [intOf]; omega
            · clear hb
              go_wp2
              have hS6 : (fun w' : World => w'.cell? ⟨mb, 0, none⟩ = some (.slice aa s.all.length ac) ∧ w'.cell? ⟨mb, 1, none⟩ = some (.slice ga s.all.length gc)) wo.drew := ⟨HBO.out.drew.at0, HBO.out.drew.at1⟩
              refine wp_region_way (fun w' : World => w'.cell? ⟨mb, 0, none⟩ = some (.slice aa s.all.length ac) ∧ w'.cell? ⟨mb, 1, none⟩ = some (.slice ga s.all.length gc)) [0, 1, 3, 4, 6, 7] (Way.line [0, 1, 3, 4, 2, 5, 6, 7] .done) (by kernel_rfl) (by kernel_rfl) ?_
              simp only [Way.line]
              repeat
                first
                  | (refine along_off rfl (by rfl) (by rfl) (fun _ _ _ h => h) hS6 ?_; simp only [Act.put, List.getElem_toArray, List.getElem_cons_zero, List.getElem_cons_succ, List.setIfInBounds_toArray, List.set_cons_zero, List.set_cons_succ])
                  | (refine along_read (v := ?_) rfl (by rfl) (by rfl) (fun _ _ _ h => h) hS6 (fun w' hS' => ?_) ?_; rotate_left; (focus ((try dsimp only at hS'); go_simp; try with_reducible rfl)); simp only [Act.put, List.getElem_toArray, List.getElem_cons_zero, List.getElem_cons_succ, List.setIfInBounds_toArray, List.set_cons_zero, List.set_cons_succ])
                  | (refine along_skip rfl (by rfl) (by rfl) hS6 ?_; simp only [Act.put, List.getElem_toArray, List.getElem_cons_zero, List.getElem_cons_succ, List.setIfInBounds_toArray, List.set_cons_zero, List.set_cons_succ])
              refine along_op rfl (by rfl) (by rfl) (fun K hK => ?_)
              go_simp
              refine (both_find hx HBO.out.drew).mono ?_
              rintro e w3 ⟨rfl, hb3⟩
              refine hK.out _ _ (fun _ => ⟨hb3.at0, hb3.at1⟩) ?_
              clear hK K
              try simp only [Act.put, List.getElem_toArray, List.getElem_cons_zero, List.getElem_cons_succ, List.setIfInBounds_toArray, List.set_cons_zero, List.set_cons_succ]
              refine along_op rfl (by rfl) (by rfl) (fun K hK => ?_)
              go_simp
              refine (both_find hy hb3).mono ?_
              rintro e w4 ⟨rfl, hb4⟩
              have hS7 : (fun w' : World => w'.cell? ⟨mb, 0, none⟩ = some (.slice aa s.all.length ac) ∧ w'.cell? ⟨mb, 1, none⟩ = some (.slice ga s.all.length gc)) w4 := ⟨hb4.at0, hb4.at1⟩
              refine hK.out _ _ (fun _ => hS7) ?_
              clear hK K
              try simp only [Act.put, List.getElem_toArray, List.getElem_cons_zero, List.getElem_cons_succ, List.setIfInBounds_toArray, List.set_cons_zero, List.set_cons_succ]
              repeat
                first
                  | (refine along_off rfl (by rfl) (by rfl) (fun _ _ _ h => h) hS7 ?_; simp only [Act.put, List.getElem_toArray, List.getElem_cons_zero, List.getElem_cons_succ, List.setIfInBounds_toArray, List.set_cons_zero, List.set_cons_succ])
                  | (refine along_read (v := ?_) rfl (by rfl) (by rfl) (fun _ _ _ h => h) hS7 (fun w' hS' => ?_) ?_; rotate_left; (focus ((try dsimp only at hS'); go_simp; try with_reducible rfl)); simp only [Act.put, List.getElem_toArray, List.getElem_cons_zero, List.getElem_cons_succ, List.setIfInBounds_toArray, List.set_cons_zero, List.set_cons_succ])
                  | (refine along_skip rfl (by rfl) (by rfl) hS7 ?_; simp only [Act.put, List.getElem_toArray, List.getElem_cons_zero, List.getElem_cons_succ, List.setIfInBounds_toArray, List.set_cons_zero, List.set_cons_succ])
              refine along_done ?_
              clear hS6 hS7 hb3
              have HB4 := Lib.hid hb4
              clear hb4
              go_wp2_with fail
              refine (both_head hx (by omega) HB4.out).mono ?_
              rintro e w5 ⟨rfl, hb5⟩
              have HB5 := Lib.hid hb5
              clear hb5
              go_wp2
              by_cases hxin : x ∈ s.all
              · rw [show findv s.all x = ((s.all.idxOf x : Nat) : Int) from if_pos hxin, decide_eq_true hxin]
                have hix : s.all.idxOf x < s.all.length := List.idxOf_lt_length_iff.2 hxin
                by_cases hyin : y ∈ s.all
                · rw [show findv s.all y = ((s.all.idxOf y : Nat) : Int) from if_pos hyin]
                  have hiy : s.all.idxOf y < s.all.length := List.idxOf_lt_length_iff.2 hyin
                  obtain ⟨gb, rfl, HG⟩ := both_grp HB5.out (by omega)
                  have HSM := Lib.hid (show s.same x y = (s.hd (s.all.idxOf x) == s.hd (s.all.idxOf y)) by unfold St.same; rw [decide_eq_true hxin, decide_eq_true hyin]; rfl)
                  have HC := Lib.hid (fun wx hx => HG wx hx _ hix)
                  have HD := Lib.hid (fun wx hx => HG wx hx _ hiy)
                  clear HG hxin hyin
                  generalize s.hd (s.all.idxOf x) = hx1 at *
                  generalize s.hd (s.all.idxOf y) = hy1 at *
                  generalize s.all.idxOf x = ix at *
                  generalize s.all.idxOf y = iy at *
                  have m1 : ¬ (((ix : Nat) : Int) < 0) := by omega
                  have m2 : ¬ (((iy : Nat) : Int) < 0) := by omega
                  by_cases he : hx1 = hy1
                  · subst he
                    have HSE := Lib.hid (HSM.out.trans (beq_self_eq_true hx1))
                    have hS8 : (fun w' : World => w'.cell? ⟨mb, 1, none⟩ = some (.slice (some ⟨gb, 0, none⟩) s.all.length gc) ∧ w'.cell? ⟨gb, ix, none⟩ = some (.int .i64 ((hx1 : Nat) : Int)) ∧ w'.cell? ⟨gb, iy, none⟩ = some (.int .i64 ((hx1 : Nat) : Int))) w5.drew := ⟨HB5.out.drew.at1, HC.out _ HB5.out.drew, HD.out _ HB5.out.drew⟩
                    refine wp_region_way (fun w' : World => w'.cell? ⟨mb, 1, none⟩ = some (.slice (some ⟨gb, 0, none⟩) s.all.length gc) ∧ w'.cell? ⟨gb, ix, none⟩ = some (.int .i64 ((hx1 : Nat) : Int)) ∧ w'.cell? ⟨gb, iy, none⟩ = some (.int .i64 ((hx1 : Nat) : Int))) [0, 1, 2, 4, 5, 6, 7, 8, 9, 10, 11, 12, 13, 14, 15, 16, 17, 18, 19, 20, 21, 22, 23, 24, 25, 26, 27, 28, 29, 30, 31, 32] (Way.line [0, 1, 2, 4, 5, 3, 6, 7, 8, 9, 10, 11, 12, 13, 14, 15, 16, 17, 18, 19, 20, 21, 22, 23, 24, 25, 26, 27, 28, 29, 30, 31, 32] .done) (by kernel_rfl) (by kernel_rfl) ?_
                    simp only [Way.line]
                    repeat
                      first
                        | (refine along_off rfl (by rfl) (by rfl) (fun _ _ _ h => h) hS8 ?_; simp only [Act.put, List.getElem_toArray, List.getElem_cons_zero, List.getElem_cons_succ, List.setIfInBounds_toArray, List.set_cons_zero, List.set_cons_succ])
                        | (refine along_read (v := ?_) rfl (by rfl) (by rfl) (fun _ _ _ h => h) hS8 (fun w' hS' => ?_) ?_; rotate_left; (focus ((try dsimp only at hS'); go_simp; try with_reducible rfl)); simp only [Act.put, List.getElem_toArray, List.getElem_cons_zero, List.getElem_cons_succ, List.setIfInBounds_toArray, List.set_cons_zero, List.set_cons_succ])
                        | (refine along_skip rfl (by rfl) (by rfl) hS8 ?_; simp only [Act.put, List.getElem_toArray, List.getElem_cons_zero, List.getElem_cons_succ, List.setIfInBounds_toArray, List.set_cons_zero, List.set_cons_succ])
                    refine along_op rfl (by rfl) (by rfl) (fun K hK => ?_)
                    go_simp
                    refine (both_same hx hy HB5.out.drew).mono ?_
                    rw [HSE.out]
                    rintro e w6 ⟨rfl, hb6⟩
                    have hS9 : (fun w' : World => w'.cell? ⟨mb, 1, none⟩ = some (.slice (some ⟨gb, 0, none⟩) s.all.length gc) ∧ w'.cell? ⟨gb, ix, none⟩ = some (.int .i64 ((hx1 : Nat) : Int)) ∧ w'.cell? ⟨gb, iy, none⟩ = some (.int .i64 ((hx1 : Nat) : Int))) w6 := ⟨hb6.at1, HC.out _ hb6, HD.out _ hb6⟩
                    refine hK.out _ _ (fun _ => hS9) ?_
                    clear hK K
                    try simp only [Act.put, List.getElem_toArray, List.getElem_cons_zero, List.getElem_cons_succ, List.setIfInBounds_toArray, List.set_cons_zero, List.set_cons_succ]
                    repeat
                      first
                        | (refine along_off rfl (by rfl) (by rfl) (fun _ _ _ h => h) hS9 ?_; simp only [Act.put, List.getElem_toArray, List.getElem_cons_zero, List.getElem_cons_succ, List.setIfInBounds_toArray, List.set_cons_zero, List.set_cons_succ])
                        | (refine along_read (v := ?_) rfl (by rfl) (by rfl) (fun _ _ _ h => h) hS9 (fun w' hS' => ?_) ?_; rotate_left; (focus ((try dsimp only at hS'); go_simp; try with_reducible rfl)); simp only [Act.put, List.getElem_toArray, List.getElem_cons_zero, List.getElem_cons_succ, List.setIfInBounds_toArray, List.set_cons_zero, List.set_cons_succ])
                        | (refine along_skip rfl (by rfl) (by rfl) hS9 ?_; simp only [Act.put, List.getElem_toArray, List.getElem_cons_zero, List.getElem_cons_succ, List.setIfInBounds_toArray, List.set_cons_zero, List.set_cons_succ])
                    refine along_done ?_
                    go_wp2
                    go_ret
                    exact ⟨rfl, hb6.chg⟩
                  · have HSE := Lib.hid (HSM.out.trans (beq_eq_false_iff_ne.2 he))
                    have hne : (((hx1 : Nat) : Int) == ((hy1 : Nat) : Int)) = false := by rw [beq_eq_false_iff_ne]; omega
                    have hne2 : ¬ hx1 = hy1 := he
                    have hS8 : (fun w' : World => w'.cell? ⟨mb, 1, none⟩ = some (.slice (some ⟨gb, 0, none⟩) s.all.length gc) ∧ w'.cell? ⟨gb, ix, none⟩ = some (.int .i64 ((hx1 : Nat) : Int)) ∧ w'.cell? ⟨gb, iy, none⟩ = some (.int .i64 ((hy1 : Nat) : Int))) w5.drew := ⟨HB5.out.drew.at1, HC.out _ HB5.out.drew, HD.out _ HB5.out.drew⟩
                    refine wp_region_way (fun w' : World => w'.cell? ⟨mb, 1, none⟩ = some (.slice (some ⟨gb, 0, none⟩) s.all.length gc) ∧ w'.cell? ⟨gb, ix, none⟩ = some (.int .i64 ((hx1 : Nat) : Int)) ∧ w'.cell? ⟨gb, iy, none⟩ = some (.int .i64 ((hy1 : Nat) : Int))) [0, 1, 2, 4, 5, 6, 7, 8, 9, 10, 11, 12, 13, 14, 15, 16, 17, 18, 19, 20, 21, 22, 23, 24, 25, 26, 27, 28, 29, 30, 31, 32] (Way.line [0, 1, 2, 4, 5, 3, 6, 7, 8, 9, 10, 11, 12, 13, 14, 15, 16, 17, 18, 19, 20, 21, 22, 23, 24, 25, 26, 27, 28, 29, 30, 31, 32] .done) (by kernel_rfl) (by kernel_rfl) ?_
                    simp only [Way.line]
                    repeat
                      first
                        | (refine along_off rfl (by rfl) (by rfl) (fun _ _ _ h => h) hS8 ?_; simp only [Act.put, List.getElem_toArray, List.getElem_cons_zero, List.getElem_cons_succ, List.setIfInBounds_toArray, List.set_cons_zero, List.set_cons_succ])
                        | (refine along_read (v := ?_) rfl (by rfl) (by rfl) (fun _ _ _ h => h) hS8 (fun w' hS' => ?_) ?_; rotate_left; (focus ((try dsimp only at hS'); go_simp; try with_reducible rfl)); simp only [Act.put, List.getElem_toArray, List.getElem_cons_zero, List.getElem_cons_succ, List.setIfInBounds_toArray, List.set_cons_zero, List.set_cons_succ])
                        | (refine along_skip rfl (by rfl) (by rfl) hS8 ?_; simp only [Act.put, List.getElem_toArray, List.getElem_cons_zero, List.getElem_cons_succ, List.setIfInBounds_toArray, List.set_cons_zero, List.set_cons_succ])
                    refine along_op rfl (by rfl) (by rfl) (fun K hK => ?_)
                    go_simp
                    refine (both_same hx hy HB5.out.drew).mono ?_
                    rw [HSE.out]
                    rintro e w6 ⟨rfl, hb6⟩
                    have hS9 : (fun w' : World => w'.cell? ⟨mb, 1, none⟩ = some (.slice (some ⟨gb, 0, none⟩) s.all.length gc) ∧ w'.cell? ⟨gb, ix, none⟩ = some (.int .i64 ((hx1 : Nat) : Int)) ∧ w'.cell? ⟨gb, iy, none⟩ = some (.int .i64 ((hy1 : Nat) : Int))) w6 := ⟨hb6.at1, HC.out _ hb6, HD.out _ hb6⟩
                    refine hK.out _ _ (fun _ => hS9) ?_
                    clear hK K
                    try simp only [Act.put, List.getElem_toArray, List.getElem_cons_zero, List.getElem_cons_succ, List.setIfInBounds_toArray, List.set_cons_zero, List.set_cons_succ]
                    repeat
                      first
                        | (refine along_off rfl (by rfl) (by rfl) (fun _ _ _ h => h) hS9 ?_; simp only [Act.put, List.getElem_toArray, List.getElem_cons_zero, List.getElem_cons_succ, List.setIfInBounds_toArray, List.set_cons_zero, List.set_cons_succ])
                        | (refine along_read (v := ?_) rfl (by rfl) (by rfl) (fun _ _ _ h => h) hS9 (fun w' hS' => ?_) ?_; rotate_left; (focus ((try dsimp only at hS'); go_simp; try with_reducible rfl)); simp only [Act.put, List.getElem_toArray, List.getElem_cons_zero, List.getElem_cons_succ, List.setIfInBounds_toArray, List.set_cons_zero, List.set_cons_succ])
                        | (refine along_skip rfl (by rfl) (by rfl) hS9 ?_; simp only [Act.put, List.getElem_toArray, List.getElem_cons_zero, List.getElem_cons_succ, List.setIfInBounds_toArray, List.set_cons_zero, List.set_cons_succ])
                    refine along_done ?_
                    go_wp2
                    go_ret
                    exact ⟨rfl, hb6.chg⟩
                · rw [show findv s.all y = -1 from if_neg hyin]
                  have HSE := Lib.hid (St.same_not (s := s) (x := x) (y := y) (Or.inr hyin))
                  have hS8 : (fun _ : World => True) w5.drew := trivial
                  refine wp_region_way (fun _ : World => True) [0, 1, 2, 4, 5, 6, 7, 8, 9, 10, 11, 12, 13, 14, 15, 16, 17, 18, 19, 20, 21, 22, 23, 24, 25, 26, 27, 28, 29, 30, 31, 32] (Way.line [0, 1, 2, 4, 5, 3, 6, 7, 8, 9, 10, 11, 12, 13, 14, 15, 16, 17, 18, 19, 20, 21, 22, 23, 24, 25, 26, 27, 28, 29, 30, 31, 32] .done) (by kernel_rfl) (by kernel_rfl) ?_
                  simp only [Way.line]
                  repeat
                    first
                      | (refine along_off rfl (by rfl) (by rfl) (fun _ _ _ h => h) hS8 ?_; simp only [Act.put, List.getElem_toArray, List.getElem_cons_zero, List.getElem_cons_succ, List.setIfInBounds_toArray, List.set_cons_zero, List.set_cons_succ])
                      | (refine along_read (v := ?_) rfl (by rfl) (by rfl) (fun _ _ _ h => h) hS8 (fun w' hS' => ?_) ?_; rotate_left; (focus ((try dsimp only at hS'); go_simp; try with_reducible rfl)); simp only [Act.put, List.getElem_toArray, List.getElem_cons_zero, List.getElem_cons_succ, List.setIfInBounds_toArray, List.set_cons_zero, List.set_cons_succ])
                      | (refine along_skip rfl (by rfl) (by rfl) hS8 ?_; simp only [Act.put, List.getElem_toArray, List.getElem_cons_zero, List.getElem_cons_succ, List.setIfInBounds_toArray, List.set_cons_zero, List.set_cons_succ])
                  refine along_op rfl (by rfl) (by rfl) (fun K hK => ?_)
                  go_simp
                  refine (both_same hx hy HB5.out.drew).mono ?_
                  rw [HSE.out]
                  rintro e w6 ⟨rfl, hb6⟩
                  have hS9 : (fun _ : World => True) w6 := trivial
                  refine hK.out _ _ (fun _ => hS9) ?_
                  clear hK K
                  try simp only [Act.put, List.getElem_toArray, List.getElem_cons_zero, List.getElem_cons_succ, List.setIfInBounds_toArray, List.set_cons_zero, List.set_cons_succ]
                  repeat
                    first
                      | (refine along_off rfl (by rfl) (by rfl) (fun _ _ _ h => h) hS9 ?_; simp only [Act.put, List.getElem_toArray, List.getElem_cons_zero, List.getElem_cons_succ, List.setIfInBounds_toArray, List.set_cons_zero, List.set_cons_succ])
                      | (refine along_read (v := ?_) rfl (by rfl) (by rfl) (fun _ _ _ h => h) hS9 (fun w' hS' => ?_) ?_; rotate_left; (focus ((try dsimp only at hS'); go_simp; try with_reducible rfl)); simp only [Act.put, List.getElem_toArray, List.getElem_cons_zero, List.getElem_cons_succ, List.setIfInBounds_toArray, List.set_cons_zero, List.set_cons_succ])
                      | (refine along_skip rfl (by rfl) (by rfl) hS9 ?_; simp only [Act.put, List.getElem_toArray, List.getElem_cons_zero, List.getElem_cons_succ, List.setIfInBounds_toArray, List.set_cons_zero, List.set_cons_succ])
                  refine along_done ?_
                  go_wp2
                  go_ret
                  exact ⟨rfl, hb6.chg⟩
              · rw [show findv s.all x = -1 from if_neg hxin, decide_eq_false hxin]
                have HSE := Lib.hid (St.same_not (s := s) (x := x) (y := y) (Or.inl hxin))
                have hS8 : (fun _ : World => True) w5.drew := trivial
                refine wp_region_way (fun _ : World => True) [0, 1, 2, 4, 5, 6, 7, 8, 9, 10, 11, 12, 13, 14, 15, 16, 17, 18, 19, 20, 21, 22, 23, 24, 25, 26, 27, 28, 29, 30, 31, 32] (Way.line [0, 1, 2, 4, 5, 3, 6, 7, 8, 9, 10, 11, 12, 13, 14, 15, 16, 17, 18, 19, 20, 21, 22, 23, 24, 25, 26, 27, 28, 29, 30, 31, 32] .done) (by kernel_rfl) (by kernel_rfl) ?_
                simp only [Way.line]
                repeat
                  first
                    | (refine along_off rfl (by rfl) (by rfl) (fun _ _ _ h => h) hS8 ?_; simp only [Act.put, List.getElem_toArray, List.getElem_cons_zero, List.getElem_cons_succ, List.setIfInBounds_toArray, List.set_cons_zero, List.set_cons_succ])
                    | (refine along_read (v := ?_) rfl (by rfl) (by rfl) (fun _ _ _ h => h) hS8 (fun w' hS' => ?_) ?_; rotate_left; (focus ((try dsimp only at hS'); go_simp; try with_reducible rfl)); simp only [Act.put, List.getElem_toArray, List.getElem_cons_zero, List.getElem_cons_succ, List.setIfInBounds_toArray, List.set_cons_zero, List.set_cons_succ])
                    | (refine along_skip rfl (by rfl) (by rfl) hS8 ?_; simp only [Act.put, List.getElem_toArray, List.getElem_cons_zero, List.getElem_cons_succ, List.setIfInBounds_toArray, List.set_cons_zero, List.set_cons_succ])
                refine along_op rfl (by rfl) (by rfl) (fun K hK => ?_)
                go_simp
                refine (both_same hx hy HB5.out.drew).mono ?_
                rw [HSE.out]
                rintro e w6 ⟨rfl, hb6⟩
                have hS9 : (fun _ : World => True) w6 := trivial
                refine hK.out _ _ (fun _ => hS9) ?_
                clear hK K
                try simp only [Act.put, List.getElem_toArray, List.getElem_cons_zero, List.getElem_cons_succ, List.setIfInBounds_toArray, List.set_cons_zero, List.set_cons_succ]
                repeat
                  first
                    | (refine along_off rfl (by rfl) (by rfl) (fun _ _ _ h => h) hS9 ?_; simp only [Act.put, List.getElem_toArray, List.getElem_cons_zero, List.getElem_cons_succ, List.setIfInBounds_toArray, List.set_cons_zero, List.set_cons_succ])
                    | (refine along_read (v := ?_) rfl (by rfl) (by rfl) (fun _ _ _ h => h) hS9 (fun w' hS' => ?_) ?_; rotate_left; (focus ((try dsimp only at hS'); go_simp; try with_reducible rfl)); simp only [Act.put, List.getElem_toArray, List.getElem_cons_zero, List.getElem_cons_succ, List.setIfInBounds_toArray, List.set_cons_zero, List.set_cons_succ])
                    | (refine along_skip rfl (by rfl) (by rfl) hS9 ?_; simp only [Act.put, List.getElem_toArray, List.getElem_cons_zero, List.getElem_cons_succ, List.setIfInBounds_toArray, List.set_cons_zero, List.set_cons_succ])
                refine along_done ?_
                go_wp2
                go_ret
                exact ⟨rfl, hb6.chg⟩

end Go.Proofs.Ytgepchafbeifeaa
