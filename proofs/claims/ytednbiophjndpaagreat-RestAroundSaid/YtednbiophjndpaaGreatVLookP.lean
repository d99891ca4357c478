/- The regions to the left of darts and around lone vertices, plainly. No program here. -/
import Derived.Test.YtednbiophjndpaaGreatVRef1
namespace Go.Proofs.YtednbiophjndpaaGreat.Plain
def marks (f : Face) : List Int := if f.2 = [] then [f.1] else f.2
def places8 (W : List Face) : List (List Int) := W.map marks
def numTo (ll : List (List Int)) (i j : Nat) : Int → Option Int := fun y => if y ∈ seen ll i j then (regionAt ll y).map fun (k : Nat) => (k : Int) else none
theorem numTo_start (ll : List (List Int)) : numTo ll 0 0 = fun _ => none := by funext y; simp [numTo, seen_zero]
theorem numTo_next {ll : List (List Int)} (hn : ll.flatten.Nodup) {i j : Nat} (hi : i < ll.length) (hj : j < (ll.getD i []).length) : (fun y => if y = (ll.getD i []).getD j 0 then some (i : Int) else numTo ll i j y) = numTo ll i (j + 1) := by
 funext y
 unfold numTo
 rw [seen_next hj]
 by_cases e : y = (ll.getD i []).getD j 0
 ·rw [if_pos e, if_pos (by rw [e]; simp), e, regionAt_hit hn hi (getD_mem hj)]; rfl
 rw [if_neg e]
 by_cases h : y ∈ seen ll i j
 ·rw [if_pos h, if_pos (by simp [h])]
 rw [if_neg h, if_neg (fun hm => (List.mem_append.1 hm).elim h fun q => e (List.mem_singleton.1 q))]
theorem numTo_row {ll : List (List Int)} {i : Nat} (hi : i < ll.length) : numTo ll i (ll.getD i []).length = numTo ll (i + 1) 0 := by funext y; unfold numTo; rw [seen_row hi]
theorem numTo_all (ll : List (List Int)) : numTo ll ll.length 0 = fun y => (regionAt ll y).map fun (k : Nat) => (k : Int) := by
 funext y
 unfold numTo
 rw [seen_all]
 by_cases h : y ∈ ll.flatten
 ·rw [if_pos h]
 rw [if_neg h, regionAt_none.2 h]; rfl
def numOf (ll : List (List Int)) (key : Int) : Int := ((regionAt ll key).map fun (k : Nat) => (k : Int)).getD 0
def leftTo (ll : List (List Int)) (W : List Face) (i j : Nat) : Int → Option Int := fun y => if y ∈ seen (places8 W) i j then (regionAt (places8 W) y).map fun (k : Nat) => numOf ll (W.getD k (0, [])).1 else none
def leftOf (ll : List (List Int)) (W : List Face) : Int → Option Int := fun y => (regionAt (places8 W) y).map fun (k : Nat) => numOf ll (W.getD k (0, [])).1
theorem leftTo_start (ll : List (List Int)) (W : List Face) : leftTo ll W 0 0 = fun _ => none := by funext y; simp [leftTo, seen_zero]
theorem leftTo_next {ll : List (List Int)} {W : List Face} (hn : (places8 W).flatten.Nodup) {i j : Nat} (hi : i < (places8 W).length) (hj : j < ((places8 W).getD i []).length) :
  (fun y => if y = ((places8 W).getD i []).getD j 0 then some (numOf ll (W.getD i (0, [])).1) else leftTo ll W i j y) = leftTo ll W i (j + 1) := by
 funext y
 unfold leftTo
 rw [seen_next hj]
 by_cases e : y = ((places8 W).getD i []).getD j 0
 ·rw [if_pos e, if_pos (by rw [e]; simp), e, regionAt_hit hn hi (getD_mem hj)]; rfl
 rw [if_neg e]
 by_cases h : y ∈ seen (places8 W) i j
 ·rw [if_pos h, if_pos (by simp [h])]
 rw [if_neg h, if_neg (fun hm => (List.mem_append.1 hm).elim h fun q => e (List.mem_singleton.1 q))]
theorem leftTo_row {ll : List (List Int)} {W : List Face} {i : Nat} (hi : i < (places8 W).length) : leftTo ll W i ((places8 W).getD i []).length = leftTo ll W (i + 1) 0 := by funext y; unfold leftTo; rw [seen_row hi]
theorem leftTo_all (ll : List (List Int)) (W : List Face) : leftTo ll W (places8 W).length 0 = leftOf ll W := by
 funext y
 unfold leftTo leftOf
 rw [seen_all]
 by_cases h : y ∈ (places8 W).flatten
 ·rw [if_pos h]
 rw [if_neg h, regionAt_none.2 h]; rfl
theorem places8_len (W : List Face) : (places8 W).length = W.length := by simp [places8]
theorem places8_getD {W : List Face} {i : Nat} (hi : i < W.length) : (places8 W).getD i [] = marks (W.getD i (0, [])) := by
 unfold places8 List.getD
 rw [List.getElem?_map, List.getElem?_eq_getElem hi]
 rfl
theorem marks_nil {f : Face} (h : f.2 = []) : marks f = [f.1] := if_pos h
theorem marks_some {f : Face} (h : f.2 ≠ []) : marks f = f.2 := if_neg h
theorem mem_marks {g : Gr} {p : Pt} {turn : List (List Int)} {W : List Face} (hpe : p.err g = 0) (hW : WalksOk g p turn W) {f : Face} (hf : f ∈ W) {y : Int} (hy : y ∈ marks f) : (y < 0 ∧ f.2 = [] ∧ f.1 = y) ∨ (0 ≤ y ∧ y ∈ p.darts ∧ y ∈ f.2) := by
 rcases face_cases hpe hW hf with ⟨h1, h2, h3, -⟩ | ⟨d, l, h1, h2, h3, -⟩
 ·rw [marks_nil h1] at hy
  simp at hy
  exact Or.inl ⟨by omega, h1, hy.symm⟩
 rw [marks_some (by rw [h2]; simp)] at hy
 right
 obtain ⟨F, e, hT⟩ := hW.split
 have hm : f ∈ F := by
  rw [e] at hf
  rcases List.mem_append.1 hf with q | q
  ·obtain ⟨v, -, rfl⟩ := List.mem_map.1 q
   cases h2
  exact q
 have hyd := hT.sub y (List.mem_flatten.2 ⟨f.2, List.mem_map.2 ⟨f, hm, rfl⟩, hy⟩)
 have := Pt.edge_in hpe (mem_darts.1 hyd)
 exact ⟨by omega, hyd, hy⟩
theorem places_nodup {g : Gr} {p : Pt} {turn : List (List Int)} {W : List Face} (hpe : p.err g = 0) (hW : WalksOk g p turn W) : (places8 W).flatten.Nodup := by
 have hk := walks_keys hpe hW
 rw [nodup_flat]
 obtain ⟨F, e, hT⟩ := hW.split
 have hFn := nodup_flat.1 hT.rings.nodup
 refine ⟨fun l hl => ?_, ?_⟩
 ·obtain ⟨f, hf, rfl⟩ := List.mem_map.1 hl
  by_cases h : f.2 = []
  ·rw [marks_nil h]; simp
  rw [marks_some h]
  rw [e] at hf
  rcases List.mem_append.1 hf with q | q
  ·obtain ⟨v, -, rfl⟩ := List.mem_map.1 q
   exact absurd rfl h
  exact hFn.1 _ (List.mem_map.2 ⟨f, q, rfl⟩)
 unfold places8
 rw [List.pairwise_map]
 rw [List.pairwise_map] at hk
 refine hk.imp_of_mem ?_
 intro a b ha hb hab x hx y hy exy
 subst exy
 rcases mem_marks hpe hW ha hx with ⟨h1, -, h2⟩ | ⟨h1, -, h2⟩
 ·rcases mem_marks hpe hW hb hy with ⟨-, -, k2⟩ | ⟨k1, -, -⟩
  ·omega
  omega
 rcases mem_marks hpe hW hb hy with ⟨k1, -, -⟩ | ⟨-, -, k2⟩
 ·omega
 have hma : a ∈ F := by
  rw [e] at ha
  rcases List.mem_append.1 ha with q | q
  ·obtain ⟨v, -, rfl⟩ := List.mem_map.1 q; simp at h2
  exact q
 have hmb : b ∈ F := by
  rw [e] at hb
  rcases List.mem_append.1 hb with q | q
  ·obtain ⟨v, -, rfl⟩ := List.mem_map.1 q; simp at k2
  exact q
 have := one_list hT.rings.nodup (List.mem_map.2 ⟨a, hma, rfl⟩) (List.mem_map.2 ⟨b, hmb, rfl⟩) h2 k2
 obtain ⟨la, ea⟩ := hT.key a hma
 obtain ⟨lb, eb⟩ := hT.key b hmb
 rw [ea, eb] at this
 have : a.1 = b.1 := by simpa using (List.cons.inj this).1
 omega
theorem numOf_small (ll : List (List Int)) (key : Int) : 0 ≤ numOf ll key ∧ numOf ll key ≤ ll.length := by
 unfold numOf
 cases h : regionAt ll key with
 | none => simp
 | some k =>
  have := (regionAt_lt h).1
  simp
  omega
theorem face_len {g : Gr} {p : Pt} {turn : List (List Int)} {W : List Face} (_hpe : p.err g = 0) (hW : WalksOk g p turn W) {f : Face} (hf : f ∈ W) : f.2.length ≤ 2 * p.e.length := by
 obtain ⟨F, e, hT⟩ := hW.split
 rw [e] at hf
 rcases List.mem_append.1 hf with q | q
 ·obtain ⟨v, -, rfl⟩ := List.mem_map.1 q
  simp
 have hn := (nodup_flat.1 hT.rings.nodup).1 _ (List.mem_map.2 ⟨f, q, rfl⟩)
 have := len_le_of_sub hn (m := p.darts) fun y hy => hT.sub y (List.mem_flatten.2 ⟨f.2, List.mem_map.2 ⟨f, q, rfl⟩, hy⟩)
 rwa [darts_length] at this
end Go.Proofs.YtednbiophjndpaaGreat.Plain
namespace Go.Proofs.YtednbiophjndpaaGreat
open Go.RowKit Go.Maps
set_option maxRecDepth 100000 in
set_option maxHeartbeats 8000000 in
theorem lookR_any (vg vp vx : Value) (g : Plain.Gr) (p : Plain.Pt) (turn same : List (List Int)) (w : World) (hpl : p.e.length ≤ 10000) (hpv : p.v.length ≤ 10000) (hTL : turn.length < 2147483648) (hS : Plain.sumLen turn turn.length < 2147483648) (hsl : same.length ≤ 10000) (hsr : ∀ i, (same.getD i []).length ≤ 10000) (hg : GrAt w vg g) (hp : PtAt w vp p) (hx : PlAt w vx turn same) :
  Calls Tryz.prog 67 #[vg, vp, vx] w fun e w' => ∃ mv, e = .returned (.tuple #[mv, .int .i64 (Plain.planErr g p turn same)]) ∧ (Plain.planErr g p turn same ≠ 0 → mv = .map none) ∧
   (Plain.planErr g p turn same = 0 → ∃ lb, mv = .map (some lb) ∧ w.heap.size ≤ lb ∧ IMap w' lb 1000000000000 (Plain.leftOf (Plain.regionsOf g p turn same) (Plain.walksOf g p turn)) ∧ (Plain.regionsOf g p turn same).length ≤ 30000) ∧ Chg [] w w' := by
 have HS1 := Lib.hid hS
 have HSR := Lib.hid hsr
 clear hS hsr
 have HG := Lib.hid hg
 have HP := Lib.hid hp
 have HX := Lib.hid hx
 obtain ⟨eo, cap, rfl, hn, hm, hsm, hcell⟩ := hg
 obtain ⟨v1, v2, rfl, hv, he⟩ := hp
 obtain ⟨ao, ac, rfl, has, ham, hacell⟩ := hv
 obtain ⟨bo, bc, rfl, hbs, hbm, hbcell⟩ := he
 have HAC := Lib.hid hacell
 have HBC := Lib.hid hbcell
 obtain ⟨t1, t2, rfl, ht, hs⟩ := hx
 have HT := Lib.hid ht
 have HS := Lib.hid hs
 obtain ⟨tno, tc, rfl, htm, -⟩ := ht
 obtain ⟨so, sc, rfl, hsm2, hsc⟩ := hs
 obtain ⟨-, -, hc1⟩ := box_two w #[.int .i64 g.n, .slice eo g.e.length cap] #[.slice ao p.v.length ac, .slice bo p.e.length bc] 24 27
 obtain ⟨-, hc3⟩ := box_three w #[.int .i64 g.n, .slice eo g.e.length cap] #[.slice ao p.v.length ac, .slice bo p.e.length bc] #[.slice tno turn.length tc, .slice so same.length sc] 24 27 30
 have HC1 := Lib.hid (hc1.trans hc3 (by simp))
 have HBXS := Lib.hid (fun w2 h => three_boxes w (g := g) (p := p) (turn := turn) (same := same) (eo := eo) (ao := ao) (bo := bo) (tno := tno) (so := so) (cap := cap) (ac := ac) (bc := bc) (tc := tc) (sc := sc) (w2 := w2) h)
 clear hcell hacell hbcell hsm hbs has hn hc1 hc3 hsc
 obtain ⟨x0, x1, y0, y1, z0, z1, hsz⟩ := HBXS.out _ (Chg.refl _ _)
 go_enter Tryz.func67, Tryz.ntmps67
 go_wp2_with fail
 refine (regions_any _ _ _ g p turn same _ (by omega) (by omega) hTL HS1.out hsl HSR.out (HG.out.fresh HC1.out) (HP.out.fresh HC1.out) (HX.out.fresh HC1.out)).mono ?_
 rintro e w2 ⟨ov, rfl, herr, hres, hc2⟩
 obtain ⟨w1, hw1⟩ : ∃ w1, (((w.alloc (.cells #[.int .i64 g.n, .slice eo g.e.length cap] 24)).alloc (.cells #[.slice ao p.v.length ac, .slice bo p.e.length bc] 27)).alloc (.cells #[.slice tno turn.length tc, .slice so same.length sc] 30)) = w1 := ⟨_, rfl⟩
 rw [hw1] at HC1 HBXS hc2
 clear hw1
 have HC2 := Lib.hid hc2
 have HW2 := Lib.hid (HC1.out.trans HC2.out (by simp))
 have HBX := Lib.hid (fun wx (hx : Chg [] w2 wx) => HBXS.out wx (HC2.out.trans hx (by simp)))
 clear x0 x1 y0 y1 z0 z1 hsz hc2
 by_cases hz : Plain.planErr g p turn same = 0
 ·obtain ⟨vs, ll, h1, h2, h3, h4⟩ := hres hz
  have hpt := Plain.parted hz h4
  have hreg : Plain.IsRegs g p turn same ll := ⟨h2, h3⟩
  have hsm := Plain.regs_small hpt hreg
  have hwl := h4.len
  have HRD := Lib.hid (h1.read fun l hl => ⟨fun x hx => ((hsm l hl).1 x hx).1, by have := (hsm l hl).2; omega⟩)
  have hflat := (h2.flatten).trans hpt.all
  have HND := Lib.hid (show ll.flatten.Nodup from hflat.nodup_iff.2 hpt.keysNodup)
  have HPN := Lib.hid (Plain.places_nodup hpt.part hpt.walks)
  have HLS := Lib.hid (fun l hl x hx => ((hsm l hl).1 x hx).1)
  have HLL := Lib.hid (fun l hl => Nat.le_trans (hsm l hl).2 (show (Plain.walksOf g p turn).length ≤ 30000 by omega))
  have hlln : ll.length ≤ 30000 := by
   have h5 : ∀ {s : List (List Int)}, (∀ l ∈ s, l ≠ []) → s.length ≤ s.flatten.length := by
    intro s
    induction s with
    | nil => simp
    | cons a s ih =>
     intro hs
     have := ih fun l hl => hs l (by simp [hl])
     have := List.length_pos_iff.2 (hs a (by simp))
     rw [List.flatten_cons, List.length_append, List.length_cons]
     omega
   have h6 := h5 fun l hl => hpt.ne l (h2.mem_iff.1 hl)
   have h7 := hflat.length_eq
   rw [List.length_map] at h7
   omega
  have HLE := Lib.hid (show ll = Plain.regionsOf g p turn same from hreg.eq hpt)
  have HTE := Lib.hid (show Plain.turnErr g p turn = 0 from Plain.turnErr_ok hpt.part hpt.turns)
  have HPE := Lib.hid hpt.part
  have HWK := Lib.hid hpt.walks
  have HPZ := Lib.hid hz
  have HN0 := Lib.hid (Plain.numTo_start ll)
  have HNA := Lib.hid (Plain.numTo_all ll)
  have hvl : vs.length = ll.length := h1.len
  obtain ⟨oo, oc, rfl⟩ := owns_shape h1.out
  rw [hz]
  rw [hvl] at HRD ⊢
  clear hres herr h1 h2 h3 h4 hz hpt hreg hsm hflat hvl
  have hmm := @run_makeMap Tryz.prog
  go_wp2
  clear hmm
  have HM0 := Lib.hid (IMap.made w2)
  have HC4 := Lib.hid ((Chg.refl [] w2).alloc (.map #[] 0))
  obtain ⟨nb, hnb⟩ : ∃ nb, w2.heap.size = nb := ⟨_, rfl⟩
  rw [hnb] at HM0 ⊢
  have HNB := Lib.hid (show w2.heap.size ≤ nb by omega)
  clear hnb
  generalize w2.alloc (.map #[] 0) = w4 at *
  go_loopw [35] (fun c wr => ∃ i : Nat, i ≤ ll.length ∧ c = .int .i64 i ∧ IMap wr nb (i * 1000000) (Plain.numTo ll i 0) ∧ Chg [] w2 wr) (fun c _ => ll.length - (intOf c).toNat)
  case atStart => exact ⟨0, Nat.zero_le _, rfl, by rw [Nat.zero_mul, HN0.out]; exact HM0.out, HC4.out⟩
  case round =>
   obtain ⟨i, hi, rfl, hm, hc⟩ := hrel
   have HM := Lib.hid hm
   have HC := Lib.hid hc
   clear hm hc
   by_cases hil : i < ll.length
   ·obtain ⟨tb, toff, uo, uc, rfl, tcell, hrow⟩ := (HRD.out.fresh HC.out).row hil
    have hmm : ll.getD i [] ∈ ll := by simp [List.getD, hil]
    have HNX := Lib.hid (fun j hj => Plain.numTo_next (j := j) HND.out hil hj)
    have HNR := Lib.hid (Plain.numTo_row hil)
    have HLS2 := Lib.hid (HLS.out _ hmm)
    have hll2 := HLL.out _ hmm
    obtain ⟨T, hT⟩ : ∃ T, ll.getD i [] = T := ⟨_, rfl⟩
    rw [hT] at tcell hrow HNX HNR HLS2 hll2
    have HROW := Lib.hid hrow
    have II : I64 (i : Int) := I64.mk (by omega) (by omega)
    clear hrow hmm hT
    go_wp2
    clear tcell
    go_loopw [42] (fun c wi => ∃ j : Nat, j ≤ T.length ∧ c = .int .i64 j ∧ IMap wi nb (i * 1000000 + j) (Plain.numTo ll i j) ∧ Chg [nb] wr wi) (fun c _ => T.length - (intOf c).toNat)
    case atStart => exact ⟨0, Nat.zero_le _, rfl, HM.out.mono (by omega), Chg.refl _ _⟩
    case round =>
     rename World => wi
     obtain ⟨j, hj, rfl, hm, hc⟩ := hrel
     have HMJ := Lib.hid hm
     have HCJ := Lib.hid hc
     have HC2J := Lib.hid (HC.out.trans hc (fun j hj => Or.inr (by simp at hj; have := HNB.out; omega)))
     clear hm
     by_cases hjl : j < T.length
     ·obtain ⟨rb, roff, rfl, rc⟩ := IntsAt.cellAt HROW.out hjl
      have hne : rb ≠ nb := fun e => HM.out.cell_ne rc e
      have rcell := hc.cell rc (by simpa using hne)
      have IY := HLS2.out (T.getD j 0) (Plain.getD_mem hjl)
      have HNJ := Lib.hid (HNX.out j hjl)
      obtain ⟨y, hy⟩ : ∃ y, T.getD j 0 = y := ⟨_, rfl⟩
      rw [hy] at rcell IY HNJ
      have hmx : i * 1000000 + j < maxLen := by unfold maxLen; omega
      clear rc hne hc hy
      go_wp2_with (at_mapUpdate; refine wp_store _ rfl _ _ _ rfl HMJ.out hmx rfl IY II rfl rfl ?_; intro w6 m6 g6; have M6 := Lib.hid m6; have G6 := Lib.hid g6; clear m6 g6)
      go_roundw
      case rel => exact ⟨j + 1, by omega, by go_num, by have := M6.out; rw [HNJ.out] at this; exact this.mono (by omega), HCJ.out.grown G6.out (fun j hj => by cases hj; exact Or.inl (by simp))⟩
      case measure => simp [intOf]; omega
     have e : j = T.length := by omega
     subst e
     clear hc
     go_wp2
     go_roundw
     case rel => exact ⟨i + 1, by omega, by go_num, by rw [← HNR.out]; exact HMJ.out.mono (by omega), HC2J.out⟩
     case measure => simp [intOf]; omega
   have e : i = ll.length := by omega
   subst e
   rw [HNA.out] at HM
   generalize wr = wz at *
   obtain ⟨x0, x1, y0, y1, z0, z1, hsz⟩ := HBX.out wz HC.out
   have x0n := fun o => cellNew x0 o
   have x1n := fun o => cellNew x1 o
   have y0n := fun o => cellNew y0 o
   have y1n := fun o => cellNew y1 o
   have z0n := fun o => cellNew z0 o
   have hmm := @run_makeMap Tryz.prog
   have HWZ := Lib.hid (HW2.out.trans HC.out (by simp))
   have hcn := (Chg.refl [] wz).alloc (.map #[] 0)
   have HCN := Lib.hid hcn
   have HL0 := Lib.hid (IMap.made wz)
   have HMA := Lib.hid (HM.out.chg hcn (by simp))
   have HLB := Lib.hid (show w.heap.size ≤ wz.heap.size from HWZ.out.size)
   have HNLT := Lib.hid (show nb < wz.heap.size from HM.out.lt)
   clear x0 x1 y0 y1 z0 z1 hsz hcn
   go_wp2_with fail
   clear hmm x0n x1n y0n y1n z0n
   generalize hw9 : wz.alloc (.map #[] 0) = w9 at *
   obtain ⟨lb, hlb⟩ : ∃ lb, wz.heap.size = lb := ⟨_, rfl⟩
   rw [hlb] at HL0 HLB HNLT ⊢
   have HLBE := Lib.hid hlb
   have HW9 := Lib.hid (HWZ.out.trans HCN.out (by simp))
   clear hw9 hlb
   refine (walks_any _ _ _ g p turn _ (by omega) (by omega) hTL HS1.out (HG.out.fresh HW9.out) (HP.out.fresh HW9.out) (HT.out.fresh HW9.out)).mono ?_
   rintro e w5 ⟨ovw, rfl, -, hw2, hc5⟩
   obtain ⟨W0, xw, hwk, hnw⟩ := hw2 HTE.out
   have hwe := hwk.eq HPE.out
   subst hwe
   obtain ⟨wo, wcap, rfl⟩ := hnw.shape
   have HNW := Lib.hid hnw
   have HM5 := Lib.hid (HMA.out.chg hc5 (by simp))
   have HL5 := Lib.hid (HL0.out.chg hc5 (by simp))
   have HW5 := Lib.hid (HW9.out.trans hc5 (by simp))
   have HLF0 := Lib.hid (Plain.leftTo_start ll (Plain.walksOf g p turn))
   have HLFA := Lib.hid (Plain.leftTo_all ll (Plain.walksOf g p turn))
   have HPL := Lib.hid (Plain.places8_len (Plain.walksOf g p turn))
   have HFL := Lib.hid (fun f hf => Plain.face_len (f := f) HPE.out HWK.out hf)
   have HFC := Lib.hid (fun f hf => Plain.face_cases (g := g) (f := f) HPE.out HWK.out hf)
   have HLZ := Lib.hid (show wz.heap.size ≤ lb by have := HLBE.out; omega)
   rw [HTE.out]
   obtain ⟨W, hW⟩ : ∃ W, Plain.walksOf g p turn = W := ⟨_, rfl⟩
   have HWE := Lib.hid hW
   rw [hW] at hwl HNW HPN HLF0 HLFA HPL HFC HFL ⊢
   clear hnw hw2 hwk hc5 hW
   go_wp2
   go_loopw [62] (fun c wr => ∃ i : Nat, i ≤ W.length ∧ c = .int .i64 i ∧ IMap wr nb (ll.length * 1000000) (fun y => (Plain.regionAt ll y).map fun (k : Nat) => (k : Int)) ∧ IMap wr lb (i * 1000000) (Plain.leftTo ll W i 0) ∧ Chg [lb] w5 wr) (fun c _ => W.length - (intOf c).toNat)
   case atStart => exact ⟨0, Nat.zero_le _, rfl, HM5.out, by rw [Nat.zero_mul, HLF0.out]; exact HL5.out, Chg.refl _ _⟩
   case round =>
    obtain ⟨i, hi, rfl, hmn, hml, hc⟩ := hrel
    have HMN := Lib.hid hmn
    have HML := Lib.hid hml
    have HC := Lib.hid hc
    clear hmn hml hc
    by_cases hil : i < W.length
    ·obtain ⟨wg, wcc, fa, fc, ewo, u0, u1, ur⟩ := nest_face HNW.out rfl hil
     simp only [Value.slice.injEq] at ewo
     obtain ⟨rfl, -, rfl⟩ := ewo
     have hng : wg ≠ lb := fun e => HL5.out.cell_ne u0 e
     have f0 := HC.out.cell u0 (by simpa using hng)
     have f1 := HC.out.cell u1 (by simpa using hng)
     have hfm : W.getD i (0, []) ∈ W := by simp [List.getD, hil]
     have hfc := HFC.out _ hfm
     have hpi : i < (Plain.places8 W).length := by rw [HPL.out]; exact hil
     have hpg := Plain.places8_getD hil
     have HLX := Lib.hid (fun j hj => Plain.leftTo_next (ll := ll) (W := W) (j := j) HPN.out hpi hj)
     have HLR := Lib.hid (Plain.leftTo_row (ll := ll) (W := W) hpi)
     rw [hpg] at HLX HLR
     have UR := Lib.hid ur.ints
     obtain ⟨f, hf⟩ : ∃ f, W.getD i (0, []) = f := ⟨_, rfl⟩
     rw [hf] at f0 f1 hfc HLX HLR UR
     have hIK : I64 f.1 := by rcases hfc with ⟨-, h2, h3, -⟩ | ⟨d, l, h1, -, -, -, h4, -⟩ <;> exact I64.mk (by omega) (by omega)
     have HIK := Lib.hid hIK
     have HNM := Lib.hid (Plain.numOf_small ll f.1)
     obtain ⟨num, hnum⟩ : ∃ num, Plain.numOf ll f.1 = num := ⟨_, rfl⟩
     have HFN : Hid (((fun y => (Plain.regionAt ll y).map fun (k : Nat) => (k : Int)) f.1).getD 0 = num) := Lib.hid hnum
     rw [hnum] at HLX HNM
     have IV : I64 num := I64.mk (by have := HNM.out; omega) (by have := HNM.out; omega)
     have hfl : f.2.length ≤ 1000000 - 1 := by
      rw [← hf]
      have h1 := HFL.out _ hfm
      omega
     clear u0 u1 ur hng hfm hpi hpg hnum hIK
     go_wp2
     clear f0 f1
     have hbx := (Chg.refl [] wr).alloc (.cells #[.int .i64 f.1, .slice fa f.2.length fc] 84)
     have hnew := heap_alloc_new wr (.cells #[.int .i64 f.1, .slice fa f.2.length fc] 84)
     have B0 := Lib.hid ((cell_of_row _ _ 0 _ _ _ hnew).trans (show _ = some (Value.int .i64 f.1) from rfl))
     have B1 := Lib.hid ((cell_of_row _ _ 1 _ _ _ hnew).trans (show _ = some (Value.slice fa f.2.length fc) from rfl))
     have b1 := B1.out
     have HCQ := Lib.hid (HC.out.trans hbx (by simp))
     have HMNQ := Lib.hid (HMN.out.chg hbx (by simp))
     have HMLQ := Lib.hid (HML.out.chg hbx (by simp))
     have HWB := Lib.hid (show lb < wr.heap.size from HML.out.lt)
     obtain ⟨wb, hwb⟩ : ∃ wb, wr.heap.size = wb := ⟨_, rfl⟩
     rw [hwb] at B0 B1 b1 HWB ⊢
     generalize (wr.alloc (.cells #[.int .i64 f.1, .slice fa f.2.length fc] 84)) = wq at *
     clear hbx hnew hwb
     go_wp2
     clear b1
     go_loopw [69] (fun c wi => ∃ j : Nat, j ≤ f.2.length ∧ c = .int .i64 j ∧ IMap wi nb (ll.length * 1000000) (fun y => (Plain.regionAt ll y).map fun (k : Nat) => (k : Int)) ∧ IMap wi lb (i * 1000000 + j) (Plain.leftTo ll W i j) ∧ Chg [lb] wq wi) (fun c _ => f.2.length - (intOf c).toNat)
     case atStart => exact ⟨0, Nat.zero_le _, rfl, HMNQ.out, HMLQ.out.mono (by omega), Chg.refl _ _⟩
     case round =>
      rename World => wi
      obtain ⟨j, hj, rfl, hmn, hml, hc⟩ := hrel
      have HMNJ := Lib.hid hmn
      have HMLJ := Lib.hid hml
      have HCJ := Lib.hid hc
      have HC5J := Lib.hid (HCQ.out.trans hc (fun j hj => Or.inl hj))
      have hwbl : wb ∉ [lb] := by have := HWB.out; simp; omega
      have b0 := hc.cell B0.out hwbl
      have b1 := hc.cell B1.out hwbl
      clear hmn hml hc
      by_cases hjl : j < f.2.length
      ·obtain ⟨rb, roff, rfl, rc⟩ := IntsAt.cellAt UR.out hjl
       have hne : rb ≠ lb := fun e => HL5.out.cell_ne rc e
       have rcell := HC5J.out.cell rc (by simpa using hne)
       have IY : I64 (f.2.getD j 0) := by obtain ⟨_, _, -, h, -, -⟩ := UR.out; exact h _ (Plain.getD_mem hjl)
       have hms : Plain.marks f = f.2 := Plain.marks_some (by intro e; rw [e] at hjl; simp at hjl)
       have HLJ := Lib.hid (HLX.out j (by rw [hms]; exact hjl))
       rw [hms] at HLJ
       obtain ⟨y, hy⟩ : ∃ y, f.2.getD j 0 = y := ⟨_, rfl⟩
       rw [hy] at rcell IY HLJ
       have hmx : i * 1000000 + j < maxLen := by unfold maxLen; omega
       have hnl : nb ∉ [lb] := by have := HNLT.out; simp; omega
       have HNL := Lib.hid hnl
       clear rc hne hy hms hnl b1
       go_wp2_with (first
        | (at_lookup; refine wp_look _ rfl _ _ rfl HMNJ.out rfl HIK.out rfl HFN ?_)
        | (at_mapUpdate; refine wp_store _ rfl _ _ _ rfl HMLJ.out hmx rfl IY IV rfl rfl ?_; intro w6 m6 g6; have M6 := Lib.hid m6; have G6 := Lib.hid g6; clear m6 g6))
       go_roundw
       case rel =>
        have hg := (Chg.refl [lb] wi).grown G6.out (fun j hj => by cases hj; exact Or.inl (by simp))
        exact ⟨j + 1, by omega, by go_num, HMNJ.out.chg hg HNL.out, by have := M6.out; rw [HLJ.out] at this; exact this.mono (by omega), HCJ.out.trans hg (fun j hj => Or.inl hj)⟩
       case measure => simp [intOf]; omega
      have e : j = f.2.length := by omega
      subst e
      by_cases hl0 : f.2 = []
      ·have hms : Plain.marks f = [f.1] := Plain.marks_nil hl0
       have HLJ := Lib.hid (HLX.out 0 (by rw [hms]; simp))
       rw [hms] at HLJ HLR
       have hz0 : f.2.length = 0 := by rw [hl0]; rfl
       rw [hz0] at HMLJ b1 ⊢
       have hmx : i * 1000000 + 0 < maxLen := by unfold maxLen; omega
       have HNL := Lib.hid (show nb ∉ [lb] by have := HNLT.out; simp; omega)
       clear hms hl0 hjl hj
       go_wp2_with (first
        | (at_lookup; refine wp_look _ rfl _ _ rfl HMNJ.out rfl HIK.out rfl HFN ?_)
        | (at_mapUpdate; refine wp_store _ rfl _ _ _ rfl HMLJ.out hmx rfl HIK.out IV rfl rfl ?_; intro w6 m6 g6; have M6 := Lib.hid m6; have G6 := Lib.hid g6; clear m6 g6))
       go_roundw
       case rel =>
        have hg := (Chg.refl [lb] wi).grown G6.out (fun j hj => by cases hj; exact Or.inl (by simp))
        exact ⟨i + 1, by omega, by go_num, HMNJ.out.chg hg HNL.out, by have := M6.out; rw [show ([f.1] : List Int).getD 0 0 = f.1 from rfl] at HLJ; rw [HLJ.out] at this; rw [← HLR.out]; exact this.mono (by omega), HC5J.out.trans hg (fun j hj => Or.inl hj)⟩
       case measure => simp [intOf]; omega
      have hms : Plain.marks f = f.2 := Plain.marks_some hl0
      rw [hms] at HLR
      have bl : ((f.2.length : Int) == 0) = false := by
       rw [beq_eq_false_iff_ne]
       have := List.length_pos_iff.2 hl0
       omega
      clear hms hl0
      go_wp2
      go_roundw
      case rel => exact ⟨i + 1, by omega, by go_num, HMNJ.out, by rw [← HLR.out]; exact HMLJ.out.mono (by omega), HC5J.out⟩
      case measure => simp [intOf]; omega
    have e : i = W.length := by omega
    subst e
    rw [← HPL.out, HLFA.out] at HML
    have HMF := Lib.hid (HML.out.mono (show (Plain.places8 W).length * 1000000 ≤ 1000000000000 by rw [HPL.out]; omega))
    have HCF := Lib.hid (HW5.out.trans HC.out (fun j hj => Or.inr (by simp at hj; have := HLB.out; omega)))
    go_wp2
    exact bodyPost_ret (v := .tuple #[.map (some lb), .int .i64 0]) (by simp [results, Tryz.results67, go_sem]) rfl ⟨_, by rw [HPZ.out], fun h => absurd HPZ.out h, fun _ => ⟨lb, rfl, HLB.out, by rw [HWE.out, ← HLE.out]; exact HMF.out, by rw [← HLE.out]; exact hlln⟩, HCF.out⟩
 have hov := herr hz
 subst hov
 have hzb : ((Plain.planErr g p turn same) != 0) = true := by simp [hz]
 clear hres herr
 obtain ⟨er, her⟩ : ∃ er, Plain.planErr g p turn same = er := ⟨_, rfl⟩
 have HER := Lib.hid her
 rw [her] at hzb hz ⊢
 have HNZ := Lib.hid hz
 clear hz her
 go_wp2
 exact bodyPost_ret (v := .tuple #[.map none, .int .i64 er]) (by simp [results, Tryz.results67, go_sem]) rfl ⟨_, by rw [HER.out], fun _ => rfl, fun h => absurd (HER.out.symm.trans h) HNZ.out, HW2.out⟩
end Go.Proofs.YtednbiophjndpaaGreat
