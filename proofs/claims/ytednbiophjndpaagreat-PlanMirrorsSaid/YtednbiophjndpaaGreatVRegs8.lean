/- ref08.Regions: its contract: the regions of a drawing. Conditions: a drawing that lies in memory and reads so, of a bounded size. -/
import Derived.Test.YtednbiophjndpaaGreatVRef1
namespace Go.Proofs.YtednbiophjndpaaGreat
open Go.RowKit Go.Maps
namespace Plain
def regStep (same : List (List Int)) (key : Int) : List (List Int) := match same.find? (fun l => decide (key ∈ l)) with
 | none => [[key]]
 | some l => if l.getD 0 0 = key then [l] else []
def regTo (W : List Face) (same : List (List Int)) (i : Nat) : List (List Int) := (W.take i).flatMap fun f => regStep same f.1
theorem regTo_zero (W : List Face) (same : List (List Int)) : regTo W same 0 = [] := by simp [regTo]
theorem regTo_succ {W : List Face} {same : List (List Int)} {i : Nat} (hi : i < W.length) : regTo W same (i + 1) = regTo W same i ++ regStep same (W.getD i (0, [])).1 := by
 unfold regTo
 rw [take_face hi, List.flatMap_append]
 simp
theorem regStep_len (same : List (List Int)) (key : Int) : (regStep same key).length ≤ 1 := by
 unfold regStep
 split
 ·simp
 split <;> simp
theorem regTo_len (W : List Face) (same : List (List Int)) : ∀ i, (regTo W same i).length ≤ i
 | 0 => by simp [regTo]
 | i + 1 => by
  by_cases h : i < W.length
  ·rw [regTo_succ h, List.length_append]
   have := regTo_len W same i
   have := regStep_len same (W.getD i (0, [])).1
   omega
  unfold regTo
  rw [List.take_of_length_le (by omega)]
  have := regTo_len W same W.length
  unfold regTo at this
  rw [List.take_length] at this
  omega
theorem regStep_head {same : List (List Int)} {key : Int} {l : List Int} (h : l ∈ regStep same key) : l.getD 0 0 = key := by
 unfold regStep at h
 split at h
 ·simp at h; subst h; rfl
 split at h
 ·rename_i q; simp at h; subst h; exact q
 cases h
theorem regs_ref {g : Gr} {p : Pt} {turn same : List (List Int)} (h : Parted g p turn same) : IsRegs g p turn same (regTo (walksOf g p turn) same (walksOf g p turn).length) := by
 have hkeys := walks_keys h.part h.walks
 obtain ⟨W, hW⟩ : ∃ W, walksOf g p turn = W := ⟨_, rfl⟩
 have hk2 := h.keys
 have hall := h.nodupAll
 have hne := h.ne
 unfold allRegs at hall hne
 rw [hW] at hkeys hk2 hall hne ⊢
 have hheads : ∀ i, i ≤ W.length → ((regTo W same i).map fun l => l.getD 0 0).Sublist ((W.take i).map (·.1)) := by
  intro i
  induction i with
  | zero => intro _; simp [regTo]
  | succ i ih =>
   intro hi
   rw [regTo_succ (by omega), take_face (by omega), List.map_append, List.map_append]
   refine (ih (by omega)).append ?_
   have h1 := regStep_len same (W.getD i (0, [])).1
   cases hs : regStep same (W.getD i (0, [])).1 with
   | nil => simp
   | cons a r =>
    rw [hs] at h1
    have : r = [] := by cases r; rfl; simp at h1
    subst this
    have := regStep_head (l := a) (by rw [hs]; simp)
    simp only [List.map_cons, List.map_nil, this]
    exact List.Sublist.refl _
 have hpw : (regTo W same W.length).Pairwise fun a b => a.getD 0 0 < b.getD 0 0 := by
  have h1 := hheads W.length (Nat.le_refl _)
  rw [List.take_length] at h1
  have := hkeys.sublist h1
  rwa [List.pairwise_map] at this
 refine ⟨?_, hpw.imp fun hab => by omega⟩
 have hn1 : (regTo W same W.length).Nodup := hpw.imp fun hab e => by rw [e] at hab; omega
 have hn2 : (allRegs g p turn same).Nodup := by
  unfold allRegs
  rw [hW]
  refine (List.Pairwise.imp_of_mem ?_ (nodup_flat.1 hall).2)
  intro a b ha _ hab e
  subst e
  exact hab _ (head_mem (hne a ha)) _ (head_mem (hne a ha)) rfl
 refine (List.perm_ext_iff_of_nodup hn1 hn2).2 fun l => ?_
 unfold allRegs regTo
 rw [hW, List.take_length, List.mem_flatMap, List.mem_append]
 unfold singles
 rw [List.mem_map]
 constructor
 ·rintro ⟨f, hf, hl⟩
  unfold regStep at hl
  split at hl
  ·rename_i hno
   rw [List.find?_eq_none] at hno
   simp at hl
   subst hl
   refine Or.inr ⟨f, List.mem_filter.2 ⟨hf, decide_eq_true fun hm => ?_⟩, rfl⟩
   obtain ⟨m, hm1, hm2⟩ := List.mem_flatten.1 hm
   exact hno m hm1 (decide_eq_true hm2)
  rename_i m hm
  split at hl
  ·simp at hl; subst hl; exact Or.inl (List.mem_of_find?_eq_some hm)
  cases hl
 rintro (hl | ⟨f, hf, rfl⟩)
 ·have hlne := hne l (List.mem_append.2 (Or.inl hl))
  have hh := head_mem hlne
  obtain ⟨f, hf, hfe⟩ := List.mem_map.1 (hk2 _ (List.mem_flatten.2 ⟨l, hl, hh⟩))
  refine ⟨f, hf, ?_⟩
  have hfe : f.1 = l.getD 0 0 := hfe
  unfold regStep
  cases hm : same.find? fun l => decide (f.1 ∈ l) with
  | none =>
   rw [List.find?_eq_none] at hm
   exact absurd (decide_eq_true (by rw [hfe]; exact hh)) (hm l hl)
  | some m =>
   have h1 : f.1 ∈ m := by have := List.find?_some hm; simpa using this
   have e : m = l := one_list h.nodup (List.mem_of_find?_eq_some hm) hl h1 (by rw [hfe]; exact hh)
   subst e
   show m ∈ if m.getD 0 0 = f.1 then [m] else []
   rw [if_pos hfe.symm]
   simp
 obtain ⟨hf1, hf2⟩ := List.mem_filter.1 hf
 have hf2 := of_decide_eq_true hf2
 refine ⟨f, hf1, ?_⟩
 unfold regStep
 rw [List.find?_eq_none.2 fun m hm => by
  simp only [decide_eq_true_eq]
  exact fun q => hf2 (List.mem_flatten.2 ⟨m, hm, q⟩)]
 simp
def regCur (same : List (List Int)) (key : Int) (k : Nat) : List Int × Bool := match (same.take k).find? (fun l => decide (key ∈ l)) with
 | none => ([key], true)
 | some l => (l, decide (l.getD 0 0 = key))
theorem regCur_zero (same : List (List Int)) (key : Int) : regCur same key 0 = ([key], true) := by simp [regCur]
theorem regCur_out {same : List (List Int)} {key : Int} {k : Nat} (hk : k < same.length) (h : key ∉ same.getD k []) : regCur same key (k + 1) = regCur same key k := by
 have e : same.getD k [] = same[k] := by simp [List.getD, hk]
 rw [e] at h
 unfold regCur
 rw [List.take_succ_eq_append_getElem hk, List.find?_append, List.find?_cons_of_neg (by simpa using h)]
 simp
theorem regCur_in {same : List (List Int)} {key : Int} {k : Nat} (hn : same.flatten.Nodup) (hk : k < same.length) (h : key ∈ same.getD k []) : regCur same key (k + 1) = (same.getD k [], decide ((same.getD k []).getD 0 0 = key)) := by
 have e : same.getD k [] = same[k] := by simp [List.getD, hk]
 rw [e] at h ⊢
 have hno : (same.take k).find? (fun l => decide (key ∈ l)) = none := by
  rw [List.find?_eq_none]
  intro m hm
  simp only [decide_eq_true_eq]
  intro q
  obtain ⟨i, hi, rfl⟩ := List.getElem_of_mem hm
  rw [List.length_take] at hi
  rw [List.getElem_take] at q
  have := List.pairwise_iff_getElem.1 (nodup_flat.1 hn).2 i k (by omega) hk (by omega) key q key h
  exact this rfl
 unfold regCur
 rw [List.take_succ_eq_append_getElem hk, List.find?_append, hno, List.find?_cons_of_pos (by simpa using h)]
 rfl
theorem regCur_all (same : List (List Int)) (key : Int) : regStep same key = if (regCur same key same.length).2 = true then [(regCur same key same.length).1] else [] := by
 unfold regStep regCur
 rw [List.take_length]
 cases same.find? fun l => decide (key ∈ l) with
 | none => rfl
 | some l =>
  by_cases h : l.getD 0 0 = key
  ·simp only [h, if_true, decide_true]
  simp only [h, if_false, decide_false, Bool.false_eq_true]
end Plain
theorem owns_kind2 {w : World} {B : Nat} {e : TypeId} {sz : Nat} {v : Value} {n : Nat} {xs : List Value} (h : w.ownsRow B e sz v n xs) {b : Nat} (hb : v.ownBlock = some b) : ∃ cs, w.heap[b]? = some (.cells cs e (0, 0)) := by
 rcases h.2 with ⟨rfl, _⟩ | ⟨g, c, cur, rfl, _, hg, _⟩
 ·cases hb
 simp only [Value.ownBlock, Option.some.injEq] at hb
 subst hb
 exact ⟨_, hg⟩
def Safe (w : World) (B : Nat) (v : Value) : Prop := ∀ a n c, v = .slice (some a) n c → a.block < B ∨ ∃ cs r, w.heap[a.block]? = some (.cells cs 3 r)
theorem Safe.chg {w w' : World} {B : Nat} {v : Value} {own : List Nat} (h : Safe w B v) (hc : Chg own w w') (ho : ∀ j ∈ own, B ≤ j ∧ ∀ cs t r, w.heap[j]? = some (.cells cs t r) → t ≠ 3) : Safe w' B v := by
 intro a n c e
 rcases h a n c e with q | ⟨cs, r, q⟩
 ·exact Or.inl q
 exact Or.inr ⟨cs, r, hc.heap q fun hm => (ho _ hm).2 _ _ _ q rfl⟩
structure RowsMix (w : World) (B : Nat) (ov : Value) (vs : List Value) (ll : List (List Int)) : Prop where
 out : w.ownsRow B 25 1 ov vs.length vs
 len : vs.length = ll.length
 rows : ∀ k, k < vs.length → IntsAt w (vs.getD k undef) (ll.getD k []) ∧ CapOk (vs.getD k undef) ∧ Safe w B (vs.getD k undef)
theorem RowsMix.nil (w : World) (B : Nat) : RowsMix w B (.slice none 0 0) [] [] := ⟨World.ownsRow_nil _ _ _ _, rfl, by simp⟩
theorem IntsAt.safe {w w' : World} {B : Nat} {v : Value} {l : List Int} {own : List Nat} (h : IntsAt w v l) (hs : Safe w B v) (hc : Chg own w w') (ho : ∀ j ∈ own, B ≤ j ∧ ∀ cs t r, w.heap[j]? = some (.cells cs t r) → t ≠ 3) : IntsAt w' v l :=
 h.chg hc fun b n c e hm => by
  rcases hs b n c e with q | ⟨cs, r, q⟩
  ·have := (ho _ hm).1; omega
  exact (ho _ hm).2 _ _ _ q rfl
theorem RowsMix.fresh {w w' : World} {B : Nat} {ov : Value} {vs : List Value} {ll : List (List Int)} (h : RowsMix w B ov vs ll) (hc : Chg [] w w') : RowsMix w' B ov vs ll :=
 ⟨owns_chg h.out hc (by simp), h.len, fun k hk => by obtain ⟨h1, h2, h3⟩ := h.rows k hk; exact ⟨h1.fresh hc, h2, h3.chg hc (by simp)⟩⟩
theorem RowsMix.read {w : World} {B : Nat} {ov : Value} {vs : List Value} {ll : List (List Int)} (h : RowsMix w B ov vs ll) : RowsAt w ov ll := by
 have hlen := h.len
 rcases h.out.2 with ⟨rfl, h0⟩ | ⟨g, cap, cur, rfl, -, -, hn, hc, -, -⟩
 ·have : ll = [] := List.length_eq_zero_iff.1 (by omega)
  subst this
  exact ⟨none, 0, rfl, by decide, fun i hi => absurd hi (by simp)⟩
 refine ⟨_, cap, by rw [hlen], by unfold maxLen at hc; omega, fun i hi2 => ?_⟩
 have hiv : i < vs.length := by omega
 obtain ⟨h1, h2, -⟩ := h.rows i hiv
 have hcell := h.out.cellAt i (by omega)
 refine ⟨g, 0, vs.getD i undef, rfl, ?_, h2, h1⟩
 rw [Nat.zero_add, hcell]
 simp [List.getD, hiv]
theorem run_mix {w0 w : World} {B : Nat} {ov v : Value} {vs : List Value} {ll : List (List Int)} {l : List Int} (h : RowsMix w0 B ov vs ll) (hB : B ≤ w0.heap.size) (hv : IntsAt w0 v l) (hcp : CapOk v) (hs : Safe w0 B v) (hn : vs.length < 68719476736)
  (hw : w = w0.alloc (.cells #[v] 25) ∨ w = (w0.alloc (.cells #[v] 25)).drew) (ty : TypeId) :
  ∃ g cap w', (Builtin.append_ #[28, 28] ty #[ov, .slice (some ⟨w0.heap.size, 0, none⟩) 1 1]).run Tryz.prog w = .ok (.slice (some ⟨g, 0, none⟩) (vs.length + 1) cap) w' ∧
   RowsMix w' B (.slice (some ⟨g, 0, none⟩) (vs.length + 1) cap) (vs ++ [v]) (ll ++ [l]) ∧ Chg ov.ownBlock.toList w0 w' := by
 obtain ⟨va, vn, vc, rfl, -, -⟩ := id hcp
 obtain ⟨g, cap, w', hr, r2, r3, r4⟩ := run_app elemRow h.out hB (cs := #[.slice va vn vc]) rfl (oneSlice _ _ _) hn hw ty
 have hlen := h.len
 have ho : ∀ j ∈ ov.ownBlock.toList, B ≤ j ∧ ∀ cs t r, w0.heap[j]? = some (.cells cs t r) → t ≠ 3 := by
  intro j hj
  obtain ⟨cs', hh⟩ := owns_kind2 h.out (by simpa using hj)
  refine ⟨(h.out.lt j (by simpa using hj)).1, fun cs t r q => ?_⟩
  rw [hh] at q
  simp at q
  obtain ⟨-, rfl, -⟩ := q
  decide
 refine ⟨g, cap, w', hr, ⟨by simpa using r2, by simp [hlen], fun k hk => ?_⟩, r3⟩
 by_cases e : k < vs.length
 ·rw [getD_left e, getD_left (by omega)]
  obtain ⟨h1, h2, h3⟩ := h.rows k e
  exact ⟨h1.safe h3 r3 ho, h2, h3.chg r3 ho⟩
 have : k = vs.length := by simp at hk; omega
 subst this
 rw [getD_right (by omega), getD_right (by omega), Nat.sub_self, show vs.length - ll.length = 0 by omega]
 exact ⟨hv.safe hs r3 ho, hcp, hs.chg r3 ho⟩
theorem IntsAt.lowSafe {w : World} {B : Nat} {ao : Option Addr} {n c : Nat} {l : List Int} (h : IntsAt w (.slice ao n c) l) (hl : 0 < l.length) (hB : w.heap.size ≤ B) (w' : World) : Safe w' B (.slice ao n c) := by
 obtain ⟨b, off, rfl, hc⟩ := h.cellAt hl
 intro a n' c' e
 simp only [Value.slice.injEq, Option.some.injEq] at e
 obtain ⟨rfl, -, -⟩ := e
 have : b < w.heap.size := World.block_lt_of_cell? w _ hc
 exact Or.inl (by show b < B; omega)
theorem RowAt.safe {w : World} {B B' : Nat} {v : Value} {l : List Int} (h : RowAt w B' v l) : Safe w B v := by
 intro a n c e
 obtain ⟨cs, r, q⟩ := row_kind h a.block (by rw [h.foot, e]; simp [Value.ownBlock])
 exact Or.inr ⟨cs, r, q⟩
set_option maxRecDepth 100000 in
set_option maxHeartbeats 8000000 in
theorem refRegions8_any (vg vp vx : Value) (g : Plain.Gr) (p : Plain.Pt) (turn same : List (List Int)) (w : World) (hpl : p.e.length ≤ 1000) (hpv : p.v.length ≤ 1000) (hrl : ∀ v, (Plain.turnAt turn v).length < 4294967296) (hsl : same.length ≤ 10000) (hz : Plain.planErr g p turn same = 0) (hg : GrAt w vg g) (hp : PtAt w vp p) (hx : PlAt w vx turn same) :
  Calls Tryz.prog 41 #[vg, vp, vx] w fun e w' => ∃ ov, e = .returned ov ∧ RowsAt w' ov (Plain.regionsOf g p turn same) ∧ Chg [] w w' := by
 have hte := (Plain.flatErr_zero (Plain.planErr_zero hz).1).1
 obtain ⟨hpe, hto⟩ := Plain.turnErr_zero hte
 have hW := Plain.walks_ok hpe hto
 have hpt := Plain.parted hz hW
 have HPE := Lib.hid hpe
 have HTO := Lib.hid hto
 have HRL := Lib.hid hrl
 have HND := Lib.hid hpt.nodup
 have HTW := Lib.hid hpt.two
 have hwl := hW.len
 have HREG := Lib.hid ((Plain.regs_ref hpt).eq hpt)
 have HKS := Lib.hid (fun f (hf : f ∈ Plain.walksOf g p turn) => (show I64 f.1 from by have := Plain.key_small hpe hW hf; exact I64.mk (by omega) (by omega)))
 clear hte hpe hto hW hpt hrl hz
 have HG := Lib.hid hg
 have HP := Lib.hid hp
 have HX := Lib.hid hx
 obtain ⟨eo, cap, rfl, hn, hm, hsm, hcell⟩ := hg
 obtain ⟨v1, v2, rfl, hv, he⟩ := hp
 obtain ⟨ao, ac, rfl, has, ham, hacell⟩ := hv
 obtain ⟨bo, bc, rfl, hbs, hbm, hbcell⟩ := he
 have HAC := Lib.hid hacell
 have HBC := Lib.hid hbcell
 obtain ⟨t1, t2, rfl, ht, hs⟩ := hx
 have HT := Lib.hid ht
 have HS := Lib.hid hs
 obtain ⟨tno, tc, rfl, htm, -⟩ := ht
 obtain ⟨so, sc, rfl, hsm2, hsc⟩ := hs
 obtain ⟨-, -, hc1⟩ := box_two w #[.int .i64 g.n, .slice eo g.e.length cap] #[.slice ao p.v.length ac, .slice bo p.e.length bc] 24 27
 obtain ⟨-, hc3⟩ := box_three w #[.int .i64 g.n, .slice eo g.e.length cap] #[.slice ao p.v.length ac, .slice bo p.e.length bc] #[.slice tno turn.length tc, .slice so same.length sc] 24 27 30
 have HC1 := Lib.hid (hc1.trans hc3 (by simp))
 have HBXS := Lib.hid (fun w2 h => three_boxes w (g := g) (p := p) (turn := turn) (same := same) (eo := eo) (ao := ao) (bo := bo) (tno := tno) (so := so) (cap := cap) (ac := ac) (bc := bc) (tc := tc) (sc := sc) (w2 := w2) h)
 clear hcell hacell hbcell hsm hbs has hn hc1 hc3 hsc
 obtain ⟨x0, x1, y0, y1, z0, z1, hsz⟩ := HBXS.out _ (Chg.refl _ _)
 go_enter Tryz.func41, Tryz.ntmps41
 go_wp2_with fail
 refine (refWalks_any _ _ _ g p turn _ (by omega) (by omega) HPE.out HTO.out HRL.out (HG.out.fresh HC1.out) (HP.out.fresh HC1.out) (HT.out.fresh HC1.out)).mono ?_
 rintro e w2 ⟨wv, wx, rfl, hnw, hc2⟩
 obtain ⟨w1, hw1⟩ : ∃ w1, (((w.alloc (.cells #[.int .i64 g.n, .slice eo g.e.length cap] 24)).alloc (.cells #[.slice ao p.v.length ac, .slice bo p.e.length bc] 27)).alloc (.cells #[.slice tno turn.length tc, .slice so same.length sc] 30)) = w1 := ⟨_, rfl⟩
 rw [hw1] at HC1 HBXS hc2 hnw
 clear hw1
 obtain ⟨wo, wc, rfl⟩ := hnw.shape
 have HNW := Lib.hid hnw
 have HC2 := Lib.hid hc2
 have HW2 := Lib.hid (HC1.out.trans HC2.out (by simp))
 have HBX := Lib.hid (fun wx (hx : Chg [] w2 wx) => HBXS.out wx (HC2.out.trans hx (by simp)))
 have HB := Lib.hid (show w.heap.size ≤ w2.heap.size from HW2.out.size)
 clear x0 x1 y0 y1 z0 z1 hsz hc2 hnw
 obtain ⟨W, hWe⟩ : ∃ W, Plain.walksOf g p turn = W := ⟨_, rfl⟩
 have HWE := Lib.hid hWe
 rw [hWe] at hwl HNW HREG HKS ⊢
 clear hWe
 go_wp2
 go_loopw [8, 9] (fun ov c wr => ∃ (i : Nat) (vs : List Value), i ≤ W.length ∧ c = .int .i64 i ∧ RowsMix wr w2.heap.size ov vs (Plain.regTo W same i) ∧ Chg [] w2 wr) (fun _ c _ => W.length - (intOf c).toNat)
 case atStart => exact ⟨0, [], Nat.zero_le _, rfl, by rw [Plain.regTo_zero]; exact RowsMix.nil _ _, Chg.refl _ _⟩
 case round =>
  obtain ⟨i, vs, hi, rfl, hro, hc⟩ := hrel
  have HRO := Lib.hid hro
  obtain ⟨oo, oc, rfl⟩ := owns_shape hro.out
  have hvl : vs.length ≤ i := by rw [hro.len]; exact Plain.regTo_len _ _ _
  have HC := Lib.hid hc
  clear hro hc
  by_cases hil : i < W.length
  ·obtain ⟨wg, wcc, fa, fc, ewo, u0, -, -⟩ := nest_face HNW.out rfl hil
   simp only [Value.slice.injEq] at ewo
   obtain ⟨rfl, -, rfl⟩ := ewo
   have U0 := Lib.hid u0
   have hik := HKS.out (W.getD i (0, [])) (by simp [List.getD, hil])
   have HTS := Lib.hid (Plain.regTo_succ (same := same) hil)
   obtain ⟨key, hkey⟩ : ∃ key, (W.getD i (0, [])).1 = key := ⟨_, rfl⟩
   rw [hkey] at U0 hik HTS
   have f0 := HC.out.cell U0.out (by simp)
   have HLIT := Lib.hid (RowAt.ints (row_lit1 (w := wr) (B := wr.heap.size) (Nat.le_refl _) hik))
   have HLS := Lib.hid (RowAt.safe (B := w2.heap.size) (row_lit1 (w := wr) (B := wr.heap.size) (Nat.le_refl _) hik))
   have HCL := Lib.hid ((Chg.refl [] wr).alloc (.cells #[.int .i64 key] 3))
   have HR0 := Lib.hid (Plain.regCur_zero same key)
   clear u0 hkey
   go_wp2
   clear f0
   obtain ⟨n, hn⟩ : ∃ n, vs.length = n := ⟨_, rfl⟩
   have HN := Lib.hid hn
   rw [hn] at hvl ⊢
   clear hn
   go_loopw [10, 11, 12] (fun lv bv c wi => ∃ k : Nat, k ≤ same.length ∧ c = .int .i64 k ∧ IntsAt wi lv (Plain.regCur same key k).1 ∧ CapOk lv ∧ Safe wi w2.heap.size lv ∧ bv = .bool (Plain.regCur same key k).2 ∧ Chg [] wr wi) (fun _ _ c _ => same.length - (intOf c).toNat)
   case atStart => exact ⟨0, Nat.zero_le _, rfl, by rw [HR0.out]; exact HLIT.out, ⟨_, 1, 1, rfl, by omega, by omega⟩, HLS.out, by rw [HR0.out], HCL.out⟩
   case round =>
    rename World => wi
    obtain ⟨k, hk, rfl, hcur, hcap, hsafe, rfl, hci⟩ := hrel
    have HCUR := Lib.hid hcur
    have HCAP := Lib.hid hcap
    have HSF := Lib.hid hsafe
    have HCI := Lib.hid hci
    have HC2I := Lib.hid (HC.out.trans hci (by simp))
    obtain ⟨lo, lc, rfl, -, -, -⟩ := hcur
    clear hcap hsafe hci
    obtain ⟨x0, x1, y0, y1, z0, z1, hsz⟩ := HBX.out wi HC2I.out
    by_cases hkl : k < same.length
    ·obtain ⟨sb, soff, u, rfl, scell, scap, srow⟩ := (HS.out.fresh (HW2.out.trans HC2I.out (by simp))).rowc hkl
     obtain ⟨sb', soff', u', e2, scell', -, srow'⟩ := HS.out.rowc hkl
     obtain ⟨rfl, rfl⟩ : sb = sb' ∧ soff = soff' := by simpa using e2
     have eu : u' = u := by
      have := (HW2.out.trans HC2I.out (by simp)).cell scell' (by simp)
      rw [scell] at this
      simpa using this.symm
     subst eu
     have HRI := Lib.hid (fun h => Plain.regCur_in (key := key) HND.out hkl h)
     have HRO2 := Lib.hid (fun h => Plain.regCur_out (key := key) hkl h)
     have hlt2 := HTW.out (same.getD k []) (by simp [List.getD, hkl])
     obtain ⟨l, hl⟩ : ∃ l, same.getD k [] = l := ⟨_, rfl⟩
     rw [hl] at srow srow' HRI HRO2 hlt2
     have HSR := Lib.hid srow
     have HSCAP := Lib.hid scap
     obtain ⟨so2, sc2, rfl, -, -, -⟩ := id srow
     have HSS := Lib.hid (fun w' => srow'.lowSafe (B := w2.heap.size) (by omega) HB.out w')
     have f0 := HC2I.out.cell U0.out (by simp)
     clear e2 scell' srow' srow scap hl
     go_wp2
     have hS0 : Chg [] wi wi.drew := (Chg.refl [] wi).drew
     refine wp_region_way (Chg [] wi) [0, 1, 2, 3, 4, 5, 6, 7, 8, 9] (Way.line [0, 1, 2, 3, 4, 5, 6, 7, 8, 9, 10] .done) (by kernel_rfl) (by kernel_rfl) ?_
     simp only [Way.line]
     repeat
      first
       | (refine along_off rfl (by rfl) (by rfl) (fun _ _ _ h => h) hS0 ?_; simp only [Act.put, Z1, Z2, Z3, Z4, Z5, Z6])
       | (refine along_read (v := ?_) rfl (by rfl) (by rfl) (fun _ _ _ h => h) hS0 (fun w' hS' => ?_) ?_; rotate_left; (focus (have rd0 := hS'.cell z1 (by simp); have rd1 := hS'.cell scell (by simp); have rd2 := hS'.cell f0 (by simp); clear hS'; go_simp; try with_reducible rfl)); simp only [Act.put, Z1, Z2, Z3, Z4, Z5, Z6])
       | (refine along_skip rfl (by rfl) (by rfl) hS0 ?_; simp only [Act.put, Z1, Z2, Z3, Z4, Z5, Z6])
     refine along_op rfl (by rfl) (by rfl) (fun K hK => ?_)
     go_simp
     refine (in_any _ l key _ (HSR.out.fresh hS0)).mono ?_
     rintro e w7 ⟨rfl, hcx⟩
     have hS1 := hS0.trans hcx (by simp)
     clear hS0 hcx
     have hS0 := hS1
     clear hS1
     refine hK.out _ _ (fun _ => hS0) ?_
     clear hK K
     try simp only [Act.put, Z1, Z2, Z3, Z4, Z5, Z6]
     refine along_done ?_
     have HC7 := Lib.hid (HCI.out.trans hS0 (by simp))
     have HCUR7 := Lib.hid (HCUR.out.fresh hS0)
     have HSF7 := Lib.hid (HSF.out.chg hS0 (by simp))
     have HSR7 := Lib.hid (HSR.out.fresh hS0)
     have z1 := hS0.cell z1 (by simp)
     have scell := hS0.cell scell (by simp)
     have f0 := hS0.cell f0 (by simp)
     clear hS0 x0 x1 y0 y1 z0 hsz
     by_cases hin : key ∈ l
     ·rw [decide_eq_true hin]
      have HE := Lib.hid (HRI.out hin)
      obtain ⟨lb, loff, rfl, c0⟩ := IntsAt.cellAt HSR7.out (show 0 < l.length by omega)
      rw [Nat.add_zero] at c0
      obtain ⟨h0, hh0⟩ : ∃ h0, l.getD 0 0 = h0 := ⟨_, rfl⟩
      rw [hh0] at c0 HE
      have hl0 : (0 : Int) < (l.length : Int) := by omega
      have hl0n : 0 < l.length := by omega
      clear hin hh0
      go_wp2
      have hS0 : Chg [] w7 w7.drew := (Chg.refl [] w7).drew
      refine wp_region_way (Chg [] w7) [0, 1, 2, 3, 4, 5, 6, 7, 8, 9] (Way.line [0, 1, 2, 3, 4, 5, 6, 7, 8, 9] .done) (by kernel_rfl) (by kernel_rfl) ?_
      simp only [Way.line]
      repeat
       first
        | (refine along_off rfl (by rfl) (by rfl) (fun _ _ _ h => h) hS0 ?_; simp only [Act.put, Z1, Z2, Z3, Z4, Z5, Z6])
        | (refine along_read (v := ?_) rfl (by rfl) (by rfl) (fun _ _ _ h => h) hS0 (fun w' hS' => ?_) ?_; rotate_left; (focus (have rd0 := hS'.cell c0 (by simp); have rd1 := hS'.cell f0 (by simp); clear hS'; go_simp; try with_reducible rfl)); simp only [Act.put, Z1, Z2, Z3, Z4, Z5, Z6])
        | (refine along_skip rfl (by rfl) (by rfl) hS0 ?_; simp only [Act.put, Z1, Z2, Z3, Z4, Z5, Z6])
      refine along_done ?_
      have HC8 := Lib.hid (HC7.out.trans hS0 (by simp))
      have HSR8 := Lib.hid (HSR7.out.fresh hS0)
      have HSS8 := Lib.hid (HSS.out w7.drew)
      clear hS0 c0 f0 z1 scell
      have hbq : (h0 == key) = decide (h0 = key) := rfl
      by_cases q : h0 = key
      ·have b1 : (h0 == key) = true := by rw [beq_iff_eq]; exact q
       have HE2 := Lib.hid (HE.out.trans (by rw [decide_eq_true q]))
       clear q hbq
       go_wp2
       go_roundw
       case rel => exact ⟨k + 1, by omega, by go_num, by rw [HE2.out]; exact HSR8.out, HSCAP.out, HSS8.out, by rw [HE2.out]; exact congrArg Value.bool b1, HC8.out⟩
       case measure => simp [intOf]; omega
      have b1 : (h0 == key) = false := by rw [beq_eq_false_iff_ne]; exact q
      have HE2 := Lib.hid (HE.out.trans (by rw [decide_eq_false q]))
      clear q hbq
      go_wp2
      go_roundw
      case rel => exact ⟨k + 1, by omega, by go_num, by rw [HE2.out]; exact HSR8.out, HSCAP.out, HSS8.out, by rw [HE2.out]; exact congrArg Value.bool b1, HC8.out⟩
      case measure => simp [intOf]; omega
     rw [decide_eq_false hin]
     have HE := Lib.hid (HRO2.out hin)
     clear hin z1 scell f0
     go_wp2
     go_roundw
     case rel => exact ⟨k + 1, by omega, by go_num, by rw [HE.out]; exact HCUR7.out, HCAP.out, HSF7.out, by rw [HE.out], HC7.out⟩
     case measure => simp [intOf]; omega
    have e : k = same.length := by omega
    subst e
    have HST := Lib.hid (Plain.regCur_all same key)
    obtain ⟨⟨cl, cb⟩, hcc⟩ : ∃ cc, Plain.regCur same key same.length = cc := ⟨_, rfl⟩
    rw [hcc] at HCUR HST HCAP HSF ⊢
    have HRO6 := Lib.hid (HRO.out.fresh HCI.out)
    clear hcc
    cases cb with
    | false =>
     have HE := Lib.hid (show Plain.regTo W same (i + 1) = Plain.regTo W same i from by rw [HTS.out, HST.out]; simp)
     go_wp2
     go_roundw
     case rel => exact ⟨i + 1, vs, by omega, by go_num, by rw [HE.out]; rw [HN.out] at HRO6; exact HRO6.out, HC2I.out⟩
     case measure => simp [intOf]; omega
    | true =>
     have HE := Lib.hid (show Plain.regTo W same (i + 1) = Plain.regTo W same i ++ [cl] from by rw [HTS.out, HST.out]; simp)
     obtain ⟨g5, q5, w5, hr5, hro5, hc5⟩ := run_mix HRO6.out HC2I.out.size HCUR.out HCAP.out HSF.out (by have := HN.out; omega) (Or.inl rfl) 28
     rw [HN.out] at hr5 hro5 hc5
     have HRO5 := Lib.hid hro5
     have HC5 := Lib.hid (HC2I.out.trans hc5 (fun j hj => Or.inr (by have := HRO6.out.out.lt j (by rw [HN.out]; simpa using hj); exact this.1)))
     clear hro5 hc5
     go_wp2_with (at_builtin; refine wl_apprun rfl (.tmp 63) (.tmp 65) 28 rfl rfl rfl hr5 ?_)
     go_roundw
     case rel => exact ⟨i + 1, _, by omega, by go_num, by rw [HE.out]; exact HRO5.out, HC5.out⟩
     case measure => simp [intOf]; omega
  have e : i = W.length := by omega
  subst e
  have HRD := Lib.hid HRO.out.read
  rw [HREG.out] at HRD
  have HCF := Lib.hid (HW2.out.trans HC.out (by simp))
  obtain ⟨n, hn⟩ : ∃ n, vs.length = n := ⟨_, rfl⟩
  rw [hn] at HRD ⊢
  clear hn
  go_wp2
  go_ret
  exact ⟨_, rfl, HRD.out, HCF.out⟩
end Go.Proofs.YtednbiophjndpaaGreat
