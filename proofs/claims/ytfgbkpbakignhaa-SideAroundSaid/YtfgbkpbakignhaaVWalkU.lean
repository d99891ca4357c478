/- The walks of turns are determined; the error of turns that are not on spheres. No program here. -/
import Derived.Test.YtfgbkpbakignhaaVTrk
import Derived.Test.YtfgbkpbakignhaaVGenus
namespace Go.Proofs.Ytfgbkpbakignhaa.Plain

theorem darts_pair {p : Pt} (h : p.e.Pairwise (· < ·)) : p.darts.Pairwise (· < ·) := by
  obtain ⟨v, e⟩ := p
  unfold Pt.darts
  dsimp only at h ⊢
  induction e with
  | nil => simp
  | cons a l ih =>
    rw [List.pairwise_cons] at h
    rw [List.flatMap_cons, List.pairwise_append]
    refine ⟨by simp; omega, ih h.2, fun x hx y hy => ?_⟩
    obtain ⟨b, hb, hy⟩ := List.mem_flatMap.1 hy
    have := h.1 b hb
    simp at hx hy
    omega

theorem Trk.least' {g : Gr} {p : Pt} {turn : List (List Int)} {F : List Face} (h : Trk g p turn F p.darts) (hr : p.e.Pairwise (· < ·)) {f : Face} (hf : f ∈ F) {y : Int} (hy : y ∈ f.2) : f.1 ≤ y := by
  obtain ⟨a, b, e, ha⟩ := h.least f hf
  have hd := h.sub y (List.mem_flatten.2 ⟨f.2, List.mem_map.2 ⟨f, hf, rfl⟩, hy⟩)
  have hp := darts_pair hr
  rw [e] at hd hp
  rcases List.mem_append.1 hd with q | q
  · exact absurd q (ha y hy)
  · rcases List.mem_cons.1 q with q | q
    · omega
    · have := (List.pairwise_cons.1 (List.pairwise_append.1 hp).2.1).1 y q
      omega

theorem Trk.keysRise {g : Gr} {p : Pt} {turn : List (List Int)} {F : List Face} (h : Trk g p turn F p.darts) (hr : p.e.Pairwise (· < ·)) : (F.map (·.1)).Pairwise (· < ·) := (darts_pair hr).sublist h.keys

theorem Trk.sub' {g : Gr} {p : Pt} {turn : List (List Int)} {F F' : List Face} (h : Trk g p turn F p.darts) (h' : Trk g p turn F' p.darts) (hr : p.e.Pairwise (· < ·)) {f : Face} (hf : f ∈ F) : f ∈ F' := by
  obtain ⟨l, e⟩ := h.key f hf
  have hd : f.1 ∈ flat F' := h'.cover _ (h.sub _ (List.mem_flatten.2 ⟨f.2, List.mem_map.2 ⟨f, hf, rfl⟩, by rw [e]; simp⟩))
  obtain ⟨c, hc, hdc⟩ := List.mem_flatten.1 hd
  obtain ⟨f', hf', rfl⟩ := List.mem_map.1 hc
  obtain ⟨l', e'⟩ := h'.key f' hf'
  have hr1 := h.rings.ring f.2 (List.mem_map.2 ⟨f, hf, rfl⟩)
  have hr2 := h'.rings.ring f'.2 hc
  obtain ⟨m, hm, hperm⟩ := hr2.from hdc
  have hn1 : (f.1 :: l).Nodup := by
    rw [← e]
    exact (nodup_flat.1 h.rings.nodup).1 _ (List.mem_map.2 ⟨f, hf, rfl⟩)
  have hn2 : f'.2.Nodup := (nodup_flat.1 h'.rings.nodup).1 _ hc
  have hn3 : (f.1 :: m).Nodup := hperm.nodup_iff.2 hn2
  rw [e] at hr1
  have hlm : l = m := Trail.det (x := f.1) hr1 hm (List.nodup_cons.1 hn1).1 (List.nodup_cons.1 hn3).1
  subst hlm
  have h1 : f.1 ≤ f'.1 := h.least' hr hf (by rw [e]; exact hperm.mem_iff.2 (by rw [e']; simp))
  have h2 : f'.1 ≤ f.1 := h'.least' hr hf' hdc
  have hk : f.1 = f'.1 := by omega
  rw [e'] at hr2 hn2
  rw [← hk] at hr2 hn2
  have hll : l = l' := Trail.det (x := f.1) hr1 hr2 (List.nodup_cons.1 hn1).1 (List.nodup_cons.1 hn2).1
  have : f = f' := by
    obtain ⟨a, b⟩ := f
    obtain ⟨a', b'⟩ := f'
    dsimp only at e e' hk
    rw [e, e', hk, hll]
  rw [this]
  exact hf'

theorem keys_ext : ∀ {F F' : List Face}, (F.map (·.1)).Pairwise (· < ·) → (F'.map (·.1)).Pairwise (· < ·) → (∀ f, f ∈ F ↔ f ∈ F') → F = F'
  | [], [], _, _, _ => rfl
  | [], f :: F', _, _, h => by have := (h f).2 (by simp); simp at this
  | f :: F, [], _, _, h => by have := (h f).1 (by simp); simp at this
  | f :: F, f' :: F', h1, h2, h => by
    rw [List.map_cons, List.pairwise_cons] at h1 h2
    have a1 : ∀ x ∈ F, f.1 < x.1 := fun x hx => h1.1 x.1 (List.mem_map.2 ⟨x, hx, rfl⟩)
    have a2 : ∀ x ∈ F', f'.1 < x.1 := fun x hx => h2.1 x.1 (List.mem_map.2 ⟨x, hx, rfl⟩)
    have e : f = f' := by
      rcases List.mem_cons.1 ((h f).1 (by simp)) with q | q
      · exact q
      · rcases List.mem_cons.1 ((h f').2 (by simp)) with r | r
        · exact r.symm
        · have := a1 _ r; have := a2 _ q; omega
    subst e
    rw [keys_ext h1.2 h2.2 fun x => ⟨fun hx => ?_, fun hx => ?_⟩]
    · rcases List.mem_cons.1 ((h x).1 (by simp [hx])) with q | q
      · subst q; have := a1 _ hx; omega
      · exact q
    · rcases List.mem_cons.1 ((h x).2 (by simp [hx])) with q | q
      · subst q; have := a2 _ hx; omega
      · exact q

/-- The walks are determined. -/
theorem WalksOk.one {g : Gr} {p : Pt} {turn : List (List Int)} {W W' : List Face} (hr : p.e.Pairwise (· < ·)) (h : WalksOk g p turn W) (h' : WalksOk g p turn W') : W = W' := by
  obtain ⟨F, e, k⟩ := h.split
  obtain ⟨F', e', k'⟩ := h'.split
  rw [e, e', keys_ext (k.keysRise hr) (k'.keysRise hr) fun f => ⟨fun hf => k.sub' k' hr hf, fun hf => k'.sub' k hr hf⟩]

open Classical in
/-- The walks of turns. -/
noncomputable def walksOf (g : Gr) (p : Pt) (turn : List (List Int)) : List Face := if h : ∃ W, WalksOk g p turn W then Classical.choose h else []
theorem WalksOk.eq {g : Gr} {p : Pt} {turn : List (List Int)} {W : List Face} (hr : p.err g = 0) (h : WalksOk g p turn W) : W = walksOf g p turn := by
  have hex : ∃ W, WalksOk g p turn W := ⟨W, h⟩
  unfold walksOf
  rw [dif_pos hex]
  exact h.one (rises_pair (Pt.err_ok hr).2.2.1) (Classical.choose_spec hex)

/-- All pieces are on spheres. -/
def Flat (g : Gr) (p : Pt) (turn : List (List Int)) : Prop := ∀ r ∈ roots g p, genusAt g p (walksOf g p turn) r = 0
open Classical in
noncomputable def flatErr (g : Gr) (p : Pt) (turn : List (List Int)) : Int := if turnErr g p turn ≠ 0 then turnErr g p turn else if Flat g p turn then 0 else 6
theorem flatErr_turn {g : Gr} {p : Pt} {turn : List (List Int)} (h : turnErr g p turn ≠ 0) : flatErr g p turn = turnErr g p turn := if_pos h
theorem flatErr_ok {g : Gr} {p : Pt} {turn : List (List Int)} (h : turnErr g p turn = 0) (hf : Flat g p turn) : flatErr g p turn = 0 := by unfold flatErr; rw [if_neg (by simp [h]), if_pos hf]
theorem flatErr_bad {g : Gr} {p : Pt} {turn : List (List Int)} (h : turnErr g p turn = 0) (hf : ¬ Flat g p turn) : flatErr g p turn = 6 := by unfold flatErr; rw [if_neg (by simp [h]), if_neg hf]
theorem flatErr_zero {g : Gr} {p : Pt} {turn : List (List Int)} (h : flatErr g p turn = 0) : turnErr g p turn = 0 ∧ Flat g p turn := by
  by_cases h1 : turnErr g p turn = 0
  · refine ⟨h1, Classical.byContradiction fun h2 => ?_⟩
    rw [flatErr_bad h1 h2] at h; cases h
  · rw [flatErr_turn h1] at h; exact absurd h h1

/-- The keys of walks are rising. -/
theorem walks_keys {g : Gr} {p : Pt} {turn : List (List Int)} {W : List Face} (hr : p.err g = 0) (h : WalksOk g p turn W) : (W.map (·.1)).Pairwise (· < ·) := by
  obtain ⟨F, rfl, ht⟩ := h.split
  rw [List.map_append, List.pairwise_append]
  have hv := (Pt.err_ok hr).2.1
  have hpo := Pt.ok_of_err hr
  refine ⟨?_, ht.keysRise (rises_pair (Pt.err_ok hr).2.2.1), fun x hx y hy => ?_⟩
  · unfold loneAt
    rw [List.map_map, List.pairwise_map]
    refine (List.Pairwise.filter _ (List.pairwise_reverse.2 (rises_pair hv))).imp fun {a b} hab => ?_
    show -1 - a < -1 - b
    omega
  · obtain ⟨f, hf, rfl⟩ := List.mem_map.1 hx
    obtain ⟨v, hv2, rfl⟩ := List.mem_map.1 hf
    have hvm := hpo.vr v (List.mem_reverse.1 (List.mem_filter.1 hv2).1)
    have hd := ht.keys.subset hy
    rw [mem_darts] at hd
    have := hpo.er _ hd
    show -1 - v < y
    omega
end Go.Proofs.Ytfgbkpbakignhaa.Plain
/- package plan: the contracts of flat, of corner. Conditions: lists that lie in memory and read so, of a bounded size. -/
namespace Go.Proofs.Ytfgbkpbakignhaa
open Go.RowKit Go.Maps

/-- A graph and a part, laid into boxes: what is read of them. -/
theorem two_boxes (w : World) {g : Plain.Gr} {p : Plain.Pt} {eo ao bo : Option Addr} {cap ac bc : Nat} {w2 : World} (h : Chg [] ((w.alloc (.cells #[.int .i64 g.n, .slice eo g.e.length cap] 24)).alloc (.cells #[.slice ao p.v.length ac, .slice bo p.e.length bc] 27)) w2) :
    w2.cell? ⟨w.heap.size, 0, none⟩ = some (.int .i64 g.n) ∧ w2.cell? ⟨w.heap.size, 1, none⟩ = some (.slice eo g.e.length cap) ∧ w2.cell? ⟨w.heap.size + 1, 0, none⟩ = some (.slice ao p.v.length ac) ∧ w2.cell? ⟨w.heap.size + 1, 1, none⟩ = some (.slice bo p.e.length bc) ∧ w.heap.size + 2 ≤ w2.heap.size := by
  obtain ⟨hb1, hb2, -⟩ := box_two w #[.int .i64 g.n, .slice eo g.e.length cap] #[.slice ao p.v.length ac, .slice bo p.e.length bc] 24 27
  have hs := h.size
  exact ⟨h.cell ((cell_of_row _ _ 0 _ _ _ hb1).trans rfl) (by simp), h.cell ((cell_of_row _ _ 1 _ _ _ hb1).trans rfl) (by simp), h.cell ((cell_of_row _ _ 0 _ _ _ hb2).trans rfl) (by simp), h.cell ((cell_of_row _ _ 1 _ _ _ hb2).trans rfl) (by simp), by simpa using hs⟩

set_option maxRecDepth 100000 in
set_option maxHeartbeats 2000000 in
theorem flat_any (vg vp vt : Value) (g : Plain.Gr) (p : Plain.Pt) (turn : List (List Int)) (w : World) (hpl : p.e.length ≤ 100000) (hpv : p.v.length ≤ 100000) (hTL : turn.length < 2147483648) (hS : Plain.sumLen turn turn.length < 2147483648) (hg : GrAt w vg g) (hp : PtAt w vp p) (ht : RowsAt w vt turn) :
    Calls Try.prog 24 #[vg, vp, vt] w fun e w' => e = .returned (.int .i64 (Plain.flatErr g p turn)) ∧ Chg [] w w' := by
  have HG := Lib.hid hg
  have HP := Lib.hid hp
  have HT := Lib.hid ht
  have HSL := Lib.hid hS
  obtain ⟨eo, cap, rfl, hn, hm, hsm, hcell⟩ := hg
  obtain ⟨v1, v2, rfl, hv, he⟩ := hp
  obtain ⟨ao, ac, rfl, has, ham, hacell⟩ := hv
  obtain ⟨bo, bc, rfl, hbs, hbm, hbcell⟩ := he
  obtain ⟨tno, tc, rfl, htl, htc⟩ := ht
  obtain ⟨-, -, hc1⟩ := box_two w #[.int .i64 g.n, .slice eo g.e.length cap] #[.slice ao p.v.length ac, .slice bo p.e.length bc] 24 27
  have HC1 := Lib.hid hc1
  clear hcell hacell hbcell hsm hbs has hn hc1 htc hS
  go_enter Try.func24, Try.ntmps24
  go_wp2_with fail
  refine (genus_any _ _ _ g p turn _ hpl hpv hTL HSL.out (HG.out.fresh HC1.out) (HP.out.fresh HC1.out) (HT.out.fresh HC1.out)).mono ?_
  rintro e w2 ⟨ov, rfl, hr1, hr2, hc2⟩
  have HC2 := Lib.hid (HC1.out.trans hc2 (by simp))
  clear hc2
  by_cases hr : Plain.turnErr g p turn = 0
  · obtain ⟨W, hwk, hrow⟩ := hr2 hr
    have HWE := Lib.hid (hwk.eq (Plain.turnErr_zero hr).1)
    have HR := Lib.hid hr
    have HFE := Lib.hid (show Plain.Flat g p turn ↔ ∀ i, i < ((Plain.roots g p).map (Plain.genusAt g p W)).length → ((Plain.roots g p).map (Plain.genusAt g p W)).getD i 0 = 0 by
      unfold Plain.Flat
      rw [← HWE.out]
      constructor
      · intro h i hi
        rw [List.length_map] at hi
        have := h ((Plain.roots g p).getD i 0) (Plain.getD_mem hi)
        simpa [List.getD, hi] using this
      · intro h r hr
        obtain ⟨i, hi, e⟩ := List.getElem_of_mem hr
        have := h i (by rw [List.length_map]; exact hi)
        simpa [List.getD, hi, e] using this)
    rw [hr]
    obtain ⟨oo, oc, rfl⟩ := hrow.shape
    have HROW := Lib.hid hrow.ints
    have hll := hrow.2.2
    clear hr1 hr2 hwk hrow hr HWE
    generalize (Plain.roots g p).map (Plain.genusAt g p W) = G at *
    go_wp2
    go_loopw [23] (fun c wr => ∃ k : Nat, k ≤ G.length ∧ c = .int .i64 k ∧ Hid (∀ i, i < k → G.getD i 0 = 0) ∧ Chg [] w2 wr) (fun c _ => G.length - (intOf c).toNat)
    case atStart => exact ⟨0, Nat.zero_le _, rfl, Lib.hid (fun i hi => by omega), Chg.refl _ _⟩
    case round =>
      obtain ⟨k, hk, rfl, hz, hc⟩ := hrel
      have HC := Lib.hid (HC2.out.trans hc (by simp))
      have HCW := Lib.hid hc
      by_cases hlt : k < G.length
      · obtain ⟨ao', c', e, -, -, hcc⟩ := HROW.out
        obtain ⟨vb, voff, e2, hcell⟩ := hcc (by intro e; rw [e] at hlt; simp at hlt)
        simp only [Value.slice.injEq] at e
        obtain ⟨e3, -, -⟩ := e
        rw [e2] at e3
        subst e3
        have ck := hc.cell (hcell k hlt) (by simp)
        have HBAD := Lib.hid (fun (h : G.getD k 0 ≠ 0) => Plain.flatErr_bad HR.out (fun hf => h (HFE.out.1 hf k hlt)))
        obtain ⟨z, hz2⟩ : ∃ z, G.getD k 0 = z := ⟨_, rfl⟩
        have HZ := Lib.hid hz2
        rw [hz2] at ck HBAD
        clear hcell hcc hz2 hc
        by_cases h0 : z = 0
        · subst h0
          go_wp2
          go_roundw
          case rel => exact ⟨k + 1, by omega, by go_num, Lib.hid (fun i hi => by
              by_cases e : i = k
              · rw [e]; exact HZ.out
              · exact hz.out i (by omega)), HCW.out⟩
          case measure => simp [intOf]; omega
        · have HB := Lib.hid (HBAD.out h0)
          go_wp2
          go_ret
          exact ⟨ret_int HB.out.symm, HC.out⟩
      · have e : k = G.length := by omega
        subst e
        have HB := Lib.hid (show Plain.flatErr g p turn = 0 from Plain.flatErr_ok HR.out (HFE.out.2 hz.out))
        clear hc
        go_wp2
        go_ret
        exact ⟨ret_int HB.out.symm, HC.out⟩
  · have HB := Lib.hid (Plain.flatErr_turn hr)
    obtain rfl := hr1 hr
    obtain ⟨er, her⟩ : ∃ er, Plain.turnErr g p turn = er := ⟨_, rfl⟩
    rw [her] at hr HB ⊢
    clear her hr1 hr2
    go_wp2
    go_ret
    exact ⟨ret_int HB.out.symm, HC2.out⟩

set_option maxRecDepth 100000 in
theorem corner_low (vg : Value) (g : Plain.Gr) (key : Int) (da : Option Addr) (dc : Nat) (w : World) (hk : -4611686018427387904 ≤ key ∧ key ≤ 4611686018427387904) (h : GrAt w vg g) :
    Calls Try.prog 44 #[vg, .agg #[.int .i64 key, .slice da 0 dc]] w fun e w' => e = .returned (.int .i64 (-1 - key)) ∧ Chg [] w w' := by
  obtain ⟨eo, cap, rfl, -, -, -, -⟩ := h
  have HC1 := Lib.hid (((Chg.refl [] w).alloc (.cells #[.int .i64 g.n, .slice eo g.e.length cap] 24)).alloc (.cells #[.int .i64 key, .slice da 0 dc] 50))
  go_enter Try.func44, Try.ntmps44
  go_wp2
  go_ret
  exact ⟨rfl, HC1.out⟩

set_option maxRecDepth 100000 in
theorem corner_high (vg : Value) (g : Plain.Gr) (d dn : Nat) (da : Option Addr) (dc : Nat) (w : World) (hdn : 0 < dn) (hd : d / 2 < g.e.length) (hm : g.e.length < 4294967296) (h : GrAt w vg g) :
    Calls Try.prog 44 #[vg, .agg #[.int .i64 d, .slice da dn dc]] w fun e w' => e = .returned (.int .i64 (g.tail d)) ∧ Chg [] w w' := by
  obtain ⟨eo, cap, rfl, -, -, -, hcell⟩ := h
  obtain ⟨b, off, rfl, hc0, hc1⟩ := hcell (d / 2) hd
  have HC1 := Lib.hid (((Chg.refl [] w).alloc (.cells #[.int .i64 g.n, .slice (some ⟨b, off, none⟩) g.e.length cap] 24)).alloc (.cells #[.int .i64 d, .slice da dn dc] 50))
  obtain ⟨e, he⟩ : ∃ e, d / 2 = e := ⟨_, rfl⟩
  rw [he] at hd hc0 hc1
  have c0 := HC1.out.cell hc0 (by simp)
  have c1 := HC1.out.cell hc1 (by simp)
  clear hcell hc0 hc1
  rcases (show d = 2 * e ∨ d = 2 * e + 1 by omega) with rfl | rfl
  · obtain ⟨q1, q2⟩ := quo_even e
    have HE := Lib.hid (dart_even g e).1
    rw [HE.out]
    clear he
    generalize ((2 * e : Nat) : Int) = dd at *
    generalize (g.ends e).1 = x at *
    generalize (g.ends e).2 = y at *
    go_enter Try.func44, Try.ntmps44
    go_wp2
    go_ret
    exact ⟨rfl, HC1.out⟩
  · obtain ⟨q1, q2⟩ := quo_odd e
    have HE := Lib.hid (dart_odd g e).1
    rw [HE.out]
    clear he
    generalize ((2 * e + 1 : Nat) : Int) = dd at *
    generalize (g.ends e).1 = x at *
    generalize (g.ends e).2 = y at *
    go_enter Try.func44, Try.ntmps44
    go_wp2
    go_ret
    exact ⟨rfl, HC1.out⟩

end Go.Proofs.Ytfgbkpbakignhaa
