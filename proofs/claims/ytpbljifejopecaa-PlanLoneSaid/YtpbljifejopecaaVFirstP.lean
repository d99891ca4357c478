/- Turns begun anew: the same walks, the same error, the same drawing. No program here. -/
import Derived.Test.YtpbljifejopecaaVGood
import Derived.Test.YtpbljifejopecaaVWake
import Derived.Test.YtpbljifejopecaaVRing
import Derived.Test.YtpbljifejopecaaVKit
namespace Go.Proofs.Ytpbljifejopecaa.Plain

theorem ring_agree {p q : Int → Int} {c : List Int} (h : Ring p c) (k : Ring q c) : ∀ x ∈ c, p x = q x := by
  cases c with
  | nil => simp
  | cons a l =>
    have e := (Trail.map (show Trail p a l a from h)).trans (Trail.map (show Trail q a l a from k)).symm
    exact fun x hx => List.map_inj_left.1 e x hx

theorem ahead_roll {a b : List Int} (hn : (a ++ b).Nodup) : ∀ x ∈ a ++ b, ahead (b ++ a) x = ahead (a ++ b) x := by
  intro x hx
  have hn2 : (b ++ a).Nodup := (List.perm_append_comm).nodup_iff.1 hn
  by_cases ha : a = []
  · subst ha; simp
  · by_cases hb : b = []
    · subst hb; simp
    · have h1 := ahead_ring hn (by simp [ha])
      have h2 := ahead_ring hn2 (by simp [ha])
      rw [List.reverse_append] at h1 h2
      obtain ⟨u, r, hr⟩ := List.exists_cons_of_ne_nil (show a.reverse ≠ [] by simpa using ha)
      obtain ⟨v, s, hs⟩ := List.exists_cons_of_ne_nil (show b.reverse ≠ [] by simpa using hb)
      rw [hr, hs] at h1 h2
      have h3 := Ring.turn (p := ahead (a ++ b)) (l := s) (m := r) (x := v) (y := u) h1
      have := ring_agree h2 h3 x (by
        rw [← hr, ← hs, List.mem_append, List.mem_reverse, List.mem_reverse]
        exact List.mem_append.1 hx)
      exact this

theorem first_split (l : List Int) : ∃ a b, l = a ++ b ∧ first l = b ++ a := ⟨l.take (lst l l.length), l.drop (lst l l.length), (List.take_append_drop _ _).symm, rfl⟩
theorem first_perm (l : List Int) : (first l).Perm l := by
  obtain ⟨a, b, e1, e2⟩ := first_split l
  rw [e2]
  exact List.perm_append_comm.trans (List.Perm.of_eq e1.symm)
theorem first_nil : first [] = [] := rfl
theorem first_empty (l : List Int) : (first l).isEmpty = l.isEmpty := by
  have := (first_perm l).length_eq
  cases h : first l <;> cases h2 : l <;> simp_all
theorem ahead_begun {l : List Int} (hn : l.Nodup) : ∀ x ∈ l, ahead (first l) x = ahead l x := by
  obtain ⟨a, b, e1, e2⟩ := first_split l
  rw [e2]
  rw [e1] at hn ⊢
  exact ahead_roll hn

theorem turnAt_map (turn : List (List Int)) (v : Int) : turnAt (turn.map first) v = first (turnAt turn v) := by
  unfold turnAt List.getD
  rw [List.getElem?_map]
  cases turn[v.toNat]? <;> rfl

theorem TurnsOk.first {g : Gr} {p : Pt} {turn : List (List Int)} (h : TurnsOk g p turn) : TurnsOk g p (turn.map Plain.first) := by
  refine ⟨by rw [List.length_map]; exact h.len, fun v => ?_, fun v h0 hn d => ?_⟩
  · rw [turnAt_map]; exact (first_perm _).nodup_iff.2 (h.nodup v)
  · rw [turnAt_map, (first_perm _).mem_iff]; exact h.mem v h0 hn d

theorem turnsOk_first {g : Gr} {p : Pt} {turn : List (List Int)} : TurnsOk g p (turn.map Plain.first) ↔ TurnsOk g p turn := by
  refine ⟨fun h => ⟨by rw [← List.length_map (f := Plain.first)]; exact h.len, fun v => ?_, fun v h0 hn d => ?_⟩, fun h => h.first⟩
  · have := h.nodup v
    rw [turnAt_map] at this
    exact (first_perm _).nodup_iff.1 this
  · have := h.mem v h0 hn d
    rw [turnAt_map, (first_perm _).mem_iff] at this
    exact this

theorem next_first {g : Gr} {p : Pt} {turn : List (List Int)} (hp : PartOk g p) (h : TurnsOk g p turn) {d : Int} (hd : d ∈ p.darts) : nextDart g (turn.map Plain.first) d = nextDart g turn d := by
  unfold nextDart before
  rw [turnAt_map]
  have ht := twin_mem hd
  have hv := hp.vr _ (hp.tail_mem ht).1
  exact ahead_begun (h.nodup _) _ ((h.mem _ hv.1 hv.2 _).2 ⟨ht, rfl⟩)

theorem loneAt_first (turn : List (List Int)) (l : List Int) : loneAt (turn.map Plain.first) l = loneAt turn l := by
  unfold loneAt
  congr 1
  refine List.filter_congr fun v _ => ?_
  rw [turnAt_map, first_empty]

theorem Trk.first {g : Gr} {p : Pt} {turn : List (List Int)} {F : List Face} {pre : List Int} (hp : PartOk g p) (ht : TurnsOk g p turn) (h : Trk g p turn F pre) : Trk g p (turn.map Plain.first) F pre :=
  ⟨h.rings.congr fun x hx => (next_first hp ht (h.sub x hx)).symm, h.sub, h.key, h.keys, h.least, h.cover⟩

theorem WalksOk.first {g : Gr} {p : Pt} {turn : List (List Int)} {W : List Face} (hp : PartOk g p) (ht : TurnsOk g p turn) (h : WalksOk g p turn W) : WalksOk g p (turn.map Plain.first) W := by
  obtain ⟨F, e, k⟩ := h.split
  rw [e, ← loneAt_first turn]
  exact (k.first hp ht).walks hp

/-- Right turns have walks. -/
theorem walks_ok {g : Gr} {p : Pt} {turn : List (List Int)} (hpe : p.err g = 0) (hto : TurnsOk g p turn) : WalksOk g p turn (walksOf g p turn) := by
  rw [← mins_walks hpe hto]
  exact (mins_trk (Pt.ok_of_err hpe) (rises_pair (Pt.err_ok hpe).2.2.1) hto).walks (Pt.ok_of_err hpe)

theorem walks_first {g : Gr} {p : Pt} {turn : List (List Int)} (hpe : p.err g = 0) (hto : TurnsOk g p turn) : walksOf g p (turn.map Plain.first) = walksOf g p turn :=
  (((walks_ok hpe hto).first (Pt.ok_of_err hpe) hto).eq hpe).symm

theorem turnErr_first (g : Gr) (p : Pt) (turn : List (List Int)) : turnErr g p (turn.map Plain.first) = turnErr g p turn := by
  by_cases hpe : p.err g = 0
  · by_cases h : TurnsOk g p turn
    · rw [turnErr_ok hpe h, turnErr_ok hpe h.first]
    · rw [turnErr_bad hpe h, turnErr_bad hpe fun k => h (turnsOk_first.1 k)]
  · rw [turnErr_part hpe, turnErr_part hpe]

theorem flatErr_first (g : Gr) (p : Pt) (turn : List (List Int)) : flatErr g p (turn.map Plain.first) = flatErr g p turn := by
  by_cases h : turnErr g p turn = 0
  · obtain ⟨hpe, hto⟩ := turnErr_zero h
    have h2 : turnErr g p (turn.map Plain.first) = 0 := (turnErr_first g p turn).trans h
    have hw := walks_first hpe hto
    by_cases hf : Flat g p turn
    · rw [flatErr_ok h hf, flatErr_ok h2 (by unfold Flat; rw [hw]; exact hf)]
    · rw [flatErr_bad h hf, flatErr_bad h2 (by unfold Flat; rw [hw]; exact hf)]
  · rw [flatErr_turn h, flatErr_turn (by rw [turnErr_first]; exact h), turnErr_first]

theorem planErr_first (g : Gr) (p : Pt) (turn same : List (List Int)) : planErr g p (turn.map Plain.first) same = planErr g p turn same := by
  by_cases h : flatErr g p turn = 0
  · obtain ⟨hte, -⟩ := flatErr_zero h
    obtain ⟨hpe, hto⟩ := turnErr_zero hte
    rw [planErr_run h, planErr_run ((flatErr_first g p turn).trans h), walks_first hpe hto]
  · rw [planErr_flat h, planErr_flat (by rw [flatErr_first]; exact h), flatErr_first]

/-- The error of a drawing of one piece. -/
noncomputable def loneErr (g : Gr) (p : Pt) (turn : List (List Int)) : Int := if flatErr g p turn ≠ 0 then flatErr g p turn else if (roots g p).length ≤ 1 then 0 else 10

theorem lone_plan {g : Gr} {p : Pt} {turn : List (List Int)} (h : loneErr g p turn = 0) : planErr g p (turn.map Plain.first) [] = 0 := by
  unfold loneErr at h
  split at h
  · rename_i q; exact absurd h q
  · rename_i q
    have q : flatErr g p turn = 0 := Classical.byContradiction q
    split at h
    · rename_i q2
      rw [planErr_first, planErr_run q]
      have := (PlanOk.start (fun _ => none) (roots g p).length).num
      simp only [List.length_nil, Nat.add_zero] at this
      show (if 1 < (St.new (upTo (roots g p).length)).count then (7 : Int) else 0) = 0
      rw [if_neg]
      have h2 : (St.new (upTo (roots g p).length)).count = (roots g p).length := this
      omega
    · cases h
end Go.Proofs.Ytpbljifejopecaa.Plain
/- walk.Joined, plan.Lone: contracts. Conditions: a graph, a part, turns that lie in memory and read so, of a bounded size. -/
namespace Go.Proofs.Ytpbljifejopecaa
open Go.RowKit Go.Maps

theorem rowsNil8 (w : World) : RowsAt w (.slice none 0 0) [] := ⟨none, 0, rfl, by decide, fun i hi => absurd hi (by simp)⟩

set_option maxRecDepth 100000 in
set_option maxHeartbeats 2000000 in
theorem joined_any (vg vp : Value) (g : Plain.Gr) (p : Plain.Pt) (w : World) (hpl : p.e.length ≤ 100000) (hpv : p.v.length ≤ 100000) (hg : GrAt w vg g) (hp : PtAt w vp p) :
    Calls Try.prog 47 #[vg, vp] w fun e w' => e = .returned (.bool (decide (p.err g = 0 ∧ (Plain.roots g p).length ≤ 1))) ∧ Chg [] w w' := by
  have HG := Lib.hid hg
  have HP := Lib.hid hp
  obtain ⟨eo, cap, rfl, hn, hm, hsm, hcell⟩ := hg
  obtain ⟨v1, v2, rfl, hv, he⟩ := hp
  obtain ⟨ao, ac, rfl, has, ham, hacell⟩ := hv
  obtain ⟨bo, bc, rfl, hbs, hbm, hbcell⟩ := he
  have HAC := Lib.hid hacell
  have HBC := Lib.hid hbcell
  have HAS := Lib.hid has
  have HBS := Lib.hid hbs
  obtain ⟨-, -, hc1⟩ := box_two w #[.int .i64 g.n, .slice eo g.e.length cap] #[.slice ao p.v.length ac, .slice bo p.e.length bc] 24 27
  have HC1 := Lib.hid hc1
  have HBXS := Lib.hid (fun w2 h => two_boxes w (g := g) (p := p) (eo := eo) (ao := ao) (bo := bo) (cap := cap) (ac := ac) (bc := bc) (w2 := w2) h)
  clear hcell hacell hbcell hsm has hbs hn hc1
  obtain ⟨x0, x1, y0, y1, hsz⟩ := HBXS.out _ (Chg.refl _ _)
  go_enter Try.func47, Try.ntmps47
  go_wp2_with fail
  refine (pieces_any _ _ g p _ hpl hpv (HG.out.fresh HC1.out) (HP.out.fresh HC1.out)).mono ?_
  rintro e w2 ⟨ov, rfl, hbad, hok, hc2⟩
  have HC2 := Lib.hid (HC1.out.trans hc2 (by simp))
  clear hc2 x0 x1 y0 y1 hsz
  by_cases hpe : p.err g = 0
  · obtain ⟨xs, hn⟩ := hok hpe
    obtain ⟨oo, oc, rfl⟩ := hn.shape
    have HE := Lib.hid (show decide (p.err g = 0 ∧ (Plain.roots g p).length ≤ 1) = decide ((Plain.roots g p).length ≤ 1) from decide_eq_decide.2 ⟨fun h => h.2, fun h => ⟨hpe, h⟩⟩)
    rw [hpe]
    obtain ⟨rn, hrn⟩ : ∃ rn, (Plain.roots g p).length = rn := ⟨_, rfl⟩
    have HRN := Lib.hid hrn
    rw [hrn] at HE ⊢
    clear hbad hok hn hrn hpe
    by_cases q : rn ≤ 1
    · have HE2 := Lib.hid (HE.out.trans (decide_eq_true q))
      have q2 : (rn : Int) ≤ 1 := by omega
      have b1 : decide ((rn : Int) ≤ 1) = true := decide_eq_true q2
      clear q q2
      go_wp2
      go_ret
      exact ⟨ret_bool (by rw [HRN.out]; exact HE2.out.symm), HC2.out⟩
    · have HE2 := Lib.hid (HE.out.trans (decide_eq_false q))
      have b1 : decide ((rn : Int) ≤ 1) = false := decide_eq_false (by omega)
      clear q
      go_wp2
      go_ret
      exact ⟨ret_bool (by rw [HRN.out]; exact HE2.out.symm), HC2.out⟩
  · have hov := hbad hpe
    subst hov
    have HE := Lib.hid (show decide (p.err g = 0 ∧ (Plain.roots g p).length ≤ 1) = false from decide_eq_false fun h => hpe h.1)
    have b1 : ((p.err g) == 0) = false := by rw [beq_eq_false_iff_ne]; exact hpe
    clear hbad hok hpe
    go_wp2
    go_ret
    exact ⟨ret_bool HE.out.symm, HC2.out⟩

set_option maxRecDepth 100000 in
set_option maxHeartbeats 2000000 in
theorem lone_any (vg vp vt : Value) (g : Plain.Gr) (p : Plain.Pt) (turn : List (List Int)) (w : World) (hpl : p.e.length ≤ 100000) (hpv : p.v.length ≤ 100000) (hTL : turn.length < 1000000000) (hS : Plain.sumLen turn turn.length < 2147483648) (htr : ∀ i, (turn.getD i []).length < 1000000000) (hg : GrAt w vg g) (hp : PtAt w vp p) (ht : RowsAt w vt turn) :
    Calls Try.prog 14 #[vg, vp, vt] w fun e w' => ∃ vy, e = .returned (.tuple #[vy, .int .i64 (Plain.loneErr g p turn)]) ∧ (Plain.loneErr g p turn ≠ 0 → vy = .agg #[.slice none 0 0, .slice none 0 0]) ∧ (Plain.loneErr g p turn = 0 → ∃ o1 c1 o2 c2, vy = .agg #[.slice o1 turn.length c1, .slice o2 0 c2] ∧ PlAt w' vy (turn.map Plain.first) []) ∧ Chg [] w w' := by
  have HT := Lib.hid ht
  have HTR := Lib.hid htr
  have HS := Lib.hid hS
  clear htr hS
  have HG := Lib.hid hg
  have HP := Lib.hid hp
  obtain ⟨eo, cap, rfl, hn, hm, hsm, hcell⟩ := hg
  obtain ⟨v1, v2, rfl, hv, he⟩ := hp
  obtain ⟨ao, ac, rfl, has, ham, hacell⟩ := hv
  obtain ⟨bo, bc, rfl, hbs, hbm, hbcell⟩ := he
  have HAC := Lib.hid hacell
  have HBC := Lib.hid hbcell
  have HAS := Lib.hid has
  have HBS := Lib.hid hbs
  obtain ⟨-, -, hc1⟩ := box_two w #[.int .i64 g.n, .slice eo g.e.length cap] #[.slice ao p.v.length ac, .slice bo p.e.length bc] 24 27
  have HC1 := Lib.hid hc1
  have HBXS := Lib.hid (fun w2 h => two_boxes w (g := g) (p := p) (eo := eo) (ao := ao) (bo := bo) (cap := cap) (ac := ac) (bc := bc) (w2 := w2) h)
  clear hcell hacell hbcell hsm has hbs hn hc1
  obtain ⟨tno, tc, rfl, htm, -⟩ := ht
  obtain ⟨w1, hw1⟩ : ∃ w1, ((w.alloc (.cells #[.int .i64 g.n, .slice eo g.e.length cap] 24)).alloc (.cells #[.slice ao p.v.length ac, .slice bo p.e.length bc] 27)) = w1 := ⟨_, rfl⟩
  rw [hw1] at HC1 HBXS
  have hsz1 : w1.heap.size = w.heap.size + 2 := by rw [← hw1]; simp
  have hrb := heap_alloc_new w1 (.cells #[.slice none 0 0, .slice none 0 0] 32)
  rw [hsz1] at hrb
  have HRB := Lib.hid hrb
  have hca := (Chg.refl [] w1).alloc (.cells #[.slice none 0 0, .slice none 0 0] 32)
  have HCA := Lib.hid hca
  obtain ⟨x0, x1, y0, y1, hsz⟩ := HBXS.out _ hca
  have HCW := Lib.hid (HC1.out.trans hca (by simp))
  subst hw1
  clear hrb hca
  go_enter Try.func14, Try.ntmps14
  go_wp2_with fail
  generalize hwb : (((w.alloc (.cells #[.int .i64 g.n, .slice eo g.e.length cap] 24)).alloc (.cells #[.slice ao p.v.length ac, .slice bo p.e.length bc] 27)).alloc (.cells #[.slice none 0 0, .slice none 0 0] 32)) = wb at *
  refine (flat_any _ _ _ g p turn _ hpl hpv (by omega) HS.out (HG.out.fresh HCW.out) (HP.out.fresh HCW.out) (HT.out.fresh HCW.out)).mono ?_
  rintro e w2 ⟨rfl, hc2⟩
  have HC2 := Lib.hid (HCW.out.trans hc2 (by simp))
  have HC2A := Lib.hid (HCA.out.trans hc2 (by simp))
  have hrb2 := hc2.heap HRB.out (by simp)
  have HRB2 := Lib.hid hrb2
  clear x0 x1 y0 y1 hsz hc2 hwb
  obtain ⟨x0, x1, y0, y1, hsz⟩ := HBXS.out w2 HC2A.out
  by_cases hfe : Plain.flatErr g p turn = 0
  · rw [hfe]
    have HL := Lib.hid (show Plain.loneErr g p turn = if (Plain.roots g p).length ≤ 1 then 0 else 10 by unfold Plain.loneErr; rw [if_neg (by simp [hfe])])
    have HPE := Lib.hid (Plain.turnErr_zero (Plain.flatErr_zero hfe).1).1
    clear hfe hrb2
    go_wp2_with fail
    refine (joined_any _ _ g p _ hpl hpv (HG.out.fresh HC2.out) (HP.out.fresh HC2.out)).mono ?_
    rintro e w3 ⟨rfl, hc3⟩
    have HC3 := Lib.hid (HC2.out.trans hc3 (by simp))
    have hrb3 := hc3.heap HRB2.out (by simp)
    have HRB3 := Lib.hid hrb3
    clear x0 x1 y0 y1 hsz hc3
    by_cases q : (Plain.roots g p).length ≤ 1
    · rw [decide_eq_true (⟨HPE.out, q⟩ : p.err g = 0 ∧ (Plain.roots g p).length ≤ 1)]
      have HLE := Lib.hid (HL.out.trans (if_pos q))
      clear q hrb3
      go_wp2_with fail
      refine (clean_any _ turn [] _ hTL (by simp) HTR.out (by simp) ⟨_, _, rfl, HT.out.fresh HC3.out, rowsNil8 _⟩).mono ?_
      rintro e w4 ⟨vy, rfl, hpl2, hc4⟩
      have hrb4 := hc4.heap HRB3.out (by simp)
      have hpl3 := hpl2 [] w4 (Chg.refl _ _) (by simp)
      have HPL4 := Lib.hid hpl2
      obtain ⟨t1, t2, rfl, ht1, ht2⟩ := hpl3
      obtain ⟨o1, k1, rfl, -, -⟩ := ht1
      obtain ⟨o2, k2, rfl, -, -⟩ := ht2
      rw [List.length_map] at HPL4 ⊢
      rw [show ([] : List (List Int)).length = 0 from rfl] at HPL4 ⊢
      have HC4 := Lib.hid (HC3.out.trans hc4 (by simp))
      have r0 := (cell_of_row _ _ 0 _ _ _ hrb4).trans (show _ = some (Value.slice none 0 0) from rfl)
      have r1 := (cell_of_row _ _ 1 _ _ _ hrb4).trans (show _ = some (Value.slice none 0 0) from rfl)
      have f0 := free_at hrb4 0
      have f1 := free_at hrb4 1
      have hset : Chg [w.heap.size + 2] w4 ((w4.setCell ⟨w.heap.size + 2, 0, none⟩ (.slice o1 turn.length k1)).setCell ⟨w.heap.size + 2, 1, none⟩ (.slice o2 0 k2)) := ((Chg.refl _ w4).setCell (Or.inl (by simp)) _).setCell (Or.inl (by simp)) _
      have hheap := heap_setCell_same (heap_setCell_same hrb4 0 (.slice o1 turn.length k1)) 1 (.slice o2 0 k2)
      have HF0 := Lib.hid ((cell_of_row _ _ 0 _ _ _ hheap).trans (show _ = some (Value.slice o1 turn.length k1) from rfl))
      have HF1 := Lib.hid ((cell_of_row _ _ 1 _ _ _ hheap).trans (show _ = some (Value.slice o2 0 k2) from rfl))
      have hlt3 : w.heap.size + 2 < w3.heap.size := lt_of_block HRB3.out
      have HPF := Lib.hid (HPL4.out _ _ hset (fun j hj => by simp at hj; omega))
      have HCF := Lib.hid (HC4.out.trans hset (fun j hj => Or.inr (by simp at hj; omega)))
      clear hc4 hrb4 hset hheap hlt3 hpl2
      go_wp2
      refine bodyPost_ret (v := .tuple #[.agg #[.slice o1 turn.length k1, .slice o2 0 k2], .int .i64 0]) (by have h0 := HF0.out; have h1 := HF1.out; simp [results, Try.results14, go_sem, h0, h1]) rfl ?_
      exact ⟨_, by rw [HLE.out], fun h => absurd HLE.out h, fun _ => ⟨_, _, _, _, rfl, HPF.out⟩, HCF.out⟩
    · rw [decide_eq_false (fun h => q h.2 : ¬(p.err g = 0 ∧ (Plain.roots g p).length ≤ 1))]
      have HLE := Lib.hid (HL.out.trans (if_neg q))
      clear q
      have r0 := (cell_of_row _ _ 0 _ _ _ hrb3).trans (show _ = some (Value.slice none 0 0) from rfl)
      have r1 := (cell_of_row _ _ 1 _ _ _ hrb3).trans (show _ = some (Value.slice none 0 0) from rfl)
      have f0 := free_at hrb3 0
      have f1 := free_at hrb3 1
      have hset : Chg [w.heap.size + 2] w3 ((w3.setCell ⟨w.heap.size + 2, 0, none⟩ (.slice none 0 0)).setCell ⟨w.heap.size + 2, 1, none⟩ (.slice none 0 0)) := ((Chg.refl _ w3).setCell (Or.inl (by simp)) _).setCell (Or.inl (by simp)) _
      have hheap := heap_setCell_same (heap_setCell_same hrb3 0 (.slice none 0 0)) 1 (.slice none 0 0)
      have HF0 := Lib.hid ((cell_of_row _ _ 0 _ _ _ hheap).trans (show _ = some (Value.slice none 0 0) from rfl))
      have HF1 := Lib.hid ((cell_of_row _ _ 1 _ _ _ hheap).trans (show _ = some (Value.slice none 0 0) from rfl))
      have HCF := Lib.hid (HC3.out.trans hset (fun j hj => Or.inr (by simp at hj; omega)))
      clear hrb3 hset hheap
      go_wp2
      refine bodyPost_ret (v := .tuple #[.agg #[.slice none 0 0, .slice none 0 0], .int .i64 10]) (by have h0 := HF0.out; have h1 := HF1.out; simp [results, Try.results14, go_sem, h0, h1]) rfl ?_
      exact ⟨_, by rw [HLE.out], fun _ => rfl, fun h => absurd h (by rw [HLE.out]; decide), HCF.out⟩
  · have HLE := Lib.hid (show Plain.loneErr g p turn = Plain.flatErr g p turn from if_pos hfe)
    have hzb : ((Plain.flatErr g p turn) != 0) = true := by simp [hfe]
    have HNE := Lib.hid hfe
    obtain ⟨fe, hfee⟩ : ∃ fe, Plain.flatErr g p turn = fe := ⟨_, rfl⟩
    rw [hfee] at hzb HLE HNE ⊢
    have r0 := (cell_of_row _ _ 0 _ _ _ hrb2).trans (show _ = some (Value.slice none 0 0) from rfl)
    have r1 := (cell_of_row _ _ 1 _ _ _ hrb2).trans (show _ = some (Value.slice none 0 0) from rfl)
    have f0 := free_at hrb2 0
    have f1 := free_at hrb2 1
    have hset : Chg [w.heap.size + 2] w2 ((w2.setCell ⟨w.heap.size + 2, 0, none⟩ (.slice none 0 0)).setCell ⟨w.heap.size + 2, 1, none⟩ (.slice none 0 0)) := ((Chg.refl _ w2).setCell (Or.inl (by simp)) _).setCell (Or.inl (by simp)) _
    have hheap := heap_setCell_same (heap_setCell_same hrb2 0 (.slice none 0 0)) 1 (.slice none 0 0)
    have HF0 := Lib.hid ((cell_of_row _ _ 0 _ _ _ hheap).trans (show _ = some (Value.slice none 0 0) from rfl))
    have HF1 := Lib.hid ((cell_of_row _ _ 1 _ _ _ hheap).trans (show _ = some (Value.slice none 0 0) from rfl))
    have HCF := Lib.hid (HC2.out.trans hset (fun j hj => Or.inr (by simp at hj; omega)))
    clear hrb2 hset hheap hfe hfee
    go_wp2
    refine bodyPost_ret (v := .tuple #[.agg #[.slice none 0 0, .slice none 0 0], .int .i64 fe]) (by have h0 := HF0.out; have h1 := HF1.out; simp [results, Try.results14, go_sem, h0, h1]) rfl ?_
    exact ⟨_, by rw [HLE.out], fun _ => rfl, fun h => absurd (HLE.out.symm.trans h) HNE.out, HCF.out⟩
end Go.Proofs.Ytpbljifejopecaa
