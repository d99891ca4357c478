/- the law PlanMirror: the walk. Conditions: a graph, a part, a plan that lie in memory and read so. -/
import Derived.Test.YtckjpaimbmlboaaVMirR
namespace Go.Proofs.Ytckjpaimbmlboaa
open Go.RowKit Go.Maps
theorem mirror_any (vg vp vx : Value) (g : Plain.Gr) (p : Plain.Pt) (turn same : List (List Int)) (w : World) (hpl : p.e.length ≤ 10000) (hpv : p.v.length ≤ 10000) (hTL : turn.length < 1000000000) (hS : Plain.sumLen turn turn.length < 2147483648) (hsl : same.length ≤ 10000) (hsr : ∀ i, (same.getD i []).length ≤ 10000) (hg : GrAt w vg g) (hp : PtAt w vp p) (hx : PlAt w vx turn same) :
  Calls Try.prog 11 #[vg, vp, vx] w fun e w' => ∃ ov, e = .returned (.tuple #[ov, .int .i64 (Plain.planErr g p turn same)]) ∧ (Plain.planErr g p turn same ≠ 0 → ov = .agg #[.slice none 0 0, .slice none 0 0]) ∧
   (Plain.planErr g p turn same = 0 → PlAt w' ov (Plain.mirTurn turn) (Plain.mirSame g p turn same)) ∧ Chg [] w w' := by
 refine (mirror_low vg vp vx g p turn same w hpl hpv hTL hS hsl hsr hg hp hx).mono ?_
 rintro e w' ⟨ov, h1, h2, h3, h4⟩
 exact ⟨ov, h1, h2, fun h => h3 h [] w' (Chg.refl _ _) (by simp), h4⟩
namespace Plain
theorem mir_row (turn : List (List Int)) (i : Nat) : ((mirTurn turn).getD i []).length = (turn.getD i []).length := by
 unfold mirTurn List.getD
 rw [List.getElem?_map]
 cases turn[i]? with
 | none => simp
 | some l => exact (mir_perm l).length_eq
theorem mir_sizes {g : Gr} {p : Pt} {turn same : List (List Int)} (h : planErr g p turn same = 0) (hqv : p.v.length ≤ 60) (hqe : p.e.length ≤ 60) (hT : turn.length ≤ 100) (hr : ∀ i, (turn.getD i []).length ≤ 200) :
  (mirTurn turn).length ≤ 100 ∧ (∀ i, ((mirTurn turn).getD i []).length ≤ 200) ∧ sumLen (mirTurn turn) (mirTurn turn).length ≤ 20000 ∧ (mirSame g p turn same).length ≤ 1000 ∧ ∀ i, ((mirSame g p turn same).getD i []).length ≤ 1000 := by
 have hl : (mirTurn turn).length ≤ 100 := by unfold mirTurn; rw [List.length_map]; exact hT
 have hrr : ∀ i, ((mirTurn turn).getD i []).length ≤ 200 := fun i => by rw [mir_row]; exact hr i
 obtain ⟨hpe, hto⟩ := zero_ok h
 have hwl := (walks_ok hpe (mirTurn_ok hto)).len
 have hs := sumLen_le hrr (mirTurn turn).length
 have hm : (mirTurn turn).length * 200 ≤ 100 * 200 := Nat.mul_le_mul_right _ hl
 refine ⟨hl, hrr, by omega, Nat.le_trans grps_lens.1 (by omega), fun i => Nat.le_trans (grps_lens.2 i) (by omega)⟩
end Plain
end Go.Proofs.Ytckjpaimbmlboaa
namespace Go.Proofs.Ytckjpaimbmlboaa.Plain
def abt (cy : List Int) : List Int := (cy.map twin).reverse
theorem abt_len (cy : List Int) : (abt cy).length = cy.length := by unfold abt; simp
theorem getD_lt {l : List Int} {k : Nat} (h : k < l.length) : l.getD k 0 = l[k] := by simp [List.getD, h]
theorem abt_at {cy : List Int} {k : Nat} (hk : k < cy.length) : (abt cy).getD k 0 = twin (cy.getD (cy.length - 1 - k) 0) := by
 have e : abt cy = (cy.map twin).reverse := rfl
 have h1 : k < ((cy.map twin).reverse).length := by simpa using hk
 have h2 : cy.length - 1 - k < cy.length := by omega
 rw [e, getD_lt h1, getD_lt h2, List.getElem_reverse, List.getElem_map]
 congr 2
 simp
theorem mem_abt {cy : List Int} {d : Int} : d ∈ abt cy ↔ twin d ∈ cy := by
 unfold abt
 rw [List.mem_reverse, List.mem_map]
 constructor
 ·rintro ⟨x, hx, rfl⟩; rw [twin_twin]; exact hx
 intro h; exact ⟨_, h, twin_twin d⟩
theorem abt_half {cy : List Int} {e : Int} : e ∈ (abt cy).map (· / 2) ↔ e ∈ cy.map (· / 2) := by
 constructor
 ·intro h
  obtain ⟨x, hx, h2⟩ := List.mem_map.1 h
  have h2 : x / 2 = e := h2
  exact List.mem_map.2 ⟨twin x, mem_abt.1 hx, by show twin x / 2 = e; rw [twin_div]; exact h2⟩
 intro h
 obtain ⟨x, hx, h2⟩ := List.mem_map.1 h
 have h2 : x / 2 = e := h2
 exact List.mem_map.2 ⟨twin x, mem_abt.2 (by rw [twin_twin]; exact hx), by show twin x / 2 = e; rw [twin_div]; exact h2⟩
theorem sideRel_congr {L : Int → Option Int} {p : Pt} {cy cz : List Int} (h : ∀ e, e ∈ cy.map (· / 2) ↔ e ∈ cz.map (· / 2)) {x y : Int} : sideRel L p cy x y ↔ sideRel L p cz x y := by
 have e : ∀ k, sideJoin L p cy k = sideJoin L p cz k := by
  intro k
  induction k with
  | zero => rfl
  | succ k ih =>
   by_cases q : p.e.getD k 0 ∈ cy.map (· / 2)
   ·rw [sideJoin_on q, sideJoin_on ((h _).1 q), ih]
   rw [sideJoin_off q, sideJoin_off (fun m => q ((h _).2 m)), ih]
 unfold sideRel
 rw [e]
section
variable {g : Gr} {p : Pt} {turn same : List (List Int)} {cy : List Int}
theorem cyc_place (h : cycOk g p cy = true) {k : Nat} (hk : k < cy.length) : (∀ i, i < k → g.tail (cy.getD i 0) ≠ g.tail (cy.getD k 0)) ∧ (∀ i, i < k → cy.getD i 0 / 2 ≠ cy.getD k 0 / 2) ∧ g.head (befAt cy k) = g.tail (cy.getD k 0) := by
 have := (cyc_split h).2.2.2 k hk
 unfold cycAt at this
 rw [Bool.and_eq_true, Bool.not_eq_true', Bool.or_eq_false_iff] at this
 obtain ⟨⟨h1, h2⟩, h3⟩ := this
 have n1 : lastAt g.tail cy k (g.tail (cy.getD k 0)) = none := by simpa using h1
 have n2 : lastAt (· / 2) cy k (cy.getD k 0 / 2) = none := by simpa using h2
 exact ⟨lastAt_none.1 n1, lastAt_none.1 n2, of_decide_eq_true h3⟩
theorem cyc_tail (h : cycOk g p cy = true) {i k : Nat} (hi : i < cy.length) (hk : k < cy.length) (e : g.tail (cy.getD i 0) = g.tail (cy.getD k 0)) : i = k := by
 rcases Nat.lt_trichotomy i k with q | q | q
 ·exact absurd e ((cyc_place h hk).1 i q)
 ·exact q
 exact absurd e.symm ((cyc_place h hi).1 k q)
theorem cyc_edge (h : cycOk g p cy = true) {i k : Nat} (hi : i < cy.length) (hk : k < cy.length) (e : cy.getD i 0 / 2 = cy.getD k 0 / 2) : i = k := by
 rcases Nat.lt_trichotomy i k with q | q | q
 ·exact absurd e ((cyc_place h hk).2.1 i q)
 ·exact q
 exact absurd e.symm ((cyc_place h hi).2.1 k q)
def nxtAt (cy : List Int) (k : Nat) : Nat := if k + 1 < cy.length then k + 1 else 0
theorem nxtAt_lt {k : Nat} (hk : k < cy.length) : nxtAt cy k < cy.length := by unfold nxtAt; split <;> omega
theorem bef_nxt {k : Nat} (hk : k < cy.length) : befAt cy (nxtAt cy k) = cy.getD k 0 := by
 unfold nxtAt
 by_cases e : k + 1 < cy.length
 ·rw [if_pos e, befAt_succ]
 rw [if_neg e, befAt_zero, show cy.length - 1 = k by omega]
theorem cyc_next (h : cycOk g p cy = true) {k : Nat} (hk : k < cy.length) : g.head (cy.getD k 0) = g.tail (cy.getD (nxtAt cy k) 0) := by
 rw [← bef_nxt hk]
 exact (cyc_place h (nxtAt_lt hk)).2.2
theorem cyc_headne (h : cycOk g p cy = true) {i k : Nat} (hi : i < cy.length) (hk : k < cy.length) (e : g.head (cy.getD i 0) = g.head (cy.getD k 0)) : i = k := by
 rw [cyc_next h hi, cyc_next h hk] at e
 have := cyc_tail h (nxtAt_lt hi) (nxtAt_lt hk) e
 unfold nxtAt at this
 split at this <;> split at this <;> omega
theorem abt_cyc (h : cycOk g p cy = true) : cycOk g p (abt cy) = true := by
 obtain ⟨h0, h1, h2, h3⟩ := cyc_split h
 refine cyc_ok h0 (by rw [abt_len]; exact h1) (fun k hk => ?_) fun k hk => ?_
 ·rw [abt_len] at hk
  have := h2 (cy.length - 1 - k) (by omega)
  unfold dartAt at this ⊢
  rw [decide_eq_true_iff] at this ⊢
  rw [abt_at hk, twin_div]
  exact ⟨twin_pos this.1, this.2⟩
 rw [abt_len] at hk
 have ha := abt_at hk
 unfold cycAt
 rw [Bool.and_eq_true, Bool.not_eq_true', Bool.or_eq_false_iff]
 refine ⟨⟨?_, ?_⟩, decide_eq_true ?_⟩
 ·have : lastAt g.tail (abt cy) k (g.tail ((abt cy).getD k 0)) = none := lastAt_none.2 fun i hi e => by
   rw [ha, abt_at (show i < cy.length by omega), tail_twin, tail_twin] at e
   have := cyc_headne h (by omega) (by omega) e
   omega
  rw [this]; rfl
 ·have : lastAt (· / 2) (abt cy) k ((abt cy).getD k 0 / 2) = none := lastAt_none.2 fun i hi e => by
   have e : (abt cy).getD i 0 / 2 = (abt cy).getD k 0 / 2 := e
   rw [ha, abt_at (show i < cy.length by omega), twin_div, twin_div] at e
   have := cyc_edge h (by omega) (by omega) e
   omega
  rw [this]; rfl
 have hb : befAt (abt cy) k = twin (cy.getD (nxtAt cy (cy.length - 1 - k)) 0) := by
  unfold befAt nxtAt
  by_cases e : k = 0
  ·subst e
   rw [if_pos rfl, if_neg (by omega), abt_len, abt_at (by omega), show cy.length - 1 - (cy.length - 1) = 0 by omega]
  rw [if_neg e, if_pos (by omega), abt_at (by omega), show cy.length - 1 - (k - 1) = cy.length - 1 - k + 1 by omega]
 rw [hb, ha, tail_twin, ← tail_twin g (twin _), twin_twin]
 exact (cyc_next h (by omega)).symm
def cycPt (g : Gr) (p : Pt) (cy : List Int) : Pt := ⟨p.v.filter fun v => decide (v ∈ cy.map g.tail), p.e.filter fun e => decide (e ∈ cy.map (· / 2))⟩
theorem mem_cycE (h : cycOk g p cy = true) {e : Int} : e ∈ (cycPt g p cy).e ↔ e ∈ cy.map (· / 2) := by
 show e ∈ p.e.filter _ ↔ _
 rw [List.mem_filter, decide_eq_true_iff]
 refine ⟨fun k => k.2, fun k => ⟨?_, k⟩⟩
 obtain ⟨x, hx, e2⟩ := List.mem_map.1 k
 have e2 : x / 2 = e := e2
 rw [← e2]
 exact mem_darts.1 (cyc_mem h hx)
theorem mem_cycV (h : cycOk g p cy = true) {v : Int} : v ∈ (cycPt g p cy).v ↔ v ∈ cy.map g.tail := by
 show v ∈ p.v.filter _ ↔ _
 rw [List.mem_filter, decide_eq_true_iff]
 refine ⟨fun k => k.2, fun k => ⟨?_, k⟩⟩
 obtain ⟨x, hx, rfl⟩ := List.mem_map.1 k
 exact ((Pt.ok_of_err (cyc_split h).1).tail_mem (cyc_mem h hx)).1
theorem cyc_err0 (h : cycOk g p cy = true) : (cycPt g p cy).err g = 0 := by
 obtain ⟨h1, h2, h3, h4⟩ := Pt.err_ok (cyc_split h).1
 unfold Pt.err
 rw [if_neg (by simp [h1]), if_neg (by unfold cycPt; rw [rises_filter h3, rises_filter h2]; simp), if_pos]
 rw [List.all_eq_true]
 intro i hi
 have hi := List.mem_range.1 hi
 obtain ⟨e, he⟩ : ∃ e, (cycPt g p cy).e.getD i 0 = e := ⟨_, rfl⟩
 have hm := getD_mem hi
 rw [he] at hm
 have hc := (mem_cycE h).1 hm
 have d1 := cyc_ends h (d := 2 * e) (by rwa [show 2 * e / 2 = e by omega])
 have d2 := cyc_ends h (d := 2 * e + 1) (by rwa [show (2 * e + 1) / 2 = e by omega])
 have a1 := (mem_cycV h).2 d1
 have a2 := (mem_cycV h).2 d2
 unfold Gr.tail at a1 a2
 rw [if_pos (by omega), show 2 * e / 2 = e by omega] at a1
 rw [if_neg (by omega), show (2 * e + 1) / 2 = e by omega] at a2
 unfold Pt.okEdge
 rw [he]
 unfold Gr.at at a1 a2
 rw [decide_eq_true a1, decide_eq_true a2]; rfl
theorem cyc_subs (hz : planErr g p turn same = 0) (h : cycOk g p cy = true) : Subs g p (cycPt g p cy) turn :=
 ⟨(zero_ok hz).1, cyc_err0 h, (zero_ok hz).2, fun _ he => (List.mem_filter.1 he).1, fun _ hv => (List.mem_filter.1 hv).1⟩
theorem ahead_two {l : List Int} {a b : Int} (hn : l.Nodup) (hm : ∀ x, x ∈ l ↔ x = a ∨ x = b) (hab : a ≠ b) : ahead l a = b := by
 match l, hn, hm with
 | [], _, hm => exact absurd ((hm a).2 (Or.inl rfl)) (by simp)
 | [x], _, hm =>
  have h1 := (hm a).2 (Or.inl rfl)
  have h2 := (hm b).2 (Or.inr rfl)
  simp at h1 h2
  exact absurd (h1.trans h2.symm) hab
 | [x, y], hn, hm =>
  have hxy : x ≠ y := by simpa using hn
  rcases (hm x).1 (by simp) with rfl | rfl
  ·rcases (hm y).1 (by simp) with rfl | rfl
   ·exact absurd rfl hxy
   simp [ahead]
  rcases (hm y).1 (by simp) with rfl | rfl
  ·have hb : (x == y) = false := by simpa using hxy
   unfold ahead
   rw [List.idxOf_cons, hb]
   simp
  exact absurd rfl hxy
 | x :: y :: z :: m, hn, hm =>
  exfalso
  have hxy : x ≠ y ∧ x ≠ z ∧ y ≠ z := by simp at hn; exact ⟨hn.1.1, hn.1.2.1, hn.2.1.1⟩
  have h1 := (hm x).1 (by simp)
  have h2 := (hm y).1 (by simp)
  have h3 := (hm z).1 (by simp)
  rcases h1 with rfl | rfl <;> rcases h2 with rfl | rfl <;> rcases h3 with h3 | h3 <;> simp_all
theorem cyc_turn (hz : planErr g p turn same = 0) (h : cycOk g p cy = true) {k : Nat} (hk : k < cy.length) (x : Int) : x ∈ turnAt (restTurn (cycPt g p cy).e turn) (g.tail (cy.getD k 0)) ↔ x = twin (befAt cy k) ∨ x = cy.getD k 0 := by
 have hs := cyc_subs hz h
 have hdk := cyc_mem h (getD_mem hk)
 have hv := dart_ends hs.pk hdk
 rw [hs.turns.mem _ hv.1 hv.2, mem_darts, mem_cycE h]
 constructor
 ·rintro ⟨h1, h2⟩
  obtain ⟨y, hy, e⟩ := List.mem_map.1 h1
  have e : y / 2 = x / 2 := e
  obtain ⟨j, hj, rfl⟩ := mem_getD hy
  by_cases q : x = cy.getD j 0
  ·rw [q] at h2
   have := cyc_tail h hj hk h2
   rw [← this]; exact Or.inr q
  have hx : x = twin (cy.getD j 0) := by unfold twin; split <;> omega
  rw [hx, tail_twin, cyc_next h hj] at h2
  have := cyc_tail h (nxtAt_lt hj) hk h2
  rw [hx, ← this, bef_nxt hj]; exact Or.inl rfl
 have hb : ∃ j, j < cy.length ∧ befAt cy k = cy.getD j 0 := by
  unfold befAt
  split
  ·exact ⟨_, by omega, rfl⟩
  exact ⟨_, by omega, rfl⟩
 rintro (rfl | rfl)
 ·obtain ⟨j, hj, e⟩ := hb
  refine ⟨?_, by rw [tail_twin]; exact (cyc_place h hk).2.2⟩
  rw [twin_div, e]
  exact List.mem_map.2 ⟨_, getD_mem hj, rfl⟩
 exact ⟨List.mem_map.2 ⟨_, getD_mem hk, rfl⟩, rfl⟩
theorem cyc_apart (h : cycOk g p cy = true) {k : Nat} (hk : k < cy.length) : twin (befAt cy k) ≠ cy.getD k 0 := by
 intro e
 have hb : ∃ j, j < cy.length ∧ befAt cy k = cy.getD j 0 := by
  unfold befAt
  split
  ·exact ⟨_, by omega, rfl⟩
  exact ⟨_, by omega, rfl⟩
 obtain ⟨j, hj, e2⟩ := hb
 rw [e2] at e
 have : j = k := cyc_edge h hj hk (by rw [← e, twin_div])
 subst this
 exact absurd e (by unfold twin; split <;> omega)
def CycR (g : Gr) (p : Pt) (turn same : List (List Int)) (cy : List Int) : Int → Int → Prop := GenR g p (cycPt g p cy) turn same
theorem CycR.eqv : Eqv (CycR g p turn same cy) := GenR.eqv
theorem cyc_step (hz : planErr g p turn same = 0) (h : cycOk g p cy = true) {u : Int} (hu : u ∈ (cycPt g p cy).darts) : CycR g p turn same cy u (before g (restTurn (cycPt g p cy).e turn) (twin u)) := by
 have hs := cyc_subs hz h
 have hne : p.v ≠ [] := List.ne_nil_of_mem (hs.subv _ (hs.qk.tail_mem hu).1)
 have cut := rest_cut hz hs hne
 have hup := hs.darts hu
 have htp := twin_mem hup
 have htq := twin_mem hu
 have hR : Eqv (GenR g p (cycPt g p cy) turn same) := GenR.eqv
 have s1 := cut.left u ((all_ground hs.pk).2 (Or.inl hup))
 rw [go_dart hs.pk hs.qk.en hup (mem_darts.1 hu)] at s1
 have hb : before g turn (twin u) ∈ ground g p turn p.v := by
  have := (vert_bef hs.pk hs.to_ (Stretch.all hs.pk) ((all_ground hs.pk).2 (Or.inl htp))).1
  unfold bef at this
  rwa [if_neg (by have := dart_pos hs.pk htp; omega)] at this
 have s2 := stand_rel hs hR (fun y hy hyq => by
  have := cut.left y ((all_ground hs.pk).2 (Or.inl hy))
  rwa [go_off hs.pk hs.qk.en hy (fun m => hyq (mem_darts.2 m))] at this) hb
 rw [lnd_next hs htq] at s2
 have hr : before g (restTurn (cycPt g p cy).e turn) (twin u) ∈ (cycPt g p cy).darts := by
  have := (vert_bef hs.qk hs.turns (Stretch.all hs.qk) ((all_ground hs.qk).2 (Or.inl htq))).1
  unfold bef at this
  rw [if_neg (by have := dart_pos hs.pk htp; omega)] at this
  rcases (all_ground hs.qk).1 this with q | ⟨v, hv, hv2, -⟩
  ·exact q
  have hm := (ahead_mem (hs.turns.nodup (g.tail (twin u))) (dart_turn hs.qk hs.turns htq))
  exact (turn_dart hs.qk hs.turns (hs.qk.tail_mem htq).1 hm).1
 unfold stand at s2
 rw [if_neg (by have := dart_pos hs.qk hr; omega)] at s2
 exact hR.trans s1 s2
theorem cyc_dart_q (h : cycOk g p cy = true) {k : Nat} (hk : k < cy.length) : cy.getD k 0 ∈ (cycPt g p cy).darts := mem_darts.2 ((mem_cycE h).2 (List.mem_map.2 ⟨_, getD_mem hk, rfl⟩))
theorem bef_is (hk0 : 0 < cy.length) (k : Nat) (hk : k < cy.length) : ∃ j, j < cy.length ∧ befAt cy k = cy.getD j 0 := by
 unfold befAt
 split
 ·exact ⟨_, by omega, rfl⟩
 exact ⟨_, by omega, rfl⟩
theorem cyc_on (hz : planErr g p turn same = 0) (h : cycOk g p cy = true) {k : Nat} (hk : k < cy.length) : CycR g p turn same cy (befAt cy k) (cy.getD k 0) ∧ CycR g p turn same cy (twin (cy.getD k 0)) (twin (befAt cy k)) := by
 have hs := cyc_subs hz h
 obtain ⟨j, hj, e⟩ := bef_is (cy := cy) (by omega) k hk
 have hb := cyc_dart_q h hj
 rw [← e] at hb
 have hd := cyc_dart_q h hk
 have hn := hs.turns.nodup (g.tail (cy.getD k 0))
 have hm := cyc_turn hz h hk
 have ha := cyc_apart h hk
 constructor
 ·have := cyc_step hz h hb
  unfold before at this
  rw [tail_twin, (cyc_place h hk).2.2, ahead_two hn hm ha] at this
  exact this
 have := cyc_step hz h (twin_mem hd)
 rw [twin_twin] at this
 unfold before at this
 rw [ahead_two hn (fun x => (hm x).trans or_comm) ha.symm] at this
 exact this
theorem cyc_one (hz : planErr g p turn same = 0) (h : cycOk g p cy = true) : ∀ k, k < cy.length → CycR g p turn same cy (cy.getD 0 0) (cy.getD k 0) ∧ CycR g p turn same cy (twin (cy.getD 0 0)) (twin (cy.getD k 0)) := by
 have hR : Eqv (CycR g p turn same cy) := CycR.eqv
 intro k
 induction k with
 | zero => intro _; exact ⟨hR.refl _, hR.refl _⟩
 | succ k ih =>
  intro hk
  obtain ⟨a1, a2⟩ := ih (by omega)
  obtain ⟨b1, b2⟩ := cyc_on hz h hk
  rw [befAt_succ] at b1 b2
  exact ⟨hR.trans a1 b1, hR.trans a2 (hR.symm b2)⟩
theorem cyc_either (hz : planErr g p turn same = 0) (h : cycOk g p cy = true) {x : Int} (hx : x ∈ ground g p turn p.v) : CycR g p turn same cy x (cy.getD 0 0) ∨ CycR g p turn same cy x (twin (cy.getD 0 0)) := by
 have hs := cyc_subs hz h
 have hR : Eqv (CycR g p turn same cy) := CycR.eqv
 have h1 := (cyc_split h).2.1
 have hqn : (cycPt g p cy).v ≠ [] := List.ne_nil_of_mem ((mem_cycV h).2 (List.mem_map.2 ⟨_, getD_mem h1, rfl⟩))
 obtain ⟨f, hf, hxf⟩ := walk_any hz hs hqn hx
 have hW := walks_ok hs.qe hs.turns
 have hfn : f.2 ≠ [] := by
  intro e
  obtain ⟨v, hv, hv0, -⟩ := lone_of hW.faces hf e
  obtain ⟨d, hd, rfl⟩ := List.mem_map.1 ((mem_cycV h).1 hv)
  obtain ⟨k, hk, rfl⟩ := mem_getD hd
  have := (cyc_turn hz h hk (cy.getD k 0)).2 (Or.inr rfl)
  rw [hv0] at this
  cases this
 have hp : place turn f = f.1 := if_neg hfn
 rw [hp] at hxf
 have hk := (key_mark hs.qe hs.turns hf).1
 rw [marks_some hfn] at hk
 obtain ⟨hd, -⟩ := walk_const hs.qk hs.turns hW.faces (comp_closed hs.qk 0) hf hk
 obtain ⟨y, hy, e⟩ := List.mem_map.1 ((mem_cycE h).1 (mem_darts.1 hd))
 have e : y / 2 = f.1 / 2 := e
 obtain ⟨j, hj, rfl⟩ := mem_getD hy
 obtain ⟨o1, o2⟩ := cyc_one hz h j hj
 by_cases q : f.1 = cy.getD j 0
 ·left; rw [q] at hxf; exact hR.trans hxf (hR.symm o1)
 have q : f.1 = twin (cy.getD j 0) := by unfold twin; split <;> omega
 right; rw [q] at hxf; exact hR.trans hxf (hR.symm o2)
theorem cyc_not (hz : planErr g p turn same = 0) (h : cycOk g p cy = true) : ¬ CycR g p turn same cy (cy.getD 0 0) (twin (cy.getD 0 0)) := by
 intro hc
 have hs := cyc_subs hz h
 have hR : Eqv (CycR g p turn same cy) := CycR.eqv
 have h1 := (cyc_split h).2.1
 have hv := (mem_cycV h).2 (List.mem_map.2 ⟨_, getD_mem h1, rfl⟩)
 have hqn : (cycPt g p cy).v ≠ [] := List.ne_nil_of_mem hv
 obtain ⟨c1, c2⟩ := rest_counts hz hs hqn
 have hr := (piece_at hs.qk hv).1
 have hle : cnt (CycR g p turn same cy) (ground g p turn p.v) ≤ 1 := cnt_le_one hR fun x hx y hy => by
  have a : ∀ z ∈ ground g p turn p.v, CycR g p turn same cy z (cy.getD 0 0) := fun z hz2 => by
   rcases cyc_either hz h hz2 with q | q
   ·exact q
   exact hR.trans q (hR.symm hc)
  exact hR.trans (a x hx) (hR.symm (a y hy))
 have nd : ∀ f : Int → Int, (∀ i k, i < cy.length → k < cy.length → f (cy.getD i 0) = f (cy.getD k 0) → i = k) → (cy.map f).Nodup := fun f hf => by
  rw [List.Nodup, List.pairwise_iff_getElem]
  intro i j hi hj hij e
  rw [List.length_map] at hi hj
  rw [List.getElem_map, List.getElem_map, ← getD_lt hi, ← getD_lt hj] at e
  have := hf i j hi hj e
  omega
 have l1 : (cycPt g p cy).v.length = cy.length := by
  refine Eq.trans ?_ (show (cy.map (g.tail)).length = cy.length by simp)
  exact ((List.perm_ext_iff_of_nodup hs.qk.vn (nd g.tail fun i k hi hk => cyc_tail h hi hk)).2 fun v => mem_cycV h).length_eq
 have l2 : (cycPt g p cy).e.length = cy.length := by
  refine Eq.trans ?_ (show (cy.map (fun x : Int => x / 2)).length = cy.length by simp)
  exact ((List.perm_ext_iff_of_nodup hs.qk.en (nd (· / 2) fun i k hi hk => cyc_edge h hi hk)).2 fun v => mem_cycE h).length_eq
 have hle : cnt (GenR g p (cycPt g p cy) turn same) (ground g p turn p.v) ≤ 1 := hle
 omega
end
section
variable {g : Gr} {p : Pt} {turn same : List (List Int)} {cy : List Int}
theorem left_some (hz : planErr g p turn same = 0) {x : Int} (hx : x ∈ ground g p turn p.v) : leftOf (regionsOf g p turn same) (walksOf g p turn) x = some (lof g p turn same x) := by
 obtain ⟨hpe, hto⟩ := zero_ok hz
 have hW := walks_ok hpe hto
 obtain ⟨f, hf, hy⟩ := mark_of hpe hto hx
 obtain ⟨i, hi, hfi⟩ := List.getElem_of_mem hf
 have hp8 := places8_getD hi
 rw [show (walksOf g p turn).getD i (0, []) = f by simp [List.getD, hi, hfi]] at hp8
 have h1 : ∃ a, leftOf (regionsOf g p turn same) (walksOf g p turn) x = some a := by
  unfold leftOf
  rw [regionAt_hit (places_nodup hpe hW) (by rw [places8_len]; exact hi) (by rw [hp8]; exact hy)]
  exact ⟨_, rfl⟩
 obtain ⟨a, e⟩ := h1
 unfold lof lf
 rw [e]; rfl
theorem cyc_rel (h : cycOk g p cy = true) {x y : Int} : CycR g p turn same cy x y ↔ sideRel (leftOf (regionsOf g p turn same) (walksOf g p turn)) p cy (lof g p turn same x) (lof g p turn same y) :=
 gen_side.trans (sideRel_congr fun e => by rw [evens_half]; exact mem_cycE h)
open Classical in
theorem side_is (hz : planErr g p turn same = 0) (h : cycOk g p cy = true) {x : Int} (hx : x ∈ ground g p turn p.v) : sideAt g p turn same cy x = some (if CycR g p turn same cy x (cy.getD 0 0) then 1 else 2) := by
 unfold sideAt sideOf
 rw [left_some hz hx]
 show some (sideNo _ p cy _) = _
 congr 1
 unfold sideNo
 have hh : sideHead (leftOf (regionsOf g p turn same) (walksOf g p turn)) cy = lof g p turn same (cy.getD 0 0) := rfl
 have he := Iff.trans (sideNo_iff (leftOf (regionsOf g p turn same) (walksOf g p turn)) p cy (lof g p turn same x)) (cyc_rel (x := x) (y := cy.getD 0 0) h).symm
 by_cases q : CycR g p turn same cy x (cy.getD 0 0)
 ·rw [if_pos q, if_pos (he.2 q)]
 rw [if_neg q, if_neg fun m => q (he.1 m)]
theorem abt_pt (h : cycOk g p cy = true) : cycPt g p (abt cy) = cycPt g p cy := by
 have e1 : ∀ v, v ∈ (abt cy).map g.tail ↔ v ∈ cy.map g.tail := by
  have h2 := abt_cyc h
  have one : ∀ {c d : List Int}, cycOk g p c = true → (∀ e, e ∈ c.map (· / 2) ↔ e ∈ d.map (· / 2)) → cycOk g p d = true → ∀ v, v ∈ c.map g.tail → v ∈ d.map g.tail := fun {c d} hc he hd v hv => by
   obtain ⟨x, hx, rfl⟩ := List.mem_map.1 hv
   exact cyc_ends hd ((he _).1 (List.mem_map.2 ⟨x, hx, rfl⟩))
  exact fun v => ⟨one h2 (fun e => abt_half) h v, one h (fun e => abt_half.symm) h2 v⟩
 unfold cycPt
 congr 1
 ·exact List.filter_congr fun v _ => decide_eq_decide.2 (e1 v)
 exact List.filter_congr fun v _ => decide_eq_decide.2 abt_half
theorem cyc_far (hz : planErr g p turn same = 0) (h : cycOk g p cy = true) {x : Int} (hx : x ∈ ground g p turn p.v) : CycR g p turn same cy x (twin (cy.getD 0 0)) ↔ ¬ CycR g p turn same cy x (cy.getD 0 0) := by
 have hR : Eqv (CycR g p turn same cy) := CycR.eqv
 constructor
 ·exact fun a b => cyc_not hz h (hR.trans (hR.symm b) a)
 intro a
 rcases cyc_either hz h hx with q | q
 ·exact absurd q a
 exact q
open Classical in
theorem side_abt (hz : planErr g p turn same = 0) (h : cycOk g p cy = true) {x : Int} (hx : x ∈ ground g p turn p.v) : sideAt g p turn same (abt cy) x = some (if CycR g p turn same cy x (cy.getD 0 0) then 2 else 1) := by
 have hR : Eqv (CycR g p turn same cy) := CycR.eqv
 have h1 := (cyc_split h).2.1
 rw [side_is hz (abt_cyc h) hx]
 have e : CycR g p turn same (abt cy) x ((abt cy).getD 0 0) ↔ CycR g p turn same cy x (twin (cy.getD 0 0)) := by
  unfold CycR
  rw [abt_pt h, abt_at h1]
  have o := (cyc_one hz h (cy.length - 1 - 0) (by omega)).2
  exact ⟨fun a => hR.trans a (hR.symm o), fun a => hR.trans a o⟩
 by_cases q : CycR g p turn same cy x (cy.getD 0 0)
 ·rw [if_pos q, if_neg (fun m => (cyc_far hz h hx).1 (e.1 m) q)]
 rw [if_neg q, if_pos (e.2 ((cyc_far hz h hx).2 q))]
open Classical in
theorem side_mir (hz : planErr g p turn same = 0) (h : cycOk g p cy = true) {x : Int} (hx : x ∈ ground g p turn p.v) : sideAt g p (mirTurn turn) (mirSame g p turn same) cy x = some (if CycR g p turn same cy (tau x) (cy.getD 0 0) then 2 else 1) := by
 have h1 := (cyc_split h).2.1
 have hpk := Pt.ok_of_err (cyc_split h).1
 have hxm := (mir_ground (turn := turn) hpk).2 hx
 have hd := cyc_mem h (getD_mem h1)
 have hdg : cy.getD 0 0 ∈ ground g p turn p.v := (all_ground hpk).2 (Or.inl hd)
 rw [side_is (mir_right hz) h hxm]
 have e : CycR g p (mirTurn turn) (mirSame g p turn same) cy x (cy.getD 0 0) ↔ CycR g p turn same cy (tau x) (twin (cy.getD 0 0)) := by
  have := gen_mir hz (cyc_subs hz h) hx hdg
  rw [tau_dart hpk hd] at this
  exact this
 have hf := cyc_far hz h (tau_ground hpk hx)
 by_cases q : CycR g p turn same cy (tau x) (cy.getD 0 0)
 ·rw [if_pos q, if_neg (fun m => hf.1 (e.1 m) q)]
 rw [if_neg q, if_pos (e.2 (hf.2 q))]
theorem cyc_edge_one (h : cycOk g p cy = true) {x : Int} (hx : x ∈ p.darts) (hn : x / 2 ∉ cy.map (· / 2)) : CycR g p turn same cy (twin x) x := by
 have hR : Eqv (CycR g p turn same cy) := CycR.eqv
 have he : CycR g p turn same cy (2 * (x / 2)) (2 * (x / 2) + 1) := Gen.edge (RegR.eqv g p turn same) (by
  rw [List.append_nil, List.mem_reverse]
  exact List.mem_filter.2 ⟨mem_darts.1 hx, decide_eq_true fun m => hn ((mem_cycE h).1 m)⟩)
 rcases twin_cases x with ⟨e1, e2⟩ | ⟨e1, e2⟩
 ·have := hR.symm he
  rw [← e2, ← e1] at this
  exact this
 rw [← e1, ← e2] at he
 exact he
theorem abt_edge (hz : planErr g p turn same = 0) (h : cycOk g p cy = true) (e : Int) :
  (allE g p turn same (abt cy) e).isSome = (allE g p turn same cy e).isSome ∧ (allE g p (mirTurn turn) (mirSame g p turn same) cy e).isSome = (allE g p turn same cy e).isSome ∧
  ((allE g p turn same cy e).isSome = true → ((allE g p turn same cy e).getD 0 + (allE g p turn same (abt cy) e).getD 0 = 3 ∨ (allE g p turn same cy e).getD 0 + (allE g p turn same (abt cy) e).getD 0 = 0) ∧ (allE g p (mirTurn turn) (mirSame g p turn same) cy e).getD 0 = (allE g p turn same (abt cy) e).getD 0) := by
 have hpk := Pt.ok_of_err (cyc_split h).1
 unfold allE eon
 rw [List.take_length, List.take_length]
 by_cases q : e ∈ cy.map (· / 2)
 ·rw [if_pos q, if_pos q, if_pos (abt_half.2 q)]
  exact ⟨rfl, rfl, fun _ => ⟨Or.inr rfl, rfl⟩⟩
 rw [if_neg q, if_neg q, if_neg (fun m => q (abt_half.1 m))]
 unfold eside
 rw [List.take_length]
 by_cases k : e ∈ p.e
 ·rw [if_pos k, if_pos k, if_pos k]
  have hd : 2 * e ∈ p.darts := mem_darts.2 (by rwa [show 2 * e / 2 = e by omega])
  have hg : 2 * e ∈ ground g p turn p.v := (all_ground hpk).2 (Or.inl hd)
  have ht := cyc_edge_one (turn := turn) (same := same) h hd (by rwa [show 2 * e / 2 = e by omega])
  have hR : Eqv (CycR g p turn same cy) := CycR.eqv
  rw [side_is hz h hg, side_abt hz h hg, side_mir hz h hg, tau_dart hpk hd]
  refine ⟨rfl, rfl, fun _ => ?_⟩
  by_cases m : CycR g p turn same cy (2 * e) (cy.getD 0 0)
  ·rw [if_pos m, if_pos m, if_pos (hR.trans ht m)]; exact ⟨Or.inl rfl, rfl⟩
  rw [if_neg m, if_neg m, if_neg (fun n => m (hR.trans (hR.symm ht) n))]; exact ⟨Or.inl rfl, rfl⟩
 rw [if_neg k, if_neg k, if_neg k]
 exact ⟨rfl, rfl, fun h => by cases h⟩
theorem abt_vert (hz : planErr g p turn same = 0) (h : cycOk g p cy = true) (v : Int) :
  (allV g p turn same (abt cy) v).isSome = (allV g p turn same cy v).isSome ∧ (allV g p (mirTurn turn) (mirSame g p turn same) cy v).isSome = (allV g p turn same cy v).isSome ∧
  ((allV g p turn same cy v).isSome = true → ((allV g p turn same cy v).getD 0 + (allV g p turn same (abt cy) v).getD 0 = 3 ∨ (allV g p turn same cy v).getD 0 + (allV g p turn same (abt cy) v).getD 0 = 0) ∧ (allV g p (mirTurn turn) (mirSame g p turn same) cy v).getD 0 = (allV g p turn same (abt cy) v).getD 0) := by
 obtain ⟨hpe, hto⟩ := zero_ok hz
 have hpk := Pt.ok_of_err hpe
 have hW := walks_ok hpe hto
 have hta : v ∈ (abt cy).map g.tail ↔ v ∈ cy.map g.tail := by
  rw [← mem_cycV (abt_cyc h), abt_pt h, mem_cycV h]
 unfold allV von
 rw [List.take_length, List.take_length]
 by_cases q : v ∈ cy.map g.tail
 ·rw [if_pos q, if_pos q, if_pos (hta.2 q)]
  exact ⟨rfl, rfl, fun _ => ⟨Or.inr rfl, rfl⟩⟩
 rw [if_neg q, if_neg q, if_neg (fun m => q (hta.1 m))]
 unfold vside
 rw [List.take_length]
 by_cases k : v ∈ p.v
 ·rw [if_pos k, if_pos k, if_pos k]
  have hR : Eqv (CycR g p turn same cy) := CycR.eqv
  obtain ⟨s1, s2⟩ := seat_mem hpk hto k
  obtain ⟨m1, m2⟩ := seat_mem hpk (mirTurn_ok hto) k
  have m1 := (mir_ground (turn := turn) hpk).1 m1
  rw [side_is hz h s1, side_abt hz h s1, side_mir hz h m1]
  have hn : ∀ d ∈ p.darts, g.tail d = v → d / 2 ∉ cy.map (· / 2) := fun d hd e m => q (by rw [← e]; exact cyc_ends h m)
  have hone : CycR g p turn same cy (tau (seat (mirTurn turn) v)) (cy.getD 0 0) ↔ CycR g p turn same cy (seat turn v) (cy.getD 0 0) := by
   rcases (all_ground hpk).1 m1 with hd | ⟨u, hu, hu0, e⟩
   ·rw [vert_dart hpk hd] at m2
    have hx := side_around (ll := regionsOf g p turn same) hpe hto hW (hpk.vr v k).1 (hpk.vr v k).2 hn hd m2
    have hx : sideAt g p turn same cy (seat turn v) = sideAt g p turn same cy (seat (mirTurn turn) v) := hx
    rw [side_is hz h s1, side_is hz h m1] at hx
    have ht := cyc_edge_one (turn := turn) (same := same) h hd (hn _ hd m2)
    rw [tau_dart hpk hd]
    have e2 : CycR g p turn same cy (seat turn v) (cy.getD 0 0) ↔ CycR g p turn same cy (seat (mirTurn turn) v) (cy.getD 0 0) := by
     by_cases a : CycR g p turn same cy (seat turn v) (cy.getD 0 0) <;> by_cases b : CycR g p turn same cy (seat (mirTurn turn) v) (cy.getD 0 0)
     ·exact ⟨fun _ => b, fun _ => a⟩
     ·rw [if_pos a, if_neg b] at hx; simp at hx
     ·rw [if_neg a, if_pos b] at hx; simp at hx
     exact ⟨fun x => absurd x a, fun x => absurd x b⟩
    rw [e2]
    exact ⟨fun a => hR.trans (hR.symm ht) a, fun a => hR.trans ht a⟩
   have hu1 := (hpk.vr u hu).1
   rw [e, vert_lone hu1] at m2
   subst m2
   rw [e, tau_key (by omega)]
   have : seat turn u = -1 - u := by unfold seat; rw [hu0]; simp
   rw [this]
  refine ⟨rfl, rfl, fun _ => ?_⟩
  by_cases m : CycR g p turn same cy (seat turn v) (cy.getD 0 0)
  ·rw [if_pos m, if_pos m, if_pos (hone.2 m)]; exact ⟨Or.inl rfl, rfl⟩
  rw [if_neg m, if_neg m, if_neg (fun n => m (hone.1 n))]; exact ⟨Or.inl rfl, rfl⟩
 rw [if_neg k, if_neg k, if_neg k]
 exact ⟨rfl, rfl, fun h => by cases h⟩
end
end Go.Proofs.Ytckjpaimbmlboaa.Plain
namespace Go.Proofs.Ytckjpaimbmlboaa
open Go.RowKit Go.Maps
namespace Plain
theorem abt_snoc {l : List Int} {k : Nat} (hk : k < l.length) : abt (l.drop (k + 1)) ++ [twin (l.getD k 0)] = abt (l.drop k) := by
 have e : l.drop k = l.getD k 0 :: l.drop (k + 1) := by
  have : l.getD k 0 = l[k] := by simp [List.getD, hk]
  rw [this, List.drop_eq_getElem_cons hk]
 rw [e]; simp [abt]
end Plain
set_option maxRecDepth 100000 in
set_option maxHeartbeats 2000000 in
theorem about10_any (v : Value) (l : List Int) (w : World) (hn : l.length < 1000000000) (hd : ∀ d ∈ l, ∃ n : Nat, d = n ∧ n < 2048) (h : IntsAt w v l) :
  Calls Try.prog 20 #[v] w fun e w' => ∃ v', e = .returned v' ∧ RowAt w' w.heap.size v' (Plain.abt l) ∧ Chg [] w w' := by
 have HV := Lib.hid h
 obtain ⟨ao, ac, rfl, hI, -, -⟩ := h
 have HD := Lib.hid hd
 clear hI hd
 have wl : IntKind.i64.wrap ((l.length : Int) - 1) = (l.length : Int) - 1 := IntWalk.i64_in _ (by omega)
 go_enter Try.func20, Try.ntmps20
 go_wp2
 go_loopw [3, 4] (fun ov c wr => ∃ k : Nat, k ≤ l.length ∧ c = .int .i64 ((k : Int) - 1) ∧ RowAt wr w.heap.size ov (Plain.abt (l.drop k)) ∧ Chg [] w wr) (fun _ c _ => (intOf c + 1).toNat)
 case atStart => exact ⟨l.length, Nat.le_refl _, rfl, by rw [List.drop_length]; exact rowNil' _ _, Chg.refl _ _⟩
 case round =>
  obtain ⟨k, hk, rfl, hrow, hc⟩ := hrel
  have HROW := Lib.hid hrow
  have HC := Lib.hid hc
  have HB := Lib.hid (show w.heap.size ≤ wr.heap.size from hc.size)
  obtain ⟨oo, oc, rfl⟩ := hrow.shape
  have hkl : (Plain.abt (l.drop k)).length = l.length - k := by rw [Plain.abt_len]; simp
  by_cases h0 : k = 0
  ·subst h0
   have b0 : decide (((0 : Nat) : Int) - 1 ≥ 0) = false := decide_eq_false (by omega)
   clear hrow hc hkl
   go_wp2
   go_ret
   exact ⟨_, rfl, HROW.out, HC.out⟩
  obtain ⟨j, rfl⟩ : ∃ j, k = j + 1 := ⟨k - 1, by omega⟩
  have ej : ((j + 1 : Nat) : Int) - 1 = (j : Int) := by omega
  have hj : j < l.length := by omega
  obtain ⟨rb, roff, rfl, rc⟩ := IntsAt.cellAt HV.out hj
  have rcell := hc.cell rc (by simp)
  have HS := Lib.hid (Plain.abt_snoc hj)
  obtain ⟨n, hnn, hn2⟩ := HD.out _ (Plain.getD_mem hj)
  have IX : I64 (Plain.twin (n : Int)) := I64.mk (by unfold Plain.twin; split <;> omega) (by unfold Plain.twin; split <;> omega)
  rw [hnn] at rcell HS
  obtain ⟨M, hM⟩ : ∃ M, Plain.abt (l.drop (j + 1)) = M := ⟨_, rfl⟩
  rw [hM] at HS HROW hkl ⊢
  have hml : M.length < 4294967290 := by omega
  have wj : IntKind.i64.wrap ((j : Int) - 1) = (j : Int) - 1 := IntWalk.i64_in _ (by omega)
  rw [ej]
  clear rc hrow hc hnn hM h0 hkl
  go_wp2_with fail
  refine (twin_any n _ (by omega)).mono ?_
  rintro e w2 ⟨rfl, rfl⟩
  go_wp2_with (at_builtin; refine wl_push rfl _ _ rfl (B := w.heap.size) (v := .slice oo _ oc) rfl rfl HROW.out IX HB.out hml rfl ?_; intro v6 w6 r6 c6 f6; have R6 := Lib.hid r6; have C6 := Lib.hid c6; clear r6 c6 f6)
  go_roundw
  case rel => exact ⟨j, by omega, rfl, by rw [← HS.out]; exact R6.out, HC.out.trans C6.out (fun b hb => Or.inr (by rw [HROW.out.foot] at hb; exact (HROW.out.low b hb).1))⟩
  case measure => simp [intOf]
end Go.Proofs.Ytckjpaimbmlboaa
