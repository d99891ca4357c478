/- All blocks of a part: each one hangs together off each vertex, and a vertex takes each two apart. No program here. -/
import Derived.Test.YtpcgklagmcnhaaaGreatT7SkD
namespace Go.Proofs.YtpcgklagmcnhaaaGreat.Plain
def By (g : Gr) (L : List Int) (z a b : Int) : Prop := Come g ⟨[], L⟩ z a b
def Inc (g : Gr) (L : List Int) (x : Int) : Prop := ∃ e ∈ L, EndOf g e x
def Tight (g : Gr) (B : List Int) : Prop := ∀ z x y, Inc g B x → Inc g B y → x ≠ z → y ≠ z → By g B z x y
def CutOff (g : Gr) (p : Pt) (pre B : List Int) : Prop := (∃ e, B = [e] ∧ (g.at e).1 = (g.at e).2) ∨
 ∃ z ∈ p.v, ∃ Y : Int → Prop, ¬ Y z ∧ (∀ d ∈ p.darts, Y (g.tail d) → Y (g.head d) ∨ g.head d = z) ∧ (∀ e ∈ B, ∃ d ∈ p.darts, d / 2 = e ∧ Y (g.tail d)) ∧ ∀ d ∈ p.darts, Y (g.tail d) → d / 2 ∈ pre ∨ d / 2 ∈ B
structure B2 (g : Gr) (p : Pt) (bl : List (List Int)) : Prop where
 sep : ∀ N1 B N3, bl = N1 ++ B :: N3 → CutOff g p N1.flatten B
 sol : ∀ l ∈ bl, Tight g l
structure D2 (g : Gr) (p : Pt) (s t : Dfs) (A : List Int) (v : Int) : Prop where
 two : B2 g p t.bl
 own : ∀ l ∈ t.bl, l ∈ s.bl ∨ ∀ e ∈ l, ∀ x, EndOf g e x → New s t x
 tree : ∀ x, (x = v ∨ (New s t x ∧ Inc g (t.ed.drop s.ed.length) x)) → ∀ z, ¬ New s t z → By g (t.ed.drop s.ed.length) z v x
 cut : ∀ z x, New s t z → New s t x → Inc g (t.ed.drop s.ed.length) x → x ≠ z → (z ≠ v ∧ By g (t.ed.drop s.ed.length) z x v) ∨ ∃ y ∈ A, By g (t.ed.drop s.ed.length) z x y
variable {g : Gr} {p : Pt} {s t t2 : Dfs} {A pre : List Int} {v via : Int}
theorem By.mono {L M : List Int} {z a b : Int} (h : By g L z a b) (hs : ∀ e ∈ L, e ∈ M) : By g M z a b := by
 unfold By at *
 induction h with
 | here => exact .here
 | step _ hn hs2 ih =>
  obtain ⟨e, he, r⟩ := hn
  exact ih.step ⟨e, hs e he, r⟩ hs2
theorem By.edge {L : List Int} {z d : Int} (hd : d / 2 ∈ L) (hz : g.head d ≠ z) : By g L z (g.tail d) (g.head d) :=
 .step .here (near_dart (p := ⟨[], L⟩) (mem_darts.2 hd)) hz
theorem By.last {L : List Int} {z a b : Int} (h : By g L z a b) : a = b ∨ Inc g L b := by
 cases h with
 | here => exact Or.inl rfl
 | step _ hn _ =>
  obtain ⟨e, he, -, h2⟩ := near_end hn
  exact Or.inr ⟨e, he, h2⟩
theorem By.symm' {L : List Int} {z a b : Int} (ha : a ≠ z) (h : By g L z a b) : By g L z b a := (Come.symm ha h).2
theorem By.tr {L : List Int} {z a b c : Int} (h : By g L z a b) (k : By g L z b c) : By g L z a c := Come.trans h k
theorem Inc.mono {L M : List Int} {x : Int} (h : Inc g L x) (hs : ∀ e ∈ L, e ∈ M) : Inc g M x := let ⟨e, he, r⟩ := h; ⟨e, hs e he, r⟩
theorem inc_dart {d : Int} {L : List Int} (hd : d / 2 ∈ L) : Inc g L (g.tail d) ∧ Inc g L (g.head d) := ⟨⟨_, hd, (dart_end g d).1⟩, ⟨_, hd, (dart_end g d).2⟩⟩
theorem tight_perm {L M : List Int} (h : L.Perm M) (k : Tight g L) : Tight g M := fun z x y hx hy h1 h2 => (k z x y (hx.mono fun _ he => h.mem_iff.2 he) (hy.mono fun _ he => h.mem_iff.2 he) h1 h2).mono fun _ he => h.mem_iff.1 he
theorem B2.snoc {bl : List (List Int)} {l : List Int} (h : B2 g p bl) (hl : CutOff g p bl.flatten l) (ht : Tight g l) : B2 g p (bl ++ [l]) := by
 refine ⟨fun N1 B N3 e => ?_, fun m hm => ?_⟩
 ·rcases List.eq_nil_or_concat N3 with q | ⟨m, c, q⟩
  ·subst q
   obtain ⟨e1, e2⟩ := List.append_inj' e rfl
   grind
  rw [List.concat_eq_append] at q
  subst q
  have e' : bl ++ [l] = (N1 ++ B :: m) ++ [c] := by rw [e]; simp
  obtain ⟨e1, -⟩ := List.append_inj' e' rfl
  exact h.sep N1 B m e1
 rcases List.mem_append.1 hm with q | q
 ·exact h.sol m q
 all_goals grind
theorem D2.start (hE : Ent g p s A v via) (hb : B2 g p s.bl) : D2 g p s (s.enter v) A v := by
 have he : (s.enter v).ed.drop s.ed.length = [] := by show s.ed.drop s.ed.length = []; simp
 refine ⟨hb, fun l hl => Or.inl hl, fun x hx z hz => ?_, fun z x _ _ hi _ => ?_⟩
 ·rcases hx with rfl | ⟨-, e, hi, -⟩
  ·exact .here
  all_goals grind
 obtain ⟨e, hi, -⟩ := hi
 grind
theorem D2.loop (h : DSeen g p s t A v via pre) (hE : Ent g p s A v via) (k : D2 g p s t A v) {d : Int} (hv : g.tail d = v) (hh : g.head d = v) : D2 g p s (t.lay (d / 2)) A v := by
 have hloop : (g.at (d / 2)).1 = (g.at (d / 2)).2 := loop_dart.2 (hv.trans hh.symm)
 by_cases hx : ∃ m ∈ t.bl, m.getD 0 0 = ([d / 2] : List Int).getD 0 0
 ·have hbl : t.lay (d / 2) = t := by
   unfold Dfs.lay
   rw [setB_old hx fun m hm q => ?_]
   have hmm : d / 2 ∈ m := by
    have h0 : m.getD 0 0 ∈ m := getD_in (List.length_pos_iff.2 (h.good.bln m hm))
    grind
   exact h.good.loopB m hm _ hmm hloop
  grind
 have hbl : (t.lay (d / 2)).bl = t.bl ++ [[d / 2]] := setB_new fun m hm q => hx ⟨m, hm, q⟩
 have hinc : ∀ x, Inc g [d / 2] x → x = v := fun x ⟨e, he, hex⟩ => by
  all_goals grind [end_head]
 refine ⟨?_, fun l hl => ?_, k.tree, k.cut⟩
 ·rw [hbl]
  exact k.two.snoc (Or.inl ⟨_, rfl, hloop⟩) fun z x y hx hy _ _ => by rw [hinc x hx, hinc y hy]; exact .here
 rw [hbl] at hl
 rcases List.mem_append.1 hl with q | q
 ·exact k.own l q
 rw [List.mem_singleton.1 q]
 refine Or.inr fun e he x hex => ?_
 rw [hinc x ⟨e, he, hex⟩]
 have hn : New s t v := h.newv hE
 exact hn
theorem D2.up (h : DSeen g p s t A v via pre) (hE : Ent g p s A v via) (k : D2 g p s t A v) {d m : Int} (hv : g.tail d = v) (hA : g.head d ∈ A) : D2 g p s ((t.push (d / 2)).lower v m) A v := by
 obtain ⟨R, N, e1, -, -, -⟩ := h.cov
 have hR : t.ed.drop s.ed.length = R := by rw [e1]; simp
 have hR' : ((t.push (d / 2)).lower v m).ed.drop s.ed.length = R ++ [d / 2] := by
  show (t.ed ++ [d / 2]).drop s.ed.length = _
  grind
 have kt := k.tree
 have kc := k.cut
 rw [hR] at kt kc
 have hinc : ∀ x, New s t x → Inc g (R ++ [d / 2]) x → Inc g R x ∨ x = v := fun x hx ⟨e, he, hex⟩ => by
  rcases List.mem_append.1 he with q | q
  ·exact Or.inl ⟨e, q, hex⟩
  rw [List.mem_singleton.1 q] at hex
  rcases end_head hex with r | r
  ·exact Or.inr (by rw [r, hv])
  exact absurd hx.1 (by rw [r]; exact hE.good.act _ hA)
 have sub : ∀ e ∈ R, e ∈ R ++ [d / 2] := fun e he => List.mem_append_left _ he
 refine ⟨k.two, k.own, fun x hx z hz => ?_, fun z x hz hx hi hne => ?_⟩
 ·rw [hR'] at hx ⊢
  rcases hx with rfl | ⟨hx, hi⟩
  ·exact .here
  rcases hinc x hx hi with q | q
  ·exact (kt x (Or.inr ⟨hx, q⟩) z hz).mono sub
  rw [q]; exact .here
 rw [hR'] at hi ⊢
 rcases hinc x hx hi with q | q
 ·rcases kc z x hz hx q hne with ⟨r1, r2⟩ | ⟨y, r1, r2⟩
  ·exact Or.inl ⟨r1, r2.mono sub⟩
  exact Or.inr ⟨y, r1, r2.mono sub⟩
 exact Or.inl ⟨fun r => hne (q.trans r.symm), by rw [q]; exact .here⟩
theorem D2.child (hp : PartOk g p) (hE : Ent g p s A v via) (h : DSeen g p s t A v via pre) (k : D2 g p s t A v) {d : Int} (hd : d ∈ p.darts) (hv : g.tail d = v) (hm : t.met (g.head d) = 0)
  (hS : DSeen g p (t.push (d / 2)) t2 (A ++ [v]) (g.head d) (d / 2) (dartsAt g p (g.head d))) (kS : D2 g p (t.push (d / 2)) t2 (A ++ [v]) (g.head d)) : D2 g p s (t2.back v (g.head d) (d / 2)) A v := by
 have hnv := h.newv hE
 have hE2 := h.ent hp hE hd hv hm
 obtain ⟨w, hw⟩ : ∃ w, g.head d = w := ⟨_, rfl⟩
 obtain ⟨e, he⟩ : ∃ e, d / 2 = e := ⟨_, rfl⟩
 have hfe := h.fresh_edge hm
 rw [hw] at hm hE2 hS kS ⊢
 rw [he] at hE2 hS kS hfe ⊢
 have hwv : w ≠ v := fun q => hnv.2 (q ▸ hm)
 have f1 : ∀ x, t.met x ≠ 0 → t2.met x = t.met x ∧ t2.low x = t.low x := fun x hx => hS.old x hx
 have f2 : ∀ x, New s t2 x ↔ New s t x ∨ New (t.push e) t2 x := fun x => by
  constructor
  ·rintro ⟨h1, h2⟩
   by_cases q : t.met x = 0
   ·exact Or.inr ⟨q, h2⟩
   exact Or.inl ⟨h1, q⟩
  rintro (⟨h1, h2⟩ | ⟨h1, h2⟩)
  ·exact ⟨h1, by grind⟩
  exact ⟨Classical.byContradiction fun q => h.mono q h1, h2⟩
 have hXw : New (t.push e) t2 w := hS.newv hE2
 have hnXv : ¬ New (t.push e) t2 v := fun q => hnv.2 q.1
 have hNX : ∀ {y}, New s t y → ¬ New (t.push e) t2 y := fun {y} hy q => hy.2 q.1
 have mv : t2.met v = s.cnt + 1 := by rw [(f1 v hnv.2).1, h.me]
 have hout : ∀ c ∈ p.darts, New (t.push e) t2 (g.tail c) → t2.met (g.head c) ≠ 0 := fun c hc hn => by
  by_cases q : g.tail c = w
  ·exact hS.seen c (mem_dartsAt.2 ⟨hc, q⟩)
  refine hS.good.fin c hc hn.2 fun r => ?_
  rcases List.mem_append.1 r with r | r
  ·exact hE2.good.act _ r hn.1
  all_goals grind
 obtain ⟨R1, N1, a1, a2, a3, a4⟩ := h.cov
 obtain ⟨R2, N2, b1, b2, b3, b4⟩ := hS.cov
 have hed : t2.ed = t.ed ++ e :: R2 := by rw [b1]; show (t.ed ++ [e]) ++ R2 = _; simp
 have hbl : t2.bl = t.bl ++ N2 := b2
 have hR1 : t.ed.drop s.ed.length = R1 := by rw [a1]; simp
 have hR2 : t2.ed.drop (t.push e).ed.length = R2 := by rw [b1]; simp
 have kt := k.tree
 have kc := k.cut
 have st := kS.tree
 have sc := kS.cut
 rw [hR1] at kt kc
 rw [hR2] at st sc
 have nA : ∀ y ∈ A, ¬ New (t.push e) t2 y := fun y hy q => hE2.good.act _ (List.mem_append_left _ hy) q.1
 have r1 : ∀ x, Inc g R1 x → t.met x ≠ 0 := fun x ⟨f, hf, hfx⟩ => by
  have hb := (h.edm f (by grind)).2
  rcases hfx with q | q
  ·rw [← q]; exact hb.1
  rw [← q]; exact hb.2
 have r2c : ∀ f ∈ R2, ∃ c ∈ p.darts, c / 2 = f ∧ New (t.push e) t2 (g.tail c) ∧ (New (t.push e) t2 (g.head c) ∨ g.head c ∈ A ++ [v]) := fun f hf => by
  obtain ⟨-, c, hc, h2, h3, -⟩ := (b4 f).1 (List.mem_append_left _ hf)
  refine ⟨c, hc, h2, h3, ?_⟩
  by_cases r : t.met (g.head c) = 0
  ·exact Or.inl ⟨r, hout c hc h3⟩
  exact Or.inr (hS.inA hE2 hc h3 r)
 have r2 : ∀ x, Inc g R2 x → New (t.push e) t2 x ∨ x = v ∨ x ∈ A := fun x ⟨f, hf, hfx⟩ => by
  obtain ⟨c, hc, rfl, h3, h4⟩ := r2c f hf
  rcases end_head hfx with q | q
  all_goals grind
 have re : ∀ x, EndOf g e x → x = v ∨ x = w := fun x hx => by
  all_goals grind [end_head]
 have vw : ∀ {L : List Int} {z : Int}, e ∈ L → w ≠ z → By g L z v w := fun {L z} hL hz => by
  grind [By.edge]
 have wv : ∀ {L : List Int} {z : Int}, e ∈ L → v ≠ z → By g L z w v := fun {L z} hL hz => by
  have h1 : g.head (twin d) = v := by rw [← tail_twin, twin_twin]; exact hv
  grind [By.edge, twin, twin_div, tail_twin]
 unfold Dfs.back
 by_cases htk : t2.met v ≤ t2.low w
 ·rw [if_pos htk]
  have hix : t2.ed.idxOf e = t.ed.length := by
   grind
  have htake : t2.ed.take (t2.ed.idxOf e) = t.ed := by rw [hix, hed]; exact List.take_left' rfl
  have hdrop : t2.ed.drop (t2.ed.idxOf e) = e :: R2 := by rw [hix, hed]; exact List.drop_left' rfl
  have hmin : ∀ x ∈ e :: R2, ¬ Both g t x := by
   intro x hx hb
   rcases List.mem_cons.1 hx with q | q
   ·rw [q, ← he, both_dart, hw] at hb; exact hb.2 hm
   obtain ⟨-, c, hc, h2, h3, -⟩ := (b4 x).1 (List.mem_append_left _ q)
   rw [← h2, both_dart] at hb
   exact hb.1 h3.1
  have hsb : setB (srt (e :: R2)) t2.bl = t2.bl ++ [srt (e :: R2)] := setB_new fun m hm2 q => by
   have h0 : m.getD 0 0 ∈ m := getD_in (List.length_pos_iff.2 (hS.good.bln m hm2))
   have h1 : (srt (e :: R2)).getD 0 0 ∈ e :: R2 := (srt_perm _).mem_iff.1 (getD_in (by rw [(srt_perm _).length_eq]; simp))
   rw [← q] at h1
   rw [hbl] at hm2
   rcases List.mem_append.1 hm2 with r | r
   ·exact hmin _ h1 (h.good.blm m r _ h0).2
   have h2 : m.getD 0 0 ∈ R2 ++ N2.flatten := List.mem_append_right _ (List.mem_flatten.2 ⟨m, r, h0⟩)
   rcases List.mem_cons.1 h1 with u | u
   ·exact ((b4 _).1 h2).1 u
   exact (List.nodup_append.1 b3).2.2 _ u _ (List.mem_flatten.2 ⟨m, r, h0⟩) rfl
  have hed3 : ((t2.lower v (t2.low w)).take e).ed = t.ed := htake
  have hbl3 : ((t2.lower v (t2.low w)).take e).bl = t2.bl ++ [srt (e :: R2)] := by
   show setB (srt (t2.ed.drop (t2.ed.idxOf e))) t2.bl = _
   rw [hdrop, hsb]
  have hN3 : ∀ x, New s ((t2.lower v (t2.low w)).take e) x ↔ New s t2 x := fun x => Iff.rfl
  -- no edge goes higher
  have hlow : ∀ c ∈ p.darts, New (t.push e) t2 (g.tail c) → g.head c ∉ A := fun c hc hn u => by
   have hce : c / 2 ≠ e := fun k => by
    rw [← he] at k
    rcases div_twin' k with y | y
    ·rw [y, hv] at hn; exact hnXv hn
    have h1 : g.tail d = g.head c := by rw [y, tail_twin]
    rw [← h1, hv] at u; exact hE.vA u
   have h1 := hS.low3 c hc hn (fun k => mem_dartsAt.2 ⟨hc, k⟩) (List.mem_append_left _ u) hce
   have h2 : (t.push e).met (g.head c) = s.met (g.head c) := (h.old _ (hE.good.act _ u)).1
   have h3 := (hE.good.num (g.head c)).2
   omega
  have r2' : ∀ x, Inc g R2 x → New (t.push e) t2 x ∨ x = v := fun x ⟨f, hf, hfx⟩ => by
   obtain ⟨c, hc, rfl, h3, h4⟩ := r2c f hf
   all_goals grind [end_head]
  have rL : ∀ x, Inc g (e :: R2) x → x = v ∨ (New (t.push e) t2 x ∧ (x = w ∨ Inc g R2 x)) := fun x ⟨f, hf, hfx⟩ => by
   rcases List.mem_cons.1 hf with q | q
   ·rw [q] at hfx
    rcases re x hfx with r | r
    ·exact Or.inl r
    exact Or.inr ⟨by rw [r]; exact hXw, Or.inl r⟩
   rcases r2' x ⟨f, q, hfx⟩ with r | r
   ·exact Or.inr ⟨r, Or.inr ⟨f, q, hfx⟩⟩
   exact Or.inl r
  have sub : ∀ f ∈ R2, f ∈ e :: R2 := fun f hf => List.mem_cons_of_mem _ hf
  have heL : e ∈ e :: R2 := by simp
  have stw : ∀ x, New (t.push e) t2 x → (x = w ∨ Inc g R2 x) → ∀ z, ¬ New (t.push e) t2 z → By g (e :: R2) z w x := fun x hx hi z hz => (st x (hi.imp id fun q => ⟨hx, q⟩) z hz).mono sub
  have tight : Tight g (e :: R2) := by
   intro z x y hx hy hxz hyz
   by_cases hzX : New (t.push e) t2 z
   ·have hzv : v ≠ z := fun q => hnXv (q ▸ hzX)
    have tov : ∀ u, Inc g (e :: R2) u → u ≠ z → By g (e :: R2) z u v := fun u hu huz => by
     rcases rL u hu with q | ⟨q1, q2⟩
     ·rw [q]; exact .here
     rcases q2 with q2 | q2
     ·rw [q2]; exact wv heL hzv
     rcases sc z u hzX q1 q2 huz with ⟨j1, j2⟩ | ⟨y', j1, j2⟩
     ·exact (j2.mono sub).tr (wv heL hzv)
     rcases List.mem_append.1 j1 with r | r
     ·exfalso
      rcases j2.last with o | o
      ·rw [o] at q1; exact nA _ r q1
      rcases r2' _ o with o2 | o2
      ·exact nA _ r o2
      rw [o2] at r; exact hE.vA r
     rw [List.mem_singleton.1 r] at j2; exact j2.mono sub
    exact (tov x hx hxz).tr ((tov y hy hyz).symm' hyz)
   by_cases hzv : z = v
   ·have tow : ∀ u, Inc g (e :: R2) u → u ≠ z → By g (e :: R2) z w u := fun u hu huz => by
     all_goals grind
    have hwz : w ≠ z := fun q => hzX (q ▸ hXw)
    exact ((tow x hx hxz).symm' hwz).tr (tow y hy hyz)
   have hwz : w ≠ z := fun q => hzX (q ▸ hXw)
   have tov : ∀ u, Inc g (e :: R2) u → u ≠ z → By g (e :: R2) z v u := fun u hu huz => by
    rcases rL u hu with q | ⟨q1, q2⟩
    ·rw [q]; exact .here
    exact (vw heL hwz).tr (stw u q1 q2 z hzX)
   exact ((tov x hx hxz).symm' (Ne.symm hzv)).tr (tov y hy hyz)
  refine ⟨?_, fun l hl => ?_, fun x hx z hz => ?_, fun z x hz hx hi hne => ?_⟩
  ·rw [hbl3]
   refine kS.two.snoc (Or.inr ⟨v, hE.vV, New (t.push e) t2, hnXv, fun c hc hn => ?_, fun f hf => ?_, fun c hc hn => ?_⟩) (tight_perm (srt_perm _).symm tight)
   ·by_cases r : t.met (g.head c) = 0
    ·exact Or.inl ⟨r, hout c hc hn⟩
    refine Or.inr ?_
    have hcA := hS.inA hE2 hc hn r
    rcases List.mem_append.1 hcA with u | u
    all_goals grind
   ·rcases List.mem_cons.1 ((srt_perm _).mem_iff.1 hf) with q | q
    ·exact ⟨twin d, twin_mem hd, by grind [twin_div], by grind [tail_twin]⟩
    obtain ⟨c, hc, h2, h3, -⟩ := r2c f q
    grind
   by_cases q : c / 2 = e
   ·exact Or.inr ((srt_perm _).mem_iff.2 (by rw [q]; simp))
   have h2 := (b4 (c / 2)).2 ⟨q, c, hc, rfl, hn, (Classical.em (g.tail c = w)).elim (fun u => Or.inr (mem_dartsAt.2 ⟨hc, u⟩)) Or.inl⟩
   rcases List.mem_append.1 h2 with r | r
   ·exact Or.inr ((srt_perm _).mem_iff.2 (List.mem_cons_of_mem _ r))
   exact Or.inl (by rw [hbl, List.flatten_append]; exact List.mem_append_right _ r)
  ·rw [hbl3] at hl
   rcases List.mem_append.1 hl with q | q
   ·rcases kS.own l q with r | r
    ·exact (k.own l r).imp id fun o f hf x hx => (f2 x).2 (Or.inl (o f hf x hx))
    all_goals grind
   rw [List.mem_singleton.1 q]
   refine Or.inr fun f hf x hx => (f2 x).2 ?_
   rcases rL x ⟨f, (srt_perm _).mem_iff.1 hf, hx⟩ with r | r
   all_goals grind
  ·rw [hed3, hR1] at hx ⊢
   rcases hx with q | ⟨hx, hi⟩
   ·rw [q]; exact .here
   have hxs := ((f2 x).1 hx).resolve_right fun q => r1 x hi q.1
   exact kt x (Or.inr ⟨hxs, hi⟩) z fun q => hz ((f2 z).2 (Or.inl q))
  rw [hed3, hR1] at hi ⊢
  have hxs := ((f2 x).1 hx).resolve_right fun q => r1 x hi q.1
  rcases (f2 z).1 hz with hzs | hzX
  ·exact kc z x hzs hxs hi hne
  all_goals grind [By.symm']
 rw [if_neg htk]
 have hR' : (t2.lower v (t2.low w)).ed.drop s.ed.length = R1 ++ e :: R2 := by
  show t2.ed.drop s.ed.length = _
  grind
 have s1 : ∀ f ∈ R1, f ∈ R1 ++ e :: R2 := fun f hf => List.mem_append_left _ hf
 have s2 : ∀ f ∈ R2, f ∈ R1 ++ e :: R2 := fun f hf => List.mem_append_right _ (List.mem_cons_of_mem _ hf)
 have heL : e ∈ R1 ++ e :: R2 := by simp
 have cls : ∀ x, New s t2 x → Inc g (R1 ++ e :: R2) x → (New s t x ∧ (Inc g R1 x ∨ x = v)) ∨ (New (t.push e) t2 x ∧ (x = w ∨ Inc g R2 x)) := fun x hx ⟨f, hf, hfx⟩ => by
  rcases (f2 x).1 hx with hxs | hxX
  ·refine Or.inl ⟨hxs, ?_⟩
   rcases List.mem_append.1 hf with q | q
   ·exact Or.inl ⟨f, q, hfx⟩
   rcases List.mem_cons.1 q with q | q
   ·rw [q] at hfx
    rcases re x hfx with r | r
    ·exact Or.inr r
    rw [r] at hxs; exact absurd hXw (hNX hxs)
   rcases r2 x ⟨f, q, hfx⟩ with r | r | r
   ·exact absurd r (hNX hxs)
   ·exact Or.inr r
   exact absurd hxs.1 (hE.good.act _ r)
  refine Or.inr ⟨hxX, ?_⟩
  rcases List.mem_append.1 hf with q | q
  ·exact absurd hxX.1 (r1 x ⟨f, q, hfx⟩)
  rcases List.mem_cons.1 q with q | q
  ·rw [q] at hfx
   rcases re x hfx with r | r
   ·rw [r] at hxX; exact absurd hxX hnXv
   exact Or.inl r
  exact Or.inr ⟨f, q, hfx⟩
 have stw : ∀ x, New (t.push e) t2 x → (x = w ∨ Inc g R2 x) → ∀ z, ¬ New (t.push e) t2 z → By g (R1 ++ e :: R2) z w x := fun x hx hi z hz => (st x (hi.imp id fun q => ⟨hx, q⟩) z hz).mono s2
 refine ⟨kS.two, fun l hl => ?_, fun x hx z hz => ?_, fun z x hz hx hi hne => ?_⟩
 ·rcases kS.own l hl with r | r
  ·exact (k.own l r).imp id fun o f hf x hx => (f2 x).2 (Or.inl (o f hf x hx))
  exact Or.inr fun f hf x hx => (f2 x).2 (Or.inr (r f hf x hx))
 ·rw [hR'] at hx ⊢
  have hzs : ¬ New s t z := fun q => hz ((f2 z).2 (Or.inl q))
  have hzX : ¬ New (t.push e) t2 z := fun q => hz ((f2 z).2 (Or.inr q))
  have hwz : w ≠ z := fun q => hzX (q ▸ hXw)
  rcases hx with q | ⟨hx, hi⟩
  ·rw [q]; exact .here
  rcases cls x hx hi with ⟨q1, q2 | q2⟩ | ⟨q1, q2⟩
  ·exact (kt x (Or.inr ⟨q1, q2⟩) z hzs).mono s1
  ·rw [q2]; exact .here
  exact (vw heL hwz).tr (stw x q1 q2 z hzX)
 rw [hR'] at hi ⊢
 rcases (f2 z).1 hz with hzs | hzX
 ·have hzX : ¬ New (t.push e) t2 z := hNX hzs
  rcases cls x hx hi with ⟨q1, q2 | q2⟩ | ⟨q1, q2⟩
  ·rcases kc z x hzs q1 q2 hne with ⟨j1, j2⟩ | ⟨y, j1, j2⟩
   ·exact Or.inl ⟨j1, j2.mono s1⟩
   exact Or.inr ⟨y, j1, j2.mono s1⟩
  ·exact Or.inl ⟨fun r => hne (q2.trans r.symm), by rw [q2]; exact .here⟩
  have hwz : w ≠ z := fun q => hzX (q ▸ hXw)
  have hxw := (stw x q1 q2 z hzX).symm' hwz
  by_cases hzv : z = v
  ·have hwm : t2.low w < t2.met w := by
    have h1 := hS.me
    have h2 : (t.push e).cnt = t.cnt := rfl
    have h3 := (h.good.num v).2
    rw [h.me] at h3
    omega
   obtain ⟨c, hc, j1, j2, j3, j4⟩ := hS.low2 hwm
   have hcA : g.head c ∈ A := (List.mem_append.1 j2).resolve_right fun u => by
    rw [List.mem_singleton.1 u] at j3
    have : (t.push e).met v = s.cnt + 1 := h.me
    omega
   have hcR : c / 2 ∈ R2 := by
    have h2 := (b4 (c / 2)).2 ⟨j4, c, hc, rfl, j1, (Classical.em (g.tail c = w)).elim (fun u => Or.inr (mem_dartsAt.2 ⟨hc, u⟩)) Or.inl⟩
    rcases List.mem_append.1 h2 with r | r
    ·exact r
    exfalso
    obtain ⟨l, hl, hcl⟩ := List.mem_flatten.1 r
    rcases kS.own l (by rw [hbl]; exact List.mem_append_right _ hl) with o | o
    ·have := (h.good.blm l o _ hcl).2
     exact (both_dart.1 this).1 j1.1
    exact nA _ hcA (o _ hcl _ (dart_end g c).2)
   have h5 := stw (g.tail c) j1 (Or.inr (inc_dart hcR).1) z hzX
   have h6 : By g (R1 ++ e :: R2) z (g.tail c) (g.head c) := By.edge (s2 _ hcR) (fun q => hE.vA (by grind))
   exact Or.inr ⟨g.head c, hcA, (hxw.tr h5).tr h6⟩
  exact Or.inl ⟨hzv, hxw.tr (wv heL (Ne.symm hzv))⟩
 have hzv : v ≠ z := fun q => hnXv (q ▸ hzX)
 rcases cls x hx hi with ⟨q1, q2⟩ | ⟨q1, q2⟩
 ·refine Or.inl ⟨Ne.symm hzv, ?_⟩
  rcases q2 with q2 | q2
  ·exact ((kt x (Or.inr ⟨q1, q2⟩) z fun q => hNX q hzX).mono s1).symm' hzv
  rw [q2]; exact .here
 rcases q2 with q2 | q2
 ·rw [q2]; exact Or.inl ⟨Ne.symm hzv, wv heL hzv⟩
 rcases sc z x hzX q1 q2 hne with ⟨j1, j2⟩ | ⟨y, j1, j2⟩
 ·exact Or.inl ⟨Ne.symm hzv, (j2.mono s2).tr (wv heL hzv)⟩
 rcases List.mem_append.1 j1 with r | r
 ·exact Or.inr ⟨y, r, j2.mono s2⟩
 rw [List.mem_singleton.1 r] at j2; exact Or.inl ⟨Ne.symm hzv, j2.mono s2⟩
theorem visit_two (hp : PartOk g p) : ∀ (n : Nat) (s : Dfs) (A : List Int) (v via : Int), Ent g p s A v via → unm p s ≤ n → B2 g p s.bl → D2 g p s (visit g p n v via s) A v := by
 intro n
 induction n with
 | zero =>
  intro s A v via hE hn _
  have : 0 < unm p s := List.length_pos_of_mem (List.mem_filter.2 ⟨hE.vV, decide_eq_true hE.vn⟩)
  omega
 | succ n ih =>
  intro s A v via hE hn hb
  have fold : ∀ (rest pre : List Int) (t : Dfs), pre ++ rest = dartsAt g p v → DSeen g p s t A v via pre → D2 g p s t A v → D2 g p s (rest.foldl (stepD (visit g p n) g v via) t) A v := by
   intro rest
   induction rest with
   | nil => intro pre t _ _ k; exact k
   | cons d rest ih2 =>
    intro pre t e h k
    have hdm : d ∈ dartsAt g p v := by rw [← e]; simp
    obtain ⟨hd, hv⟩ := mem_dartsAt.1 hdm
    have hdp : d ∉ pre := fun q => by
     have hnd : (dartsAt g p v).Nodup := List.Pairwise.filter _ (darts_nodup hp.en)
     grind
    have hnv := h.newv hE
    suffices hs : DSeen g p s (stepD (visit g p n) g v via t d) A v via (pre ++ [d]) ∧ D2 g p s (stepD (visit g p n) g v via t d) A v from
     ih2 (pre ++ [d]) _ (by grind) hs.1 hs.2
    unfold stepD
    by_cases c1 : g.head d = v
    ·rw [if_pos c1]; exact ⟨h.loop hp hE hd hv c1, k.loop h hE hv c1⟩
    rw [if_neg c1]
    by_cases c2 : d / 2 = via
    ·rw [if_pos c2]
     have hA := hE.via_head hp hd hv c2
     exact ⟨h.same (h.mono (hE.good.act _ hA)) (fun _ q => absurd c2 q) fun q => absurd c2 q, k⟩
    rw [if_neg c2]
    by_cases c3 : t.met (g.head d) = 0
    ·rw [if_pos c3]
     have hE2 := h.ent hp hE hd hv c3
     have hu : unm p (t.push (d / 2)) ≤ n := by
      have : unm p (t.push (d / 2)) < unm p s := by
       refine filter_lt_filter (a := v) (fun x _ hx => ?_) hE.vV ?_ (decide_eq_true hE.vn)
       ·have hx : t.met x = 0 := of_decide_eq_true hx
        exact decide_eq_true (Classical.byContradiction fun q => h.mono q hx)
       exact decide_eq_false hnv.2
      omega
     have hS := visit_ok hp n _ _ _ _ hE2 hu
     exact ⟨h.child hp hE hd hv hdp c2 c3 hS, k.child hp hE h hd hv c3 hS (ih _ _ _ _ hE2 hu k.two)⟩
    rw [if_neg c3]
    by_cases c4 : t.met (g.head d) < t.met v
    ·rw [if_pos c4]
     have hsm : s.met (g.head d) ≠ 0 := fun q => by
      have := h.later _ ⟨q, c3⟩
      rw [h.me] at c4; omega
     exact ⟨h.up hp hE hd hv hdp c1 c2 c3 c4, k.up h hE hv (h.inA hE hd (by grind) hsm)⟩
    rw [if_neg c4]
    have hs0 : s.met (g.head d) = 0 := Classical.byContradiction fun q => by
     have h1 := (hE.good.num (g.head d)).2
     rw [(h.old _ q).1, h.me] at c4
     omega
    exact ⟨h.same c3 (fun q => absurd hs0 (hE.good.act _ q)) fun q => ⟨q, twin d, twin_mem hd, twin_div d, by rw [tail_twin]; exact ⟨hs0, c3⟩, Or.inl (by grind [tail_twin])⟩, k⟩
  exact fold _ [] _ rfl (DSeen.start hp hE) (D2.start hE hb)
theorem find_two (hp : PartOk g p) : B2 g p (findAll g p).bl := by
 have key : ∀ (l : List Int) (s : Dfs), (∀ v ∈ l, v ∈ p.v) → Top g p s → B2 g p s.bl → B2 g p (findR g p p.v.length l s).bl := by
  intro l
  induction l with
  | nil => intro s _ _ h; exact h
  | cons v l ih =>
   intro s hl h hb
   have hu : unm p s ≤ p.v.length := List.length_filter_le _ _
   show B2 g p (findR g p p.v.length l (if s.met v = 0 then visit g p p.v.length v (-1) s else s)).bl
   by_cases q : s.met v = 0
   ·rw [if_pos q]
    have hE : Ent g p s [] v (-1) := ⟨h.good, hl v (by simp), q, Or.inl ⟨rfl, rfl⟩, by rw [h.ed]; simp, by rw [h.ed]; simp⟩
    exact ih _ (fun u hu => hl u (List.mem_cons_of_mem _ hu)) (h.step hp (hl v (by simp)) q hu).1 (visit_two hp _ _ _ _ _ hE hu hb).two
   all_goals grind
 refine key p.v Dfs.zero (fun _ h => h) Top.start ⟨fun N1 B N3 h => ?_, fun l hl => ?_⟩
 ·have := congrArg List.length h
  grind [Dfs.zero]
 cases hl
theorem blk_tight (hp : PartOk g p) {l : List Int} (hl : l ∈ (findAll g p).bl) {q : Pt} (hq : ∀ e ∈ l, e ∈ q.e) {e f v : Int} (he : e ∈ l) (hf : f ∈ l) : ¬ Apart g q v e f := by
 obtain ⟨h1, -⟩ := find_ok hp
 have h2 := find_two hp
 rintro ⟨hne, hap⟩
 have hloop : ∀ x ∈ l, ¬ ((g.at x).1 = v ∧ (g.at x).2 = v) := fun x hx r => by
  have h3 := h1.good.loopB l hl x hx (r.1.trans r.2.symm)
  grind
 rcases hap with r | r | r
 ·exact hloop e he r
 ·exact hloop f hf r
 have h3 := h2.sol l hl v (off g v e) (off g v f) ⟨e, he, off_end⟩ ⟨f, hf, off_end⟩ (off_ne (hloop e he)) (off_ne (hloop f hf))
 have h4 : By g q.e v (off g v e) (off g v f) := h3.mono hq
 exact r (Come.congr (p := ⟨[], q.e⟩) (q := q) rfl h4)
end Go.Proofs.YtpcgklagmcnhaaaGreat.Plain
-- READS ONLY
namespace Go.Proofs.YtpcgklagmcnhaaaGreat
open Go.RowKit Go.Maps
namespace Plain
def spanErr (g : Gr) (edges : List Int) : Int := if g.err ≠ 0 then g.err else if rises edges g.e.length = true then 0 else 4
end Plain
set_option maxRecDepth 100000 in
set_option maxHeartbeats 8000000 in
theorem gspan_any (vg vl : Value) (g : Plain.Gr) (edges : List Int) (w : World) (hg : GrAt w vg g) (he : IntsAt w vl edges) :
  Calls Tryz.prog 119 #[vg, vl] w fun e w' => ∃ v1 v2, e = .returned (.tuple #[.agg #[v1, v2], .int .i64 (Plain.spanErr g edges)]) ∧ (Plain.spanErr g edges ≠ 0 → v1 = .slice none 0 0 ∧ v2 = .slice none 0 0) ∧ (Plain.spanErr g edges = 0 → RowAt w' w.heap.size v1 (Plain.bspan g edges).v ∧ RowAt w' w.heap.size v2 edges) ∧ Chg [] w w' := by
 have HG := Lib.hid hg
 have HE := Lib.hid he
 obtain ⟨eo, cap, rfl, -, hm, hsm, hcell⟩ := hg
 have HCE := Lib.hid hcell
 have HSM := Lib.hid hsm
 obtain ⟨lo, lc, rfl, -, -, -⟩ := he
 have IGL : I64 (g.e.length : Int) := I64.mk (by omega) (by omega)
 clear hcell hsm
 have HXC := Lib.hid (show Chg [] w ((w.alloc (.cells #[.int .i64 g.n, .slice eo g.e.length cap] 41)).alloc (.cells #[.slice none 0 0, .slice none 0 0] 43)) from (show Chg [] w ((w.alloc (.cells #[.int .i64 g.n, .slice eo g.e.length cap] 41)).alloc (.cells #[.slice none 0 0, .slice none 0 0] 43)) from (((Chg.refl [] w).alloc _).alloc _)))
 have qbx0 := heap_alloc_new w (.cells #[.int .i64 g.n, .slice eo g.e.length cap] 41)
 replace qbx0 := (show Chg [] (w.alloc (.cells #[.int .i64 g.n, .slice eo g.e.length cap] 41)) ((w.alloc (.cells #[.int .i64 g.n, .slice eo g.e.length cap] 41)).alloc (.cells #[.slice none 0 0, .slice none 0 0] 43)) from ((Chg.refl [] (w.alloc (.cells #[.int .i64 g.n, .slice eo g.e.length cap] 41))).alloc _)).heap qbx0 (by simp)
 have qbx1 := heap_alloc_new (w.alloc (.cells #[.int .i64 g.n, .slice eo g.e.length cap] 41)) (.cells #[.slice none 0 0, .slice none 0 0] 43)
 rw [show (w.alloc (.cells #[.int .i64 g.n, .slice eo g.e.length cap] 41)).heap.size = w.heap.size + 1 by simp] at qbx1
 have HX := Lib.hid (fun (w2 : World) (hbx : Chg [] ((w.alloc (.cells #[.int .i64 g.n, .slice eo g.e.length cap] 41)).alloc (.cells #[.slice none 0 0, .slice none 0 0] 43)) w2) => (⟨hbx.cell ((cell_of_row _ _ 0 _ _ _ qbx0).trans rfl) (by simp), hbx.cell ((cell_of_row _ _ 1 _ _ _ qbx0).trans rfl) (by simp), hbx.heap qbx1 (by simp), by have hz := hbx.size; simpa using hz⟩ : w2.cell? ⟨w.heap.size, 0, none⟩ = some (.int .i64 g.n) ∧ w2.cell? ⟨w.heap.size, 1, none⟩ = some (.slice eo g.e.length cap) ∧ w2.heap[w.heap.size + 1]? = some (.cells #[.slice none 0 0, .slice none 0 0] 43 (0, 0)) ∧ w.heap.size + 2 ≤ w2.heap.size))
 clear qbx0 qbx1
 have HXZ := Lib.hid (show ((w.alloc (.cells #[.int .i64 g.n, .slice eo g.e.length cap] 41)).alloc (.cells #[.slice none 0 0, .slice none 0 0] 43)).heap.size = w.heap.size + 2 by simp)
 obtain ⟨x0, x1, r8, hsz⟩ := HX.out _ (Chg.refl _ _)
 go_enter Tryz.func119, Tryz.ntmps119
 go_wp2_with fail
 generalize ((w.alloc (.cells #[.int .i64 g.n, .slice eo g.e.length cap] 41)).alloc (.cells #[.slice none 0 0, .slice none 0 0] 43)) = w1 at *
 refine (graphRight_any _ g _ (HG.out.fresh HXC.out)).mono ?_
 rintro e w2 ⟨rfl, hc2⟩
 have HC2 := Lib.hid hc2
 clear x0 x1 r8 hsz
 obtain ⟨x0, x1, r8, hsz⟩ := HX.out _ hc2
 have z0 := (cell_of_row _ _ 0 _ _ _ r8).trans (show _ = some (Value.slice none 0 0) from rfl)
 have z1 := (cell_of_row _ _ 1 _ _ _ r8).trans (show _ = some (Value.slice none 0 0) from rfl)
 have f0 := free_at r8 0
 have f1 := free_at r8 1
 have R8 := Lib.hid r8
 have HCW := Lib.hid (HXC.out.trans hc2 (by simp))
 clear hc2 r8
 by_cases hge : g.err = 0
 ·have HSE := Lib.hid (show Plain.spanErr g edges = if Plain.rises edges g.e.length = true then 0 else 4 from by unfold Plain.spanErr; rw [if_neg (by simp [hge])])
  have HGE := Lib.hid (Plain.Gr.err_ok hge)
  rw [hge]
  clear hge
  go_wp2_with fail
  refine (rising_any _ edges _ _ IGL (HE.out.fresh HCW.out)).mono ?_
  rintro e w3 ⟨rfl, hc3⟩
  have HC3 := Lib.hid (HC2.out.trans hc3 (by simp))
  have HW3 := Lib.hid (HCW.out.trans hc3 (by simp))
  have r83 := hc3.heap R8.out (by simp)
  have R83 := Lib.hid r83
  clear x0 x1 hsz z0 z1 f0 f1
  have z0 := (cell_of_row _ _ 0 _ _ _ r83).trans (show _ = some (Value.slice none 0 0) from rfl)
  have z1 := (cell_of_row _ _ 1 _ _ _ r83).trans (show _ = some (Value.slice none 0 0) from rfl)
  have f0 := free_at r83 0
  have f1 := free_at r83 1
  clear hc3 r83
  cases hr : Plain.rises edges g.e.length with
  | false =>
   rw [hr] at HSE
   have HS2 := Lib.hid (HSE.out.trans (if_neg (by simp)))
   clear hr
   go_wp2
   obtain ⟨-, o0, o1, o2⟩ := out_store2 R83.out (.slice none 0 0) (.slice none 0 0)
   refine bodyPost_ret (v := .tuple #[.agg #[.slice none 0 0, .slice none 0 0], .int .i64 4]) (by simp [results, Tryz.results119, go_sem, o0, o1]) rfl ?_
   rw [HS2.out]
   exact ⟨_, _, rfl, fun _ => ⟨rfl, rfl⟩, fun h => absurd h (by decide), HW3.out.trans o2 (fun j hj => Or.inr (by grind))⟩
  | true =>
   rw [hr] at HSE
   have HS2 := Lib.hid (HSE.out.trans (if_pos rfl))
   have HES := Lib.hid (Plain.rises_in hr)
   have hl : edges.length ≤ 1024 := by
    have h1 := rises_len hr
    have h2 := HGE.out.2.2.1
    have h3 := HGE.out.1
    omega
   have HLEN := Lib.hid (Plain.endsL_len g)
   clear hr z0 z1 f0 f1
   have HOB := Lib.hid (heap_alloc_new w3 (.cells #[.slice none 0 0, .slice none 0 0] 43))
   have HC4 := Lib.hid ((Chg.refl [] w3).alloc (.cells #[.slice none 0 0, .slice none 0 0] 43))
   have HSZ4 := Lib.hid (show (w3.alloc (.cells #[.slice none 0 0, .slice none 0 0] 43)).heap.size = w3.heap.size + 1 by simp)
   go_wp2_with fail
   obtain ⟨ob, hob⟩ : ∃ n, w3.heap.size = n := ⟨_, rfl⟩
   have HB3 := Lib.hid hob
   rw [hob] at HOB HSZ4 ⊢
   clear hob
   generalize (w3.alloc (.cells #[.slice none 0 0, .slice none 0 0] 43)) = w4 at *
   go_loopw [9, 25] (fun _ iv wr => ∃ k : Nat, k ≤ edges.length ∧ iv = .int .i64 k ∧ OutAt wr ob ob (Plain.endsL g (edges.take k)) (edges.take k) ∧ Chg [] w3 wr) (fun _ iv _ => edges.length - (intOf iv).toNat)
   case atStart => exact ⟨0, Nat.zero_le _, rfl, ⟨_, _, HOB.out, rowNil' _ _, rowNil' _ _, by simp [foot, Value.ownBlock], Nat.le_refl _⟩, HC4.out⟩
   case round =>
    obtain ⟨k, hk, rfl, hout, hc⟩ := hrel
    have HC := Lib.hid hc
    have HOUT := Lib.hid hout
    have HW := Lib.hid (HW3.out.trans hc (by simp))
    obtain ⟨x0, x1, r8, -⟩ := HX.out wr (HC3.out.trans hc (by simp))
    have R8w := Lib.hid r8
    have hobs : ob ≤ wr.heap.size := by have := hc.size; have := HB3.out; omega
    clear r8 hout hc
    by_cases hlt : k < edges.length
    ·have HEN := Lib.hid (Plain.endsL_snoc (g := g) hlt)
     have HTN := Lib.hid (Plain.take_snoc' hlt)
     have HVL := Lib.hid (show (Plain.endsL g (edges.take k)).length ≤ 2048 by rw [HLEN.out, List.length_take]; omega)
     have HEKL := Lib.hid (show (edges.take k).length ≤ 1024 by grind)
     obtain ⟨rb, roff, rfl, rc⟩ := IntsAt.cellAt HE.out hlt
     have rcell := HW.out.cell rc (by simp)
     have her := HES.out _ (Plain.getD_mem hlt)
     obtain ⟨ei, hei⟩ : ∃ ei : Nat, edges.getD k 0 = (ei : Int) := ⟨(edges.getD k 0).toNat, by omega⟩
     rw [hei] at rcell her HEN HTN
     have hel : ei < g.e.length := by omega
     obtain ⟨eb, eoff, rfl, hc0, hc1⟩ := HCE.out ei hel
     obtain ⟨hi1, hi2⟩ := HSM.out ei hel
     have hat : g.at (ei : Int) = g.ends ei := by grind [Plain.Gr.at]
     rw [hat] at HEN
     obtain ⟨x, hx⟩ : ∃ x, (g.ends ei).1 = x := ⟨_, rfl⟩
     obtain ⟨y, hy⟩ : ∃ y, (g.ends ei).2 = y := ⟨_, rfl⟩
     rw [hx] at hc0 hi1 HEN
     rw [hy] at hc1 hi2 HEN
     have HC0 := Lib.hid hc0
     have HC1 := Lib.hid hc1
     have hebl := World.block_lt_of_cell? w _ hc0
     have eik : ei < 1024 := by have := HGE.out.2.2.1; have := HGE.out.1; omega
     have IE : I64 (ei : Int) := by grind [I64.mk]
     generalize Plain.endsL g (edges.take k) = V at *
     generalize edges.take k = E at *
     obtain ⟨u1, u2, ho, hr1, hr2, hap, -⟩ := HOUT.out
     obtain ⟨ua, uc, rfl⟩ := hr1.shape
     obtain ⟨ub, ud, rfl⟩ := hr2.shape
     have o1 := (cell_of_row _ _ 1 _ _ _ ho).trans (show _ = some (Value.slice ub E.length ud) from rfl)
     have n1 : ob ∉ foot (.slice ub E.length ud) := fun e => by grind [row_kind]
     have N1 := Lib.hid n1
     have HOO := Lib.hid ho
     have H1 := Lib.hid hr1
     have H2 := Lib.hid hr2
     have HAP := Lib.hid hap
     have CA := Lib.hid ((Chg.refl [] wr).alloc (.cells #[.int .i64 (ei : Int)] 3))
     have HSZ := Lib.hid (show ob ≤ (wr.alloc (.cells #[.int .i64 (ei : Int)] 3)).heap.size by have := CA.out.size; omega)
     have HLI := Lib.hid (lit_ints wr IE)
     have HLN := Lib.hid (show E.length + [(ei : Int)].length < 4294967296 by have := HEKL.out; simp; omega)
     clear ho hr1 hr2 hap n1 hx hy hat hei her rc hc0 hc1 HEKL
     go_wp2_with (at_builtin; (refine wl_app_read rfl _ _ rfl (B := ob) (v := .slice ub E.length ud) rfl rfl (H2.out.chg CA.out (by simp)) HLI.out HSZ.out HLN.out ?_; intro v7 w7 r7 c7 f7; obtain ⟨vo, vc, rfl⟩ := r7.shape; have HO7 := Lib.hid (c7.heap (CA.out.heap HOO.out (by simp)) N1.out); have o7 := (cell_of_row _ _ 1 _ _ _ HO7.out).trans (show _ = some (Value.slice ub E.length ud) from rfl); have z7 : w7.frozen? ⟨ob, 1, none⟩ = false := free_at HO7.out 1; have R7 := Lib.hid r7; have C7 := Lib.hid c7; have F7 := Lib.hid f7; clear r7 c7 f7 o1))
     have hput := OutAt.put1 HOO.out H1.out H2.out HAP.out (Nat.le_refl _) CA.out C7.out R7.out F7.out
     simp only [List.length_append, List.length_cons, List.length_nil, Nat.zero_add] at hput
     rw [← HTN.out] at hput
     have HCB := Lib.hid (show Chg [] w3 (w7.setCell ⟨ob, 1, none⟩ (.slice vo (E.length + 1) vc)) from HC.out.trans hput.2 (fun j hj => Or.inr (by
      have := HB3.out
      rcases List.mem_cons.1 hj with rfl | hj
      ·omega
      have := (H2.out.low j (by grind [foot_slice])).1; omega)))
     have HO2 := Lib.hid hput.1
     clear hput o7 z7 HO7 R7 C7 F7 x0 x1 rcell HOO H1 H2 HAP N1 HLI HLN CA HSZ HOUT
     generalize (w7.setCell ⟨ob, 1, none⟩ (.slice vo (E.length + 1) vc)) = wB at *
     have HWB := Lib.hid (HW3.out.trans HCB.out (by simp))
     obtain ⟨x0, x1, r8, -⟩ := HX.out wB (HC3.out.trans HCB.out (by simp))
     have c0 := HWB.out.cell HC0.out (by simp)
     have c1 := HWB.out.cell HC1.out (by simp)
     obtain ⟨u1, u2, ho, hr1, hr2, hap, -⟩ := HO2.out
     obtain ⟨sa, sc, rfl⟩ := hr1.shape
     have o0 := (cell_of_row _ _ 0 _ _ _ ho).trans (show _ = some (Value.slice sa V.length sc) from rfl)
     have HOO := Lib.hid ho
     have H1 := Lib.hid hr1
     have H2 := Lib.hid hr2
     have HAP := Lib.hid hap
     have hnf : ob ∉ foot (.slice sa V.length sc) := fun e => by grind [row_kind]
     have hlow : ∀ j ∈ foot (.slice sa V.length sc), ob ≤ j := fun j hj => (hr1.low j (by rw [← hr1.foot]; exact hj)).1
     have HLOW := Lib.hid hlow
     have hSB : Chg (foot (.slice sa V.length sc)) wB wB.drew := (Chg.refl _ wB).drew
     have hx1n : w.heap.size ∉ foot (.slice sa V.length sc) := fun q => by have := hlow _ q; have := HC3.out.size; have := HXZ.out; have := HB3.out; omega
     have hebn : eb ∉ foot (.slice sa V.length sc) := fun q => by have := hlow _ q; have := HC3.out.size; have := HXZ.out; have := HB3.out; omega
     have HOBS := Lib.hid (show ob ≤ wB.heap.size by grind)
     clear ho hr1 hr2 hap r8 hlow
     refine wp_region_way (Chg (foot (.slice sa V.length sc)) wB) [0, 1, 2, 3, 4, 5, 6, 7, 8, 9, 10, 11, 12, 13] (Way.line [0, 1, 2, 3, 4, 5, 6, 7, 8, 9, 10, 11, 12, 13, 14, 15, 16, 17] .done) (by kernel_rfl) (by kernel_rfl) ?_
     simp only [Way.line]
     repeat (refine along_read (v := ?_) rfl (by rfl) (by rfl) (fun _ _ _ h => h) hSB (fun w' hS' => ?_) ?_; rotate_left; (focus (have rd0 := hS'.cell o0 (by first | exact hnf | exact hx1n | exact hebn); have rd1 := hS'.cell x1 (by first | exact hnf | exact hx1n | exact hebn); have rd2 := hS'.cell c0 (by first | exact hnf | exact hx1n | exact hebn); have rd3 := hS'.cell c1 (by first | exact hnf | exact hx1n | exact hebn); clear hS'; go_simp; try with_reducible rfl)); simp only [Act.put, Z1, Z2, Z3, Z4, Z5, Z6])
     refine along_op rfl (by rfl) (by rfl) (fun K hK => ?_)
     go_simp
     have HLI := Lib.hid ((lit_two wB hi1 hi2).fresh (Chg.refl [] _).drew)
     refine hK.out _ _ (fun _ => hSB.alloc _) ?_
     clear hK K
     try simp only [Act.put, Z1, Z2, Z3, Z4, Z5, Z6]
     refine along_op rfl (by rfl) (by rfl) (fun K hK => ?_)
     simp only [List.getElem_toArray, List.getElem_cons_zero, List.getElem_cons_succ]
     have ca : Chg [] wB (wB.alloc (.cells #[.int .i64 x, .int .i64 y] 3)).drew := ((Chg.refl [] wB).alloc _).drew
     refine wp_app_readK _ _ rfl (B := ob) (v := .slice sa V.length sc) rfl rfl (H1.out.chg ca (by simp)) HLI.out (Nat.le_trans HOBS.out ca.size) (by have := HVL.out; simp; omega) fun v' w9 r7 c7 f7 => ?_
     have hput := OutAt.put0 HOO.out H1.out H2.out HAP.out (Nat.le_refl _) ca c7 r7 f7
     obtain ⟨vo2, vc2, rfl⟩ := r7.shape
     have HPUT := Lib.hid hput
     have o9 := c7.cell (ca.cell o0 (by simp)) hnf
     have g9 := c7.frozen (ca.cell o0 (by simp)) (free_at (ca.heap HOO.out (by simp)) 0) hnf
     refine hK.out _ _ (fun _ => (ca.mono (by simp)).trans c7 (fun j hj => Or.inl hj)) ?_
     clear hK K r7 c7 f7 ca hput
     try simp only [Act.put, List.setIfInBounds_toArray, List.set_cons_zero, List.set_cons_succ]
     refine along_op rfl (by rfl) (by rfl) (fun K hK => ?_)
     go_simp
     refine hK.out _ _ (fun h => absurd h (Bool.eq_false_iff.1 (by kernel_rfl))) ?_
     clear hK K
     try simp only [Act.put, Z1, Z2, Z3, Z4, Z5, Z6]
     refine along_op rfl (by rfl) (by rfl) (fun K hK => ?_)
     go_simp
     refine hK.out _ _ (fun h => absurd h (Bool.eq_false_iff.1 (by kernel_rfl))) ?_
     clear hK K
     try simp only [Act.put, Z1, Z2, Z3, Z4, Z5, Z6]
     refine along_done ?_
     have HC9 := Lib.hid (show Chg [] w3 (w9.setCell ⟨ob, 0, none⟩ (.slice vo2 (V ++ [x, y]).length vc2)) from HCB.out.trans HPUT.out.2 (fun j hj => Or.inr (by
      have := HB3.out
      rcases List.mem_cons.1 hj with rfl | hj
      ·omega
      have := HLOW.out j hj; omega)))
     have HO9 := Lib.hid HPUT.out.1
     clear HPUT o9 g9 o0 x0 x1 c0 c1 hnf hx1n hebn hSB
     simp only [List.length_append, List.length_cons, List.length_nil, Nat.zero_add] at HC9 HO9 ⊢
     generalize (w9.setCell ⟨ob, 0, none⟩ (.slice vo2 (V.length + (0 + 1 + 1)) vc2)) = w10 at *
     go_wp2
     go_roundw
     case rel => exact ⟨k + 1, by omega, by go_num, by rw [HEN.out]; exact HO9.out, HC9.out⟩
     case measure => simp [intOf]; omega
    have e : k = edges.length := by omega
    subst e
    clear hlt hk
    rw [List.take_length] at HOUT
    have HML := Lib.hid (show (Plain.endsL g edges).length < 1000000000 by rw [HLEN.out]; omega)
    obtain ⟨M, hM⟩ : ∃ M, Plain.endsL g edges = M := ⟨_, rfl⟩
    rw [hM] at HOUT HML
    have HM := Lib.hid hM
    obtain ⟨u1, u2, ho, hr1, hr2, hap, -⟩ := HOUT.out
    obtain ⟨sa, sc, rfl⟩ := hr1.shape
    obtain ⟨o2, c2, rfl⟩ := hr2.shape
    have HO9 := Lib.hid ho
    have HR9 := Lib.hid hr1
    have HR2 := Lib.hid hr2
    have HAP := Lib.hid hap
    have o0 := (cell_of_row _ _ 0 _ _ _ ho).trans (show _ = some (Value.slice sa M.length sc) from rfl)
    have o1 := (cell_of_row _ _ 1 _ _ _ ho).trans (show _ = some (Value.slice o2 edges.length c2) from rfl)
    have HNF := Lib.hid (show ∀ (wx : World) (v : Value) (q : List Int), RowAt wx ob v q → (∃ cs, wx.heap[ob]? = some (.cells cs 43 (0, 0))) → ob ∉ v.ownBlock.toList from fun _ _ _ h ⟨cs0, h0⟩ q => by
     obtain ⟨cs, r, hh⟩ := row_kind h _ (by rw [h.foot]; exact q)
     grind)
    clear hM ho hr1 hr2 hap HOUT x0 x1
    go_wp2_with fail
    refine (sortI_any _ M _ _ HML.out HR9.out).mono ?_
    rintro e w5 ⟨rfl, hr5, hc5⟩
    have hn5 := HNF.out _ _ _ HR9.out ⟨_, HO9.out⟩
    have o05 := hc5.cell o0 hn5
    have HO5 := Lib.hid (hc5.heap HO9.out hn5)
    have HR25 := Lib.hid (HR2.out.chg hc5 (fun b hb e => HAP.out b (by rw [HR9.out.foot]; exact e) (by rw [HR2.out.foot]; exact hb)))
    have hsl : (M.mergeSort fun x y => decide (x ≤ y)).length = M.length := (List.mergeSort_perm _ _).length_eq
    have HTY := Lib.hid (show Go.Lib.compact (M.mergeSort fun x y => decide (x ≤ y)) = Plain.tidy M from rfl)
    have HC5 := Lib.hid (show Chg [] w3 w5 from HC.out.trans hc5 (fun b hb => Or.inr (by have := (HR9.out.low b hb).1; have := HB3.out; omega)))
    obtain ⟨S, hS⟩ : ∃ S, (M.mergeSort fun x y => decide (x ≤ y)) = S := ⟨_, rfl⟩
    rw [hS] at hsl hr5 HTY
    have HR5 := Lib.hid hr5
    have HSL := Lib.hid hsl
    clear hr5 hc5 hn5 hsl hS o0 o1
    go_wp2_with fail
    refine (compactI_any _ S _ _ (by rw [HSL.out]; exact HML.out) HR5.out).mono ?_
    rintro e w6 ⟨v6, rfl, hr6, hc6⟩
    rw [HTY.out] at hr6
    have hn6 := HNF.out _ _ _ HR5.out ⟨_, HO5.out⟩
    have ho6 := hc6.heap HO5.out hn6
    have p06 := hc6.cell o05 hn6
    have g06 := free_at ho6 0
    have HC6 := Lib.hid (show Chg [] w3 w6 from HC5.out.trans hc6 (fun b hb => Or.inr (by have := (HR5.out.low b hb).1; have := HB3.out; omega)))
    have HR26 := Lib.hid (show RowAt w6 ob (.slice o2 edges.length c2) edges from HR25.out.chg hc6 (fun b hb e => HAP.out b (by rw [HR9.out.foot]; exact e) (by rw [HR2.out.foot]; exact hb)))
    have HR6 := Lib.hid hr6
    obtain ⟨o6, c6, rfl⟩ := hr6.shape
    have hnv := HNF.out _ _ _ hr6 ⟨_, ho6⟩
    have hnv2 := HNF.out _ _ _ HR26.out ⟨_, ho6⟩
    have hset : Chg [ob] w6 (w6.setCell ⟨ob, 0, none⟩ (.slice o6 (Plain.tidy M).length c6)) := by grind [Chg.refl, Chg.setCell]
    have ho7 := heap_setCell_same ho6 0 (.slice o6 (Plain.tidy M).length c6)
    have HR7 := Lib.hid (hr6.chg hset (fun b hb q => hnv (by grind)))
    have HR27 := Lib.hid (HR26.out.chg hset (fun b hb q => hnv2 (by grind)))
    have HC7 := Lib.hid (show Chg [] w3 (w6.setCell ⟨ob, 0, none⟩ (.slice o6 (Plain.tidy M).length c6)) from HC6.out.trans hset (fun j hj => Or.inr (by have := HB3.out; rw [List.mem_singleton] at hj; omega)))
    have p16 := (cell_of_row _ _ 1 _ _ _ ho6).trans (show _ = some (Value.slice o2 edges.length c2) from rfl)
    obtain ⟨-, -, r86, -⟩ := HX.out w6 (HC3.out.trans HC6.out (by simp))
    have y06 := (cell_of_row _ _ 0 _ _ _ r86).trans (show _ = some (Value.slice none 0 0) from rfl)
    have y16 := (cell_of_row _ _ 1 _ _ _ r86).trans (show _ = some (Value.slice none 0 0) from rfl)
    have g16 := free_at r86 0
    have g26 := free_at r86 1
    have hne1 : ¬ ob = w.heap.size + 1 := fun q => by have := HC3.out.size; have := HXZ.out; have := HB3.out; omega
    have hne2 : ¬ w.heap.size + 1 = ob := by grind
    obtain ⟨-, -, r87, -⟩ := HX.out (w6.setCell ⟨ob, 0, none⟩ (.slice o6 (Plain.tidy M).length c6)) (HC3.out.trans HC7.out (by simp))
    obtain ⟨-, q0, q1, hs0⟩ := out_store2 r87 (.slice o6 (Plain.tidy M).length c6) (.slice o2 edges.length c2)
    have HQ0 := Lib.hid q0
    have HQ1 := Lib.hid q1
    have hkind : ∀ {v : Value} {q : List Int} {B : Nat}, RowAt (w6.setCell ⟨ob, 0, none⟩ (.slice o6 (Plain.tidy M).length c6)) B v q → ∀ b ∈ v.ownBlock.toList, b ∉ [w.heap.size + 1] := fun h b hb e => by
     obtain ⟨cs, r, hh⟩ := row_kind h b (by rw [h.foot]; exact hb)
     grind
    have hsz3 : w.heap.size ≤ ob := by have := HC3.out.size; have := HXZ.out; have := HB3.out; omega
    have HRA := Lib.hid ((HR7.out.chg hs0 (hkind HR7.out)).base hsz3)
    have HRB := Lib.hid ((HR27.out.chg hs0 (hkind HR27.out)).base hsz3)
    have HCF := Lib.hid (show Chg [] w _ from (HW3.out.trans HC7.out (by simp)).trans hs0 (fun j hj => Or.inr (by grind)))
    have HMT := Lib.hid (show (Plain.bspan g edges).v = Plain.tidy M by show Plain.tidy (Plain.endsL g edges) = _; rw [HM.out])
    clear hr6 hc6 ho6 hnv hnv2 hset ho7 hn6 o05 q0 q1 hs0 hkind hsz3 r87 r86 HR5 HR9 HR6 HR7 HR26 HR27 HR2 HR25
    go_wp2
    refine bodyPost_ret (v := .tuple #[.agg #[.slice o6 (Plain.tidy M).length c6, .slice o2 edges.length c2], .int .i64 0]) (by have h0 := HQ0.out; have h1 := HQ1.out; simp [results, Tryz.results119, go_sem, h0, h1]) rfl ?_
    rw [HS2.out, HMT.out]
    exact ⟨_, _, rfl, fun h => absurd rfl h, fun _ => ⟨HRA.out, HRB.out⟩, HCF.out⟩
 have HNE := Lib.hid hge
 have HSE := Lib.hid (show Plain.spanErr g edges = g.err from if_pos hge)
 obtain ⟨er, her⟩ : ∃ er, g.err = er := ⟨_, rfl⟩
 rw [her] at hge HSE HNE ⊢
 have hb : (er != 0) = true := by simpa using hge
 have hb2 : ¬ er = 0 := hge
 clear her hge
 go_wp2
 obtain ⟨-, o0, o1, o2⟩ := out_store2 R8.out (.slice none 0 0) (.slice none 0 0)
 refine bodyPost_ret (v := .tuple #[.agg #[.slice none 0 0, .slice none 0 0], .int .i64 er]) (by simp [results, Tryz.results119, go_sem, o0, o1]) rfl ?_
 rw [HSE.out]
 exact ⟨_, _, rfl, fun _ => ⟨rfl, rfl⟩, fun h => absurd h HNE.out, HCW.out.trans o2 (fun j hj => Or.inr (by grind))⟩
def blk (v : Value) : List Nat := v.ownBlock.toList
theorem chg_put {W : World} {l : Nat} (o : Obj) : Chg [l] W (W.putObj l o) :=
 (Chg.refl [l] W).grown (grownBy_putObj' W l o) (fun j hj => by cases hj; exact Or.inl (by simp))
variable {P : Program} {md : Region.Mode} {ops : Array Oper} {Q : Exit → Act → World → Prop} {l n : Nat}
theorem wp_in {o : Oper} {a : Act} {w : World} {K K' : Act → World → Prop} (hd : ∀ c, o.op ≠ .defer c) (hK : ∀ a w, K a w → K' a w) (h : o.wp P a w K Q) : o.wpIn (Fence.wide.inRound l) n P a w K' Q := by
 refine ⟨fun _ _ => trivial, ?_⟩
 rw [Oper.semAt_eq _ _ _ hd]
 unfold Oper.wp at h
 revert h
 cases (execOp a.eval o).run P w with
 | ok x w' =>
  cases x with
  | value v => exact hK _ _
  | skip => exact hK _ _
  | defer d => exact hK _ _
  | enter f args =>
   intro h
   refine ⟨fun q => (by cases q), CallsIn.inRound l (callsIn_wide.2 (Calls.mono h fun e w hh => ?_))⟩
   cases e with
   | returned v => exact hK _ _ hh
   | panicked c => exact hh
   | outgrown => exact hh
  | row r args =>
   intro h
   refine ⟨fun q => (by cases q), fun c cs hr => ?_⟩
   obtain ⟨v, w2, h1, h2⟩ := h c cs
   exact ⟨v, w2, hK _ _ h1, stepsIn_wide.2 h2⟩
  | round _ _ _ _ _ => exact fun h => h.elim
  | _ => exact fun h => h.elim
 | halt x w' => cases x <;> exact fun h => h
theorem wpAny_in (hd : ∀ o ∈ ops.toList, ∀ c, o.op ≠ .defer c) (hL : ¬ LetsOut Q) : ∀ (fuel : Nat) (listed : Array Bool) (a : Act) (w : World), wpAny P md ops Q fuel listed a w → wpAnyIn (Fence.wide.inRound l) n P md ops Q fuel listed a w
 | 0, _, _, _, h => h
 | fuel + 1, listed, a, w, h => by
  refine ⟨h.1, fun i hi => ?_⟩
  have h2 := h.2 i hi
  unfold wpOp at h2
  unfold wpOpIn
  cases ho : ops[i]? with
  | none => simp only [ho] at h2 ⊢; exact wpAny_in hd hL fuel _ _ _ h2
  | some o =>
   simp only [ho] at h2 ⊢
   by_cases hw : Region.wanted o (yielded ops a.tmps) = true
   ·rw [if_pos hw] at h2 ⊢
    exact wp_in (hd o (by simpa using Array.mem_of_getElem? ho)) (fun a w => wpAny_in hd hL fuel _ a w) (h2.resolve_right fun q => hL q.2)
   rw [if_neg hw] at h2 ⊢
   exact ⟨fun _ _ => trivial, wpAny_in hd hL fuel _ _ _ h2⟩
theorem wpIn_region_way {id : Nat} {a : Act} {w : World} (S : World → Prop) (R : List Nat) (way : Way) (hm : P.follows .mixedOrders = true)
  (hc : (Region.noSelect ops && decide (way.size ≤ ops.size) && way.inside ops.size && wayChk .any ops R way (Array.replicate ops.size false)) = true)
  (hd : ∀ o ∈ ops.toList, ∀ c, o.op ≠ .defer c) (hL : ¬ LetsOut Q) (h : Along P .any ops Q S R way a w.drew) : (Code.region id ops true).wpIn (Fence.wide.inRound l) n P Q a w := by
 simp only [Bool.and_eq_true, decide_eq_true_eq] at hc
 exact wpIn_region_any hm (wpAny_in hd hL _ _ _ _ (wpAnyN_any _ _ _ _ (along_sound hc.1.1.1 way _ a _ _ hc.1.1.2 hc.1.2 hc.2 (fun j _ _ hj => by simp [Array.getElem?_replicate] at hj; split at hj <;> simp_all) h)))
end Go.Proofs.YtpcgklagmcnhaaaGreat
