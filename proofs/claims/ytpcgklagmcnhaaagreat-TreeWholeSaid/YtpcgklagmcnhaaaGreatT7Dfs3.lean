/- A part gone through depth first: back from a vertex. No program here. -/
import Derived.Test.YtpcgklagmcnhaaaGreatT7GSame
import Derived.Maps.Range
namespace Go.Proofs.YtpcgklagmcnhaaaGreat.Plain
variable {g : Gr} {p : Pt} {s t t2 : Dfs} {A pre : List Int} {v via : Int}
theorem DSeen.ent (hp : PartOk g p) (hE : Ent g p s A v via) (h : DSeen g p s t A v via pre) {d : Int} (hd : d ∈ p.darts) (hv : g.tail d = v) (hm : t.met (g.head d) = 0) : Ent g p (t.push (d / 2)) (A ++ [v]) (g.head d) (d / 2) := by
 have hG := h.good
 have hnv := h.newv hE
 refine ⟨⟨hG.cnt, hG.num, hG.inj, hG.act, hG.inV, hG.fin, hG.bln, hG.blm, hG.loopB⟩, (hp.tail_mem hd).2, hm, Or.inr ⟨d, hd, rfl, rfl, by grind⟩, fun e he => ?_, fun e he => ?_⟩
 ·rcases List.mem_append.1 he with q | q
  ·exact Or.inr (h.edm e q)
  all_goals grind
 rcases List.mem_append.1 he with q | q
 ·exact ⟨(h.edm e q).1, h.edl e q⟩
 rw [List.mem_singleton.1 q]
 exact ⟨mem_darts.1 hd, fun r => hnv.2 (by grind [loop_dart])⟩
theorem DSeen.fresh_edge (h : DSeen g p s t A v via pre) {d : Int} (hm : t.met (g.head d) = 0) : d / 2 ∉ t.ed := fun q => (both_dart.1 (h.edm _ q).2).2 hm
theorem DSeen.child (hp : PartOk g p) (hE : Ent g p s A v via) (h : DSeen g p s t A v via pre) {d : Int} (hd : d ∈ p.darts) (hv : g.tail d = v) (hdp : d ∉ pre) (hvia : d / 2 ≠ via) (hm : t.met (g.head d) = 0)
  (hS : DSeen g p (t.push (d / 2)) t2 (A ++ [v]) (g.head d) (d / 2) (dartsAt g p (g.head d))) : DSeen g p s (t2.back v (g.head d) (d / 2)) A v via (pre ++ [d]) := by
 have hnv := h.newv hE
 have hE2 := h.ent hp hE hd hv hm
 obtain ⟨w, hw⟩ : ∃ w, g.head d = w := ⟨_, rfl⟩
 obtain ⟨e, he⟩ : ∃ e, d / 2 = e := ⟨_, rfl⟩
 have hfe := h.fresh_edge hm
 have hdE : e ∈ p.e := by rw [← he]; exact mem_darts.1 hd
 have hnc : ¬ Cov g p s t v via pre e := by
  rintro ⟨-, c, hc, h2, h3, h4⟩
  rw [← he] at h2
  rcases div_twin' h2.symm with q | q
  ·rcases h4 with r | r
   ·exact r (by rw [← q]; exact hv)
   exact hdp (by rw [q]; exact r)
  have : g.tail c = g.head d := by rw [q, tail_twin]
  rw [this] at h3
  exact h3.2 hm
 rw [hw] at hm hE2 hS ⊢
 rw [he] at hE2 hS hvia hfe ⊢
 have hwv : w ≠ v := fun q => hnv.2 (q ▸ hm)
 have f1 : ∀ x, t.met x ≠ 0 → t2.met x = t.met x ∧ t2.low x = t.low x := fun x hx => hS.old x hx
 have hX : ∀ x, New (t.push e) t2 x ↔ t.met x = 0 ∧ t2.met x ≠ 0 := fun x => Iff.rfl
 have f2 : ∀ x, New s t2 x ↔ New s t x ∨ New (t.push e) t2 x := fun x => by
  constructor
  ·rintro ⟨h1, h2⟩
   by_cases q : t.met x = 0
   ·exact Or.inr ⟨q, h2⟩
   exact Or.inl ⟨h1, q⟩
  rintro (⟨h1, h2⟩ | ⟨h1, h2⟩)
  ·exact ⟨h1, by grind⟩
  exact ⟨Classical.byContradiction fun q => h.mono q h1, h2⟩
 have hXw : New (t.push e) t2 w := hS.newv hE2
 have hnXv : ¬ New (t.push e) t2 v := fun q => hnv.2 q.1
 have mv : t2.met v = s.cnt + 1 := by rw [(f1 v hnv.2).1, h.me]
 have lv : t2.low v = t.low v := (f1 v hnv.2).2
 have hnear : Near g p v w := by rw [← hv, ← hw]; exact near_dart hd
 -- edges out of the new ones
 have hout : ∀ c ∈ p.darts, New (t.push e) t2 (g.tail c) → t2.met (g.head c) ≠ 0 := fun c hc hn => by
  by_cases q : g.tail c = w
  ·exact hS.seen c (mem_dartsAt.2 ⟨hc, q⟩)
  refine hS.good.fin c hc hn.2 fun r => ?_
  rcases List.mem_append.1 r with r | r
  ·exact hE2.good.act _ r hn.1
  all_goals grind
 obtain ⟨R1, N1, a1, a2, a3, a4⟩ := h.cov
 obtain ⟨R2, N2, b1, b2, b3, b4⟩ := hS.cov
 have hed : t2.ed = t.ed ++ e :: R2 := by rw [b1]; show (t.ed ++ [e]) ++ R2 = _; simp
 have hbl : t2.bl = t.bl ++ N2 := b2
 have hmin : ∀ x ∈ e :: R2, ¬ Both g t x := by
  intro x hx hb
  rcases List.mem_cons.1 hx with q | q
  ·rw [q, ← he, both_dart, hw] at hb; exact hb.2 hm
  obtain ⟨-, c, hc, h2, h3, -⟩ := (b4 x).1 (List.mem_append_left _ q)
  rw [← h2, both_dart] at hb
  exact hb.1 h3.1
 have hdis : ∀ x, Cov g p s t v via pre x → Cov g p (t.push e) t2 w e (dartsAt g p w) x → False := by
  rintro x ⟨-, c', hc', h2', h3', h4'⟩ ⟨-, c, hc, h2, h3, -⟩
  rcases div_twin' (h2.trans h2'.symm) with q | q
  ·rw [← q] at h3'; exact h3'.2 h3.1
  have e1 : g.head c' = g.tail c := by rw [q, ← tail_twin, twin_twin]
  by_cases r : g.tail c' = v
  ·have := h.seen c' (h4'.resolve_left fun u => u r)
   grind
  have := h.good.fin c' hc' h3'.2 fun u => by
   rcases List.mem_append.1 u with u | u
   ·exact hE.good.act _ u h3'.1
   all_goals grind
  grind
 have hnd : (e :: (R1 ++ N1.flatten) ++ (R2 ++ N2.flatten)).Nodup := by
  rw [List.nodup_append]
  refine ⟨List.nodup_cons.2 ⟨fun q => hnc ((a4 _).1 q), a3⟩, b3, fun x hx y hy q => ?_⟩
  subst q
  have h2 := (b4 x).1 hy
  rcases List.mem_cons.1 hx with r | r
  ·exact h2.1 r
  all_goals grind
 have hviac : ∀ c ∈ p.darts, New (t.push e) t2 (g.tail c) → c / 2 ≠ via := fun c hc hn q => by
  rcases hE.par with ⟨-, r⟩ | ⟨k, hk, hk2, hk3, hk4⟩
  ·have := hp.er _ (mem_darts.1 hc); omega
  rcases div_twin' (q.trans hk2.symm) with r | r
  ·rw [r] at hn; exact h.mono (hE.good.act _ hk4) hn.1
  all_goals grind [tail_twin, twin_twin]
 have hmem : ∀ t3 : Dfs, t3.met = t2.met → ∀ x, x ∈ e :: (R1 ++ N1.flatten) ++ (R2 ++ N2.flatten) ↔ Cov g p s t3 v via (pre ++ [d]) x := by
  intro t3 h3 x
  have f3 : ∀ y, New s t3 y ↔ New s t y ∨ New (t.push e) t2 y := fun y => by unfold New; rw [h3]; exact f2 y
  rw [List.mem_append, List.mem_cons, a4, b4]
  constructor
  ·rintro ((rfl | ⟨h1, c, hc, h2, h3, h4⟩) | ⟨h1, c, hc, h2, h3, -⟩)
   ·exact ⟨hvia, d, hd, he, (f3 _).2 (Or.inl (by grind)), Or.inr (by simp)⟩
   ·exact ⟨h1, c, hc, h2, (f3 _).2 (Or.inl h3), h4.imp id fun q => List.mem_append_left _ q⟩
   exact ⟨by grind, c, hc, h2, (f3 _).2 (Or.inr h3), Or.inl fun q => hnXv (q ▸ h3)⟩
  rintro ⟨h1, c, hc, h2, h3, h4⟩
  rcases (f3 _).1 h3 with q | q
  ·rcases h4 with r | r
   ·exact Or.inl (Or.inr ⟨h1, c, hc, h2, q, Or.inl r⟩)
   rcases List.mem_append.1 r with r | r
   ·exact Or.inl (Or.inr ⟨h1, c, hc, h2, q, Or.inr r⟩)
   all_goals grind
  by_cases r : x = e
  ·exact Or.inl (Or.inl r)
  exact Or.inr ⟨r, c, hc, h2, q, (Classical.em (g.tail c = w)).elim (fun u => Or.inr (mem_dartsAt.2 ⟨hc, u⟩)) Or.inl⟩
 -- what both ways have
 have all : ∀ t3 : Dfs, t3.met = t2.met → t3.cnt = t2.cnt → (∀ x, x ≠ v → t3.low x = t2.low x) → t3.low v = min (t.low v) (t2.low w) → (∀ x ∈ t3.ed, x ∈ t2.ed) →
   (∀ l ∈ t3.bl, l ≠ []) → (∀ l ∈ t3.bl, ∀ x ∈ l, x ∈ p.e ∧ Both g t2 x) → (∀ l ∈ t3.bl, ∀ x ∈ l, (g.at x).1 = (g.at x).2 → l = [x]) →
   (∃ R N, t3.ed = s.ed ++ R ∧ t3.bl = s.bl ++ N ∧ (R ++ N.flatten).Perm (e :: (R1 ++ N1.flatten) ++ (R2 ++ N2.flatten))) →
   (t3.bl = s.bl → t.bl = s.bl ∧ t2.bl = t.bl ∧ t2.low w < t2.met v) → (s.bl = [] → ∀ B l, t3.bl = B :: l → Fst g p B) → (A = [] → t3.ed = s.ed ∧ t3.bl.length = t2.bl.length + 1) → DSeen g p s t3 A v via (pre ++ [d]) := by
  intro t3 m1 m4 m2 m6 hed3 hbn hbm hbL hcov hcut hfst htop
  have f3 : ∀ y, New s t3 y ↔ New s t y ∨ New (t.push e) t2 y := fun y => by unfold New; rw [m1]; exact f2 y
  have hB : ∀ x, Both g t3 x ↔ Both g t2 x := fun x => by unfold Both; rw [m1]
  have hG := hS.good
  obtain ⟨R, N, c1, c2, c3⟩ := hcov
  refine ⟨⟨by rw [m4]; exact hG.cnt, by rw [m1, m4]; exact hG.num, by rw [m1]; exact hG.inj, fun a ha => by rw [m1]; exact hG.act a (List.mem_append_left _ ha), by rw [m1]; exact hG.inV, fun c hc ht hn => ?_, hbn, fun l hl x hx => by grind, hbL⟩, fun x hx => ?_, by grind, fun x hx => ?_, fun x hx z hz => ?_, fun c hc => ?_, ?_, fun q => ?_, fun c hc hn hpre hA hcv => ?_, fun x hx => ?_, fun x hx => ?_, ⟨R, N, c1, c2, (c3.nodup_iff).2 hnd, fun x => (c3.mem_iff).trans (hmem t3 m1 x)⟩, fun q z x hz hx hne => ?_, hfst, fun q => (htop q).1, fun q r => ?_, fun q r z x y hz hx hy hxz hyz => ?_⟩
  ·rw [m1] at ht ⊢
   by_cases q : g.tail c = w
   ·exact hS.seen c (mem_dartsAt.2 ⟨hc, q⟩)
   exact hG.fin c hc ht fun r => (List.mem_append.1 r).elim hn fun r => q (List.mem_singleton.1 r)
  ·have hxv : x ≠ v := fun q => hx (by rw [q]; exact hE.vn)
   rw [m1, m2 x hxv, (f1 x (h.mono hx)).1, (f1 x (h.mono hx)).2]
   exact h.old x hx
  ·rw [m1]
   rcases (f3 x).1 hx with q | q
   ·rw [(f1 x q.2).1]; exact h.later x q
   have h1 := hS.later x q
   have h2 : (t.push e).cnt = t.cnt := rfl
   have h3 := (h.good.num v).2
   grind
  ·have hz1 : ¬ New s t z := fun q => hz ((f3 z).2 (Or.inl q))
   have hz2 : ¬ New (t.push e) t2 z := fun q => hz ((f3 z).2 (Or.inr q))
   rcases (f3 x).1 hx with q | q
   ·exact h.tree x q z hz1
   exact (Come.step .here hnear (fun r : w = z => hz2 (r ▸ hXw))).trans (hS.tree x q z hz2)
  ·rw [m1]
   rcases List.mem_append.1 hc with q | q
   ·rw [(f1 _ (h.seen c q)).1]; exact h.seen c q
   all_goals grind
  ·rw [m6, m1, mv]
   have := h.low1
   grind
  ·rw [m6, m1, mv] at q
   by_cases r : t.low v ≤ t2.low w
   ·obtain ⟨c, hc, k1, k2, k3, k4⟩ := h.low2 (by grind)
    grind
   have hwm : t2.low w < t2.met w := by
    have h1 := hS.me
    have h2 : (t.push e).cnt = t.cnt := rfl
    have h3 := (h.good.num v).2
    grind
   obtain ⟨c, hc, k1, k2, k3, k4⟩ := hS.low2 hwm
   have hcA : g.head c ∈ A := (List.mem_append.1 k2).resolve_right fun u => by
    rw [List.mem_singleton.1 u] at k3
    have : (t.push e).met v = s.cnt + 1 := h.me
    omega
   refine ⟨c, hc, (f3 _).2 (Or.inr k1), hcA, ?_, hviac c hc k1⟩
   rw [m6]
   have : (t.push e).met (g.head c) = s.met (g.head c) := (h.old _ (hE.good.act _ hcA)).1
   omega
  ·rw [m6]
   rcases (f3 _).1 hn with r | r
   ·by_cases u : c = d
    ·rw [u, hw] at hA
     exact absurd hm (h.mono (hE.good.act _ hA))
    have := h.low3 c hc r (fun k => (List.mem_append.1 (hpre k)).resolve_right fun y => u (List.mem_singleton.1 y)) hA hcv
    omega
   have hce : c / 2 ≠ e := fun k => by
    rw [← he] at k
    rcases div_twin' k with y | y
    ·rw [y, hv] at r; exact hnXv r
    have : g.head c = v := by
     have h1 : g.tail d = g.head c := by rw [y, tail_twin]
     rw [← h1]; exact hv
    rw [this] at hA; exact hE.vA hA
   have h1 := hS.low3 c hc r (fun k => mem_dartsAt.2 ⟨hc, k⟩) (List.mem_append_left _ hA) hce
   have h2 : (t.push e).met (g.head c) = s.met (g.head c) := (h.old _ (hE.good.act _ hA)).1
   omega
  ·rw [hB]; exact hS.edm x (hed3 x hx)
  ·exact hS.edl x (hed3 x hx)
  ·obtain ⟨k1, k2, k3⟩ := hcut q
   have hup : ∃ c ∈ p.darts, New (t.push e) t2 (g.tail c) ∧ g.head c ∈ A := by
    have hwm : t2.low w < t2.met w := by
     have h1 := hS.me
     have h2 : (t.push e).cnt = t.cnt := rfl
     have h3 := (h.good.num v).2
     grind
    obtain ⟨c, hc, j1, j2, j3, -⟩ := hS.low2 hwm
    exact ⟨c, hc, j1, (List.mem_append.1 j2).resolve_right fun u => by
     rw [List.mem_singleton.1 u] at j3
     have : (t.push e).met v = s.cnt + 1 := h.me
     omega⟩
   have hXne : ∀ y, New (t.push e) t2 y → y ≠ v := fun y hy q => hnXv (q ▸ hy)
   have hNX : ∀ y, New s t y → ¬ New (t.push e) t2 y := fun y hy q => hy.2 q.1
   by_cases hzX : New (t.push e) t2 z
   ·have hzv := hXne z hzX
    by_cases hxX : New (t.push e) t2 x
    ·rcases hS.cut k2 z x hzX hxX hne with ⟨j1, j2⟩ | ⟨y, hy, j2⟩
     ·exact Or.inl ⟨hzv, j2.step hnear.symm (Ne.symm hzv)⟩
     rcases List.mem_append.1 hy with r | r
     all_goals grind
    have hxs := ((f3 x).1 hx).resolve_right hxX
    exact Or.inl ⟨hzv, ((h.tree x hxs z fun r => hNX z r hzX).symm (Ne.symm hzv)).2⟩
   have hzs := ((f3 z).1 hz).resolve_right hzX
   by_cases hxX : New (t.push e) t2 x
   ·by_cases hzv : z = v
    ·subst hzv
     obtain ⟨c, hc, j1, j2⟩ := hup
     have h1 := hS.tree x hxX z hzX
     have h2 := hS.tree (g.tail c) j1 z hzX
     have hyz : g.head c ≠ z := fun r => hE.vA (r ▸ j2)
     exact Or.inr ⟨g.head c, j2, ((h1.symm hwv).2.trans h2).step (near_dart hc) hyz⟩
    have h1 := hS.tree x hxX z hzX
    have hwz : w ≠ z := fun r => hzX (r ▸ hXw)
    exact Or.inl ⟨hzv, (h1.symm hwz).2.step hnear.symm (Ne.symm hzv)⟩
   have hxs := ((f3 x).1 hx).resolve_right hxX
   exact h.cut k1 z x hzs hxs hne
  ·grind
  have h1 := (htop q).2
  rw [h1, hbl, a2] at r
  simp only [List.length_append] at r
  have hb0 : t.bl = s.bl := by rw [a2, List.length_eq_zero_iff.1 (show N1.length = 0 by omega), List.append_nil]
  have hb2 : t2.bl = (t.push e).bl := by
   show t2.bl = t.bl
   rw [hbl, List.length_eq_zero_iff.1 (show N2.length = 0 by omega), List.append_nil]
  have hone : ∀ u, New s t3 u → u = v ∨ New (t.push e) t2 u := fun u hu => ((f3 u).1 hu).imp (fun k => h.top2 q hb0 u k) id
  by_cases hzX : New (t.push e) t2 z
  ·have hzv : z ≠ v := fun k => hnXv (k ▸ hzX)
   have tov : ∀ u, New s t3 u → u ≠ z → Come g p z u v := fun u hu huz => by
    rcases hone u hu with k | k
    ·rw [k]; exact .here
    rcases hS.cut hb2 z u hzX k huz with ⟨j1, j2⟩ | ⟨y', hy', j2⟩
    ·exact j2.step hnear.symm (Ne.symm hzv)
    all_goals grind
   exact (tov x hx hxz).trans ((tov y hy hyz).symm hyz).2
  have hzv := (hone z hz).resolve_right hzX
  have tow : ∀ u, New s t3 u → u ≠ z → New (t.push e) t2 u := fun u hu huz => (hone u hu).resolve_left fun k => huz (k.trans hzv.symm)
  have hwz : w ≠ z := fun k => hzX (k ▸ hXw)
  exact ((hS.tree x (tow x hx hxz) z hzX).symm hwz).2.trans (hS.tree y (tow y hy hyz) z hzX)
 have hblm2 : ∀ l ∈ t2.bl, ∀ x ∈ l, x ∈ p.e ∧ Both g t2 x := hS.good.blm
 unfold Dfs.back
 by_cases htk : t2.met v ≤ t2.low w
 ·rw [if_pos htk]
  have hix : t2.ed.idxOf e = t.ed.length := by
   grind
  have htake : t2.ed.take (t2.ed.idxOf e) = t.ed := by rw [hix, hed]; exact List.take_left' rfl
  have hdrop : t2.ed.drop (t2.ed.idxOf e) = e :: R2 := by rw [hix, hed]; exact List.drop_left' rfl
  have hsb : setB (srt (e :: R2)) t2.bl = t2.bl ++ [srt (e :: R2)] := setB_new fun m hm2 q => by
   have h0 : m.getD 0 0 ∈ m := getD_in (List.length_pos_iff.2 (hS.good.bln m hm2))
   have h1 : (srt (e :: R2)).getD 0 0 ∈ e :: R2 := (srt_perm _).mem_iff.1 (getD_in (by rw [(srt_perm _).length_eq]; simp))
   rw [← q] at h1
   rw [hbl] at hm2
   rcases List.mem_append.1 hm2 with r | r
   ·exact hmin _ h1 (h.good.blm m r _ h0).2
   have h2 : m.getD 0 0 ∈ R2 ++ N2.flatten := List.mem_append_right _ (List.mem_flatten.2 ⟨m, r, h0⟩)
   rcases List.mem_cons.1 h1 with u | u
   ·exact ((b4 _).1 h2).1 u
   exact (List.nodup_append.1 b3).2.2 _ u _ (List.mem_flatten.2 ⟨m, r, h0⟩) rfl
  have ht3 : ((t2.lower v (t2.low w)).take e).ed = t.ed ∧ ((t2.lower v (t2.low w)).take e).bl = t2.bl ++ [srt (e :: R2)] := by
   refine ⟨htake, ?_⟩
   show setB (srt (t2.ed.drop (t2.ed.idxOf e))) t2.bl = _
   rw [hdrop, hsb]
  have heR : ∀ x ∈ srt (e :: R2), x ∈ t2.ed := fun x hx => by
   grind [srt_perm]
  refine all _ rfl rfl (fun x hx => upd_ne hx) (by show upd t2.low v _ v = _; rw [upd_at, lv]) (fun x hx => by grind) (fun l hl => ?_) (fun l hl x hx => ?_) (fun l hl x hx hxl => ?_) ⟨R1, N1 ++ N2 ++ [srt (e :: R2)], by grind, by grind, ?_⟩ (fun q => ?_) (fun hs B l hB => ?_) (fun q => ⟨by rw [ht3.1]; exact h.top1 q, by rw [ht3.2]; simp⟩)
  ·rw [ht3.2] at hl
   rcases List.mem_append.1 hl with r | r
   ·exact hS.good.bln l r
   rw [List.mem_singleton.1 r]
   exact List.ne_nil_of_length_pos (by rw [(srt_perm _).length_eq]; simp)
  ·rw [ht3.2] at hl
   rcases List.mem_append.1 hl with r | r
   ·exact hblm2 l r x hx
   rw [List.mem_singleton.1 r] at hx
   exact hS.edm x (heR x hx)
  ·rw [ht3.2] at hl
   rcases List.mem_append.1 hl with r | r
   ·exact hS.good.loopB l r x hx hxl
   rw [List.mem_singleton.1 r] at hx
   exact absurd hxl (hS.edl x (heR x hx))
  ·rw [List.perm_iff_count]
   intro x
   have := List.perm_iff_count.1 (srt_perm (e :: R2)) x
   simp only [List.flatten_append, List.flatten_cons, List.flatten_nil, List.append_nil, List.count_append, List.count_cons] at this ⊢
   omega
  ·rw [ht3.2, hbl, a2] at q
   have := congrArg List.length q
   simp at this
  rw [ht3.2] at hB
  cases hq : t2.bl with
  | cons B' l' =>
   rw [hq, List.cons_append] at hB
   injection hB with k1 k2
   rw [← k1]
   cases hq2 : t.bl with
   | nil => exact hS.fst hq2 B' l' hq
   | cons B2 l2 =>
    rw [hbl, hq2, List.cons_append] at hq
    injection hq with k3 k4
    rw [← k3]
    exact h.fst hs B2 l2 hq2
  | nil =>
   rw [hq, List.nil_append] at hB
   injection hB with k1 k2
   have hN2 : N2 = [] := by
    rw [hbl] at hq
    exact (List.append_eq_nil_iff.1 hq).2
   rw [← k1]
   refine Or.inr ⟨v, hE.vV, New (t.push e) t2, hnXv, fun c hc hn => ?_, fun x => ?_⟩
   ·by_cases r : t.met (g.head c) = 0
    ·grind
    refine Or.inr ?_
    have hcA := hS.inA hE2 hc hn r
    rcases List.mem_append.1 hcA with u | u
    ·exfalso
     have hce : c / 2 ≠ e := fun k => by
      rw [← he] at k
      rcases div_twin' k with y | y
      ·rw [y, hv] at hn; exact hnXv hn
      have h1 : g.tail d = g.head c := by rw [y, tail_twin]
      rw [← h1, hv] at u; exact hE.vA u
     have h1 := hS.low3 c hc hn (fun k => mem_dartsAt.2 ⟨hc, k⟩) hcA hce
     have h2 : (t.push e).met (g.head c) = s.met (g.head c) := (h.old _ (hE.good.act _ u)).1
     have h3 := (hE.good.num (g.head c)).2
     omega
    all_goals grind
   rw [(srt_perm _).mem_iff, List.mem_cons]
   have h4 := b4 x
   rw [hN2, List.flatten_nil, List.append_nil] at h4
   rw [h4]
   constructor
   ·rintro (r | ⟨-, c, hc, h2, h3, -⟩)
    ·exact ⟨twin d, twin_mem hd, by grind [twin_div], by grind [tail_twin]⟩
    all_goals grind
   rintro ⟨c, hc, h2, h3⟩
   by_cases r : x = e
   ·exact Or.inl r
   exact Or.inr ⟨r, c, hc, h2, h3, (Classical.em (g.tail c = w)).elim (fun u => Or.inr (mem_dartsAt.2 ⟨hc, u⟩)) Or.inl⟩
 rw [if_neg htk]
 refine all _ rfl rfl (fun x hx => upd_ne hx) (by show upd t2.low v _ v = _; rw [upd_at, lv]) (fun x hx => hx) hS.good.bln hblm2 hS.good.loopB ⟨R1 ++ e :: R2, N1 ++ N2, by show t2.ed = _; rw [hed, a1]; simp, by show t2.bl = _; rw [hbl, a2]; simp, ?_⟩ (fun q => ?_) (fun hs B l hB => ?_) (fun q => absurd ?_ htk)
 ·rw [List.perm_iff_count]
  grind
 ·have q : t2.bl = s.bl := q
  have h1 : t.bl = s.bl ∧ N2 = [] := by
   rw [hbl, a2, List.append_assoc] at q
   have h2 := List.append_cancel_left (show s.bl ++ (N1 ++ N2) = s.bl ++ [] by grind)
   obtain ⟨h3, h4⟩ := List.append_eq_nil_iff.1 h2
   grind
  grind
 ·have hB : t2.bl = B :: l := hB
  cases hq2 : t.bl with
  | nil => exact hS.fst hq2 B l hB
  | cons B2 l2 =>
   rw [hbl, hq2, List.cons_append] at hB
   injection hB with k3 k4
   rw [← k3]
   exact h.fst hs B2 l2 hq2
 refine Classical.byContradiction fun k => ?_
 have hwm : t2.low w < t2.met w := by
  have h1 := hS.me
  have h2 : (t.push e).cnt = t.cnt := rfl
  have h3 := (h.good.num v).2
  grind
 obtain ⟨c, hc, j1, j2, j3, -⟩ := hS.low2 hwm
 rw [q, List.nil_append, List.mem_singleton] at j2
 rw [j2] at j3
 have : (t.push e).met v = s.cnt + 1 := h.me
 omega
variable {g : Gr} {p : Pt}
theorem visit_ok (hp : PartOk g p) : ∀ (n : Nat) (s : Dfs) (A : List Int) (v via : Int), Ent g p s A v via → unm p s ≤ n → DSeen g p s (visit g p n v via s) A v via (dartsAt g p v) := by
 intro n
 induction n with
 | zero =>
  intro s A v via hE hn
  have : 0 < unm p s := List.length_pos_of_mem (List.mem_filter.2 ⟨hE.vV, decide_eq_true hE.vn⟩)
  omega
 | succ n ih =>
  intro s A v via hE hn
  have fold : ∀ (rest pre : List Int) (t : Dfs), pre ++ rest = dartsAt g p v → DSeen g p s t A v via pre → DSeen g p s (rest.foldl (stepD (visit g p n) g v via) t) A v via (dartsAt g p v) := by
   intro rest
   induction rest with
   | nil => intro pre t e h; rw [List.append_nil] at e; rw [← e]; exact h
   | cons d rest ih2 =>
    intro pre t e h
    refine ih2 (pre ++ [d]) _ (by grind) ?_
    have hdm : d ∈ dartsAt g p v := by rw [← e]; simp
    obtain ⟨hd, hv⟩ := mem_dartsAt.1 hdm
    have hdp : d ∉ pre := fun q => by
     have hnd : (dartsAt g p v).Nodup := List.Pairwise.filter _ (darts_nodup hp.en)
     grind
    have hnv := h.newv hE
    unfold stepD
    by_cases c1 : g.head d = v
    ·rw [if_pos c1]; exact h.loop hp hE hd hv c1
    rw [if_neg c1]
    by_cases c2 : d / 2 = via
    ·rw [if_pos c2]
     have hA := hE.via_head hp hd hv c2
     exact h.same (h.mono (hE.good.act _ hA)) (fun _ q => absurd c2 q) fun q => absurd c2 q
    rw [if_neg c2]
    by_cases c3 : t.met (g.head d) = 0
    ·rw [if_pos c3]
     refine h.child hp hE hd hv hdp c2 c3 (ih _ _ _ _ (h.ent hp hE hd hv c3) ?_)
     have : unm p (t.push (d / 2)) < unm p s := by
      refine filter_lt_filter (a := v) (fun x _ hx => ?_) hE.vV ?_ (decide_eq_true hE.vn)
      ·have hx : t.met x = 0 := of_decide_eq_true hx
       exact decide_eq_true (Classical.byContradiction fun q => h.mono q hx)
      exact decide_eq_false hnv.2
     omega
    rw [if_neg c3]
    by_cases c4 : t.met (g.head d) < t.met v
    ·rw [if_pos c4]; exact h.up hp hE hd hv hdp c1 c2 c3 c4
    rw [if_neg c4]
    have hs0 : s.met (g.head d) = 0 := Classical.byContradiction fun q => by
     have h1 := (hE.good.num (g.head d)).2
     rw [(h.old _ q).1, h.me] at c4
     omega
    refine h.same c3 (fun q => absurd hs0 (hE.good.act _ q)) fun q => ⟨q, twin d, twin_mem hd, twin_div d, by rw [tail_twin]; exact ⟨hs0, c3⟩, Or.inl (by grind [tail_twin])⟩
  exact fold _ [] _ rfl (DSeen.start hp hE)
def Dfs.zero : Dfs := ⟨fun _ => 0, fun _ => 0, 0, [], []⟩
def findR (g : Gr) (p : Pt) (n : Nat) (l : List Int) (s : Dfs) : Dfs := l.foldl (fun s v => if s.met v = 0 then visit g p n v (-1) s else s) s
def findAll (g : Gr) (p : Pt) : Dfs := findR g p p.v.length p.v Dfs.zero
structure Top (g : Gr) (p : Pt) (s : Dfs) : Prop where
 good : DOk g p s []
 ed : s.ed = []
 nd : s.bl.flatten.Nodup
 cov : ∀ e, e ∈ s.bl.flatten ↔ ∃ d ∈ p.darts, d / 2 = e ∧ s.met (g.tail d) ≠ 0
 fst : ∀ B l, s.bl = B :: l → Fst g p B
 one : s.bl.length ≤ 1 → ∀ z x y, (∃ d ∈ p.darts, g.tail d = x) → (∃ d ∈ p.darts, g.tail d = y) → s.met x ≠ 0 → s.met y ≠ 0 → x ≠ z → y ≠ z → Come g p z x y
theorem Top.start : Top g p Dfs.zero := by
 refine ⟨⟨Int.le_refl _, fun x => ⟨Int.le_refl _, Int.le_refl _⟩, fun x y h => absurd rfl h, by simp, fun x h => absurd rfl h, fun d _ h => absurd rfl h, ?_, ?_, ?_⟩, rfl, ?_, fun e => ?_, fun B l h => ?_, fun _ z x y _ _ h => absurd rfl h⟩
 ·intro l h; cases h
 ·intro l h; cases h
 ·intro l h; cases h
 ·exact List.nodup_nil
 ·constructor
  ·intro h; simp [Dfs.zero] at h
  rintro ⟨d, -, -, h⟩; exact absurd rfl h
 cases h
theorem Top.step (hp : PartOk g p) {s : Dfs} (h : Top g p s) {v : Int} (hv : v ∈ p.v) (hm : s.met v = 0) {n : Nat} (hn : unm p s ≤ n) : Top g p (visit g p n v (-1) s) ∧ (visit g p n v (-1) s).met v ≠ 0 ∧ ∀ x, s.met x ≠ 0 → (visit g p n v (-1) s).met x ≠ 0 := by
 have hE : Ent g p s [] v (-1) := ⟨h.good, hv, hm, Or.inl ⟨rfl, rfl⟩, by rw [h.ed]; simp, by rw [h.ed]; simp⟩
 have hS := visit_ok hp n s [] v (-1) hE hn
 obtain ⟨t, ht⟩ : ∃ t, visit g p n v (-1) s = t := ⟨_, rfl⟩
 rw [ht] at hS ⊢
 have hnv := hS.newv hE
 obtain ⟨R, N, e1, e2, e3, e4⟩ := hS.cov
 have hR : R = [] := by
  have := hS.top1 rfl
  rw [e1] at this
  exact List.append_cancel_left (this.trans (List.append_nil _).symm)
 rw [hR, List.nil_append] at e3 e4
 have hdart : ∀ d ∈ p.darts, d / 2 ≠ -1 := fun d hd q => by have := hp.er _ (mem_darts.1 hd); omega
 have hcv : ∀ e, Cov g p s t v (-1) (dartsAt g p v) e ↔ ∃ d ∈ p.darts, d / 2 = e ∧ New s t (g.tail d) := fun e => by
  constructor
  ·rintro ⟨-, d, hd, h2, h3, -⟩; exact ⟨d, hd, h2, h3⟩
  rintro ⟨d, hd, h2, h3⟩
  exact ⟨by grind, d, hd, h2, h3, (Classical.em (g.tail d = v)).elim (fun q => Or.inr (mem_dartsAt.2 ⟨hd, q⟩)) Or.inl⟩
 have hG := hS.good
 refine ⟨⟨⟨hG.cnt, hG.num, hG.inj, by simp, hG.inV, fun d hd hdm _ => ?_, hG.bln, hG.blm, hG.loopB⟩, ?_, ?_, fun e => ?_, fun B l hB => ?_, fun hl z x y hx hy hmx hmy hxz hyz => ?_⟩, hnv.2, fun x hx => hS.mono hx⟩
 ·by_cases q : g.tail d = v
  ·exact hS.seen d (mem_dartsAt.2 ⟨hd, q⟩)
  exact hG.fin d hd hdm (by grind)
 ·rw [e1, hR, h.ed]; rfl
 ·rw [e2, List.flatten_append, List.nodup_append]
  refine ⟨h.nd, e3, fun a ha b hb q => ?_⟩
  subst q
  obtain ⟨d, hd, h2, h3⟩ := (hcv a).1 ((e4 a).1 hb)
  obtain ⟨c, hc, k2, k3⟩ := (h.cov a).1 ha
  rcases div_twin' (k2.trans h2.symm) with r | r
  ·rw [r] at k3; exact k3 h3.1
  have := h.good.fin c hc k3 (by simp)
  rw [← tail_twin, ← r] at this
  exact this h3.1
 ·rw [e2, List.flatten_append, List.mem_append, h.cov, e4, hcv]
  constructor
  ·rintro (⟨d, hd, h2, h3⟩ | ⟨d, hd, h2, h3⟩)
   ·exact ⟨d, hd, h2, hS.mono h3⟩
   exact ⟨d, hd, h2, h3.2⟩
  rintro ⟨d, hd, h2, h3⟩
  by_cases q : s.met (g.tail d) = 0
  ·exact Or.inr ⟨d, hd, h2, q, h3⟩
  all_goals grind
 ·cases hq : s.bl with
  | nil => exact hS.fst hq B l hB
  | cons B' l' =>
   rw [e2, hq, List.cons_append] at hB
   injection hB with k1 k2
   rw [← k1]
   exact h.fst B' l' hq
 rw [e2, List.length_append] at hl
 by_cases hN : N = []
 ·have hb : t.bl = s.bl := by rw [e2, hN, List.append_nil]
  have hno : ∀ u, (∃ d ∈ p.darts, g.tail d = u) → t.met u ≠ 0 → s.met u ≠ 0 := by
   rintro u ⟨d, hd, rfl⟩ hu q
   have := (e4 (d / 2)).2 ((hcv _).2 ⟨d, hd, rfl, q, hu⟩)
   grind
  exact h.one (by grind) z x y hx hy (hno x hx hmx) (hno y hy hmy) hxz hyz
 have hNl := List.length_pos_iff.2 hN
 have hb0 : s.bl = [] := List.length_eq_zero_iff.1 (by omega)
 have hnew : ∀ u, (∃ d ∈ p.darts, g.tail d = u) → t.met u ≠ 0 → New s t u := by
  rintro u ⟨d, hd, rfl⟩ hu
  refine ⟨Classical.byContradiction fun q => ?_, hu⟩
  have := (h.cov (d / 2)).2 ⟨d, hd, rfl, q⟩
  grind
 have nx := hnew x hx hmx
 have ny := hnew y hy hmy
 by_cases hz : New s t z
 ·exact hS.top3 rfl (by grind) z x y hz nx ny hxz hyz
 have hvz : v ≠ z := fun q => hz (q ▸ hnv)
 exact ((hS.tree x nx z hz).symm hvz).2.trans (hS.tree y ny z hz)
theorem find_ok (hp : PartOk g p) : Top g p (findAll g p) ∧ ∀ v ∈ p.v, (findAll g p).met v ≠ 0 := by
 have key : ∀ (l : List Int) (s : Dfs), (∀ v ∈ l, v ∈ p.v) → Top g p s → Top g p (findR g p p.v.length l s) ∧ (∀ v ∈ l, (findR g p p.v.length l s).met v ≠ 0) ∧ ∀ x, s.met x ≠ 0 → (findR g p p.v.length l s).met x ≠ 0 := by
  intro l
  induction l with
  | nil => intro s _ h; exact ⟨h, by simp, fun _ h => h⟩
  | cons v l ih =>
   intro s hl h
   have hu : unm p s ≤ p.v.length := List.length_filter_le _ _
   show Top g p (findR g p p.v.length l (if s.met v = 0 then visit g p p.v.length v (-1) s else s)) ∧ (∀ u ∈ v :: l, (findR g p p.v.length l (if s.met v = 0 then visit g p p.v.length v (-1) s else s)).met u ≠ 0) ∧ ∀ x, s.met x ≠ 0 → (findR g p p.v.length l (if s.met v = 0 then visit g p p.v.length v (-1) s else s)).met x ≠ 0
   by_cases q : s.met v = 0
   ·rw [if_pos q]
    obtain ⟨h1, h2, h3⟩ := h.step hp (hl v (by simp)) q hu
    grind
   all_goals grind
 obtain ⟨h1, h2, -⟩ := key p.v Dfs.zero (fun _ h => h) Top.start
 exact ⟨h1, h2⟩
theorem blocks_perm (hp : PartOk g p) : (findAll g p).bl.flatten.Perm p.e := by
 obtain ⟨h1, h2⟩ := find_ok hp
 refine (List.perm_ext_iff_of_nodup h1.nd hp.en).2 fun e => ?_
 rw [h1.cov]
 constructor
 ·grind [mem_darts]
 intro he
 obtain ⟨d, hd, h3, -⟩ := edge_dart (g := g) he
 grind [PartOk.tail_mem]
def off (g : Gr) (v e : Int) : Int := if (g.at e).1 = v then (g.at e).2 else (g.at e).1
def Apart (g : Gr) (p : Pt) (v e f : Int) : Prop := e ≠ f ∧ (((g.at e).1 = v ∧ (g.at e).2 = v) ∨ ((g.at f).1 = v ∧ (g.at f).2 = v) ∨ ¬ Come g p v (off g v e) (off g v f))
def SolidP (g : Gr) (p : Pt) : Prop := (∃ e0 l, p.e = e0 :: l ∧ ∀ e ∈ p.e, ∀ v ∈ p.v, ¬ Apart g p v e0 e) ∧ ∀ v ∈ p.v, ∃ d ∈ p.darts, g.tail d = v
theorem off_ne {v e : Int} (h : ¬ ((g.at e).1 = v ∧ (g.at e).2 = v)) : off g v e ≠ v := by
 all_goals grind [off]
theorem off_dart {v e : Int} (he : e ∈ p.e) : ∃ d ∈ p.darts, d / 2 = e ∧ g.tail d = off g v e := by
 obtain ⟨d, hd, h1, h2, h3⟩ := edge_dart (g := g) he
 unfold off
 split
 ·exact ⟨twin d, twin_mem hd, by grind [twin_div], by grind [tail_twin]⟩
 all_goals grind
theorem one_block (hp : PartOk g p) : ((findAll g p).bl.length = 1 ∧ ∀ v ∈ p.v, ∃ d ∈ p.darts, g.tail d = v) ↔ SolidP g p := by
 obtain ⟨h1, h2⟩ := find_ok hp
 have hperm := blocks_perm hp
 constructor
 ·rintro ⟨hl, hV⟩
  refine ⟨?_, hV⟩
  obtain ⟨l, hB⟩ := List.length_eq_one_iff.1 hl
  have hlm : l ∈ (findAll g p).bl := by rw [hB]; simp
  rw [hB, List.flatten_cons, List.flatten_nil, List.append_nil] at hperm
  cases he : p.e with
  | nil => rw [he] at hperm; exact absurd (List.perm_nil.1 hperm) (h1.good.bln l hlm)
  | cons e0 r =>
   refine ⟨e0, r, rfl, fun e hem v hv => ?_⟩
   rw [← he] at hem
   rintro ⟨hne, hap⟩
   have hloop : ∀ x ∈ p.e, ¬ ((g.at x).1 = v ∧ (g.at x).2 = v) := fun x hx q => by
    have h3 := h1.good.loopB l hlm x (hperm.mem_iff.2 hx) (q.1.trans q.2.symm)
    have m1 := hperm.mem_iff.2 (show e0 ∈ p.e by grind)
    grind
   have he0 : e0 ∈ p.e := by rw [he]; simp
   rcases hap with q | q | q
   ·exact hloop e0 he0 q
   ·exact hloop e hem q
   obtain ⟨d, hd, -, k1⟩ := off_dart (g := g) (v := v) he0
   obtain ⟨c, hc, -, k2⟩ := off_dart (g := g) (v := v) hem
   exact q (h1.one (by omega) v _ _ ⟨d, hd, k1⟩ ⟨c, hc, k2⟩ (by rw [← k1]; exact h2 _ (hp.tail_mem hd).1) (by rw [← k2]; exact h2 _ (hp.tail_mem hc).1) (off_ne (hloop e0 he0)) (off_ne (hloop e hem)))
 rintro ⟨⟨e0, r, he, htog⟩, hV⟩
 refine ⟨?_, hV⟩
 have he0 : e0 ∈ p.e := by rw [he]; simp
 match hq : (findAll g p).bl with
 | [] =>
  grind
 | [_] => rfl
 | B1 :: B2 :: rest =>
  exfalso
  have hnd := h1.nd
  rw [hq, List.flatten_cons, List.flatten_cons] at hnd
  have hb1 : B1 ≠ [] := h1.good.bln B1 (by grind)
  have hb2 : B2 ≠ [] := h1.good.bln B2 (by grind)
  obtain ⟨f, hf⟩ := List.exists_mem_of_ne_nil _ hb2
  obtain ⟨e, hee⟩ := List.exists_mem_of_ne_nil _ hb1
  have hfB1 : f ∉ B1 := fun q => (List.nodup_append.1 hnd).2.2 f q f (List.mem_append_left _ hf) rfl
  have hin : ∀ x, x ∈ B1 ∨ x ∈ B2 → x ∈ p.e := fun x hx => hperm.mem_iff.1 (by
   rw [hq, List.flatten_cons, List.flatten_cons]
   rcases hx with q | q
   ·exact List.mem_append_left _ q
   exact List.mem_append_right _ (List.mem_append_left _ q))
  have hep := hin e (Or.inl hee)
  have hfp := hin f (Or.inr hf)
  rcases h1.fst B1 _ hq with ⟨x, hx, hB, hlp⟩ | ⟨z, hz, Y, hzY, hcl, hBY⟩
  ·-- a loop
   have hu : (g.at x).1 ∈ p.v := (hp.ends x hx).1
   by_cases q : e0 = x
   ·refine htog f hfp _ hu ⟨fun r => hfB1 (by grind), Or.inl ?_⟩
    grind
   exact htog x hx _ hu ⟨q, Or.inr (Or.inl ⟨rfl, hlp.symm⟩)⟩
  have hoff : ∀ x ∈ B1, Y (off g z x) := fun x hx => by
   all_goals grind [off, dart_ats]
  have hoff2 : ∀ x ∈ p.e, x ∉ B1 → ¬ Y (off g z x) := fun x hx hxB q => by
   obtain ⟨c, hc, k1, k2⟩ := off_dart (g := g) (v := z) hx
   grind
  have hcome : ∀ a b, Y a → Come g p z a b → Y b := fun a b ha hc => by
   induction hc with
   | here => exact ha
   | step _ hn hs ih2 =>
    obtain ⟨d, hd, hh⟩ := (near_iff hp).1 hn
    grind
  by_cases q : e0 ∈ B1
  ·exact htog f hfp z hz ⟨fun r => hfB1 (r ▸ q), Or.inr (Or.inr fun hc => hoff2 f hfp hfB1 (hcome _ _ (hoff e0 q) hc))⟩
  by_cases hlp : (g.at e0).1 = z ∧ (g.at e0).2 = z
  ·exact htog e hep z hz ⟨fun r => q (r ▸ hee), Or.inl hlp⟩
  exact htog e hep z hz ⟨fun r => q (r ▸ hee), Or.inr (Or.inr fun hc => hoff2 e0 he0 q (hcome _ _ (hoff e hee) (hc.symm (off_ne hlp)).2))⟩
end Go.Proofs.YtpcgklagmcnhaaaGreat.Plain
namespace Go.Proofs.YtpcgklagmcnhaaaGreat
open Go.RowKit Go.Maps Go.ChangeShapes
def litRow : Value → Option (DataW Unit × List MemPlace)
 | .slice none n c => some (.slice (lits .i64 [(n : Int), (c : Int)]) [], [])
 | .slice (some ⟨b, off, none⟩) n c => some (.slice (lits .i64 [(b : Int), (off : Int), (n : Int), (c : Int)]) [], [])
 | _ => none
theorem litRow_inj {u v : Value} {d : DataW Unit} {ps qs : List MemPlace} (hu : litRow u = some (d, ps)) (hv : litRow v = some (d, qs)) : u = v := by
 unfold litRow at hu hv
 split at hu <;> split at hv <;> simp only [Option.some.injEq, Prod.mk.injEq, reduceCtorEq] at hu hv
 ·grind [lits_inj]
 all_goals grind [lits_inj]
def nilRow : Value := .slice none 0 0
def datV (v : Value) : DataW Unit := match litRow v with | some x => x.1 | none => .nil
def RowV (v : Value) : Prop := ∃ ps, litRow v = some (datV v, ps)
theorem RowV.none (n c : Nat) : RowV (.slice none n c) := ⟨[], rfl⟩
theorem RowV.some (b off n c : Nat) : RowV (.slice (some ⟨b, off, .none⟩) n c) := ⟨[], rfl⟩
def VMap (w : World) (b n : Nat) (F : Int → Option Value) : Prop :=
 ∃ D : DataW Unit, w.ownsMap Tryz.prog 3 litRow b n D ∧ ∀ x, I64 x → Maps.has D (.int .i64 x) = (F x).isSome ∧ RowV ((F x).getD nilRow) ∧ D.atKey (.int .i64 x) (datV nilRow) = datV ((F x).getD nilRow)
theorem VMap.made (w : World) : VMap (w.alloc (.map #[] 0)) w.heap.size 0 (fun _ => none) :=
 ⟨.map [], World.ownsMap_made _ _ _ _, fun _ _ => ⟨rfl, RowV.none 0 0, rfl⟩⟩
theorem VMap.lt {w : World} {b n : Nat} {F : Int → Option Value} (h : VMap w b n F) : b < w.heap.size := by obtain ⟨D, h, _⟩ := h; exact h.lt
theorem VMap.chg {w w' : World} {own : List Nat} {b n : Nat} {F : Int → Option Value} (h : VMap w b n F) (hc : Chg own w w') (hb : b ∉ own) : VMap w' b n F := by
 obtain ⟨D, ⟨es, clock, he, r⟩, g⟩ := h
 exact ⟨D, ⟨es, clock, hc.heap he hb, r⟩, g⟩
theorem VMap.ne {w : World} {b n : Nat} {F : Int → Option Value} (h : VMap w b n F) {k : Nat} {cs : Array Value} {t : TypeId} {r : Nat × Nat} (hk : w.heap[k]? = some (.cells cs t r)) : k ≠ b := by
 obtain ⟨D, ⟨es, clock, he, _⟩, _⟩ := h
 grind
theorem VMap.look_run {w : World} {b n : Nat} {F : Int → Option Value} (h : VMap w b n F) {k : Int} (hk : I64 k) : (Instr.lookup 121 (.map (some b)) (.int .i64 k) false).run Tryz.prog w = .ok ((F k).getD nilRow) w := by
 obtain ⟨D, hown, hD⟩ := h
 obtain ⟨h1, ⟨ps, h2⟩, h3⟩ := hD k hk
 obtain ⟨v, qs, hrun, hv⟩ := hown.lookup keyedInt Tryz.underlying121 (zeroRow w) (zd := datV nilRow) (zp := []) rfl (keyOf_int_mk Tryz.underlying3 hk)
 grind [litRow_inj]
theorem VMap.store_run {w : World} {b n : Nat} {F : Int → Option Value} (h : VMap w b n F) (hn : n < maxLen) {k : Int} (hk : I64 k) {v : Value} (hv : RowV v) :
  ∃ w', (Instr.mapUpdate 121 (.map (some b)) (.int .i64 k) v).run Tryz.prog w = .ok () w' ∧ VMap w' b (n + 1) (fun y => if y = k then some v else F y) ∧ Chg [b] w w' := by
 obtain ⟨D, hown, hD⟩ := h
 obtain ⟨ps, hv2⟩ := hv
 have hkey := keyOf_int_mk Tryz.underlying3 hk
 obtain ⟨w', hrun, h1, h2⟩ := hown.store keyedInt Tryz.underlying121 hn hkey hv2
 refine ⟨w', hrun, ⟨_, h1, fun y hy => ?_⟩, (Chg.refl _ _).grown h2.grown (fun j hj => by cases hj; exact Or.inl (by simp))⟩
 by_cases e : y = k
 ·subst e
  have hkl := keyedInt.key hkey
  rw [has_put_same hown.isMap hkl, atKey_put_same hown.isMap hkl]
  simp only [if_true]
  exact ⟨rfl, ⟨ps, hv2⟩, rfl⟩
 rw [has_put_other (litNe e), atKey_put_other (litNe e)]
 grind
section
variable {ops : Array Oper} {rest : List Oper} {o : Oper} {a : Act} {Q : Exit → Act → World → Prop} {w : World}
theorem wl_vstore (hg : o.guard = none) (m x u : Operand) (hop : o.op = Op.mapUpdate 121 m x u) {b n : Nat} {F : Int → Option Value} (h : VMap w b n F) (hn : n < maxLen) (hm : a.eval m = .map (some b)) {k : Int} (hk : I64 k) (hx : a.eval x = .int .i64 k) {v : Value} (hu : a.eval u = v) (hv : RowV v)
  (hK : ∀ w2, VMap w2 b (n + 1) (fun y => if y = k then some v else F y) → Chg [b] w w2 → wpList Tryz.prog ops Q rest (a.put o.dst undef) w2) : wpList Tryz.prog ops Q (o :: rest) a w := by
 refine wpList_plain hg fun K' hK' => ?_
 obtain ⟨w2, hrun, r1, r2⟩ := h.store_run hn hk hv
 unfold Oper.wp
 simp [execOp, hop, hm, hx, hu, hrun, Result.andThen]
 exact hK' _ _ (hK w2 r1 r2)
end
end Go.Proofs.YtpcgklagmcnhaaaGreat
