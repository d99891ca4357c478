/- graph.Same: contract. Conditions: parts that lie in memory and read so. -/
import Derived.Test.YtpcgklagmcnhaaaGreatT7About
namespace Go.Proofs.YtpcgklagmcnhaaaGreat
open Go.RowKit Go.Maps
set_option maxRecDepth 100000 in
set_option maxHeartbeats 2000000 in
theorem gsame_any (va vb : Value) (a b : Plain.Pt) (w : World) (ha : PtAt w va a) (hb : PtAt w vb b) :
  Calls Tryz.prog 64 #[va, vb] w fun e w' => e = .returned (.bool (decide (a.v = b.v) && decide (a.e = b.e))) ∧ Chg [] w w' := by
 obtain ⟨v1, v2, rfl, h1, h2⟩ := ha
 obtain ⟨u1, u2, rfl, k1, k2⟩ := hb
 obtain ⟨av, ae⟩ := a
 obtain ⟨bv, be⟩ := b
 have H1 := Lib.hid h1
 have H2 := Lib.hid h2
 have K1 := Lib.hid k1
 have K2 := Lib.hid k2
 obtain ⟨p1, c1, rfl, -⟩ := h1
 obtain ⟨p2, c2, rfl, -⟩ := h2
 obtain ⟨p3, c3, rfl, -⟩ := k1
 obtain ⟨p4, c4, rfl, -⟩ := k2
 have HXC := Lib.hid (show Chg [] w ((w.alloc (.cells #[.slice p1 av.length c1, .slice p2 ae.length c2] 43)).alloc (.cells #[.slice p3 bv.length c3, .slice p4 be.length c4] 43)) from (show Chg [] w ((w.alloc (.cells #[.slice p1 av.length c1, .slice p2 ae.length c2] 43)).alloc (.cells #[.slice p3 bv.length c3, .slice p4 be.length c4] 43)) from (((Chg.refl [] w).alloc _).alloc _)))
 have qbx0 := heap_alloc_new w (.cells #[.slice p1 av.length c1, .slice p2 ae.length c2] 43)
 replace qbx0 := (show Chg [] (w.alloc (.cells #[.slice p1 av.length c1, .slice p2 ae.length c2] 43)) ((w.alloc (.cells #[.slice p1 av.length c1, .slice p2 ae.length c2] 43)).alloc (.cells #[.slice p3 bv.length c3, .slice p4 be.length c4] 43)) from ((Chg.refl [] (w.alloc (.cells #[.slice p1 av.length c1, .slice p2 ae.length c2] 43))).alloc _)).heap qbx0 (by simp)
 have qbx1 := heap_alloc_new (w.alloc (.cells #[.slice p1 av.length c1, .slice p2 ae.length c2] 43)) (.cells #[.slice p3 bv.length c3, .slice p4 be.length c4] 43)
 rw [show (w.alloc (.cells #[.slice p1 av.length c1, .slice p2 ae.length c2] 43)).heap.size = w.heap.size + 1 by simp] at qbx1
 have HX := Lib.hid (fun (w2 : World) (hbx : Chg [] ((w.alloc (.cells #[.slice p1 av.length c1, .slice p2 ae.length c2] 43)).alloc (.cells #[.slice p3 bv.length c3, .slice p4 be.length c4] 43)) w2) => (⟨hbx.cell ((cell_of_row _ _ 0 _ _ _ qbx0).trans rfl) (by simp), hbx.cell ((cell_of_row _ _ 1 _ _ _ qbx0).trans rfl) (by simp), hbx.cell ((cell_of_row _ _ 0 _ _ _ qbx1).trans rfl) (by simp), hbx.cell ((cell_of_row _ _ 1 _ _ _ qbx1).trans rfl) (by simp), by have hz := hbx.size; simpa using hz⟩ : w2.cell? ⟨w.heap.size, 0, none⟩ = some (.slice p1 av.length c1) ∧ w2.cell? ⟨w.heap.size, 1, none⟩ = some (.slice p2 ae.length c2) ∧ w2.cell? ⟨w.heap.size + 1, 0, none⟩ = some (.slice p3 bv.length c3) ∧ w2.cell? ⟨w.heap.size + 1, 1, none⟩ = some (.slice p4 be.length c4) ∧ w.heap.size + 2 ≤ w2.heap.size))
 clear qbx0 qbx1
 have HXZ := Lib.hid (show ((w.alloc (.cells #[.slice p1 av.length c1, .slice p2 ae.length c2] 43)).alloc (.cells #[.slice p3 bv.length c3, .slice p4 be.length c4] 43)).heap.size = w.heap.size + 2 by simp)
 obtain ⟨x0, x1, y0, y1, hsz⟩ := HX.out _ (Chg.refl _ _)
 go_enter Tryz.func64, Tryz.ntmps64
 go_wp2_with fail
 generalize ((w.alloc (.cells #[.slice p1 av.length c1, .slice p2 ae.length c2] 43)).alloc (.cells #[.slice p3 bv.length c3, .slice p4 be.length c4] 43)) = w1 at *
 refine (seq_any _ _ av bv _ (H1.out.fresh HXC.out) (K1.out.fresh HXC.out)).mono ?_
 rintro e w2 ⟨rfl, hc2⟩
 have HC2 := Lib.hid (HXC.out.trans hc2 (by simp))
 clear x0 x1 y0 y1 hsz
 obtain ⟨x0, x1, y0, y1, hsz⟩ := HX.out _ hc2
 clear hc2
 by_cases h0 : av = bv
 ·have HE := Lib.hid (show decide (av = bv) = true from decide_eq_true h0)
  rw [HE.out]
  clear h0
  go_wp2_with fail
  refine (seq_any _ _ ae be _ (H2.out.fresh HC2.out) (K2.out.fresh HC2.out)).mono ?_
  rintro e w3 ⟨rfl, hc3⟩
  have HC3 := Lib.hid (HC2.out.trans hc3 (by simp))
  clear x0 x1 y0 y1 hsz hc3
  go_wp2
  go_ret
  exact ⟨ret_bool (by show _ = (decide (av = bv) && decide (ae = be)); rw [HE.out]; simp), HC3.out⟩
 have HE := Lib.hid (show decide (av = bv) = false from decide_eq_false h0)
 rw [HE.out]
 clear h0 x0 x1 y0 y1 hsz
 go_wp2
 go_ret
 exact ⟨ret_bool (by show _ = (decide (av = bv) && decide (ae = be)); rw [HE.out]; simp), HC2.out⟩
end Go.Proofs.YtpcgklagmcnhaaaGreat
namespace Go.Proofs.YtpcgklagmcnhaaaGreat.Plain
variable {g : Gr} {p q : Pt} {turn turn' : List (List Int)} {w : List Int} {a z x y : Int}
def srt (l : List Int) : List Int := l.mergeSort fun x y => decide (x ≤ y)
theorem srt_perm (l : List Int) : (srt l).Perm l := List.mergeSort_perm _ _
structure Dfs where
 met : Int → Int
 low : Int → Int
 cnt : Int
 ed : List Int
 bl : List (List Int)
def upd (f : Int → Int) (v x : Int) : Int → Int := fun y => if y = v then x else f y
theorem upd_at (f : Int → Int) (v x : Int) : upd f v x v = x := if_pos rfl
theorem upd_ne {f : Int → Int} {v x y : Int} (h : y ≠ v) : upd f v x y = f y := if_neg h
def setB (l : List Int) (bl : List (List Int)) : List (List Int) := if bl.any (fun m => decide (m.getD 0 0 = l.getD 0 0)) then bl.map (fun m => if m.getD 0 0 = l.getD 0 0 then l else m) else bl ++ [l]
theorem setB_new {l : List Int} {bl : List (List Int)} (h : ∀ m ∈ bl, m.getD 0 0 ≠ l.getD 0 0) : setB l bl = bl ++ [l] := by
 grind [setB]
theorem setB_old {l : List Int} {bl : List (List Int)} (hx : ∃ m ∈ bl, m.getD 0 0 = l.getD 0 0) (h : ∀ m ∈ bl, m.getD 0 0 = l.getD 0 0 → m = l) : setB l bl = bl := by
 unfold setB
 obtain ⟨m, hm, e⟩ := hx
 rw [if_pos (List.any_eq_true.2 ⟨m, hm, decide_eq_true e⟩)]
 have : bl.map (fun m => if m.getD 0 0 = l.getD 0 0 then l else m) = bl.map id := List.map_congr_left fun k hk => by
  all_goals grind
 rw [this, List.map_id]
def Dfs.enter (s : Dfs) (v : Int) : Dfs := { s with met := upd s.met v (s.cnt + 1), low := upd s.low v (s.cnt + 1), cnt := s.cnt + 1 }
def Dfs.push (s : Dfs) (e : Int) : Dfs := { s with ed := s.ed ++ [e] }
def Dfs.lower (s : Dfs) (v x : Int) : Dfs := { s with low := upd s.low v (min (s.low v) x) }
def Dfs.take (s : Dfs) (e : Int) : Dfs := { s with ed := s.ed.take (s.ed.idxOf e), bl := setB (srt (s.ed.drop (s.ed.idxOf e))) s.bl }
def Dfs.lay (s : Dfs) (e : Int) : Dfs := { s with bl := setB [e] s.bl }
def Dfs.back (t : Dfs) (v w e : Int) : Dfs := if t.met v ≤ t.low w then (t.lower v (t.low w)).take e else t.lower v (t.low w)
def stepD (go : Int → Int → Dfs → Dfs) (g : Gr) (v via : Int) (s : Dfs) (d : Int) : Dfs :=
 if g.head d = v then s.lay (d / 2)
 else if d / 2 = via then s
 else if s.met (g.head d) = 0 then (go (g.head d) (d / 2) (s.push (d / 2))).back v (g.head d) (d / 2)
 else if s.met (g.head d) < s.met v then (s.push (d / 2)).lower v (s.met (g.head d))
 else s
def visit (g : Gr) (p : Pt) : Nat → Int → Int → Dfs → Dfs
 | 0, _, _, s => s
 | n + 1, v, via, s => (dartsAt g p v).foldl (stepD (visit g p n) g v via) (s.enter v)
def New (s t : Dfs) (x : Int) : Prop := s.met x = 0 ∧ t.met x ≠ 0
def Both (g : Gr) (s : Dfs) (e : Int) : Prop := s.met (g.at e).1 ≠ 0 ∧ s.met (g.at e).2 ≠ 0
structure DOk (g : Gr) (p : Pt) (s : Dfs) (A : List Int) : Prop where
 cnt : 0 ≤ s.cnt
 num : ∀ x, 0 ≤ s.met x ∧ s.met x ≤ s.cnt
 inj : ∀ x y, s.met x ≠ 0 → s.met x = s.met y → x = y
 act : ∀ a ∈ A, s.met a ≠ 0
 inV : ∀ x, s.met x ≠ 0 → x ∈ p.v
 fin : ∀ d ∈ p.darts, s.met (g.tail d) ≠ 0 → g.tail d ∉ A → s.met (g.head d) ≠ 0
 bln : ∀ l ∈ s.bl, l ≠ []
 blm : ∀ l ∈ s.bl, ∀ e ∈ l, e ∈ p.e ∧ Both g s e
 loopB : ∀ l ∈ s.bl, ∀ e ∈ l, (g.at e).1 = (g.at e).2 → l = [e]
structure Ent (g : Gr) (p : Pt) (s : Dfs) (A : List Int) (v via : Int) : Prop where
 good : DOk g p s A
 vV : v ∈ p.v
 vn : s.met v = 0
 par : (A = [] ∧ via = -1) ∨ ∃ d ∈ p.darts, d / 2 = via ∧ g.head d = v ∧ g.tail d ∈ A
 edm : ∀ e ∈ s.ed, e = via ∨ (e ∈ p.e ∧ Both g s e)
 edl : ∀ e ∈ s.ed, e ∈ p.e ∧ (g.at e).1 ≠ (g.at e).2
def Cov (g : Gr) (p : Pt) (s t : Dfs) (v via : Int) (pre : List Int) (e : Int) : Prop := e ≠ via ∧ ∃ d ∈ p.darts, d / 2 = e ∧ New s t (g.tail d) ∧ (g.tail d ≠ v ∨ d ∈ pre)
def Fst (g : Gr) (p : Pt) (B : List Int) : Prop := (∃ e ∈ p.e, B = [e] ∧ (g.at e).1 = (g.at e).2) ∨
 ∃ z ∈ p.v, ∃ Y : Int → Prop, ¬ Y z ∧ (∀ d ∈ p.darts, Y (g.tail d) → Y (g.head d) ∨ g.head d = z) ∧ (∀ e, e ∈ B ↔ ∃ d ∈ p.darts, d / 2 = e ∧ Y (g.tail d))
structure DSeen (g : Gr) (p : Pt) (s t : Dfs) (A : List Int) (v via : Int) (pre : List Int) : Prop where
 good : DOk g p t (A ++ [v])
 old : ∀ x, s.met x ≠ 0 → t.met x = s.met x ∧ t.low x = s.low x
 me : t.met v = s.cnt + 1
 later : ∀ x, New s t x → s.cnt < t.met x
 tree : ∀ x, New s t x → ∀ z, ¬ New s t z → Come g p z v x
 seen : ∀ d ∈ pre, t.met (g.head d) ≠ 0
 low1 : t.low v ≤ t.met v
 low2 : t.low v < t.met v → ∃ d ∈ p.darts, New s t (g.tail d) ∧ g.head d ∈ A ∧ s.met (g.head d) = t.low v ∧ d / 2 ≠ via
 low3 : ∀ d ∈ p.darts, New s t (g.tail d) → (g.tail d = v → d ∈ pre) → g.head d ∈ A → d / 2 ≠ via → t.low v ≤ s.met (g.head d)
 edm : ∀ e ∈ t.ed, e ∈ p.e ∧ Both g t e
 edl : ∀ e ∈ t.ed, (g.at e).1 ≠ (g.at e).2
 cov : ∃ R N, t.ed = s.ed ++ R ∧ t.bl = s.bl ++ N ∧ (R ++ N.flatten).Nodup ∧ ∀ e, e ∈ R ++ N.flatten ↔ Cov g p s t v via pre e
 cut : t.bl = s.bl → ∀ z x, New s t z → New s t x → x ≠ z → (z ≠ v ∧ Come g p z x v) ∨ ∃ y ∈ A, Come g p z x y
 fst : s.bl = [] → ∀ B l, t.bl = B :: l → Fst g p B
 top1 : A = [] → t.ed = s.ed
 top2 : A = [] → t.bl = s.bl → ∀ x, New s t x → x = v
 top3 : A = [] → t.bl.length ≤ s.bl.length + 1 → ∀ z x y, New s t z → New s t x → New s t y → x ≠ z → y ≠ z → Come g p z x y
def unm (p : Pt) (s : Dfs) : Nat := (p.v.filter fun x => decide (s.met x = 0)).length
variable {g : Gr} {p : Pt} {s t : Dfs} {A pre : List Int} {v via : Int}
theorem filter_le_filter {α : Type} {f h : α → Bool} : ∀ {l : List α}, (∀ x ∈ l, f x = true → h x = true) → (l.filter f).length ≤ (l.filter h).length
 | [], _ => Nat.le_refl _
 | x :: l, q => by
  have ih := filter_le_filter (f := f) (h := h) (l := l) fun y hy => q y (List.mem_cons_of_mem _ hy)
  cases e : f x with
  | true => rw [List.filter_cons_of_pos e, List.filter_cons_of_pos (q x (by simp) e)]; simpa using ih
  | false =>
   rw [List.filter_cons_of_neg (by simp [e])]
   cases e2 : h x with
   | true => rw [List.filter_cons_of_pos e2]; simp; omega
   | false => rw [List.filter_cons_of_neg (by simp [e2])]; exact ih
theorem filter_lt_filter {α : Type} {f h : α → Bool} {a : α} : ∀ {l : List α}, (∀ x ∈ l, f x = true → h x = true) → a ∈ l → f a = false → h a = true → (l.filter f).length < (l.filter h).length
 | [], _, ha, _, _ => by simp at ha
 | x :: l, q, ha, h1, h2 => by
  have le := filter_le_filter (f := f) (h := h) (l := l) fun y hy => q y (List.mem_cons_of_mem _ hy)
  rcases List.mem_cons.1 ha with e | hal
  ·subst e
   rw [List.filter_cons_of_neg (by simp [h1]), List.filter_cons_of_pos h2]
   simp; omega
  have ih := filter_lt_filter (f := f) (h := h) (l := l) (fun y hy => q y (List.mem_cons_of_mem _ hy)) hal h1 h2
  cases e : f x with
  | true => rw [List.filter_cons_of_pos e, List.filter_cons_of_pos (q x (by simp) e)]; simpa using ih
  | false =>
   rw [List.filter_cons_of_neg (by simp [e])]
   cases e2 : h x with
   | true => rw [List.filter_cons_of_pos e2]; simp; omega
   | false => rw [List.filter_cons_of_neg (by simp [e2])]; exact ih
theorem getD_in {l : List Int} {n : Nat} (h : n < l.length) : l.getD n 0 ∈ l := by grind
theorem div_twin' {d e : Int} (h : d / 2 = e / 2) : d = e ∨ e = twin d := by grind [twin]
theorem dart_ats (g : Gr) (d : Int) : (g.tail d = (g.at (d / 2)).1 ∧ g.head d = (g.at (d / 2)).2) ∨ (g.tail d = (g.at (d / 2)).2 ∧ g.head d = (g.at (d / 2)).1) := by
 all_goals grind [Gr.tail, Gr.head]
theorem both_dart {d : Int} : Both g s (d / 2) ↔ s.met (g.tail d) ≠ 0 ∧ s.met (g.head d) ≠ 0 := by
 all_goals grind [Both, dart_ats]
theorem loop_dart {d : Int} : (g.at (d / 2)).1 = (g.at (d / 2)).2 ↔ g.tail d = g.head d := by
 all_goals grind [dart_ats]
theorem edge_dart {e : Int} (he : e ∈ p.e) : ∃ d ∈ p.darts, d / 2 = e ∧ g.tail d = (g.at e).1 ∧ g.head d = (g.at e).2 :=
 ⟨2 * e, mem_darts.2 (by rwa [show 2 * e / 2 = e by omega]), by omega, (tail_even g e).1, (tail_even g e).2⟩
theorem DSeen.start (hp : PartOk g p) (h : Ent g p s A v via) : DSeen g p s (s.enter v) A v via [] := by
 have hg := h.good
 have hnew : ∀ x, New s (s.enter v) x ↔ x = v := fun x => by
  unfold New Dfs.enter
  constructor
  ·rintro ⟨h1, h2⟩
   refine Classical.byContradiction fun e => h2 ?_
   show upd s.met v _ x = 0
   rw [upd_ne e]; exact h1
  rintro rfl
  refine ⟨h.vn, ?_⟩
  show upd s.met x _ x ≠ 0
  rw [upd_at]; have := hg.cnt; omega
 have hmet : ∀ x, x ≠ v → (s.enter v).met x = s.met x := fun x hx => upd_ne hx
 have hme : (s.enter v).met v = s.cnt + 1 := upd_at _ _ _
 have hmono : ∀ x, s.met x ≠ 0 → (s.enter v).met x ≠ 0 := fun x hx => by
  by_cases e : x = v
  ·rw [e, hme]; have := hg.cnt; omega
  all_goals grind
 have hbm : ∀ e, Both g s e → Both g (s.enter v) e := fun e hb => ⟨hmono _ hb.1, hmono _ hb.2⟩
 have hlow : (s.enter v).low v = s.cnt + 1 := upd_at _ _ _
 refine ⟨⟨?_, fun x => ?_, fun x y hx hxy => ?_, fun a ha => ?_, fun x hx => ?_, fun d hd ht hn => ?_, hg.bln, fun l hl e he => ⟨(hg.blm l hl e he).1, hbm e (hg.blm l hl e he).2⟩, hg.loopB⟩, fun x hx => ?_, hme, fun x hx => ?_, fun x hx z hz => ?_, by simp, ?_, fun q => ?_, fun d _ hn hpre => ?_, fun e he => ?_, fun e he => (h.edl e he).2, ⟨[], [], by rw [List.append_nil]; rfl, by rw [List.append_nil]; rfl, by simp, fun e => ?_⟩, fun _ z x hz hx hne => ?_, fun hs B l hB => ?_, fun _ => rfl, fun _ _ x hx => (hnew x).1 hx, fun _ _ z x y hz hx _ hxz _ => absurd (((hnew x).1 hx).trans ((hnew z).1 hz).symm) hxz⟩
 ·show (0 : Int) ≤ s.cnt + 1
  have := hg.cnt; omega
 ·have := hg.num x
  all_goals grind [Dfs.enter]
 ·by_cases e1 : x = v
  ·by_cases e2 : y = v
   ·rw [e1, e2]
   rw [e1, hme, hmet y e2] at hxy
   have := (hg.num y).2; omega
  by_cases e2 : y = v
  ·rw [e2, hme, hmet x e1] at hxy
   have := (hg.num x).2; omega
  rw [hmet x e1] at hx hxy
  rw [hmet y e2] at hxy
  exact hg.inj x y hx hxy
 ·rcases List.mem_append.1 ha with q | q
  ·exact hmono a (hg.act a q)
  rw [List.mem_singleton.1 q, hme]; have := hg.cnt; omega
 ·by_cases e : x = v
  ·rw [e]; exact h.vV
  rw [hmet x e] at hx; exact hg.inV x hx
 ·have hnv : g.tail d ≠ v := fun e => hn (by grind)
  rw [hmet _ hnv] at ht
  exact hmono _ (hg.fin d hd ht fun q => hn (List.mem_append_left _ q))
 ·have e : x ≠ v := fun e => hx (by rw [e]; exact h.vn)
  exact ⟨hmet x e, upd_ne e⟩
 ·grind
 ·rw [(hnew x).1 hx]; exact .here
 ·grind
 ·grind
 ·grind
 ·rcases h.edm e he with q | q
  ·rcases h.par with ⟨-, hm⟩ | ⟨d, hd, hd2, hh, ha⟩
   ·have := hp.er e (h.edl e he).1; omega
   subst q
   refine ⟨(h.edl e he).1, ?_⟩
   rw [← hd2, both_dart, hh, hme]
   exact ⟨hmono _ (hg.act _ ha), by have := hg.cnt; omega⟩
  all_goals grind
 ·simp only [List.flatten_nil, List.append_nil, List.not_mem_nil, false_iff]
  rintro ⟨-, d, -, -, hn, q | q⟩
  all_goals grind
 ·exact absurd ((hnew x).1 hx |>.trans ((hnew z).1 hz).symm) hne
 rw [show (s.enter v).bl = s.bl from rfl, hs] at hB
 cases hB
variable {g : Gr} {p : Pt} {s t : Dfs} {A pre : List Int} {v via : Int}
theorem Ent.vA (h : Ent g p s A v via) : v ∉ A := fun q => h.good.act v q h.vn
theorem Ent.via_head (h : Ent g p s A v via) (hp : PartOk g p) {d : Int} (hd : d ∈ p.darts) (hv : g.tail d = v) (he : d / 2 = via) : g.head d ∈ A := by
 rcases h.par with ⟨-, q⟩ | ⟨c, hc, hc2, hh, ha⟩
 ·have := hp.er _ (mem_darts.1 hd); omega
 rcases div_twin' (hc2.trans he.symm) with r | r
 ·exact absurd (by rw [← hv, ← r]; exact ha) h.vA
 have : g.head d = g.tail c := by rw [r, ← tail_twin, twin_twin]
 rw [this]; exact ha
theorem DSeen.mono (h : DSeen g p s t A v via pre) {x : Int} (hx : s.met x ≠ 0) : t.met x ≠ 0 := by rw [(h.old x hx).1]; exact hx
theorem DSeen.newv (hE : Ent g p s A v via) (h : DSeen g p s t A v via pre) : New s t v := ⟨hE.vn, by rw [h.me]; have := hE.good.cnt; omega⟩
theorem DSeen.inA (hE : Ent g p s A v via) (_h : DSeen g p s t A v via pre) {d : Int} (hd : d ∈ p.darts) (hn : New s t (g.tail d)) (hm : s.met (g.head d) ≠ 0) : g.head d ∈ A := by
 refine Classical.byContradiction fun q => ?_
 have := hE.good.fin (twin d) (twin_mem hd) (by grind [tail_twin]) (by grind [tail_twin])
 rw [← tail_twin, twin_twin] at this
 exact this hn.1
theorem DSeen.same (h : DSeen g p s t A v via pre) {d : Int} (hs : t.met (g.head d) ≠ 0) (hlow : g.head d ∈ A → d / 2 ≠ via → t.low v ≤ s.met (g.head d)) (hcov : d / 2 ≠ via → Cov g p s t v via pre (d / 2)) : DSeen g p s t A v via (pre ++ [d]) := by
 obtain ⟨R, N, e1, e2, e3, e4⟩ := h.cov
 refine ⟨h.good, h.old, h.me, h.later, h.tree, fun c hc => ?_, h.low1, h.low2, fun c hc hn hpre hA hv => ?_, h.edm, h.edl, ⟨R, N, e1, e2, e3, fun e => ?_⟩, h.cut, h.fst, h.top1, h.top2, h.top3⟩
 ·rcases List.mem_append.1 hc with q | q
  ·exact h.seen c q
  all_goals grind
 ·by_cases q : g.tail c = v ∧ c ∉ pre
  ·have h1 := hpre q.1
   rcases List.mem_append.1 h1 with r | r
   ·exact absurd r q.2
   rw [List.mem_singleton.1 r] at hA hv ⊢; exact hlow hA hv
  exact h.low3 c hc hn (fun r => Classical.byContradiction fun u => q ⟨r, u⟩) hA hv
 rw [e4]
 constructor
 ·rintro ⟨h1, c, hc, h2, h3, h4⟩
  exact ⟨h1, c, hc, h2, h3, h4.imp id fun q => List.mem_append_left _ q⟩
 rintro ⟨h1, c, hc, h2, h3, h4⟩
 rcases h4 with q | q
 ·exact ⟨h1, c, hc, h2, h3, Or.inl q⟩
 rcases List.mem_append.1 q with r | r
 ·exact ⟨h1, c, hc, h2, h3, Or.inr r⟩
 all_goals grind
theorem DSeen.loop (hp : PartOk g p) (hE : Ent g p s A v via) (h : DSeen g p s t A v via pre) {d : Int} (hd : d ∈ p.darts) (hv : g.tail d = v) (hh : g.head d = v) : DSeen g p s (t.lay (d / 2)) A v via (pre ++ [d]) := by
 have hloop : (g.at (d / 2)).1 = (g.at (d / 2)).2 := loop_dart.2 (hv.trans hh.symm)
 have hvm : t.met v ≠ 0 := (h.newv hE).2
 have hvia : d / 2 ≠ via := fun q => hE.vA (by grind [Ent.via_head])
 by_cases hc : Cov g p s t v via pre (d / 2)
 ·have hbl : (t.lay (d / 2)) = t := by
   obtain ⟨R, N, e1, e2, e3, e4⟩ := h.cov
   have hm := (e4 _).2 hc
   have hN : d / 2 ∈ N.flatten := by
    rcases List.mem_append.1 hm with q | q
    ·exact absurd hloop (h.edl _ (by grind))
    exact q
   obtain ⟨l, hl, hel⟩ := List.mem_flatten.1 hN
   have hlt : l ∈ t.bl := by rw [e2]; exact List.mem_append_right _ hl
   have hle := h.good.loopB l hlt _ hel hloop
   unfold Dfs.lay
   rw [setB_old ⟨l, hlt, by rw [hle]⟩ fun m hm q => ?_]
   have hmm : d / 2 ∈ m := by
    have h0 : m.getD 0 0 ∈ m := getD_in (List.length_pos_iff.2 (h.good.bln m hm))
    grind
   exact h.good.loopB m hm _ hmm hloop
  rw [hbl]
  exact h.same (by grind) (fun q => absurd (by grind) hE.vA) fun _ => hc
 have hnb : ∀ m ∈ t.bl, d / 2 ∉ m := fun m hm hem => by
  obtain ⟨R, N, e1, e2, e3, e4⟩ := h.cov
  rw [e2] at hm
  rcases List.mem_append.1 hm with q | q
  ·have := (both_dart.1 (hE.good.blm m q _ hem).2).1
   rw [hv] at this
   exact this hE.vn
  exact hc ((e4 _).1 (List.mem_append_right _ (List.mem_flatten.2 ⟨m, q, hem⟩)))
 have hbl : (t.lay (d / 2)).bl = t.bl ++ [[d / 2]] := setB_new fun m hm q => by
  have h0 : m.getD 0 0 ∈ m := getD_in (List.length_pos_iff.2 (h.good.bln m hm))
  grind
 obtain ⟨t', ht'⟩ : ∃ t', t.lay (d / 2) = t' := ⟨_, rfl⟩
 have m1 : t'.met = t.met := by rw [← ht']; rfl
 have m2 : t'.low = t.low := by rw [← ht']; rfl
 have m3 : t'.ed = t.ed := by rw [← ht']; rfl
 have m4 : t'.cnt = t.cnt := by rw [← ht']; rfl
 rw [ht'] at hbl ⊢
 have hN : ∀ x, New s t' x ↔ New s t x := fun x => by unfold New; rw [m1]
 have hB : ∀ e, Both g t' e ↔ Both g t e := fun e => by unfold Both; rw [m1]
 have hG := h.good
 have hbe : Both g t (d / 2) := both_dart.2 ⟨by grind, by grind⟩
 obtain ⟨R, N, e1, e2, e3, e4⟩ := h.cov
 refine ⟨⟨by rw [m4]; exact hG.cnt, by rw [m1, m4]; exact hG.num, by rw [m1]; exact hG.inj, by rw [m1]; exact hG.act, by rw [m1]; exact hG.inV, by rw [m1]; exact hG.fin, fun l hl => ?_, fun l hl e he => ?_, fun l hl e he hle => ?_⟩, by rw [m1, m2]; exact h.old, by rw [m1]; exact h.me, fun x hx => by rw [m1]; exact h.later x ((hN x).1 hx), fun x hx z hz => h.tree x ((hN x).1 hx) z fun q => hz ((hN z).2 q), fun c hc => ?_, by rw [m1, m2]; exact h.low1, ?_, fun c hc hn hpre hA hv => ?_, fun e he => by rw [m3] at he; exact ⟨(h.edm e he).1, (hB e).2 (h.edm e he).2⟩, by rw [m3]; exact h.edl, ⟨R, N ++ [[d / 2]], by grind, by grind, ?_, fun e => ?_⟩, fun q => ?_, fun hs B l hBl => ?_, fun q => by rw [m3]; exact h.top1 q, fun _ q => ?_, fun q1 q => ?_⟩
 ·rw [hbl] at hl
  rcases List.mem_append.1 hl with q | q
  ·exact hG.bln l q
  all_goals grind
 ·rw [hbl] at hl
  rw [hB]
  rcases List.mem_append.1 hl with q | q
  ·exact hG.blm l q e he
  all_goals grind [mem_darts]
 ·rw [hbl] at hl
  rcases List.mem_append.1 hl with q | q
  ·exact hG.loopB l q e he hle
  all_goals grind
 ·rw [m1]
  rcases List.mem_append.1 hc with q | q
  ·exact h.seen c q
  all_goals grind
 ·intro q
  rw [m1, m2] at q
  obtain ⟨c, hc, k1, k2, k3, k4⟩ := h.low2 q
  grind
 ·rw [m2]
  by_cases q : c = d
  ·rw [q, hh] at hA; exact absurd hA hE.vA
  exact h.low3 c hc ((hN _).1 hn) (fun r => (List.mem_append.1 (hpre r)).resolve_right fun u => q (List.mem_singleton.1 u)) hA hv
 ·grind
 ·rw [List.flatten_append, ← List.append_assoc, List.mem_append, e4]
  simp only [List.flatten_cons, List.flatten_nil, List.append_nil, List.mem_singleton]
  constructor
  ·rintro (⟨h1, c, hc, h2, h3, h4⟩ | rfl)
   ·exact ⟨h1, c, hc, h2, (hN _).2 h3, h4.imp id fun q => List.mem_append_left _ q⟩
   exact ⟨hvia, d, hd, rfl, (hN _).2 (by grind [DSeen.newv]), Or.inr (by simp)⟩
  rintro ⟨h1, c, hc, h2, h3, h4⟩
  rcases h4 with q | q
  ·exact Or.inl ⟨h1, c, hc, h2, (hN _).1 h3, Or.inl q⟩
  rcases List.mem_append.1 q with r | r
  ·exact Or.inl ⟨h1, c, hc, h2, (hN _).1 h3, Or.inr r⟩
  all_goals grind
 ·rw [hbl, e2, List.append_assoc] at q
  have := congrArg List.length q
  simp at this
 ·rw [hbl] at hBl
  cases hq : t.bl with
  | nil =>
   rw [hq] at hBl
   cases hBl
   exact Or.inl ⟨d / 2, mem_darts.1 hd, rfl, hloop⟩
  | cons B' l' =>
   rw [hq, List.cons_append] at hBl
   injection hBl with k1 k2
   rw [← k1]
   exact h.fst hs B' l' hq
 ·exfalso
  rw [hbl, e2, List.append_assoc] at q
  have := congrArg List.length q
  simp at this
 intro z x y hz hx _ hxz _
 have hb0 : t.bl = s.bl := by
  rw [hbl, e2] at q
  simp only [List.length_append, List.length_singleton] at q
  grind
 exact absurd ((h.top2 q1 hb0 x ((hN x).1 hx)).trans (h.top2 q1 hb0 z ((hN z).1 hz)).symm) hxz
theorem DSeen.up (_hp : PartOk g p) (hE : Ent g p s A v via) (h : DSeen g p s t A v via pre) {d : Int} (hd : d ∈ p.darts) (hv : g.tail d = v) (hdp : d ∉ pre) (hh : g.head d ≠ v) (hvia : d / 2 ≠ via) (hm : t.met (g.head d) ≠ 0) (hlt : t.met (g.head d) < t.met v) :
  DSeen g p s ((t.push (d / 2)).lower v (t.met (g.head d))) A v via (pre ++ [d]) := by
 have hnv := h.newv hE
 have hsm : s.met (g.head d) ≠ 0 := fun q => by
  have := h.later _ ⟨q, hm⟩
  rw [h.me] at hlt; omega
 have hA : g.head d ∈ A := h.inA hE hd (by grind) hsm
 have hold := (h.old _ hsm).1
 obtain ⟨t', ht'⟩ : ∃ t', (t.push (d / 2)).lower v (t.met (g.head d)) = t' := ⟨_, rfl⟩
 have m1 : t'.met = t.met := by rw [← ht']; rfl
 have m2 : ∀ x, x ≠ v → t'.low x = t.low x := fun x hx => by rw [← ht']; exact upd_ne hx
 have m3 : t'.ed = t.ed ++ [d / 2] := by rw [← ht']; rfl
 have m4 : t'.cnt = t.cnt := by rw [← ht']; rfl
 have m5 : t'.bl = t.bl := by rw [← ht']; rfl
 have m6 : t'.low v = min (t.low v) (t.met (g.head d)) := by rw [← ht']; exact upd_at _ _ _
 rw [ht']
 have hN : ∀ x, New s t' x ↔ New s t x := fun x => by unfold New; rw [m1]
 have hB : ∀ e, Both g t' e ↔ Both g t e := fun e => by unfold Both; rw [m1]
 have hG := h.good
 have hbe : Both g t (d / 2) := both_dart.2 ⟨by rw [hv]; exact hnv.2, hm⟩
 have hnc : ¬ Cov g p s t v via pre (d / 2) := by
  rintro ⟨-, c, hc, h2, h3, h4⟩
  rcases div_twin' h2.symm with q | q
  ·rcases h4 with r | r
   ·exact r (by rw [← q]; exact hv)
   exact hdp (by rw [q]; exact r)
  have : g.tail c = g.head d := by rw [q, tail_twin]
  rw [this] at h3
  exact hsm h3.1
 obtain ⟨R, N, e1, e2, e3, e4⟩ := h.cov
 refine ⟨⟨by rw [m4]; exact hG.cnt, by rw [m1, m4]; exact hG.num, by rw [m1]; exact hG.inj, by rw [m1]; exact hG.act, by rw [m1]; exact hG.inV, by rw [m1]; exact hG.fin, by rw [m5]; exact hG.bln, fun l hl e he => ?_, by rw [m5]; exact hG.loopB⟩, fun x hx => ?_, by rw [m1]; exact h.me, fun x hx => by rw [m1]; exact h.later x ((hN x).1 hx), fun x hx z hz => h.tree x ((hN x).1 hx) z fun q => hz ((hN z).2 q), fun c hc => ?_, ?_, fun q => ?_, fun c hc hn hpre hcA hcv => ?_, fun e he => ?_, fun e he => ?_, ⟨R ++ [d / 2], N, by grind, by grind, ?_, fun e => ?_⟩, fun q z x hz hx hne => ?_, by rw [m5]; exact h.fst, fun q => absurd hA (by grind), fun q => absurd hA (by grind), fun q => absurd hA (by grind)⟩
 ·rw [m5] at hl
  rw [hB]; exact hG.blm l hl e he
 ·have hxv : x ≠ v := fun e => hx (by rw [e]; exact hE.vn)
  rw [m1, m2 x hxv]; exact h.old x hx
 ·rw [m1]
  rcases List.mem_append.1 hc with q | q
  ·exact h.seen c q
  all_goals grind
 ·grind
 ·rw [m6, m1] at q
  by_cases r : t.low v ≤ t.met (g.head d)
  ·obtain ⟨c, hc, k1, k2, k3, k4⟩ := h.low2 (by omega)
   grind
  all_goals grind
 ·rw [m6]
  by_cases q : c = d
  ·rw [q, ← hold]; omega
  have := h.low3 c hc ((hN _).1 hn) (fun r => (List.mem_append.1 (hpre r)).resolve_right fun u => q (List.mem_singleton.1 u)) hcA hcv
  omega
 ·rw [m3] at he
  rw [hB]
  rcases List.mem_append.1 he with q | q
  ·exact h.edm e q
  all_goals grind [mem_darts]
 ·rw [m3] at he
  rcases List.mem_append.1 he with q | q
  ·exact h.edl e q
  all_goals grind [loop_dart]
 ·grind
 ·have hm2 : e ∈ R ++ [d / 2] ++ N.flatten ↔ e = d / 2 ∨ e ∈ R ++ N.flatten := by
   all_goals grind
  rw [hm2, e4]
  constructor
  ·rintro (rfl | ⟨h1, c, hc, h2, h3, h4⟩)
   ·exact ⟨hvia, d, hd, rfl, (hN _).2 (by grind), Or.inr (by simp)⟩
   exact ⟨h1, c, hc, h2, (hN _).2 h3, h4.imp id fun q => List.mem_append_left _ q⟩
  rintro ⟨h1, c, hc, h2, h3, h4⟩
  rcases h4 with q | q
  ·exact Or.inr ⟨h1, c, hc, h2, (hN _).1 h3, Or.inl q⟩
  rcases List.mem_append.1 q with r | r
  ·exact Or.inr ⟨h1, c, hc, h2, (hN _).1 h3, Or.inr r⟩
  all_goals grind
 rw [m5] at q
 exact h.cut q z x ((hN z).1 hz) ((hN x).1 hx) hne
end Go.Proofs.YtpcgklagmcnhaaaGreat.Plain
