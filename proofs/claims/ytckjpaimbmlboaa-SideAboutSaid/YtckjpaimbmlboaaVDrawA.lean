/- All of a drawing that is left is the drawing. No program here. -/
import Derived.Test.YtckjpaimbmlboaaVDrawR
namespace Go.Proofs.Ytckjpaimbmlboaa.Plain
section
variable {g : Gr} {p q : Pt} {turn same : List (List Int)}
end
theorem Gen.leastK {K : List Int} {R Q : Int → Int → Prop} (hQ : Eqv Q) (h1 : ∀ x ∈ K, ∀ y ∈ K, R x y → Q x y) : ∀ {E : List Int}, (∀ e ∈ E, 2 * e ∈ K ∧ 2 * e + 1 ∈ K) → (∀ e ∈ E, Q (2 * e) (2 * e + 1)) → ∀ {x y : Int}, x ∈ K → y ∈ K → Gen R E x y → Q x y
 | [], _, _, x, y, hx, hy, h => h1 x hx y hy h
 | a :: E, hE, h2, x, y, hx, hy, h => by
  have ih : ∀ {x y : Int}, x ∈ K → y ∈ K → Gen R E x y → Q x y := fun {x y} => Gen.leastK (R := R) hQ h1 (E := E) (fun e he => hE e (List.mem_cons_of_mem _ he)) (fun e he => h2 e (List.mem_cons_of_mem _ he)) (x := x) (y := y)
  obtain ⟨a1, a2⟩ := hE a (by simp)
  have ha := h2 a (by simp)
  rcases h with q | ⟨q, r⟩ | ⟨q, r⟩
  ·exact ih hx hy q
  ·exact hQ.trans (hQ.trans (ih hx a1 q) ha) (ih a2 hy r)
  exact hQ.trans (hQ.trans (ih hx a2 q) (hQ.symm ha)) (ih a1 hy r)
section
variable {g : Gr} {p q r : Pt} {turn same : List (List Int)}
theorem mem_outE {e : Int} : e ∈ (outE p q).reverse ++ [] ↔ e ∈ p.e ∧ e ∉ q.e := by
 rw [List.append_nil, List.mem_reverse]; unfold outE; rw [List.mem_filter, decide_eq_true_iff]
end
section
variable {g : Gr} {p q : Pt} {turn same : List (List Int)}
theorem rises_filter {l : List Int} {n : Int} (h : rises l n = true) (f : Int → Bool) : rises (l.filter f) n = true := by
 unfold rises
 rw [List.all_eq_true]
 intro i hi
 have hi := List.mem_range.1 hi
 have hpw : (l.filter f).Pairwise (· < ·) := (rises_pair h).sublist List.filter_sublist
 have hget : ∀ j (hj : j < (l.filter f).length), (l.filter f).getD j 0 = (l.filter f)[j] := fun j hj => by simp [List.getD, hj]
 have hm : (l.filter f).getD i 0 ∈ l := (List.mem_filter.1 (getD_mem hi)).1
 obtain ⟨k, hk, e⟩ := mem_getD hm
 have h1 := rises_at h hk
 rw [e] at h1
 unfold risesAt
 have h2 : 0 < i → (l.filter f).getD (i - 1) 0 < (l.filter f).getD i 0 := fun h0 => by
  rw [hget i hi, hget (i - 1) (by omega)]
  exact List.pairwise_iff_getElem.1 hpw (i - 1) i (by omega) hi (by omega)
 by_cases h0 : 0 < i
 ·have := h2 h0
  simp only [Bool.not_or, Bool.and_eq_true, Bool.not_eq_true', decide_eq_false_iff_not, Bool.and_eq_false_imp, decide_eq_true_eq]
  exact ⟨⟨by omega, by omega⟩, fun _ => by omega⟩
 simp only [Bool.not_or, Bool.and_eq_true, Bool.not_eq_true', decide_eq_false_iff_not, Bool.and_eq_false_imp, decide_eq_true_eq]
 exact ⟨⟨by omega, by omega⟩, fun k => absurd k h0⟩
end
theorem ahead_back {l : List Int} (hn : l.Nodup) {d : Int} (hd : d ∈ l) : ahead l.reverse (ahead l d) = d := by
 obtain ⟨a, c, rfl, hda⟩ := split_at hd
 rw [ahead_split hda]
 rcases List.eq_nil_or_concat a with rfl | ⟨a, z, rfl⟩
 ·rcases List.eq_nil_or_concat c with rfl | ⟨c, z, rfl⟩
  ·have := ahead_split (a := []) (c := []) (u := d) (by simp)
   simpa using this
  have h1 : (([] : List Int).reverse ++ ((c.concat z).reverse ++ [d])).getD 0 0 = z := by simp [List.getD]
  rw [h1]
  have h2 := ahead_split (a := []) (c := c.reverse ++ [d]) (u := z) (by simp)
  have h3 : ([] ++ d :: c.concat z).reverse = [] ++ z :: (c.reverse ++ [d]) := by simp
  rw [h3, h2]
  simp [List.getD]
 have h1 : ((a.concat z).reverse ++ (c.reverse ++ [d])).getD 0 0 = z := by simp [List.getD]
 rw [h1]
 have hz : z ∉ c.reverse ++ [d] := by
  rw [List.concat_eq_append, List.append_assoc, List.nodup_append] at hn
  have h2 := hn.2.1
  rw [List.singleton_append, List.nodup_cons] at h2
  intro k
  rcases List.mem_append.1 k with k | k
  ·exact h2.1 (List.mem_cons_of_mem _ (List.mem_reverse.1 k))
  exact h2.1 (by rw [List.mem_singleton.1 k]; simp)
 have h2 := ahead_split (c := a.reverse) hz
 have h3 : (a.concat z ++ d :: c).reverse = (c.reverse ++ [d]) ++ z :: a.reverse := by simp
 rw [h3, h2]
 simp [List.getD]
def mirTurn (turn : List (List Int)) : List (List Int) := turn.map fun l => first l.reverse
theorem mirTurn_at (turn : List (List Int)) (v : Int) : turnAt (mirTurn turn) v = first (turnAt turn v).reverse := by
 unfold turnAt mirTurn List.getD
 rw [List.getElem?_map]
 cases turn[v.toNat]? <;> rfl
theorem mir_perm (l : List Int) : (first l.reverse).Perm l := (first_perm _).trans (List.reverse_perm l)
theorem mirTurn_ok {g : Gr} {p : Pt} {turn : List (List Int)} (ht : TurnsOk g p turn) : TurnsOk g p (mirTurn turn) := by
 refine ⟨by unfold mirTurn; rw [List.length_map]; exact ht.len, fun v => ?_, fun v h0 hn d => ?_⟩
 ·rw [mirTurn_at]; exact (mir_perm _).nodup_iff.2 (ht.nodup v)
 rw [mirTurn_at, (mir_perm _).mem_iff]; exact ht.mem v h0 hn d
def tau (x : Int) : Int := if x < 0 then x else twin x
theorem twin_pos {x : Int} (h : 0 ≤ x) : 0 ≤ twin x := by unfold twin; split <;> omega
theorem tau_tau (x : Int) : tau (tau x) = x := by
 unfold tau
 by_cases h : x < 0
 ·rw [if_pos h, if_pos h]
 have := twin_pos (x := x) (by omega)
 rw [if_neg h, if_neg (by omega), twin_twin]
section
variable {g : Gr} {p q : Pt} {turn same : List (List Int)}
theorem tau_dart (h : PartOk g p) {d : Int} (hd : d ∈ p.darts) : tau d = twin d := by unfold tau; rw [if_neg (by have := dart_pos h hd; omega)]
theorem tau_key {x : Int} (h : x < 0) : tau x = x := if_pos h
theorem mir_nil {v : Int} : turnAt (mirTurn turn) v = [] ↔ turnAt turn v = [] := by
 rw [mirTurn_at]
 constructor
 ·intro h
  have := (mir_perm (turnAt turn v)).length_eq
  rw [h] at this
  exact List.length_eq_zero_iff.1 this.symm
 intro h; rw [h]; rfl
theorem mir_ground (h : PartOk g p) {x : Int} : x ∈ ground g p (mirTurn turn) p.v ↔ x ∈ ground g p turn p.v := by
 rw [all_ground h, all_ground h]
 simp only [mir_nil]
theorem tau_ground (h : PartOk g p) {x : Int} (hx : x ∈ ground g p turn p.v) : tau x ∈ ground g p turn p.v := by
 rcases (all_ground h).1 hx with hd | ⟨v, hv, e, rfl⟩
 ·rw [tau_dart h hd]; exact (all_ground h).2 (Or.inl (twin_mem hd))
 rw [tau_key (by have := (h.vr v hv).1; omega)]; exact hx
theorem tau_piece (h : PartOk g p) {x : Int} (hx : x ∈ ground g p turn p.v) : pieceIx g p (vert g (tau x)) = pieceIx g p (vert g x) := by
 rcases (all_ground h).1 hx with hd | ⟨v, hv, e, rfl⟩
 ·rw [tau_dart h hd, vert_dart h hd, vert_dart h (twin_mem hd), tail_twin]
  have t := h.tail_mem hd
  exact (come_piece h t.1 t.2 (Come.step .here (near_dart hd) (fun k => by have := (h.vr _ t.2).1; omega))).symm
 rw [tau_key (by have := (h.vr v hv).1; omega)]
theorem mir_before (h : PartOk g p) (ht : TurnsOk g p turn) {d : Int} (hd : d ∈ p.darts) : before g (mirTurn turn) (before g turn d) = d := by
 have hut := dart_turn h ht hd
 have hn := ht.nodup (g.tail d)
 have hat := ahead_mem hn hut
 obtain ⟨a1, a2⟩ := turn_dart h ht (h.tail_mem hd).1 hat
 unfold before
 rw [a2, mirTurn_at, ahead_begun ((List.reverse_perm _).nodup_iff.2 hn) _ (List.mem_reverse.2 hat)]
 exact ahead_back hn hut
theorem mir_next (h : PartOk g p) (ht : TurnsOk g p turn) {x : Int} (hx : x ∈ ground g p turn p.v) : bef g (mirTurn turn) (tw p.e (tau (bef g turn (tw p.e x)))) = tau x := by
 rcases (all_ground h).1 hx with hd | ⟨v, hv, e, rfl⟩
 ·have hn := (next_tail ht (fun d hd => dart_ends h hd) hd).1
  rw [go_dart h h.en hd (mem_darts.1 hd), tau_dart h hn, tau_dart h hd]
  rw [go_dart h h.en (twin_mem hn) (mem_darts.1 (twin_mem hn))]
  unfold nextDart
  rw [twin_twin]
  exact mir_before h ht (twin_mem hd)
 have h0 := (h.vr v hv).1
 have hk : tau (-1 - v) = -1 - v := tau_key (by omega)
 have e1 : bef g turn (tw p.e (-1 - v)) = -1 - v := go_key h.en h.er (by omega)
 have e2 : bef g (mirTurn turn) (tw p.e (-1 - v)) = -1 - v := go_key h.en h.er (by omega)
 rw [e1, hk, e2]
theorem mir_rings (hpe : p.err g = 0) (ht : TurnsOk g p turn) : Rings (fun x => bef g (mirTurn turn) (tw p.e x)) (walksIn g (walksOf g p (mirTurn turn)) p.v) ∧ (walksIn g (walksOf g p (mirTurn turn)) p.v).flatten.Perm (ground g p (mirTurn turn) p.v) := by
 have h := Pt.ok_of_err hpe
 have := walk_rings hpe (mirTurn_ok ht) (walks_ok hpe (mirTurn_ok ht)) (Stretch.all h)
 rwa [edges_all h] at this
theorem own_rings (hpe : p.err g = 0) (ht : TurnsOk g p turn) : Rings (fun x => bef g turn (tw p.e x)) (walksIn g (walksOf g p turn) p.v) ∧ (walksIn g (walksOf g p turn) p.v).flatten.Perm (ground g p turn p.v) := by
 have h := Pt.ok_of_err hpe
 have := walk_rings hpe ht (walks_ok hpe ht) (Stretch.all h)
 rwa [edges_all h] at this
theorem mir_same (hpe : p.err g = 0) (ht : TurnsOk g p turn) {x y : Int} : Same (walksIn g (walksOf g p (mirTurn turn)) p.v) x y → Same (walksIn g (walksOf g p turn) p.v) (tau x) (tau y) := by
 have h := Pt.ok_of_err hpe
 obtain ⟨w1, w2⟩ := own_rings hpe ht
 obtain ⟨m1, m2⟩ := mir_rings hpe ht
 have hE := Same.eqv w1.nodup
 intro k
 refine Same.least (hE.comap tau) m1 (fun w hw => ?_) k
 have hwK := (mir_ground h).1 (m2.mem_iff.1 hw)
 obtain ⟨u, hu, e⟩ := w1.pred (w2.mem_iff.2 (tau_ground h hwK))
 have hn := mir_next h ht (w2.mem_iff.1 hu)
 have e : bef g turn (tw p.e u) = tau w := e
 rw [e, tau_tau] at hn
 show Same _ (tau w) (tau (bef g (mirTurn turn) (tw p.e w)))
 rw [hn, tau_tau, ← e]
 exact hE.symm (Same.step w1 hu)
theorem same_mir (hpe : p.err g = 0) (ht : TurnsOk g p turn) {x y : Int} : Same (walksIn g (walksOf g p turn) p.v) x y → Same (walksIn g (walksOf g p (mirTurn turn)) p.v) (tau x) (tau y) := by
 have h := Pt.ok_of_err hpe
 obtain ⟨w1, w2⟩ := own_rings hpe ht
 obtain ⟨m1, m2⟩ := mir_rings hpe ht
 have hE := Same.eqv m1.nodup
 intro k
 refine Same.least (hE.comap tau) w1 (fun w hw => ?_) k
 have hwK := w2.mem_iff.1 hw
 have hnK := w2.mem_iff.1 (w1.next hw)
 have hn := mir_next h ht hwK
 have hs := Same.step m1 (m2.mem_iff.2 ((mir_ground h).2 (tau_ground h hnK)))
 have hs : Same (walksIn g (walksOf g p (mirTurn turn)) p.v) (tau (bef g turn (tw p.e w))) (bef g (mirTurn turn) (tw p.e (tau (bef g turn (tw p.e w))))) := hs
 rw [hn] at hs
 exact hE.symm hs
theorem mir_count (hpe : p.err g = 0) (ht : TurnsOk g p turn) : (walksOf g p (mirTurn turn)).length = (walksOf g p turn).length := by
 have h := Pt.ok_of_err hpe
 obtain ⟨w1, w2⟩ := own_rings hpe ht
 obtain ⟨m1, m2⟩ := mir_rings hpe ht
 have e1 := cnt_same w1 w2
 have e2 := cnt_same m1 m2
 rw [walks_all h (walks_ok hpe ht).faces] at e1
 rw [walks_all h (walks_ok hpe (mirTurn_ok ht)).faces] at e2
 rw [← e1, ← e2]
 refine cnt_via (Same.eqv m1.nodup) (Same.eqv w1.nodup) tau (fun x hx => tau_ground h ((mir_ground h).1 hx)) (fun x _ y _ => ⟨mir_same hpe ht, fun k => ?_⟩) (fun z hz => ⟨tau z, (mir_ground h).2 (tau_ground h hz), by rw [tau_tau]; exact (Same.eqv w1.nodup).refl z⟩)
 have := same_mir hpe ht k
 rwa [tau_tau, tau_tau] at this
noncomputable def mirCls (g : Gr) (p : Pt) (turn same : List (List Int)) (f : Face) : Int := lof g p turn same (tau f.1)
noncomputable def mirSame (g : Gr) (p : Pt) (turn same : List (List Int)) : List (List Int) := grps (mirCls g p turn same) (walksOf g p (mirTurn turn))
theorem lof_same (hz : planErr g p turn same = 0) {x y : Int} (k : Same (walksIn g (walksOf g p turn) p.v) x y) : lof g p turn same x = lof g p turn same y := by
 obtain ⟨hpe, hto⟩ := zero_ok hz
 have h := Pt.ok_of_err hpe
 have hW := walks_ok hpe hto
 obtain ⟨w1, w2⟩ := own_rings hpe hto
 refine Same.least (Q := RegR g p turn same) (RegR.eqv g p turn same) w1 (fun w hw => ?_) k
 show lof g p turn same w = lof g p turn same (bef g turn (tw p.e w))
 rcases (all_ground h).1 (w2.mem_iff.1 hw) with hd | ⟨v, hv, -, rfl⟩
 ·rw [go_dart h h.en hd (mem_darts.1 hd)]
  unfold lof lf
  rw [(left_next _ hpe hW hd).1]
 rw [go_key h.en h.er (by have := (h.vr v hv).1; omega)]
theorem mir_beside (hz : planErr g p turn same = 0) {k : Int} (hk : k ∈ ground g p turn p.v) : ∃ f ∈ walksOf g p (mirTurn turn), lof g p turn same k = mirCls g p turn same f ∧ ownAt g p (mirTurn turn) f.1 = (pieceIx g p (vert g k) : Int) := by
 obtain ⟨hpe, hto⟩ := zero_ok hz
 have h := Pt.ok_of_err hpe
 have hm := mirTurn_ok hto
 have hW := walks_ok hpe hm
 have hkm := (mir_ground (turn := turn) h).2 (tau_ground h hk)
 obtain ⟨f, hf, hfm⟩ := mark_of hpe hm hkm
 have hkey := key_mark hpe hm hf
 refine ⟨f, hf, ?_, ?_⟩
 ·have := lof_same hz (mir_same hpe hto (Or.inr ⟨marks f, (marks_ground hpe hm hf).1, hfm, hkey.1⟩))
  rw [tau_tau] at this
  exact this
 rw [own_corner hpe hm hf, ← tau_piece h hk]
 have hcm := corner_mem h hW.faces f hf
 by_cases e : f.2 = []
 ·rw [marks_nil e] at hfm
  have hfm : tau k = f.1 := by simpa using hfm
  rw [hfm, hkey.2]
 rw [marks_some e] at hfm
 obtain ⟨n1, c1⟩ := piece_at h hcm
 obtain ⟨d1, d2⟩ := walk_const h hm hW.faces (comp_closed h _) hf hfm
 rw [vert_dart h d1, pieceIx_eq h n1 (d2.2 c1)]
theorem mir_key (hz : planErr g p turn same = 0) {f : Face} (hf : f ∈ walksOf g p (mirTurn turn)) : f.1 ∈ ground g p (mirTurn turn) p.v ∧ tau f.1 ∈ ground g p turn p.v := by
 obtain ⟨hpe, hto⟩ := zero_ok hz
 have h := Pt.ok_of_err hpe
 have := (marks_ground hpe (mirTurn_ok hto) hf).2 _ (key_mark hpe (mirTurn_ok hto) hf).1
 exact ⟨this, tau_ground h ((mir_ground h).1 this)⟩
theorem mir_right (hz : planErr g p turn same = 0) : planErr g p (mirTurn turn) (mirSame g p turn same) = 0 := by
 obtain ⟨hpe, hto⟩ := zero_ok hz
 have h := Pt.ok_of_err hpe
 have hm := mirTurn_ok hto
 have hW := walks_ok hpe hm
 by_cases hne : p.v = []
 ·have hw : walksOf g p (mirTurn turn) = [] := by
   cases e : walksOf g p (mirTurn turn) with
   | nil => rfl
   | cons f W =>
    have := corner_mem h hW.faces f (by rw [e]; simp)
    rw [hne] at this
    cases this
  have hs : mirSame g p turn same = [] := by unfold mirSame; rw [hw]; rfl
  have hr : roots g p = [] := by
   cases e : roots g p with
   | nil => rfl
   | cons r R =>
    have := (mem_roots.1 (show r ∈ roots g p by rw [e]; simp)).1
    rw [hne] at this
    cases this
  rw [hs, ← planErr_first]
  refine lone_plan ?_
  unfold loneErr
  have hf : flatErr g p (mirTurn turn) = 0 := flatErr_ok (turnErr_ok hpe hm) (fun r hr2 => by rw [hr] at hr2; cases hr2)
  rw [if_neg (by simp [hf]), if_pos (by rw [hr]; simp)]
 have heu := euler h hto (walks_ok hpe hto).faces (flatErr_zero (planErr_zero hz).1).2
 have hc := mir_count hpe hto
 have hreg := regs_count hz hne
 have hE : Eqv fun x y => RegR g p turn same (tau x) (tau y) := (RegR.eqv g p turn same).comap tau
 have hn : (regionsOf g p turn same).length = nCls (mirCls g p turn same) (walksOf g p (mirTurn turn)) := by
  rw [← cnt_regs hz]
  have e1 : cnt (fun x y => RegR g p turn same (tau x) (tau y)) (ground g p turn p.v) = cnt (RegR g p turn same) (ground g p turn p.v) :=
   cnt_via hE (RegR.eqv g p turn same) tau (fun x hx => tau_ground h hx) (fun x _ y _ => Iff.rfl) (fun z hzz => ⟨tau z, tau_ground h hzz, by rw [tau_tau]; rfl⟩)
  rw [← e1]
  refine nCls_cnt (walks_keys hpe hW) hE (pl := fun f => f.1) (fun f hf => (mir_ground h).1 (mir_key hz hf).1) (fun f _ x _ => Iff.rfl) (fun k hk => ?_)
  obtain ⟨f, hf, e, -⟩ := mir_beside hz (tau_ground h hk)
  exact ⟨f, hf, e⟩
 refine plan_grps hpe hm (flat_of hpe hm hW (by rw [hc]; exact heu)) (by rw [hc]; omega) fun J hJ hj => ?_
 let J' : Int → Int → Prop := fun u v => u = v ∨ ∃ f ∈ walksOf g p (mirTurn turn), ∃ x ∈ walksOf g p (mirTurn turn), lof g p turn same u = mirCls g p turn same f ∧ lof g p turn same v = mirCls g p turn same x ∧ J (ownAt g p (mirTurn turn) f.1) (ownAt g p (mirTurn turn) x.1)
 have hJ' : Eqv J' := by
  refine ⟨fun _ => Or.inl rfl, fun {u v} k => ?_, fun {u v w} k m => ?_⟩
  ·rcases k with e | ⟨f, hf, x, hx, k1, k2, k3⟩
   ·exact Or.inl e.symm
   exact Or.inr ⟨x, hx, f, hf, k2, k1, hJ.symm k3⟩
  rcases k with e | ⟨f, hf, x, hx, k1, k2, k3⟩
  ·rw [e]; exact m
  rcases m with e | ⟨f', hf', x', hx', m1, m2, m3⟩
  ·rw [← e]; exact Or.inr ⟨f, hf, x, hx, k1, k2, k3⟩
  exact Or.inr ⟨f, hf, x', hx', k1, m2, hJ.trans k3 (hJ.trans (hj _ hx _ hf' (k2.symm.trans m1)) m3)⟩
 have hreg2 : ∀ u ∈ ground g p turn p.v, ∀ v, RegR g p turn same u v → J' u v := fun u hu v k => by
  obtain ⟨f, hf, h1, -⟩ := mir_beside hz hu
  have k : lof g p turn same u = lof g p turn same v := k
  exact Or.inr ⟨f, hf, f, hf, h1, k ▸ h1, hJ.refl _⟩
 have hpc : ∀ u ∈ ground g p turn p.v, ∀ v ∈ ground g p turn p.v, pieceIx g p (vert g u) = pieceIx g p (vert g v) → J' u v := fun u hu v hv e => by
  obtain ⟨f, hf, h1, o1⟩ := mir_beside hz hu
  obtain ⟨x, hx, h2, o2⟩ := mir_beside hz hv
  exact Or.inr ⟨f, hf, x, hx, h1, h2, by rw [o1, o2, e]; exact hJ.refl _⟩
 have ht := tot_start hz J' hJ' (fun u hu => by
  have hvb := vert_bef h hto (Stretch.all h) hu
  exact hpc u hu _ hvb.1 (by rw [hvb.2])) (fun f hf => by
  have hg2 := edges_in (turn := turn) h (Stretch.all h) (by rw [edges_all h]; exact hf)
  refine hpc _ hg2.1 _ hg2.2 ?_
  have := tau_piece h hg2.1
  have d1 : 2 * f ∈ p.darts := mem_darts.2 (by rwa [show 2 * f / 2 = f by omega])
  rw [tau_dart h d1, show twin (2 * f) = 2 * f + 1 by unfold twin; rw [if_pos (by omega)]] at this
  exact this.symm) (fun u hu v _ m => hreg2 u hu v m)
 have pick : ∀ a ∈ upTo (roots g p).length, ∃ k ∈ ground g p turn p.v, (pieceIx g p (vert g k) : Int) = a := by
  intro a ha
  obtain ⟨a1, a2⟩ := mem_upTo.1 ha
  have hn : a.toNat < (roots g p).length := by omega
  have hr := (mem_roots.1 (getD_mem hn)).1
  obtain ⟨s1, s2⟩ := seat_mem h hto hr
  refine ⟨_, s1, ?_⟩
  rw [s2, pieceIx_eq h hn (mem_comp.2 ⟨hr, .here⟩)]
  omega
 intro a ha b hb
 obtain ⟨u, hu, eu⟩ := pick a ha
 obtain ⟨v, hv, ev⟩ := pick b hb
 obtain ⟨fu, hfu, ru, ou⟩ := mir_beside hz hu
 obtain ⟨fv, hfv, rv, ov⟩ := mir_beside hz hv
 rcases ht u hu v hv with e | ⟨f, hf, x, hx, k1, k2, k3⟩
 ·rw [← eu, ← ev, e]; exact hJ.refl _
 have j1 := hj _ hfu _ hf (ru.symm.trans k1)
 have j2 := hj _ hx _ hfv (k2.symm.trans rv)
 rw [ou, eu] at j1
 rw [ov, ev] at j2
 exact hJ.trans j1 (hJ.trans k3 j2)
theorem reg_mir (hz : planErr g p turn same = 0) {u v : Int} (hu : u ∈ ground g p turn p.v) (hv : v ∈ ground g p turn p.v) : RegR g p (mirTurn turn) (mirSame g p turn same) u v ↔ RegR g p turn same (tau u) (tau v) := by
 obtain ⟨hpe, hto⟩ := zero_ok hz
 have h := Pt.ok_of_err hpe
 have hm := mirTurn_ok hto
 have hz2 := mir_right hz
 have hk := walks_keys hpe (walks_ok hpe hm)
 have place : ∀ {u : Int}, u ∈ ground g p turn p.v → ∃ f ∈ walksOf g p (mirTurn turn), lof g p (mirTurn turn) (mirSame g p turn same) u = cls g p (mirTurn turn) (mirSame g p turn same) f ∧ lof g p turn same (tau u) = mirCls g p turn same f := by
  intro u hu
  obtain ⟨f, hf, hfm⟩ := mark_of hpe hm ((mir_ground (turn := turn) h).2 hu)
  refine ⟨f, hf, lof_cls hz2 hf hfm, ?_⟩
  exact lof_same hz (mir_same hpe hto (Or.inr ⟨marks f, (marks_ground hpe hm hf).1, hfm, (key_mark hpe hm hf).1⟩))
 obtain ⟨f, hf, e1, g1⟩ := place hu
 obtain ⟨x, hx, e2, g2⟩ := place hv
 unfold RegR
 rw [e1, e2, g1, g2]
 exact cls_grps hk (same_grps hz2).symm hf hx
end
def leastTo (k0 : Int) (l : List Int) : Nat → Int
 | 0 => k0
 | j + 1 => if j = 0 ∨ twin (l.getD j 0) < leastTo k0 l j then twin (l.getD j 0) else leastTo k0 l j
def kmOf (f : Face) : Int := leastTo f.1 f.2 f.2.length
def kmAt (W : List Face) (y : Int) : Option Int := (W.find? fun f => decide (f.1 = y)).map kmOf
def mirList (W : List Face) (l : List Int) : List Int := (l.map fun k => (kmAt W k).getD 0).mergeSort fun x y => decide (x ≤ y)
theorem leastTo_ok (k0 : Int) (l : List Int) : ∀ j, j < l.length → (∃ i, i ≤ j ∧ leastTo k0 l (j + 1) = twin (l.getD i 0)) ∧ ∀ i, i ≤ j → leastTo k0 l (j + 1) ≤ twin (l.getD i 0)
 | 0, _ => by
  have e : leastTo k0 l 1 = twin (l.getD 0 0) := if_pos (Or.inl rfl)
  refine ⟨⟨0, Nat.le_refl _, e⟩, fun i hi => ?_⟩
  have : i = 0 := by omega
  subst this
  show leastTo k0 l 1 ≤ _
  rw [e]
  exact Int.le_refl _
 | j + 1, hj => by
  obtain ⟨⟨i0, hi0, e0⟩, h0⟩ := leastTo_ok k0 l j (by omega)
  have e : leastTo k0 l (j + 1 + 1) = if j + 1 = 0 ∨ twin (l.getD (j + 1) 0) < leastTo k0 l (j + 1) then twin (l.getD (j + 1) 0) else leastTo k0 l (j + 1) := rfl
  by_cases h : twin (l.getD (j + 1) 0) < leastTo k0 l (j + 1)
  ·rw [e, if_pos (Or.inr h)]
   refine ⟨⟨j + 1, Nat.le_refl _, rfl⟩, fun i hi => ?_⟩
   by_cases q : i = j + 1
   ·subst q; omega
   have := h0 i (by omega); omega
  rw [e, if_neg (by omega)]
  refine ⟨⟨i0, by omega, e0⟩, fun i hi => ?_⟩
  by_cases q : i = j + 1
  ·subst q; omega
  exact h0 i (by omega)
theorem kmOf_nil {f : Face} (h : f.2 = []) : kmOf f = f.1 := by unfold kmOf; rw [h]; rfl
theorem kmOf_ok {f : Face} (h : f.2 ≠ []) : (∃ d ∈ f.2, kmOf f = twin d) ∧ ∀ d ∈ f.2, kmOf f ≤ twin d := by
 have hl : 0 < f.2.length := List.length_pos_iff.2 h
 obtain ⟨j, hj⟩ : ∃ j, f.2.length = j + 1 := ⟨f.2.length - 1, by omega⟩
 obtain ⟨⟨i, hi, e⟩, h2⟩ := leastTo_ok f.1 f.2 j (by omega)
 unfold kmOf
 rw [hj]
 refine ⟨⟨f.2.getD i 0, getD_mem (by omega), e⟩, fun d hd => ?_⟩
 obtain ⟨n, hn, rfl⟩ := mem_getD hd
 exact h2 n (by omega)
theorem find_key {W : List Face} (hk : (W.map (·.1)).Pairwise (· < ·)) {f : Face} (hf : f ∈ W) : W.find? (fun x => decide (x.1 = f.1)) = some f := by
 cases e : W.find? (fun x => decide (x.1 = f.1)) with
 | none => exact absurd (List.find?_eq_none.1 e f hf) (by simp)
 | some x =>
  have h1 := List.mem_of_find?_eq_some e
  have h3 := List.find?_some e
  have h2 : x.1 = f.1 := by simpa using h3
  rw [key_face hk h1 hf h2]
theorem kmAt_key {W : List Face} (hk : (W.map (·.1)).Pairwise (· < ·)) {f : Face} (hf : f ∈ W) : kmAt W f.1 = some (kmOf f) := by
 unfold kmAt
 rw [find_key hk hf]; rfl
theorem kmAt_step {W : List Face} (hk : (W.map (·.1)).Pairwise (· < ·)) {k : Nat} (hlt : k < W.length) : (fun y => if y = (W.getD k (0, [])).1 then some (kmOf (W.getD k (0, []))) else kmAt (W.take k) y) = kmAt (W.take (k + 1)) := by
 have e : W.getD k (0, []) = W[k] := by simp [List.getD, hlt]
 have ht : W.take (k + 1) = W.take k ++ [W.getD k (0, [])] := by rw [e]; simp
 funext y
 unfold kmAt
 rw [ht, List.find?_append]
 by_cases h : y = (W.getD k (0, [])).1
 ·have hn : (W.take k).find? (fun f => decide (f.1 = y)) = none := by
   rw [List.find?_eq_none]
   intro f hf
   obtain ⟨i, hi, rfl⟩ := List.getElem_of_mem hf
   rw [List.length_take] at hi
   rw [List.getElem_take]
   rw [List.pairwise_map] at hk
   have := List.pairwise_iff_getElem.1 hk i k (by omega) hlt (by omega)
   rw [h, e]
   simp only [decide_eq_true_eq]
   omega
  rw [if_pos h, hn]
  simp [h]
 rw [if_neg h]
 have hn : [W.getD k (0, [])].find? (fun f => decide (f.1 = y)) = none := by
  rw [List.find?_cons_of_neg (by simpa using fun q => h q.symm)]; rfl
 rw [hn]; simp
section
variable {g : Gr} {p q : Pt} {turn same : List (List Int)}
theorem key_least (hpe : p.err g = 0) (ht : TurnsOk g p turn) {f : Face} (hf : f ∈ walksOf g p turn) {x : Int} (hx : x ∈ marks f) : f.1 ≤ x := by
 rw [← mins_walks hpe ht] at hf
 rcases List.mem_append.1 hf with q | q
 ·obtain ⟨v, hv, rfl⟩ := List.mem_map.1 q
  rw [marks_nil rfl] at hx
  have : x = -1 - v := by simpa using hx
  omega
 obtain ⟨h1, h2, h3⟩ := min_of_mem q
 rw [marks_some (by rw [h3]; simp), h3] at hx
 rcases List.mem_cons.1 hx with e | hx
 ·omega
 unfold minAt at h2
 have := of_decide_eq_true (List.all_eq_true.1 h2 x hx)
 omega
theorem face_one (hpe : p.err g = 0) (ht : TurnsOk g p turn) {f x : Face} (hf : f ∈ walksOf g p turn) (hx : x ∈ walksOf g p turn) {y : Int} (h1 : y ∈ marks f) (h2 : y ∈ marks x) : f = x := by
 obtain ⟨w1, -⟩ := own_rings hpe ht
 have e := list_one w1.nodup (marks_ground hpe ht hf).1 (marks_ground hpe ht hx).1 h1 h2
 have a := key_least hpe ht hf (x := x.1) (by rw [e]; exact (key_mark hpe ht hx).1)
 have b := key_least hpe ht hx (x := f.1) (by rw [← e]; exact (key_mark hpe ht hf).1)
 exact key_face (walks_keys hpe (walks_ok hpe ht)) hf hx (by omega)
theorem same_marks (hpe : p.err g = 0) (ht : TurnsOk g p turn) {f : Face} (hf : f ∈ walksOf g p turn) {x y : Int} (hx : x ∈ marks f) (h : Same (walksIn g (walksOf g p turn) p.v) x y) : y ∈ marks f := by
 obtain ⟨w1, -⟩ := own_rings hpe ht
 rcases h with e | ⟨c, hc, h1, h2⟩
 ·rw [← e]; exact hx
 rw [list_one w1.nodup (marks_ground hpe ht hf).1 hc hx h1]; exact h2
theorem mir_face (hz : planErr g p turn same = 0) {f : Face} (hf : f ∈ walksOf g p turn) : ∃ x ∈ walksOf g p (mirTurn turn), x.1 = kmOf f ∧ mirCls g p turn same x = cls g p turn same f ∧ ∀ y ∈ marks f, tau y ∈ marks x := by
 obtain ⟨hpe, hto⟩ := zero_ok hz
 have h := Pt.ok_of_err hpe
 have hm := mirTurn_ok hto
 have hW := walks_ok hpe hto
 have hkm : ∃ d ∈ marks f, kmOf f = tau d ∧ ∀ y ∈ marks f, kmOf f ≤ tau y := by
  by_cases e : f.2 = []
  ·obtain ⟨v, hv, -, e1⟩ := lone_of hW.faces hf e
   have h0 := (h.vr v hv).1
   have ht : tau f.1 = f.1 := tau_key (by omega)
   refine ⟨f.1, by rw [marks_nil e]; simp, by rw [kmOf_nil e, ht], fun y hy => ?_⟩
   rw [marks_nil e] at hy
   have : y = f.1 := by simpa using hy
   rw [this, kmOf_nil e, ht]
   exact Int.le_refl _
  obtain ⟨⟨d, hd, e1⟩, h2⟩ := kmOf_ok e
  have hdd : ∀ d ∈ f.2, d ∈ p.darts := fun d hd => (walk_const h hto hW.faces (Stretch.all h).closed hf hd).1
  rw [marks_some e]
  refine ⟨d, hd, by rw [tau_dart h (hdd d hd), e1], fun y hy => ?_⟩
  rw [tau_dart h (hdd y hy)]
  exact h2 y hy
 obtain ⟨d, hd, e1, h2⟩ := hkm
 have hdK := (marks_ground hpe hto hf).2 d hd
 obtain ⟨x, hx, hxm⟩ := mark_of hpe hm ((mir_ground (turn := turn) h).2 (tau_ground h hdK))
 have hall : ∀ y ∈ marks f, tau y ∈ marks x := fun y hy => same_marks hpe hm hx hxm (same_mir hpe hto (Or.inr ⟨marks f, (marks_ground hpe hto hf).1, hd, hy⟩))
 have hkx := key_mark hpe hm hx
 have hx1 : tau x.1 ∈ marks f := by
  have := mir_same hpe hto (Or.inr ⟨marks x, (marks_ground hpe hm hx).1, hxm, hkx.1⟩)
  rw [tau_tau] at this
  exact same_marks hpe hto hf hd this
 refine ⟨x, hx, ?_, ?_, hall⟩
 ·have a := key_least hpe hm hx hxm
  have b := h2 _ hx1
  rw [tau_tau] at b
  omega
 unfold mirCls
 exact lof_cls hz hf hx1
theorem mir_back (hz : planErr g p turn same = 0) {x : Face} (hx : x ∈ walksOf g p (mirTurn turn)) : ∃ f ∈ walksOf g p turn, x.1 = kmOf f ∧ mirCls g p turn same x = cls g p turn same f := by
 obtain ⟨hpe, hto⟩ := zero_ok hz
 have hm := mirTurn_ok hto
 obtain ⟨k1, k2⟩ := mir_key hz hx
 obtain ⟨f, hf, hfm⟩ := mark_of hpe hto k2
 obtain ⟨y, hy, e1, e2, e3⟩ := mir_face hz hf
 have := e3 _ hfm
 rw [tau_tau] at this
 have hxy := face_one hpe hm hx hy (key_mark hpe hm hx).1 this
 subst hxy
 exact ⟨f, hf, e1, e2⟩
theorem mirList_rise {l : List Int} (h : (l.map fun k => (kmAt (walksOf g p turn) k).getD 0).Nodup) : (mirList (walksOf g p turn) l).Pairwise (· < ·) := by
 have hs := List.pairwise_mergeSort (le := fun a b : Int => decide (a ≤ b)) (fun a b c h1 h2 => by simp only [decide_eq_true_eq] at h1 h2 ⊢; omega) (fun a b => by simp only [Bool.or_eq_true, decide_eq_true_eq]; omega) (l.map fun k => (kmAt (walksOf g p turn) k).getD 0)
 have hn : (mirList (walksOf g p turn) l).Nodup := (List.mergeSort_perm _ _).nodup_iff.2 h
 unfold mirList at hn ⊢
 exact List.Pairwise.imp₂ (fun a b h1 (h2 : a ≠ b) => by have := of_decide_eq_true h1; omega) hs hn
theorem mir_region (hz : planErr g p turn same = 0) {i : Nat} (hi : i < (regionsOf g p turn same).length) (hrise : ((regionsOf g p turn same).getD i []).Pairwise (· < ·)) : mirList (walksOf g p turn) ((regionsOf g p turn same).getD i []) = keysAt (mirCls g p turn same) (walksOf g p (mirTurn turn)) i := by
 obtain ⟨hpe, hto⟩ := zero_ok hz
 have hm := mirTurn_ok hto
 have hpt := parted hz (walks_ok hpe hto)
 have hk := walks_keys hpe (walks_ok hpe hto)
 have hkm := walks_keys hpe (walks_ok hpe hm)
 have inj : ∀ {f x : Face}, f ∈ walksOf g p turn → x ∈ walksOf g p turn → kmOf f = kmOf x → f = x := by
  intro f x hf hx e
  obtain ⟨y, hy, a1, -, a3⟩ := mir_face hz hf
  obtain ⟨z, hzz, b1, -, b3⟩ := mir_face hz hx
  have hyz : y = z := key_face hkm hy hzz (by rw [a1, b1, e])
  subst hyz
  obtain ⟨k1, k2⟩ := mir_key hz hy
  have w := mir_same hpe hto (x := tau f.1) (y := tau x.1) (Or.inr ⟨marks y, (marks_ground hpe hm hy).1, a3 _ (key_mark hpe hto hf).1, b3 _ (key_mark hpe hto hx).1⟩)
  rw [tau_tau, tau_tau] at w
  exact face_one hpe hto hf hx (same_marks hpe hto hf (key_mark hpe hto hf).1 w) (key_mark hpe hto hx).1
 have hfaces : ∀ k ∈ (regionsOf g p turn same).getD i [], ∃ f ∈ walksOf g p turn, f.1 = k ∧ cls g p turn same f = i := by
  intro k hkr
  obtain ⟨f, hf, e1, e2⟩ := keysAt_mem.1 ((cls_keys hpt hi k).2 hkr)
  exact ⟨f, hf, e2, e1⟩
 refine rise_ext (mirList_rise ?_) (keysAt_rise hkm _) fun y => ?_
 ·rw [List.Nodup, List.pairwise_map]
  refine hrise.imp_of_mem fun {a b} ha hb hlt e => ?_
  obtain ⟨f, hf, e1, -⟩ := hfaces a ha
  obtain ⟨x, hx, e2, -⟩ := hfaces b hb
  rw [← e1, ← e2, kmAt_key hk hf, kmAt_key hk hx] at e
  have := inj hf hx e
  rw [this] at e1
  omega
 rw [keysAt_mem]
 unfold mirList
 rw [(List.mergeSort_perm _ _).mem_iff, List.mem_map]
 constructor
 ·rintro ⟨k, hkr, rfl⟩
  obtain ⟨f, hf, e1, e2⟩ := hfaces k hkr
  obtain ⟨x, hx, a1, a2, -⟩ := mir_face hz hf
  refine ⟨x, hx, by rw [a2, e2], ?_⟩
  rw [← e1, kmAt_key hk hf, a1]; rfl
 rintro ⟨x, hx, e1, rfl⟩
 obtain ⟨f, hf, a1, a2⟩ := mir_back hz hx
 refine ⟨f.1, (cls_keys hpt hi _).1 (keysAt_mem.2 ⟨f, hf, by rw [← a2, e1], rfl⟩), ?_⟩
 rw [kmAt_key hk hf, a1]; rfl
theorem mir_lists (hz : planErr g p turn same = 0) {C : List (List Int)} (hp : C.Perm (same.map (mirList (walksOf g p turn)))) (hs : C.Pairwise fun a b => a.getD 0 0 ≤ b.getD 0 0) : C = mirSame g p turn same := by
 obtain ⟨hpe, hto⟩ := zero_ok hz
 have hm := mirTurn_ok hto
 have hpt := parted hz (walks_ok hpe hto)
 have hkm := walks_keys hpe (walks_ok hpe hm)
 have hix : ∀ l ∈ same, ∃ i, i < (regionsOf g p turn same).length ∧ (regionsOf g p turn same).getD i [] = l := by
  intro l hl
  have hla : l ∈ regionsOf g p turn same := (regs_ok hpt).perm.mem_iff.2 (List.mem_append.2 (Or.inl hl))
  obtain ⟨i, hi, e⟩ := List.getElem_of_mem hla
  exact ⟨i, hi, by simp [List.getD, hi, e]⟩
 have hlist : ∀ l ∈ same, ∃ i, i < (regionsOf g p turn same).length ∧ (regionsOf g p turn same).getD i [] = l ∧ mirList (walksOf g p turn) l = keysAt (mirCls g p turn same) (walksOf g p (mirTurn turn)) i := by
  intro l hl
  obtain ⟨i, hi, e⟩ := hix l hl
  refine ⟨i, hi, e, ?_⟩
  have := mir_region hz hi (by rw [e]; exact hpt.rise l hl)
  rw [e] at this
  exact this
 have hlen : ∀ l, (mirList (walksOf g p turn) l).length = l.length := fun l => by
  unfold mirList
  rw [(List.mergeSort_perm _ _).length_eq, List.length_map]
 refine grps_of hkm ?_ (fun l => ?_) hp hs
 ·rw [List.Nodup, List.pairwise_map]
  refine (same_heads hz).imp_of_mem fun {a b} ha hb hlt e => ?_
  obtain ⟨i, hi, e1, e2⟩ := hlist a ha
  obtain ⟨j, hj, e3, e4⟩ := hlist b hb
  have ha2 := hpt.two a ha
  have hl1 := hlen a
  rw [e2] at hl1
  obtain ⟨y, hy⟩ : ∃ y, y ∈ keysAt (mirCls g p turn same) (walksOf g p (mirTurn turn)) i := by
   cases e : keysAt (mirCls g p turn same) (walksOf g p (mirTurn turn)) i with
   | nil => rw [e] at hl1; simp at hl1; omega
   | cons y m => exact ⟨y, by simp⟩
  have hy2 : y ∈ keysAt (mirCls g p turn same) (walksOf g p (mirTurn turn)) j := by rw [← e4, ← e, e2]; exact hy
  obtain ⟨f, hf, a1, a2⟩ := keysAt_mem.1 hy
  obtain ⟨x, hx, b1, b2⟩ := keysAt_mem.1 hy2
  have hfx := key_face hkm hf hx (a2.trans b2.symm)
  subst hfx
  rw [a1] at b1
  have hij : i = j := Int.ofNat.inj b1
  subst hij
  rw [← e1, ← e3] at hlt
  omega
 constructor
 ·intro hl
  obtain ⟨m, hm2, rfl⟩ := List.mem_map.1 hl
  obtain ⟨i, hi, e1, e2⟩ := hlist m hm2
  exact ⟨i, e2, by rw [hlen]; have := hpt.two m hm2; omega⟩
 rintro ⟨h, e, h1⟩
 have hne : l ≠ [] := by intro q; rw [q] at h1; simp at h1
 obtain ⟨y, hy⟩ := List.exists_mem_of_ne_nil _ hne
 rw [e] at hy
 obtain ⟨x, hx, a1, a2⟩ := keysAt_mem.1 hy
 obtain ⟨f, hf, b1, b2⟩ := mir_back hz hx
 obtain ⟨i, hi, hfi, ei⟩ := cls_has hpt hf
 have hh : h = i := by rw [← a1, b2, ei]
 subst hh
 have hg : (regionsOf g p turn same).getD i [] = (regionsOf g p turn same)[i] := by simp [List.getD, hi]
 have hmem : (regionsOf g p turn same).getD i [] ∈ allRegs g p turn same := (regs_ok hpt).perm.mem_iff.1 (by rw [hg]; exact List.getElem_mem hi)
 rcases List.mem_append.1 hmem with q | q
 ·refine List.mem_map.2 ⟨_, q, ?_⟩
  rw [e]
  exact mir_region hz hi (hpt.rise _ q)
 exfalso
 unfold singles at q
 obtain ⟨f', -, e3⟩ := List.mem_map.1 q
 have hmr := mir_region hz hi (by rw [← e3]; simp)
 have := hlen ((regionsOf g p turn same).getD i [])
 rw [hmr, ← e, ← e3] at this
 simp at this
 omega
end
end Go.Proofs.Ytckjpaimbmlboaa.Plain
