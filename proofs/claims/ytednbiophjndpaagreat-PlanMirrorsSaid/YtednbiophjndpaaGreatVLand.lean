/- Turns of which some darts are taken out: where one lands that goes on until a dart that is left. No program here. -/
import Derived.Test.YtednbiophjndpaaGreatVCut
import Derived.Test.YtednbiophjndpaaGreatVRef09
namespace Go.Proofs.YtednbiophjndpaaGreat.Plain
theorem idxOf_split {a c : List Int} {u : Int} (h : u ∉ a) : (a ++ u :: c).idxOf u = a.length := by
 rw [List.idxOf_append, if_neg h]; simp
theorem split_at {l : List Int} {u : Int} (h : u ∈ l) : ∃ a c, l = a ++ u :: c ∧ u ∉ a := by
 induction l with
 | nil => simp at h
 | cons x l ih =>
  by_cases e : u = x
  ·exact ⟨[], l, by rw [e]; rfl, by simp⟩
  obtain ⟨a, c, e1, h1⟩ := ih ((List.mem_cons.1 h).resolve_left e)
  exact ⟨x :: a, c, by rw [e1]; rfl, by simp [e, h1]⟩
theorem ahead_split {a c : List Int} {u : Int} (h : u ∉ a) : ahead (a ++ u :: c) u = (a.reverse ++ (c.reverse ++ [u])).getD 0 0 := by
 unfold ahead
 rw [idxOf_split h, show (a ++ u :: c).length = a.length + c.length + 1 by simp; omega]
 rcases List.eq_nil_or_concat a with rfl | ⟨a, z, rfl⟩
 ·rcases List.eq_nil_or_concat c with rfl | ⟨c, y, rfl⟩
  ·simp
  have e1 : ([] : List Int).length + (([] : List Int).length + (c.concat y).length + 1) - 1 = c.length + 1 := by simp
  have e2 : ([] : List Int).length + (c.concat y).length + 1 = c.length + 2 := by simp
  rw [e1, e2, Nat.mod_eq_of_lt (by omega)]
  simp [List.getD]
 simp only [List.concat_eq_append, List.length_append, List.length_cons, List.length_nil, List.reverse_append, List.reverse_cons, List.reverse_nil]
 rw [show a.length + (0 + 1) + (a.length + (0 + 1) + c.length + 1) - 1 = a.length + (a.length + (0 + 1) + c.length + 1) by omega, Nat.add_mod_right, Nat.mod_eq_of_lt (by omega)]
 simp [List.getD]
theorem ahead_mem {l : List Int} (hn : l.Nodup) {u : Int} (hu : u ∈ l) : ahead l u ∈ l := by
 have h := ahead_ring hn (List.ne_nil_of_mem hu)
 exact List.mem_reverse.1 (h.map_perm.mem_iff.1 (List.mem_map.2 ⟨u, List.mem_reverse.2 hu, rfl⟩))
structure Subs (g : Gr) (p q : Pt) (turn : List (List Int)) : Prop where
 pe : p.err g = 0
 qe : q.err g = 0
 to_ : TurnsOk g p turn
 sube : ∀ e ∈ q.e, e ∈ p.e
 subv : ∀ v ∈ q.v, v ∈ p.v
section
variable {g : Gr} {p q : Pt} {turn : List (List Int)}
theorem all_ground (h : PartOk g p) {x : Int} : x ∈ ground g p turn p.v ↔ x ∈ p.darts ∨ ∃ v ∈ p.v, turnAt turn v = [] ∧ x = -1 - v := by
 rw [mem_ground]
 constructor
 ·rintro (q | q)
  ·exact Or.inl q.1
  exact Or.inr q
 rintro (q | q)
 ·exact Or.inl ⟨q, (h.tail_mem q).1⟩
 exact Or.inr q
theorem dart_turn (h : PartOk g p) (ht : TurnsOk g p turn) {d : Int} (hd : d ∈ p.darts) : d ∈ turnAt turn (g.tail d) := by
 have := h.vr _ (h.tail_mem hd).1
 exact (ht.mem _ this.1 this.2 d).2 ⟨hd, rfl⟩
theorem turn_dart (h : PartOk g p) (ht : TurnsOk g p turn) {v d : Int} (hv : v ∈ p.v) (hd : d ∈ turnAt turn v) : d ∈ p.darts ∧ g.tail d = v := by
 have := h.vr _ hv
 exact (ht.mem _ this.1 this.2 d).1 hd
end
theorem Eqv.comap {R : Int → Int → Prop} (h : Eqv R) (f : Int → Int) : Eqv fun x y => R (f x) (f y) := ⟨fun _x => h.refl _, fun q => h.symm q, fun q r => h.trans q r⟩
section
variable {g : Gr} {p q : Pt} {turn : List (List Int)}
theorem go_dart (h : PartOk g p) {S : List Int} (hS : S.Nodup) {x : Int} (hx : x ∈ p.darts) (hin : x / 2 ∈ S) : bef g turn (tw S x) = nextDart g turn x := by
 rw [tw_eq hS, if_pos hin]
 have := dart_pos h (twin_mem hx)
 unfold bef
 rw [if_neg (by omega)]; rfl
theorem go_key {S : List Int} (hS : S.Nodup) (h0 : ∀ e ∈ S, 0 ≤ e) {x : Int} (hx : x < 0) : bef g turn (tw S x) = x := by
 rw [tw_eq hS, if_neg (fun q => by have := h0 _ q; omega)]
 unfold bef
 rw [if_pos hx]
theorem edges_all (h : PartOk g p) : edgesOf g p p.v = p.e := by
 unfold edgesOf
 rw [List.filter_eq_self]
 intro e he
 refine decide_eq_true (h.tail_mem (mem_darts.2 ?_)).1
 rwa [show 2 * e / 2 = e by omega]
structure RingsOf (g : Gr) (p q : Pt) (turn : List (List Int)) (C : List (List Int)) : Prop where
 rings : Rings (fun x => bef g turn (tw q.e x)) C
 all : C.flatten.Perm (ground g p turn p.v)
end
theorem mark_lof {g : Gr} {p : Pt} {turn : List (List Int)} {W : List Face} (ll : List (List Int)) (hpe : p.err g = 0) (hW : WalksOk g p turn W) {f : Face} (hf : f ∈ W) {y : Int} (hy : y ∈ marks f) : lf (leftOf ll W) y = numOf ll f.1 := by
 obtain ⟨i, hi, hfi⟩ := List.getElem_of_mem hf
 have hp8 := places8_getD hi
 rw [show W.getD i (0, []) = f by simp [List.getD, hi, hfi]] at hp8
 unfold lf leftOf
 rw [regionAt_hit (places_nodup hpe hW) (by rw [places8_len]; exact hi) (by rw [hp8]; exact hy)]
 simp [List.getD, hi, hfi]
noncomputable def lof (g : Gr) (p : Pt) (turn same : List (List Int)) (x : Int) : Int := lf (leftOf (regionsOf g p turn same) (walksOf g p turn)) x
section
variable {g : Gr} {p q : Pt} {turn same : List (List Int)}
theorem zero_ok (hz : planErr g p turn same = 0) : p.err g = 0 ∧ TurnsOk g p turn := turnErr_zero (flatErr_zero (planErr_zero hz).1).1
theorem mark_of (hpe : p.err g = 0) (ht : TurnsOk g p turn) {x : Int} (hx : x ∈ ground g p turn p.v) : ∃ f ∈ walksOf g p turn, x ∈ marks f := by
 have hW := walks_ok hpe ht
 obtain ⟨w1, w2⟩ := walk_rings hpe ht hW (Stretch.all (Pt.ok_of_err hpe))
 obtain ⟨c, hc, hxc⟩ := List.mem_flatten.1 (w2.mem_iff.2 hx)
 obtain ⟨f, hf, rfl⟩ := List.mem_map.1 hc
 exact ⟨f, (List.mem_filter.1 hf).1, hxc⟩
theorem marks_ground (hpe : p.err g = 0) (ht : TurnsOk g p turn) {f : Face} (hf : f ∈ walksOf g p turn) : marks f ∈ walksIn g (walksOf g p turn) p.v ∧ ∀ x ∈ marks f, x ∈ ground g p turn p.v := by
 have h := Pt.ok_of_err hpe
 have hW := walks_ok hpe ht
 obtain ⟨w1, w2⟩ := walk_rings hpe ht hW (Stretch.all h)
 have hm : marks f ∈ walksIn g (walksOf g p turn) p.v := List.mem_map.2 ⟨f, List.mem_filter.2 ⟨hf, decide_eq_true (corner_mem h hW.faces f hf)⟩, rfl⟩
 exact ⟨hm, fun x hx => w2.mem_iff.1 (List.mem_flatten.2 ⟨_, hm, hx⟩)⟩
theorem key_mark (hpe : p.err g = 0) (ht : TurnsOk g p turn) {f : Face} (hf : f ∈ walksOf g p turn) : f.1 ∈ marks f ∧ vert g f.1 = f.corner g := by
 have h := Pt.ok_of_err hpe
 have hW := walks_ok hpe ht
 match e : f.2 with
 | [] =>
  obtain ⟨v, hv, -, e1⟩ := lone_of hW.faces hf e
  refine ⟨by rw [marks_nil e]; simp, ?_⟩
  unfold Face.corner
  rw [e, e1, vert_lone (h.vr v hv).1]
  show v = -1 - (-1 - v)
  omega
 | d :: l =>
  have hk := hW.faces.key f hf d l e
  have hm : f.1 ∈ marks f := by rw [marks_some (by rw [e]; simp), e, hk]; simp
  refine ⟨hm, ?_⟩
  have hd : f.1 ∈ p.darts := by
   rcases (all_ground h).1 ((marks_ground hpe ht hf).2 _ hm) with q | ⟨v, hv, e2, e3⟩
   ·exact q
   exfalso
   have hl := lone_walk hW.faces hv e2
   have := key_face (walks_keys hpe hW) hf hl e3
   rw [this] at e
   cases e
  rw [vert_dart h hd]
  unfold Face.corner
  rw [e]
theorem lof_cls (hz : planErr g p turn same = 0) {f : Face} (hf : f ∈ walksOf g p turn) {y : Int} (hy : y ∈ marks f) : lof g p turn same y = cls g p turn same f := by
 obtain ⟨hpe, hto⟩ := zero_ok hz
 exact mark_lof _ hpe (walks_ok hpe hto) hf hy
end
end Go.Proofs.YtednbiophjndpaaGreat.Plain
namespace Go.Proofs.YtednbiophjndpaaGreat
open Go.RowKit Go.Maps
namespace Plain
end Plain
namespace Plain
end Plain
end Go.Proofs.YtednbiophjndpaaGreat
namespace Go.Proofs.YtednbiophjndpaaGreat.Plain
section
variable {g : Gr} {p q : Pt} {turn same : List (List Int)}
end
section
variable {g : Gr} {p q r : Pt} {turn same : List (List Int)}
end
theorem ahead_back {l : List Int} (hn : l.Nodup) {d : Int} (hd : d ∈ l) : ahead l.reverse (ahead l d) = d := by
 obtain ⟨a, c, rfl, hda⟩ := split_at hd
 rw [ahead_split hda]
 rcases List.eq_nil_or_concat a with rfl | ⟨a, z, rfl⟩
 ·rcases List.eq_nil_or_concat c with rfl | ⟨c, z, rfl⟩
  ·have := ahead_split (a := []) (c := []) (u := d) (by simp)
   simpa using this
  have h1 : (([] : List Int).reverse ++ ((c.concat z).reverse ++ [d])).getD 0 0 = z := by simp [List.getD]
  rw [h1]
  have h2 := ahead_split (a := []) (c := c.reverse ++ [d]) (u := z) (by simp)
  have h3 : ([] ++ d :: c.concat z).reverse = [] ++ z :: (c.reverse ++ [d]) := by simp
  rw [h3, h2]
  simp [List.getD]
 have h1 : ((a.concat z).reverse ++ (c.reverse ++ [d])).getD 0 0 = z := by simp [List.getD]
 rw [h1]
 have hz : z ∉ c.reverse ++ [d] := by
  rw [List.concat_eq_append, List.append_assoc, List.nodup_append] at hn
  have h2 := hn.2.1
  rw [List.singleton_append, List.nodup_cons] at h2
  intro k
  rcases List.mem_append.1 k with k | k
  ·exact h2.1 (List.mem_cons_of_mem _ (List.mem_reverse.1 k))
  exact h2.1 (by rw [List.mem_singleton.1 k]; simp)
 have h2 := ahead_split (c := a.reverse) hz
 have h3 : (a.concat z ++ d :: c).reverse = (c.reverse ++ [d]) ++ z :: a.reverse := by simp
 rw [h3, h2]
 simp [List.getD]
def mirTurn (turn : List (List Int)) : List (List Int) := turn.map fun l => first l.reverse
theorem mirTurn_at (turn : List (List Int)) (v : Int) : turnAt (mirTurn turn) v = first (turnAt turn v).reverse := by
 unfold turnAt mirTurn List.getD
 rw [List.getElem?_map]
 cases turn[v.toNat]? <;> rfl
theorem mir_perm (l : List Int) : (first l.reverse).Perm l := (first_perm _).trans (List.reverse_perm l)
theorem mirTurn_ok {g : Gr} {p : Pt} {turn : List (List Int)} (ht : TurnsOk g p turn) : TurnsOk g p (mirTurn turn) := by
 refine ⟨by unfold mirTurn; rw [List.length_map]; exact ht.len, fun v => ?_, fun v h0 hn d => ?_⟩
 ·rw [mirTurn_at]; exact (mir_perm _).nodup_iff.2 (ht.nodup v)
 rw [mirTurn_at, (mir_perm _).mem_iff]; exact ht.mem v h0 hn d
def tau (x : Int) : Int := if x < 0 then x else twin x
theorem twin_pos {x : Int} (h : 0 ≤ x) : 0 ≤ twin x := by unfold twin; split <;> omega
theorem tau_tau (x : Int) : tau (tau x) = x := by
 unfold tau
 by_cases h : x < 0
 ·rw [if_pos h, if_pos h]
 have := twin_pos (x := x) (by omega)
 rw [if_neg h, if_neg (by omega), twin_twin]
section
variable {g : Gr} {p q : Pt} {turn same : List (List Int)}
theorem tau_dart (h : PartOk g p) {d : Int} (hd : d ∈ p.darts) : tau d = twin d := by unfold tau; rw [if_neg (by have := dart_pos h hd; omega)]
theorem tau_key {x : Int} (h : x < 0) : tau x = x := if_pos h
theorem mir_nil {v : Int} : turnAt (mirTurn turn) v = [] ↔ turnAt turn v = [] := by
 rw [mirTurn_at]
 constructor
 ·intro h
  have := (mir_perm (turnAt turn v)).length_eq
  rw [h] at this
  exact List.length_eq_zero_iff.1 this.symm
 intro h; rw [h]; rfl
theorem mir_ground (h : PartOk g p) {x : Int} : x ∈ ground g p (mirTurn turn) p.v ↔ x ∈ ground g p turn p.v := by
 rw [all_ground h, all_ground h]
 simp only [mir_nil]
theorem tau_ground (h : PartOk g p) {x : Int} (hx : x ∈ ground g p turn p.v) : tau x ∈ ground g p turn p.v := by
 rcases (all_ground h).1 hx with hd | ⟨v, hv, e, rfl⟩
 ·rw [tau_dart h hd]; exact (all_ground h).2 (Or.inl (twin_mem hd))
 rw [tau_key (by have := (h.vr v hv).1; omega)]; exact hx
theorem mir_before (h : PartOk g p) (ht : TurnsOk g p turn) {d : Int} (hd : d ∈ p.darts) : before g (mirTurn turn) (before g turn d) = d := by
 have hut := dart_turn h ht hd
 have hn := ht.nodup (g.tail d)
 have hat := ahead_mem hn hut
 obtain ⟨a1, a2⟩ := turn_dart h ht (h.tail_mem hd).1 hat
 unfold before
 rw [a2, mirTurn_at, ahead_begun ((List.reverse_perm _).nodup_iff.2 hn) _ (List.mem_reverse.2 hat)]
 exact ahead_back hn hut
theorem mir_next (h : PartOk g p) (ht : TurnsOk g p turn) {x : Int} (hx : x ∈ ground g p turn p.v) : bef g (mirTurn turn) (tw p.e (tau (bef g turn (tw p.e x)))) = tau x := by
 rcases (all_ground h).1 hx with hd | ⟨v, hv, e, rfl⟩
 ·have hn := (next_tail ht (fun d hd => dart_ends h hd) hd).1
  rw [go_dart h h.en hd (mem_darts.1 hd), tau_dart h hn, tau_dart h hd]
  rw [go_dart h h.en (twin_mem hn) (mem_darts.1 (twin_mem hn))]
  unfold nextDart
  rw [twin_twin]
  exact mir_before h ht (twin_mem hd)
 have h0 := (h.vr v hv).1
 have hk : tau (-1 - v) = -1 - v := tau_key (by omega)
 have e1 : bef g turn (tw p.e (-1 - v)) = -1 - v := go_key h.en h.er (by omega)
 have e2 : bef g (mirTurn turn) (tw p.e (-1 - v)) = -1 - v := go_key h.en h.er (by omega)
 rw [e1, hk, e2]
theorem mir_rings (hpe : p.err g = 0) (ht : TurnsOk g p turn) : Rings (fun x => bef g (mirTurn turn) (tw p.e x)) (walksIn g (walksOf g p (mirTurn turn)) p.v) ∧ (walksIn g (walksOf g p (mirTurn turn)) p.v).flatten.Perm (ground g p (mirTurn turn) p.v) := by
 have h := Pt.ok_of_err hpe
 have := walk_rings hpe (mirTurn_ok ht) (walks_ok hpe (mirTurn_ok ht)) (Stretch.all h)
 rwa [edges_all h] at this
theorem own_rings (hpe : p.err g = 0) (ht : TurnsOk g p turn) : Rings (fun x => bef g turn (tw p.e x)) (walksIn g (walksOf g p turn) p.v) ∧ (walksIn g (walksOf g p turn) p.v).flatten.Perm (ground g p turn p.v) := by
 have h := Pt.ok_of_err hpe
 have := walk_rings hpe ht (walks_ok hpe ht) (Stretch.all h)
 rwa [edges_all h] at this
theorem mir_same (hpe : p.err g = 0) (ht : TurnsOk g p turn) {x y : Int} : Same (walksIn g (walksOf g p (mirTurn turn)) p.v) x y → Same (walksIn g (walksOf g p turn) p.v) (tau x) (tau y) := by
 have h := Pt.ok_of_err hpe
 obtain ⟨w1, w2⟩ := own_rings hpe ht
 obtain ⟨m1, m2⟩ := mir_rings hpe ht
 have hE := Same.eqv w1.nodup
 intro k
 refine Same.least (hE.comap tau) m1 (fun w hw => ?_) k
 have hwK := (mir_ground h).1 (m2.mem_iff.1 hw)
 obtain ⟨u, hu, e⟩ := w1.pred (w2.mem_iff.2 (tau_ground h hwK))
 have hn := mir_next h ht (w2.mem_iff.1 hu)
 have e : bef g turn (tw p.e u) = tau w := e
 rw [e, tau_tau] at hn
 show Same _ (tau w) (tau (bef g (mirTurn turn) (tw p.e w)))
 rw [hn, tau_tau, ← e]
 exact hE.symm (Same.step w1 hu)
theorem same_mir (hpe : p.err g = 0) (ht : TurnsOk g p turn) {x y : Int} : Same (walksIn g (walksOf g p turn) p.v) x y → Same (walksIn g (walksOf g p (mirTurn turn)) p.v) (tau x) (tau y) := by
 have h := Pt.ok_of_err hpe
 obtain ⟨w1, w2⟩ := own_rings hpe ht
 obtain ⟨m1, m2⟩ := mir_rings hpe ht
 have hE := Same.eqv m1.nodup
 intro k
 refine Same.least (hE.comap tau) w1 (fun w hw => ?_) k
 have hwK := w2.mem_iff.1 hw
 have hnK := w2.mem_iff.1 (w1.next hw)
 have hn := mir_next h ht hwK
 have hs := Same.step m1 (m2.mem_iff.2 ((mir_ground h).2 (tau_ground h hnK)))
 have hs : Same (walksIn g (walksOf g p (mirTurn turn)) p.v) (tau (bef g turn (tw p.e w))) (bef g (mirTurn turn) (tw p.e (tau (bef g turn (tw p.e w))))) := hs
 rw [hn] at hs
 exact hE.symm hs
noncomputable def mirCls (g : Gr) (p : Pt) (turn same : List (List Int)) (f : Face) : Int := lof g p turn same (tau f.1)
noncomputable def mirSame (g : Gr) (p : Pt) (turn same : List (List Int)) : List (List Int) := grps (mirCls g p turn same) (walksOf g p (mirTurn turn))
theorem mir_key (hz : planErr g p turn same = 0) {f : Face} (hf : f ∈ walksOf g p (mirTurn turn)) : f.1 ∈ ground g p (mirTurn turn) p.v ∧ tau f.1 ∈ ground g p turn p.v := by
 obtain ⟨hpe, hto⟩ := zero_ok hz
 have h := Pt.ok_of_err hpe
 have := (marks_ground hpe (mirTurn_ok hto) hf).2 _ (key_mark hpe (mirTurn_ok hto) hf).1
 exact ⟨this, tau_ground h ((mir_ground h).1 this)⟩
end
end Go.Proofs.YtednbiophjndpaaGreat.Plain
