/- Things in classes: as many as all classes have. No program here. -/
import Derived.WalkKit
import Derived.Test.YtfgbkpbakignhaaGreatVNest
import Derived.Test.YtfgbkpbakignhaaGreatVRows2
import Derived.ArgAppend
import Derived.Test.YtfgbkpbakignhaaGreatVBase
import Derived.Maps.OwnRows
import Derived.Maps.GroupsBeside
namespace Go.Proofs.YtfgbkpbakignhaaGreat.Plain
end Go.Proofs.YtfgbkpbakignhaaGreat.Plain
/- Pieces on spheres: vertices, edges and walks. No program here. -/
namespace Go.Proofs.YtfgbkpbakignhaaGreat.Plain
structure PartOk (g : Gr) (p : Pt) : Prop where
 vn : p.v.Nodup
 en : p.e.Nodup
 vr : ∀ v ∈ p.v, 0 ≤ v ∧ v < g.n
 er : ∀ e ∈ p.e, 0 ≤ e
 ends : ∀ e ∈ p.e, (g.at e).1 ∈ p.v ∧ (g.at e).2 ∈ p.v

theorem mem_getD {l : List Int} {x : Int} (h : x ∈ l) : ∃ i, i < l.length ∧ l.getD i 0 = x := by
 obtain ⟨i, hi, rfl⟩ := List.getElem_of_mem h
 exact ⟨i, hi, by simp [List.getD, hi]⟩

theorem Pt.ok_of_err {g : Gr} {p : Pt} (h : p.err g = 0) : PartOk g p := by
 obtain ⟨h1, h2, h3, h4⟩ := Pt.err_ok h
 refine ⟨rises_nodup h2, rises_nodup h3, fun v hv => ?_, fun e he => ?_, fun e he => ?_⟩
 ·obtain ⟨i, hi, rfl⟩ := mem_getD hv
  have := rises_at h2 hi
  exact ⟨this.1, this.2.1⟩
 ·obtain ⟨i, hi, rfl⟩ := mem_getD he
  exact (rises_at h3 hi).1
 ·obtain ⟨i, hi, rfl⟩ := mem_getD he
  exact h4 i hi

theorem PartOk.tail_mem {g : Gr} {p : Pt} (h : PartOk g p) {d : Int} (hd : d ∈ p.darts) : g.tail d ∈ p.v ∧ g.head d ∈ p.v := by
 have := h.ends _ (mem_darts.1 hd)
 unfold Gr.tail Gr.head
 split
 ·exact this
 ·exact this.symm

theorem near_dart {g : Gr} {p : Pt} {d : Int} (hd : d ∈ p.darts) : Near g p (g.tail d) (g.head d) := by
 refine ⟨d / 2, mem_darts.1 hd, ?_⟩
 unfold Gr.tail Gr.head
 split
 ·exact Or.inl rfl
 ·exact Or.inr rfl

theorem comp_closed {g : Gr} {p : Pt} (h : PartOk g p) (a : Int) : Closed g p (comp g p a) := by
 intro d hd ht
 obtain ⟨_, h2⟩ := mem_comp.1 ht
 have hh := (h.tail_mem hd).2
 exact mem_comp.2 ⟨hh, h2.step (near_dart hd) (by have := h.vr _ hh; omega)⟩

theorem roots_nodup {g : Gr} {p : Pt} (h : PartOk g p) : (roots g p).Nodup := by
 classical
 exact List.Pairwise.filter _ h.vn

theorem tail_even (g : Gr) (e : Int) : g.tail (2 * e) = (g.at e).1 ∧ g.head (2 * e) = (g.at e).2 := by
 unfold Gr.tail Gr.head
 rw [if_pos (by omega), if_pos (by omega), show 2 * e / 2 = e by omega]
 exact ⟨rfl, rfl⟩

theorem sub_edges {g : Gr} {p : Pt} (h : PartOk g p) (a : Int) : (p.sub g (comp g p a)).e = p.e.filter fun e => decide (g.tail (2 * e) ∈ comp g p a) := by
 unfold Pt.sub
 refine List.filter_congr fun e he => ?_
 have hd : 2 * e ∈ p.darts := mem_darts.2 (by rwa [show 2 * e / 2 = e by omega])
 obtain ⟨e1, e2⟩ := tail_even g e
 have hc := closed_back (comp_closed h a) hd
 rw [e1, e2] at hc
 rw [e1]
 by_cases q : (g.at e).1 ∈ comp g p a
 ·have := hc.2 q
  simp [q, this]
 ·simp [q]

theorem corner_mem {g : Gr} {p : Pt} {turn : List (List Int)} {W : List Face} (h : PartOk g p) (hW : FacesOk g p turn W) : ∀ f ∈ W, f.corner g ∈ p.v := by
 intro f hf
 obtain ⟨k, l⟩ := f
 cases l with
 | nil =>
  have : k ∈ (W.filter fun f => f.2.isEmpty).map (·.1) := List.mem_map.2 ⟨(k, []), List.mem_filter.2 ⟨hf, rfl⟩, rfl⟩
  obtain ⟨v, hv, e⟩ := List.mem_map.1 (hW.lone.mem_iff.1 this)
  show -1 - k ∈ p.v
  rw [← e, show -1 - (-1 - v) = v by omega]
  exact (List.mem_filter.1 hv).1
 | cons d l =>
  have e : k = d := hW.key (k, d :: l) hf d l rfl
  subst e
  have : k ∈ p.darts := hW.all.mem_iff.1 (List.mem_flatten.2 ⟨k :: l, List.mem_map.2 ⟨(k, k :: l), List.mem_filter.2 ⟨hf, rfl⟩, rfl⟩, by simp⟩)
  exact (h.tail_mem this).1

noncomputable def genusAt (g : Gr) (p : Pt) (W : List Face) (r : Int) : Int :=
 (2 - ((comp g p r).length : Int) + ((p.e.filter fun e => decide (g.tail (2 * e) ∈ comp g p r)).length : Int) - ((W.filter fun f => decide (f.corner g ∈ comp g p r)).length : Int)).tdiv 2

end Go.Proofs.YtfgbkpbakignhaaGreat.Plain
/- Pieces, vertex by vertex and edge by edge. No program here. -/
namespace Go.Proofs.YtfgbkpbakignhaaGreat

def pcs (V E : Int → List Int) (R : List Int) : List Cell := R.flatMap fun r => [.row (V r), .row (E r)]
theorem pcs_snoc (V E : Int → List Int) (R : List Int) (r : Int) : pcs V E (R ++ [r]) = pcs V E R ++ [.row (V r), .row (E r)] := by simp [pcs]
theorem pcs_cons (V E : Int → List Int) (R : List Int) (r : Int) : pcs V E (r :: R) = .row (V r) :: .row (E r) :: pcs V E R := rfl
theorem pcs_even (V E : Int → List Int) : ∀ (R : List Int) (n : Nat), n < R.length → (pcs V E R)[n * 2]? = some (.row (V (R.getD n 0)))
 | [], n, h => by simp at h
 | r :: R, 0, _ => by rw [pcs_cons]; rfl
 | r :: R, n + 1, h => by
  rw [pcs_cons, show (n + 1) * 2 = n * 2 + 1 + 1 by omega, List.getElem?_cons_succ, List.getElem?_cons_succ, pcs_even V E R n (by simpa using h)]
  rfl
theorem pcs_odd (V E : Int → List Int) : ∀ (R : List Int) (n : Nat), n < R.length → (pcs V E R)[n * 2 + 1]? = some (.row (E (R.getD n 0)))
 | [], n, h => by simp at h
 | r :: R, 0, _ => by rw [pcs_cons]; rfl
 | r :: R, n + 1, h => by
  rw [pcs_cons, show (n + 1) * 2 + 1 = (n * 2 + 1) + 1 + 1 by omega, List.getElem?_cons_succ, List.getElem?_cons_succ, pcs_odd V E R n (by simpa using h)]
  rfl
theorem pcs_congr {V E V' E' : Int → List Int} : ∀ {R : List Int}, (∀ r ∈ R, V r = V' r ∧ E r = E' r) → pcs V E R = pcs V' E' R
 | [], _ => rfl
 | r :: R, h => by rw [pcs_cons, pcs_cons, (h r (by simp)).1, (h r (by simp)).2, pcs_congr fun s hs => h s (by simp [hs])]
theorem pcs_set_even {V V' E : Int → List Int} : ∀ {R : List Int} {n : Nat}, n < R.length → (∀ m, m < R.length → m ≠ n → V' (R.getD m 0) = V (R.getD m 0)) → pcs V' E R = (pcs V E R).set (n * 2) (.row (V' (R.getD n 0)))
 | [], n, h, _ => by simp at h
 | r :: R, 0, _, hm => by
  rw [pcs_cons, pcs_cons]
  show _ :: _ :: _ = _ :: _ :: _
  congr 2
  refine pcs_congr fun s hs => ⟨?_, rfl⟩
  obtain ⟨i, hi, e⟩ := List.getElem_of_mem hs
  have := hm (i + 1) (by simpa using hi) (by omega)
  simpa [List.getD, hi, e] using this
 | r :: R, n + 1, h, hm => by
  have ih := pcs_set_even (V := V) (V' := V') (E := E) (R := R) (n := n) (by simpa using h) (fun m hm1 hm2 => by simpa using hm (m + 1) (by simpa using hm1) (by omega))
  have h0 := hm 0 (by simp) (by omega)
  rw [pcs_cons, pcs_cons, ih, show (n + 1) * 2 = n * 2 + 1 + 1 by omega, List.set_cons_succ, List.set_cons_succ]
  simp at h0
  rw [h0]
  rfl
theorem pcs_set_odd {V E E' : Int → List Int} : ∀ {R : List Int} {n : Nat}, n < R.length → (∀ m, m < R.length → m ≠ n → E' (R.getD m 0) = E (R.getD m 0)) → pcs V E' R = (pcs V E R).set (n * 2 + 1) (.row (E' (R.getD n 0)))
 | [], n, h, _ => by simp at h
 | r :: R, 0, _, hm => by
  rw [pcs_cons, pcs_cons]
  show _ :: _ :: _ = _ :: _ :: _
  congr 2
  refine pcs_congr fun s hs => ⟨rfl, ?_⟩
  obtain ⟨i, hi, e⟩ := List.getElem_of_mem hs
  have := hm (i + 1) (by simpa using hi) (by omega)
  simpa [List.getD, hi, e] using this
 | r :: R, n + 1, h, hm => by
  have ih := pcs_set_odd (V := V) (E := E) (E' := E') (R := R) (n := n) (by simpa using h) (fun m hm1 hm2 => by simpa using hm (m + 1) (by simpa using hm1) (by omega))
  have h0 := hm 0 (by simp) (by omega)
  rw [pcs_cons, pcs_cons, ih, show (n + 1) * 2 + 1 = (n * 2 + 1) + 1 + 1 by omega, List.set_cons_succ, List.set_cons_succ]
  simp at h0
  rw [h0]
  rfl

namespace Plain
open Classical in
noncomputable def rootsTo (g : Gr) (p : Pt) (k : Nat) : List Int := (p.v.take k).filter fun v => decide (∀ u ∈ p.v, Come g p (-1) v u → v ≤ u)

theorem rootsTo_zero (g : Gr) (p : Pt) : rootsTo g p 0 = [] := by simp [rootsTo]
theorem rootsTo_all (g : Gr) (p : Pt) : rootsTo g p p.v.length = roots g p := by unfold rootsTo roots; rw [List.take_length]
open Classical in
theorem rootsTo_mem {g : Gr} {p : Pt} {k : Nat} {r : Int} (h : r ∈ rootsTo g p k) : r ∈ roots g p ∧ r ∈ p.v.take k := by
 unfold rootsTo at h
 obtain ⟨h1, h2⟩ := List.mem_filter.1 h
 exact ⟨mem_roots.2 ⟨List.mem_of_mem_take h1, of_decide_eq_true h2⟩, h1⟩
open Classical in
theorem rootsTo_snoc {g : Gr} {p : Pt} {k : Nat} (hk : k < p.v.length) (h : p.v.getD k 0 ∈ roots g p) : rootsTo g p (k + 1) = rootsTo g p k ++ [p.v.getD k 0] := by
 unfold rootsTo
 have e : p.v.take (k + 1) = p.v.take k ++ [p.v.getD k 0] := by rw [List.take_succ_eq_append_getElem hk]; simp [List.getD, hk]
 rw [e, List.filter_append]
 congr 1
 rw [List.filter_cons_of_pos (by exact decide_eq_true (mem_roots.1 h).2), List.filter_nil]
open Classical in
theorem rootsTo_same {g : Gr} {p : Pt} {k : Nat} (hk : k < p.v.length) (h : p.v.getD k 0 ∉ roots g p) : rootsTo g p (k + 1) = rootsTo g p k := by
 unfold rootsTo
 have e : p.v.take (k + 1) = p.v.take k ++ [p.v.getD k 0] := by rw [List.take_succ_eq_append_getElem hk]; simp [List.getD, hk]
 have hv : p.v.getD k 0 ∈ p.v := by simp [List.getD, hk]
 rw [e, List.filter_append, List.filter_cons_of_neg (by
  intro q
  exact h (mem_roots.2 ⟨hv, of_decide_eq_true q⟩)), List.filter_nil, List.append_nil]
theorem rootsTo_len (g : Gr) (p : Pt) (k : Nat) : (rootsTo g p k).length ≤ p.v.length := by
 unfold rootsTo
 exact Nat.le_trans (List.length_filter_le _ _) (by rw [List.length_take]; omega)
theorem getD_mem {l : List Int} {n : Nat} (h : n < l.length) : l.getD n 0 ∈ l := by simp [List.getD, h]

def PieceMap (g : Gr) (p : Pt) (R : List Int) (f : Int → Option Int) : Prop := ∀ y i, f y = some i ↔ ∃ n : Nat, i = (n : Int) ∧ n < R.length ∧ Come g p (-1) (R.getD n 0) y

theorem PieceMap.start (g : Gr) (p : Pt) : PieceMap g p [] (fun _ => none) := fun y i => by simp

open Classical in
theorem PieceMap.root {g : Gr} {p : Pt} {k : Nat} {f : Int → Option Int} (hp : PartOk g p) (hr : p.v.Pairwise (· < ·)) (h : PieceMap g p (rootsTo g p k) f) (hk : k < p.v.length) (hf : f (p.v.getD k 0) = none) : p.v.getD k 0 ∈ roots g p := by
 obtain ⟨r, hr1, hc⟩ := root_of (g := g) (fun v hv => (hp.vr v hv).1) (getD_mem hk)
 have hle := (mem_roots.1 hr1).2 _ (getD_mem hk) hc
 by_cases e : r = p.v.getD k 0
 ·rw [← e]; exact hr1
 ·exfalso
  have hrv := (mem_roots.1 hr1).1
  obtain ⟨j, hj, hje⟩ := mem_getD hrv
  have hjk : j < k := by
   rcases Nat.lt_or_ge j k with q | q
   ·exact q
   ·exfalso
    rcases Nat.eq_or_lt_of_le q with q | q
    ·subst q; exact e hje.symm
    ·have := List.pairwise_iff_getElem.1 hr k j hk hj q
     simp [List.getD, hk, hj] at hje hle
     omega
  have hm : r ∈ rootsTo g p k := by
   unfold rootsTo
   refine List.mem_filter.2 ⟨?_, decide_eq_true (mem_roots.1 hr1).2⟩
   rw [← hje]
   have : (p.v.take k)[j]? = some p.v[j] := by rw [List.getElem?_take, if_pos hjk, List.getElem?_eq_getElem hj]
   have e2 : p.v.getD j 0 = p.v[j] := by simp [List.getD, hj]
   rw [e2]
   exact List.mem_of_getElem? this
  obtain ⟨n, hn, hne⟩ := mem_getD hm
  have := (h (p.v.getD k 0) (n : Int)).2 ⟨n, rfl, hn, by rw [hne]; exact hc⟩
  rw [hf] at this
  cases this

theorem PieceMap.known {g : Gr} {p : Pt} {k : Nat} {f : Int → Option Int} (hp : PartOk g p) (h : PieceMap g p (rootsTo g p k) f) (hk : k < p.v.length) {i : Int} (hf : f (p.v.getD k 0) = some i) : p.v.getD k 0 ∉ roots g p := by
 intro hr
 obtain ⟨n, -, hn, hc⟩ := (h _ _).1 hf
 have hm := rootsTo_mem (getD_mem hn)
 have e := root_one (fun v hv => (hp.vr v hv).1) hm.1 hr hc .here
 have h2 := hm.2
 rw [e] at h2
 have hnd := hp.vn
 rw [← List.take_append_drop k p.v, List.nodup_append] at hnd
 have : p.v.getD k 0 ∈ p.v.drop k := by
  have e2 : p.v.getD k 0 = p.v[k] := by simp [List.getD, hk]
  rw [e2, List.drop_eq_getElem_cons hk]
  exact List.mem_cons_self
 exact hnd.2.2 _ h2 _ this rfl

theorem PieceMap.add {g : Gr} {p : Pt} {R : List Int} {f f' : Int → Option Int} (hp : PartOk g p) (h : PieceMap g p R f) (hR : ∀ r ∈ R, r ∈ roots g p) {v : Int} (hv : v ∈ roots g p) (hn : v ∉ R)
  (h1 : ∀ y, Come g p (-1) v y → f' y = some (R.length : Int)) (h2 : ∀ y, ¬ Come g p (-1) v y → f' y = f y) : PieceMap g p (R ++ [v]) f' := by
 intro y i
 have gl : ∀ n, n < R.length → (R ++ [v]).getD n 0 = R.getD n 0 := fun n hn => by simp [List.getD, List.getElem?_append_left hn]
 have gr : (R ++ [v]).getD R.length 0 = v := by simp [List.getD]
 by_cases hc : Come g p (-1) v y
 ·rw [h1 y hc]
  constructor
  ·intro e
   cases e
   exact ⟨R.length, rfl, by simp, by rw [gr]; exact hc⟩
  ·rintro ⟨n, rfl, hn1, hn2⟩
   by_cases e : n < R.length
   ·rw [gl n e] at hn2
    exact absurd (root_one (fun v hv => (hp.vr v hv).1) (hR _ (getD_mem e)) hv hn2 hc ▸ getD_mem e) hn
   ·have : n = R.length := by simp at hn1; omega
    rw [this]
 ·rw [h2 y hc, h y i]
  constructor
  ·rintro ⟨n, rfl, hn1, hn2⟩
   exact ⟨n, rfl, by simp; omega, by rw [gl n hn1]; exact hn2⟩
  ·rintro ⟨n, rfl, hn1, hn2⟩
   by_cases e : n < R.length
   ·rw [gl n e] at hn2
    exact ⟨n, rfl, e, hn2⟩
   ·have e2 : n = R.length := by simp at hn1; omega
    rw [e2, gr] at hn2
    exact absurd hn2 hc

noncomputable def vOf (g : Gr) (p : Pt) (k : Nat) (r : Int) : List Int := (p.v.take k).filter fun v => decide (v ∈ comp g p r)
noncomputable def eOf (g : Gr) (p : Pt) (k : Nat) (r : Int) : List Int := (p.e.take k).filter fun e => decide (g.tail (2 * e) ∈ comp g p r)

theorem take_snoc' {l : List Int} {j : Nat} (hj : j < l.length) : l.take (j + 1) = l.take j ++ [l.getD j 0] := by
 rw [List.take_succ_eq_append_getElem hj]
 simp [List.getD, hj]
theorem vOf_in {g : Gr} {p : Pt} {k : Nat} {r : Int} (hk : k < p.v.length) (h : p.v.getD k 0 ∈ comp g p r) : vOf g p (k + 1) r = vOf g p k r ++ [p.v.getD k 0] := by
 unfold vOf
 rw [take_snoc' hk, List.filter_append, List.filter_cons_of_pos (by simpa using h), List.filter_nil]
theorem vOf_out {g : Gr} {p : Pt} {k : Nat} {r : Int} (hk : k < p.v.length) (h : p.v.getD k 0 ∉ comp g p r) : vOf g p (k + 1) r = vOf g p k r := by
 unfold vOf
 rw [take_snoc' hk, List.filter_append, List.filter_cons_of_neg (by simpa using h), List.filter_nil, List.append_nil]
theorem eOf_in {g : Gr} {p : Pt} {k : Nat} {r : Int} (hk : k < p.e.length) (h : g.tail (2 * p.e.getD k 0) ∈ comp g p r) : eOf g p (k + 1) r = eOf g p k r ++ [p.e.getD k 0] := by
 unfold eOf
 rw [take_snoc' hk, List.filter_append, List.filter_cons_of_pos (by simpa using h), List.filter_nil]
theorem eOf_out {g : Gr} {p : Pt} {k : Nat} {r : Int} (hk : k < p.e.length) (h : g.tail (2 * p.e.getD k 0) ∉ comp g p r) : eOf g p (k + 1) r = eOf g p k r := by
 unfold eOf
 rw [take_snoc' hk, List.filter_append, List.filter_cons_of_neg (by simpa using h), List.filter_nil, List.append_nil]

theorem comp_one {g : Gr} {p : Pt} (hp : PartOk g p) {R : List Int} (hR : ∀ r ∈ R, r ∈ roots g p) (hn : R.Nodup) {v : Int} {n m : Nat} (h1 : n < R.length) (h2 : m < R.length) (hc : Come g p (-1) (R.getD n 0) v) (hm : v ∈ comp g p (R.getD m 0)) : m = n := by
 have e := root_one (fun v hv => (hp.vr v hv).1) (hR _ (getD_mem h1)) (hR _ (getD_mem h2)) hc (mem_comp.1 hm).2
 refine Classical.byContradiction fun hne => ?_
 have q := List.pairwise_iff_getElem.1 hn
 simp only [List.getD, List.getElem?_eq_getElem h1, List.getElem?_eq_getElem h2, Option.getD_some] at e
 rcases Nat.lt_or_ge n m with w | w
 ·exact q n m h1 h2 w e
 ·exact q m n h2 h1 (by omega) e.symm

theorem rootsTo_nodup {g : Gr} {p : Pt} (hp : PartOk g p) (k : Nat) : (rootsTo g p k).Nodup := by
 unfold rootsTo
 exact ((List.take_sublist k p.v).nodup hp.vn).filter _

theorem new_v {g : Gr} {p : Pt} (hp : PartOk g p) {k : Nat} (hk : k < p.v.length) : p.v.getD k 0 ∉ p.v.take k := by
 intro h2
 have hnd := hp.vn
 rw [← List.take_append_drop k p.v, List.nodup_append] at hnd
 have : p.v.getD k 0 ∈ p.v.drop k := by
  have e2 : p.v.getD k 0 = p.v[k] := by simp [List.getD, hk]
  rw [e2, List.drop_eq_getElem_cons hk]
  exact List.mem_cons_self
 exact hnd.2.2 _ h2 _ this rfl

theorem vOf_root {g : Gr} {p : Pt} (hr : p.v.Pairwise (· < ·)) {k : Nat} (hk : k < p.v.length) (h : p.v.getD k 0 ∈ roots g p) : vOf g p k (p.v.getD k 0) = [] := by
 unfold vOf
 rw [List.filter_eq_nil_iff]
 intro u hu hc
 have hc := (mem_comp.1 (of_decide_eq_true hc))
 have h1 := (mem_roots.1 h).2 u hc.1 hc.2
 obtain ⟨j, hj, e⟩ := List.getElem_of_mem hu
 rw [List.length_take] at hj
 rw [List.getElem_take] at e
 have := List.pairwise_iff_getElem.1 hr j k (by omega) hk (by omega)
 simp [List.getD, hk] at h1
 omega

theorem eOf_zero (g : Gr) (p : Pt) (r : Int) : eOf g p 0 r = [] := by simp [eOf]
open Classical in
theorem vOf_all (g : Gr) (p : Pt) (r : Int) : vOf g p p.v.length r = comp g p r := by
 unfold vOf
 rw [List.take_length]
 conv => rhs; unfold comp
 refine List.filter_congr fun v hv => ?_
 have := mem_comp (g := g) (p := p) (a := r) (u := v)
 simp [this, hv]
theorem eOf_all {g : Gr} {p : Pt} (h : PartOk g p) (r : Int) : eOf g p p.e.length r = (p.sub g (comp g p r)).e := by
 unfold eOf
 rw [List.take_length, sub_edges h r]
end Plain
end Go.Proofs.YtfgbkpbakignhaaGreat
/- package walk: contracts of the queue's two closures. Conditions: the variable that holds the queue lies in memory and reads so. -/
namespace Go.Proofs.YtfgbkpbakignhaaGreat
open Go.RowKit Go.Maps

def QRow (w : World) (H : Nat) (v : Value) (q : List Int) : Prop :=
 (∀ x ∈ q, I64 x) ∧ q.length < 4294967296 ∧
 ((v = .slice none 0 0 ∧ q = []) ∨ ∃ g off cap cur, v = .slice (some ⟨g, off, none⟩) q.length cap ∧ H ≤ g ∧ w.heap[g]? = some (.cells cur 3 (0, 0)) ∧ q.length ≤ cap ∧ cap ≤ 9223372036854775807 ∧ off + cap ≤ cur.size ∧
  ∀ i, i < q.length → cur[off + i]? = some (.int .i64 (q.getD i 0)))

theorem QRow.chg {w w' : World} {H : Nat} {v : Value} {q : List Int} {own : List Nat} (h : QRow w H v q) (hc : Chg own w w') (hn : ∀ b ∈ v.ownBlock.toList, b ∉ own) : QRow w' H v q := by
 obtain ⟨h1, h2, h3⟩ := h
 refine ⟨h1, h2, h3.imp id ?_⟩
 rintro ⟨g, off, cap, cur, rfl, k1, k2, k3⟩
 exact ⟨g, off, cap, cur, rfl, k1, hc.heap k2 (hn g (by simp [Value.ownBlock])), k3⟩

theorem QRow.of_row {w : World} {H : Nat} {v : Value} {q : List Int} (h : RowAt w H v q) : QRow w H v q := by
 refine ⟨h.2.1, h.2.2, ?_⟩
 rcases h.1.2 with ⟨rfl, h0⟩ | ⟨g, cap, cur, rfl, hg, hh, hnc, hcm, hcs, hys⟩
 ·exact Or.inl ⟨rfl, List.length_eq_zero_iff.1 h0⟩
 ·refine Or.inr ⟨g, 0, cap, cur, rfl, hg, hh, hnc, hcm, by omega, fun i hi => ?_⟩
  have q1 : (ints q)[i]? = some (.int .i64 (q.getD i 0)) := by simp [ints, List.getD, hi]
  rw [← hys, List.getElem?_take, if_pos (by omega)] at q1
  rw [Nat.zero_add]
  simpa using q1

theorem qcells {w : World} {g off : Nat} {cur : Array Value} {q : List Int} (hh : w.heap[g]? = some (.cells cur 3 (0, 0))) (hq : ∀ i, i < q.length → cur[off + i]? = some (.int .i64 (q.getD i 0))) : ∀ j u, (ints q)[j]? = some u → w.cell? ⟨g, off + j, none⟩ = some u := by
 intro j u hj
 have hjl : j < q.length := by have := (List.getElem?_eq_some_iff.1 hj).1; simpa [ints] using this
 rw [cell_of_row w g (off + j) cur _ _ hh, hq j hjl, ← hj]
 simp [ints, List.getD, hjl]

theorem run_qput {w : World} {H : Nat} {v : Value} {q : List Int} {x : Int} (hq : QRow w H v q) (hx : I64 x) (hH : H ≤ w.heap.size) (hn : q.length + 1 < 4294967296) (ty : TypeId) :
  ∃ v' w', (Builtin.append_ #[25, 25] ty #[v, .slice (some ⟨w.heap.size, 0, none⟩) 1 1]).run Tryz.prog (w.alloc (.cells #[.int .i64 x] 3)) = .ok v' w' ∧ QRow w' H v' (q ++ [x]) ∧ Chg v.ownBlock.toList w w' := by
 obtain ⟨h1, h2, h3⟩ := hq
 have hca : Chg [] w (w.alloc (.cells #[.int .i64 x] 3)) := (Chg.refl [] w).alloc _
 have hsz : (w.alloc (.cells #[.int .i64 x] 3)).heap.size = w.heap.size + 1 := by simp
 obtain ⟨i0, hi, hz0, hz1, hz2⟩ := info_parts elemInt.hi
 have hxs : ∀ y ∈ q ++ [x], I64 y := fun y hy => (List.mem_append.1 hy).elim (h1 y) (fun e => by simp at e; subst e; exact hx)
 have hlen : (q ++ [x]).length < 4294967296 := by simp; omega
 have hnews : ∀ j u, [Value.int .i64 x][j]? = some u → (w.alloc (.cells #[.int .i64 x] 3)).cell? ((⟨w.heap.size, 0, none⟩ : Addr).add j) = some u := cell_one_new w _ _
 rcases h3 with ⟨rfl, rfl⟩ | ⟨g, off, cap, cur, rfl, hg, hh, hnc, hcm, hoc, hcs⟩
 ·obtain ⟨g, c, w', hr, r1, r2, -⟩ := run_app elemInt (w0 := w) (B := H) (v := .slice none 0 0) (n := 0) (xs := []) (World.ownsRow_nil _ _ _ _) hH (cs := #[.int .i64 x]) rfl (oneInt x) (by omega) (Or.inl rfl) ty
  exact ⟨_, w', hr, QRow.of_row ⟨by simpa [ints] using r1, by simpa using hx, by simp⟩, r2⟩
 ·have hh1 := hca.heap hh (by simp)
  by_cases hroom : q.length + 1 ≤ cap
  ·have hr := run_append_room_cells (P := Tryz.prog) (w.alloc (.cells #[.int .i64 x] 3)) 25 ty 3 i0 elemInt.ht hi g off q.length cap ⟨w.heap.size, 0, none⟩ 1 1 [.int .i64 x] (by rw [hz1]; rfl) hnews (by intro u hu; simp at hu; subst hu; rfl) hroom
    (fun j hj => by
     have : j = 0 := by simpa using hj
     subst this
     have hlt : off + q.length < cur.size := by omega
     rw [hz1, cell_of_row _ g _ cur _ _ hh1]
     simp [hlt])
    (fun j hj => by simp [World.frozen?, hh1])
   rw [hz1, Nat.mul_one] at hr
   have hset : (w.alloc (.cells #[.int .i64 x] 3)).setCells g (off + q.length) [.int .i64 x] = (w.alloc (.cells #[.int .i64 x] 3)).setCell ⟨g, off + q.length, none⟩ (.int .i64 x) := rfl
   rw [hset] at hr
   refine ⟨_, _, hr, ⟨hxs, hlen, Or.inr ⟨g, off, cap, cur.setIfInBounds (off + q.length) (.int .i64 x), by simp, hg, heap_setCell_same hh1 _ _, by simp; omega, hcm, by simpa using hoc, fun i hi => ?_⟩⟩, ?_⟩
   ·by_cases e : i = q.length
    ·subst e
     simp [List.getD, show off + q.length < cur.size by omega]
    ·have hi' : i < q.length := by simp at hi; omega
     rw [Array.getElem?_setIfInBounds_ne (by omega), hcs i hi']
     simp [List.getD, hi', List.getElem?_append_left hi']
   ·exact ((Chg.refl _ w).alloc _).setCell (Or.inl (by simp [Value.ownBlock])) _
  ·have hold : ∀ j u, (ints q)[j]? = some u → (w.alloc (.cells #[.int .i64 x] 3)).cell? ((⟨g, off, none⟩ : Addr).add j) = some u := by
    intro j u hj
    rw [Addr.add_lit]
    exact qcells hh1 hcs j u hj
   obtain ⟨v', w', hr, r1, r2⟩ := run_append_arg_grows (P := Tryz.prog) (w.alloc (.cells #[.int .i64 x] 3)) 25 ty 3 i0 (.int .i64 0) 1 8 elemInt.ht hi hz0 hz1 hz2 elemInt.hz elemInt.h0 ⟨g, off, none⟩ q.length cap (ints q) (by simp [ints]) hold ⟨w.heap.size, 0, none⟩ 1 1 [.int .i64 x] rfl hnews (by omega) (by unfold maxLen; omega) (by omega)
   have hrow : RowAt w' (w.heap.size + 1) v' (q ++ [x]) := ⟨by rw [List.length_append]; rw [hsz] at r1; simpa [ints] using r1, hxs, hlen⟩
   exact ⟨v', w', hr, QRow.of_row (hrow.base (by omega)), (((Chg.refl [] w).alloc _).grown r2 (by simp)).mono (by simp)⟩

theorem wl_qput {ops : Array Oper} {rest : List Oper} {o : Oper} {a : Act} {Q : Exit → Act → World → Prop} {w : World} (hg : o.guard = none) (s x : Operand) (ho : o.op = .call { callee := .builtin .append, args := #[s, x], argTypes := #[25, 25] })
  {H : Nat} {v : Value} {q : List Int} {z : Int} (hs : a.eval s = v) (hx : a.eval x = .slice (some ⟨w.heap.size, 0, none⟩) 1 1) (hq : QRow w H v q) (hz : I64 z) (hH : H ≤ w.heap.size) (hn : q.length + 1 < 4294967296)
  (hK : ∀ v' w', QRow w' H v' (q ++ [z]) → Chg v.ownBlock.toList w w' → wpList Tryz.prog ops Q rest (a.put o.dst v') w') : wpList Tryz.prog ops Q (o :: rest) a (w.alloc (.cells #[.int .i64 z] 3)) := by
 refine wpList_plain hg fun K hK' => ?_
 obtain ⟨v', w', hr, r1, r2⟩ := run_qput hq hz hH hn o.type
 unfold Oper.wp execOp
 simp only [ho, resolve, invoke, builtin, Sem.run_bind, Sem.run_pure, Result.andThen_ok, List.map_toArray, List.map_cons, List.map_nil, hs, hx, hr]
 exact hK' _ _ (hK v' w' r1 r2)

def QAt (w : World) (B H : Nat) (q : List Int) : Prop := ∃ v, w.heap[B]? = some (.cells #[v] 25 (0, 0)) ∧ QRow w H v q ∧ H ≤ B

def QOwn (w : World) (H : Nat) (own : List Nat) : Prop := ∀ j ∈ own, H ≤ j ∧ ∃ cs t r, w.heap[j]? = some (.cells cs t r) ∧ (t = 3 ∨ t = 25)

theorem QRow.own {w : World} {H : Nat} {v : Value} {q : List Int} (h : QRow w H v q) : QOwn w H v.ownBlock.toList := by
 intro j hj
 rcases h.2.2 with ⟨rfl, -⟩ | ⟨g, off, cap, cur, rfl, hg, hh, -⟩
 ·simp [Value.ownBlock] at hj
 ·simp [Value.ownBlock] at hj
  subst hj
  exact ⟨hg, cur, _, _, hh, Or.inl rfl⟩

theorem QRow.shape {w : World} {H : Nat} {v : Value} {q : List Int} (h : QRow w H v q) : ∃ ao c, v = .slice ao q.length c := by
 rcases h.2.2 with ⟨rfl, rfl⟩ | ⟨g, off, cap, cur, rfl, -⟩
 ·exact ⟨_, _, rfl⟩
 ·exact ⟨_, _, rfl⟩

theorem QRow.ne {w : World} {H B : Nat} {v : Value} {q : List Int} {cs : Array Value} {r : Nat × Nat} (h : QRow w H v q) (hb : w.heap[B]? = some (.cells cs 25 r)) : ∀ j ∈ v.ownBlock.toList, j ≠ B := by
 intro j hj e
 subst e
 rcases h.2.2 with ⟨rfl, -⟩ | ⟨g, off, cap, cur, rfl, hg, hh, -⟩
 ·simp [Value.ownBlock] at hj
 ·simp [Value.ownBlock] at hj
  subst hj
  rw [hb] at hh
  simp at hh

theorem QAt.chg {w w' : World} {B H : Nat} {q : List Int} {own : List Nat} (h : QAt w B H q) (hc : Chg own w w') (hn : ∀ j ∈ own, ∀ cs t r, w.heap[j]? ≠ some (.cells cs t r)) : QAt w' B H q := by
 obtain ⟨v, hb, hq, hH⟩ := h
 refine ⟨v, hc.heap hb (fun e => hn B e _ _ _ hb), hq.chg hc (fun j hj e => ?_), hH⟩
 obtain ⟨-, cs, t, r, hh, -⟩ := hq.own j hj
 exact hn j e _ _ _ hh

theorem qput_any (B H : Nat) (q : List Int) (x : Int) (w : World) (hx : I64 x) (hH : H ≤ w.heap.size) (hn : q.length + 1 < 4294967296) (h : QAt w B H q) :
  Calls Tryz.prog 137 #[.int .i64 x, .pointer (some ⟨B, 0, none⟩)] w fun e w' => e = .returned (.tuple #[]) ∧ QAt w' B H (q ++ [x]) ∧ ∃ own, QOwn w H own ∧ Chg own w w' := by
 obtain ⟨v, hb, hq, hHB⟩ := h
 have c0 : w.cell? ⟨B, 0, none⟩ = some v := by rw [cell_of_row _ _ _ _ _ _ hb]; rfl
 have z0 : w.frozen? ⟨B, 0, none⟩ = false := by simp [World.frozen?, hb]
 have HNE := Lib.hid (hq.ne hb)
 have HOW : Hid (QOwn w H (B :: v.ownBlock.toList)) := by
  intro j hj
  rcases List.mem_cons.1 hj with rfl | hj
  ·exact ⟨hHB, _, _, _, hb, Or.inr rfl⟩
  ·exact hq.own j hj
 obtain ⟨ao, c, rfl⟩ := hq.shape
 have HQ := Lib.hid hq
 have HB := Lib.hid hb
 have HZ := Lib.hid z0
 have HC0 := Lib.hid c0
 clear hq hb
 go_enter Tryz.func137, Tryz.ntmps137
 go_wp2_with (at_builtin; refine wl_qput rfl _ _ rfl rfl rfl HQ.out hx hH hn ?_; intro v' w1 r1 c1; have NB : B ∉ (Value.slice ao q.length c).ownBlock.toList := fun e => HNE.out B e rfl; have k0 := c1.cell HC0.out NB; have kz := c1.frozen HC0.out HZ.out NB; have KB := Lib.hid (c1.heap HB.out NB); obtain ⟨ao', c', rfl⟩ := r1.shape; have R1 := Lib.hid r1; have C1 := Lib.hid c1; clear r1 c1 NB)
 refine bodyPost_end (v := .tuple #[]) (by simp [results, Tryz.results137, go_sem]) rfl ⟨rfl, ⟨_, heap_setCell_same KB.out 0 _, ?_, hHB⟩, _, HOW.out, ?_⟩
 ·have hr := R1.out.chg ((Chg.refl [B] w1).setCell (p := ⟨B, 0, none⟩) (Or.inl (by simp)) (.slice ao' (q ++ [x]).length c')) (fun b hb => by simpa using R1.out.ne KB.out b hb)
  simpa using hr
 ·exact ((show Chg (Value.slice ao q.length c).ownBlock.toList w w1 from C1.out).mono (fun j hj => Or.inl (List.mem_cons_of_mem _ hj))).setCell (Or.inl (by simp)) _

theorem qtake_none (B H : Nat) (w : World) (h : QAt w B H []) :
  Calls Tryz.prog 138 #[.pointer (some ⟨B, 0, none⟩)] w fun e w' => e = .returned (.tuple #[.int .i64 0, .bool false]) ∧ w = w' := by
 obtain ⟨v, hb, hq, hHB⟩ := h
 have c0 : w.cell? ⟨B, 0, none⟩ = some v := by rw [cell_of_row _ _ _ _ _ _ hb]; rfl
 obtain ⟨ao, c, rfl⟩ := hq.shape
 rw [List.length_nil] at c0
 clear hq hb
 go_enter Tryz.func138, Tryz.ntmps138
 go_wp2
 exact bodyPost_ret (v := .tuple #[.int .i64 0, .bool false]) (by simp [results, Tryz.results138, go_sem]) rfl ⟨rfl, rfl⟩

theorem qtake_some (B H : Nat) (x : Int) (q : List Int) (w : World) (h : QAt w B H (x :: q)) :
  Calls Tryz.prog 138 #[.pointer (some ⟨B, 0, none⟩)] w fun e w' => e = .returned (.tuple #[.int .i64 x, .bool true]) ∧ QAt w' B H q ∧ ∃ own, QOwn w H own ∧ Chg own w w' := by
 obtain ⟨v, hb, hq, hHB⟩ := h
 have c0 : w.cell? ⟨B, 0, none⟩ = some v := by rw [cell_of_row _ _ _ _ _ _ hb]; rfl
 have z0 : w.frozen? ⟨B, 0, none⟩ = false := by simp [World.frozen?, hb]
 have HNE := hq.ne hb
 have HOW : Hid (QOwn w H [B]) := by
  intro j hj
  simp at hj
  subst hj
  exact ⟨hHB, _, _, _, hb, Or.inr rfl⟩
 obtain ⟨h1, h2, h3⟩ := hq
 rcases h3 with ⟨-, e⟩ | ⟨g, off, cap, cur, rfl, hg, hh, hnc, hcm, hoc, hcs⟩
 ·cases e
 ·have hgB : g ≠ B := HNE g (by simp [Value.ownBlock])
  have ch : w.cell? ⟨g, off, none⟩ = some (.int .i64 x) := by
   rw [cell_of_row w g off cur _ _ hh]
   have := hcs 0 (by simp)
   simpa using this
  simp only [List.length_cons] at c0 hnc h2
  have fin : ∀ off' cap', Hid (off' + cap' ≤ cur.size ∧ q.length ≤ cap' ∧ cap' ≤ 9223372036854775807 ∧ ∀ i, i < q.length → cur[off' + i]? = some (.int .i64 (q.getD i 0))) → Hid (QAt (w.setCell ⟨B, 0, none⟩ (.slice (some ⟨g, off', none⟩) q.length cap')) B H q) := by
   intro off' cap' hk
   obtain ⟨k1, k2, k3, k4⟩ := hk.out
   refine Lib.hid ⟨_, heap_setCell_same hb 0 _, ⟨fun y hy => h1 y (by simp [hy]), by omega, Or.inr ⟨g, off', cap', cur, rfl, hg, ?_, k2, k3, k1, k4⟩⟩, hHB⟩
   exact ((Chg.refl [B] w).setCell (p := ⟨B, 0, none⟩) (Or.inl (by simp)) (.slice (some ⟨g, off', none⟩) q.length cap')).heap hh (by simpa using hgB)
  have hpos : (0 : Int) < ((q.length + 1 : Nat) : Int) := by omega
  have hl0 : (((q.length + 1 : Nat) : Int) == 0) = false := by rw [beq_eq_false_iff_ne]; omega
  have hl1 : q.length + 1 - 1 = q.length := by omega
  by_cases hcap : 1 = cap
  ·subst hcap
   have hq0 : q.length = 0 := by omega
   have HF := fin off 0 (Lib.hid ⟨by omega, by omega, by omega, fun i hi => by omega⟩)
   clear fin hb hh hcs HNE h1 hg
   go_enter Tryz.func138, Tryz.ntmps138
   go_wp2
   refine bodyPost_ret (v := .tuple #[.int .i64 x, .bool true]) (by simp [results, Tryz.results138, go_sem]) rfl ⟨rfl, ?_, [B], HOW.out, (Chg.refl _ w).setCell (Or.inl (by simp)) _⟩
   have HF2 := HF.out
   rw [hq0] at HF2
   exact HF2
  ·have HF := fin (off + 1) (cap - 1) (Lib.hid ⟨by omega, by omega, by omega, fun i hi => by
    have := hcs (i + 1) (by simp; omega)
    rw [show off + 1 + i = off + (i + 1) by omega, this]
    simp⟩)
   clear fin hb hh hcs HNE h1 hg
   go_enter Tryz.func138, Tryz.ntmps138
   go_wp2
   refine bodyPost_ret (v := .tuple #[.int .i64 x, .bool true]) (by simp [results, Tryz.results138, go_sem]) rfl ⟨rfl, HF.out, [B], HOW.out, (Chg.refl _ w).setCell (Or.inl (by simp)) _⟩

theorem queue_any (w : World) :
  Calls Tryz.prog 135 #[] w fun e w' => e = .returned (.tuple #[.func (.func 137) #[] #[.pointer (some ⟨w.heap.size, 0, none⟩)], .func (.func 138) #[] #[.pointer (some ⟨w.heap.size, 0, none⟩)]]) ∧ QAt w' w.heap.size w.heap.size [] ∧ Chg [] w w' := by
 have hmf : ∀ (fn : Fn) (first cap : Array Value) (w : World), (Instr.makeFunc fn first cap).run Tryz.prog w = .ok (.func fn first cap) w := fun _ _ _ _ => rfl
 have HQ : Hid (QAt (w.alloc (.cells #[.slice none 0 0] 25)) w.heap.size w.heap.size []) := ⟨_, heap_alloc_new w _, ⟨by simp, by simp, Or.inl ⟨rfl, rfl⟩⟩, Nat.le_refl _⟩
 have HC := Lib.hid ((Chg.refl [] w).alloc (.cells #[.slice none 0 0] 25))
 go_enter Tryz.func135, Tryz.ntmps135
 go_wp2
 refine bodyPost_ret (v := .tuple #[.func (.func 137) #[] #[.pointer (some ⟨w.heap.size, 0, none⟩)], .func (.func 138) #[] #[.pointer (some ⟨w.heap.size, 0, none⟩)]]) (by simp [results, Tryz.results135, go_sem]) rfl ⟨rfl, HQ.out, HC.out⟩

end Go.Proofs.YtfgbkpbakignhaaGreat
/- Graphs, parts, lists of lists as they lie in memory and are read. No condition beyond what each law says. -/
namespace Go.Proofs.YtfgbkpbakignhaaGreat
open Go.RowKit Go.Maps

def GrAt (w : World) (v : Value) (g : Plain.Gr) : Prop :=
 ∃ eo cap, v = .agg #[.int .i64 g.n, .slice eo g.e.length cap] ∧ I64 g.n ∧ g.e.length ≤ 9223372036854775807 ∧
  (∀ i, i < g.e.length → I64 (g.ends i).1 ∧ I64 (g.ends i).2) ∧
  (∀ i, i < g.e.length → ∃ b off, eo = some ⟨b, off, none⟩ ∧ w.cell? ⟨b, off + i * 2, none⟩ = some (.int .i64 (g.ends i).1) ∧ w.cell? ⟨b, off + i * 2 + 1, none⟩ = some (.int .i64 (g.ends i).2))

def PtAt (w : World) (v : Value) (p : Plain.Pt) : Prop := ∃ v1 v2, v = .agg #[v1, v2] ∧ IntsAt w v1 p.v ∧ IntsAt w v2 p.e

def CapOk (v : Value) : Prop := ∃ ao n cap, v = .slice ao n cap ∧ n ≤ cap ∧ cap ≤ 9223372036854775807

def RowsAt (w : World) (v : Value) (ll : List (List Int)) : Prop :=
 ∃ ao cap, v = .slice ao ll.length cap ∧ ll.length ≤ 9223372036854775807 ∧
  ∀ i, i < ll.length → ∃ b off u, ao = some ⟨b, off, none⟩ ∧ w.cell? ⟨b, off + i, none⟩ = some u ∧ CapOk u ∧ IntsAt w u (ll.getD i [])

theorem GrAt.fresh {w w' : World} {v : Value} {g : Plain.Gr} (h : GrAt w v g) (hc : Chg [] w w') : GrAt w' v g := by
 obtain ⟨eo, cap, e, h1, h2, h3, h4⟩ := h
 refine ⟨eo, cap, e, h1, h2, h3, fun i hi => ?_⟩
 obtain ⟨b, off, e1, c1, c2⟩ := h4 i hi
 exact ⟨b, off, e1, hc.cell c1 (by simp), hc.cell c2 (by simp)⟩

theorem PtAt.fresh {w w' : World} {v : Value} {p : Plain.Pt} (h : PtAt w v p) (hc : Chg [] w w') : PtAt w' v p := by
 obtain ⟨v1, v2, e, h1, h2⟩ := h
 exact ⟨v1, v2, e, h1.fresh hc, h2.fresh hc⟩

theorem RowsAt.fresh {w w' : World} {v : Value} {ll : List (List Int)} (h : RowsAt w v ll) (hc : Chg [] w w') : RowsAt w' v ll := by
 obtain ⟨ao, cap, e, h1, h2⟩ := h
 refine ⟨ao, cap, e, h1, fun i hi => ?_⟩
 obtain ⟨b, off, u, e1, c1, c2, c3⟩ := h2 i hi
 exact ⟨b, off, u, e1, hc.cell c1 (by simp), c2, c3.fresh hc⟩

end Go.Proofs.YtfgbkpbakignhaaGreat
/- map[int][]int of a call's own, as a function to lists: look-up, the append of one number, the store. Conditions: what each law says. -/
namespace Go.Proofs.YtfgbkpbakignhaaGreat
open Go.RowKit Go.Maps Go.ChangeShapes

def SMap (w : World) (b n : Nat) (f : Int → List Int) : Prop :=
 ∃ D : DataW Unit, w.ownsGroups Tryz.prog 3 (b + 1) 3 .i64 b n D ∧
  ∀ x, I64 x → (f x = [] ∧ D.atKey (.int .i64 x) .nil = .nil) ∨ D.atKey (.int .i64 x) .nil = .slice (lits .i64 (f x)) []

theorem zeroRow (w : World) : (zeroValue 25).run Tryz.prog w = .ok (.slice none 0 0) w := by kernel_rfl

theorem SMap.made (w : World) : SMap (w.alloc (.map #[] 0)) w.heap.size 0 (fun _ => []) :=
 ⟨.map [], World.ownsGroups_made _ _ _ _ _, fun _ _ => Or.inl ⟨rfl, rfl⟩⟩

theorem SMap.lt {w : World} {b n : Nat} {f : Int → List Int} (h : SMap w b n f) : b < w.heap.size := by
 obtain ⟨D, ⟨es, clock, hb, -⟩, -⟩ := h
 exact (Array.getElem?_eq_some_iff.1 hb).1

theorem lits_inj {a c : List Int} (h : (lits .i64 a : List (DataW Unit)) = lits .i64 c) : a = c := by
 induction a generalizing c with
 | nil => cases c with
  | nil => rfl
  | cons _ _ => simp [lits] at h
 | cons x a ih => cases c with
  | nil => simp [lits] at h
  | cons y c =>
   simp only [lits, List.map_cons, List.cons.injEq] at h
   obtain ⟨h1, h2⟩ := h
   have : x = y := by simpa using h1
   rw [this, ih h2]

theorem SMap.list {w : World} {f : Int → List Int} {D : DataW Unit} {x : Int} {v : Value} {zs : List Int} {base : Nat} (h : (f x = [] ∧ D.atKey (.int .i64 x) .nil = .nil) ∨ D.atKey (.int .i64 x) .nil = .slice (lits .i64 (f x)) []) (hat : D.atKey (.int .i64 x) .nil = rowDatum .i64 v zs) (ho : w.ownsInts base 3 .i64 v zs) : zs = f x := by
 rcases ho.datum (H := Unit) with ⟨e, rfl⟩ | e
 ·rw [e] at hat
  rcases h with ⟨h1, _⟩ | h2
  ·exact h1.symm
  ·rw [hat] at h2; cases h2
 ·rw [e] at hat
  rcases h with ⟨_, h2⟩ | h2
  ·rw [hat] at h2; cases h2
  ·rw [hat] at h2
   simp only [DataW.slice.injEq, and_true] at h2
   exact lits_inj h2

def SBack (w : World) (b n : Nat) (f : Int → List Int) (k : Int) (v : Value) : Prop :=
 ∀ (w1 : World) (v' : Value) (x : Int), RowAt w1 (b + 1) v' (f k ++ [x]) → Chg (foot v) w w1 → (∀ j ∈ foot v', j ∈ foot v ∨ w.heap.size ≤ j) →
  ∃ w2, (Instr.mapUpdate 83 (.map (some b)) (.int .i64 k) v').run Tryz.prog w1 = .ok () w2 ∧ SMap w2 b (n + 1) (fun y => if y = k then f k ++ [x] else f y) ∧ Chg [b] w1 w2

theorem owns_row {w : World} {B : Nat} {v : Value} {l : List Int} (h : w.ownsInts B 3 .i64 v l) (hn : l.length < 4294967296) : RowAt w B v l := ⟨h.1, h.2, hn⟩
theorem row_owns {w : World} {B : Nat} {v : Value} {l : List Int} (h : RowAt w B v l) : w.ownsInts B 3 .i64 v l := ⟨h.1, h.2.1⟩

theorem SMap.look {w : World} {b n : Nat} {f : Int → List Int} (h : SMap w b n f) (hn : n < 4294967296) {k : Int} (hk : I64 k) :
  ∃ v, (Instr.lookup 83 (.map (some b)) (.int .i64 k) false).run Tryz.prog w = .ok v w ∧ RowAt w (b + 1) v (f k) ∧ (f k).length ≤ n ∧ SBack w b n f k v := by
 obtain ⟨D, ho, hD⟩ := h
 have hkey := keyOf_int_mk Tryz.underlying3 hk
 obtain ⟨v, zs, hr, hat, hoi, hzl, hback⟩ := ho.at keyedInt Tryz.underlying83 (zeroRow w) (by unfold maxLen; omega) hkey
 obtain rfl := SMap.list (hD k hk) hat hoi
 refine ⟨v, hr, owns_row hoi (by omega), hzl, fun w1 v' x hrow hc hf => ?_⟩
 have hfo : foot v = v.ownBlock.toList := (owns_row hoi (by omega)).foot
 have hfo' : foot v' = v'.ownBlock.toList := hrow.foot
 have hgr : w.grownBy w1 v.ownBlock := hc.grownBy (fun j hj => by rw [hfo] at hj; exact (show v.ownBlock = some j by simpa using hj).symm)
 obtain ⟨g, c, e⟩ := owns_some hrow.1 (by simp)
 have hloc : v'.ownBlock = v.ownBlock ∨ ∃ g, v'.ownBlock = some g ∧ w.heap.size ≤ g := by
  have hb : v'.ownBlock = some g := by rw [e]; rfl
  rcases hf g (by rw [hfo', hb]; simp) with q | q
  ·left
   rw [hfo] at q
   rw [hb]
   exact (show v.ownBlock = some g by simpa using q).symm
  ·exact Or.inr ⟨g, hb, q⟩
 obtain ⟨w2, hr2, h2, h3⟩ := hback w1 v' (f k ++ [x]) hgr (row_owns hrow) (by simp; omega) hloc
 refine ⟨w2, hr2, ⟨_, h2, fun y hy => ?_⟩, (Chg.refl _ _).grown h3 (fun j hj => by cases hj; exact Or.inl (by simp))⟩
 have hdat : (rowDatum .i64 v' (f k ++ [x]) : DataW Unit) = .slice (lits .i64 (f k ++ [x])) [] := (row_owns hrow).datum_pos (by simp)
 obtain ⟨es, clock, hbm, F, hs, hDe, -⟩ := ho
 by_cases e1 : y = k
 ·subst e1
  right
  rw [atKey_put_same ⟨_, hDe⟩ (keyedInt.key hkey), hdat]
  simp
 ·rw [atKey_put_other (litNe e1)]
  simp only [if_neg e1]
  exact hD y hy

section
variable {ops : Array Oper} {rest : List Oper} {o : Oper} {a : Act} {Q : Exit → Act → World → Prop} {w : World}

theorem wl_slook (hg : o.guard = none) (m x : Operand) (hop : o.op = Op.lookup 83 m x false) {b n : Nat} {f : Int → List Int} (h : SMap w b n f) (hn : n < 4294967296) (hm : a.eval m = .map (some b)) {k : Int} (hk : I64 k) (hx : a.eval x = .int .i64 k)
  (hK : ∀ v, RowAt w (b + 1) v (f k) → (f k).length ≤ n → SBack w b n f k v → wpList Tryz.prog ops Q rest (a.put o.dst v) w) : wpList Tryz.prog ops Q (o :: rest) a w := by
 refine wpList_plain hg fun K' hK' => ?_
 obtain ⟨v, hrun, r1, r2, r3⟩ := h.look hn hk
 unfold Oper.wp
 simp [execOp, hop, hm, hx, hrun, Result.andThen]
 exact hK' _ _ (hK v r1 r2 r3)

theorem wl_sback {w0 : World} (hg : o.guard = none) (m x u : Operand) (hop : o.op = Op.mapUpdate 83 m x u) {b n : Nat} {f : Int → List Int} {k z : Int} {v v' : Value} (hb : SBack w0 b n f k v) (hm : a.eval m = .map (some b)) (hx : a.eval x = .int .i64 k) (hu : a.eval u = v')
  (hrow : RowAt w (b + 1) v' (f k ++ [z])) (hc : Chg (foot v) w0 w) (hf : ∀ j ∈ foot v', j ∈ foot v ∨ w0.heap.size ≤ j)
  (hK : ∀ w2, SMap w2 b (n + 1) (fun y => if y = k then f k ++ [z] else f y) → Chg [b] w w2 → wpList Tryz.prog ops Q rest (a.put o.dst undef) w2) : wpList Tryz.prog ops Q (o :: rest) a w := by
 refine wpList_plain hg fun K' hK' => ?_
 obtain ⟨w2, hrun, r1, r2⟩ := hb w v' z hrow hc hf
 unfold Oper.wp
 simp [execOp, hop, hm, hx, hu, hrun, Result.andThen]
 exact hK' _ _ (hK w2 r1 r2)
end

end Go.Proofs.YtfgbkpbakignhaaGreat
/- darts in the program and the document's answer: contracts of walk.target, face.leaves, ref04.Tail, ref04.In. Conditions: a graph, a list that lie in memory and read so; a dart of it. -/
namespace Go.Proofs.YtfgbkpbakignhaaGreat
open Go.RowKit Go.Maps

theorem dart_even (g : Plain.Gr) (e : Nat) : g.tail ((2 * e : Nat) : Int) = (g.ends e).1 ∧ g.head ((2 * e : Nat) : Int) = (g.ends e).2 := by
 unfold Plain.Gr.tail Plain.Gr.head Plain.Gr.at
 rw [if_pos (by omega), if_pos (by omega), show (((2 * e : Nat) : Int) / 2).toNat = e by omega]
 exact ⟨rfl, rfl⟩
theorem dart_odd (g : Plain.Gr) (e : Nat) : g.tail ((2 * e + 1 : Nat) : Int) = (g.ends e).2 ∧ g.head ((2 * e + 1 : Nat) : Int) = (g.ends e).1 := by
 unfold Plain.Gr.tail Plain.Gr.head Plain.Gr.at
 rw [if_neg (by omega), if_neg (by omega), show (((2 * e + 1 : Nat) : Int) / 2).toNat = e by omega]
 exact ⟨rfl, rfl⟩

theorem quo_even (e : Nat) : Int.tmod ((2 * e : Nat) : Int) 2 = 0 ∧ Int.tdiv ((2 * e : Nat) : Int) 2 = (e : Int) := by
 rw [Int.tmod_eq_emod_of_nonneg (by omega), Int.tdiv_eq_ediv_of_nonneg (by omega)]
 omega
theorem quo_odd (e : Nat) : Int.tmod ((2 * e + 1 : Nat) : Int) 2 = 1 ∧ Int.tdiv ((2 * e + 1 : Nat) : Int) 2 = (e : Int) := by
 rw [Int.tmod_eq_emod_of_nonneg (by omega), Int.tdiv_eq_ediv_of_nonneg (by omega)]
 omega

theorem target_any (v : Value) (g : Plain.Gr) (d : Nat) (w : World) (hd : d / 2 < g.e.length) (hm : g.e.length < 4294967296) (h : GrAt w v g) :
  Calls Tryz.prog 136 #[v, .int .i64 d] w fun e w' => e = .returned (.int .i64 (g.head d)) ∧ Chg [] w w' := by
 obtain ⟨eo, cap, rfl, -, -, -, hcell⟩ := h
 obtain ⟨b, off, rfl, hc0, hc1⟩ := hcell (d / 2) hd
 have HC1 := Lib.hid ((Chg.refl [] w).alloc (.cells #[.int .i64 g.n, .slice (some ⟨b, off, none⟩) g.e.length cap] 24))
 obtain ⟨e, he⟩ : ∃ e, d / 2 = e := ⟨_, rfl⟩
 rw [he] at hd hc0 hc1
 have c0 := fun o => cellNew hc0 o
 have c1 := fun o => cellNew hc1 o
 clear hcell hc0 hc1
 rcases (show d = 2 * e ∨ d = 2 * e + 1 by omega) with rfl | rfl
 ·obtain ⟨q1, q2⟩ := quo_even e
  have HE := Lib.hid (dart_even g e).2
  rw [HE.out]
  clear he
  generalize ((2 * e : Nat) : Int) = dd at *
  generalize (g.ends e).1 = x at *
  generalize (g.ends e).2 = y at *
  go_enter Tryz.func136, Tryz.ntmps136
  go_wp2
  go_ret
  exact ⟨rfl, HC1.out⟩
 ·obtain ⟨q1, q2⟩ := quo_odd e
  have HE := Lib.hid (dart_odd g e).2
  rw [HE.out]
  clear he
  generalize ((2 * e + 1 : Nat) : Int) = dd at *
  generalize (g.ends e).1 = x at *
  generalize (g.ends e).2 = y at *
  go_enter Tryz.func136, Tryz.ntmps136
  go_wp2
  go_ret
  exact ⟨rfl, HC1.out⟩

theorem leaves_any (v : Value) (g : Plain.Gr) (d : Nat) (w : World) (hd : d / 2 < g.e.length) (hm : g.e.length < 4294967296) (h : GrAt w v g) :
  Calls Tryz.prog 131 #[v, .int .i64 d] w fun e w' => e = .returned (.int .i64 (g.tail d)) ∧ Chg [] w w' := by
 obtain ⟨eo, cap, rfl, -, -, -, hcell⟩ := h
 obtain ⟨b, off, rfl, hc0, hc1⟩ := hcell (d / 2) hd
 have HC1 := Lib.hid ((Chg.refl [] w).alloc (.cells #[.int .i64 g.n, .slice (some ⟨b, off, none⟩) g.e.length cap] 24))
 obtain ⟨e, he⟩ : ∃ e, d / 2 = e := ⟨_, rfl⟩
 rw [he] at hd hc0 hc1
 have c0 := fun o => cellNew hc0 o
 have c1 := fun o => cellNew hc1 o
 clear hcell hc0 hc1
 rcases (show d = 2 * e ∨ d = 2 * e + 1 by omega) with rfl | rfl
 ·obtain ⟨q1, q2⟩ := quo_even e
  have HE := Lib.hid (dart_even g e).1
  rw [HE.out]
  clear he
  generalize ((2 * e : Nat) : Int) = dd at *
  generalize (g.ends e).1 = x at *
  generalize (g.ends e).2 = y at *
  go_enter Tryz.func131, Tryz.ntmps131
  go_wp2
  go_ret
  exact ⟨rfl, HC1.out⟩
 ·obtain ⟨q1, q2⟩ := quo_odd e
  have HE := Lib.hid (dart_odd g e).1
  rw [HE.out]
  clear he
  generalize ((2 * e + 1 : Nat) : Int) = dd at *
  generalize (g.ends e).1 = x at *
  generalize (g.ends e).2 = y at *
  go_enter Tryz.func131, Tryz.ntmps131
  go_wp2
  go_ret
  exact ⟨rfl, HC1.out⟩

theorem tail_any (v : Value) (g : Plain.Gr) (d : Nat) (w : World) (hd : d / 2 < g.e.length) (hm : g.e.length < 4294967296) (h : GrAt w v g) :
  Calls Tryz.prog 28 #[v, .int .i64 d] w fun e w' => e = .returned (.int .i64 (g.tail d)) ∧ Chg [] w w' := by
 obtain ⟨eo, cap, rfl, -, -, -, hcell⟩ := h
 obtain ⟨b, off, rfl, hc0, hc1⟩ := hcell (d / 2) hd
 have HC1 := Lib.hid ((Chg.refl [] w).alloc (.cells #[.int .i64 g.n, .slice (some ⟨b, off, none⟩) g.e.length cap] 24))
 obtain ⟨e, he⟩ : ∃ e, d / 2 = e := ⟨_, rfl⟩
 rw [he] at hd hc0 hc1
 have c0 := fun o => cellNew hc0 o
 have c1 := fun o => cellNew hc1 o
 clear hcell hc0 hc1
 rcases (show d = 2 * e ∨ d = 2 * e + 1 by omega) with rfl | rfl
 ·obtain ⟨q1, q2⟩ := quo_even e
  have HE := Lib.hid (dart_even g e).1
  rw [HE.out]
  clear he
  generalize ((2 * e : Nat) : Int) = dd at *
  generalize (g.ends e).1 = x at *
  generalize (g.ends e).2 = y at *
  go_enter Tryz.func28, Tryz.ntmps28
  go_wp2
  go_ret
  exact ⟨rfl, HC1.out⟩
 ·obtain ⟨q1, q2⟩ := quo_odd e
  have HE := Lib.hid (dart_odd g e).1
  rw [HE.out]
  clear he
  generalize ((2 * e + 1 : Nat) : Int) = dd at *
  generalize (g.ends e).1 = x at *
  generalize (g.ends e).2 = y at *
  go_enter Tryz.func28, Tryz.ntmps28
  go_wp2
  go_ret
  exact ⟨rfl, HC1.out⟩

theorem take_snoc_mem {l : List Int} {x : Int} {k : Nat} (hk : k < l.length) : x ∈ l.take (k + 1) ↔ x ∈ l.take k ∨ l.getD k 0 = x := by
 rw [List.take_succ_eq_append_getElem hk]
 simp only [List.mem_append, List.mem_singleton, List.getD, List.getElem?_eq_getElem hk, Option.getD_some]
 exact or_congr_right eq_comm

theorem in_any (v : Value) (l : List Int) (x : Int) (w : World) (h : IntsAt w v l) :
  Calls Tryz.prog 13 #[v, .int .i64 x] w fun e w' => e = .returned (.bool (decide (x ∈ l))) ∧ Chg [] w w' := by
 obtain ⟨ao, cap, rfl, hsm, hm, hcell⟩ := h
 have HCE := Lib.hid hcell
 clear hsm hcell
 go_enter Tryz.func13, Tryz.ntmps13
 go_wp2
 go_loopw [5] (fun c wr => ∃ k : Nat, k ≤ l.length ∧ c = .int .i64 k ∧ Chg [] w wr ∧ Hid (x ∉ l.take k)) (fun c _ => l.length - (intOf c).toNat)
 case atStart => exact ⟨0, Nat.zero_le _, rfl, Chg.refl _ _, Lib.hid (by simp)⟩
 case round =>
  obtain ⟨k, hk, rfl, hc, hall⟩ := hrel
  have HC := Lib.hid hc
  by_cases hlt : k < l.length
  ·obtain ⟨b, off, rfl, hfc⟩ := HCE.out (by intro e; rw [e] at hlt; simp at hlt)
   have c0 := hc.cell (hfc k hlt) (by simp)
   have HS := Lib.hid (take_snoc_mem (x := x) hlt)
   have HIN := Lib.hid (fun (e : l.getD k 0 = x) => (show x ∈ l from List.mem_of_mem_take ((take_snoc_mem (x := x) hlt).2 (Or.inr e))))
   clear hfc hc
   generalize l.getD k 0 = z at *
   by_cases h1 : z = x
   ·have HE := Lib.hid (decide_eq_true (HIN.out h1))
    subst h1
    go_wp2
    go_ret
    exact ⟨ret_bool HE.out.symm, HC.out⟩
   ·have h2 : (z == x) = false := by rw [beq_eq_false_iff_ne]; exact h1
    go_wp2
    go_roundw
    case rel => exact ⟨k + 1, by omega, by go_num, HC.out, Lib.hid (fun q => (HS.out.1 q).elim hall.out h1)⟩
    case measure => simp [intOf]; omega
  ·have e : k = l.length := by omega
   subst e
   have HE := Lib.hid (decide_eq_false (by have := hall.out; rwa [List.take_length] at this))
   go_wp2
   go_ret
   exact ⟨ret_bool HE.out.symm, HC.out⟩

end Go.Proofs.YtfgbkpbakignhaaGreat
