/- The walks of turns are determined; the error of turns that are not on spheres. No program here. -/
import Derived.Test.YtckjpaimbmlboaaVNext
namespace Go.Proofs.Ytckjpaimbmlboaa.Plain
theorem darts_pair {p : Pt} (h : p.e.Pairwise (· < ·)) : p.darts.Pairwise (· < ·) := by
 obtain ⟨v, e⟩ := p
 unfold Pt.darts
 dsimp only at h ⊢
 induction e with
 | nil => simp
 | cons a l ih =>
  rw [List.pairwise_cons] at h
  rw [List.flatMap_cons, List.pairwise_append]
  refine ⟨by simp; omega, ih h.2, fun x hx y hy => ?_⟩
  obtain ⟨b, hb, hy⟩ := List.mem_flatMap.1 hy
  have := h.1 b hb
  simp at hx hy
  omega
theorem Trk.least' {g : Gr} {p : Pt} {turn : List (List Int)} {F : List Face} (h : Trk g p turn F p.darts) (hr : p.e.Pairwise (· < ·)) {f : Face} (hf : f ∈ F) {y : Int} (hy : y ∈ f.2) : f.1 ≤ y := by
 obtain ⟨a, b, e, ha⟩ := h.least f hf
 have hd := h.sub y (List.mem_flatten.2 ⟨f.2, List.mem_map.2 ⟨f, hf, rfl⟩, hy⟩)
 have hp := darts_pair hr
 rw [e] at hd hp
 rcases List.mem_append.1 hd with q | q
 ·exact absurd q (ha y hy)
 rcases List.mem_cons.1 q with q | q
 ·omega
 have := (List.pairwise_cons.1 (List.pairwise_append.1 hp).2.1).1 y q
 omega
theorem Trk.keysRise {g : Gr} {p : Pt} {turn : List (List Int)} {F : List Face} (h : Trk g p turn F p.darts) (hr : p.e.Pairwise (· < ·)) : (F.map (·.1)).Pairwise (· < ·) := (darts_pair hr).sublist h.keys
theorem Trk.sub' {g : Gr} {p : Pt} {turn : List (List Int)} {F F' : List Face} (h : Trk g p turn F p.darts) (h' : Trk g p turn F' p.darts) (hr : p.e.Pairwise (· < ·)) {f : Face} (hf : f ∈ F) : f ∈ F' := by
 obtain ⟨l, e⟩ := h.key f hf
 have hd : f.1 ∈ flat F' := h'.cover _ (h.sub _ (List.mem_flatten.2 ⟨f.2, List.mem_map.2 ⟨f, hf, rfl⟩, by rw [e]; simp⟩))
 obtain ⟨c, hc, hdc⟩ := List.mem_flatten.1 hd
 obtain ⟨f', hf', rfl⟩ := List.mem_map.1 hc
 obtain ⟨l', e'⟩ := h'.key f' hf'
 have hr1 := h.rings.ring f.2 (List.mem_map.2 ⟨f, hf, rfl⟩)
 have hr2 := h'.rings.ring f'.2 hc
 obtain ⟨m, hm, hperm⟩ := hr2.from hdc
 have hn1 : (f.1 :: l).Nodup := by
  rw [← e]
  exact (nodup_flat.1 h.rings.nodup).1 _ (List.mem_map.2 ⟨f, hf, rfl⟩)
 have hn2 : f'.2.Nodup := (nodup_flat.1 h'.rings.nodup).1 _ hc
 have hn3 : (f.1 :: m).Nodup := hperm.nodup_iff.2 hn2
 rw [e] at hr1
 have hlm : l = m := Trail.det (x := f.1) hr1 hm (List.nodup_cons.1 hn1).1 (List.nodup_cons.1 hn3).1
 subst hlm
 have h1 : f.1 ≤ f'.1 := h.least' hr hf (by rw [e]; exact hperm.mem_iff.2 (by rw [e']; simp))
 have h2 : f'.1 ≤ f.1 := h'.least' hr hf' hdc
 have hk : f.1 = f'.1 := by omega
 rw [e'] at hr2 hn2
 rw [← hk] at hr2 hn2
 have hll : l = l' := Trail.det (x := f.1) hr1 hr2 (List.nodup_cons.1 hn1).1 (List.nodup_cons.1 hn2).1
 have : f = f' := by
  obtain ⟨a, b⟩ := f
  obtain ⟨a', b'⟩ := f'
  dsimp only at e e' hk
  rw [e, e', hk, hll]
 rw [this]
 exact hf'
theorem keys_ext : ∀ {F F' : List Face}, (F.map (·.1)).Pairwise (· < ·) → (F'.map (·.1)).Pairwise (· < ·) → (∀ f, f ∈ F ↔ f ∈ F') → F = F'
 | [], [], _, _, _ => rfl
 | [], f :: F', _, _, h => by have := (h f).2 (by simp); simp at this
 | f :: F, [], _, _, h => by have := (h f).1 (by simp); simp at this
 | f :: F, f' :: F', h1, h2, h => by
  rw [List.map_cons, List.pairwise_cons] at h1 h2
  have a1 : ∀ x ∈ F, f.1 < x.1 := fun x hx => h1.1 x.1 (List.mem_map.2 ⟨x, hx, rfl⟩)
  have a2 : ∀ x ∈ F', f'.1 < x.1 := fun x hx => h2.1 x.1 (List.mem_map.2 ⟨x, hx, rfl⟩)
  have e : f = f' := by
   rcases List.mem_cons.1 ((h f).1 (by simp)) with q | q
   ·exact q
   rcases List.mem_cons.1 ((h f').2 (by simp)) with r | r
   ·exact r.symm
   have := a1 _ r; have := a2 _ q; omega
  subst e
  rw [keys_ext h1.2 h2.2 fun x => ⟨fun hx => ?_, fun hx => ?_⟩]
  ·rcases List.mem_cons.1 ((h x).1 (by simp [hx])) with q | q
   ·subst q; have := a1 _ hx; omega
   exact q
  rcases List.mem_cons.1 ((h x).2 (by simp [hx])) with q | q
  ·subst q; have := a2 _ hx; omega
  exact q
theorem WalksOk.one {g : Gr} {p : Pt} {turn : List (List Int)} {W W' : List Face} (hr : p.e.Pairwise (· < ·)) (h : WalksOk g p turn W) (h' : WalksOk g p turn W') : W = W' := by
 obtain ⟨F, e, k⟩ := h.split
 obtain ⟨F', e', k'⟩ := h'.split
 rw [e, e', keys_ext (k.keysRise hr) (k'.keysRise hr) fun f => ⟨fun hf => k.sub' k' hr hf, fun hf => k'.sub' k hr hf⟩]
open Classical in
noncomputable def walksOf (g : Gr) (p : Pt) (turn : List (List Int)) : List Face := if h : ∃ W, WalksOk g p turn W then Classical.choose h else []
theorem WalksOk.eq {g : Gr} {p : Pt} {turn : List (List Int)} {W : List Face} (hr : p.err g = 0) (h : WalksOk g p turn W) : W = walksOf g p turn := by
 have hex : ∃ W, WalksOk g p turn W := ⟨W, h⟩
 unfold walksOf
 rw [dif_pos hex]
 exact h.one (rises_pair (Pt.err_ok hr).2.2.1) (Classical.choose_spec hex)
def Flat (g : Gr) (p : Pt) (turn : List (List Int)) : Prop := ∀ r ∈ roots g p, genusAt g p (walksOf g p turn) r = 0
open Classical in
noncomputable def flatErr (g : Gr) (p : Pt) (turn : List (List Int)) : Int := if turnErr g p turn ≠ 0 then turnErr g p turn else if Flat g p turn then 0 else 6
theorem flatErr_turn {g : Gr} {p : Pt} {turn : List (List Int)} (h : turnErr g p turn ≠ 0) : flatErr g p turn = turnErr g p turn := if_pos h
theorem flatErr_ok {g : Gr} {p : Pt} {turn : List (List Int)} (h : turnErr g p turn = 0) (hf : Flat g p turn) : flatErr g p turn = 0 := by unfold flatErr; rw [if_neg (by simp [h]), if_pos hf]
theorem flatErr_bad {g : Gr} {p : Pt} {turn : List (List Int)} (h : turnErr g p turn = 0) (hf : ¬ Flat g p turn) : flatErr g p turn = 6 := by unfold flatErr; rw [if_neg (by simp [h]), if_neg hf]
theorem flatErr_zero {g : Gr} {p : Pt} {turn : List (List Int)} (h : flatErr g p turn = 0) : turnErr g p turn = 0 ∧ Flat g p turn := by
 by_cases h1 : turnErr g p turn = 0
 ·refine ⟨h1, Classical.byContradiction fun h2 => ?_⟩
  rw [flatErr_bad h1 h2] at h; cases h
 rw [flatErr_turn h1] at h; exact absurd h h1
theorem walks_keys {g : Gr} {p : Pt} {turn : List (List Int)} {W : List Face} (hr : p.err g = 0) (h : WalksOk g p turn W) : (W.map (·.1)).Pairwise (· < ·) := by
 obtain ⟨F, rfl, ht⟩ := h.split
 rw [List.map_append, List.pairwise_append]
 have hv := (Pt.err_ok hr).2.1
 have hpo := Pt.ok_of_err hr
 refine ⟨?_, ht.keysRise (rises_pair (Pt.err_ok hr).2.2.1), fun x hx y hy => ?_⟩
 ·unfold loneAt
  rw [List.map_map, List.pairwise_map]
  refine (List.Pairwise.filter _ (List.pairwise_reverse.2 (rises_pair hv))).imp fun {a b} hab => ?_
  show -1 - a < -1 - b
  omega
 obtain ⟨f, hf, rfl⟩ := List.mem_map.1 hx
 obtain ⟨v, hv2, rfl⟩ := List.mem_map.1 hf
 have hvm := hpo.vr v (List.mem_reverse.1 (List.mem_filter.1 hv2).1)
 have hd := ht.keys.subset hy
 rw [mem_darts] at hd
 have := hpo.er _ hd
 show -1 - v < y
 omega
end Go.Proofs.Ytckjpaimbmlboaa.Plain
namespace Go.Proofs.Ytckjpaimbmlboaa
def pcs (V E : Int → List Int) (R : List Int) : List Cell := R.flatMap fun r => [.row (V r), .row (E r)]
theorem pcs_snoc (V E : Int → List Int) (R : List Int) (r : Int) : pcs V E (R ++ [r]) = pcs V E R ++ [.row (V r), .row (E r)] := by simp [pcs]
theorem pcs_cons (V E : Int → List Int) (R : List Int) (r : Int) : pcs V E (r :: R) = .row (V r) :: .row (E r) :: pcs V E R := rfl
theorem pcs_even (V E : Int → List Int) : ∀ (R : List Int) (n : Nat), n < R.length → (pcs V E R)[n * 2]? = some (.row (V (R.getD n 0)))
 | [], n, h => by simp at h
 | r :: R, 0, _ => by rw [pcs_cons]; rfl
 | r :: R, n + 1, h => by
  rw [pcs_cons, show (n + 1) * 2 = n * 2 + 1 + 1 by omega, List.getElem?_cons_succ, List.getElem?_cons_succ, pcs_even V E R n (by simpa using h)]
  rfl
theorem pcs_odd (V E : Int → List Int) : ∀ (R : List Int) (n : Nat), n < R.length → (pcs V E R)[n * 2 + 1]? = some (.row (E (R.getD n 0)))
 | [], n, h => by simp at h
 | r :: R, 0, _ => by rw [pcs_cons]; rfl
 | r :: R, n + 1, h => by
  rw [pcs_cons, show (n + 1) * 2 + 1 = (n * 2 + 1) + 1 + 1 by omega, List.getElem?_cons_succ, List.getElem?_cons_succ, pcs_odd V E R n (by simpa using h)]
  rfl
theorem pcs_congr {V E V' E' : Int → List Int} : ∀ {R : List Int}, (∀ r ∈ R, V r = V' r ∧ E r = E' r) → pcs V E R = pcs V' E' R
 | [], _ => rfl
 | r :: R, h => by rw [pcs_cons, pcs_cons, (h r (by simp)).1, (h r (by simp)).2, pcs_congr fun s hs => h s (by simp [hs])]
theorem pcs_set_even {V V' E : Int → List Int} : ∀ {R : List Int} {n : Nat}, n < R.length → (∀ m, m < R.length → m ≠ n → V' (R.getD m 0) = V (R.getD m 0)) → pcs V' E R = (pcs V E R).set (n * 2) (.row (V' (R.getD n 0)))
 | [], n, h, _ => by simp at h
 | r :: R, 0, _, hm => by
  rw [pcs_cons, pcs_cons]
  show _ :: _ :: _ = _ :: _ :: _
  congr 2
  refine pcs_congr fun s hs => ⟨?_, rfl⟩
  obtain ⟨i, hi, e⟩ := List.getElem_of_mem hs
  have := hm (i + 1) (by simpa using hi) (by omega)
  simpa [List.getD, hi, e] using this
 | r :: R, n + 1, h, hm => by
  have ih := pcs_set_even (V := V) (V' := V') (E := E) (R := R) (n := n) (by simpa using h) (fun m hm1 hm2 => by simpa using hm (m + 1) (by simpa using hm1) (by omega))
  have h0 := hm 0 (by simp) (by omega)
  rw [pcs_cons, pcs_cons, ih, show (n + 1) * 2 = n * 2 + 1 + 1 by omega, List.set_cons_succ, List.set_cons_succ]
  simp at h0
  rw [h0]
  rfl
theorem pcs_set_odd {V E E' : Int → List Int} : ∀ {R : List Int} {n : Nat}, n < R.length → (∀ m, m < R.length → m ≠ n → E' (R.getD m 0) = E (R.getD m 0)) → pcs V E' R = (pcs V E R).set (n * 2 + 1) (.row (E' (R.getD n 0)))
 | [], n, h, _ => by simp at h
 | r :: R, 0, _, hm => by
  rw [pcs_cons, pcs_cons]
  show _ :: _ :: _ = _ :: _ :: _
  congr 2
  refine pcs_congr fun s hs => ⟨rfl, ?_⟩
  obtain ⟨i, hi, e⟩ := List.getElem_of_mem hs
  have := hm (i + 1) (by simpa using hi) (by omega)
  simpa [List.getD, hi, e] using this
 | r :: R, n + 1, h, hm => by
  have ih := pcs_set_odd (V := V) (E := E) (E' := E') (R := R) (n := n) (by simpa using h) (fun m hm1 hm2 => by simpa using hm (m + 1) (by simpa using hm1) (by omega))
  have h0 := hm 0 (by simp) (by omega)
  rw [pcs_cons, pcs_cons, ih, show (n + 1) * 2 + 1 = (n * 2 + 1) + 1 + 1 by omega, List.set_cons_succ, List.set_cons_succ]
  simp at h0
  rw [h0]
  rfl
namespace Plain
open Classical in
noncomputable def rootsTo (g : Gr) (p : Pt) (k : Nat) : List Int := (p.v.take k).filter fun v => decide (∀ u ∈ p.v, Come g p (-1) v u → v ≤ u)
theorem rootsTo_zero (g : Gr) (p : Pt) : rootsTo g p 0 = [] := by simp [rootsTo]
theorem rootsTo_all (g : Gr) (p : Pt) : rootsTo g p p.v.length = roots g p := by unfold rootsTo roots; rw [List.take_length]
open Classical in
theorem rootsTo_mem {g : Gr} {p : Pt} {k : Nat} {r : Int} (h : r ∈ rootsTo g p k) : r ∈ roots g p ∧ r ∈ p.v.take k := by
 unfold rootsTo at h
 obtain ⟨h1, h2⟩ := List.mem_filter.1 h
 exact ⟨mem_roots.2 ⟨List.mem_of_mem_take h1, of_decide_eq_true h2⟩, h1⟩
open Classical in
theorem rootsTo_snoc {g : Gr} {p : Pt} {k : Nat} (hk : k < p.v.length) (h : p.v.getD k 0 ∈ roots g p) : rootsTo g p (k + 1) = rootsTo g p k ++ [p.v.getD k 0] := by
 unfold rootsTo
 have e : p.v.take (k + 1) = p.v.take k ++ [p.v.getD k 0] := by rw [List.take_succ_eq_append_getElem hk]; simp [List.getD, hk]
 rw [e, List.filter_append]
 congr 1
 rw [List.filter_cons_of_pos (by exact decide_eq_true (mem_roots.1 h).2), List.filter_nil]
open Classical in
theorem rootsTo_same {g : Gr} {p : Pt} {k : Nat} (hk : k < p.v.length) (h : p.v.getD k 0 ∉ roots g p) : rootsTo g p (k + 1) = rootsTo g p k := by
 unfold rootsTo
 have e : p.v.take (k + 1) = p.v.take k ++ [p.v.getD k 0] := by rw [List.take_succ_eq_append_getElem hk]; simp [List.getD, hk]
 have hv : p.v.getD k 0 ∈ p.v := by simp [List.getD, hk]
 rw [e, List.filter_append, List.filter_cons_of_neg (by
  intro q
  exact h (mem_roots.2 ⟨hv, of_decide_eq_true q⟩)), List.filter_nil, List.append_nil]
theorem rootsTo_len (g : Gr) (p : Pt) (k : Nat) : (rootsTo g p k).length ≤ p.v.length := by
 unfold rootsTo
 exact Nat.le_trans (List.length_filter_le _ _) (by rw [List.length_take]; omega)
theorem getD_mem {l : List Int} {n : Nat} (h : n < l.length) : l.getD n 0 ∈ l := by simp [List.getD, h]
def PieceMap (g : Gr) (p : Pt) (R : List Int) (f : Int → Option Int) : Prop := ∀ y i, f y = some i ↔ ∃ n : Nat, i = (n : Int) ∧ n < R.length ∧ Come g p (-1) (R.getD n 0) y
theorem PieceMap.start (g : Gr) (p : Pt) : PieceMap g p [] (fun _ => none) := fun y i => by simp
open Classical in
theorem PieceMap.root {g : Gr} {p : Pt} {k : Nat} {f : Int → Option Int} (hp : PartOk g p) (hr : p.v.Pairwise (· < ·)) (h : PieceMap g p (rootsTo g p k) f) (hk : k < p.v.length) (hf : f (p.v.getD k 0) = none) : p.v.getD k 0 ∈ roots g p := by
 obtain ⟨r, hr1, hc⟩ := root_of (g := g) (fun v hv => (hp.vr v hv).1) (getD_mem hk)
 have hle := (mem_roots.1 hr1).2 _ (getD_mem hk) hc
 by_cases e : r = p.v.getD k 0
 ·rw [← e]; exact hr1
 exfalso
 have hrv := (mem_roots.1 hr1).1
 obtain ⟨j, hj, hje⟩ := mem_getD hrv
 have hjk : j < k := by
  rcases Nat.lt_or_ge j k with q | q
  ·exact q
  exfalso
  rcases Nat.eq_or_lt_of_le q with q | q
  ·subst q; exact e hje.symm
  have := List.pairwise_iff_getElem.1 hr k j hk hj q
  simp [List.getD, hk, hj] at hje hle
  omega
 have hm : r ∈ rootsTo g p k := by
  unfold rootsTo
  refine List.mem_filter.2 ⟨?_, decide_eq_true (mem_roots.1 hr1).2⟩
  rw [← hje]
  have : (p.v.take k)[j]? = some p.v[j] := by rw [List.getElem?_take, if_pos hjk, List.getElem?_eq_getElem hj]
  have e2 : p.v.getD j 0 = p.v[j] := by simp [List.getD, hj]
  rw [e2]
  exact List.mem_of_getElem? this
 obtain ⟨n, hn, hne⟩ := mem_getD hm
 have := (h (p.v.getD k 0) (n : Int)).2 ⟨n, rfl, hn, by rw [hne]; exact hc⟩
 rw [hf] at this
 cases this
theorem PieceMap.known {g : Gr} {p : Pt} {k : Nat} {f : Int → Option Int} (hp : PartOk g p) (h : PieceMap g p (rootsTo g p k) f) (hk : k < p.v.length) {i : Int} (hf : f (p.v.getD k 0) = some i) : p.v.getD k 0 ∉ roots g p := by
 intro hr
 obtain ⟨n, -, hn, hc⟩ := (h _ _).1 hf
 have hm := rootsTo_mem (getD_mem hn)
 have e := root_one (fun v hv => (hp.vr v hv).1) hm.1 hr hc .here
 have h2 := hm.2
 rw [e] at h2
 have hnd := hp.vn
 rw [← List.take_append_drop k p.v, List.nodup_append] at hnd
 have : p.v.getD k 0 ∈ p.v.drop k := by
  have e2 : p.v.getD k 0 = p.v[k] := by simp [List.getD, hk]
  rw [e2, List.drop_eq_getElem_cons hk]
  exact List.mem_cons_self
 exact hnd.2.2 _ h2 _ this rfl
theorem PieceMap.add {g : Gr} {p : Pt} {R : List Int} {f f' : Int → Option Int} (hp : PartOk g p) (h : PieceMap g p R f) (hR : ∀ r ∈ R, r ∈ roots g p) {v : Int} (hv : v ∈ roots g p) (hn : v ∉ R)
  (h1 : ∀ y, Come g p (-1) v y → f' y = some (R.length : Int)) (h2 : ∀ y, ¬ Come g p (-1) v y → f' y = f y) : PieceMap g p (R ++ [v]) f' := by
 intro y i
 have gl : ∀ n, n < R.length → (R ++ [v]).getD n 0 = R.getD n 0 := fun n hn => by simp [List.getD, List.getElem?_append_left hn]
 have gr : (R ++ [v]).getD R.length 0 = v := by simp [List.getD]
 by_cases hc : Come g p (-1) v y
 ·rw [h1 y hc]
  constructor
  ·intro e
   cases e
   exact ⟨R.length, rfl, by simp, by rw [gr]; exact hc⟩
  rintro ⟨n, rfl, hn1, hn2⟩
  by_cases e : n < R.length
  ·rw [gl n e] at hn2
   exact absurd (root_one (fun v hv => (hp.vr v hv).1) (hR _ (getD_mem e)) hv hn2 hc ▸ getD_mem e) hn
  have : n = R.length := by simp at hn1; omega
  rw [this]
 rw [h2 y hc, h y i]
 constructor
 ·rintro ⟨n, rfl, hn1, hn2⟩
  exact ⟨n, rfl, by simp; omega, by rw [gl n hn1]; exact hn2⟩
 rintro ⟨n, rfl, hn1, hn2⟩
 by_cases e : n < R.length
 ·rw [gl n e] at hn2
  exact ⟨n, rfl, e, hn2⟩
 have e2 : n = R.length := by simp at hn1; omega
 rw [e2, gr] at hn2
 exact absurd hn2 hc
noncomputable def vOf (g : Gr) (p : Pt) (k : Nat) (r : Int) : List Int := (p.v.take k).filter fun v => decide (v ∈ comp g p r)
noncomputable def eOf (g : Gr) (p : Pt) (k : Nat) (r : Int) : List Int := (p.e.take k).filter fun e => decide (g.tail (2 * e) ∈ comp g p r)
theorem take_snoc' {l : List Int} {j : Nat} (hj : j < l.length) : l.take (j + 1) = l.take j ++ [l.getD j 0] := by
 rw [List.take_succ_eq_append_getElem hj]
 simp [List.getD, hj]
theorem vOf_in {g : Gr} {p : Pt} {k : Nat} {r : Int} (hk : k < p.v.length) (h : p.v.getD k 0 ∈ comp g p r) : vOf g p (k + 1) r = vOf g p k r ++ [p.v.getD k 0] := by
 unfold vOf
 rw [take_snoc' hk, List.filter_append, List.filter_cons_of_pos (by simpa using h), List.filter_nil]
theorem vOf_out {g : Gr} {p : Pt} {k : Nat} {r : Int} (hk : k < p.v.length) (h : p.v.getD k 0 ∉ comp g p r) : vOf g p (k + 1) r = vOf g p k r := by
 unfold vOf
 rw [take_snoc' hk, List.filter_append, List.filter_cons_of_neg (by simpa using h), List.filter_nil, List.append_nil]
theorem eOf_in {g : Gr} {p : Pt} {k : Nat} {r : Int} (hk : k < p.e.length) (h : g.tail (2 * p.e.getD k 0) ∈ comp g p r) : eOf g p (k + 1) r = eOf g p k r ++ [p.e.getD k 0] := by
 unfold eOf
 rw [take_snoc' hk, List.filter_append, List.filter_cons_of_pos (by simpa using h), List.filter_nil]
theorem eOf_out {g : Gr} {p : Pt} {k : Nat} {r : Int} (hk : k < p.e.length) (h : g.tail (2 * p.e.getD k 0) ∉ comp g p r) : eOf g p (k + 1) r = eOf g p k r := by
 unfold eOf
 rw [take_snoc' hk, List.filter_append, List.filter_cons_of_neg (by simpa using h), List.filter_nil, List.append_nil]
theorem comp_one {g : Gr} {p : Pt} (hp : PartOk g p) {R : List Int} (hR : ∀ r ∈ R, r ∈ roots g p) (hn : R.Nodup) {v : Int} {n m : Nat} (h1 : n < R.length) (h2 : m < R.length) (hc : Come g p (-1) (R.getD n 0) v) (hm : v ∈ comp g p (R.getD m 0)) : m = n := by
 have e := root_one (fun v hv => (hp.vr v hv).1) (hR _ (getD_mem h1)) (hR _ (getD_mem h2)) hc (mem_comp.1 hm).2
 refine Classical.byContradiction fun hne => ?_
 have q := List.pairwise_iff_getElem.1 hn
 simp only [List.getD, List.getElem?_eq_getElem h1, List.getElem?_eq_getElem h2, Option.getD_some] at e
 rcases Nat.lt_or_ge n m with w | w
 ·exact q n m h1 h2 w e
 exact q m n h2 h1 (by omega) e.symm
theorem rootsTo_nodup {g : Gr} {p : Pt} (hp : PartOk g p) (k : Nat) : (rootsTo g p k).Nodup := by
 unfold rootsTo
 exact ((List.take_sublist k p.v).nodup hp.vn).filter _
theorem new_v {g : Gr} {p : Pt} (hp : PartOk g p) {k : Nat} (hk : k < p.v.length) : p.v.getD k 0 ∉ p.v.take k := by
 intro h2
 have hnd := hp.vn
 rw [← List.take_append_drop k p.v, List.nodup_append] at hnd
 have : p.v.getD k 0 ∈ p.v.drop k := by
  have e2 : p.v.getD k 0 = p.v[k] := by simp [List.getD, hk]
  rw [e2, List.drop_eq_getElem_cons hk]
  exact List.mem_cons_self
 exact hnd.2.2 _ h2 _ this rfl
theorem vOf_root {g : Gr} {p : Pt} (hr : p.v.Pairwise (· < ·)) {k : Nat} (hk : k < p.v.length) (h : p.v.getD k 0 ∈ roots g p) : vOf g p k (p.v.getD k 0) = [] := by
 unfold vOf
 rw [List.filter_eq_nil_iff]
 intro u hu hc
 have hc := (mem_comp.1 (of_decide_eq_true hc))
 have h1 := (mem_roots.1 h).2 u hc.1 hc.2
 obtain ⟨j, hj, e⟩ := List.getElem_of_mem hu
 rw [List.length_take] at hj
 rw [List.getElem_take] at e
 have := List.pairwise_iff_getElem.1 hr j k (by omega) hk (by omega)
 simp [List.getD, hk] at h1
 omega
theorem eOf_zero (g : Gr) (p : Pt) (r : Int) : eOf g p 0 r = [] := by simp [eOf]
open Classical in
theorem vOf_all (g : Gr) (p : Pt) (r : Int) : vOf g p p.v.length r = comp g p r := by
 unfold vOf
 rw [List.take_length]
 conv => rhs; unfold comp
 refine List.filter_congr fun v hv => ?_
 have := mem_comp (g := g) (p := p) (a := r) (u := v)
 simp [this, hv]
theorem eOf_all {g : Gr} {p : Pt} (h : PartOk g p) (r : Int) : eOf g p p.e.length r = (p.sub g (comp g p r)).e := by
 unfold eOf
 rw [List.take_length, sub_edges h r]
end Plain
end Go.Proofs.Ytckjpaimbmlboaa
