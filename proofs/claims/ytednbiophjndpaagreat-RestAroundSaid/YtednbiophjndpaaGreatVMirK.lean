/- The mirror's lists, as they are made: the walks' keys turned about; the mirror of what is left. No program here. -/
import Derived.Test.YtednbiophjndpaaGreatVLand
namespace Go.Proofs.YtednbiophjndpaaGreat.Plain
def leastTo (k0 : Int) (l : List Int) : Nat → Int
 | 0 => k0
 | j + 1 => if j = 0 ∨ twin (l.getD j 0) < leastTo k0 l j then twin (l.getD j 0) else leastTo k0 l j
def kmOf (f : Face) : Int := leastTo f.1 f.2 f.2.length
def kmAt (W : List Face) (y : Int) : Option Int := (W.find? fun f => decide (f.1 = y)).map kmOf
def mirList (W : List Face) (l : List Int) : List Int := (l.map fun k => (kmAt W k).getD 0).mergeSort fun x y => decide (x ≤ y)
theorem leastTo_ok (k0 : Int) (l : List Int) : ∀ j, j < l.length → (∃ i, i ≤ j ∧ leastTo k0 l (j + 1) = twin (l.getD i 0)) ∧ ∀ i, i ≤ j → leastTo k0 l (j + 1) ≤ twin (l.getD i 0)
 | 0, _ => by
  have e : leastTo k0 l 1 = twin (l.getD 0 0) := if_pos (Or.inl rfl)
  refine ⟨⟨0, Nat.le_refl _, e⟩, fun i hi => ?_⟩
  have : i = 0 := by omega
  subst this
  show leastTo k0 l 1 ≤ _
  rw [e]
  exact Int.le_refl _
 | j + 1, hj => by
  obtain ⟨⟨i0, hi0, e0⟩, h0⟩ := leastTo_ok k0 l j (by omega)
  have e : leastTo k0 l (j + 1 + 1) = if j + 1 = 0 ∨ twin (l.getD (j + 1) 0) < leastTo k0 l (j + 1) then twin (l.getD (j + 1) 0) else leastTo k0 l (j + 1) := rfl
  by_cases h : twin (l.getD (j + 1) 0) < leastTo k0 l (j + 1)
  ·rw [e, if_pos (Or.inr h)]
   refine ⟨⟨j + 1, Nat.le_refl _, rfl⟩, fun i hi => ?_⟩
   by_cases q : i = j + 1
   ·subst q; omega
   have := h0 i (by omega); omega
  rw [e, if_neg (by omega)]
  refine ⟨⟨i0, by omega, e0⟩, fun i hi => ?_⟩
  by_cases q : i = j + 1
  ·subst q; omega
  exact h0 i (by omega)
theorem kmOf_nil {f : Face} (h : f.2 = []) : kmOf f = f.1 := by unfold kmOf; rw [h]; rfl
theorem kmOf_ok {f : Face} (h : f.2 ≠ []) : (∃ d ∈ f.2, kmOf f = twin d) ∧ ∀ d ∈ f.2, kmOf f ≤ twin d := by
 have hl : 0 < f.2.length := List.length_pos_iff.2 h
 obtain ⟨j, hj⟩ : ∃ j, f.2.length = j + 1 := ⟨f.2.length - 1, by omega⟩
 obtain ⟨⟨i, hi, e⟩, h2⟩ := leastTo_ok f.1 f.2 j (by omega)
 unfold kmOf
 rw [hj]
 refine ⟨⟨f.2.getD i 0, getD_mem (by omega), e⟩, fun d hd => ?_⟩
 obtain ⟨n, hn, rfl⟩ := mem_getD hd
 exact h2 n (by omega)
theorem find_key {W : List Face} (hk : (W.map (·.1)).Pairwise (· < ·)) {f : Face} (hf : f ∈ W) : W.find? (fun x => decide (x.1 = f.1)) = some f := by
 cases e : W.find? (fun x => decide (x.1 = f.1)) with
 | none => exact absurd (List.find?_eq_none.1 e f hf) (by simp)
 | some x =>
  have h1 := List.mem_of_find?_eq_some e
  have h3 := List.find?_some e
  have h2 : x.1 = f.1 := by simpa using h3
  rw [key_face hk h1 hf h2]
theorem kmAt_key {W : List Face} (hk : (W.map (·.1)).Pairwise (· < ·)) {f : Face} (hf : f ∈ W) : kmAt W f.1 = some (kmOf f) := by
 unfold kmAt
 rw [find_key hk hf]; rfl
theorem kmAt_step {W : List Face} (hk : (W.map (·.1)).Pairwise (· < ·)) {k : Nat} (hlt : k < W.length) : (fun y => if y = (W.getD k (0, [])).1 then some (kmOf (W.getD k (0, []))) else kmAt (W.take k) y) = kmAt (W.take (k + 1)) := by
 have e : W.getD k (0, []) = W[k] := by simp [List.getD, hlt]
 have ht : W.take (k + 1) = W.take k ++ [W.getD k (0, [])] := by rw [e]; simp
 funext y
 unfold kmAt
 rw [ht, List.find?_append]
 by_cases h : y = (W.getD k (0, [])).1
 ·have hn : (W.take k).find? (fun f => decide (f.1 = y)) = none := by
   rw [List.find?_eq_none]
   intro f hf
   obtain ⟨i, hi, rfl⟩ := List.getElem_of_mem hf
   rw [List.length_take] at hi
   rw [List.getElem_take]
   rw [List.pairwise_map] at hk
   have := List.pairwise_iff_getElem.1 hk i k (by omega) hlt (by omega)
   rw [h, e]
   simp only [decide_eq_true_eq]
   omega
  rw [if_pos h, hn]
  simp [h]
 rw [if_neg h]
 have hn : [W.getD k (0, [])].find? (fun f => decide (f.1 = y)) = none := by
  rw [List.find?_cons_of_neg (by simpa using fun q => h q.symm)]; rfl
 rw [hn]; simp
section
variable {g : Gr} {p q : Pt} {turn same : List (List Int)}
theorem key_least (hpe : p.err g = 0) (ht : TurnsOk g p turn) {f : Face} (hf : f ∈ walksOf g p turn) {x : Int} (hx : x ∈ marks f) : f.1 ≤ x := by
 rw [← mins_walks hpe ht] at hf
 rcases List.mem_append.1 hf with q | q
 ·obtain ⟨v, hv, rfl⟩ := List.mem_map.1 q
  rw [marks_nil rfl] at hx
  have : x = -1 - v := by simpa using hx
  omega
 obtain ⟨h1, h2, h3⟩ := min_of_mem q
 rw [marks_some (by rw [h3]; simp), h3] at hx
 rcases List.mem_cons.1 hx with e | hx
 ·omega
 unfold minAt at h2
 have := of_decide_eq_true (List.all_eq_true.1 h2 x hx)
 omega
theorem face_one (hpe : p.err g = 0) (ht : TurnsOk g p turn) {f x : Face} (hf : f ∈ walksOf g p turn) (hx : x ∈ walksOf g p turn) {y : Int} (h1 : y ∈ marks f) (h2 : y ∈ marks x) : f = x := by
 obtain ⟨w1, -⟩ := own_rings hpe ht
 have e := list_one w1.nodup (marks_ground hpe ht hf).1 (marks_ground hpe ht hx).1 h1 h2
 have a := key_least hpe ht hf (x := x.1) (by rw [e]; exact (key_mark hpe ht hx).1)
 have b := key_least hpe ht hx (x := f.1) (by rw [← e]; exact (key_mark hpe ht hf).1)
 exact key_face (walks_keys hpe (walks_ok hpe ht)) hf hx (by omega)
theorem same_marks (hpe : p.err g = 0) (ht : TurnsOk g p turn) {f : Face} (hf : f ∈ walksOf g p turn) {x y : Int} (hx : x ∈ marks f) (h : Same (walksIn g (walksOf g p turn) p.v) x y) : y ∈ marks f := by
 obtain ⟨w1, -⟩ := own_rings hpe ht
 rcases h with e | ⟨c, hc, h1, h2⟩
 ·rw [← e]; exact hx
 rw [list_one w1.nodup (marks_ground hpe ht hf).1 hc hx h1]; exact h2
theorem mir_face (hz : planErr g p turn same = 0) {f : Face} (hf : f ∈ walksOf g p turn) : ∃ x ∈ walksOf g p (mirTurn turn), x.1 = kmOf f ∧ mirCls g p turn same x = cls g p turn same f ∧ ∀ y ∈ marks f, tau y ∈ marks x := by
 obtain ⟨hpe, hto⟩ := zero_ok hz
 have h := Pt.ok_of_err hpe
 have hm := mirTurn_ok hto
 have hW := walks_ok hpe hto
 have hkm : ∃ d ∈ marks f, kmOf f = tau d ∧ ∀ y ∈ marks f, kmOf f ≤ tau y := by
  by_cases e : f.2 = []
  ·obtain ⟨v, hv, -, e1⟩ := lone_of hW.faces hf e
   have h0 := (h.vr v hv).1
   have ht : tau f.1 = f.1 := tau_key (by omega)
   refine ⟨f.1, by rw [marks_nil e]; simp, by rw [kmOf_nil e, ht], fun y hy => ?_⟩
   rw [marks_nil e] at hy
   have : y = f.1 := by simpa using hy
   rw [this, kmOf_nil e, ht]
   exact Int.le_refl _
  obtain ⟨⟨d, hd, e1⟩, h2⟩ := kmOf_ok e
  have hdd : ∀ d ∈ f.2, d ∈ p.darts := fun d hd => (walk_const h hto hW.faces (Stretch.all h).closed hf hd).1
  rw [marks_some e]
  refine ⟨d, hd, by rw [tau_dart h (hdd d hd), e1], fun y hy => ?_⟩
  rw [tau_dart h (hdd y hy)]
  exact h2 y hy
 obtain ⟨d, hd, e1, h2⟩ := hkm
 have hdK := (marks_ground hpe hto hf).2 d hd
 obtain ⟨x, hx, hxm⟩ := mark_of hpe hm ((mir_ground (turn := turn) h).2 (tau_ground h hdK))
 have hall : ∀ y ∈ marks f, tau y ∈ marks x := fun y hy => same_marks hpe hm hx hxm (same_mir hpe hto (Or.inr ⟨marks f, (marks_ground hpe hto hf).1, hd, hy⟩))
 have hkx := key_mark hpe hm hx
 have hx1 : tau x.1 ∈ marks f := by
  have := mir_same hpe hto (Or.inr ⟨marks x, (marks_ground hpe hm hx).1, hxm, hkx.1⟩)
  rw [tau_tau] at this
  exact same_marks hpe hto hf hd this
 refine ⟨x, hx, ?_, ?_, hall⟩
 ·have a := key_least hpe hm hx hxm
  have b := h2 _ hx1
  rw [tau_tau] at b
  omega
 unfold mirCls
 exact lof_cls hz hf hx1
theorem mir_back (hz : planErr g p turn same = 0) {x : Face} (hx : x ∈ walksOf g p (mirTurn turn)) : ∃ f ∈ walksOf g p turn, x.1 = kmOf f ∧ mirCls g p turn same x = cls g p turn same f := by
 obtain ⟨hpe, hto⟩ := zero_ok hz
 have hm := mirTurn_ok hto
 obtain ⟨k1, k2⟩ := mir_key hz hx
 obtain ⟨f, hf, hfm⟩ := mark_of hpe hto k2
 obtain ⟨y, hy, e1, e2, e3⟩ := mir_face hz hf
 have := e3 _ hfm
 rw [tau_tau] at this
 have hxy := face_one hpe hm hx hy (key_mark hpe hm hx).1 this
 subst hxy
 exact ⟨f, hf, e1, e2⟩
theorem mirList_rise {l : List Int} (h : (l.map fun k => (kmAt (walksOf g p turn) k).getD 0).Nodup) : (mirList (walksOf g p turn) l).Pairwise (· < ·) := by
 have hs := List.pairwise_mergeSort (le := fun a b : Int => decide (a ≤ b)) (fun a b c h1 h2 => by simp only [decide_eq_true_eq] at h1 h2 ⊢; omega) (fun a b => by simp only [Bool.or_eq_true, decide_eq_true_eq]; omega) (l.map fun k => (kmAt (walksOf g p turn) k).getD 0)
 have hn : (mirList (walksOf g p turn) l).Nodup := (List.mergeSort_perm _ _).nodup_iff.2 h
 unfold mirList at hn ⊢
 exact List.Pairwise.imp₂ (fun a b h1 (h2 : a ≠ b) => by have := of_decide_eq_true h1; omega) hs hn
theorem mir_region (hz : planErr g p turn same = 0) {i : Nat} (hi : i < (regionsOf g p turn same).length) (hrise : ((regionsOf g p turn same).getD i []).Pairwise (· < ·)) : mirList (walksOf g p turn) ((regionsOf g p turn same).getD i []) = keysAt (mirCls g p turn same) (walksOf g p (mirTurn turn)) i := by
 obtain ⟨hpe, hto⟩ := zero_ok hz
 have hm := mirTurn_ok hto
 have hpt := parted hz (walks_ok hpe hto)
 have hk := walks_keys hpe (walks_ok hpe hto)
 have hkm := walks_keys hpe (walks_ok hpe hm)
 have inj : ∀ {f x : Face}, f ∈ walksOf g p turn → x ∈ walksOf g p turn → kmOf f = kmOf x → f = x := by
  intro f x hf hx e
  obtain ⟨y, hy, a1, -, a3⟩ := mir_face hz hf
  obtain ⟨z, hzz, b1, -, b3⟩ := mir_face hz hx
  have hyz : y = z := key_face hkm hy hzz (by rw [a1, b1, e])
  subst hyz
  obtain ⟨k1, k2⟩ := mir_key hz hy
  have w := mir_same hpe hto (x := tau f.1) (y := tau x.1) (Or.inr ⟨marks y, (marks_ground hpe hm hy).1, a3 _ (key_mark hpe hto hf).1, b3 _ (key_mark hpe hto hx).1⟩)
  rw [tau_tau, tau_tau] at w
  exact face_one hpe hto hf hx (same_marks hpe hto hf (key_mark hpe hto hf).1 w) (key_mark hpe hto hx).1
 have hfaces : ∀ k ∈ (regionsOf g p turn same).getD i [], ∃ f ∈ walksOf g p turn, f.1 = k ∧ cls g p turn same f = i := by
  intro k hkr
  obtain ⟨f, hf, e1, e2⟩ := keysAt_mem.1 ((cls_keys hpt hi k).2 hkr)
  exact ⟨f, hf, e2, e1⟩
 refine rise_ext (mirList_rise ?_) (keysAt_rise hkm _) fun y => ?_
 ·rw [List.Nodup, List.pairwise_map]
  refine hrise.imp_of_mem fun {a b} ha hb hlt e => ?_
  obtain ⟨f, hf, e1, -⟩ := hfaces a ha
  obtain ⟨x, hx, e2, -⟩ := hfaces b hb
  rw [← e1, ← e2, kmAt_key hk hf, kmAt_key hk hx] at e
  have := inj hf hx e
  rw [this] at e1
  omega
 rw [keysAt_mem]
 unfold mirList
 rw [(List.mergeSort_perm _ _).mem_iff, List.mem_map]
 constructor
 ·rintro ⟨k, hkr, rfl⟩
  obtain ⟨f, hf, e1, e2⟩ := hfaces k hkr
  obtain ⟨x, hx, a1, a2, -⟩ := mir_face hz hf
  refine ⟨x, hx, by rw [a2, e2], ?_⟩
  rw [← e1, kmAt_key hk hf, a1]; rfl
 rintro ⟨x, hx, e1, rfl⟩
 obtain ⟨f, hf, a1, a2⟩ := mir_back hz hx
 refine ⟨f.1, (cls_keys hpt hi _).1 (keysAt_mem.2 ⟨f, hf, by rw [← a2, e1], rfl⟩), ?_⟩
 rw [kmAt_key hk hf, a1]; rfl
theorem mir_lists (hz : planErr g p turn same = 0) {C : List (List Int)} (hp : C.Perm (same.map (mirList (walksOf g p turn)))) (hs : C.Pairwise fun a b => a.getD 0 0 ≤ b.getD 0 0) : C = mirSame g p turn same := by
 obtain ⟨hpe, hto⟩ := zero_ok hz
 have hm := mirTurn_ok hto
 have hpt := parted hz (walks_ok hpe hto)
 have hkm := walks_keys hpe (walks_ok hpe hm)
 have hix : ∀ l ∈ same, ∃ i, i < (regionsOf g p turn same).length ∧ (regionsOf g p turn same).getD i [] = l := by
  intro l hl
  have hla : l ∈ regionsOf g p turn same := (regs_ok hpt).perm.mem_iff.2 (List.mem_append.2 (Or.inl hl))
  obtain ⟨i, hi, e⟩ := List.getElem_of_mem hla
  exact ⟨i, hi, by simp [List.getD, hi, e]⟩
 have hlist : ∀ l ∈ same, ∃ i, i < (regionsOf g p turn same).length ∧ (regionsOf g p turn same).getD i [] = l ∧ mirList (walksOf g p turn) l = keysAt (mirCls g p turn same) (walksOf g p (mirTurn turn)) i := by
  intro l hl
  obtain ⟨i, hi, e⟩ := hix l hl
  refine ⟨i, hi, e, ?_⟩
  have := mir_region hz hi (by rw [e]; exact hpt.rise l hl)
  rw [e] at this
  exact this
 have hlen : ∀ l, (mirList (walksOf g p turn) l).length = l.length := fun l => by
  unfold mirList
  rw [(List.mergeSort_perm _ _).length_eq, List.length_map]
 refine grps_of hkm ?_ (fun l => ?_) hp hs
 ·rw [List.Nodup, List.pairwise_map]
  refine (same_heads hz).imp_of_mem fun {a b} ha hb hlt e => ?_
  obtain ⟨i, hi, e1, e2⟩ := hlist a ha
  obtain ⟨j, hj, e3, e4⟩ := hlist b hb
  have ha2 := hpt.two a ha
  have hl1 := hlen a
  rw [e2] at hl1
  obtain ⟨y, hy⟩ : ∃ y, y ∈ keysAt (mirCls g p turn same) (walksOf g p (mirTurn turn)) i := by
   cases e : keysAt (mirCls g p turn same) (walksOf g p (mirTurn turn)) i with
   | nil => rw [e] at hl1; simp at hl1; omega
   | cons y m => exact ⟨y, by simp⟩
  have hy2 : y ∈ keysAt (mirCls g p turn same) (walksOf g p (mirTurn turn)) j := by rw [← e4, ← e, e2]; exact hy
  obtain ⟨f, hf, a1, a2⟩ := keysAt_mem.1 hy
  obtain ⟨x, hx, b1, b2⟩ := keysAt_mem.1 hy2
  have hfx := key_face hkm hf hx (a2.trans b2.symm)
  subst hfx
  rw [a1] at b1
  have hij : i = j := Int.ofNat.inj b1
  subst hij
  rw [← e1, ← e3] at hlt
  omega
 constructor
 ·intro hl
  obtain ⟨m, hm2, rfl⟩ := List.mem_map.1 hl
  obtain ⟨i, hi, e1, e2⟩ := hlist m hm2
  exact ⟨i, e2, by rw [hlen]; have := hpt.two m hm2; omega⟩
 rintro ⟨h, e, h1⟩
 have hne : l ≠ [] := by intro q; rw [q] at h1; simp at h1
 obtain ⟨y, hy⟩ := List.exists_mem_of_ne_nil _ hne
 rw [e] at hy
 obtain ⟨x, hx, a1, a2⟩ := keysAt_mem.1 hy
 obtain ⟨f, hf, b1, b2⟩ := mir_back hz hx
 obtain ⟨i, hi, hfi, ei⟩ := cls_has hpt hf
 have hh : h = i := by rw [← a1, b2, ei]
 subst hh
 have hg : (regionsOf g p turn same).getD i [] = (regionsOf g p turn same)[i] := by simp [List.getD, hi]
 have hmem : (regionsOf g p turn same).getD i [] ∈ allRegs g p turn same := (regs_ok hpt).perm.mem_iff.1 (by rw [hg]; exact List.getElem_mem hi)
 rcases List.mem_append.1 hmem with q | q
 ·refine List.mem_map.2 ⟨_, q, ?_⟩
  rw [e]
  exact mir_region hz hi (hpt.rise _ q)
 exfalso
 unfold singles at q
 obtain ⟨f', -, e3⟩ := List.mem_map.1 q
 have hmr := mir_region hz hi (by rw [← e3]; simp)
 have := hlen ((regionsOf g p turn same).getD i [])
 rw [hmr, ← e, ← e3] at this
 simp at this
 omega
end
def hitM (f : Face) (k : Int) : Bool := decide (f.1 = tau k) || decide (tau k ∈ f.2)
def lkM (W : List Face) (s : List Int) : List Int := W.flatMap fun f => (s.filter (hitM f)).map fun _ => f.1
def refMir (W : List Face) (same : List (List Int)) : List (List Int) := W.flatMap fun f => (same.map (lkM W)).filter fun l => decide (0 < l.length) && decide (l.getD 0 0 = f.1)
theorem by_heads (D : List (List Int)) : ∀ {W : List Face}, (W.map (·.1)).Pairwise (· < ·) →
  (W.flatMap fun f => D.filter fun l => decide (0 < l.length) && decide (l.getD 0 0 = f.1)).Perm (D.filter fun l => decide (0 < l.length) && decide (l.getD 0 0 ∈ W.map (·.1))) ∧
  (W.flatMap fun f => D.filter fun l => decide (0 < l.length) && decide (l.getD 0 0 = f.1)).Pairwise fun a b => a.getD 0 0 ≤ b.getD 0 0
 | [], _ => by simp
 | f :: W, h => by
  rw [List.map_cons, List.pairwise_cons] at h
  obtain ⟨h1, h2⟩ := by_heads D h.2
  constructor
  ·rw [List.flatMap_cons]
   refine (List.Perm.append_left _ h1).trans ?_
   have e := List.filter_append_perm (fun l : List Int => decide (l.getD 0 0 = f.1)) (D.filter fun l => decide (0 < l.length) && decide (l.getD 0 0 ∈ (f :: W).map (·.1)))
   refine List.Perm.trans (List.Perm.of_eq ?_) e
   rw [List.filter_filter, List.filter_filter]
   congr 1
   ·refine List.filter_congr fun l _ => ?_
    rw [Bool.eq_iff_iff]
    simp only [Bool.and_eq_true, decide_eq_true_eq, List.map_cons, List.mem_cons]
    exact ⟨fun k => ⟨k.2, k.1, Or.inl k.2⟩, fun k => ⟨k.2.1, k.1⟩⟩
   refine List.filter_congr fun l _ => ?_
   rw [Bool.eq_iff_iff]
   simp only [Bool.and_eq_true, Bool.not_eq_true', decide_eq_true_eq, decide_eq_false_iff_not, List.map_cons, List.mem_cons]
   constructor
   ·exact fun k => ⟨fun q => by have := h.1 _ k.2; omega, k.1, Or.inr k.2⟩
   exact fun k => ⟨k.2.1, k.2.2.resolve_left k.1⟩
  rw [List.flatMap_cons, List.pairwise_append]
  refine ⟨?_, h2, fun a ha b hb => ?_⟩
  ·rw [List.pairwise_iff_getElem]
   intro i j hi hj _
   have ha := List.getElem_mem hi
   have hb := List.getElem_mem hj
   have e1 := (List.mem_filter.1 ha).2
   have e2 := (List.mem_filter.1 hb).2
   simp only [Bool.and_eq_true, decide_eq_true_eq] at e1 e2
   rw [e1.2, e2.2]; exact Int.le_refl _
  have e1 := (List.mem_filter.1 ha).2
  have e2 := (List.mem_filter.1 (h1.mem_iff.1 hb)).2
  simp only [Bool.and_eq_true, decide_eq_true_eq] at e1 e2
  have := h.1 _ e2.2
  rw [e1.2]; omega
section
variable {g : Gr} {p : Pt} {turn same : List (List Int)}
theorem hit_mark (hpe : p.err g = 0) (ht : TurnsOk g p turn) {f : Face} (hf : f ∈ walksOf g p turn) {k : Int} : hitM f k = true ↔ tau k ∈ marks f := by
 unfold hitM
 rw [Bool.or_eq_true, decide_eq_true_iff, decide_eq_true_iff]
 have hk := (key_mark hpe ht hf).1
 by_cases e : f.2 = []
 ·rw [marks_nil e, e]
  simp [eq_comm]
 rw [marks_some e] at hk ⊢
 exact ⟨fun h => h.elim (fun q => q ▸ hk) id, Or.inr⟩
theorem hit_one (hz : planErr g p turn same = 0) {i : Nat} (hi : i < (regionsOf g p turn same).length) (hrise : ((regionsOf g p turn same).getD i []).Pairwise (· < ·)) {f : Face} (hf : f ∈ walksOf g p (mirTurn turn)) :
  (((regionsOf g p turn same).getD i []).filter (hitM f)).map (fun _ => f.1) = if mirCls g p turn same f = i then [f.1] else [] := by
 obtain ⟨hpe, hto⟩ := zero_ok hz
 have hm := mirTurn_ok hto
 have hpt := parted hz (walks_ok hpe hto)
 have hk := walks_keys hpe (walks_ok hpe hto)
 obtain ⟨x, hx, a1, a2⟩ := mir_back hz hf
 obtain ⟨y, hy, b1, b2, b3⟩ := mir_face hz hx
 have hyf : y = f := key_face (walks_keys hpe (walks_ok hpe hm)) hy hf (b1.trans a1.symm)
 subst hyf
 have hit : ∀ k ∈ (regionsOf g p turn same).getD i [], hitM y k = true ↔ k = x.1 := by
  intro k hkr
  obtain ⟨z, hzw, e1, e2⟩ := keysAt_mem.1 ((cls_keys hpt hi k).2 hkr)
  subst e2
  rw [hit_mark hpe hm hf]
  constructor
  ·intro h
   have w := mir_same hpe hto (x := tau x.1) (y := tau z.1) (Or.inr ⟨marks y, (marks_ground hpe hm hf).1, b3 _ (key_mark hpe hto hx).1, h⟩)
   rw [tau_tau, tau_tau] at w
   have := face_one hpe hto hx hzw (same_marks hpe hto hx (key_mark hpe hto hx).1 w) (key_mark hpe hto hzw).1
   rw [this]
  intro h
  rw [h]
  exact b3 _ (key_mark hpe hto hx).1
 have hxr : x.1 ∈ (regionsOf g p turn same).getD i [] ↔ cls g p turn same x = i := by
  rw [← cls_keys hpt hi, keysAt_mem]
  constructor
  ·rintro ⟨z, hzw, e1, e2⟩
   have := key_face hk hzw hx e2
   rw [← this]; exact e1
  intro h; exact ⟨x, hx, h, rfl⟩
 have hfil : ((regionsOf g p turn same).getD i []).filter (hitM y) = ((regionsOf g p turn same).getD i []).filter fun k => decide (k = x.1) := List.filter_congr fun k hkr => by
  rw [Bool.eq_iff_iff, decide_eq_true_iff]; exact hit k hkr
 rw [hfil, a2]
 by_cases q : cls g p turn same x = i
 ·rw [if_pos q]
  have hin := hxr.2 q
  revert hin hrise
  generalize (regionsOf g p turn same).getD i [] = l
  intro hrise hin
  have hn : l.Nodup := hrise.imp fun h => by omega
  have : l.filter (fun k => decide (k = x.1)) = [x.1] := by
   have h2 := hn.filter fun k => decide (k = x.1)
   have h3 : ∀ k ∈ l.filter fun k => decide (k = x.1), k = x.1 := fun k hk => of_decide_eq_true (List.mem_filter.1 hk).2
   have h4 : x.1 ∈ l.filter fun k => decide (k = x.1) := List.mem_filter.2 ⟨hin, by simp⟩
   revert h2 h3 h4
   generalize l.filter (fun k => decide (k = x.1)) = m
   intro h2 h3 h4
   match m with
   | [] => simp at h4
   | [a] => rw [h3 a (by simp)]
   | a :: b :: m =>
    rw [h3 a (by simp), h3 b (by simp)] at h2
    simp at h2
  rw [this]; rfl
 rw [if_neg q]
 have : ((regionsOf g p turn same).getD i []).filter (fun k => decide (k = x.1)) = [] := List.filter_eq_nil_iff.2 fun k hkr h => q (hxr.1 (by rw [← of_decide_eq_true h]; exact hkr))
 rw [this]; rfl
theorem lk_region (hz : planErr g p turn same = 0) {i : Nat} (hi : i < (regionsOf g p turn same).length) (hrise : ((regionsOf g p turn same).getD i []).Pairwise (· < ·)) : lkM (walksOf g p (mirTurn turn)) ((regionsOf g p turn same).getD i []) = mirList (walksOf g p turn) ((regionsOf g p turn same).getD i []) := by
 rw [mir_region hz hi hrise]
 unfold lkM keysAt
 have : ∀ W : List Face, (∀ f ∈ W, f ∈ walksOf g p (mirTurn turn)) → (W.flatMap fun f => (((regionsOf g p turn same).getD i []).filter (hitM f)).map fun _ => f.1) = (W.filter fun x => decide (mirCls g p turn same x = i)).map (·.1) := by
  intro W
  induction W with
  | nil => intro _; rfl
  | cons f W ih =>
   intro h
   rw [List.flatMap_cons, ih (fun x hx => h x (List.mem_cons_of_mem _ hx)), hit_one hz hi hrise (h f (by simp))]
   by_cases q : mirCls g p turn same f = i
   ·rw [if_pos q, List.filter_cons_of_pos (by simpa using q)]; rfl
   rw [if_neg q, List.filter_cons_of_neg (by simpa using q)]; rfl
 exact this _ fun _ h => h
theorem ref_mir (hz : planErr g p turn same = 0) : refMir (walksOf g p (mirTurn turn)) same = mirSame g p turn same := by
 obtain ⟨hpe, hto⟩ := zero_ok hz
 have hm := mirTurn_ok hto
 have hpt := parted hz (walks_ok hpe hto)
 have hkm := walks_keys hpe (walks_ok hpe hm)
 have hsm : same.map (lkM (walksOf g p (mirTurn turn))) = same.map (mirList (walksOf g p turn)) := List.map_congr_left fun l hl => by
  have hla : l ∈ regionsOf g p turn same := (regs_ok hpt).perm.mem_iff.2 (List.mem_append.2 (Or.inl hl))
  obtain ⟨i, hi, e⟩ := List.getElem_of_mem hla
  have e2 : (regionsOf g p turn same).getD i [] = l := by simp [List.getD, hi, e]
  have := lk_region hz hi (by rw [e2]; exact hpt.rise l hl)
  rwa [e2] at this
 unfold refMir
 rw [hsm]
 obtain ⟨h1, h2⟩ := by_heads (same.map (mirList (walksOf g p turn))) hkm
 refine mir_lists hz (h1.trans (List.Perm.of_eq (List.filter_eq_self.2 fun l hl => ?_))) h2
 obtain ⟨s, hs, rfl⟩ := List.mem_map.1 hl
 have hla : s ∈ regionsOf g p turn same := (regs_ok hpt).perm.mem_iff.2 (List.mem_append.2 (Or.inl hs))
 obtain ⟨i, hi, e⟩ := List.getElem_of_mem hla
 have e2 : (regionsOf g p turn same).getD i [] = s := by simp [List.getD, hi, e]
 have hr := mir_region hz hi (by rw [e2]; exact hpt.rise s hs)
 rw [e2] at hr
 have hlen : (mirList (walksOf g p turn) s).length = s.length := by
  unfold mirList
  rw [(List.mergeSort_perm _ _).length_eq, List.length_map]
 have h2 := hpt.two s hs
 have h0 : 0 < (mirList (walksOf g p turn) s).length := by omega
 rw [Bool.and_eq_true, decide_eq_true_iff, decide_eq_true_iff]
 refine ⟨h0, ?_⟩
 have hm0 := getD_mem h0
 rw [hr] at hm0 ⊢
 obtain ⟨f, hf, -, e3⟩ := keysAt_mem.1 hm0
 exact List.mem_map.2 ⟨f, hf, e3⟩
def revTurn (turn : List (List Int)) : List (List Int) := turn.map List.reverse
theorem rev_first (turn : List (List Int)) : (revTurn turn).map first = mirTurn turn := by
 unfold revTurn mirTurn
 rw [List.map_map]; rfl
theorem revTurn_at (turn : List (List Int)) (v : Int) : turnAt (revTurn turn) v = (turnAt turn v).reverse := by
 unfold revTurn turnAt List.getD
 rw [List.getElem?_map]
 cases turn[v.toNat]? <;> simp
theorem revTurn_ok {g : Gr} {p : Pt} {turn : List (List Int)} (ht : TurnsOk g p turn) : TurnsOk g p (revTurn turn) := by
 refine ⟨by unfold revTurn; rw [List.length_map]; exact ht.len, fun v => ?_, fun v h0 hv d => ?_⟩
 ·rw [revTurn_at]; exact (List.reverse_perm _).nodup_iff.2 (ht.nodup v)
 rw [revTurn_at, List.mem_reverse]; exact ht.mem v h0 hv d
theorem rev_walks {g : Gr} {p : Pt} {turn : List (List Int)} (hpe : p.err g = 0) (ht : TurnsOk g p turn) : walksOf g p (revTurn turn) = walksOf g p (mirTurn turn) := by
 rw [← rev_first]
 exact (walks_first hpe (revTurn_ok ht)).symm
end
end Go.Proofs.YtednbiophjndpaaGreat.Plain
namespace Go.Proofs.YtednbiophjndpaaGreat
open Go.RowKit Go.Maps
theorem sortI_any (v : Value) (l : List Int) (B : Nat) (w : World) (hn : l.length < 1000000000) (h : RowAt w B v l) :
  Calls Tryz.prog 59 #[v] w fun e w' => e = .returned (.tuple #[]) ∧ RowAt w' B v (l.mergeSort fun x y => decide (x ≤ y)) ∧ Chg v.ownBlock.toList w w' := by
 obtain ⟨ao, c, rfl⟩ := h.shape
 by_cases h0 : l = []
 ·subst h0
  refine (Tryz.slices_Sort_int_none ao c w).mono ?_
  rintro e w' ⟨rfl, rfl⟩
  exact ⟨rfl, by rw [List.mergeSort_nil]; exact h, Chg.refl _ _⟩
 obtain ⟨g, cap, e⟩ := owns_some h.1 (List.length_pos_iff.2 h0)
 cases e
 have hl : (ints l).length = l.length := by simp [ints]
 have hown := h.1
 rw [← hl] at hown
 have hH : Go.Sort.Holds (Value.int .i64) w g 0 l.toArray := sorted_holds hown (by simp [ints])
 have hg : g < w.heap.size := owns_lt h.1 rfl
 refine (Tryz.slices_Sort_int g 0 _ l w hH hg (by omega)).mono ?_
 rintro e w' ⟨rfl, n, os, rfl⟩
 have hs : (l.mergeSort fun x y => decide (x ≤ y)).length = l.length := (List.mergeSort_perm _ _).length_eq
 have hso := sorted_owns (enc := Value.int .i64) (n := n) (os := os) (d := (l.mergeSort fun x y => decide (x ≤ y)).toArray) hown (by simp [hs, hl])
 refine ⟨rfl, ⟨?_, fun x hx => h.2.1 x ((List.mergeSort_perm _ _).mem_iff.1 hx), by rw [hs]; exact h.2.2⟩, ?_⟩
 ·rw [hl] at hso
  rw [hs]
  exact hso
 exact sorted_chg (Value.int .i64) w g n os _
namespace Plain
theorem rev_snoc {l : List Int} {k : Nat} (hk : k < l.length) : (l.drop (k + 1)).reverse ++ [l.getD k 0] = (l.drop k).reverse := by
 have e : l.drop k = l.getD k 0 :: l.drop (k + 1) := by
  have : l.getD k 0 = l[k] := by simp [List.getD, hk]
  rw [this, List.drop_eq_getElem_cons hk]
 rw [e]; simp
end Plain
set_option maxRecDepth 100000 in
theorem about_any (v : Value) (l : List Int) (w : World) (hn : l.length < 1000000000) (h : IntsAt w v l) :
  Calls Tryz.prog 57 #[v] w fun e w' => ∃ v', e = .returned v' ∧ RowAt w' w.heap.size v' l.reverse ∧ Chg [] w w' := by
 have HV := Lib.hid h
 obtain ⟨ao, ac, rfl, hI, -, -⟩ := h
 have HI := Lib.hid hI
 clear hI
 have wl : IntKind.i64.wrap ((l.length : Int) - 1) = (l.length : Int) - 1 := IntWalk.i64_in _ (by omega)
 go_enter Tryz.func57, Tryz.ntmps57
 go_wp2_with (at_make; refine wl_make0 rfl _ _ rfl (B := w.heap.size) (n := l.length) rfl rfl (Nat.le_refl _) (by omega) ?_; intro v1 w1 r1 hc1 f1; have R1 := Lib.hid r1; have C1 := Lib.hid hc1; clear r1 hc1 f1)
 go_loopw [3, 4] (fun ov c wr => ∃ k : Nat, k ≤ l.length ∧ c = .int .i64 ((k : Int) - 1) ∧ RowAt wr w.heap.size ov (l.drop k).reverse ∧ Chg [] w wr) (fun _ c _ => (intOf c + 1).toNat)
 case atStart => exact ⟨l.length, Nat.le_refl _, rfl, by rw [List.drop_length]; exact R1.out, C1.out⟩
 case round =>
  obtain ⟨k, hk, rfl, hrow, hc⟩ := hrel
  have HROW := Lib.hid hrow
  have HC := Lib.hid hc
  have HB := Lib.hid (show w.heap.size ≤ wr.heap.size from hc.size)
  obtain ⟨oo, oc, rfl⟩ := hrow.shape
  have hkl : (l.drop k).reverse.length = l.length - k := by simp
  by_cases h0 : k = 0
  ·subst h0
   have b0 : decide (((0 : Nat) : Int) - 1 ≥ 0) = false := decide_eq_false (by omega)
   clear hrow hc hkl
   go_wp2
   go_ret
   exact ⟨_, rfl, HROW.out, HC.out⟩
  obtain ⟨j, rfl⟩ : ∃ j, k = j + 1 := ⟨k - 1, by omega⟩
  have ej : ((j + 1 : Nat) : Int) - 1 = (j : Int) := by omega
  have hj : j < l.length := by omega
  obtain ⟨rb, roff, rfl, rc⟩ := IntsAt.cellAt HV.out hj
  have rcell := hc.cell rc (by simp)
  have HS := Lib.hid (Plain.rev_snoc hj)
  have IX : I64 (l.getD j 0) := HI.out _ (Plain.getD_mem hj)
  obtain ⟨x, hx⟩ : ∃ x, l.getD j 0 = x := ⟨_, rfl⟩
  rw [hx] at rcell HS IX
  obtain ⟨M, hM⟩ : ∃ M, (l.drop (j + 1)).reverse = M := ⟨_, rfl⟩
  rw [hM] at HS HROW hkl ⊢
  have hml : M.length < 4294967290 := by omega
  have wj : IntKind.i64.wrap ((j : Int) - 1) = (j : Int) - 1 := IntWalk.i64_in _ (by omega)
  rw [ej]
  clear rc hrow hc hx hM h0 hkl
  go_wp2_with (at_builtin; refine wl_push rfl _ _ rfl (B := w.heap.size) (v := .slice oo _ oc) rfl rfl HROW.out IX HB.out hml rfl ?_; intro v6 w6 r6 c6 f6; have R6 := Lib.hid r6; have C6 := Lib.hid c6; clear r6 c6 f6)
  go_roundw
  case rel => exact ⟨j, by omega, rfl, by rw [← HS.out]; exact R6.out, HC.out.trans C6.out (fun b hb => Or.inr (by rw [HROW.out.foot] at hb; exact (HROW.out.low b hb).1))⟩
  case measure => simp [intOf]
theorem PlanVar.orders {w : World} {pb B T : Nat} {t s : List (List Int)} (h : PlanVar w pb B T t s) (hne : ∀ l ∈ s, l ≠ []) (hn : s.length < 1000000000) {ao : Option Addr} {n c : Nat} (hc : w.cell? ⟨pb, 1, none⟩ = some (.slice ao n c)) :
  Calls Tryz.prog 60 #[.slice ao n c] w fun e w' => e = .returned (.tuple #[]) ∧ ∃ s', PlanVar w' pb B w'.heap.size t s' ∧ s'.Perm s ∧ s'.Pairwise (fun a b => a.getD 0 0 ≤ b.getD 0 0) ∧ ∃ own, Chg own w w' ∧ ∀ j ∈ own, B ≤ j := by
 obtain ⟨⟨o1, v1, o2, v2, h1, h2, h3, h4, h5, h6⟩, h7⟩ := h
 have e0 := (cell_of_row _ _ 1 _ _ _ h1).trans (show _ = some o2 from rfl)
 rw [hc] at e0
 obtain rfl : Value.slice ao n c = o2 := by simpa using e0
 refine (order_any _ v2 s B w (by have := h3.len; omega) h3 hne).mono ?_
 rintro e w' ⟨rfl, vs', ll', r1, r2, r3, r4, hch⟩
 have hno : pb ∉ (Value.slice ao n c).ownBlock.toList := fun e => owns_other h3.out h1 (by decide) (by simpa using e)
 have hp := hch.heap h1 hno
 have h2' : RowsOwn w' B o1 v1 t := h2.chg hch (fun b hb e => by
   rcases h4 with q | q
   ·rw [q] at hb; cases hb
   ·simp at e; exact q (hb.trans e.symm)) (fun k b hk hb e => by
   rcases owns_two h3.out (h2.rows k hk) (by decide) with q | q
   ·rw [q] at e; simp at e
   simp at e; exact q (e.trans hb.symm))
 refine ⟨rfl, ll', ⟨⟨o1, v1, _, vs', hp, h2', r1, h4, row_below h2', row_below r1⟩, fun l hl => ?_⟩, r3, r4, _, hch, fun j hj => (h3.out.lt j (by simpa using hj)).1⟩
 rcases List.mem_append.1 hl with q | q
 ·exact h7 l (List.mem_append.2 (Or.inl q))
 exact h7 l (List.mem_append.2 (Or.inr (r3.mem_iff.1 q)))
end Go.Proofs.YtednbiophjndpaaGreat
