/- Trees whose nodes share numbers below 0: cut, merged, renamed; what stands beyond a link. No program here. -/
import Derived.WalkKit
namespace Go.Proofs.YtpcgklagmcnhaaaGreat.Plain
structure Tr (E : List Int) (X : List (List Int)) : Prop where
 enod : E.Nodup
 nod : ∀ x ∈ X, x.Nodup
 big : X.length = 1 ∨ ∀ x ∈ X, 3 ≤ x.length
 edg : (X.flatten.filter fun v => decide (0 ≤ v)).Perm E
 cnt : (X.flatten.filter fun v => decide (v < 0)).length + 2 = 2 * X.length
 dis : X.Nodup
 two : ∀ v, v < 0 → X.countP (fun x => decide (v ∈ x)) = 0 ∨ X.countP (fun x => decide (v ∈ x)) = 2
 brg : ∀ v, v < 0 → ∃ s : List Int → Bool, ∀ x ∈ X, ∀ y ∈ X, ∀ u, u < 0 → u ∈ x → u ∈ y → (u ≠ v → s x = s y) ∧ (u = v → x ≠ y → s x ≠ s y)
 con : ∀ s : List Int → Bool, (∀ x ∈ X, ∀ y ∈ X, ∀ u, u < 0 → u ∈ x → u ∈ y → s x = s y) → ∀ x ∈ X, ∀ y ∈ X, s x = s y
theorem Tr.perm {E : List Int} {X Y : List (List Int)} (h : Tr E X) (p : X.Perm Y)   : Tr E Y where
 enod := h.enod
 nod x hx := h.nod x (p.mem_iff.2 hx)
 big := by rw [← p.length_eq]; exact h.big.imp id fun q x hx => q x (p.mem_iff.2 hx)
 edg := ((p.flatten).filter _).symm.trans h.edg
 cnt := by rw [← p.length_eq, ← ((p.flatten).filter _).length_eq]; exact h.cnt
 dis := p.nodup_iff.1 h.dis
 two v hv := by rw [← p.countP_eq]; exact h.two v hv
 brg v hv := by
  obtain ⟨s, hs⟩ := h.brg v hv
  exact ⟨s, fun x hx y hy => hs x (p.mem_iff.2 hx) y (p.mem_iff.2 hy)⟩
 con s hs x hx y hy := h.con s (fun x hx y hy => hs x (p.mem_iff.1 hx) y (p.mem_iff.1 hy)) x (p.mem_iff.2 hx) y (p.mem_iff.2 hy)
theorem Tr.one {E : List Int} (hn : E.Nodup) (h : ∀ e ∈ E, 0 ≤ e) : Tr E [E] where
 enod := hn
 nod x hx := by rw [List.mem_singleton.1 hx]; exact hn
 big := Or.inl rfl
 edg := by
  rw [List.flatten_cons, List.flatten_nil, List.append_nil, List.filter_eq_self.2 (fun e he => decide_eq_true (h e he))]
 cnt := by
  rw [List.flatten_cons, List.flatten_nil, List.append_nil, List.filter_eq_nil_iff.2 (fun e he => by have := h e he; simp; omega)]
  rfl
 dis := by simp
 two v hv := by
  refine Or.inl ?_
  rw [List.countP_eq_zero]
  intro x hx
  rw [List.mem_singleton.1 hx]
  have := fun q => h v q
  simp
  intro q; have := h v q; omega
 brg v hv := ⟨fun _ => true, fun x hx y hy u hu hux => by
  rw [List.mem_singleton.1 hx] at hux
  have := h u hux; omega⟩
 con s hs x hx y hy := by rw [List.mem_singleton.1 hx, List.mem_singleton.1 hy]
theorem Tr.cut {E n a b : List Int} {R : List (List Int)} {v : Int} (h : Tr E (n :: R)) (hp : n.Perm (a ++ b)) (ha : 2 ≤ a.length) (hb : 2 ≤ b.length) (hv : v < 0) (hf : ∀ x ∈ n :: R, v ∉ x) : Tr E ((a ++ [v]) :: (b ++ [v]) :: R) := by
 have hnn : (a ++ b).Nodup := hp.nodup_iff.1 (h.nod n (by simp))
 have hva : v ∉ a := fun q => hf n (by simp) (hp.mem_iff.2 (List.mem_append_left _ q))
 have hvb : v ∉ b := fun q => hf n (by simp) (hp.mem_iff.2 (List.mem_append_right _ q))
 have hvR : ∀ x ∈ R, v ∉ x := fun x hx => hf x (by simp [hx])
 obtain ⟨na, nb, dab⟩ := List.nodup_append.1 hnn
 have hab : ∀ u, u ∈ a → u ∉ b := fun u h1 h2 => dab u h1 u h2 rfl
 have hmn : ∀ u, u ∈ n ↔ u ∈ a ∨ u ∈ b := fun u => by rw [hp.mem_iff, List.mem_append]
 have hne : a ++ [v] ≠ b ++ [v] := fun q => by
  have q := List.append_cancel_right q
  obtain ⟨x, hx⟩ := List.exists_mem_of_length_pos (show 0 < a.length by omega)
  exact hab x hx (q ▸ hx)
 have hdn := h.dis
 rw [List.nodup_cons] at hdn
 refine ⟨h.enod, ?_, ?_, ?_, ?_, ?_, ?_, ?_, ?_⟩
 ·intro x hx
  rcases List.mem_cons.1 hx with rfl | hx
  ·exact List.nodup_append.2 ⟨na, by simp, fun m hm l hl e => hva (by rw [List.mem_singleton.1 hl] at e; exact e ▸ hm)⟩
  rcases List.mem_cons.1 hx with rfl | hx
  ·exact List.nodup_append.2 ⟨nb, by simp, fun m hm l hl e => hvb (by rw [List.mem_singleton.1 hl] at e; exact e ▸ hm)⟩
  exact h.nod x (by simp [hx])
 ·refine Or.inr fun x hx => ?_
  rcases List.mem_cons.1 hx with rfl | hx
  ·simp; omega
  rcases List.mem_cons.1 hx with rfl | hx
  ·simp; omega
  rcases h.big with q | q
  ·have : R = [] := by simpa using q
   subst this; cases hx
  exact q x (by simp [hx])
 ·refine List.Perm.trans ?_ h.edg
  have e1 : decide (0 ≤ v) = false := by simp; omega
  simp only [List.flatten_cons, List.filter_append, List.filter_cons, e1, List.filter_nil]
  have q := hp.filter fun v => decide (0 ≤ v)
  rw [List.filter_append] at q
  simpa [List.append_assoc] using (q.symm.append_right ((R.flatten).filter fun v => decide (0 ≤ v)))
 ·have q := (hp.filter fun v => decide (v < 0)).length_eq
  rw [List.filter_append] at q
  have c := h.cnt
  simp only [List.flatten_cons, List.filter_append, List.filter_cons, decide_eq_true hv, List.filter_nil, List.length_append, List.length_cons, List.length_nil, if_true] at c q ⊢
  omega
 ·rw [List.nodup_cons, List.nodup_cons]
  refine ⟨fun q => ?_, fun q => hvR _ q (by simp), hdn.2⟩
  rcases List.mem_cons.1 q with q | q
  ·exact hne q
  exact hvR _ q (by simp)
 ·intro u hu
  have c := h.two u hu
  simp only [List.countP_cons] at c ⊢
  by_cases e : u = v
  ·subst e
   have z : R.countP (fun x => decide (u ∈ x)) = 0 := List.countP_eq_zero.2 fun x hx => by simpa using hvR x hx
   refine Or.inr ?_
   rw [z]; simp
  by_cases qa : u ∈ a
  ·have qb := hab u qa
   simp [e, qa, qb, hmn] at c ⊢
   exact c
  by_cases qb : u ∈ b
  ·simp [e, qa, qb, hmn] at c ⊢
   exact c
  simp [e, qa, qb, hmn] at c ⊢
  exact c
 ·intro w hw
  by_cases e : w = v
  ·subst e
   -- the new link: beyond a link of a, or a itself
   have hbr : ∀ u : Int, ∃ s : List Int → Bool, u < 0 → ∀ x ∈ n :: R, ∀ y ∈ n :: R, ∀ t, t < 0 → t ∈ x → t ∈ y → (t ≠ u → s x = s y) ∧ (t = u → x ≠ y → s x ≠ s y) := fun u => by
    by_cases hu : u < 0
    ·obtain ⟨s, hs⟩ := h.brg u hu
     exact ⟨s, fun _ => hs⟩
    exact ⟨fun _ => true, fun q => absurd q hu⟩
   obtain ⟨F, S⟩ := Classical.axiomOfChoice hbr
   refine ⟨fun y => decide (y = a ++ [w]) || (!decide (y = b ++ [w]) && a.any fun u => decide (u < 0) && (F u y != F u n)), ?_⟩
   -- what lies beyond a
   have key : ∀ y ∈ R, ∀ t, t < 0 → t ∈ n → t ∈ y → ((a.any fun u => decide (u < 0) && (F u y != F u n)) = decide (t ∈ a)) := by
    intro y hy t ht htn hty
    have yn : y ≠ n := fun q => hdn.1 (q ▸ hy)
    by_cases ta : t ∈ a
    ·rw [decide_eq_true ta, List.any_eq_true]
     refine ⟨t, ta, ?_⟩
     have := (S t ht y (by simp [hy]) n (by simp) t ht hty htn).2 rfl yn
     simp [ht]; exact this
    rw [decide_eq_false ta, List.any_eq_false]
    intro u hu
    by_cases hu0 : u < 0
    ·have := (S u hu0 y (by simp [hy]) n (by simp) t ht hty htn).1 (fun q => ta (q ▸ hu))
     simp [hu0, this]
    simp [hu0]
   have key2 : ∀ x ∈ R, ∀ y ∈ R, ∀ t, t < 0 → t ∈ x → t ∈ y → ((a.any fun u => decide (u < 0) && (F u x != F u n)) = (a.any fun u => decide (u < 0) && (F u y != F u n))) := by
    intro x hx y hy t ht htx hty
    by_cases hxy : x = y
    ·rw [hxy]
    by_cases htn : t ∈ n
    ·rw [key x hx t ht htn htx, key y hy t ht htn hty]
    have : ∀ u ∈ a, (decide (u < 0) && (F u x != F u n)) = (decide (u < 0) && (F u y != F u n)) := by
     intro u hu
     by_cases hu0 : u < 0
     ·have e1 := (S u hu0 x (by simp [hx]) y (by simp [hy]) t ht htx hty).1 (fun q => htn ((hmn t).2 (Or.inl (q ▸ hu))))
      simp [hu0, e1]
     simp [hu0]
    rw [Bool.eq_iff_iff, List.any_eq_true, List.any_eq_true]
    exact ⟨fun ⟨u, h1, h2⟩ => ⟨u, h1, this u h1 ▸ h2⟩, fun ⟨u, h1, h2⟩ => ⟨u, h1, (this u h1).symm ▸ h2⟩⟩
   have nA : ∀ x ∈ R, x ≠ a ++ [w] := fun x hx q => hvR x hx (by rw [q]; simp)
   have nB : ∀ x ∈ R, x ≠ b ++ [w] := fun x hx q => hvR x hx (by rw [q]; simp)
   intro x hx y hy t ht htx hty
   rcases List.mem_cons.1 hx with rfl | hx
   ·rcases List.mem_cons.1 hy with rfl | hy
    ·exact ⟨fun _ => rfl, fun _ q => absurd rfl q⟩
    rcases List.mem_cons.1 hy with rfl | hy
    ·refine ⟨fun q => ?_, fun _ _ => ?_⟩
     ·simp [q] at htx hty; exact absurd hty (hab t htx)
     simp [hne, hne.symm]
    have q : t ≠ w := fun q => hvR y hy (q ▸ hty)
    refine ⟨fun _ => ?_, fun e => absurd e q⟩
    simp [q] at htx
    simp only [decide_eq_false (nA y hy), decide_eq_false (nB y hy), Bool.false_or, Bool.not_false, Bool.true_and]
    rw [key y hy t ht ((hmn t).2 (Or.inl htx)) hty]
    simp [htx]
   rcases List.mem_cons.1 hx with rfl | hx
   ·rcases List.mem_cons.1 hy with rfl | hy
    ·refine ⟨fun q => ?_, fun _ _ => ?_⟩
     ·simp [q] at htx hty; exact absurd htx (hab t hty)
     simp [hne, hne.symm]
    rcases List.mem_cons.1 hy with rfl | hy
    ·exact ⟨fun _ => rfl, fun _ q => absurd rfl q⟩
    have q : t ≠ w := fun q => hvR y hy (q ▸ hty)
    refine ⟨fun _ => ?_, fun e => absurd e q⟩
    simp [q] at htx
    simp only [decide_eq_false (nA y hy), decide_eq_false (nB y hy), Bool.false_or, Bool.not_false, Bool.true_and]
    rw [key y hy t ht ((hmn t).2 (Or.inr htx)) hty]
    have : t ∉ a := fun z => hab t z htx
    simp [hne.symm, this]
   have q : t ≠ w := fun q => hvR x hx (q ▸ htx)
   refine ⟨fun _ => ?_, fun e => absurd e q⟩
   rcases List.mem_cons.1 hy with rfl | hy
   ·simp [q] at hty
    simp only [decide_eq_false (nA x hx), decide_eq_false (nB x hx), Bool.false_or, Bool.not_false, Bool.true_and]
    rw [key x hx t ht ((hmn t).2 (Or.inl hty)) htx]
    simp [hty]
   rcases List.mem_cons.1 hy with rfl | hy
   ·simp [q] at hty
    simp only [decide_eq_false (nA x hx), decide_eq_false (nB x hx), Bool.false_or, Bool.not_false, Bool.true_and]
    rw [key x hx t ht ((hmn t).2 (Or.inr hty)) htx]
    have : t ∉ a := fun z => hab t z hty
    simp [hne.symm, this]
   simp only [decide_eq_false (nA x hx), decide_eq_false (nB x hx), decide_eq_false (nA y hy), decide_eq_false (nB y hy), Bool.false_or, Bool.not_false, Bool.true_and]
   exact key2 x hx y hy t ht htx hty
  obtain ⟨s, hs⟩ := h.brg w hw
  refine ⟨fun y => if y = a ++ [v] ∨ y = b ++ [v] then s n else s y, ?_⟩
  -- an old node for each new one
  have old : ∀ x ∈ (a ++ [v]) :: (b ++ [v]) :: R, ∃ x0 ∈ n :: R, (if x = a ++ [v] ∨ x = b ++ [v] then s n else s x) = s x0 ∧ (∀ t, t ∈ x → t ≠ v → t ∈ x0) ∧ ((x = a ++ [v] ∨ x = b ++ [v]) ∧ x0 = n ∨ x ∈ R ∧ x0 = x) := by
   intro x hx
   rcases List.mem_cons.1 hx with rfl | hx
   ·exact ⟨n, by simp, by simp, fun t h1 h2 => (hmn t).2 (Or.inl (by simpa [h2] using h1)), Or.inl ⟨Or.inl rfl, rfl⟩⟩
   rcases List.mem_cons.1 hx with rfl | hx
   ·exact ⟨n, by simp, by simp, fun t h1 h2 => (hmn t).2 (Or.inr (by simpa [h2] using h1)), Or.inl ⟨Or.inr rfl, rfl⟩⟩
   have q : ¬ (x = a ++ [v] ∨ x = b ++ [v]) := fun q => hvR x hx (by rcases q with q | q <;> (rw [q]; simp))
   exact ⟨x, by simp [hx], by rw [if_neg q], fun t h1 _ => h1, Or.inr ⟨hx, rfl⟩⟩
  intro x hx y hy t ht htx hty
  obtain ⟨x0, hx0, ex, mx, cx⟩ := old x hx
  obtain ⟨y0, hy0, ey, my, cy⟩ := old y hy
  dsimp only
  rw [ex, ey]
  by_cases q : t = v
  ·subst q
   refine ⟨fun _ => ?_, fun e2 => absurd e2.symm e⟩
   rcases cx with ⟨-, rfl⟩ | ⟨hxR, -⟩
   ·rcases cy with ⟨-, rfl⟩ | ⟨hyR, -⟩
    ·rfl
    exact absurd hty (hvR y hyR)
   exact absurd htx (hvR x hxR)
  have hh := hs x0 hx0 y0 hy0 t ht (mx t htx q) (my t hty q)
  refine ⟨hh.1, fun e2 hxy => hh.2 e2 fun e3 => ?_⟩
  rcases cx with ⟨hx1, rfl⟩ | ⟨hxR, rfl⟩
  ·rcases cy with ⟨hy1, -⟩ | ⟨hyR, rfl⟩
   ·rcases hx1 with rfl | rfl <;> rcases hy1 with rfl | rfl
    ·exact hxy rfl
    ·simp [q] at htx hty; exact hab t htx hty
    ·simp [q] at htx hty; exact hab t hty htx
    exact hxy rfl
   exact hdn.1 (e3 ▸ hyR)
  rcases cy with ⟨hy1, rfl⟩ | ⟨hyR, rfl⟩
  ·exact hdn.1 (e3 ▸ hxR)
  exact hxy e3
 intro s hs
 have hAB : s (a ++ [v]) = s (b ++ [v]) := hs _ (by simp) _ (by simp) v hv (by simp) (by simp)
 have hall := h.con (fun y => if y = n then s (a ++ [v]) else s y) (by
  have up : ∀ x ∈ n :: R, ∀ t, t ∈ x → ∃ x1 ∈ (a ++ [v]) :: (b ++ [v]) :: R, t ∈ x1 ∧ (if x = n then s (a ++ [v]) else s x) = s x1 := by
   intro x hx t htx
   rcases List.mem_cons.1 hx with rfl | hx
   ·rcases (hmn t).1 htx with q | q
    ·exact ⟨a ++ [v], by simp, by simp [q], by rw [if_pos rfl]⟩
    exact ⟨b ++ [v], by simp, by simp [q], by rw [if_pos rfl, hAB]⟩
   exact ⟨x, by simp [hx], htx, if_neg fun (q : x = n) => hdn.1 (q ▸ hx)⟩
  intro x hx y hy t ht htx hty
  obtain ⟨x1, m1, q1, e1⟩ := up x hx t htx
  obtain ⟨y1, m2, q2, e2⟩ := up y hy t hty
  rw [e1, e2]
  exact hs x1 m1 y1 m2 t ht q1 q2)
 have one : ∀ x ∈ (a ++ [v]) :: (b ++ [v]) :: R, s x = s (a ++ [v]) := by
  intro x hx
  rcases List.mem_cons.1 hx with rfl | hx
  ·rfl
  rcases List.mem_cons.1 hx with rfl | hx
  ·exact hAB.symm
  have q := hall x (by simp [hx]) n (by simp)
  rw [if_neg fun (q : x = n) => hdn.1 (q ▸ hx), if_pos rfl] at q
  exact q
 intro x hx y hy
 rw [one x hx, one y hy]
theorem Tr.once {E x : List Int} {R : List (List Int)} (h : Tr E (x :: R)) {u : Int} (hu : 0 ≤ u) (hx : u ∈ x) : ∀ y ∈ R, u ∉ y := fun y hy q => by
 have h1 := h.edg.nodup_iff.2 h.enod
 rw [List.flatten_cons, List.filter_append] at h1
 exact (List.nodup_append.1 h1).2.2 u (List.mem_filter.2 ⟨hx, decide_eq_true hu⟩) u (List.mem_filter.2 ⟨List.mem_flatten.2 ⟨y, hy, q⟩, decide_eq_true hu⟩) rfl
theorem len_ne {A : List Int} {v : Int} (h : A.Nodup) (hv : v ∈ A) : (A.filter fun u => decide (u ≠ v)).length + 1 = A.length := by
 have e : (A.filter fun u => decide (u ≠ v)) = A.erase v := by
  rw [h.erase_eq_filter]
  refine List.filter_congr fun x _ => ?_
  by_cases q : x = v <;> simp [q]
 rw [e, List.length_erase_of_mem hv]
 have := List.length_pos_of_mem hv
 omega
theorem Tr.merge {E A B : List Int} {R : List (List Int)} {v : Int} (h : Tr E (A :: B :: R)) (hv : v < 0) (hA : v ∈ A) (hB : v ∈ B) : Tr E ((A ++ B).filter (fun u => decide (u ≠ v)) :: R) := by
 obtain ⟨m, hm⟩ : ∃ m, (A ++ B).filter (fun u => decide (u ≠ v)) = m := ⟨_, rfl⟩
 rw [hm]
 have hmm : ∀ u, u ∈ m ↔ (u ∈ A ∨ u ∈ B) ∧ u ≠ v := fun u => by rw [← hm, List.mem_filter, List.mem_append, decide_eq_true_iff]
 have hd := h.dis
 rw [List.nodup_cons, List.nodup_cons] at hd
 obtain ⟨hA1, hB1, hR⟩ := hd
 have hAB : A ≠ B := fun q => hA1 (by simp [q])
 have hAR : A ∉ R := fun q => hA1 (by simp [q])
 have nA := h.nod A (by simp)
 have nB := h.nod B (by simp)
 obtain ⟨sv, hsv⟩ := h.brg v hv
 have dif : sv A ≠ sv B := (hsv A (by simp) B (by simp) v hv hA hB).2 rfl hAB
 have two : ∀ u, u < 0 → u ≠ v → u ∈ A → u ∉ B := fun u hu e h1 h2 => dif ((hsv A (by simp) B (by simp) u hu h1 h2).1 e)
 have onev : ∀ x ∈ R, v ∉ x := fun x hx q => by
  have c := h.two v hv
  simp only [List.countP_cons, decide_eq_true hA, decide_eq_true hB] at c
  have : 0 < R.countP fun x => decide (v ∈ x) := List.countP_pos_iff.2 ⟨x, hx, decide_eq_true q⟩
  simp only [if_true] at c
  omega
 have h3 : 3 ≤ A.length ∧ 3 ≤ B.length := by
  rcases h.big with q | q
  ·simp at q
  exact ⟨q A (by simp), q B (by simp)⟩
 have lA := len_ne nA hA
 have lB := len_ne nB hB
 have dis2 : ∀ u, u ∈ A → u ∈ B → u = v := fun u h1 h2 => by
  by_cases hu : u < 0
  ·exact Classical.byContradiction fun e => two u hu e h1 h2
  exact absurd h2 (h.once (Int.not_lt.1 hu) h1 B (by simp))
 have mR : m ∉ R := fun q => by
  have far : ∀ C ∈ A :: B :: R, C ∉ R → v ∈ C → (∀ u, 0 ≤ u → u ∈ C → u ∉ m) → (∀ u ∈ C, u ≠ v → u ∈ m) → 3 ≤ C.length → sv C = sv m := fun C hC _ hvC hno hin hl => by
   have l1 := len_ne (h.nod C hC) hvC
   obtain ⟨u, hu⟩ := List.exists_mem_of_length_pos (show 0 < (C.filter fun u => decide (u ≠ v)).length by omega)
   obtain ⟨u1, u2⟩ := List.mem_filter.1 hu
   have u2 := of_decide_eq_true u2
   by_cases hu0 : u < 0
   ·exact (hsv C hC m (by simp [q]) u hu0 u1 (hin u u1 u2)).1 u2
   exact absurd (hin u u1 u2) (hno u (Int.not_lt.1 hu0) u1)
  have p2 : (A :: B :: R).Perm (B :: A :: R) := List.Perm.swap _ _ _
  exact dif ((far A (by simp) hAR hA (fun u h1 h2 => h.once h1 h2 m (by simp [q])) (fun u h1 h2 => (hmm u).2 ⟨Or.inl h1, h2⟩) h3.1).trans (far B (by simp) hB1 hB (fun u h1 h2 => (h.perm p2).once h1 h2 m (by simp [q])) (fun u h1 h2 => (hmm u).2 ⟨Or.inr h1, h2⟩) h3.2).symm)
 refine ⟨h.enod, ?_, ?_, ?_, ?_, ?_, ?_, ?_, ?_⟩
 ·intro x hx
  rcases List.mem_cons.1 hx with rfl | hx
  ·rw [← hm, List.filter_append]
   refine List.nodup_append.2 ⟨nA.filter _, nB.filter _, fun a ha b hb e => ?_⟩
   have q1 := List.mem_filter.1 ha
   have q2 := List.mem_filter.1 hb
   subst e
   have := dis2 _ q1.1 q2.1
   simp [this] at q1
  exact h.nod x (by simp [hx])
 ·refine Or.inr fun x hx => ?_
  rcases List.mem_cons.1 hx with rfl | hx
  ·rw [← hm, List.filter_append, List.length_append]
   omega
  rcases h.big with q | q
  ·simp at q
  exact q x (by simp [hx])
 ·refine List.Perm.trans ?_ h.edg
  rw [← hm]
  have e : ∀ C : List Int, (C.filter fun u => decide (u ≠ v)).filter (fun u => decide (0 ≤ u)) = C.filter fun u => decide (0 ≤ u) := fun C => by
   rw [List.filter_filter]
   refine List.filter_congr fun u _ => ?_
   by_cases q : 0 ≤ u
   ·have : u ≠ v := by omega
    simp [q, this]
   simp [q]
  simp only [List.flatten_cons, List.filter_append, e]
  rw [List.append_assoc]
 ·have c := h.cnt
  have e : ∀ C : List Int, C.Nodup → v ∈ C → ((C.filter fun u => decide (u ≠ v)).filter fun u => decide (u < 0)).length + 1 = (C.filter fun u => decide (u < 0)).length := fun C h1 h2 => by
   rw [List.filter_filter]
   have := len_ne (h1.filter fun u => decide (u < 0)) (List.mem_filter.2 ⟨h2, decide_eq_true hv⟩)
   rw [List.filter_filter] at this
   rw [← this]
   congr 2
   exact List.filter_congr fun u _ => Bool.and_comm _ _
  have eA := e A nA hA
  have eB := e B nB hB
  rw [← hm]
  simp only [List.flatten_cons, List.filter_append, List.length_append, List.length_cons] at c ⊢
  omega
 ·rw [List.nodup_cons]
  exact ⟨mR, hR⟩
 ·intro u hu
  have c := h.two u hu
  simp only [List.countP_cons] at c ⊢
  by_cases e : u = v
  ·subst e
   exact Or.inl (by rw [List.countP_eq_zero.2 (fun x hx => by simpa using onev x hx)]; simp [hmm])
  have q := two u hu e
  by_cases h1 : u ∈ A <;> by_cases h2 : u ∈ B <;> simp [h1, h2, hmm, e] at c q ⊢ <;> exact c
 ·intro w hw
  obtain ⟨s, hs⟩ := h.brg w hw
  by_cases e : w = v
  ·subst e
   -- nobody has it any more
   refine ⟨fun y => true, fun x hx y hy t ht htx hty => ⟨fun _ => rfl, fun q => ?_⟩⟩
   subst q
   rcases List.mem_cons.1 hx with rfl | hx
   ·exact absurd rfl ((hmm _).1 htx).2
   exact absurd htx (onev x hx)
  refine ⟨fun y => if y = m then s A else s y, ?_⟩
  have hsAB : s A = s B := (hs A (by simp) B (by simp) v hv hA hB).1 (Ne.symm e)
  have old : ∀ x ∈ m :: R, ∀ t, t ∈ x → ∃ x0 ∈ A :: B :: R, t ∈ x0 ∧ (if x = m then s A else s x) = s x0 ∧ (x = m ∧ (x0 = A ∨ x0 = B) ∨ x ∈ R ∧ x0 = x) := by
   intro x hx t htx
   rcases List.mem_cons.1 hx with rfl | hx
   ·rcases ((hmm t).1 htx).1 with q | q
    ·exact ⟨A, by simp, q, if_pos rfl, Or.inl ⟨rfl, Or.inl rfl⟩⟩
    exact ⟨B, by simp, q, by rw [if_pos rfl, hsAB], Or.inl ⟨rfl, Or.inr rfl⟩⟩
   exact ⟨x, by simp [hx], htx, if_neg fun (q : x = m) => mR (q ▸ hx), Or.inr ⟨hx, rfl⟩⟩
  intro x hx y hy t ht htx hty
  obtain ⟨x0, hx0, q1, e1, c1⟩ := old x hx t htx
  obtain ⟨y0, hy0, q2, e2, c2⟩ := old y hy t hty
  dsimp only
  rw [e1, e2]
  have hh := hs x0 hx0 y0 hy0 t ht q1 q2
  refine ⟨hh.1, fun e3 hxy => hh.2 e3 fun e4 => hxy ?_⟩
  rcases c1 with ⟨rfl, c1⟩ | ⟨hxR, rfl⟩
  ·rcases c2 with ⟨rfl, c2⟩ | ⟨hyR, rfl⟩
   ·rfl
   rw [e4] at c1
   rcases c1 with rfl | rfl
   ·exact absurd hyR hAR
   exact absurd hyR hB1
  rcases c2 with ⟨rfl, c2⟩ | ⟨hyR, rfl⟩
  ·rw [← e4] at c2
   rcases c2 with rfl | rfl
   ·exact absurd hxR hAR
   exact absurd hxR hB1
  exact e4
 intro s hs
 have hall := h.con (fun y => if y = A ∨ y = B then s m else s y) (by
  intro x hx y hy t ht htx hty
  by_cases e : t = v
  ·subst e
   have hx' : x = A ∨ x = B := by
    rcases List.mem_cons.1 hx with q | hx
    ·exact Or.inl q
    rcases List.mem_cons.1 hx with q | hx
    ·exact Or.inr q
    exact absurd htx (onev x hx)
   have hy' : y = A ∨ y = B := by
    rcases List.mem_cons.1 hy with q | hy
    ·exact Or.inl q
    rcases List.mem_cons.1 hy with q | hy
    ·exact Or.inr q
    exact absurd hty (onev y hy)
   rw [if_pos hx', if_pos hy']
  have up : ∀ x ∈ A :: B :: R, t ∈ x → ∃ x1 ∈ m :: R, t ∈ x1 ∧ (if x = A ∨ x = B then s m else s x) = s x1 := by
   intro x hx htx
   rcases List.mem_cons.1 hx with rfl | hx
   ·exact ⟨m, by simp, (hmm t).2 ⟨Or.inl htx, e⟩, if_pos (Or.inl rfl)⟩
   rcases List.mem_cons.1 hx with rfl | hx
   ·exact ⟨m, by simp, (hmm t).2 ⟨Or.inr htx, e⟩, if_pos (Or.inr rfl)⟩
   exact ⟨x, by simp [hx], htx, if_neg fun (q : x = A ∨ x = B) => q.elim (fun q => hAR (q ▸ hx)) fun q => hB1 (q ▸ hx)⟩
  obtain ⟨x1, m1, q1, e1⟩ := up x hx htx
  obtain ⟨y1, m2, q2, e2⟩ := up y hy hty
  rw [e1, e2]
  exact hs x1 m1 y1 m2 t ht q1 q2)
 have one : ∀ x ∈ m :: R, s x = s m := by
  intro x hx
  rcases List.mem_cons.1 hx with rfl | hx
  ·rfl
  have q := hall x (by simp [hx]) A (by simp)
  rw [if_neg (fun (q : x = A ∨ x = B) => q.elim (fun q => hAR (q ▸ hx)) fun q => hB1 (q ▸ hx)), if_pos (Or.inl rfl)] at q
  exact q
 intro x hx y hy
 rw [one x hx, one y hy]
structure TrI (n : Nat) (h : Nat → Int → Prop) : Prop where
 two : ∀ v, v < 0 → ∀ i, i < n → h i v → ∃ j, j < n ∧ j ≠ i ∧ h j v ∧ ∀ k, k < n → h k v → k = i ∨ k = j
 brg : ∀ v, v < 0 → ∃ s : Nat → Bool, ∀ i j, i < n → j < n → ∀ u, u < 0 → h i u → h j u → (u ≠ v → s i = s j) ∧ (u = v → i ≠ j → s i ≠ s j)
 con : ∀ s : Nat → Bool, (∀ i j, i < n → j < n → ∀ u, u < 0 → h i u → h j u → s i = s j) → ∀ i j, i < n → j < n → s i = s j
theorem TrI.sides {n : Nat} {h : Nat → Int → Prop} (t : TrI n h) : ∃ s : Int → Nat → Bool, ∀ v, v < 0 → ∀ i j, i < n → j < n → ∀ u, u < 0 → h i u → h j u → (u ≠ v → s v i = s v j) ∧ (u = v → i ≠ j → s v i ≠ s v j) := by
 have hbr : ∀ v : Int, ∃ s : Nat → Bool, v < 0 → ∀ i j, i < n → j < n → ∀ u, u < 0 → h i u → h j u → (u ≠ v → s i = s j) ∧ (u = v → i ≠ j → s i ≠ s j) := fun v => by
  by_cases hv : v < 0
  ·obtain ⟨s, hs⟩ := t.brg v hv
   exact ⟨s, fun _ => hs⟩
  exact ⟨fun _ => true, fun q => absurd q hv⟩
 exact Classical.axiomOfChoice hbr
def Bl (s : Int → Nat → Bool) (n m : Nat) (u : Int) : List Nat := (List.range n).filter fun j => s u j == s u m
def beyF (ed vl : Nat → List Int) (mt : Nat → Int → Nat) : Nat → List (Nat × Int) → List Int → List Int
 | 0, _, es => es
 | _ + 1, [], es => es
 | f + 1, p :: todo, es => beyF ed vl mt f ((((vl p.1).filter fun w => decide (w ≠ p.2)).map fun w => (mt p.1 w, w)).reverse ++ todo) (es ++ ed p.1)
section
variable {n : Nat} {h : Nat → Int → Prop} {s : Int → Nat → Bool} {mt : Nat → Int → Nat} {vl ed : Nat → List Int}
 (t : TrI n h) (hs : ∀ v, v < 0 → ∀ i j, i < n → j < n → ∀ u, u < 0 → h i u → h j u → (u ≠ v → s v i = s v j) ∧ (u = v → i ≠ j → s v i ≠ s v j))
 (hm : ∀ i v, i < n → v < 0 → h i v → mt i v < n ∧ mt i v ≠ i ∧ h (mt i v) v) (hvl : ∀ i v, i < n → (v ∈ vl i ↔ v < 0 ∧ h i v)) (hvn : ∀ i, i < n → (vl i).Nodup)
include t hs
theorem TrI.beyond_one {m j : Nat} (hmn : m < n) (hj : j < n) (hne : j ≠ m) : ∃ w, w < 0 ∧ h m w ∧ s w j ≠ s w m := by
 refine Classical.byContradiction fun q => ?_
 have q' : ∀ w, w < 0 → h m w → s w j = s w m := fun w h1 h2 => Classical.byContradiction fun h3 => q ⟨w, h1, h2, h3⟩
 open Classical in
 have c := t.con (fun k => decide (k ≠ m ∧ ∀ w, w < 0 → h m w → s w k = s w m)) (fun i k hi hk u hu h1 h2 => by
  rw [decide_eq_decide]
  by_cases hmu : h m u
  ·have no : ∀ i, i < n → h i u → ¬ (i ≠ m ∧ ∀ w, w < 0 → h m w → s w i = s w m) := fun i hi h1 q3 => (hs u hu i m hi hmn u hu h1 hmu).2 rfl q3.1 (q3.2 u hu hmu)
   exact ⟨fun q3 => absurd q3 (no i hi h1), fun q3 => absurd q3 (no k hk h2)⟩
  have e : ∀ w, w < 0 → h m w → s w i = s w k := fun w hw hw2 => (hs w hw i k hi hk u hu h1 h2).1 (fun q3 => hmu (q3 ▸ hw2))
  refine ⟨fun q3 => ⟨fun q4 => hmu (q4 ▸ h2), fun w hw hw2 => (e w hw hw2).symm.trans (q3.2 w hw hw2)⟩, fun q3 => ⟨fun q4 => hmu (q4 ▸ h1), fun w hw hw2 => (e w hw hw2).trans (q3.2 w hw hw2)⟩⟩) m j hmn hj
 simp at c
 obtain ⟨w, h1, h2, h3⟩ := c hne
 exact h3 (q' w h1 h2)
theorem TrI.beyond_uniq {m j : Nat} (hmn : m < n) (hj : j < n) {w x : Int} (hw : w < 0) (hx : x < 0) (h1 : h m w) (h2 : h m x) (h3 : s w j ≠ s w m) (h4 : s x j ≠ s x m) : w = x := by
 refine Classical.byContradiction fun q => ?_
 have c := t.con (fun k => (s w k != s w m) && (s x k != s x m)) (fun i k hi hk u hu q1 q2 => by
  by_cases ew : u = w
  ·subst ew
   have ex : ∀ i, i < n → h i u → (s x i != s x m) = false := fun i hi q1 => by
    have := (hs x hx i m hi hmn u hu q1 h1).1 q
    simp [this]
   rw [ex i hi q1, ex k hk q2, Bool.and_false, Bool.and_false]
  by_cases ex : u = x
  ·subst ex
   have e2 : ∀ i, i < n → h i u → (s w i != s w m) = false := fun i hi q1 => by
    have := (hs w hw i m hi hmn u hu q1 h2).1 ew
    simp [this]
   rw [e2 i hi q1, e2 k hk q2, Bool.false_and, Bool.false_and]
  rw [(hs w hw i k hi hk u hu q1 q2).1 ew, (hs x hx i k hi hk u hu q1 q2).1 ex]) m j hmn hj
 simp [h3, h4] at c
include hm hvl hvn
theorem TrI.unfold {m : Nat} {u : Int} (hmn : m < n) (hu : u < 0) (hmu : h m u) : (Bl s n m u).Perm (m :: (((vl m).filter fun w => decide (w ≠ u)).flatMap fun w => Bl s n (mt m w) w)) := by
 have hb : ∀ w, w < 0 → h m w → ∀ j, j < n → (j ∈ Bl s n (mt m w) w ↔ s w j ≠ s w m) := fun w hw hmw j hj => by
  obtain ⟨a, b, c⟩ := hm m w hmn hw hmw
  have := (hs w hw (mt m w) m a hmn w hw c hmw).2 rfl b
  unfold Bl
  rw [List.mem_filter, List.mem_range]
  generalize s w j = x at *
  generalize s w m = y at *
  generalize s w (mt m w) = z at *
  revert this
  cases x <;> cases y <;> cases z <;> simp [hj]
 have lt : ∀ {m u j}, j ∈ Bl s n m u → j < n := fun q => List.mem_range.1 (List.mem_filter.1 q).1
 have mem : ∀ {w}, w ∈ ((vl m).filter fun w => decide (w ≠ u)) → w < 0 ∧ h m w ∧ w ≠ u := fun {w} q => by
  obtain ⟨q1, q2⟩ := List.mem_filter.1 q
  exact ⟨((hvl m w hmn).1 q1).1, ((hvl m w hmn).1 q1).2, of_decide_eq_true q2⟩
 refine (List.perm_ext_iff_of_nodup (List.nodup_range.filter _) ?_).2 fun j => ?_
 ·rw [List.nodup_cons]
  refine ⟨fun q => ?_, ?_⟩
  ·obtain ⟨w, q1, q2⟩ := List.mem_flatMap.1 q
   obtain ⟨a, b, c⟩ := mem q1
   exact (hb w a b m hmn).1 q2 rfl
  unfold List.Nodup
  rw [List.pairwise_flatMap]
  refine ⟨fun w _ => List.nodup_range.filter _, ((hvn m hmn).filter _).imp_of_mem fun {x y} hx hy hxy i hi k hk e => ?_⟩
  subst e
  obtain ⟨a, b, c⟩ := mem hx
  obtain ⟨a2, b2, c2⟩ := mem hy
  exact hxy (t.beyond_uniq hs hmn (lt hi) a a2 b b2 ((hb x a b i (lt hi)).1 hi) ((hb y a2 b2 i (lt hi)).1 hk))
 rw [List.mem_cons, List.mem_flatMap]
 constructor
 ·intro q
  have hj := lt q
  by_cases e : j = m
  ·exact Or.inl e
  obtain ⟨w, h1, h2, h3⟩ := t.beyond_one hs hmn hj e
  refine Or.inr ⟨w, List.mem_filter.2 ⟨(hvl m w hmn).2 ⟨h1, h2⟩, decide_eq_true fun q2 => ?_⟩, (hb w h1 h2 j hj).2 h3⟩
  subst q2
  have q3 := (List.mem_filter.1 q).2
  simp at q3
  exact h3 q3
 rintro (rfl | ⟨w, q1, q2⟩)
 ·exact List.mem_filter.2 ⟨List.mem_range.2 hmn, by simp⟩
 obtain ⟨a, b, c⟩ := mem q1
 have hj := lt q2
 refine List.mem_filter.2 ⟨List.mem_range.2 hj, ?_⟩
 have q3 := (hb w a b j hj).1 q2
 by_cases e : s u j = s u m
 ·simp [e]
 exact absurd (t.beyond_uniq hs hmn hj a hu b hmu q3 e) c
theorem TrI.run : ∀ (f : Nat) (todo : List (Nat × Int)) (es : List Int), (∀ p ∈ todo, p.1 < n ∧ p.2 < 0 ∧ h p.1 p.2) → (todo.map fun p => (Bl s n p.1 p.2).length).sum ≤ f → (beyF ed vl mt f todo es).Perm (es ++ (todo.flatMap fun p => Bl s n p.1 p.2).flatMap ed)
 | 0, todo, es, hv, hf => by
  cases todo with
  | nil => simp [beyF]
  | cons p todo =>
   obtain ⟨a, b, c⟩ := hv p (by simp)
   have := (t.unfold hs hm hvl hvn a b c).length_eq
   simp only [List.length_cons, List.map_cons, List.sum_cons] at this hf
   omega
 | f + 1, [], es, hv, hf => by simp [beyF]
 | f + 1, p :: todo, es, hv, hf => by
  obtain ⟨a, b, c⟩ := hv p (by simp)
  have hu := t.unfold hs hm hvl hvn a b c
  obtain ⟨L, hL⟩ : ∃ L, ((vl p.1).filter fun w => decide (w ≠ p.2)) = L := ⟨_, rfl⟩
  have hLm : ∀ w ∈ L, w < 0 ∧ h p.1 w := fun w q => by rw [← hL] at q; exact (hvl p.1 w a).1 (List.mem_filter.1 q).1
  rw [hL] at hu
  have hl : (((L.map fun w => (mt p.1 w, w)).reverse ++ todo).map fun p => (Bl s n p.1 p.2).length).sum ≤ f := by
   have e := hu.length_eq
   rw [List.length_cons, List.length_flatMap] at e
   rw [List.map_cons, List.sum_cons, e] at hf
   rw [List.map_append, List.sum_append, List.map_reverse, List.sum_reverse, List.map_map]
   have : ((fun p : Nat × Int => (Bl s n p.1 p.2).length) ∘ fun w => (mt p.1 w, w)) = fun w => (Bl s n (mt p.1 w) w).length := rfl
   rw [this]
   omega
  have ih := TrI.run f ((L.map fun w => (mt p.1 w, w)).reverse ++ todo) (es ++ ed p.1) (fun q hq => by
   rcases List.mem_append.1 hq with q1 | q1
   ·obtain ⟨w, hw, rfl⟩ := List.mem_map.1 (List.mem_reverse.1 q1)
    obtain ⟨c1, c2⟩ := hLm w hw
    obtain ⟨d1, d2, d3⟩ := hm p.1 w a c1 c2
    exact ⟨d1, c1, d3⟩
   exact hv q (by simp [q1])) hl
  have e0 : beyF ed vl mt (f + 1) (p :: todo) es = beyF ed vl mt f ((L.map fun w => (mt p.1 w, w)).reverse ++ todo) (es ++ ed p.1) := by rw [← hL]; rfl
  rw [e0]
  refine ih.trans ?_
  rw [List.append_assoc]
  refine List.Perm.append_left _ ?_
  rw [List.flatMap_append, List.flatMap_cons, List.flatMap_append, List.flatMap_append, ← List.append_assoc]
  refine List.Perm.append_right _ ?_
  have h2 := hu.flatMap_right ed
  rw [List.flatMap_cons] at h2
  refine List.Perm.trans (List.Perm.append_left _ ?_) h2.symm
  refine List.Perm.flatMap_right _ ?_
  refine ((List.reverse_perm _).flatMap_right _).trans ?_
  rw [List.flatMap_map]
end
theorem TrI.both {n : Nat} {h : Nat → Int → Prop} {s : Int → Nat → Bool} (hs : ∀ v, v < 0 → ∀ i j, i < n → j < n → ∀ u, u < 0 → h i u → h j u → (u ≠ v → s v i = s v j) ∧ (u = v → i ≠ j → s v i ≠ s v j)) {i j : Nat} {v : Int} (hi : i < n) (hj : j < n) (hij : i ≠ j) (hv : v < 0) (h1 : h i v) (h2 : h j v) : (Bl s n i v ++ Bl s n j v).Perm (List.range n) := by
 have := (hs v hv i j hi hj v hv h1 h2).2 rfl hij
 have e : Bl s n j v = (List.range n).filter fun k => !(s v k == s v i) := by
  unfold Bl
  refine List.filter_congr fun k _ => ?_
  revert this
  cases s v i <;> cases s v j <;> cases s v k <;> simp
 rw [e]
 exact List.filter_append_perm _ _
theorem Tr.ix {E : List Int} {X : List (List Int)} (h : Tr E X) : TrI X.length fun i v => v ∈ X.getD i [] := by
 have at0 : ∀ {i} (hi : i < X.length), X.getD i [] = X[i] := fun hi => by simp [List.getD, hi]
 have inj : ∀ {i j}, (hi : i < X.length) → (hj : j < X.length) → X.getD i [] = X.getD j [] → i = j := fun hi hj e => by
  rw [at0 hi, at0 hj] at e
  rw [← h.dis.idxOf_getElem _ hi, ← h.dis.idxOf_getElem _ hj, e]
 have mem : ∀ {i}, i < X.length → X.getD i [] ∈ X := fun hi => by rw [at0 hi]; exact List.getElem_mem hi
 refine ⟨fun v hv i hi hiv => ?_, fun v hv => ?_, fun s hs i j hi hj => ?_⟩
 ·have c := h.two v hv
  have pos : 0 < X.countP fun x => decide (v ∈ x) := List.countP_pos_iff.2 ⟨_, mem hi, decide_eq_true hiv⟩
  have c2 : (X.filter fun x => decide (v ∈ x)).length = 2 := by rw [← List.countP_eq_length_filter]; omega
  obtain ⟨a, b, e⟩ : ∃ a b, X.filter (fun x => decide (v ∈ x)) = [a, b] := by
   match X.filter (fun x => decide (v ∈ x)), c2 with
   | [a, b], _ => exact ⟨a, b, rfl⟩
  have hab : a ≠ b := by
   have := h.dis.filter fun x => decide (v ∈ x)
   rw [e] at this
   simpa using this
  have hm : ∀ x, x ∈ X → v ∈ x → x = a ∨ x = b := fun x hx hvx => by
   have : x ∈ X.filter fun x => decide (v ∈ x) := List.mem_filter.2 ⟨hx, decide_eq_true hvx⟩
   rw [e] at this
   simpa using this
  have hin : ∀ x, x = a ∨ x = b → x ∈ X ∧ v ∈ x := fun x hx => by
   have : x ∈ X.filter fun x => decide (v ∈ x) := by rw [e]; simpa using hx
   obtain ⟨q1, q2⟩ := List.mem_filter.1 this
   exact ⟨q1, of_decide_eq_true q2⟩
  have go : ∀ a b, a ≠ b → (∀ x, x ∈ X → v ∈ x → x = a ∨ x = b) → (∀ x, x = a ∨ x = b → x ∈ X ∧ v ∈ x) → X.getD i [] = a → ∃ j, j < X.length ∧ j ≠ i ∧ v ∈ X.getD j [] ∧ ∀ k, k < X.length → v ∈ X.getD k [] → k = i ∨ k = j := by
   intro a b hab hm hin ea
   obtain ⟨j, hj, rfl⟩ := List.getElem_of_mem (hin b (Or.inr rfl)).1
   refine ⟨j, hj, fun q => hab ?_, by rw [at0 hj]; exact (hin _ (Or.inr rfl)).2, fun k hk hkv => ?_⟩
   ·rw [← ea, ← at0 hj, q]
   rcases hm _ (mem hk) hkv with q | q
   ·exact Or.inl (inj hk hi (q.trans ea.symm))
   exact Or.inr (inj hk hj (q.trans (at0 hj).symm))
  rcases hm _ (mem hi) hiv with q | q
  ·exact go a b hab hm hin q
  exact go b a hab.symm (fun x h1 h2 => (hm x h1 h2).symm) (fun x hx => hin x hx.symm) q
 ·obtain ⟨s, hs⟩ := h.brg v hv
  refine ⟨fun i => s (X.getD i []), fun i j hi hj u hu h1 h2 => ?_⟩
  have q := hs _ (mem hi) _ (mem hj) u hu h1 h2
  exact ⟨q.1, fun e hij => q.2 e fun e2 => hij (inj hi hj e2)⟩
 have ixOf : ∀ {i}, (hi : i < X.length) → X.idxOf (X.getD i []) = i := fun hi => by rw [at0 hi]; exact h.dis.idxOf_getElem _ hi
 have c := h.con (fun x => s (X.idxOf x)) (fun x hx y hy u hu h1 h2 => by
  obtain ⟨a, ha, rfl⟩ := List.getElem_of_mem hx
  obtain ⟨b, hb, rfl⟩ := List.getElem_of_mem hy
  rw [h.dis.idxOf_getElem _ ha, h.dis.idxOf_getElem _ hb]
  exact hs a b ha hb u hu (by rw [at0 ha]; exact h1) (by rw [at0 hb]; exact h2)) _ (mem hi) _ (mem hj)
 rw [ixOf hi, ixOf hj] at c
 exact c
theorem TrI.ren {n : Nat} {h h' : Nat → Int → Prop} (t : TrI n h) (f g : Int → Int) (h1 : ∀ i v, i < n → v < 0 → h i v → f v < 0 ∧ h' i (f v) ∧ g (f v) = v) (h2 : ∀ i v, i < n → v < 0 → h' i v → g v < 0 ∧ h i (g v) ∧ f (g v) = v) : TrI n h' := by
 refine ⟨fun v hv i hi hiv => ?_, fun v hv => ?_, fun s hs i j hi hj => ?_⟩
 ·obtain ⟨a, b, c⟩ := h2 i v hi hv hiv
  obtain ⟨j, j1, j2, j3, j4⟩ := t.two _ a i hi b
  refine ⟨j, j1, j2, by rw [← c]; exact (h1 j _ j1 a j3).2.1, fun k hk hkv => j4 k hk (h2 k v hk hv hkv).2.1⟩
 ·by_cases e : ∃ i, i < n ∧ h' i v
  ·obtain ⟨i0, hi0, hv0⟩ := e
   obtain ⟨a, b, c⟩ := h2 i0 v hi0 hv hv0
   obtain ⟨s, hs⟩ := t.brg (g v) a
   refine ⟨s, fun i j hi hj u hu q1 q2 => ?_⟩
   obtain ⟨a1, b1, c1⟩ := h2 i u hi hu q1
   obtain ⟨a2, b2, c2⟩ := h2 j u hj hu q2
   have q := hs i j hi hj (g u) a1 b1 b2
   exact ⟨fun e => q.1 fun e2 => e (by rw [← c1, e2, c]), fun e => q.2 (by rw [e])⟩
  refine ⟨fun _ => true, fun i j hi hj u hu q1 q2 => ⟨fun _ => rfl, fun q => ?_⟩⟩
  subst q
  exact absurd ⟨i, hi, q1⟩ e
 exact t.con s (fun i j hi hj u hu q1 q2 => by
  obtain ⟨a, b, -⟩ := h1 i u hi hu q1
  exact hs i j hi hj (f u) a b (h1 j u hj hu q2).2.1) i j hi hj
end Go.Proofs.YtpcgklagmcnhaaaGreat.Plain
