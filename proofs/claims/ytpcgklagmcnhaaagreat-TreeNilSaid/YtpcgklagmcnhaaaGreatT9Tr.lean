/- Trees whose nodes share numbers below 0: cut, merged, renamed; what stands beyond a link. No program here. -/
import Derived.Test.YtpcgklagmcnhaaaGreatT9NumT
namespace Go.Proofs.YtpcgklagmcnhaaaGreat.Plain
structure Tr (E : List Int) (X : List (List Int)) : Prop where
 enod : E.Nodup
 nod : ∀ x ∈ X, x.Nodup
 big : X.length = 1 ∨ ∀ x ∈ X, 3 ≤ x.length
 edg : (X.flatten.filter fun v => decide (0 ≤ v)).Perm E
 cnt : (X.flatten.filter fun v => decide (v < 0)).length + 2 = 2 * X.length
 dis : X.Nodup
 two : ∀ v, v < 0 → X.countP (fun x => decide (v ∈ x)) = 0 ∨ X.countP (fun x => decide (v ∈ x)) = 2
 brg : ∀ v, v < 0 → ∃ s : List Int → Bool, ∀ x ∈ X, ∀ y ∈ X, ∀ u, u < 0 → u ∈ x → u ∈ y → (u ≠ v → s x = s y) ∧ (u = v → x ≠ y → s x ≠ s y)
 con : ∀ s : List Int → Bool, (∀ x ∈ X, ∀ y ∈ X, ∀ u, u < 0 → u ∈ x → u ∈ y → s x = s y) → ∀ x ∈ X, ∀ y ∈ X, s x = s y
theorem Tr.perm {E : List Int} {X Y : List (List Int)} (h : Tr E X) (p : X.Perm Y)   : Tr E Y where
 enod := h.enod
 nod x hx := h.nod x (p.mem_iff.2 hx)
 big := by rw [← p.length_eq]; exact h.big.imp id fun q x hx => q x (p.mem_iff.2 hx)
 edg := ((p.flatten).filter _).symm.trans h.edg
 cnt := by rw [← p.length_eq, ← ((p.flatten).filter _).length_eq]; exact h.cnt
 dis := p.nodup_iff.1 h.dis
 two v hv := by rw [← p.countP_eq]; exact h.two v hv
 brg v hv := by
  obtain ⟨s, hs⟩ := h.brg v hv
  exact ⟨s, fun x hx y hy => hs x (p.mem_iff.2 hx) y (p.mem_iff.2 hy)⟩
 con s hs x hx y hy := h.con s (fun x hx y hy => hs x (p.mem_iff.1 hx) y (p.mem_iff.1 hy)) x (p.mem_iff.2 hx) y (p.mem_iff.2 hy)
theorem Tr.one {E : List Int} (hn : E.Nodup) (h : ∀ e ∈ E, 0 ≤ e) : Tr E [E] where
 enod := hn
 nod x hx := by rw [List.mem_singleton.1 hx]; exact hn
 big := Or.inl rfl
 edg := by
  rw [List.flatten_cons, List.flatten_nil, List.append_nil, List.filter_eq_self.2 (fun e he => decide_eq_true (h e he))]
 cnt := by
  rw [List.flatten_cons, List.flatten_nil, List.append_nil, List.filter_eq_nil_iff.2 (fun e he => by have := h e he; simp; omega)]
  rfl
 dis := by simp
 two v hv := by
  refine Or.inl ?_
  rw [List.countP_eq_zero]
  intro x hx
  rw [List.mem_singleton.1 hx]
  have := fun q => h v q
  simp
  intro q; have := h v q; omega
 brg v hv := ⟨fun _ => true, fun x hx y hy u hu hux => by
  rw [List.mem_singleton.1 hx] at hux
  have := h u hux; omega⟩
 con s hs x hx y hy := by rw [List.mem_singleton.1 hx, List.mem_singleton.1 hy]
theorem Tr.cut {E n a b : List Int} {R : List (List Int)} {v : Int} (h : Tr E (n :: R)) (hp : n.Perm (a ++ b)) (ha : 2 ≤ a.length) (hb : 2 ≤ b.length) (hv : v < 0) (hf : ∀ x ∈ n :: R, v ∉ x) : Tr E ((a ++ [v]) :: (b ++ [v]) :: R) := by
 have hnn : (a ++ b).Nodup := hp.nodup_iff.1 (h.nod n (by simp))
 have hva : v ∉ a := fun q => hf n (by simp) (hp.mem_iff.2 (List.mem_append_left _ q))
 have hvb : v ∉ b := fun q => hf n (by simp) (hp.mem_iff.2 (List.mem_append_right _ q))
 have hvR : ∀ x ∈ R, v ∉ x := fun x hx => hf x (by simp [hx])
 obtain ⟨na, nb, dab⟩ := List.nodup_append.1 hnn
 have hab : ∀ u, u ∈ a → u ∉ b := fun u h1 h2 => dab u h1 u h2 rfl
 have hmn : ∀ u, u ∈ n ↔ u ∈ a ∨ u ∈ b := fun u => by rw [hp.mem_iff, List.mem_append]
 have hne : a ++ [v] ≠ b ++ [v] := fun q => by
  have q := List.append_cancel_right q
  obtain ⟨x, hx⟩ := List.exists_mem_of_length_pos (show 0 < a.length by omega)
  exact hab x hx (q ▸ hx)
 have hdn := h.dis
 rw [List.nodup_cons] at hdn
 refine ⟨h.enod, ?_, ?_, ?_, ?_, ?_, ?_, ?_, ?_⟩
 ·intro x hx
  rcases List.mem_cons.1 hx with rfl | hx
  ·exact List.nodup_append.2 ⟨na, by simp, fun m hm l hl e => hva (by rw [List.mem_singleton.1 hl] at e; exact e ▸ hm)⟩
  rcases List.mem_cons.1 hx with rfl | hx
  ·exact List.nodup_append.2 ⟨nb, by simp, fun m hm l hl e => hvb (by rw [List.mem_singleton.1 hl] at e; exact e ▸ hm)⟩
  exact h.nod x (by simp [hx])
 ·refine Or.inr fun x hx => ?_
  rcases List.mem_cons.1 hx with rfl | hx
  ·simp; omega
  rcases List.mem_cons.1 hx with rfl | hx
  ·simp; omega
  rcases h.big with q | q
  ·have : R = [] := by simpa using q
   subst this; cases hx
  exact q x (by simp [hx])
 ·refine List.Perm.trans ?_ h.edg
  have e1 : decide (0 ≤ v) = false := by simp; omega
  simp only [List.flatten_cons, List.filter_append, List.filter_cons, e1, List.filter_nil]
  have q := hp.filter fun v => decide (0 ≤ v)
  rw [List.filter_append] at q
  simpa [List.append_assoc] using (q.symm.append_right ((R.flatten).filter fun v => decide (0 ≤ v)))
 ·have q := (hp.filter fun v => decide (v < 0)).length_eq
  rw [List.filter_append] at q
  have c := h.cnt
  simp only [List.flatten_cons, List.filter_append, List.filter_cons, decide_eq_true hv, List.filter_nil, List.length_append, List.length_cons, List.length_nil, if_true] at c q ⊢
  omega
 ·rw [List.nodup_cons, List.nodup_cons]
  refine ⟨fun q => ?_, fun q => hvR _ q (by simp), hdn.2⟩
  rcases List.mem_cons.1 q with q | q
  ·exact hne q
  exact hvR _ q (by simp)
 ·intro u hu
  have c := h.two u hu
  simp only [List.countP_cons] at c ⊢
  by_cases e : u = v
  ·subst e
   have z : R.countP (fun x => decide (u ∈ x)) = 0 := List.countP_eq_zero.2 fun x hx => by simpa using hvR x hx
   refine Or.inr ?_
   rw [z]; simp
  by_cases qa : u ∈ a
  ·have qb := hab u qa
   simp [e, qa, qb, hmn] at c ⊢
   exact c
  by_cases qb : u ∈ b
  ·simp [e, qa, qb, hmn] at c ⊢
   exact c
  simp [e, qa, qb, hmn] at c ⊢
  exact c
 ·intro w hw
  by_cases e : w = v
  ·subst e
   -- the new link: beyond a link of a, or a itself
   have hbr : ∀ u : Int, ∃ s : List Int → Bool, u < 0 → ∀ x ∈ n :: R, ∀ y ∈ n :: R, ∀ t, t < 0 → t ∈ x → t ∈ y → (t ≠ u → s x = s y) ∧ (t = u → x ≠ y → s x ≠ s y) := fun u => by
    by_cases hu : u < 0
    ·obtain ⟨s, hs⟩ := h.brg u hu
     exact ⟨s, fun _ => hs⟩
    exact ⟨fun _ => true, fun q => absurd q hu⟩
   obtain ⟨F, S⟩ := Classical.axiomOfChoice hbr
   refine ⟨fun y => decide (y = a ++ [w]) || (!decide (y = b ++ [w]) && a.any fun u => decide (u < 0) && (F u y != F u n)), ?_⟩
   -- what lies beyond a
   have key : ∀ y ∈ R, ∀ t, t < 0 → t ∈ n → t ∈ y → ((a.any fun u => decide (u < 0) && (F u y != F u n)) = decide (t ∈ a)) := by
    intro y hy t ht htn hty
    have yn : y ≠ n := fun q => hdn.1 (q ▸ hy)
    by_cases ta : t ∈ a
    ·rw [decide_eq_true ta, List.any_eq_true]
     refine ⟨t, ta, ?_⟩
     have := (S t ht y (by simp [hy]) n (by simp) t ht hty htn).2 rfl yn
     simp [ht]; exact this
    rw [decide_eq_false ta, List.any_eq_false]
    intro u hu
    by_cases hu0 : u < 0
    ·have := (S u hu0 y (by simp [hy]) n (by simp) t ht hty htn).1 (fun q => ta (q ▸ hu))
     simp [hu0, this]
    simp [hu0]
   have key2 : ∀ x ∈ R, ∀ y ∈ R, ∀ t, t < 0 → t ∈ x → t ∈ y → ((a.any fun u => decide (u < 0) && (F u x != F u n)) = (a.any fun u => decide (u < 0) && (F u y != F u n))) := by
    intro x hx y hy t ht htx hty
    by_cases hxy : x = y
    ·rw [hxy]
    by_cases htn : t ∈ n
    ·rw [key x hx t ht htn htx, key y hy t ht htn hty]
    have : ∀ u ∈ a, (decide (u < 0) && (F u x != F u n)) = (decide (u < 0) && (F u y != F u n)) := by
     intro u hu
     by_cases hu0 : u < 0
     ·have e1 := (S u hu0 x (by simp [hx]) y (by simp [hy]) t ht htx hty).1 (fun q => htn ((hmn t).2 (Or.inl (q ▸ hu))))
      simp [hu0, e1]
     simp [hu0]
    rw [Bool.eq_iff_iff, List.any_eq_true, List.any_eq_true]
    exact ⟨fun ⟨u, h1, h2⟩ => ⟨u, h1, this u h1 ▸ h2⟩, fun ⟨u, h1, h2⟩ => ⟨u, h1, (this u h1).symm ▸ h2⟩⟩
   have nA : ∀ x ∈ R, x ≠ a ++ [w] := fun x hx q => hvR x hx (by rw [q]; simp)
   have nB : ∀ x ∈ R, x ≠ b ++ [w] := fun x hx q => hvR x hx (by rw [q]; simp)
   intro x hx y hy t ht htx hty
   rcases List.mem_cons.1 hx with rfl | hx
   ·rcases List.mem_cons.1 hy with rfl | hy
    ·exact ⟨fun _ => rfl, fun _ q => absurd rfl q⟩
    rcases List.mem_cons.1 hy with rfl | hy
    ·refine ⟨fun q => ?_, fun _ _ => ?_⟩
     ·simp [q] at htx hty; exact absurd hty (hab t htx)
     simp [hne, hne.symm]
    have q : t ≠ w := fun q => hvR y hy (q ▸ hty)
    refine ⟨fun _ => ?_, fun e => absurd e q⟩
    simp [q] at htx
    simp only [decide_eq_false (nA y hy), decide_eq_false (nB y hy), Bool.false_or, Bool.not_false, Bool.true_and]
    rw [key y hy t ht ((hmn t).2 (Or.inl htx)) hty]
    simp [htx]
   rcases List.mem_cons.1 hx with rfl | hx
   ·rcases List.mem_cons.1 hy with rfl | hy
    ·refine ⟨fun q => ?_, fun _ _ => ?_⟩
     ·simp [q] at htx hty; exact absurd htx (hab t hty)
     simp [hne, hne.symm]
    rcases List.mem_cons.1 hy with rfl | hy
    ·exact ⟨fun _ => rfl, fun _ q => absurd rfl q⟩
    have q : t ≠ w := fun q => hvR y hy (q ▸ hty)
    refine ⟨fun _ => ?_, fun e => absurd e q⟩
    simp [q] at htx
    simp only [decide_eq_false (nA y hy), decide_eq_false (nB y hy), Bool.false_or, Bool.not_false, Bool.true_and]
    rw [key y hy t ht ((hmn t).2 (Or.inr htx)) hty]
    have : t ∉ a := fun z => hab t z htx
    simp [hne.symm, this]
   have q : t ≠ w := fun q => hvR x hx (q ▸ htx)
   refine ⟨fun _ => ?_, fun e => absurd e q⟩
   rcases List.mem_cons.1 hy with rfl | hy
   ·simp [q] at hty
    simp only [decide_eq_false (nA x hx), decide_eq_false (nB x hx), Bool.false_or, Bool.not_false, Bool.true_and]
    rw [key x hx t ht ((hmn t).2 (Or.inl hty)) htx]
    simp [hty]
   rcases List.mem_cons.1 hy with rfl | hy
   ·simp [q] at hty
    simp only [decide_eq_false (nA x hx), decide_eq_false (nB x hx), Bool.false_or, Bool.not_false, Bool.true_and]
    rw [key x hx t ht ((hmn t).2 (Or.inr hty)) htx]
    have : t ∉ a := fun z => hab t z hty
    simp [hne.symm, this]
   simp only [decide_eq_false (nA x hx), decide_eq_false (nB x hx), decide_eq_false (nA y hy), decide_eq_false (nB y hy), Bool.false_or, Bool.not_false, Bool.true_and]
   exact key2 x hx y hy t ht htx hty
  obtain ⟨s, hs⟩ := h.brg w hw
  refine ⟨fun y => if y = a ++ [v] ∨ y = b ++ [v] then s n else s y, ?_⟩
  -- an old node for each new one
  have old : ∀ x ∈ (a ++ [v]) :: (b ++ [v]) :: R, ∃ x0 ∈ n :: R, (if x = a ++ [v] ∨ x = b ++ [v] then s n else s x) = s x0 ∧ (∀ t, t ∈ x → t ≠ v → t ∈ x0) ∧ ((x = a ++ [v] ∨ x = b ++ [v]) ∧ x0 = n ∨ x ∈ R ∧ x0 = x) := by
   intro x hx
   rcases List.mem_cons.1 hx with rfl | hx
   ·exact ⟨n, by simp, by simp, fun t h1 h2 => (hmn t).2 (Or.inl (by simpa [h2] using h1)), Or.inl ⟨Or.inl rfl, rfl⟩⟩
   rcases List.mem_cons.1 hx with rfl | hx
   ·exact ⟨n, by simp, by simp, fun t h1 h2 => (hmn t).2 (Or.inr (by simpa [h2] using h1)), Or.inl ⟨Or.inr rfl, rfl⟩⟩
   have q : ¬ (x = a ++ [v] ∨ x = b ++ [v]) := fun q => hvR x hx (by rcases q with q | q <;> (rw [q]; simp))
   exact ⟨x, by simp [hx], by rw [if_neg q], fun t h1 _ => h1, Or.inr ⟨hx, rfl⟩⟩
  intro x hx y hy t ht htx hty
  obtain ⟨x0, hx0, ex, mx, cx⟩ := old x hx
  obtain ⟨y0, hy0, ey, my, cy⟩ := old y hy
  dsimp only
  rw [ex, ey]
  by_cases q : t = v
  ·subst q
   refine ⟨fun _ => ?_, fun e2 => absurd e2.symm e⟩
   rcases cx with ⟨-, rfl⟩ | ⟨hxR, -⟩
   ·rcases cy with ⟨-, rfl⟩ | ⟨hyR, -⟩
    ·rfl
    exact absurd hty (hvR y hyR)
   exact absurd htx (hvR x hxR)
  have hh := hs x0 hx0 y0 hy0 t ht (mx t htx q) (my t hty q)
  refine ⟨hh.1, fun e2 hxy => hh.2 e2 fun e3 => ?_⟩
  rcases cx with ⟨hx1, rfl⟩ | ⟨hxR, rfl⟩
  ·rcases cy with ⟨hy1, -⟩ | ⟨hyR, rfl⟩
   ·rcases hx1 with rfl | rfl <;> rcases hy1 with rfl | rfl
    ·exact hxy rfl
    ·simp [q] at htx hty; exact hab t htx hty
    ·simp [q] at htx hty; exact hab t hty htx
    exact hxy rfl
   exact hdn.1 (e3 ▸ hyR)
  rcases cy with ⟨hy1, rfl⟩ | ⟨hyR, rfl⟩
  ·exact hdn.1 (e3 ▸ hxR)
  exact hxy e3
 intro s hs
 have hAB : s (a ++ [v]) = s (b ++ [v]) := hs _ (by simp) _ (by simp) v hv (by simp) (by simp)
 have hall := h.con (fun y => if y = n then s (a ++ [v]) else s y) (by
  have up : ∀ x ∈ n :: R, ∀ t, t ∈ x → ∃ x1 ∈ (a ++ [v]) :: (b ++ [v]) :: R, t ∈ x1 ∧ (if x = n then s (a ++ [v]) else s x) = s x1 := by
   intro x hx t htx
   rcases List.mem_cons.1 hx with rfl | hx
   ·rcases (hmn t).1 htx with q | q
    ·exact ⟨a ++ [v], by simp, by simp [q], by rw [if_pos rfl]⟩
    exact ⟨b ++ [v], by simp, by simp [q], by rw [if_pos rfl, hAB]⟩
   exact ⟨x, by simp [hx], htx, if_neg fun (q : x = n) => hdn.1 (q ▸ hx)⟩
  intro x hx y hy t ht htx hty
  obtain ⟨x1, m1, q1, e1⟩ := up x hx t htx
  obtain ⟨y1, m2, q2, e2⟩ := up y hy t hty
  rw [e1, e2]
  exact hs x1 m1 y1 m2 t ht q1 q2)
 have one : ∀ x ∈ (a ++ [v]) :: (b ++ [v]) :: R, s x = s (a ++ [v]) := by
  intro x hx
  rcases List.mem_cons.1 hx with rfl | hx
  ·rfl
  rcases List.mem_cons.1 hx with rfl | hx
  ·exact hAB.symm
  have q := hall x (by simp [hx]) n (by simp)
  rw [if_neg fun (q : x = n) => hdn.1 (q ▸ hx), if_pos rfl] at q
  exact q
 intro x hx y hy
 rw [one x hx, one y hy]
theorem Tr.once {E x : List Int} {R : List (List Int)} (h : Tr E (x :: R)) {u : Int} (hu : 0 ≤ u) (hx : u ∈ x) : ∀ y ∈ R, u ∉ y := fun y hy q => by
 have h1 := h.edg.nodup_iff.2 h.enod
 rw [List.flatten_cons, List.filter_append] at h1
 exact (List.nodup_append.1 h1).2.2 u (List.mem_filter.2 ⟨hx, decide_eq_true hu⟩) u (List.mem_filter.2 ⟨List.mem_flatten.2 ⟨y, hy, q⟩, decide_eq_true hu⟩) rfl
theorem len_ne {A : List Int} {v : Int} (h : A.Nodup) (hv : v ∈ A) : (A.filter fun u => decide (u ≠ v)).length + 1 = A.length := by
 have e : (A.filter fun u => decide (u ≠ v)) = A.erase v := by
  rw [h.erase_eq_filter]
  refine List.filter_congr fun x _ => ?_
  by_cases q : x = v <;> simp [q]
 rw [e, List.length_erase_of_mem hv]
 have := List.length_pos_of_mem hv
 omega
theorem Tr.merge {E A B : List Int} {R : List (List Int)} {v : Int} (h : Tr E (A :: B :: R)) (hv : v < 0) (hA : v ∈ A) (hB : v ∈ B) : Tr E ((A ++ B).filter (fun u => decide (u ≠ v)) :: R) := by
 obtain ⟨m, hm⟩ : ∃ m, (A ++ B).filter (fun u => decide (u ≠ v)) = m := ⟨_, rfl⟩
 rw [hm]
 have hmm : ∀ u, u ∈ m ↔ (u ∈ A ∨ u ∈ B) ∧ u ≠ v := fun u => by rw [← hm, List.mem_filter, List.mem_append, decide_eq_true_iff]
 have hd := h.dis
 rw [List.nodup_cons, List.nodup_cons] at hd
 obtain ⟨hA1, hB1, hR⟩ := hd
 have hAB : A ≠ B := fun q => hA1 (by simp [q])
 have hAR : A ∉ R := fun q => hA1 (by simp [q])
 have nA := h.nod A (by simp)
 have nB := h.nod B (by simp)
 obtain ⟨sv, hsv⟩ := h.brg v hv
 have dif : sv A ≠ sv B := (hsv A (by simp) B (by simp) v hv hA hB).2 rfl hAB
 have two : ∀ u, u < 0 → u ≠ v → u ∈ A → u ∉ B := fun u hu e h1 h2 => dif ((hsv A (by simp) B (by simp) u hu h1 h2).1 e)
 have onev : ∀ x ∈ R, v ∉ x := fun x hx q => by
  have c := h.two v hv
  simp only [List.countP_cons, decide_eq_true hA, decide_eq_true hB] at c
  have : 0 < R.countP fun x => decide (v ∈ x) := List.countP_pos_iff.2 ⟨x, hx, decide_eq_true q⟩
  simp only [if_true] at c
  omega
 have h3 : 3 ≤ A.length ∧ 3 ≤ B.length := by
  rcases h.big with q | q
  ·simp at q
  exact ⟨q A (by simp), q B (by simp)⟩
 have lA := len_ne nA hA
 have lB := len_ne nB hB
 have dis2 : ∀ u, u ∈ A → u ∈ B → u = v := fun u h1 h2 => by
  by_cases hu : u < 0
  ·exact Classical.byContradiction fun e => two u hu e h1 h2
  exact absurd h2 (h.once (Int.not_lt.1 hu) h1 B (by simp))
 have mR : m ∉ R := fun q => by
  have far : ∀ C ∈ A :: B :: R, C ∉ R → v ∈ C → (∀ u, 0 ≤ u → u ∈ C → u ∉ m) → (∀ u ∈ C, u ≠ v → u ∈ m) → 3 ≤ C.length → sv C = sv m := fun C hC _ hvC hno hin hl => by
   have l1 := len_ne (h.nod C hC) hvC
   obtain ⟨u, hu⟩ := List.exists_mem_of_length_pos (show 0 < (C.filter fun u => decide (u ≠ v)).length by omega)
   obtain ⟨u1, u2⟩ := List.mem_filter.1 hu
   have u2 := of_decide_eq_true u2
   by_cases hu0 : u < 0
   ·exact (hsv C hC m (by simp [q]) u hu0 u1 (hin u u1 u2)).1 u2
   exact absurd (hin u u1 u2) (hno u (Int.not_lt.1 hu0) u1)
  have p2 : (A :: B :: R).Perm (B :: A :: R) := List.Perm.swap _ _ _
  exact dif ((far A (by simp) hAR hA (fun u h1 h2 => h.once h1 h2 m (by simp [q])) (fun u h1 h2 => (hmm u).2 ⟨Or.inl h1, h2⟩) h3.1).trans (far B (by simp) hB1 hB (fun u h1 h2 => (h.perm p2).once h1 h2 m (by simp [q])) (fun u h1 h2 => (hmm u).2 ⟨Or.inr h1, h2⟩) h3.2).symm)
 refine ⟨h.enod, ?_, ?_, ?_, ?_, ?_, ?_, ?_, ?_⟩
 ·intro x hx
  rcases List.mem_cons.1 hx with rfl | hx
  ·rw [← hm, List.filter_append]
   refine List.nodup_append.2 ⟨nA.filter _, nB.filter _, fun a ha b hb e => ?_⟩
   have q1 := List.mem_filter.1 ha
   have q2 := List.mem_filter.1 hb
   subst e
   have := dis2 _ q1.1 q2.1
   simp [this] at q1
  exact h.nod x (by simp [hx])
 ·refine Or.inr fun x hx => ?_
  rcases List.mem_cons.1 hx with rfl | hx
  ·rw [← hm, List.filter_append, List.length_append]
   omega
  rcases h.big with q | q
  ·simp at q
  exact q x (by simp [hx])
 ·refine List.Perm.trans ?_ h.edg
  rw [← hm]
  have e : ∀ C : List Int, (C.filter fun u => decide (u ≠ v)).filter (fun u => decide (0 ≤ u)) = C.filter fun u => decide (0 ≤ u) := fun C => by
   rw [List.filter_filter]
   refine List.filter_congr fun u _ => ?_
   by_cases q : 0 ≤ u
   ·have : u ≠ v := by omega
    simp [q, this]
   simp [q]
  simp only [List.flatten_cons, List.filter_append, e]
  rw [List.append_assoc]
 ·have c := h.cnt
  have e : ∀ C : List Int, C.Nodup → v ∈ C → ((C.filter fun u => decide (u ≠ v)).filter fun u => decide (u < 0)).length + 1 = (C.filter fun u => decide (u < 0)).length := fun C h1 h2 => by
   rw [List.filter_filter]
   have := len_ne (h1.filter fun u => decide (u < 0)) (List.mem_filter.2 ⟨h2, decide_eq_true hv⟩)
   rw [List.filter_filter] at this
   rw [← this]
   congr 2
   exact List.filter_congr fun u _ => Bool.and_comm _ _
  have eA := e A nA hA
  have eB := e B nB hB
  rw [← hm]
  simp only [List.flatten_cons, List.filter_append, List.length_append, List.length_cons] at c ⊢
  omega
 ·rw [List.nodup_cons]
  exact ⟨mR, hR⟩
 ·intro u hu
  have c := h.two u hu
  simp only [List.countP_cons] at c ⊢
  by_cases e : u = v
  ·subst e
   exact Or.inl (by rw [List.countP_eq_zero.2 (fun x hx => by simpa using onev x hx)]; simp [hmm])
  have q := two u hu e
  by_cases h1 : u ∈ A <;> by_cases h2 : u ∈ B <;> simp [h1, h2, hmm, e] at c q ⊢ <;> exact c
 ·intro w hw
  obtain ⟨s, hs⟩ := h.brg w hw
  by_cases e : w = v
  ·subst e
   -- nobody has it any more
   refine ⟨fun y => true, fun x hx y hy t ht htx hty => ⟨fun _ => rfl, fun q => ?_⟩⟩
   subst q
   rcases List.mem_cons.1 hx with rfl | hx
   ·exact absurd rfl ((hmm _).1 htx).2
   exact absurd htx (onev x hx)
  refine ⟨fun y => if y = m then s A else s y, ?_⟩
  have hsAB : s A = s B := (hs A (by simp) B (by simp) v hv hA hB).1 (Ne.symm e)
  have old : ∀ x ∈ m :: R, ∀ t, t ∈ x → ∃ x0 ∈ A :: B :: R, t ∈ x0 ∧ (if x = m then s A else s x) = s x0 ∧ (x = m ∧ (x0 = A ∨ x0 = B) ∨ x ∈ R ∧ x0 = x) := by
   intro x hx t htx
   rcases List.mem_cons.1 hx with rfl | hx
   ·rcases ((hmm t).1 htx).1 with q | q
    ·exact ⟨A, by simp, q, if_pos rfl, Or.inl ⟨rfl, Or.inl rfl⟩⟩
    exact ⟨B, by simp, q, by rw [if_pos rfl, hsAB], Or.inl ⟨rfl, Or.inr rfl⟩⟩
   exact ⟨x, by simp [hx], htx, if_neg fun (q : x = m) => mR (q ▸ hx), Or.inr ⟨hx, rfl⟩⟩
  intro x hx y hy t ht htx hty
  obtain ⟨x0, hx0, q1, e1, c1⟩ := old x hx t htx
  obtain ⟨y0, hy0, q2, e2, c2⟩ := old y hy t hty
  dsimp only
  rw [e1, e2]
  have hh := hs x0 hx0 y0 hy0 t ht q1 q2
  refine ⟨hh.1, fun e3 hxy => hh.2 e3 fun e4 => hxy ?_⟩
  rcases c1 with ⟨rfl, c1⟩ | ⟨hxR, rfl⟩
  ·rcases c2 with ⟨rfl, c2⟩ | ⟨hyR, rfl⟩
   ·rfl
   rw [e4] at c1
   rcases c1 with rfl | rfl
   ·exact absurd hyR hAR
   exact absurd hyR hB1
  rcases c2 with ⟨rfl, c2⟩ | ⟨hyR, rfl⟩
  ·rw [← e4] at c2
   rcases c2 with rfl | rfl
   ·exact absurd hxR hAR
   exact absurd hxR hB1
  exact e4
 intro s hs
 have hall := h.con (fun y => if y = A ∨ y = B then s m else s y) (by
  intro x hx y hy t ht htx hty
  by_cases e : t = v
  ·subst e
   have hx' : x = A ∨ x = B := by
    rcases List.mem_cons.1 hx with q | hx
    ·exact Or.inl q
    rcases List.mem_cons.1 hx with q | hx
    ·exact Or.inr q
    exact absurd htx (onev x hx)
   have hy' : y = A ∨ y = B := by
    rcases List.mem_cons.1 hy with q | hy
    ·exact Or.inl q
    rcases List.mem_cons.1 hy with q | hy
    ·exact Or.inr q
    exact absurd hty (onev y hy)
   rw [if_pos hx', if_pos hy']
  have up : ∀ x ∈ A :: B :: R, t ∈ x → ∃ x1 ∈ m :: R, t ∈ x1 ∧ (if x = A ∨ x = B then s m else s x) = s x1 := by
   intro x hx htx
   rcases List.mem_cons.1 hx with rfl | hx
   ·exact ⟨m, by simp, (hmm t).2 ⟨Or.inl htx, e⟩, if_pos (Or.inl rfl)⟩
   rcases List.mem_cons.1 hx with rfl | hx
   ·exact ⟨m, by simp, (hmm t).2 ⟨Or.inr htx, e⟩, if_pos (Or.inr rfl)⟩
   exact ⟨x, by simp [hx], htx, if_neg fun (q : x = A ∨ x = B) => q.elim (fun q => hAR (q ▸ hx)) fun q => hB1 (q ▸ hx)⟩
  obtain ⟨x1, m1, q1, e1⟩ := up x hx htx
  obtain ⟨y1, m2, q2, e2⟩ := up y hy hty
  rw [e1, e2]
  exact hs x1 m1 y1 m2 t ht q1 q2)
 have one : ∀ x ∈ m :: R, s x = s m := by
  intro x hx
  rcases List.mem_cons.1 hx with rfl | hx
  ·rfl
  have q := hall x (by simp [hx]) A (by simp)
  rw [if_neg (fun (q : x = A ∨ x = B) => q.elim (fun q => hAR (q ▸ hx)) fun q => hB1 (q ▸ hx)), if_pos (Or.inl rfl)] at q
  exact q
 intro x hx y hy
 rw [one x hx, one y hy]
structure TrI (n : Nat) (h : Nat → Int → Prop) : Prop where
 two : ∀ v, v < 0 → ∀ i, i < n → h i v → ∃ j, j < n ∧ j ≠ i ∧ h j v ∧ ∀ k, k < n → h k v → k = i ∨ k = j
 brg : ∀ v, v < 0 → ∃ s : Nat → Bool, ∀ i j, i < n → j < n → ∀ u, u < 0 → h i u → h j u → (u ≠ v → s i = s j) ∧ (u = v → i ≠ j → s i ≠ s j)
 con : ∀ s : Nat → Bool, (∀ i j, i < n → j < n → ∀ u, u < 0 → h i u → h j u → s i = s j) → ∀ i j, i < n → j < n → s i = s j
section
variable {n : Nat} {h : Nat → Int → Prop} {s : Int → Nat → Bool} {mt : Nat → Int → Nat} {vl ed : Nat → List Int}
 (t : TrI n h) (hs : ∀ v, v < 0 → ∀ i j, i < n → j < n → ∀ u, u < 0 → h i u → h j u → (u ≠ v → s v i = s v j) ∧ (u = v → i ≠ j → s v i ≠ s v j))
 (hm : ∀ i v, i < n → v < 0 → h i v → mt i v < n ∧ mt i v ≠ i ∧ h (mt i v) v) (hvl : ∀ i v, i < n → (v ∈ vl i ↔ v < 0 ∧ h i v)) (hvn : ∀ i, i < n → (vl i).Nodup)
include t hs
end
def idsL (l : List Lk) : List Int := l.map Lk.id
def idsN (ns : List Nd) : List (List Int) := ns.map fun n => idsL n.l
theorem at0_range (l : List Lk) : (List.range l.length).map (at0 l) = l := by
 refine List.ext_getElem (by simp) fun i h1 h2 => ?_
 simp [at0, List.getD, h2]
theorem cut_perm {l : List Lk} {q : Nat → Bool} : (((List.range l.length).filter q).map (at0 l) ++ ((List.range l.length).filter fun i => !q i).map (at0 l)).Perm l := by
 rw [← List.map_append]
 have h := (List.filter_append_perm q (List.range l.length)).map (at0 l)
 rw [at0_range] at h
 exact h
theorem cutK_perm {l a b : List Lk} {u v : Int} {s : List Int} {id : Int} (h : cutK l u v s id = some (a, b)) : ∃ a0 b0 : List Lk, a = a0 ++ [⟨u, v, id⟩] ∧ b = b0 ++ [⟨u, v, id⟩] ∧ (a0 ++ b0).Perm l ∧ 2 ≤ a0.length ∧ 2 ≤ b0.length := by
 obtain ⟨rfl, rfl, h1, h2, h3, h4, h5, -⟩ := cutK_some h
 obtain ⟨q, hq⟩ := cls_row h3
 obtain ⟨e1, e2⟩ := offK_row hq
 exact ⟨_, _, rfl, rfl, by rw [e1, e2]; exact cut_perm, h4, h5⟩
theorem Tr.cutF {E : List Int} : ∀ (f : Nat) (todo : List (List Lk)) (done : List Nd) (last : Int), cutM todo < f → last ≤ 0 → (∀ x ∈ todo.map idsL ++ idsN done, ∀ v ∈ x, last ≤ v) → Tr E (todo.map idsL ++ idsN done) →
  Tr E (idsN (Plain.cutF f todo done last).1) ∧ (∀ x ∈ idsN (Plain.cutF f todo done last).1, ∀ v ∈ x, (Plain.cutF f todo done last).2 ≤ v) ∧ (Plain.cutF f todo done last).2 ≤ 0
 | 0, todo, done, last, hf, _, _, _ => by omega
 | f + 1, [], done, last, _, h0, hl, ht => by
  rw [List.map_nil, List.nil_append] at ht hl
  exact ⟨ht, hl, h0⟩
 | f + 1, l :: todo, done, last, hf, h0, hl, ht => by
  cases hc : cutN l last with
  | none =>
   rw [cutF_done hc]
   have p : (todo.map idsL ++ idsN (done ++ [⟨(kindK l).1, l⟩])).Perm ((l :: todo).map idsL ++ idsN done) := by
    unfold idsN
    rw [List.map_append, List.map_cons, List.map_nil, List.map_cons, ← List.append_assoc]
    exact List.perm_append_singleton _ _
   refine Tr.cutF f todo _ last (by have := cutM_pos l todo; omega) h0 (fun x hx => hl x (p.mem_iff.1 hx)) (ht.perm p.symm)
  | some ab =>
   obtain ⟨a, b⟩ := ab
   rw [cutF_cut hc]
   obtain ⟨u, v, s, -, hk⟩ := cutN_some hc
   obtain ⟨hlt, -⟩ := cutM_cut (t := todo) hk
   obtain ⟨a0, b0, rfl, rfl, hp, la, lb⟩ := cutK_perm hk
   have e : (((a0 ++ [⟨u, v, last - 1⟩]) :: (b0 ++ [⟨u, v, last - 1⟩]) :: todo).map idsL ++ idsN done) = (idsL a0 ++ [last - 1]) :: (idsL b0 ++ [last - 1]) :: (todo.map idsL ++ idsN done) := by
    simp [idsL]
   have hpi : (idsL l).Perm (idsL a0 ++ idsL b0) := by
    have := hp.symm.map Lk.id
    rw [List.map_append] at this
    exact this
   refine Tr.cutF f _ done (last - 1) (by omega) (by omega) ?_ ?_
   ·rw [e]
    intro x hx w hw
    have hall : ∀ w ∈ idsL l, last ≤ w := fun w hw => hl (idsL l) (by simp) w hw
    rcases List.mem_cons.1 hx with rfl | hx
    ·rcases List.mem_append.1 hw with q | q
     ·have := hall w (hpi.mem_iff.2 (List.mem_append_left _ q)); omega
     rw [List.mem_singleton.1 q]; omega
    rcases List.mem_cons.1 hx with rfl | hx
    ·rcases List.mem_append.1 hw with q | q
     ·have := hall w (hpi.mem_iff.2 (List.mem_append_right _ q)); omega
     rw [List.mem_singleton.1 q]; omega
    have := hl x (by rw [List.map_cons, List.cons_append]; exact List.mem_cons_of_mem _ hx) w hw
    omega
   rw [e]
   rw [List.map_cons, List.cons_append] at ht hl
   refine ht.cut hpi (by simpa [idsL] using la) (by simpa [idsL] using lb) (by omega) fun x hx q => ?_
   have := hl x hx _ q
   omega
theorem perm_erase {α : Type} {l : List α} {i : Nat} (h : i < l.length) : (l[i] :: l.eraseIdx i).Perm l := by
 have e : l = l.take i ++ l[i] :: l.drop (i + 1) := by rw [← List.drop_eq_getElem_cons h, List.take_append_drop]
 rw [List.eraseIdx_eq_take_drop_succ]
 exact List.perm_middle.symm.trans (List.Perm.of_eq e.symm)
theorem two_of {α : Type} [Inhabited α] (ns : List α) (m : α) {i j : Nat} (hij : i < j) (hj : j < ns.length) : ∃ R, ns.Perm (ns.getD i default :: ns.getD j default :: R) ∧ ((ns.set i m).eraseIdx j).Perm (m :: R) := by
 refine ⟨(ns.eraseIdx j).eraseIdx i, ?_, ?_⟩
 ·have h1 := (perm_erase hj).symm
  have hi2 : i < (ns.eraseIdx j).length := by rw [List.length_eraseIdx_of_lt hj]; omega
  have h2 := (perm_erase hi2).symm
  have e : (ns.eraseIdx j)[i] = ns[i] := List.getElem_eraseIdx_of_lt _ hij
  rw [e] at h2
  have e1 : ns.getD i default = ns[i] := by simp [List.getD, show i < ns.length by omega]
  have e2 : ns.getD j default = ns[j] := by simp [List.getD, hj]
  rw [e1, e2]
  exact (h1.trans (h2.cons _)).trans (List.Perm.swap _ _ _)
 have hs : j < (ns.set i m).length := by rw [List.length_set]; exact hj
 have hi2 : i < ((ns.set i m).eraseIdx j).length := by rw [List.length_eraseIdx_of_lt hs, List.length_set]; omega
 have h2 := (perm_erase hi2).symm
 have e : ((ns.set i m).eraseIdx j)[i] = m := by rw [List.getElem_eraseIdx_of_lt _ hij]; simp
 rw [e] at h2
 refine h2.trans (List.Perm.cons _ ?_)
 have : ((ns.set i m).eraseIdx j).eraseIdx i = (ns.eraseIdx j).eraseIdx i := by
  refine List.ext_getElem? fun k => ?_
  simp only [List.getElem?_eraseIdx, List.getElem?_set]
  grind
 rw [this]
theorem hasK_iff {n : Nd} {id : Int} : hasK n id = true ↔ id ∈ idsL n.l := by
 unfold hasK idsL
 rw [List.any_eq_true, List.mem_map]
 simp
theorem mergeS_cases (ns : List Nd) (id : Int) : mergeS ns id = ns ∨ ∃ a b : Nd, ∃ R : List Nd, ns.Perm (a :: b :: R) ∧ (mergeS ns id).Perm (⟨a.kind, (a.l ++ b.l).filter fun x => x.id ≠ id⟩ :: R) ∧ id ∈ idsL a.l ∧ id ∈ idsL b.l ∧ a.kind = b.kind ∧ (a.kind = 1 ∨ a.kind = 2) := by
 unfold mergeS
 split
 ·rename_i i j h
  split
  ·exact Or.inl rfl
  rename_i hk
  have hk1 : (nd0 ns i).kind = (nd0 ns j).kind := Classical.byContradiction fun q => hk (Or.inl q)
  have hk2 : (nd0 ns i).kind = 1 ∨ (nd0 ns i).kind = 2 := by
   rcases Classical.em ((nd0 ns i).kind = 1) with q | q
   ·exact Or.inl q
   exact Or.inr (Classical.byContradiction fun q2 => hk (Or.inr ⟨q, q2⟩))
  obtain ⟨hij, hj⟩ := atK_lt h
  obtain ⟨R, p1, p2⟩ := two_of ns (⟨(nd0 ns i).kind, ((nd0 ns i).l ++ (nd0 ns j).l).filter fun x => x.id ≠ id⟩ : Nd) hij hj
  have hm : ∀ k ∈ atK ns id, id ∈ idsL (nd0 ns k).l := fun k hk => hasK_iff.1 (List.mem_filter.1 hk).2
  exact Or.inr ⟨_, _, R, p1, p2, hm i (by rw [h]; simp), hm j (by rw [h]; simp), hk1, hk2⟩
 exact Or.inl rfl
theorem Tr.mergeS {E : List Int} {ns : List Nd} (h : Tr E (idsN ns)) {id : Int} (hid : id < 0) : Tr E (idsN (Plain.mergeS ns id)) := by
 rcases mergeS_cases ns id with e | ⟨a, b, R, p1, p2, ha, hb, -, -⟩
 ·rw [e]; exact h
 have h1 : Tr E (idsL a.l :: idsL b.l :: idsN R) := h.perm (p1.map fun n : Nd => idsL n.l)
 have h2 := h1.merge hid ha hb
 refine h2.perm ?_
 have p3 := p2.symm.map fun n : Nd => idsL n.l
 have e : (idsL a.l ++ idsL b.l).filter (fun u => decide (u ≠ id)) = idsL ((a.l ++ b.l).filter fun x => x.id ≠ id) := by
  unfold idsL
  rw [← List.map_append, List.filter_map]
  rfl
 rw [e]
 exact p3
theorem Tr.mergeK {E : List Int} {ns : List Nd} (h : Tr E (idsN ns)) : ∀ k, Tr E (idsN (Plain.mergeK ns k))
 | 0 => h
 | k + 1 => (Tr.mergeK h k).mergeS (by omega)
theorem numF_at {rs : List T3} (hn : (rs.map T3.c).Nodup) : ∀ (k : Nat), k ≤ rs.length → ∀ j, j < k → numF rs k (t30 rs j).c = some (-1 - (j : Int))
 | 0, _, j, hj => by omega
 | k + 1, hk, j, hj => by
  unfold numF
  by_cases e : j = k
  ·rw [e, if_pos rfl]
  have ne : (t30 rs j).c ≠ (t30 rs k).c := fun q => e (by
   have g : ∀ i, i < rs.length → (rs.map T3.c).idxOf (t30 rs i).c = i := fun i hi => by
    have h2 : i < (rs.map T3.c).length := by rw [List.length_map]; exact hi
    have : (t30 rs i).c = (rs.map T3.c)[i] := by simp [t30, List.getD, hi]
    rw [this]
    exact hn.idxOf_getElem _ h2
   rw [← g j (by omega), q, g k (by omega)])
  rw [if_neg ne]
  exact numF_at hn k (by omega) j (by omega)
def linksP (g : Gr) (p : Pt) : List Lk := p.e.map fun e => ⟨(g.at e).1, (g.at e).2, e⟩
def loopB (g : Gr) (p : Pt) (k : Nat) : Bool := (p.e.take k).any fun e => (g.at e).1 == (g.at e).2
noncomputable def newErr (g : Gr) (p : Pt) : Int := if p.err g ≠ 0 then p.err g else if solidB g p = false then 10 else if loopB g p p.e.length = true then 16 else 0
theorem linksP_snoc {g : Gr} {p : Pt} {k : Nat} (h : k < p.e.length) : (linksP g p).take (k + 1) = (linksP g p).take k ++ [⟨(g.at (p.e.getD k 0)).1, (g.at (p.e.getD k 0)).2, p.e.getD k 0⟩] := by
 unfold linksP
 rw [← List.map_take, ← List.map_take, List.take_succ_eq_append_getElem h, List.map_append]
 simp [List.getD, h]
theorem loopB_succ {g : Gr} {p : Pt} {k : Nat} (h : k < p.e.length) : loopB g p (k + 1) = (loopB g p k || (g.at (p.e.getD k 0)).1 == (g.at (p.e.getD k 0)).2) := by
 unfold loopB
 rw [List.take_succ_eq_append_getElem h, List.any_append]
 simp [List.getD, h]
theorem loopB_all {g : Gr} {p : Pt} {k : Nat} (h : loopB g p k = true) : loopB g p p.e.length = true := by
 unfold loopB at h ⊢
 rw [List.any_eq_true] at h ⊢
 obtain ⟨x, hx, h⟩ := h
 exact ⟨x, by rw [List.take_length]; exact List.mem_of_mem_take hx, h⟩
theorem linksP_len (g : Gr) (p : Pt) : (linksP g p).length = p.e.length := by simp [linksP]
theorem linksP_ids (g : Gr) (p : Pt) : idsL (linksP g p) = p.e := by
 unfold idsL linksP
 rw [List.map_map]
 exact List.map_id _
theorem cutF_last : ∀ (f : Nat) (todo : List (List Lk)) (done : List Nd) (last : Int), last - f ≤ (cutF f todo done last).2
 | 0, _, _, last => by show last - 0 ≤ last; omega
 | f + 1, [], _, last => by show last - _ ≤ last; omega
 | f + 1, l :: todo, done, last => by
  cases hc : cutN l last with
  | none => rw [cutF_done hc]; have := cutF_last f todo (done ++ [⟨(kindK l).1, l⟩]) last; omega
  | some ab => rw [cutF_cut hc]; have := cutF_last f (ab.1 :: ab.2 :: todo) done (last - 1); omega
theorem sumK_flat (ns : List Nd) : sumK ns = (idsN ns).flatten.length := by
 unfold sumK idsN idsL
 induction ns with
 | nil => rfl
 | cons n ns ih => simp [ih]
theorem Tr.size {E : List Int} {ns : List Nd} (h : Tr E (idsN ns)) : ns.length ≤ E.length + 1 ∧ sumK ns ≤ 3 * E.length := by
 have c := h.cnt
 have e := h.edg.length_eq
 have hs : sumK ns = ((idsN ns).flatten.filter fun v => decide (0 ≤ v)).length + ((idsN ns).flatten.filter fun v => decide (v < 0)).length := by
  rw [sumK_flat]
  have := filter_two (fun v => decide (0 ≤ v)) (idsN ns).flatten
  rw [← this]
  congr 2
  refine List.filter_congr fun v _ => ?_
  by_cases q : 0 ≤ v
  ·simp [q]
  simp [q]; omega
 have hl : (idsN ns).length = ns.length := by simp [idsN]
 rw [hl] at c
 have hb : ns.length ≤ 1 ∨ 3 * ns.length ≤ sumK ns := by
  rcases h.big with q | q
  ·left; omega
  right
  have : ∀ ms : List Nd, (∀ n ∈ ms, 3 ≤ (idsL n.l).length) → 3 * ms.length ≤ sumK ms := fun ms => by
   induction ms with
   | nil => intro _; exact Nat.le_refl _
   | cons n ms ih =>
    intro hq
    have h1 := ih fun m hm => hq m (by simp [hm])
    have h2 := hq n (by simp)
    simp only [idsL, List.length_map] at h2
    simp only [sumK, List.map_cons, List.sum_cons, List.length_cons] at h1 ⊢
    omega
  exact this ns fun n hn => q _ (List.mem_map.2 ⟨n, hn, rfl⟩)
 omega
theorem tree_new {g : Gr} {p : Pt} (he : p.err g = 0) : Tr p.e (idsN (cutT (linksP g p)).1) ∧ (∀ x ∈ idsN (cutT (linksP g p)).1, ∀ v ∈ x, (cutT (linksP g p)).2 ≤ v) ∧ (cutT (linksP g p)).2 ≤ 0 ∧ -((2 * p.e.length + 2 : Nat) : Int) ≤ (cutT (linksP g p)).2 := by
 have hin : ∀ e ∈ p.e, 0 ≤ e := fun e q => (Pt.edge_in he q).1
 have t0 := Tr.one (rises_nodup (Pt.err_ok he).2.2.1) hin
 have hm : cutM [linksP g p] < 2 * (linksP g p).length + 2 := by
  rw [cutM_cons]
  show max 1 (2 * (linksP g p).length - 5) + 0 < _
  omega
 obtain ⟨a, b, c⟩ := Tr.cutF (E := p.e) (2 * (linksP g p).length + 2) [linksP g p] [] 0 hm (Int.le_refl _) (fun x hx v hv => by
  simp only [idsN, List.map_cons, List.map_nil, List.append_nil, List.mem_singleton] at hx
  subst hx
  rw [linksP_ids] at hv
  exact hin v hv) (by
  simp only [idsN, List.map_cons, List.map_nil, List.append_nil, linksP_ids]
  exact t0)
 refine ⟨a, b, c, ?_⟩
 have := cutF_last (2 * (linksP g p).length + 2) [linksP g p] [] 0
 rw [linksP_len] at this
 unfold cutT
 rw [linksP_len]
 omega
theorem mergeS_ids {ns : List Nd} {id : Int} : ∀ x ∈ idsN (mergeS ns id), ∀ v ∈ x, ∃ y ∈ idsN ns, v ∈ y := by
 intro x hx v hv
 rcases mergeS_cases ns id with e | ⟨a, b, R, p1, p2, -⟩
 ·rw [e] at hx; exact ⟨x, hx, hv⟩
 have q1 := p1.map fun n : Nd => idsL n.l
 have q2 := (p2.map fun n : Nd => idsL n.l).mem_iff.1 hx
 have mem : ∀ y, y ∈ idsL a.l :: idsL b.l :: idsN R → y ∈ idsN ns := fun y hy => q1.mem_iff.2 hy
 rcases List.mem_cons.1 q2 with rfl | q2
 ·obtain ⟨z, hz, rfl⟩ := List.mem_map.1 hv
  rcases List.mem_append.1 (List.mem_filter.1 hz).1 with q | q
  ·exact ⟨idsL a.l, mem _ (by simp), List.mem_map.2 ⟨z, q, rfl⟩⟩
  exact ⟨idsL b.l, mem _ (List.mem_cons_of_mem _ (by simp)), List.mem_map.2 ⟨z, q, rfl⟩⟩
 exact ⟨x, mem _ (List.mem_cons_of_mem _ (List.mem_cons_of_mem _ q2)), hv⟩
theorem mergeK_ids {ns : List Nd} : ∀ k, ∀ x ∈ idsN (mergeK ns k), ∀ v ∈ x, ∃ y ∈ idsN ns, v ∈ y
 | 0, x, hx, v, hv => ⟨x, hx, hv⟩
 | k + 1, x, hx, v, hv => by
  obtain ⟨y, hy, h2⟩ := mergeS_ids x hx v hv
  exact mergeK_ids k y hy v h2
theorem tree_ns {g : Gr} {p : Pt} (he : p.err g = 0) {ns : List Nd} {m : Nat} (hp : ns.Perm (mergeK (cutT (linksP g p)).1 m)) : Tr p.e (idsN ns) ∧ ∀ i, i < ns.length → ∀ v ∈ idsL (nd0 ns i).l, -((2 * p.e.length + 2 : Nat) : Int) ≤ v ∧ v < g.e.length := by
 obtain ⟨h1, h2, h3, h4⟩ := tree_new he
 have ht : Tr p.e (idsN ns) := (h1.mergeK m).perm (hp.symm.map fun n : Nd => idsL n.l)
 refine ⟨ht, fun i hi v hv => ?_⟩
 have hm : idsL (nd0 ns i).l ∈ idsN ns := List.mem_map.2 ⟨_, by unfold nd0; simp [List.getD, hi], rfl⟩
 constructor
 ·obtain ⟨y, hy, h5⟩ := mergeK_ids m _ ((hp.map fun n : Nd => idsL n.l).mem_iff.1 hm) v hv
  have := h2 y hy v h5
  omega
 by_cases q : v < 0
 ·omega
 have : v ∈ p.e := ht.edg.mem_iff.1 (List.mem_filter.2 ⟨List.mem_flatten.2 ⟨_, hm, hv⟩, decide_eq_true (Int.not_lt.1 q)⟩)
 exact (Pt.edge_in he this).2
end Go.Proofs.YtpcgklagmcnhaaaGreat.Plain
