/- Trees of skeletons: right nodes that meet at their links' ends alone; cut, merged. No program here. -/
import Derived.Test.YtpcgklagmcnhaaaGreatT7SolF
namespace Go.Proofs.YtpcgklagmcnhaaaGreat.Plain
section
variable {E n : List Int} {R : List (List Int)}
theorem Tr.bridges {X : List (List Int)} (h : Tr E X) : ∃ F : Int → List Int → Bool, ∀ v, v < 0 → ∀ x ∈ X, ∀ y ∈ X, ∀ u, u < 0 → u ∈ x → u ∈ y → (u ≠ v → F v x = F v y) ∧ (u = v → x ≠ y → F v x ≠ F v y) := by
 have hbr : ∀ v : Int, ∃ s : List Int → Bool, v < 0 → ∀ x ∈ X, ∀ y ∈ X, ∀ u, u < 0 → u ∈ x → u ∈ y → (u ≠ v → s x = s y) ∧ (u = v → x ≠ y → s x ≠ s y) := fun v => by
  by_cases hv : v < 0
  ·obtain ⟨s, hs⟩ := h.brg v hv
   exact ⟨s, fun _ => hs⟩
  exact ⟨fun _ => true, fun q => absurd q hv⟩
 exact Classical.axiomOfChoice hbr
variable (h : Tr E (n :: R)) {F : Int → List Int → Bool} (hF : ∀ v, v < 0 → ∀ x ∈ n :: R, ∀ y ∈ n :: R, ∀ u, u < 0 → u ∈ x → u ∈ y → (u ≠ v → F v x = F v y) ∧ (u = v → x ≠ y → F v x ≠ F v y))
include h hF
theorem Tr.beyond_one {y : List Int} (hy : y ∈ R) : ∃ t, t < 0 ∧ t ∈ n ∧ F t y ≠ F t n := by
 refine Classical.byContradiction fun q => ?_
 have q' : ∀ t, t < 0 → t ∈ n → F t y = F t n := fun t h1 h2 => Classical.byContradiction fun h3 => q ⟨t, h1, h2, h3⟩
 have hyn : y ≠ n := fun e => (List.nodup_cons.1 h.dis).1 (e ▸ hy)
 open Classical in
 have c := h.con (fun k => decide (k ≠ n ∧ ∀ t, t < 0 → t ∈ n → F t k = F t n)) (fun x hx z hz u hu h1 h2 => by
  rw [decide_eq_decide]
  by_cases hun : u ∈ n
  ·have no : ∀ x, x ∈ n :: R → u ∈ x → ¬ (x ≠ n ∧ ∀ t, t < 0 → t ∈ n → F t x = F t n) := fun x hx h1 q3 => (hF u hu x hx n (by simp) u hu h1 hun).2 rfl q3.1 (q3.2 u hu hun)
   exact ⟨fun q3 => absurd q3 (no x hx h1), fun q3 => absurd q3 (no z hz h2)⟩
  have e : ∀ t, t < 0 → t ∈ n → F t x = F t z := fun t ht ht2 => (hF t ht x hx z hz u hu h1 h2).1 (fun q3 => hun (q3 ▸ ht2))
  exact ⟨fun q3 => ⟨fun q4 => hun (q4 ▸ h2), fun t ht ht2 => (e t ht ht2).symm.trans (q3.2 t ht ht2)⟩, fun q3 => ⟨fun q4 => hun (q4 ▸ h1), fun t ht ht2 => (e t ht ht2).trans (q3.2 t ht ht2)⟩⟩) n (by simp) y (by simp [hy])
 simp [hyn] at c
 obtain ⟨t, h1, h2, h3⟩ := c
 exact h3 (q' t h1 h2)
theorem Tr.beyond_uniq {y : List Int} (hy : y ∈ n :: R) {t x : Int} (ht : t < 0) (hx : x < 0) (h1 : t ∈ n) (h2 : x ∈ n) (h3 : F t y ≠ F t n) (h4 : F x y ≠ F x n) : t = x := by
 refine Classical.byContradiction fun q => ?_
 have c := h.con (fun k => (F t k != F t n) && (F x k != F x n)) (fun a ha b hb u hu q1 q2 => by
  by_cases ew : u = t
  ·subst ew
   have ex : ∀ a, a ∈ n :: R → u ∈ a → (F x a != F x n) = false := fun a ha q1 => by
    have := (hF x hx a ha n (by simp) u hu q1 h1).1 q
    simp [this]
   rw [ex a ha q1, ex b hb q2, Bool.and_false, Bool.and_false]
  by_cases ex : u = x
  ·subst ex
   have e2 : ∀ a, a ∈ n :: R → u ∈ a → (F t a != F t n) = false := fun a ha q1 => by
    have := (hF t ht a ha n (by simp) u hu q1 h2).1 ew
    simp [this]
   rw [e2 a ha q1, e2 b hb q2, Bool.false_and, Bool.false_and]
  rw [(hF t ht a ha b hb u hu q1 q2).1 ew, (hF x hx a ha b hb u hu q1 q2).1 ex]) n (by simp) y hy
 simp [h3, h4] at c
theorem Tr.side_col {s : List Int → Bool} {k : Bool} {t : Int} (ht : t < 0) (htn : t ∈ n) (hs : ∀ x ∈ R, ∀ y ∈ R, ∀ u, u < 0 → u ∈ x → u ∈ y → s x = s y) (hk : ∀ x ∈ R, t ∈ x → s x = k) {y : List Int} (hy : y ∈ R) (hyt : F t y ≠ F t n) : s y = k := by
 have hnR := (List.nodup_cons.1 h.dis).1
 have c := h.con (fun x => decide (x = n) || ((F t x == F t n) || (s x == k))) (fun x hx z hz u hu h1 h2 => by
  by_cases e : u = t
  ·subst e
   have : ∀ x, x ∈ n :: R → u ∈ x → (decide (x = n) || ((F u x == F u n) || (s x == k))) = true := fun x hx h1 => by
    rcases List.mem_cons.1 hx with rfl | hx
    ·simp
    simp [hk x hx h1]
   rw [this x hx h1, this z hz h2]
  have hFt := (hF t ht x hx z hz u hu h1 h2).1 e
  have two : ∀ x z, x ∈ n :: R → z ∈ n :: R → u ∈ x → u ∈ z → F t x = F t z → x = n → (decide (x = n) || ((F t x == F t n) || (s x == k))) = (decide (z = n) || ((F t z == F t n) || (s z == k))) := fun x z hx hz h1 h2 hxz exn => by
   subst exn
   rw [← hxz]
   simp
  by_cases ex : x = n
  ·exact two x z hx hz h1 h2 hFt ex
  by_cases ez : z = n
  ·exact (two z x hz hx h2 h1 hFt.symm ez).symm
  have hxR := (List.mem_cons.1 hx).resolve_left ex
  have hzR := (List.mem_cons.1 hz).resolve_left ez
  rw [hFt, hs x hxR z hzR u hu h1 h2]
  simp [ex, ez]) n (by simp) y (by simp [hy])
 have hyn : y ≠ n := fun e => hnR (e ▸ hy)
 simp [hyn, hyt] at c
 exact c
end
def EndV (L : List (List Lk)) (v w : Int) : Prop := ∃ l ∈ L, ∃ x ∈ l, x.id = v ∧ (x.a = w ∨ x.b = w)
structure TrC (E : List Int) (l0 : List Lk) (L : List (List Lk)) : Prop where
 tr : Tr E (L.map idsL)
 rt : ∀ l ∈ L, Rt l
 old : ∀ l ∈ L, ∀ x ∈ l, 0 ≤ x.id → x ∈ l0
 vx : ∀ l ∈ L, ∀ w, Vx l w → Vx l0 w
 en : ∀ l ∈ L, ∀ m ∈ L, ∀ x ∈ l, ∀ y ∈ m, x.id = y.id → x.id < 0 → x.a = y.a ∧ x.b = y.b
 sep : ∀ v, v < 0 → ∀ s : List Int → Bool, (∀ l ∈ L, ∀ m ∈ L, ∀ u, u < 0 → u ≠ v → u ∈ idsL l → u ∈ idsL m → s (idsL l) = s (idsL m)) → ∀ l ∈ L, ∀ m ∈ L, s (idsL l) ≠ s (idsL m) → ∀ w, Vx l w → Vx m w → EndV L v w
theorem TrC.perm {E : List Int} {l0 : List Lk} {L M : List (List Lk)} (h : TrC E l0 L) (p : L.Perm M) : TrC E l0 M where
 tr := h.tr.perm (p.map _)
 rt l hl := h.rt l (p.mem_iff.2 hl)
 old l hl := h.old l (p.mem_iff.2 hl)
 vx l hl := h.vx l (p.mem_iff.2 hl)
 en l hl m hm := h.en l (p.mem_iff.2 hl) m (p.mem_iff.2 hm)
 sep v hv s hs l hl m hm hne w h1 h2 := by
  obtain ⟨k, hk, r⟩ := h.sep v hv s (fun l hl m hm => hs l (p.mem_iff.1 hl) m (p.mem_iff.1 hm)) l (p.mem_iff.2 hl) m (p.mem_iff.2 hm) hne w h1 h2
  exact ⟨k, p.mem_iff.1 hk, r⟩
theorem TrC.one {E : List Int} {l0 : List Lk} (hE : idsL l0 = E) (hn : E.Nodup) (h0 : ∀ e ∈ E, 0 ≤ e) (hr : Rt l0) : TrC E l0 [l0] where
 tr := by rw [List.map_cons, List.map_nil, hE]; exact Tr.one hn h0
 rt l hl := by rw [List.mem_singleton.1 hl]; exact hr
 old l hl x hx _ := by rw [List.mem_singleton.1 hl] at hx; exact hx
 vx l hl w hw := by rw [List.mem_singleton.1 hl] at hw; exact hw
 en l hl m hm x hx y hy _ hneg := by
  rw [List.mem_singleton.1 hl] at hx
  have := h0 x.id (by rw [← hE]; exact List.mem_map.2 ⟨x, hx, rfl⟩)
  omega
 sep v hv s hs l hl m hm hne := by
  rw [List.mem_singleton.1 hl, List.mem_singleton.1 hm] at hne
  exact absurd rfl hne
theorem TrC.cut {E : List Int} {l0 N a b : List Lk} {R : List (List Lk)} {u v : Int} {s0 : List Int} {id : Int} (h : TrC E l0 (N :: R)) (hk : cutK N u v s0 id = some (a, b)) (hf : ∀ l ∈ N :: R, ∀ x ∈ l, x.id ≠ id) : TrC E l0 (a :: b :: R) := by
 obtain ⟨ra, rb⟩ := cut_right hk
 obtain ⟨a0, b0, rfl, rfl, hp, ha, hb, hid, -, hsep, huv, hu, hv, hr⟩ := cutK_sep hk
 have hpi : (idsL N).Perm (idsL a0 ++ idsL b0) := by
  have := hp.symm.map Lk.id
  rw [List.map_append] at this
  exact this
 have ia : idsL (a0 ++ [⟨u, v, id⟩]) = idsL a0 ++ [id] := by simp [idsL]
 have ib : idsL (b0 ++ [⟨u, v, id⟩]) = idsL b0 ++ [id] := by simp [idsL]
 have htr0 : Tr E (idsL N :: R.map idsL) := h.tr
 have hfi : ∀ x ∈ idsL N :: R.map idsL, id ∉ x := fun x hx q => by
  rcases List.mem_cons.1 hx with rfl | hx
  ·obtain ⟨y, hy, e⟩ := List.mem_map.1 q
   exact hf N (by simp) y hy e
  obtain ⟨m, hm, rfl⟩ := List.mem_map.1 hx
  obtain ⟨y, hy, e⟩ := List.mem_map.1 q
  exact hf m (by simp [hm]) y hy e
 have htr : Tr E ((idsL a0 ++ [id]) :: (idsL b0 ++ [id]) :: R.map idsL) := htr0.cut hpi (by simpa [idsL] using ha) (by simpa [idsL] using hb) hid hfi
 have memN : ∀ x, x ∈ N ↔ x ∈ a0 ∨ x ∈ b0 := fun x => by rw [← hp.mem_iff, List.mem_append]
 have midN : ∀ t, t ∈ idsL N ↔ t ∈ idsL a0 ∨ t ∈ idsL b0 := fun t => by rw [hpi.mem_iff, List.mem_append]
 have vN : ∀ w, Vx N w ↔ Vx a0 w ∨ Vx b0 w := fun w => by rw [← vx_perm hp, vx_app]
 have vA : ∀ w, Vx (a0 ++ [⟨u, v, id⟩]) w ↔ Vx a0 w ∨ u = w ∨ v = w := fun w => by rw [vx_app, vx_one]
 have vB : ∀ w, Vx (b0 ++ [⟨u, v, id⟩]) w ↔ Vx b0 w ∨ u = w ∨ v = w := fun w => by rw [vx_app, vx_one]
 -- where a new node came from
 have src : ∀ l ∈ (a0 ++ [⟨u, v, id⟩]) :: (b0 ++ [⟨u, v, id⟩]) :: R, ∃ m ∈ N :: R, (∀ w, Vx l w → Vx m w) ∧ (∀ x ∈ l, x.id ≠ id → x ∈ m) ∧ ((l = a0 ++ [⟨u, v, id⟩] ∨ l = b0 ++ [⟨u, v, id⟩]) ∧ m = N ∨ l ∈ R ∧ m = l) := by
  intro l hl
  rcases List.mem_cons.1 hl with rfl | hl
  ·refine ⟨N, by simp, fun w hw => ?_, fun x hx hne => ?_, Or.inl ⟨Or.inl rfl, rfl⟩⟩
   ·rcases (vA w).1 hw with q | rfl | rfl
    ·exact (vN w).2 (Or.inl q)
    ·exact hu
    exact hv
   rcases List.mem_append.1 hx with q | q
   ·exact (memN x).2 (Or.inl q)
   rw [List.mem_singleton.1 q] at hne; exact absurd rfl hne
  rcases List.mem_cons.1 hl with rfl | hl
  ·refine ⟨N, by simp, fun w hw => ?_, fun x hx hne => ?_, Or.inl ⟨Or.inr rfl, rfl⟩⟩
   ·rcases (vB w).1 hw with q | rfl | rfl
    ·exact (vN w).2 (Or.inr q)
    ·exact hu
    exact hv
   rcases List.mem_append.1 hx with q | q
   ·exact (memN x).2 (Or.inr q)
   rw [List.mem_singleton.1 q] at hne; exact absurd rfl hne
  exact ⟨l, by simp [hl], fun w hw => hw, fun x hx _ => hx, Or.inr ⟨hl, rfl⟩⟩
 have endUp : ∀ t w, EndV (N :: R) t w → EndV ((a0 ++ [⟨u, v, id⟩]) :: (b0 ++ [⟨u, v, id⟩]) :: R) t w := by
  rintro t w ⟨l, hl, x, hx, r⟩
  rcases List.mem_cons.1 hl with rfl | hl
  ·rcases (memN x).1 hx with q | q
   ·exact ⟨a0 ++ [⟨u, v, id⟩], by simp, x, List.mem_append_left _ q, r⟩
   exact ⟨b0 ++ [⟨u, v, id⟩], by simp, x, List.mem_append_left _ q, r⟩
  exact ⟨l, by simp [hl], x, hx, r⟩
 have new_id : ∀ l ∈ (a0 ++ [⟨u, v, id⟩]) :: (b0 ++ [⟨u, v, id⟩]) :: R, ∀ x ∈ l, x.id = id → x = ⟨u, v, id⟩ := by
  intro l hl x hx e
  refine Classical.byContradiction fun hne => ?_
  rcases List.mem_cons.1 hl with rfl | hl
  ·rcases List.mem_append.1 hx with q | q
   ·exact hf N (by simp) x ((memN x).2 (Or.inl q)) e
   exact hne (List.mem_singleton.1 q)
  rcases List.mem_cons.1 hl with rfl | hl
  ·rcases List.mem_append.1 hx with q | q
   ·exact hf N (by simp) x ((memN x).2 (Or.inr q)) e
   exact hne (List.mem_singleton.1 q)
  exact hf l (by simp [hl]) x hx e
 refine ⟨by rw [List.map_cons, List.map_cons, ia, ib]; exact htr, fun l hl => ?_, fun l hl x hx h0 => ?_, fun l hl w hw => ?_, fun l hl m hm x hx y hy e hneg => ?_, fun t ht s hs l hl m hm hne w h1 h2 => ?_⟩
 ·rcases List.mem_cons.1 hl with rfl | hl
  ·exact ra
  rcases List.mem_cons.1 hl with rfl | hl
  ·exact rb
  exact h.rt l (by simp [hl])
 ·obtain ⟨m, hm, -, h3, -⟩ := src l hl
  exact h.old m hm x (h3 x hx (by omega)) h0
 ·obtain ⟨m, hm, h3, -⟩ := src l hl
  exact h.vx m hm w (h3 w hw)
 ·by_cases hx0 : x.id = id
  ·rw [new_id l hl x hx hx0, new_id m hm y hy (e ▸ hx0)]
   exact ⟨rfl, rfl⟩
  obtain ⟨l1, hl1, -, h3, -⟩ := src l hl
  obtain ⟨m1, hm1, -, h4, -⟩ := src m hm
  exact h.en l1 hl1 m1 hm1 x (h3 x hx hx0) y (h4 y hy (fun q => hx0 (e.trans q))) e hneg
 by_cases e : t = id
 ·subst e
  -- the new link
  obtain ⟨F, hF⟩ := htr0.bridges
  have hsR : ∀ x ∈ R.map idsL, ∀ y ∈ R.map idsL, ∀ k, k < 0 → k ∈ x → k ∈ y → s x = s y := by
   intro x hx y hy k hk q1 q2
   obtain ⟨l, hl, rfl⟩ := List.mem_map.1 hx
   obtain ⟨m, hm, rfl⟩ := List.mem_map.1 hy
   refine hs l (by simp [hl]) m (by simp [hm]) k hk (fun q => ?_) q1 q2
   subst q
   exact hfi _ (List.mem_cons_of_mem _ hx) q1
  have near : ∀ (c : List Lk) (hc : c = a0 ∨ c = b0) (x : Int), x < 0 → x ∈ idsL c → ∀ y ∈ R, x ∈ idsL y → s (idsL y) = s (idsL (c ++ [⟨u, v, t⟩])) := by
   intro c hc x hx hxc y hy hxy
   have hmem : c ++ [⟨u, v, t⟩] ∈ (a0 ++ [⟨u, v, t⟩]) :: (b0 ++ [⟨u, v, t⟩]) :: R := by rcases hc with rfl | rfl <;> simp
   refine hs y (by simp [hy]) _ hmem x hx (fun q => ?_) hxy ?_
   ·subst q
    exact hfi _ (List.mem_cons_of_mem _ (List.mem_map.2 ⟨y, hy, rfl⟩)) hxy
   unfold idsL; rw [List.map_append]; exact List.mem_append_left _ hxc
  -- a node's side: the link of N beyond which it stands
  have beyond : ∀ y ∈ R, ∃ c, (c = a0 ∨ c = b0) ∧ ∃ x, x < 0 ∧ x ∈ idsL c ∧ F x (idsL y) ≠ F x (idsL N) ∧ s (idsL y) = s (idsL (c ++ [⟨u, v, t⟩])) := by
   intro y hy
   have hyR : idsL y ∈ R.map idsL := List.mem_map.2 ⟨y, hy, rfl⟩
   obtain ⟨x, hx, hxN, hxF⟩ := htr0.beyond_one hF hyR
   have go : ∀ c, (c = a0 ∨ c = b0) → x ∈ idsL c → s (idsL y) = s (idsL (c ++ [⟨u, v, t⟩])) := fun c hc hxc =>
    htr0.side_col hF hx hxN hsR (fun z hz hxz => by
     obtain ⟨m, hm, rfl⟩ := List.mem_map.1 hz
     exact near c hc x hx hxc m hm hxz) hyR hxF
   rcases (midN x).1 hxN with q | q
   ·exact ⟨a0, Or.inl rfl, x, hx, q, hxF, go a0 (Or.inl rfl) q⟩
   exact ⟨b0, Or.inr rfl, x, hx, q, hxF, go b0 (Or.inr rfl) q⟩
  -- a vertex that two nodes of different sides share is on c's side
  have onc : ∀ (c d : List Lk), (c = a0 ∧ d = b0 ∨ c = b0 ∧ d = a0) → ∀ l m, (l = c ++ [⟨u, v, t⟩] ∨ l ∈ R ∧ ∃ x, x < 0 ∧ x ∈ idsL c ∧ F x (idsL l) ≠ F x (idsL N)) → (m = d ++ [⟨u, v, t⟩] ∨ m ∈ R ∧ ∃ x, x < 0 ∧ x ∈ idsL d ∧ F x (idsL m) ≠ F x (idsL N)) → Vx l w → Vx m w → Vx c w ∨ u = w ∨ v = w := by
   intro c d hcd l m hl hm q1 q2
   have hcN : ∀ x ∈ c, x ∈ N := fun x hx => (memN x).2 (hcd.elim (fun q => Or.inl (q.1 ▸ hx)) fun q => Or.inr (q.1 ▸ hx))
   have hdN : ∀ z, Vx (d ++ [⟨u, v, t⟩]) z → Vx N z := fun z hz => by
    rcases vx_app.1 hz with q | q
    ·exact (vN z).2 (hcd.elim (fun k => Or.inr (k.2 ▸ q)) fun k => Or.inl (k.2 ▸ q))
    rcases vx_one.1 q with q | q
    ·exact q ▸ hu
    exact q ▸ hv
   have disj : ∀ x, x ∈ idsL c → x ∈ idsL d → False := fun x h1 h2 => by
    have hn := hpi.nodup_iff.1 hr.nod
    rcases hcd with ⟨rfl, rfl⟩ | ⟨rfl, rfl⟩
    ·exact (List.nodup_append.1 hn).2.2 x h1 x h2 rfl
    exact (List.nodup_append.1 hn).2.2 x h2 x h1 rfl
   have hcNi : ∀ x, x ∈ idsL c → x ∈ idsL N := fun x hx => (midN x).2 (hcd.elim (fun q => Or.inl (q.1 ▸ hx)) fun q => Or.inr (q.1 ▸ hx))
   have hdNi : ∀ x, x ∈ idsL d → x ∈ idsL N := fun x hx => (midN x).2 (hcd.elim (fun q => Or.inr (q.2 ▸ hx)) fun q => Or.inl (q.2 ▸ hx))
   rcases hl with rfl | ⟨hlR, x, hx, hxc, hxF⟩
   ·obtain ⟨y, hy, hyw⟩ := q1
    rcases List.mem_append.1 hy with r | r
    ·exact Or.inl ⟨y, r, hyw⟩
    rw [List.mem_singleton.1 r] at hyw; exact Or.inr hyw
   -- m's old node is on N's side of x
   obtain ⟨m0, hm0, hm0w, hm0F⟩ : ∃ m0 ∈ N :: R, Vx m0 w ∧ F x (idsL m0) = F x (idsL N) := by
    rcases hm with rfl | ⟨hmR, z, hz, hzd, hzF⟩
    ·exact ⟨N, by simp, hdN w q2, rfl⟩
    refine ⟨m, by simp [hmR], q2, Classical.byContradiction fun r => ?_⟩
    have := htr0.beyond_uniq hF (List.mem_cons_of_mem _ (List.mem_map.2 ⟨m, hmR, rfl⟩)) hx hz (hcNi x hxc) (hdNi z hzd) r hzF
    subst this
    exact disj _ hxc hzd
   have hend := h.sep x hx (F x) (fun l hl m hm k hk hkx k1 k2 => (hF x hx (idsL l) (List.mem_map.2 ⟨l, hl, rfl⟩ |> fun q => by simpa using q) (idsL m) (List.mem_map.2 ⟨m, hm, rfl⟩ |> fun q => by simpa using q) k hk k1 k2).1 hkx) l (by simp [hlR]) m0 hm0 (by rw [hm0F]; exact hxF) w q1 hm0w
   obtain ⟨l2, hl2, y, hy, hyx, hyw⟩ := hend
   obtain ⟨z, hz, hzx⟩ := List.mem_map.1 hxc
   have := h.en l2 hl2 N (by simp) y hy z (hcN z hz) (hyx.trans hzx.symm) (by omega)
   exact Or.inl ⟨z, hz, by rw [← this.1, ← this.2]; exact hyw⟩
  have side : ∀ l ∈ (a0 ++ [⟨u, v, t⟩]) :: (b0 ++ [⟨u, v, t⟩]) :: R, ∃ c, (c = a0 ∨ c = b0) ∧ s (idsL l) = s (idsL (c ++ [⟨u, v, t⟩])) ∧ (l = c ++ [⟨u, v, t⟩] ∨ l ∈ R ∧ ∃ x, x < 0 ∧ x ∈ idsL c ∧ F x (idsL l) ≠ F x (idsL N)) := by
   intro l hl
   rcases List.mem_cons.1 hl with rfl | hl
   ·exact ⟨a0, Or.inl rfl, rfl, Or.inl rfl⟩
   rcases List.mem_cons.1 hl with rfl | hl
   ·exact ⟨b0, Or.inr rfl, rfl, Or.inl rfl⟩
   obtain ⟨c, hc, x, hx, hxc, hxF, hsx⟩ := beyond l hl
   exact ⟨c, hc, hsx, Or.inr ⟨hl, x, hx, hxc, hxF⟩⟩
  obtain ⟨c, hc, sc, lc⟩ := side l hl
  obtain ⟨d, hd, sd, md⟩ := side m hm
  have hcd : c = a0 ∧ d = b0 ∨ c = b0 ∧ d = a0 := by
   rcases hc with rfl | rfl <;> rcases hd with rfl | rfl
   ·exact absurd (sc.trans sd.symm) hne
   ·exact Or.inl ⟨rfl, rfl⟩
   ·exact Or.inr ⟨rfl, rfl⟩
   exact absurd (sc.trans sd.symm) hne
  have w1 := onc c d hcd l m lc md h1 h2
  have w2 := onc d c (hcd.elim (fun q => Or.inr ⟨q.2, q.1⟩) fun q => Or.inl ⟨q.2, q.1⟩) m l md lc h2 h1
  have fin : u = w ∨ v = w := by
   rcases w1 with w1 | w1
   ·rcases w2 with w2 | w2
    ·rcases hcd with ⟨rfl, rfl⟩ | ⟨rfl, rfl⟩
     ·exact (hsep w w1 w2).imp Eq.symm Eq.symm
     exact (hsep w w2 w1).imp Eq.symm Eq.symm
    exact w2
   exact w1
  exact ⟨a0 ++ [⟨u, v, t⟩], by simp, ⟨u, v, t⟩, by simp, rfl, fin⟩
 -- an old link
 have hAB : s (idsL (a0 ++ [⟨u, v, id⟩])) = s (idsL (b0 ++ [⟨u, v, id⟩])) := hs _ (by simp) _ (by simp) id hid (Ne.symm e) (by simp [idsL]) (by simp [idsL])
 have hNR : idsL N ∉ R.map idsL := (List.nodup_cons.1 htr0.dis).1
 have up : ∀ l ∈ N :: R, ∀ k, k ∈ idsL l → ∃ l1 ∈ (a0 ++ [⟨u, v, id⟩]) :: (b0 ++ [⟨u, v, id⟩]) :: R, k ∈ idsL l1 ∧ (if idsL l = idsL N then s (idsL (a0 ++ [⟨u, v, id⟩])) else s (idsL l)) = s (idsL l1) := by
  intro l hl k hk1
  rcases List.mem_cons.1 hl with rfl | hl
  ·rcases (midN k).1 hk1 with q | q
   ·exact ⟨a0 ++ [⟨u, v, id⟩], by simp, by rw [ia]; simp [q], if_pos rfl⟩
   exact ⟨b0 ++ [⟨u, v, id⟩], by simp, by rw [ib]; simp [q], by rw [if_pos rfl, hAB]⟩
  exact ⟨l, by simp [hl], hk1, if_neg fun q => hNR (List.mem_map.2 ⟨l, hl, q⟩)⟩
 have val : ∀ l ∈ (a0 ++ [⟨u, v, id⟩]) :: (b0 ++ [⟨u, v, id⟩]) :: R, ∃ m ∈ N :: R, (∀ w, Vx l w → Vx m w) ∧ (if idsL m = idsL N then s (idsL (a0 ++ [⟨u, v, id⟩])) else s (idsL m)) = s (idsL l) := by
  intro l hl
  obtain ⟨m, hm, g1, -, g2⟩ := src l hl
  refine ⟨m, hm, g1, ?_⟩
  rcases g2 with ⟨g3, rfl⟩ | ⟨g3, rfl⟩
  ·rw [if_pos rfl]
   rcases g3 with rfl | rfl
   ·rfl
   exact hAB
  rw [if_neg fun q => hNR (List.mem_map.2 ⟨_, g3, q⟩)]
 obtain ⟨l1, hl1, gl, el⟩ := val l hl
 obtain ⟨m1, hm1, gm, em⟩ := val m hm
 refine endUp t w (h.sep t ht (fun x => if x = idsL N then s (idsL (a0 ++ [⟨u, v, id⟩])) else s x) (fun l hl m hm k hk hkt k1 k2 => ?_) l1 hl1 m1 hm1 ?_ w (gl w h1) (gm w h2))
 ·obtain ⟨l2, hl2, q1, e1⟩ := up l hl k k1
  obtain ⟨m2, hm2, q2, e2⟩ := up m hm k k2
  rw [e1, e2]
  exact hs l2 hl2 m2 hm2 k hk hkt q1 q2
 rw [el, em]
 exact hne
theorem Tr.len_le {E : List Int} {X : List (List Int)} (h : Tr E X) {x : List Int} (hx : x ∈ X) : x.length ≤ E.length := by
 have c := h.cnt
 have e := h.edg.length_eq
 have hs : X.flatten.length = (X.flatten.filter fun v => decide (0 ≤ v)).length + (X.flatten.filter fun v => decide (v < 0)).length := by
  rw [← filter_two (fun v => decide (0 ≤ v)) X.flatten]
  congr 2
  refine List.filter_congr fun v _ => ?_
  by_cases q : 0 ≤ v
  ·simp [q]
  simp [q]; omega
 have hp := (List.perm_cons_erase hx)
 have hl := hp.length_eq
 have hf := hp.flatten.length_eq
 rw [List.flatten_cons, List.length_append] at hf
 rw [List.length_cons] at hl
 have hb : X.length = 1 ∨ 3 * (X.erase x).length ≤ (X.erase x).flatten.length := by
  rcases h.big with q | q
  ·exact Or.inl q
  right
  have : ∀ Y : List (List Int), (∀ y ∈ Y, 3 ≤ y.length) → 3 * Y.length ≤ Y.flatten.length := fun Y => by
   induction Y with
   | nil => intro _; exact Nat.le_refl _
   | cons y Y ih =>
    intro hq
    have h1 := ih fun z hz => hq z (by simp [hz])
    have h2 := hq y (by simp)
    rw [List.flatten_cons, List.length_append, List.length_cons]
    omega
  exact this _ fun y hy => q y (List.mem_of_mem_erase hy)
 rcases hb with q | q
 ·omega
 omega
theorem kind_one {l : List Lk} (h : kindK l = (1, true)) : Rt l ∧ ringsK l = true ∧ l.length ≠ 1 := by
 unfold kindK at h
 split at h
 ·cases h
 rename_i h1
 refine ⟨right_iff.1 (by simpa using h1), ?_⟩
 split at h
 ·cases h
 rename_i h2
 split at h
 ·rename_i h3; exact ⟨h3, h2⟩
 split at h
 ·cases h
 split at h <;> cases h
theorem kind_two {l : List Lk} (h : kindK l = (2, true)) : Rt l ∧ (vertsK l).length = 2 := by
 unfold kindK at h
 split at h
 ·cases h
 rename_i h1
 refine ⟨right_iff.1 (by simpa using h1), ?_⟩
 split at h
 ·cases h
 split at h
 ·cases h
 split at h
 ·assumption
 split at h <;> cases h
def mergeL2 (A B : List Lk) (id : Int) : List Lk := (A ++ B).filter fun x => x.id ≠ id
theorem mem_mergeL2 {A B : List Lk} {id : Int} {x : Lk} : x ∈ mergeL2 A B id ↔ (x ∈ A ∨ x ∈ B) ∧ x.id ≠ id := by
 unfold mergeL2
 rw [List.mem_filter, List.mem_append, decide_eq_true_iff]
section
variable {E : List Int} {l0 A B : List Lk} {R : List (List Lk)} {id : Int}
theorem TrC.merge (h : TrC E l0 (A :: B :: R)) (hid : id < 0) (hA : id ∈ idsL A) (hB : id ∈ idsL B) (hM : Rt (mergeL2 A B id)) : TrC E l0 (mergeL2 A B id :: R) := by
 obtain ⟨M, hMe⟩ : ∃ M, mergeL2 A B id = M := ⟨_, rfl⟩
 have memM : ∀ x, x ∈ M ↔ (x ∈ A ∨ x ∈ B) ∧ x.id ≠ id := fun x => by rw [← hMe]; exact mem_mergeL2
 have htr0 : Tr E (idsL A :: idsL B :: R.map idsL) := h.tr
 have hid2 : idsL M = (idsL A ++ idsL B).filter fun u => decide (u ≠ id) := by
  rw [← hMe]
  unfold mergeL2 idsL
  rw [← List.map_append, List.filter_map]
  rfl
 have htr : Tr E (idsL M :: R.map idsL) := by rw [hid2]; exact htr0.merge hid hA hB
 rw [hMe] at hM ⊢
 have vM : ∀ w, Vx M w → Vx A w ∨ Vx B w := fun w ⟨x, hx, r⟩ => ((memM x).1 hx).1.imp (fun q => ⟨x, q, r⟩) fun q => ⟨x, q, r⟩
 have onev : ∀ l ∈ R, id ∉ idsL l := fun l hl q => by
  have c := htr0.two id hid
  simp only [List.countP_cons, decide_eq_true hA, decide_eq_true hB] at c
  have : 0 < (R.map idsL).countP fun x => decide (id ∈ x) := List.countP_pos_iff.2 ⟨_, List.mem_map.2 ⟨l, hl, rfl⟩, decide_eq_true q⟩
  simp only [if_true] at c
  omega
 have src : ∀ l ∈ M :: R, ∀ x ∈ l, ∃ m ∈ A :: B :: R, x ∈ m := fun l hl x hx => by
  rcases List.mem_cons.1 hl with rfl | hl
  ·rcases ((memM x).1 hx).1 with q | q
   ·exact ⟨A, by simp, q⟩
   exact ⟨B, by simp, q⟩
  exact ⟨l, by simp [hl], hx⟩
 have hd := htr0.dis
 rw [List.nodup_cons, List.nodup_cons] at hd
 have hAR : ∀ l ∈ R, idsL l ≠ idsL A := fun l hl q => hd.1 (List.mem_cons_of_mem _ (List.mem_map.2 ⟨l, hl, q⟩))
 have hBR : ∀ l ∈ R, idsL l ≠ idsL B := fun l hl q => hd.2.1 (List.mem_map.2 ⟨l, hl, q⟩)
 refine ⟨htr, fun l hl => ?_, fun l hl x hx h0 => ?_, fun l hl w hw => ?_, fun l hl m hm x hx y hy e hneg => ?_, fun t ht s hs l hl m hm hne w h1 h2 => ?_⟩
 ·rcases List.mem_cons.1 hl with rfl | hl
  ·exact hM
  exact h.rt l (by simp [hl])
 ·obtain ⟨m, hm, q⟩ := src l hl x hx
  exact h.old m hm x q h0
 ·rcases List.mem_cons.1 hl with rfl | hl
  ·rcases vM w hw with q | q
   ·exact h.vx A (by simp) w q
   exact h.vx B (by simp) w q
  exact h.vx l (by simp [hl]) w hw
 ·obtain ⟨l1, hl1, q1⟩ := src l hl x hx
  obtain ⟨m1, hm1, q2⟩ := src m hm y hy
  exact h.en l1 hl1 m1 hm1 x q1 y q2 e hneg
 by_cases e : t = id
 ·-- nobody is parted
  refine absurd (htr.con s (fun x hx y hy u hu q1 q2 => ?_) _ (List.mem_map.2 ⟨l, hl, rfl⟩ |> fun q => by simpa using q) _ (List.mem_map.2 ⟨m, hm, rfl⟩ |> fun q => by simpa using q)) hne
  have hue : u ≠ t := fun q => by
   subst q
   subst e
   rcases List.mem_cons.1 hx with rfl | hx
   ·obtain ⟨z, hz, ez⟩ := List.mem_map.1 q1
    exact ((memM z).1 hz).2 ez
   obtain ⟨z, hz, rfl⟩ := List.mem_map.1 hx
   exact onev z hz q1
  have get : ∀ x, x ∈ idsL M :: R.map idsL → ∃ l ∈ M :: R, idsL l = x := fun x hx => by
   rcases List.mem_cons.1 hx with rfl | hx
   ·exact ⟨M, by simp, rfl⟩
   obtain ⟨z, hz, rfl⟩ := List.mem_map.1 hx
   exact ⟨z, by simp [hz], rfl⟩
  obtain ⟨l1, hl1, rfl⟩ := get x hx
  obtain ⟨m1, hm1, rfl⟩ := get y hy
  exact hs l1 hl1 m1 hm1 u hu hue q1 q2
 have up : ∀ l ∈ A :: B :: R, ∀ k, k ∈ idsL l → k ≠ id → ∃ l1 ∈ M :: R, k ∈ idsL l1 ∧ (if idsL l = idsL A ∨ idsL l = idsL B then s (idsL M) else s (idsL l)) = s (idsL l1) := by
  intro l hl k hk hki
  have inM : ∀ z : Lk, (z ∈ A ∨ z ∈ B) → z.id = k → k ∈ idsL M := fun z hz e => List.mem_map.2 ⟨z, (memM z).2 ⟨hz, by rw [e]; exact hki⟩, e⟩
  rcases List.mem_cons.1 hl with rfl | hl
  ·obtain ⟨z, hz, ez⟩ := List.mem_map.1 hk
   exact ⟨M, by simp, inM z (Or.inl hz) ez, if_pos (Or.inl rfl)⟩
  rcases List.mem_cons.1 hl with rfl | hl
  ·obtain ⟨z, hz, ez⟩ := List.mem_map.1 hk
   exact ⟨M, by simp, inM z (Or.inr hz) ez, if_pos (Or.inr rfl)⟩
  exact ⟨l, by simp [hl], hk, if_neg fun q => q.elim (hAR l hl) (hBR l hl)⟩
 have hcol : ∀ l ∈ A :: B :: R, ∀ m ∈ A :: B :: R, ∀ k, k < 0 → k ≠ t → k ∈ idsL l → k ∈ idsL m → (if idsL l = idsL A ∨ idsL l = idsL B then s (idsL M) else s (idsL l)) = (if idsL m = idsL A ∨ idsL m = idsL B then s (idsL M) else s (idsL m)) := by
  intro l hl m hm k hk hkt k1 k2
  by_cases hki : k = id
  ·subst hki
   have ab : ∀ l ∈ A :: B :: R, k ∈ idsL l → idsL l = idsL A ∨ idsL l = idsL B := fun l hl q => by
    rcases List.mem_cons.1 hl with rfl | hl
    ·exact Or.inl rfl
    rcases List.mem_cons.1 hl with rfl | hl
    ·exact Or.inr rfl
    exact absurd q (onev l hl)
   rw [if_pos (ab l hl k1), if_pos (ab m hm k2)]
  obtain ⟨l2, hl2, q1, e1⟩ := up l hl k k1 hki
  obtain ⟨m2, hm2, q2, e2⟩ := up m hm k k2 hki
  rw [e1, e2]
  exact hs l2 hl2 m2 hm2 k hk hkt q1 q2
 have val : ∀ l ∈ M :: R, Vx l w → ∃ m ∈ A :: B :: R, Vx m w ∧ (if idsL m = idsL A ∨ idsL m = idsL B then s (idsL M) else s (idsL m)) = s (idsL l) := by
  intro l hl hw
  rcases List.mem_cons.1 hl with rfl | hl
  ·rcases vM w hw with q | q
   ·exact ⟨A, by simp, q, if_pos (Or.inl rfl)⟩
   exact ⟨B, by simp, q, if_pos (Or.inr rfl)⟩
  exact ⟨l, by simp [hl], hw, if_neg fun q => q.elim (hAR l hl) (hBR l hl)⟩
 obtain ⟨l1, hl1, w1, e1⟩ := val l hl h1
 obtain ⟨m1, hm1, w2, e2⟩ := val m hm h2
 obtain ⟨l2, hl2, z, hz, ez, ezw⟩ := h.sep t ht (fun x => if x = idsL A ∨ x = idsL B then s (idsL M) else s x) hcol l1 hl1 m1 hm1 (by rw [e1, e2]; exact hne) w w1 w2
 rcases List.mem_cons.1 hl2 with rfl | hl2
 ·exact ⟨M, by simp, z, (memM z).2 ⟨Or.inl hz, by rw [ez]; exact e⟩, ez, ezw⟩
 rcases List.mem_cons.1 hl2 with rfl | hl2
 ·exact ⟨M, by simp, z, (memM z).2 ⟨Or.inr hz, by rw [ez]; exact e⟩, ez, ezw⟩
 exact ⟨l2, by simp [hl2], z, hz, ez, ezw⟩
theorem TrC.meet (h : TrC E l0 (A :: B :: R)) (hid : id < 0) {x0 y0 : Lk} (hx : x0 ∈ A) (hy : y0 ∈ B) (ex : x0.id = id) (ey : y0.id = id) : x0.a = y0.a ∧ x0.b = y0.b ∧ ∀ w, Vx A w → Vx B w → w = x0.a ∨ w = x0.b := by
 have htr0 : Tr E (idsL A :: idsL B :: R.map idsL) := h.tr
 obtain ⟨e1, e2⟩ := h.en A (by simp) B (by simp) x0 hx y0 hy (ex.trans ey.symm) (by omega)
 refine ⟨e1, e2, fun w h1 h2 => ?_⟩
 obtain ⟨s, hs⟩ := htr0.brg id hid
 have hd := htr0.dis
 have hne : idsL A ≠ idsL B := fun q => (List.nodup_cons.1 hd).1 (by rw [q]; simp)
 have hA : id ∈ idsL A := List.mem_map.2 ⟨x0, hx, ex⟩
 have hB : id ∈ idsL B := List.mem_map.2 ⟨y0, hy, ey⟩
 have hdiff := (hs (idsL A) (by simp) (idsL B) (by simp) id hid hA hB).2 rfl hne
 obtain ⟨l, hl, z, hz, ez, ezw⟩ := h.sep id hid s (fun l hl m hm u hu hui q1 q2 => (hs _ (List.mem_map.2 ⟨l, hl, rfl⟩ |> fun q => by simpa using q) _ (List.mem_map.2 ⟨m, hm, rfl⟩ |> fun q => by simpa using q) u hu q1 q2).1 hui) A (by simp) B (by simp) hdiff w h1 h2
 obtain ⟨f1, f2⟩ := h.en l hl A (by simp) z hz x0 hx (ez.trans ex.symm) (by omega)
 rw [f1, f2] at ezw
 exact ezw.imp Eq.symm Eq.symm
end
theorem rings_iff {l : List Lk} : ringsK l = true ↔ ∀ w, Vx l w → (endsK l).count w = 2 := by
 unfold ringsK
 rw [List.all_eq_true]
 have hm : ∀ w, w ∈ endsK l ↔ Vx l w := fun w => by
  rw [← vx_mem]; unfold vertsK; rw [(tidy_ok _).2]
 exact ⟨fun h w hw => by simpa using h w ((hm w).2 hw), fun h w hw => by simpa using h w ((hm w).1 hw)⟩
theorem ids_one {l : List Lk} (hn : (idsL l).Nodup) {x y : Lk} (hx : x ∈ l) (hy : y ∈ l) (e : x.id = y.id) : x = y := by
 obtain ⟨i, hi, rfl⟩ := List.getElem_of_mem hx
 obtain ⟨j, hj, rfl⟩ := List.getElem_of_mem hy
 unfold idsL List.Nodup at hn
 rw [List.pairwise_map, List.pairwise_iff_getElem] at hn
 rcases Nat.lt_trichotomy i j with o | o | o
 ·exact absurd e (hn i j hi hj o)
 ·subst o; rfl
 exact absurd e.symm (hn j i hj hi o)
theorem ends_filter {l : List Lk} {x : Lk} (hn : (idsL l).Nodup) (hx : x ∈ l) (w : Int) : (endsK l).count w = (endsK (l.filter fun y => y.id ≠ x.id)).count w + (if x.a = w then 1 else 0) + (if x.b = w then 1 else 0) := by
 have h1 : l.Perm (x :: l.filter fun y => y.id ≠ x.id) := by
  have hd : l.Nodup := by
   unfold idsL List.Nodup at hn
   rw [List.pairwise_map] at hn
   exact hn.imp fun h e => h (by rw [e])
  refine (List.perm_cons_erase hx).trans (List.Perm.cons x (List.Perm.of_eq ?_))
  rw [hd.erase_eq_filter]
  refine List.filter_congr fun y hy => ?_
  by_cases e : y = x
  ·simp [e]
  have : y.id ≠ x.id := fun q => e (ids_one hn hy hx q)
  simp [e, this]
 have h2 : (endsK l).Perm (endsK (x :: l.filter fun y => y.id ≠ x.id)) := by unfold endsK; exact h1.flatMap_right _
 rw [h2.count_eq]
 unfold endsK
 rw [List.flatMap_cons, List.count_append, List.count_cons, List.count_cons, List.count_nil]
 simp only [beq_iff_eq]
 omega
theorem ends_app (l m : List Lk) : endsK (l ++ m) = endsK l ++ endsK m := List.flatMap_append
theorem vx_count {l : List Lk} {w : Int} : Vx l w ↔ 0 < (endsK l).count w := by
 rw [List.count_pos_iff, ← vx_mem]
 unfold vertsK
 rw [(tidy_ok _).2]
section
variable {A B : List Lk} {x0 y0 : Lk}
theorem ring_less (hr : Rt A) (hk : ringsK A = true) (hx : x0 ∈ A) {c : Int → Bool} (hc : ∀ x ∈ A, x.id ≠ x0.id → c x.a = c x.b) : ∀ y z, Vx A y → Vx A z → c y = c z := by
 have hne := (hr.ok x0 hx).2.2.1
 have hp : Vx A x0.a := ⟨x0, hx, Or.inl rfl⟩
 have hcon := hr.con x0.a hp c (fun x hx1 h1 h2 => hc x hx1 fun e => by
  have : x = x0 := ids_one hr.nod hx1 hx e
  rw [this] at h1
  exact h1 rfl)
 -- another link at x0.a
 have h2 := rings_iff.1 hk x0.a hp
 rw [ends_filter hr.nod hx x0.a, if_pos rfl, if_neg (Ne.symm hne)] at h2
 obtain ⟨z, hz, hza⟩ := (vx_count (l := A.filter fun y => y.id ≠ x0.id) (w := x0.a)).2 (by omega)
 obtain ⟨hzA, hzi⟩ := List.mem_filter.1 hz
 have hzi := of_decide_eq_true hzi
 have hz2 := hc z hzA hzi
 have hzne := (hr.ok z hzA).2.2.1
 obtain ⟨r, hr1, hr2, hr3⟩ : ∃ r, Vx A r ∧ r ≠ x0.a ∧ c x0.a = c r := by
  rcases hza with e | e
  ·exact ⟨z.b, ⟨z, hzA, Or.inr rfl⟩, fun q => hzne (e.trans q.symm), by rw [← e]; exact hz2⟩
  exact ⟨z.a, ⟨z, hzA, Or.inl rfl⟩, fun q => hzne (q.trans e.symm), by rw [← e]; exact hz2.symm⟩
 have one : ∀ y, Vx A y → c y = c r := fun y hy => by
  by_cases e : y = x0.a
  ·rw [e]; exact hr3
  exact hcon y r hy hr1 e hr2
 intro y z hy hz
 rw [one y hy, one z hz]
theorem ring_side (hrA : Rt A) (hkA : ringsK A = true) (hx : x0 ∈ A) (hrB : Rt B) (hkB : ringsK B = true) (hy : y0 ∈ B) (e1 : x0.a = y0.a) (e2 : x0.b = y0.b) (hm : ∀ w, Vx A w → Vx B w → w = x0.a ∨ w = x0.b) {w k : Int} (hk : k = x0.a ∨ k = x0.b) (hkw : k ≠ w) {c : Int → Bool}
  (hcA : ∀ x ∈ A, x.id ≠ x0.id → x.a ≠ w → x.b ≠ w → c x.a = c x.b) (hcB : ∀ x ∈ B, x.id ≠ y0.id → x.a ≠ w → x.b ≠ w → c x.a = c x.b) : ∀ y, Vx A y → y ≠ w → c y = c k := by
 have hkA2 : Vx A k := ⟨x0, hx, hk.imp Eq.symm Eq.symm⟩
 intro y hyA hyw
 by_cases hwA : Vx A w
 ·by_cases hw : w = x0.a ∨ w = x0.b
  ·exact hrA.con w hwA c (fun x hx1 h1 h2 => hcA x hx1 (fun e => by
    have : x = x0 := ids_one hrA.nod hx1 hx e
    rw [this] at h1 h2
    exact hw.elim (fun q => h1 q.symm) fun q => h2 q.symm) h1 h2) y k hyA hkA2 hyw hkw
  have hwB : ¬ Vx B w := fun q => hw (hm w hwA q)
  have hpq : c x0.a = c x0.b := by
   rw [e1, e2]
   exact ring_less hrB hkB hy (fun x hx1 hxi => hcB x hx1 hxi (fun q => hwB ⟨x, hx1, Or.inl q⟩) fun q => hwB ⟨x, hx1, Or.inr q⟩) _ _ ⟨y0, hy, Or.inl rfl⟩ ⟨y0, hy, Or.inr rfl⟩
  exact hrA.con w hwA c (fun x hx1 h1 h2 => by
   by_cases e : x.id = x0.id
   ·rw [ids_one hrA.nod hx1 hx e]; exact hpq
   exact hcA x hx1 e h1 h2) y k hyA hkA2 hyw hkw
 exact ring_less hrA hkA hx (fun x hx1 hxi => hcA x hx1 hxi (fun q => hwA ⟨x, hx1, Or.inl q⟩) fun q => hwA ⟨x, hx1, Or.inr q⟩) y k hyA hkA2
end
theorem len_three {α : Type} {l : List α} {x y z : α} (hx : x ∈ l) (hy : y ∈ l) (hz : z ∈ l) (h1 : x ≠ y) (h2 : x ≠ z) (h3 : y ≠ z) : 3 ≤ l.length := by
 match l, hx, hy, hz with
 | [a], hx, hy, _ => exact absurd ((List.mem_singleton.1 hx).trans (List.mem_singleton.1 hy).symm) h1
 | [a, b], hx, hy, hz =>
  simp only [List.mem_cons, List.not_mem_nil, or_false] at hx hy hz
  rcases hx with rfl | rfl <;> rcases hy with rfl | rfl <;> rcases hz with rfl | rfl <;> first | exact absurd rfl h1 | exact absurd rfl h2 | exact absurd rfl h3
 | _ :: _ :: _ :: _, _, _, _ => simp
section
variable {E : List Int} {l0 A B : List Lk} {R : List (List Lk)} {id : Int}
theorem merge_ends {x0 y0 : Lk} (hA : (idsL A).Nodup) (hB : (idsL B).Nodup) (hx : x0 ∈ A) (hy : y0 ∈ B) (ex : x0.id = id) (ey : y0.id = id) (w : Int) : (endsK A).count w + (endsK B).count w = (endsK (mergeL2 A B id)).count w + (if x0.a = w then 1 else 0) + (if x0.b = w then 1 else 0) + (if y0.a = w then 1 else 0) + (if y0.b = w then 1 else 0) := by
 have h1 := ends_filter hA hx w
 have h2 := ends_filter hB hy w
 have h3 : mergeL2 A B id = (A.filter fun y => y.id ≠ x0.id) ++ B.filter fun y => y.id ≠ y0.id := by
  unfold mergeL2; rw [List.filter_append, ex, ey]
 rw [h3, ends_app, List.count_append]
 omega
theorem TrC.merge_rt (h : TrC E l0 (A :: B :: R)) (h0 : Rt l0) (hE : l0.length = E.length) (hid : id < 0) (hA : id ∈ idsL A) (hB : id ∈ idsL B) (hne : mergeL2 A B id ≠ []) (hcon : ∀ v, Vx (mergeL2 A B id) v → ConV (mergeL2 A B id) v) : Rt (mergeL2 A B id) := by
 have htr0 : Tr E (idsL A :: idsL B :: R.map idsL) := h.tr
 have hid2 : idsL (mergeL2 A B id) = (idsL A ++ idsL B).filter fun u => decide (u ≠ id) := by
  unfold mergeL2 idsL
  rw [← List.map_append, List.filter_map]
  rfl
 have htr := htr0.merge hid hA hB
 rw [← hid2] at htr
 have src : ∀ x ∈ mergeL2 A B id, x ∈ A ∨ x ∈ B := fun x hx => (mem_mergeL2.1 hx).1
 refine ⟨hne, htr.nod _ (by simp), fun x hx => ?_, ?_, hcon⟩
 ·rcases src x hx with q | q
  ·exact (h.rt A (by simp)).ok x q
  exact (h.rt B (by simp)).ok x q
 have h1 : nK (mergeL2 A B id) ≤ nK l0 := nK_le (nK_pos l0) fun x hx => by
  have vl : Vx l0 x.a ∧ Vx l0 x.b := by
   rcases src x hx with q | q
   ·exact ⟨h.vx A (by simp) _ ⟨x, q, Or.inl rfl⟩, h.vx A (by simp) _ ⟨x, q, Or.inr rfl⟩⟩
   exact ⟨h.vx B (by simp) _ ⟨x, q, Or.inl rfl⟩, h.vx B (by simp) _ ⟨x, q, Or.inr rfl⟩⟩
  have up : ∀ w, Vx l0 w → w < nK l0 := fun w ⟨y, hy, hw⟩ => by
   have := nK_ge y hy
   rcases hw with rfl | rfl <;> omega
  exact ⟨up _ vl.1, up _ vl.2⟩
 have h2 := htr.len_le (List.mem_cons_self ..)
 unfold idsL at h2
 rw [List.length_map] at h2
 have := h0.siz
 omega
theorem TrC.merge_ring (h : TrC E l0 (A :: B :: R)) (h0 : Rt l0) (hE : l0.length = E.length) (hid : id < 0) (hA : id ∈ idsL A) (hB : id ∈ idsL B) (kA : kindK A = (1, true)) (kB : kindK B = (1, true)) : Rt (mergeL2 A B id) ∧ kindK (mergeL2 A B id) = (1, true) := by
 obtain ⟨x0, hx, ex⟩ := List.mem_map.1 hA
 obtain ⟨y0, hy, ey⟩ := List.mem_map.1 hB
 obtain ⟨rA, gA, -⟩ := kind_one kA
 obtain ⟨rB, gB, -⟩ := kind_one kB
 obtain ⟨e1, e2, hm⟩ := h.meet hid hx hy ex ey
 have hne0 := (rA.ok x0 hx).2.2.1
 obtain ⟨M, hM⟩ : ∃ M, mergeL2 A B id = M := ⟨_, rfl⟩
 have memM : ∀ x, x ∈ M ↔ (x ∈ A ∨ x ∈ B) ∧ x.id ≠ id := fun x => by rw [← hM]; exact mem_mergeL2
 have vM : ∀ w, Vx M w → Vx A w ∨ Vx B w := fun w ⟨x, hx, r⟩ => ((memM x).1 hx).1.imp (fun q => ⟨x, q, r⟩) fun q => ⟨x, q, r⟩
 have hme := fun w => merge_ends (w := w) rA.nod rB.nod hx hy ex ey
 rw [hM] at hme
 have cA := rings_iff.1 gA
 have cB := rings_iff.1 gB
 have pA : Vx A x0.a := ⟨x0, hx, Or.inl rfl⟩
 have qA : Vx A x0.b := ⟨x0, hx, Or.inr rfl⟩
 have pB : Vx B x0.a := ⟨y0, hy, Or.inl e1.symm⟩
 have qB : Vx B x0.b := ⟨y0, hy, Or.inr e2.symm⟩
 have zero : ∀ {l : List Lk} {w : Int}, ¬ Vx l w → (endsK l).count w = 0 := fun q => by
  have := mt vx_count.2 q
  omega
 have cM : ∀ w, Vx M w → (endsK M).count w = 2 := by
  intro w hw
  have := hme w
  rw [← e1, ← e2] at this
  by_cases c1 : x0.a = w
  ·subst c1
   rw [cA _ pA, cB _ pB, if_pos rfl, if_neg (Ne.symm hne0)] at this
   omega
  by_cases c2 : x0.b = w
  ·subst c2
   rw [cA _ qA, cB _ qB, if_pos rfl, if_neg c1] at this
   omega
  rw [if_neg c1, if_neg c2] at this
  by_cases hwA : Vx A w
  ·have hwB : ¬ Vx B w := fun q => (hm w hwA q).elim (fun q => c1 q.symm) fun q => c2 q.symm
   rw [cA w hwA, zero hwB] at this
   omega
  have hwB : Vx B w := (vM w hw).resolve_left hwA
  rw [zero hwA, cB w hwB] at this
  omega
 have hnev : Vx M x0.a := by
  have := hme x0.a
  rw [← e1, ← e2, cA _ pA, cB _ pB, if_pos rfl, if_neg (Ne.symm hne0)] at this
  exact vx_count.2 (by omega)
 have hnem : M ≠ [] := fun q => by
  obtain ⟨z, hz, -⟩ := hnev
  rw [q] at hz
  cases hz
 have hRt : Rt M := by
  rw [← hM]
  refine h.merge_rt h0 hE hid hA hB (by rw [hM]; exact hnem) ?_
  rw [hM]
  intro w hw c hc
  have hcA : ∀ x ∈ A, x.id ≠ x0.id → x.a ≠ w → x.b ≠ w → c x.a = c x.b := fun x hx1 hxi => hc x ((memM x).2 ⟨Or.inl hx1, by rw [← ex]; exact hxi⟩)
  have hcB : ∀ x ∈ B, x.id ≠ y0.id → x.a ≠ w → x.b ≠ w → c x.a = c x.b := fun x hx1 hxi => hc x ((memM x).2 ⟨Or.inr hx1, by rw [← ey]; exact hxi⟩)
  obtain ⟨k, hk, hkw⟩ : ∃ k, (k = x0.a ∨ k = x0.b) ∧ k ≠ w := by
   by_cases q : x0.a = w
   ·exact ⟨x0.b, Or.inr rfl, fun e => hne0 (q.trans e.symm)⟩
   exact ⟨x0.a, Or.inl rfl, q⟩
  have sA := ring_side rA gA hx rB gB hy e1 e2 hm hk hkw hcA hcB
  have sB := ring_side rB gB hy rA gA hx e1.symm e2.symm (fun w a b => by rw [← e1, ← e2]; exact hm w b a) (by rw [← e1, ← e2]; exact hk) hkw hcB hcA
  have one : ∀ y, Vx M y → y ≠ w → c y = c k := fun y hyM hyw => (vM y hyM).elim (fun q => sA y q hyw) fun q => sB y q hyw
  intro y z hyM hzM hyw hzw
  rw [one y hyM hyw, one z hzM hzw]
 rw [hM]
 refine ⟨hRt, ?_⟩
 have hr := right_iff.2 hRt
 have hg := rings_iff.2 cM
 have hl : M.length ≠ 1 := fun q => by
  have h2 := endsK_len M
  have h3 := cM _ hnev
  have h4 := hme x0.b
  rw [← e1, ← e2, cA _ qA, cB _ qB, if_pos rfl, if_neg hne0] at h4
  have h5 : (endsK M).count x0.a + (endsK M).count x0.b ≤ (endsK M).length := by
   have : ∀ L : List Int, L.count x0.a + L.count x0.b ≤ L.length := fun L => by
    induction L with
    | nil => simp
    | cons t L ih =>
     rw [List.count_cons, List.count_cons, List.length_cons]
     by_cases p1 : t = x0.a
     ·have : ¬ (t == x0.b) = true := by rw [p1]; simpa using hne0
      rw [if_neg this]
      split <;> omega
     have : ¬ (t == x0.a) = true := by simpa using p1
     rw [if_neg this]
     split <;> omega
   exact this _
  omega
 unfold kindK
 rw [hr, if_neg (by simp), if_neg hl, if_pos hg]
theorem TrC.merge_bond (h : TrC E l0 (A :: B :: R)) (h0 : Rt l0) (hE : l0.length = E.length) (hid : id < 0) (hA : id ∈ idsL A) (hB : id ∈ idsL B) (kA : kindK A = (2, true)) (kB : kindK B = (2, true)) : Rt (mergeL2 A B id) ∧ kindK (mergeL2 A B id) = (2, true) := by
 obtain ⟨x0, hx, ex⟩ := List.mem_map.1 hA
 obtain ⟨y0, hy, ey⟩ := List.mem_map.1 hB
 obtain ⟨rA, vA⟩ := kind_two kA
 obtain ⟨rB, vB⟩ := kind_two kB
 obtain ⟨e1, e2, -⟩ := h.meet hid hx hy ex ey
 have hne0 := (rA.ok x0 hx).2.2.1
 have htr0 : Tr E (idsL A :: idsL B :: R.map idsL) := h.tr
 -- just two vertices
 have two : ∀ (C : List Lk), (vertsK C).length = 2 → Vx C x0.a → Vx C x0.b → ∀ w, Vx C w → w = x0.a ∨ w = x0.b := fun C hC ha hb w hw => by
  refine Classical.byContradiction fun q => ?_
  have hn : (vertsK C).Nodup := (tidy_ok _).1.imp fun q => Int.ne_of_lt q
  have := len_three (vx_mem.2 hw) (vx_mem.2 ha) (vx_mem.2 hb) (fun e => q (Or.inl e)) (fun e => q (Or.inr e)) hne0
  omega
 have tA := two A vA ⟨x0, hx, Or.inl rfl⟩ ⟨x0, hx, Or.inr rfl⟩
 have tB := two B vB ⟨y0, hy, Or.inl e1.symm⟩ ⟨y0, hy, Or.inr e2.symm⟩
 obtain ⟨M, hM⟩ : ∃ M, mergeL2 A B id = M := ⟨_, rfl⟩
 have memM : ∀ x, x ∈ M ↔ (x ∈ A ∨ x ∈ B) ∧ x.id ≠ id := fun x => by rw [← hM]; exact mem_mergeL2
 have okM : ∀ x ∈ M, x.a ≠ x.b := fun x hx1 => ((memM x).1 hx1).1.elim (fun q => (rA.ok x q).2.2.1) fun q => (rB.ok x q).2.2.1
 have vM : ∀ w, Vx M w → w = x0.a ∨ w = x0.b := fun w ⟨x, hx1, r⟩ => ((memM x).1 hx1).1.elim (fun q => tA w ⟨x, q, r⟩) fun q => tB w ⟨x, q, r⟩
 have hlen : 4 ≤ M.length := by
  have h3 : 3 ≤ (idsL A).length ∧ 3 ≤ (idsL B).length := by
   rcases htr0.big with q | q
   ·simp at q
   exact ⟨q _ (by simp), q _ (by simp)⟩
  have l1 := len_ne rA.nod hA
  have l2 := len_ne rB.nod hB
  have : (idsL M).length = ((idsL A).filter fun u => decide (u ≠ id)).length + ((idsL B).filter fun u => decide (u ≠ id)).length := by
   rw [← hM]
   unfold mergeL2 idsL
   rw [List.length_map, List.filter_append, List.length_append, List.filter_map, List.filter_map, List.length_map, List.length_map]
   rfl
  unfold idsL at this
  rw [List.length_map] at this
  unfold idsL at l1 l2 h3
  omega
 have hnem : M ≠ [] := fun q => by rw [q] at hlen; simp at hlen
 have hRt : Rt M := by
  rw [← hM]
  refine h.merge_rt h0 hE hid hA hB (by rw [hM]; exact hnem) ?_
  rw [hM]
  intro w hw c hc y z hyM hzM hyw hzw
  have : y = z := by
   rcases vM w hw with q | q <;> rcases vM y hyM with q1 | q1 <;> rcases vM z hzM with q2 | q2
   ·exact q1.trans q2.symm
   ·exact absurd (q1.trans q.symm) hyw
   ·exact absurd (q2.trans q.symm) hzw
   ·exact q1.trans q2.symm
   ·exact q1.trans q2.symm
   ·exact absurd (q2.trans q.symm) hzw
   ·exact absurd (q1.trans q.symm) hyw
   exact q1.trans q2.symm
  rw [this]
 have both : ∀ x ∈ M, (x.a = x0.a ∧ x.b = x0.b) ∨ (x.a = x0.b ∧ x.b = x0.a) := fun x hx1 => by
  have n := okM x hx1
  rcases vM x.a ⟨x, hx1, Or.inl rfl⟩ with q1 | q1 <;> rcases vM x.b ⟨x, hx1, Or.inr rfl⟩ with q2 | q2
  ·exact absurd (q1.trans q2.symm) n
  ·exact Or.inl ⟨q1, q2⟩
  ·exact Or.inr ⟨q1, q2⟩
  exact absurd (q1.trans q2.symm) n
 have cnt : (endsK M).count x0.a = M.length := by
  have : ∀ L : List Lk, (∀ x ∈ L, (x.a = x0.a ∧ x.b = x0.b) ∨ (x.a = x0.b ∧ x.b = x0.a)) → (endsK L).count x0.a = L.length := fun L => by
   induction L with
   | nil => intro _; rfl
   | cons x L ih =>
    intro hL
    have := ih fun y hy => hL y (by simp [hy])
    unfold endsK at this ⊢
    rw [List.flatMap_cons, List.count_append, this, List.length_cons]
    rcases hL x (by simp) with ⟨q1, q2⟩ | ⟨q1, q2⟩
    ·rw [q1, q2]
     simp [Ne.symm hne0]
     omega
    rw [q1, q2]
    simp [Ne.symm hne0]
    omega
  exact this M both
 rw [hM]
 refine ⟨hRt, ?_⟩
 have hr := right_iff.2 hRt
 have hv : (vertsK M).length = 2 := by
  obtain ⟨z, hz⟩ := List.exists_mem_of_ne_nil _ hnem
  have h1 : Vx M x0.a ∧ Vx M x0.b := by
   rcases both z hz with ⟨q1, q2⟩ | ⟨q1, q2⟩
   ·exact ⟨⟨z, hz, Or.inl q1⟩, ⟨z, hz, Or.inr q2⟩⟩
   exact ⟨⟨z, hz, Or.inr q2⟩, ⟨z, hz, Or.inl q1⟩⟩
  have hn : (vertsK M).Nodup := (tidy_ok _).1.imp fun q => Int.ne_of_lt q
  have p : (vertsK M).Perm [x0.a, x0.b] := (List.perm_ext_iff_of_nodup hn (by simpa using hne0)).2 fun w => by
   rw [vx_mem]
   simp only [List.mem_cons, List.not_mem_nil, or_false]
   exact ⟨vM w, fun q => q.elim (fun q => q ▸ h1.1) fun q => q ▸ h1.2⟩
  exact p.length_eq
 have hg : ringsK M = false := by
  rw [Bool.eq_false_iff]
  intro q
  obtain ⟨z, hz⟩ := List.exists_mem_of_ne_nil _ hnem
  have h1 : Vx M x0.a := by
   rcases both z hz with ⟨q1, q2⟩ | ⟨q1, q2⟩
   ·exact ⟨z, hz, Or.inl q1⟩
   exact ⟨z, hz, Or.inr q2⟩
  have := rings_iff.1 q _ h1
  omega
 unfold kindK
 rw [hr, if_neg (by simp), if_neg (by omega), hg, if_neg (by simp), if_pos hv]
end
theorem kind_none {l : List Lk} (hr : Rt l) (h : firstK l = none) : kindK l = ((kindK l).1, true) ∧ (kindK l).1 ≠ 4 ∧ ((kindK l).1 = 0 → l.length = 1) := by
 unfold kindK
 rw [right_iff.2 hr, h]
 simp only [Bool.true_eq_false, if_false, Option.isSome_none]
 split
 ·rename_i q; exact ⟨rfl, by decide, fun _ => q⟩
 split
 ·exact ⟨rfl, by decide, fun q => by cases q⟩
 split
 ·exact ⟨rfl, by decide, fun q => by cases q⟩
 exact ⟨rfl, by decide, fun q => by cases q⟩
structure TrK (E : List Int) (l0 : List Lk) (ns : List Nd) : Prop where
 c : TrC E l0 (ns.map Nd.l)
 k : ∀ n ∈ ns, kindK n.l = (n.kind, true) ∧ n.kind ≠ 4 ∧ (n.kind = 0 → n.l.length = 1)
theorem TrK.perm {E : List Int} {l0 : List Lk} {ns ms : List Nd} (h : TrK E l0 ns) (p : ns.Perm ms) : TrK E l0 ms := ⟨h.c.perm (p.map _), fun n hn => h.k n (p.mem_iff.2 hn)⟩
theorem TrK.cutF {E : List Int} {l0 : List Lk} : ∀ (f : Nat) (todo : List (List Lk)) (done : List Nd) (last : Int), cutM todo < f → last ≤ 0 → (∀ l ∈ todo ++ done.map Nd.l, ∀ x ∈ l, last ≤ x.id) → TrC E l0 (todo ++ done.map Nd.l) → (∀ n ∈ done, kindK n.l = (n.kind, true) ∧ n.kind ≠ 4 ∧ (n.kind = 0 → n.l.length = 1)) →
  TrK E l0 (Plain.cutF f todo done last).1
 | 0, todo, done, last, hf, _, _, _, _ => by omega
 | f + 1, [], done, last, _, h0, hl, ht, hk => ⟨ht, hk⟩
 | f + 1, l :: todo, done, last, hf, h0, hl, ht, hk => by
  cases hc : cutN l last with
  | none =>
   rw [cutF_done hc]
   have hn := cutN_none h0 (hl l (by simp)) hc
   have hr := ht.rt l (by simp)
   have p : (todo ++ (done ++ [(⟨(kindK l).1, l⟩ : Nd)]).map Nd.l).Perm (l :: todo ++ done.map Nd.l) := by
    rw [List.map_append, List.map_cons, List.map_nil, ← List.append_assoc]
    exact List.perm_append_singleton _ _
   refine TrK.cutF f todo _ last (by have := cutM_pos l todo; omega) h0 (fun m hm => hl m (p.mem_iff.1 hm)) (ht.perm p.symm) fun n hn2 => ?_
   rcases List.mem_append.1 hn2 with q | q
   ·exact hk n q
   rw [List.mem_singleton.1 q]; exact kind_none hr hn
  | some ab =>
   obtain ⟨a, b⟩ := ab
   rw [cutF_cut hc]
   obtain ⟨u, v, s, -, hk2⟩ := cutN_some hc
   obtain ⟨hlt, -⟩ := cutM_cut (t := todo) hk2
   have hcut := ht.cut hk2 (fun m hm x hx e => by have := hl m hm x hx; omega)
   refine TrK.cutF f _ done (last - 1) (by omega) (by omega) (fun m hm x hx => ?_) hcut hk
   obtain ⟨a0, b0, ea, eb, hp, -⟩ := cutK_perm hk2
   have old : ∀ y ∈ a0 ++ b0, last ≤ y.id := fun y hy => hl l (by simp) y (hp.mem_iff.1 hy)
   rcases List.mem_cons.1 hm with rfl | hm
   ·rw [ea] at hx
    rcases List.mem_append.1 hx with q | q
    ·have := old x (List.mem_append_left _ q); omega
    rw [List.mem_singleton.1 q]; exact Int.le_refl _
   rcases List.mem_cons.1 hm with rfl | hm
   ·rw [eb] at hx
    rcases List.mem_append.1 hx with q | q
    ·have := old x (List.mem_append_right _ q); omega
    rw [List.mem_singleton.1 q]; exact Int.le_refl _
   have := hl m (by rw [List.cons_append]; exact List.mem_cons_of_mem _ hm) x hx
   omega
theorem TrK.mergeS {E : List Int} {l0 : List Lk} {ns : List Nd} (h : TrK E l0 ns) (h0 : Rt l0) (hE : l0.length = E.length) {id : Int} (hid : id < 0) : TrK E l0 (Plain.mergeS ns id) := by
 rcases mergeS_cases ns id with e | ⟨a, b, R, p1, p2, ha, hb, hk, hk2⟩
 ·rw [e]; exact h
 have h1 := h.perm p1
 have hc : TrC E l0 (a.l :: b.l :: R.map Nd.l) := h1.c
 obtain ⟨ka, -, -⟩ := h1.k a (by simp)
 obtain ⟨kb, -, -⟩ := h1.k b (by simp)
 rw [← hk] at kb
 have hm : Rt (mergeL2 a.l b.l id) ∧ kindK (mergeL2 a.l b.l id) = (a.kind, true) := by
  rcases hk2 with q | q
  ·rw [q] at ka kb ⊢; exact hc.merge_ring h0 hE hid ha hb ka kb
  rw [q] at ka kb ⊢; exact hc.merge_bond h0 hE hid ha hb ka kb
 refine TrK.perm ?_ p2.symm
 refine ⟨hc.merge hid ha hb hm.1, fun n hn => ?_⟩
 rcases List.mem_cons.1 hn with rfl | hn
 ·exact ⟨hm.2, by show a.kind ≠ 4; rcases hk2 with q | q <;> rw [q] <;> decide, fun q => by
   have q : a.kind = 0 := q
   rcases hk2 with r | r <;> rw [r] at q <;> cases q⟩
 exact h1.k n (by simp [hn])
theorem TrK.mergeK {E : List Int} {l0 : List Lk} {ns : List Nd} (h : TrK E l0 ns) (h0 : Rt l0) (hE : l0.length = E.length) : ∀ k, TrK E l0 (Plain.mergeK ns k)
 | 0 => h
 | k + 1 => (TrK.mergeK h h0 hE k).mergeS h0 hE (by omega)
def NoAdj (ns : List Nd) (id : Int) : Prop := ∀ n ∈ ns, ∀ m ∈ ns, id ∈ idsL n.l → id ∈ idsL m.l → n ≠ m → ¬ (n.kind = m.kind ∧ (n.kind = 1 ∨ n.kind = 2))
theorem NoAdj.perm {ns ms : List Nd} {id : Int} (h : NoAdj ns id) (p : ns.Perm ms) : NoAdj ms id := fun n hn m hm => h n (p.mem_iff.2 hn) m (p.mem_iff.2 hm)
theorem nodes_nodup {E : List Int} {ns : List Nd} (h : Tr E (idsN ns)) : ns.Nodup := by
 have := h.dis
 unfold idsN List.Nodup at this
 rw [List.pairwise_map] at this
 exact this.imp fun h e => h (by rw [e])
theorem NoAdj.now {E : List Int} {ns : List Nd} (h : Tr E (idsN ns)) {id : Int} (hid : id < 0) : NoAdj (Plain.mergeS ns id) id := by
 have hcnt := h.two id hid
 have hat : (atK ns id).length = (idsN ns).countP fun x => decide (id ∈ x) := by
  unfold atK
  rw [← List.countP_eq_length_filter]
  unfold idsN
  rw [List.countP_map]
  have e : ns = (List.range ns.length).map (nd0 ns) := by
   have := range_getD (fun n : Nd => n) ns
   rw [List.map_id'] at this
   exact this.symm
  conv => rhs; rw [e]
  rw [List.countP_map]
  refine List.countP_congr fun i _ => ?_
  rw [hasK_iff]
  simp
 have ixs : ∀ n ∈ ns, id ∈ idsL n.l → ∃ i ∈ atK ns id, nd0 ns i = n := fun n hn q => by
  obtain ⟨i, hi, rfl⟩ := List.getElem_of_mem hn
  have e : nd0 ns i = ns[i] := by unfold nd0; simp [List.getD, hi]
  exact ⟨i, List.mem_filter.2 ⟨List.mem_range.2 hi, by rw [e]; exact hasK_iff.2 q⟩, e⟩
 unfold Plain.mergeS
 split
 ·rename_i i j hij
  split
  ·rename_i hc
   intro n hn m hm q1 q2 hne hk
   obtain ⟨a, ha, rfl⟩ := ixs n hn q1
   obtain ⟨b, hb, rfl⟩ := ixs m hm q2
   rw [hij] at ha hb
   simp only [List.mem_cons, List.not_mem_nil, or_false] at ha hb
   have hab : a ≠ b := fun e => hne (by rw [e])
   have fin : (nd0 ns i).kind = (nd0 ns j).kind ∧ ((nd0 ns i).kind = 1 ∨ (nd0 ns i).kind = 2) := by
    rcases ha with rfl | rfl <;> rcases hb with rfl | rfl
    ·exact absurd rfl hab
    ·exact hk
    ·exact ⟨hk.1.symm, by rw [← hk.1]; exact hk.2⟩
    exact absurd rfl hab
   rcases hc with q | ⟨q3, q4⟩
   ·exact q fin.1
   exact fin.2.elim q3 q4
  obtain ⟨h1, h2⟩ := atK_lt hij
  obtain ⟨R, p1, p2⟩ := two_of ns (⟨(nd0 ns i).kind, ((nd0 ns i).l ++ (nd0 ns j).l).filter fun x => x.id ≠ id⟩ : Nd) h1 h2
  have hm : ∀ k ∈ atK ns id, id ∈ idsL (nd0 ns k).l := fun k hk => hasK_iff.1 (List.mem_filter.1 hk).2
  have none : ∀ n ∈ (⟨(nd0 ns i).kind, ((nd0 ns i).l ++ (nd0 ns j).l).filter fun x => x.id ≠ id⟩ : Nd) :: R, id ∉ idsL n.l := by
   intro n hn q
   rcases List.mem_cons.1 hn with rfl | hn
   ·obtain ⟨z, hz, ez⟩ := List.mem_map.1 q
    exact (of_decide_eq_true (List.mem_filter.1 hz).2) ez
   have hp := (p1.map fun n : Nd => idsL n.l).countP_eq fun x => decide (id ∈ x)
   have e2 : (idsN ns).countP (fun x => decide (id ∈ x)) = 2 := by rw [← hat, hij]; rfl
   unfold idsN at e2
   rw [e2] at hp
   simp only [List.map_cons, List.countP_cons] at hp
   have ai : decide (id ∈ idsL (ns.getD i default).l) = true := decide_eq_true (hm i (by rw [hij]; simp))
   have aj : decide (id ∈ idsL (ns.getD j default).l) = true := decide_eq_true (hm j (by rw [hij]; simp))
   rw [ai, aj] at hp
   have : 0 < (R.map fun n : Nd => idsL n.l).countP fun x => decide (id ∈ x) := List.countP_pos_iff.2 ⟨_, List.mem_map.2 ⟨n, hn, rfl⟩, decide_eq_true q⟩
   simp only [if_true] at hp
   omega
  intro n hn m hm q1
  exact absurd q1 (none n (p2.mem_iff.1 hn))
 rename_i hno
 intro n hn m hm q1 q2 hne
 obtain ⟨a, ha, rfl⟩ := ixs n hn q1
 obtain ⟨b, hb, rfl⟩ := ixs m hm q2
 have hl : (atK ns id).length = 2 := by
  have := List.length_pos_of_mem ha
  rw [hat] at this ⊢
  omega
 exact absurd hl (by
  intro q
  match hat2 : atK ns id, q with
  | [i, j], _ => exact hno i j hat2)
theorem NoAdj.later {E : List Int} {ns : List Nd} (h : Tr E (idsN ns)) {id id' : Int} (hn : NoAdj ns id) : NoAdj (Plain.mergeS ns id') id := by
 rcases mergeS_cases ns id' with e | ⟨a, b, R, p1, p2, -, -, hk, -⟩
 ·rw [e]; exact hn
 refine NoAdj.perm ?_ p2.symm
 have hn := hn.perm p1
 have hd := p1.nodup_iff.1 (nodes_nodup h)
 rw [List.nodup_cons, List.nodup_cons] at hd
 have inM : id ∈ idsL ((a.l ++ b.l).filter fun x => x.id ≠ id') → ∃ c ∈ a :: b :: R, id ∈ idsL c.l ∧ c.kind = a.kind ∧ c ∉ R := fun q => by
  obtain ⟨z, hz, rfl⟩ := List.mem_map.1 q
  rcases List.mem_append.1 (List.mem_filter.1 hz).1 with r | r
  ·exact ⟨a, by simp, List.mem_map.2 ⟨z, r, rfl⟩, rfl, fun t => hd.1 (by simp [t])⟩
  exact ⟨b, by simp, List.mem_map.2 ⟨z, r, rfl⟩, hk.symm, hd.2.1⟩
 intro n hn1 m hm1 q1 q2 hne hkk
 rcases List.mem_cons.1 hn1 with rfl | hn1
 ·rcases List.mem_cons.1 hm1 with rfl | hm1
  ·exact hne rfl
  obtain ⟨c, hc, c1, c2, c3⟩ := inM q1
  exact hn c hc m (by simp [hm1]) c1 q2 (fun e => c3 (e ▸ hm1)) ⟨c2.trans hkk.1, by rw [c2]; exact hkk.2⟩
 rcases List.mem_cons.1 hm1 with rfl | hm1
 ·obtain ⟨c, hc, c1, c2, c3⟩ := inM q2
  exact hn n (by simp [hn1]) c hc q1 c1 (fun e => c3 (e ▸ hn1)) ⟨hkk.1.trans c2.symm, hkk.2⟩
 exact hn n (by simp [hn1]) m (by simp [hm1]) q1 q2 hne hkk
theorem NoAdj.all {E : List Int} {ns : List Nd} (h : Tr E (idsN ns)) : ∀ k j, j < k → NoAdj (Plain.mergeK ns k) (-1 - (j : Int))
 | 0, j, hj => by omega
 | k + 1, j, hj => by
  have ht := h.mergeK k
  by_cases e : j = k
  ·subst e; exact NoAdj.now ht (by omega)
  exact (NoAdj.all h k j (by omega)).later ht
end Go.Proofs.YtpcgklagmcnhaaaGreat.Plain
