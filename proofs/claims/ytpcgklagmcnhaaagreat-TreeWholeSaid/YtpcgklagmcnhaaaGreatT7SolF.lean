/- The first split is there where any split is. No program here. -/
import Derived.Test.YtpcgklagmcnhaaaGreatT7BeyW
namespace Go.Proofs.YtpcgklagmcnhaaaGreat.Plain
structure ClCol (u v : Int) (l : List Lk) (k : Nat) (c : Cl) (col : Nat → Bool) : Prop where
 ok : c.s.Ok
 all : c.s.all = ixs k
 met : ∀ w i, c.f w = some i → w ≠ u ∧ w ≠ v ∧ ∃ j : Nat, i = j ∧ j < k ∧ ((at0 l j).a = w ∨ (at0 l j).b = w)
 col : ∀ i j : Nat, i < k → j < k → c.s.rel i j → col i = col j
theorem clEnd_col {u v : Int} {l : List Lk} {k K : Nat} {c : Cl} {col : Nat → Bool} {x : Int} (hcol : ∀ i j, i < l.length → j < l.length → ∀ w, ((at0 l i).a = w ∨ (at0 l i).b = w) → ((at0 l j).a = w ∨ (at0 l j).b = w) → w ≠ u → w ≠ v → col i = col j) (hK : K ≤ l.length) (hk : k < K) (hx : (at0 l k).a = x ∨ (at0 l k).b = x) (h : ClCol u v l K c col) : ClCol u v l K (clEnd u v k c x) col := by
 unfold clEnd
 split
 ·exact h
 rename_i hn
 have n1 : x ≠ u := fun e => hn (Or.inl e)
 have n2 : x ≠ v := fun e => hn (Or.inr e)
 cases hf : c.f x with
 | none =>
  dsimp only
  refine ⟨h.ok, h.all, fun w i hw => ?_, h.col⟩
  dsimp only at hw
  by_cases e : w = x
  ·rw [if_pos e] at hw
   cases hw
   subst e
   exact ⟨n1, n2, k, rfl, hk, hx⟩
  rw [if_neg e] at hw
  exact h.met w i hw
 | some i =>
  dsimp only
  obtain ⟨-, -, j, rfl, hj, hjx⟩ := h.met x i hf
  have hjk : col j = col k := hcol j k (by omega) (by omega) x hjx hx n1 n2
  have memi : ∀ t : Nat, t < K → (t : Int) ∈ c.s.all := fun t ht => by rw [h.all]; exact mem_ixs.2 ⟨by omega, by omega⟩
  refine ⟨h.ok.join _ _, ?_, h.met, fun a b ha hb hr => ?_⟩
  ·show (c.s.join j k).all = _
   have : c.s.join j k = ((c.s.join j k)) := rfl
   rw [← h.all]
   have h1 := clEnd_all (u := u) (v := v) (i := (k : Int)) (c := c) (x := x) (fun i' q => by
    rw [hf] at q; cases q; exact memi j hj) (memi k hk)
   unfold clEnd at h1
   rw [if_neg hn, hf] at h1
   exact h1
  rcases (St.rel_join h.ok _ _ _ _).1 hr with q | ⟨q1, q2⟩ | ⟨q1, q2⟩
  ·exact h.col a b ha hb q
  ·rw [h.col a j ha hj q1, hjk]; exact h.col k b hk hb q2
  rw [h.col a k ha hk q1, ← hjk]; exact h.col j b hj hb q2
theorem clRun_col {u v : Int} {l : List Lk} {col : Nat → Bool} (hcol : ∀ i j, i < l.length → j < l.length → ∀ w, ((at0 l i).a = w ∨ (at0 l i).b = w) → ((at0 l j).a = w ∨ (at0 l j).b = w) → w ≠ u → w ≠ v → col i = col j) : ∀ k, k ≤ l.length → ClCol u v l k (clRun u v l k) col
 | 0, _ => ⟨(clRun_ok u v l 0).ok, (clRun_inv u v l 0).1, fun w i h => (by cases h), fun i j hi => (by omega)⟩
 | k + 1, hk => by
  have h := clRun_col hcol k (by omega)
  have hn : (k : Int) ∉ (clRun u v l k).s.all := by rw [h.all]; intro q; have := (mem_ixs.1 q).2; omega
  have h0 : ClCol u v l (k + 1) ⟨(clRun u v l k).s.put k, (clRun u v l k).f⟩ col := by
   refine ⟨h.ok.put _, by show ((clRun u v l k).s.put k).all = _; rw [St.put_new hn, h.all, ixs_snoc], fun w i hw => ?_, fun i j hi hj hr => ?_⟩
   ·obtain ⟨a, b, j, e, hj, hjw⟩ := h.met w i hw
    exact ⟨a, b, j, e, by omega, hjw⟩
   have hr := (St.rel_put h.ok _ _ _).1 hr
   by_cases e1 : i = k
   ·by_cases e2 : j = k
    ·rw [e1, e2]
    have := St.rel_at (St.rel_symm hr) (y := (i : Int)) (x := (j : Int))
    rcases hr with q | q
    ·have : i = j := by omega
     rw [this]
    obtain ⟨m1, -, -⟩ := St.same_iff.1 q
    rw [e1] at m1; exact absurd m1 hn
   by_cases e2 : j = k
   ·rcases hr with q | q
    ·have : i = j := by omega
     rw [this]
    obtain ⟨-, m1, -⟩ := St.same_iff.1 q
    rw [e2] at m1; exact absurd m1 hn
   exact h.col i j (by omega) (by omega) hr
  have h1 := clEnd_col (k := k) hcol hk (Nat.lt_succ_self k) (Or.inl rfl) h0
  exact clEnd_col (k := k) hcol hk (Nat.lt_succ_self k) (Or.inr rfl) h1
theorem cls_of {l : List Lk} {u v : Int} {i : Nat} (hi : i < l.length) : ∃ s ∈ classesK l u v, ∀ j, j < l.length → ((j : Int) ∈ s ↔ (clRun u v l l.length).s.rel i j) := by
 have hok := (clRun_ok u v l l.length).ok
 have hall := (clRun_inv u v l l.length).1
 have hn : (ixs l.length).Nodup := by rw [← hall]; exact hok.nodup
 have ix : ∀ i, i < l.length → (clRun u v l l.length).s.all.idxOf (i : Int) = i := fun i hi => by
  rw [hall]
  have hi2 : i < (ixs l.length).length := by rw [ixs_len]; exact hi
  have e : (ixs l.length)[i] = (i : Int) := by simp [ixs]
  rw [← e]
  exact hn.idxOf_getElem _ hi2
 have mem : ∀ j, j < l.length → (j : Int) ∈ (clRun u v l l.length).s.all := fun j hj => by rw [hall]; exact mem_ixs.2 ⟨by omega, by omega⟩
 have hgl : (clRun u v l l.length).s.grp.length = l.length := by rw [← hok.len, hall, ixs_len]
 refine ⟨(clRun u v l l.length).s.row l.length ((clRun u v l l.length).s.hd i), ?_, fun j hj => ?_⟩
 ·unfold classesK St.groups St.gr
  rw [hall, ixs_len]
  refine List.mem_map.2 ⟨(clRun u v l l.length).s.hd i, ?_, rfl⟩
  unfold St.heads
  have h1 := hok.le i (by omega)
  refine List.mem_filter.2 ⟨List.mem_range.2 (by omega), ?_⟩
  simpa using hok.own i (by omega)
 have key : (j : Int) ∈ (clRun u v l l.length).s.row l.length ((clRun u v l l.length).s.hd i) ↔ (clRun u v l l.length).s.hd j = (clRun u v l l.length).s.hd i := by
  unfold St.row
  rw [hall, List.mem_map]
  constructor
  ·rintro ⟨t, ht, e⟩
   obtain ⟨h1, h2⟩ := List.mem_filter.1 ht
   have ht2 := List.mem_range.1 h1
   have e2 : ((ixs l.length).getD t 0) = t := by simp [ixs, List.getD, ht2]
   rw [e2] at e
   have : t = j := by omega
   subst this
   simpa using h2
  intro q
  exact ⟨j, List.mem_filter.2 ⟨List.mem_range.2 hj, by simpa using q⟩, by simp [ixs, List.getD, hj]⟩
 rw [key]
 constructor
 ·intro q
  exact Or.inr (St.same_iff.2 ⟨mem i hi, mem j hj, by rw [ix i hi, ix j hj, q]⟩)
 intro q
 have := (St.rel_at q (mem j hj)).2
 rw [ix i hi, ix j hj] at this
 exact this.symm
theorem two_len {α : Type} {l : List α} {x y : α} (hx : x ∈ l) (hy : y ∈ l) (h : x ≠ y) : 2 ≤ l.length := by
 match l, hx, hy with
 | [z], hx, hy => exact absurd ((List.mem_singleton.1 hx).trans (List.mem_singleton.1 hy).symm) h
 | _ :: _ :: _, _, _ => simp
theorem count_two {α : Type} [DecidableEq α] {ks : List α} {f : α → List Int} {v : Int} {a b : α} (ha : a ∈ ks) (hb : b ∈ ks) (hab : a ≠ b) (h1 : v ∈ f a) (h2 : v ∈ f b) : 1 < (ks.flatMap f).count v := by
 have p1 := List.perm_cons_erase ha
 have hb2 : b ∈ ks.erase a := (List.mem_erase_of_ne (Ne.symm hab)).2 hb
 have p2 := List.perm_cons_erase hb2
 have p := (p1.trans (p2.cons a)).flatMap_right f
 rw [p.count_eq, List.flatMap_cons, List.flatMap_cons, List.count_append, List.count_append]
 have := List.count_pos_iff.2 h1
 have := List.count_pos_iff.2 h2
 omega
section
variable {l a0 b0 : List Lk} {u v : Int}
theorem two_links (hr : Rt l) (hu : Vx l u) (hv : Vx l v) (huv : u ≠ v) {w : Int} {x : Lk} (hx : x ∈ l) (hxw : x.a = w ∨ x.b = w) (h1 : w ≠ u) (h2 : w ≠ v) : ∃ y ∈ l, y ≠ x ∧ (y.a = w ∨ y.b = w) := by
 refine Classical.byContradiction fun q => ?_
 have only : ∀ y ∈ l, (y.a = w ∨ y.b = w) → y = x := fun y hy hyw => Classical.byContradiction fun hne => q ⟨y, hy, hne, hyw⟩
 obtain ⟨t, ht, htx⟩ : ∃ t, Vx l t ∧ (x.a = t ∨ x.b = t) ∧ t ≠ w := by
  have hne := (hr.ok x hx).2.2.1
  rcases hxw with e | e
  ·exact ⟨x.b, ⟨x, hx, Or.inr rfl⟩, Or.inr rfl, fun q => hne (e.trans q.symm)⟩
  exact ⟨x.a, ⟨x, hx, Or.inl rfl⟩, Or.inl rfl, fun q => hne (q.trans e.symm)⟩
 have hc := hr.con t ht (fun y => decide (y = w)) (fun y hy ha hb => by
  rw [decide_eq_decide]
  have no : ¬ (y.a = w ∨ y.b = w) := fun hyw => by
   rw [only y hy hyw] at ha hb
   rcases htx.1 with e | e
   ·exact ha e
   exact hb e
  exact ⟨fun e => absurd (Or.inl e) no, fun e => absurd (Or.inr e) no⟩)
 by_cases e : u = t
 ·have := hc w v ⟨x, hx, hxw⟩ hv (Ne.symm htx.2) (fun q => huv (e.trans q.symm))
  simp [Ne.symm h2] at this
 have := hc w u ⟨x, hx, hxw⟩ hu (Ne.symm htx.2) e
 simp [Ne.symm h1] at this
theorem side_nodup (hr : Rt l) (hp : (a0 ++ b0).Perm l) : (a0 ++ b0).Nodup := hp.nodup_iff.2 (by
 have := hr.nod
 unfold idsL List.Nodup at this
 rw [List.pairwise_map] at this
 exact this.imp fun h e => h (by rw [e]))
theorem cls_will (hr : Rt l) (hp : (a0 ++ b0).Perm l) (ha : 2 ≤ a0.length) (hb : 2 ≤ b0.length) (hs : ∀ w, Vx a0 w → Vx b0 w → w = u ∨ w = v) (huv : u ≠ v) (hu : Vx l u) (hv : Vx l v) (h3 : ∃ w, Vx l w ∧ w ≠ u ∧ w ≠ v) : ∃ s ∈ classesK l u v, willK l.length s.length = true := by
 obtain ⟨w, ⟨x, hx, hxw⟩, n1, n2⟩ := h3
 have hnd := side_nodup hr hp
 obtain ⟨na, nb, nab⟩ := List.nodup_append.1 hnd
 obtain ⟨y, hy, hyx, hyw⟩ := two_links hr hu hv huv hx hxw n1 n2
 obtain ⟨i, hi, rfl⟩ := ix_mem hx
 obtain ⟨j, hj, rfl⟩ := ix_mem hy
 obtain ⟨s, hsc, hsm⟩ := cls_of (u := u) (v := v) hi
 have hok := clRun_ok u v l l.length
 have hij : (clRun u v l l.length).s.rel i j := by
  obtain ⟨a, a1, a2⟩ := hok.met i hi w hxw n1 n2
  obtain ⟨b, b1, b2⟩ := hok.met j hj w hyw n1 n2
  rw [a1] at b1
  cases b1
  exact St.rel_trans (St.rel_symm a2) b2
 have mi : (i : Int) ∈ s := (hsm i hi).2 (St.rel_refl _ _)
 have mj : (j : Int) ∈ s := (hsm j hj).2 hij
 have hlen2 : 2 ≤ s.length := two_len mi mj fun e => hyx (by rw [show i = j by omega])
 have side : ∀ k, k < l.length → at0 l k ∈ a0 ∨ at0 l k ∈ b0 := fun k hk => List.mem_append.1 (hp.mem_iff.2 (at0_in hk))
 have hcc := clRun_col (u := u) (v := v) (l := l) (col := fun k => decide (at0 l k ∈ a0)) (fun p q hp2 hq2 t h1 h2 m1 m2 => by
  rw [decide_eq_decide]
  have no : ∀ p q, p < l.length → q < l.length → ((at0 l p).a = t ∨ (at0 l p).b = t) → ((at0 l q).a = t ∨ (at0 l q).b = t) → at0 l p ∈ a0 → at0 l q ∈ a0 := fun p q hp2 hq2 h1 h2 hpa => by
   rcases side q hq2 with r | r
   ·exact r
   rcases hs t ⟨_, hpa, h1⟩ ⟨_, r, h2⟩ with e | e
   ·exact absurd e m1
   exact absurd e m2
  exact ⟨no p q hp2 hq2 h1 h2, no q p hq2 hp2 h2 h1⟩) l.length (Nat.le_refl _)
 have same : ∀ k, k < l.length → (k : Int) ∈ s → (at0 l i ∈ a0 ↔ at0 l k ∈ a0) := fun k hk hks => decide_eq_decide.1 (hcc.col i k hi hk ((hsm k hk).1 hks))
 -- the other side is left
 obtain ⟨q, hq⟩ := cls_row hsc
 have hlen : s.length + ((List.range l.length).filter fun k => !q k).length = l.length := by
  have := filter_two q (List.range l.length)
  rw [List.length_range] at this
  rw [hq, List.length_map]
  exact this
 have out : ∀ k, k < l.length → q k = true → (k : Int) ∈ s := fun k hk h => by rw [hq]; exact List.mem_map.2 ⟨k, List.mem_filter.2 ⟨List.mem_range.2 hk, h⟩, rfl⟩
 have two : ∀ c : List Lk, 2 ≤ c.length → c.Nodup → (∀ x ∈ c, x ∈ l) → (∀ k, k < l.length → at0 l k ∈ c → (k : Int) ∉ s) → 2 ≤ ((List.range l.length).filter fun k => !q k).length := by
  intro c hc hcn hcl hcs
  match c, hc, hcn with
  | x :: y :: r, _, hcn =>
   obtain ⟨m, hm, e1⟩ := ix_mem (hcl x (by simp))
   obtain ⟨n, hn, e2⟩ := ix_mem (hcl y (by simp))
   have f : ∀ k, k < l.length → at0 l k ∈ x :: y :: r → k ∈ (List.range l.length).filter fun k => !q k := fun k hk h => by
    refine List.mem_filter.2 ⟨List.mem_range.2 hk, ?_⟩
    cases hqk : q k with
    | false => rfl
    | true => exact absurd (out k hk hqk) (hcs k hk h)
   refine two_len (f m hm (by rw [e1]; simp)) (f n hn (by rw [e2]; simp)) fun e => ?_
   rw [e, e2] at e1
   rw [List.nodup_cons] at hcn
   exact hcn.1 (by rw [e1]; simp)
 have hleft : 2 ≤ ((List.range l.length).filter fun k => !q k).length := by
  by_cases e : at0 l i ∈ a0
  ·exact two b0 hb nb (fun x hx => hp.mem_iff.1 (List.mem_append_right _ hx)) fun k hk hkb hks => nab _ ((same k hk hks).1 e) _ hkb rfl
  exact two a0 ha na (fun x hx => hp.mem_iff.1 (List.mem_append_left _ hx)) fun k hk hka hks => e ((same k hk hks).2 hka)
 refine ⟨s, hsc, ?_⟩
 unfold willK
 rw [decide_eq_true hlen2, decide_eq_true (show 2 ≤ (l.length : Int) - s.length by omega)]
 rfl
theorem firstC_some (h : ∃ s ∈ classesK l u v, willK l.length s.length = true) : firstC l u v ≠ none := by
 obtain ⟨s, h1, h2⟩ := h
 unfold firstC
 rw [Ne, Option.map_eq_none_iff, List.find?_eq_none]
 exact fun q => q s h1 h2
theorem side_link (hr : Rt l) (hp : (a0 ++ b0).Perm l) (hs : ∀ w, Vx a0 w → Vx b0 w → w = u ∨ w = v) (huv : u ≠ v) (hu : Vx l u) (hv : Vx l v) (hin : ∃ w, Vx a0 w ∧ w ≠ u ∧ w ≠ v) : ∃ x ∈ a0, (x.a = v ∨ x.b = v) ∧ x.a ≠ u ∧ x.b ≠ u := by
 refine Classical.byContradiction fun q => ?_
 have no : ∀ x ∈ a0, (x.a = v ∨ x.b = v) → x.a = u ∨ x.b = u := fun x hx hxv => Classical.byContradiction fun r => q ⟨x, hx, hxv, fun e => r (Or.inl e), fun e => r (Or.inr e)⟩
 obtain ⟨w, hw, n1, n2⟩ := hin
 open Classical in
 have hc := hr.con u hu (fun y => decide (Vx a0 y ∧ y ≠ v ∧ y ≠ u)) (fun x hx h1 h2 => by
  rw [decide_eq_decide]
  rcases List.mem_append.1 (hp.mem_iff.2 hx) with r | r
  ·have h3 : x.a ≠ v := fun e => (no x r (Or.inl e)).elim h1 h2
   have h4 : x.b ≠ v := fun e => (no x r (Or.inr e)).elim h1 h2
   exact ⟨fun _ => ⟨⟨x, r, Or.inr rfl⟩, h4, h2⟩, fun _ => ⟨⟨x, r, Or.inl rfl⟩, h3, h1⟩⟩
  refine ⟨fun k => ?_, fun k => ?_⟩
  ·rcases hs x.a k.1 ⟨x, r, Or.inl rfl⟩ with e | e
   ·exact absurd e k.2.2
   exact absurd e k.2.1
  rcases hs x.b k.1 ⟨x, r, Or.inr rfl⟩ with e | e
  ·exact absurd e k.2.2
  exact absurd e k.2.1) w v ((vx_perm hp).1 (vx_app.2 (Or.inl hw))) hv n1 (Ne.symm huv)
 simp [hw, n1, n2] at hc
end
section
variable {l a0 b0 : List Lk} {u v : Int}
theorem uv_count (h : ∃ i j, i < l.length ∧ j < l.length ∧ i ≠ j ∧ (((at0 l i).a = u ∧ (at0 l i).b = v) ∨ ((at0 l i).a = v ∧ (at0 l i).b = u)) ∧ (((at0 l j).a = u ∧ (at0 l j).b = v) ∨ ((at0 l j).a = v ∧ (at0 l j).b = u))) (huv : u ≠ v) : 2 ≤ (goU (grK l) (ptK l).e u).count v := by
 obtain ⟨i, j, hi, hj, hij, h1, h2⟩ := h
 unfold goU List.count
 rw [List.countP_filterMap, List.countP_eq_length_filter]
 have f : ∀ k, k < l.length → (((at0 l k).a = u ∧ (at0 l k).b = v) ∨ ((at0 l k).a = v ∧ (at0 l k).b = u)) → (k : Int) ∈ (ptK l).e.filter fun e => ((if ((grK l).at e).1 = u then some ((grK l).at e).2 else if ((grK l).at e).2 = u then some ((grK l).at e).1 else none).map fun x => x == v).getD false := fun k hk h => by
  refine List.mem_filter.2 ⟨mem_ixs.2 ⟨by omega, by omega⟩, ?_⟩
  rw [grK_at hk]
  rcases h with ⟨e1, e2⟩ | ⟨e1, e2⟩
  ·simp [e1, e2]
  simp [e1, e2, Ne.symm huv]
 exact two_len (f i hi h1) (f j hj h2) fun e => hij (by omega)
theorem come_rest {g : Gr} {p : Pt} {z a b : Int} {c : Int → Bool} (hc : ∀ x y, Near g p x y → x ≠ z → y ≠ z → c x = c y) (ha : a ≠ z) (h : Come g p z a b) : c a = c b ∧ b ≠ z := by
 induction h with
 | here => exact ⟨rfl, ha⟩
 | step h1 hn hs ih => exact ⟨ih.1.trans (hc _ _ hn ih.2 hs), hs⟩
theorem rest_err (hw : wholeB l = true) (u : Int) : (restU (grK l) (ptK l) u).err (grK l) = 0 := by
 have he := ptK_err hw
 obtain ⟨h0, h1, h2, -⟩ := Pt.err_ok he
 refine Pt.err_of h0 ?_ ?_ fun e h => ?_
 ·exact rises_filter h1 fun x => decide (x ≠ u)
 ·exact rises_filter h2 fun e => decide (((grK l).at e).1 ≠ u ∧ ((grK l).at e).2 ≠ u)
 obtain ⟨a, b⟩ := List.mem_filter.1 (show e ∈ (ptK l).e.filter _ from h)
 have b := of_decide_eq_true b
 obtain ⟨c, d⟩ := Pt.ends_in he e a
 exact ⟨List.mem_filter.2 ⟨c, decide_eq_true b.1⟩, List.mem_filter.2 ⟨d, decide_eq_true b.2⟩⟩
theorem cuts_mem (hr : Rt l) (hp : (a0 ++ b0).Perm l) (hs : ∀ w, Vx a0 w → Vx b0 w → w = u ∨ w = v) (huv : u ≠ v) (hu : Vx l u) (hv : Vx l v) (hia : ∃ w, Vx a0 w ∧ w ≠ u ∧ w ≠ v) (hib : ∃ w, Vx b0 w ∧ w ≠ u ∧ w ≠ v) : v ∈ cutsB (grK l) (restU (grK l) (ptK l) u) := by
 have hw := whole_iff.2 ⟨hr.nod, hr.ok, hr.siz⟩
 have hqe := rest_err hw u
 have hok := Pt.ok_of_err hqe
 obtain ⟨x, hx, hxv, x1, x2⟩ := side_link hr hp hs huv hu hv hia
 obtain ⟨y, hy, hyv, y1, y2⟩ := side_link hr (List.perm_append_comm.trans hp) (fun w h1 h2 => hs w h2 h1) huv hu hv hib
 have hxl : x ∈ l := hp.mem_iff.1 (List.mem_append_left _ hx)
 have hyl : y ∈ l := hp.mem_iff.1 (List.mem_append_right _ hy)
 have hnd := side_nodup hr hp
 have hxy : x ≠ y := fun e => (List.nodup_append.1 hnd).2.2 x hx y hy e
 obtain ⟨i, hi, rfl⟩ := ix_mem hxl
 obtain ⟨j, hj, rfl⟩ := ix_mem hyl
 have hij : (i : Int) ≠ j := fun e => hxy (by rw [show i = j by omega])
 obtain ⟨q, hq⟩ : ∃ q, restU (grK l) (ptK l) u = q := ⟨_, rfl⟩
 have me : ∀ k, k < l.length → (at0 l k).a ≠ u → (at0 l k).b ≠ u → (k : Int) ∈ q.e := fun k hk h1 h2 => by
  rw [← hq]
  exact List.mem_filter.2 ⟨mem_ixs.2 ⟨by omega, by omega⟩, by rw [grK_at hk]; exact decide_eq_true ⟨h1, h2⟩⟩
 have em : ∀ e, e ∈ q.e → ∃ k : Nat, e = k ∧ k < l.length ∧ (at0 l k).a ≠ u ∧ (at0 l k).b ≠ u := fun e he => by
  rw [← hq] at he
  obtain ⟨h1, h2⟩ := List.mem_filter.1 (show e ∈ (ptK l).e.filter _ from he)
  obtain ⟨b1, b2⟩ := mem_ixs.1 (show e ∈ ixs l.length from h1)
  obtain ⟨k, rfl⟩ : ∃ k : Nat, e = k := ⟨e.toNat, by omega⟩
  have h2 := of_decide_eq_true h2
  rw [grK_at (by omega)] at h2
  exact ⟨k, rfl, by omega, h2.1, h2.2⟩
 rw [hq] at hqe hok ⊢
 -- apart at v
 open Classical in
 have col : ∀ a b, Near (grK l) q a b → a ≠ v → b ≠ v → decide (Vx a0 a) = decide (Vx a0 b) := by
  rintro a b ⟨e, he, hab⟩ h1 h2
  obtain ⟨k, rfl, hk, k1, k2⟩ := em e he
  rw [grK_at hk] at hab
  have hne : ∀ t, ((at0 l k).a = t ∨ (at0 l k).b = t) → t ≠ u := fun t ht => by
   rcases ht with e | e
   ·rw [← e]; exact k1
   rw [← e]; exact k2
  have hta : (at0 l k).a = a ∨ (at0 l k).b = a := by
   rcases hab with e | e
   ·exact Or.inl (congrArg Prod.fst e)
   exact Or.inr (congrArg Prod.snd e)
  have htb : (at0 l k).a = b ∨ (at0 l k).b = b := by
   rcases hab with e | e
   ·exact Or.inr (congrArg Prod.snd e)
   exact Or.inl (congrArg Prod.fst e)
  rw [decide_eq_decide]
  rcases List.mem_append.1 (hp.mem_iff.2 (at0_in hk)) with r | r
  ·exact ⟨fun _ => ⟨_, r, htb⟩, fun _ => ⟨_, r, hta⟩⟩
  refine ⟨fun m => ?_, fun m => ?_⟩
  ·rcases hs a m ⟨_, r, hta⟩ with e | e
   ·exact absurd e (hne a hta)
   exact absurd e h1
  rcases hs b m ⟨_, r, htb⟩ with e | e
  ·exact absurd e (hne b htb)
  exact absurd e h2
 have offk : ∀ k, k < l.length → ((at0 l k).a = v ∨ (at0 l k).b = v) → (at0 l k).a ≠ u → (at0 l k).b ≠ u → off (grK l) v (k : Int) ≠ v ∧ off (grK l) v (k : Int) ≠ u ∧ ((at0 l k).a = off (grK l) v (k : Int) ∨ (at0 l k).b = off (grK l) v (k : Int)) := fun k hk hkv h1 h2 => by
  rw [off_at hk]
  have := (hr.ok _ (at0_in hk)).2.2.1
  split
  ·rename_i e; exact ⟨by rw [← e]; exact Ne.symm this, h2, Or.inr rfl⟩
  exact ⟨by assumption, h1, Or.inl rfl⟩
 obtain ⟨f1, f2, f3⟩ := offk i hi hxv x1 x2
 obtain ⟨g1, g2, g3⟩ := offk j hj hyv y1 y2
 have hap : Apart (grK l) q v i j := ⟨hij, Or.inr (Or.inr fun hcome => by
  have h1 := (come_rest col f1 hcome).1
  rw [decide_eq_decide] at h1
  have h2 : Vx a0 (off (grK l) v (j : Int)) := h1.1 ⟨_, hx, f3⟩
  rcases hs _ h2 ⟨_, hy, g3⟩ with e | e
  ·exact g2 e
  exact g1 e)⟩
 -- two blocks
 have hperm := blocks_perm hok
 obtain ⟨B1, hB1, hi1⟩ := List.mem_flatten.1 (hperm.mem_iff.2 (me i hi x1 x2))
 obtain ⟨B2, hB2, hj2⟩ := List.mem_flatten.1 (hperm.mem_iff.2 (me j hj y1 y2))
 have hin : ∀ B ∈ (findAll (grK l) q).bl, ∀ e ∈ B, e ∈ q.e := fun B hB e he => hperm.mem_iff.1 (List.mem_flatten.2 ⟨B, hB, he⟩)
 have hfn : (findAll (grK l) q).bl.flatten.Nodup := hperm.nodup_iff.2 hok.en
 have same : ∀ B ∈ (findAll (grK l) q).bl, ∀ C ∈ (findAll (grK l) q).bl, ∀ e, e ∈ B → e ∈ C → B = C := fun B hB C hC e h1 h2 => by
  refine Classical.byContradiction fun hne => ?_
  unfold List.Nodup at hfn
  rw [List.pairwise_flatten] at hfn
  have hpw := hfn.2
  rw [List.pairwise_iff_getElem] at hpw
  obtain ⟨m, hm, rfl⟩ := List.getElem_of_mem hB
  obtain ⟨n, hn, rfl⟩ := List.getElem_of_mem hC
  rcases Nat.lt_trichotomy m n with o | o | o
  ·exact hpw m n hm hn o e h1 e h2 rfl
  ·subst o; exact hne rfl
  exact hpw n m hn hm o e h2 e h1 rfl
 have hBne : B1 ≠ B2 := fun e => blk_tight hok hB1 (q := q) (hin B1 hB1) hi1 (e ▸ hj2) hap
 have head : ∀ B ∈ (findAll (grK l) q).bl, B ≠ [] → B.getD 0 0 ∈ keysB (grK l) q ∧ blAt (findAll (grK l) q).bl (B.getD 0 0) = B := fun B hB hne => by
  have hk : B.getD 0 0 ∈ headsB (findAll (grK l) q).bl := List.mem_map.2 ⟨B, hB, rfl⟩
  refine ⟨keysB_mem.2 hk, ?_⟩
  obtain ⟨h1, h2⟩ := blAt_mem hk
  have hb0 : B.getD 0 0 ∈ B := by
   cases B with
   | nil => exact absurd rfl hne
   | cons z B => simp
  obtain ⟨h1', -⟩ := find_ok hok
  have hz := h1'.good.bln _ h1
  have hm : (blAt (findAll (grK l) q).bl (B.getD 0 0)).getD 0 0 ∈ blAt (findAll (grK l) q).bl (B.getD 0 0) := by
   generalize blAt (findAll (grK l) q).bl (B.getD 0 0) = C at hz
   cases C with
   | nil => exact absurd rfl hz
   | cons z C => simp
  rw [h2] at hm
  exact same _ h1 _ hB (B.getD 0 0) hm hb0
 obtain ⟨k1, r1⟩ := head B1 hB1 (List.ne_nil_of_mem hi1)
 obtain ⟨k2, r2⟩ := head B2 hB2 (List.ne_nil_of_mem hj2)
 have inv : ∀ B k, k < l.length → (k : Int) ∈ B → ((at0 l k).a = v ∨ (at0 l k).b = v) → v ∈ (bspan (grK l) B).v := fun B k hk hkB hkv => by
  show v ∈ tidy _
  rw [(tidy_ok _).2, endsL_mem]
  exact ⟨k, hkB, by rw [grK_at hk]; exact hkv⟩
 unfold cutsB
 rw [if_neg (by simp [hqe])]
 refine List.mem_filter.2 ⟨?_, decide_eq_true ?_⟩
 ·obtain ⟨z, hz, hzv⟩ := hv
  have b1 := hr.ok z hz
  have b2 := nK_ge z hz
  refine mem_ixs.2 ?_
  show 0 ≤ v ∧ v < ((nK l).toNat : Int)
  have := nK_pos l
  rcases hzv with rfl | rfl <;> omega
 refine count_two k1 k2 (fun e => hBne (by rw [← r1, ← r2, e])) ?_ ?_
 ·unfold blkV
  rw [r1]
  exact inv B1 i hi hi1 hxv
 unfold blkV
 rw [r2]
 exact inv B2 j hj hj2 hyv
theorem first_lt (hr : Rt l) (hnr : ringsK l = false) (hp : (a0 ++ b0).Perm l) (ha : 2 ≤ a0.length) (hb : 2 ≤ b0.length) (hs : ∀ w, Vx a0 w → Vx b0 w → w = u ∨ w = v) (hlt : u < v) (hu : Vx l u) (hv : Vx l v) (h3 : ∃ w, Vx l w ∧ w ≠ u ∧ w ≠ v) : firstK l ≠ none := by
 have huv : u ≠ v := Int.ne_of_lt hlt
 have hcl := cls_will hr hp ha hb hs huv hu hv h3
 have hbes : v ∈ besideK (grK l) (ptK l) u := by
  unfold besideK
  refine List.mem_filter.2 ⟨List.mem_filter.2 ⟨ptvx.2 hv, decide_eq_true (Ne.symm huv)⟩, ?_⟩
  rw [decide_eq_false (show ¬ v < u by omega), Bool.false_or]
  by_cases hc : (goU (grK l) (ptK l).e u).count v < 2
  ·have hin : ∀ c d : List Lk, (c ++ d).Perm l → 2 ≤ c.length → ∃ w, Vx c w ∧ w ≠ u ∧ w ≠ v := by
    intro c d hcd hc2
    refine Classical.byContradiction fun q => ?_
    have all : ∀ x ∈ c, (x.a = u ∧ x.b = v) ∨ (x.a = v ∧ x.b = u) := fun x hx => by
     have hne := (hr.ok x (hcd.mem_iff.1 (List.mem_append_left _ hx))).2.2.1
     have e : ∀ w, (x.a = w ∨ x.b = w) → w = u ∨ w = v := fun w hw => Classical.byContradiction fun r => q ⟨w, ⟨x, hx, hw⟩, fun k => r (Or.inl k), fun k => r (Or.inr k)⟩
     rcases e x.a (Or.inl rfl) with e1 | e1 <;> rcases e x.b (Or.inr rfl) with e2 | e2
     ·exact absurd (e1.trans e2.symm) hne
     ·exact Or.inl ⟨e1, e2⟩
     ·exact Or.inr ⟨e1, e2⟩
     exact absurd (e1.trans e2.symm) hne
    have hnd := (List.nodup_append.1 (side_nodup hr hcd)).1
    match c, hc2, hnd with
    | x :: y :: r, _, hnd =>
     obtain ⟨i, hi, e1⟩ := ix_mem (hcd.mem_iff.1 (List.mem_append_left _ (show x ∈ x :: y :: r by simp)))
     obtain ⟨j, hj, e2⟩ := ix_mem (hcd.mem_iff.1 (List.mem_append_left _ (show y ∈ x :: y :: r by simp)))
     have := uv_count (l := l) (u := u) (v := v) ⟨i, j, hi, hj, fun e => by
      rw [List.nodup_cons] at hnd
      exact hnd.1 (by rw [← e1, e, e2]; simp), by rw [e1]; exact all x (by simp), by rw [e2]; exact all y (by simp)⟩ huv
     omega
   have := cuts_mem hr hp hs huv hu hv (hin a0 b0 hp ha) (hin b0 a0 (List.perm_append_comm.trans hp) hb)
   rw [decide_eq_true this]
   simp
  rw [decide_eq_false hc]; rfl
 unfold firstK
 rw [if_pos ⟨right_iff.2 hr, hnr⟩, Ne, List.findSome?_eq_none_iff]
 intro q
 have q := q u (ptvx.2 hu)
 unfold firstV at q
 rw [List.findSome?_eq_none_iff] at q
 exact firstC_some hcl (q v hbes)
theorem first_some (hr : Rt l) (hnr : ringsK l = false) (hp : (a0 ++ b0).Perm l) (ha : 2 ≤ a0.length) (hb : 2 ≤ b0.length) (hs : ∀ w, Vx a0 w → Vx b0 w → w = u ∨ w = v) (huv : u ≠ v) (hu : Vx l u) (hv : Vx l v) (h3 : ∃ w, Vx l w ∧ w ≠ u ∧ w ≠ v) : firstK l ≠ none := by
 rcases Int.lt_or_gt_of_ne huv with h | h
 ·exact first_lt hr hnr hp ha hb hs h hu hv h3
 obtain ⟨w, hw, n1, n2⟩ := h3
 exact first_lt hr hnr hp ha hb (fun w h1 h2 => (hs w h1 h2).symm) h hv hu ⟨w, hw, n2, n1⟩
end
theorem firstK_is {l : List Lk} {u v : Int} {s : List Int} (h : firstK l = some (u, v, s)) : Rt l ∧ ringsK l = false ∧ u ≠ v ∧ Vx l u ∧ Vx l v ∧ s ∈ classesK l u v ∧ willK l.length s.length = true := by
 unfold firstK at h
 split at h
 ·rename_i hc
  obtain ⟨u', hu, h⟩ := List.exists_of_findSome?_eq_some h
  unfold firstV at h
  obtain ⟨v', hv, h⟩ := List.exists_of_findSome?_eq_some h
  unfold firstC at h
  obtain ⟨c, hc1, hc2⟩ := Option.map_eq_some_iff.1 h
  simp only [Prod.mk.injEq] at hc2
  obtain ⟨rfl, rfl, rfl⟩ := hc2
  obtain ⟨h1, -⟩ := List.mem_filter.1 (show v' ∈ (restU (grK l) (ptK l) u').v.filter _ from hv)
  obtain ⟨h2, h3⟩ := List.mem_filter.1 (show v' ∈ (ptK l).v.filter _ from h1)
  exact ⟨right_iff.1 hc.1, hc.2, Ne.symm (of_decide_eq_true h3), ptvx.1 hu, ptvx.1 h2, List.mem_of_find?_eq_some hc1, (by have := List.find?_some hc1; exact this)⟩
 cases h
theorem cutN_none {l : List Lk} {last : Int} (hl : last ≤ 0) (hi : ∀ x ∈ l, last ≤ x.id) (h : cutN l last = none) : firstK l = none := by
 cases hf : firstK l with
 | none => rfl
 | some t =>
  obtain ⟨u, v, s⟩ := t
  obtain ⟨hr, -, huv, hu, hv, hs, hw⟩ := firstK_is hf
  unfold cutN at h
  rw [hf] at h
  have h : cutK l u v s (last - 1) = none := h
  unfold cutK at h
  rw [if_pos] at h
  ·cases h
  refine ⟨?_, hw, by omega, ?_⟩
  ·unfold classesR
   rw [if_neg]
   ·simpa using hs
   rintro (q | q | q | q)
   ·exact huv q
   ·exact q (vx_mem.2 hu)
   ·exact q (vx_mem.2 hv)
   rw [right_iff.2 hr] at q; cases q
  rw [List.any_eq_false]
  intro x hx e
  have := hi x hx
  have e : x.id = last - 1 := by simpa using e
  omega
structure Ren (f : Lk → Lk) (l m : List Lk) : Prop where
 perm : m.Perm (l.map f)
 ends : ∀ x ∈ l, ((f x).a = x.a ∧ (f x).b = x.b) ∨ ((f x).a = x.b ∧ (f x).b = x.a)
 nod : (idsL m).Nodup
theorem flatMap_perm2 {α β : Type} {l : List α} {f g : α → List β} (h : ∀ x ∈ l, (f x).Perm (g x)) : (l.flatMap f).Perm (l.flatMap g) := by
 induction l with
 | nil => exact List.Perm.refl _
 | cons x l ih =>
  rw [List.flatMap_cons, List.flatMap_cons]
  exact (h x (by simp)).append (ih fun y hy => h y (by simp [hy]))
section
variable {f : Lk → Lk} {l m : List Lk}
theorem Ren.end_iff (h : Ren f l m) {x : Lk} (hx : x ∈ l) {w : Int} : ((f x).a = w ∨ (f x).b = w) ↔ (x.a = w ∨ x.b = w) := by
 rcases h.ends x hx with ⟨e1, e2⟩ | ⟨e1, e2⟩
 ·rw [e1, e2]
 rw [e1, e2]; exact Or.comm
theorem Ren.vx (h : Ren f l m) {w : Int} : Vx m w ↔ Vx l w := by
 constructor
 ·rintro ⟨y, hy, hw⟩
  obtain ⟨x, hx, rfl⟩ := List.mem_map.1 (h.perm.mem_iff.1 hy)
  exact ⟨x, hx, (h.end_iff hx).1 hw⟩
 rintro ⟨x, hx, hw⟩
 exact ⟨f x, h.perm.mem_iff.2 (List.mem_map.2 ⟨x, hx, rfl⟩), (h.end_iff hx).2 hw⟩
theorem Ren.len (h : Ren f l m) : m.length = l.length := by rw [h.perm.length_eq, List.length_map]
theorem Ren.con (h : Ren f l m) {v : Int} (hc : ConV l v) : ConV m v := fun c hcol y z hy hz => hc c (fun x hx h1 h2 => by
 have hm := h.perm.mem_iff.2 (List.mem_map.2 ⟨x, hx, rfl⟩)
 rcases h.ends x hx with ⟨e1, e2⟩ | ⟨e1, e2⟩
 ·have := hcol _ hm (by rw [e1]; exact h1) (by rw [e2]; exact h2)
  rwa [e1, e2] at this
 have := hcol _ hm (by rw [e1]; exact h2) (by rw [e2]; exact h1)
 rw [e1, e2] at this; exact this.symm) y z (h.vx.1 hy) (h.vx.1 hz)
theorem Ren.rt (h : Ren f l m) (hr : Rt l) : Rt m := by
 refine ⟨fun q => hr.ne (List.length_eq_zero_iff.1 (by rw [← h.len, q]; rfl)), h.nod, fun y hy => ?_, ?_, fun v hv => h.con (hr.con v (h.vx.1 hv))⟩
 ·obtain ⟨x, hx, rfl⟩ := List.mem_map.1 (h.perm.mem_iff.1 hy)
  obtain ⟨a, b, c, d, e⟩ := hr.ok x hx
  rcases h.ends x hx with ⟨e1, e2⟩ | ⟨e1, e2⟩
  ·rw [e1, e2]; exact ⟨a, b, c, d, e⟩
  rw [e1, e2]; exact ⟨b, a, Ne.symm c, e, d⟩
 have h1 : nK m ≤ nK l := nK_le (nK_pos l) fun y hy => by
  obtain ⟨x, hx, rfl⟩ := List.mem_map.1 (h.perm.mem_iff.1 hy)
  have := nK_ge x hx
  rcases h.ends x hx with ⟨e1, e2⟩ | ⟨e1, e2⟩
  ·rw [e1, e2]; exact this
  rw [e1, e2]; exact ⟨this.2, this.1⟩
 have := hr.siz
 have := h.len
 omega
theorem Ren.ends_perm (h : Ren f l m) : (endsK m).Perm (endsK l) := by
 unfold endsK
 refine (h.perm.flatMap_right _).trans ?_
 rw [List.flatMap_map]
 refine flatMap_perm2 fun x hx => ?_
 rcases h.ends x hx with ⟨e1, e2⟩ | ⟨e1, e2⟩
 ·rw [e1, e2]
 rw [e1, e2]; exact List.Perm.swap _ _ _
theorem rings_perm {l m : List Lk} (h : (endsK m).Perm (endsK l)) : ringsK m = ringsK l := by
 unfold ringsK
 rw [Bool.eq_iff_iff, List.all_eq_true, List.all_eq_true]
 exact ⟨fun q x hx => by rw [← h.count_eq]; exact q x (h.mem_iff.2 hx), fun q x hx => by rw [h.count_eq]; exact q x (h.mem_iff.1 hx)⟩
theorem verts_perm {l m : List Lk} (h : (endsK m).Perm (endsK l)) : vertsK m = vertsK l := rise_ext (tidy_ok _).1 (tidy_ok _).1 fun x => by
 unfold vertsK
 rw [(tidy_ok _).2, (tidy_ok _).2, h.mem_iff]
theorem third {l : List Lk} {u v : Int} (huv : u ≠ v) (hu : Vx l u) (hv : Vx l v) (h : (vertsK l).length ≠ 2) : ∃ w, Vx l w ∧ w ≠ u ∧ w ≠ v := by
 refine Classical.byContradiction fun q => h ?_
 have hn : (vertsK l).Nodup := (tidy_ok _).1.imp fun q => Int.ne_of_lt q
 have p : (vertsK l).Perm [u, v] := (List.perm_ext_iff_of_nodup hn (by simpa using huv)).2 fun w => by
  rw [vx_mem]
  simp only [List.mem_cons, List.not_mem_nil, or_false]
  refine ⟨fun hw => Classical.byContradiction fun r => q ⟨w, hw, fun e => r (Or.inl e), fun e => r (Or.inr e)⟩, fun hw => ?_⟩
  rcases hw with rfl | rfl <;> assumption
 exact p.length_eq
theorem Ren.first (h : Ren f l m) (hr : Rt l) (hnr : ringsK l = false) (h2 : (vertsK l).length ≠ 2) (hf : firstK l = none) : firstK m = none := by
 cases hm : firstK m with
 | none => rfl
 | some t =>
  obtain ⟨u, v, s⟩ := t
  obtain ⟨hrm, -, huv, hu, hv, hs, hw⟩ := firstK_is hm
  obtain ⟨q, hq⟩ := cls_row hs
  obtain ⟨e1, e2⟩ := offK_row hq
  have hp : (offK m s m.length ++ leftK m s m.length).Perm m := by rw [e1, e2]; exact cut_perm
  have hsep : ∀ w, Vx (offK m s m.length) w → Vx (leftK m s m.length) w → w = u ∨ w = v := by
   rintro w ⟨x, hx, hxw⟩ ⟨y, hy, hyw⟩
   unfold offK at hx
   unfold leftK at hy
   obtain ⟨i, hi, rfl⟩ := List.mem_map.1 hx
   obtain ⟨j, hj, rfl⟩ := List.mem_map.1 hy
   obtain ⟨i1, i2⟩ := List.mem_filter.1 hi
   obtain ⟨j1, j2⟩ := List.mem_filter.1 hj
   exact cls_sep hs (List.mem_range.1 i1) (List.mem_range.1 j1) (of_decide_eq_true i2) (by simpa using j2) hxw hyw
  have hsz : 2 ≤ (offK m s m.length).length ∧ 2 ≤ (leftK m s m.length).length := by
   have hl : s.length = (offK m s m.length).length := by rw [e1, List.length_map, hq, List.length_map]
   have := hp.length_eq
   rw [List.length_append] at this
   simp only [willK, Bool.and_eq_true, decide_eq_true_eq] at hw
   omega
  obtain ⟨A, hA⟩ : ∃ A, offK m s m.length = A := ⟨_, rfl⟩
  obtain ⟨B, hB⟩ : ∃ B, leftK m s m.length = B := ⟨_, rfl⟩
  rw [hA, hB] at hp hsep hsz
  have hnd := side_nodup hrm hp
  have hpf : (A ++ B).Perm (l.map f) := hp.trans h.perm
  have pre : ∀ C D : List Lk, (C ++ D).Perm (l.map f) → (C ++ D).Nodup → ((l.filter fun x => decide (f x ∈ C)).map f).Perm C := fun C D hCD hn => by
   have h1 : (l.map f).filter (fun y => decide (y ∈ C)) = (l.filter fun x => decide (f x ∈ C)).map f := by rw [List.filter_map]; rfl
   rw [← h1]
   refine (hCD.symm.filter _).trans ?_
   rw [List.filter_append, List.filter_eq_self.2 (fun x hx => decide_eq_true hx), List.filter_eq_nil_iff.2 (fun x hx q => (List.nodup_append.1 hn).2.2 x (of_decide_eq_true q) x hx rfl), List.append_nil]
  have pA := pre A B hpf hnd
  have hl2 : (l.filter fun x => !decide (f x ∈ A)) = l.filter fun x => decide (f x ∈ B) := List.filter_congr fun x hx => by
   have hm : f x ∈ A ++ B := hpf.mem_iff.2 (List.mem_map.2 ⟨x, hx, rfl⟩)
   by_cases hxa : f x ∈ A
   ·have : f x ∉ B := fun k => (List.nodup_append.1 hnd).2.2 _ hxa _ k rfl
    simp [hxa, this]
   have : f x ∈ B := (List.mem_append.1 hm).resolve_left hxa
   simp [hxa, this]
  have pB := pre B A (List.perm_append_comm.trans hpf) (List.perm_append_comm.nodup_iff.1 hnd)
  have back : ∀ C : List Lk, ∀ w, Vx (l.filter fun x => decide (f x ∈ C)) w → Vx C w := fun C w ⟨x, hx, hw⟩ => by
   obtain ⟨h1, h2⟩ := List.mem_filter.1 hx
   exact ⟨f x, of_decide_eq_true h2, (h.end_iff h1).2 hw⟩
  refine absurd hf (first_some (a0 := l.filter fun x => decide (f x ∈ A)) (b0 := l.filter fun x => decide (f x ∈ B)) (u := u) (v := v) hr hnr ?_ ?_ ?_ (fun w h1 h2 => hsep w (back A w h1) (back B w h2)) huv (h.vx.1 hu) (h.vx.1 hv) (third huv (h.vx.1 hu) (h.vx.1 hv) h2))
  ·rw [← hl2]; exact List.filter_append_perm _ _
  ·have := pA.length_eq
   rw [List.length_map] at this
   omega
  have := pB.length_eq
  rw [List.length_map] at this
  omega
theorem Ren.kind (h : Ren f l m) {k : Int} (hk : kindK l = (k, true)) (h4 : k ≠ 4) : kindK m = (k, true) := by
 unfold kindK at hk
 split at hk
 ·cases hk
 rename_i h1
 have hr : Rt l := right_iff.1 (by simpa using h1)
 have hrm := right_iff.2 (h.rt hr)
 unfold kindK
 rw [hrm, if_neg (by simp), h.len, rings_perm h.ends_perm, verts_perm h.ends_perm]
 split at hk
 ·rename_i q; rw [if_pos q]; exact hk
 rename_i q
 rw [if_neg q]
 split at hk
 ·rename_i q2; rw [if_pos q2]; exact hk
 rename_i q2
 rw [if_neg q2]
 split at hk
 ·rename_i q3; rw [if_pos q3]; exact hk
 rename_i q3
 rw [if_neg q3]
 split at hk
 ·rename_i q4
  simp only [Prod.mk.injEq, and_true] at hk
  exact absurd hk.symm h4
 rename_i q4
 rw [h.first hr (by simpa using q2) q3 (by simpa using q4)]
 exact hk
end
end Go.Proofs.YtpcgklagmcnhaaaGreat.Plain
