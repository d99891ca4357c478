/- Cutting, merging, sorting keep a tree. No program here. -/
import Derived.Test.YtpcgklagmcnhaaaGreatT7Num
namespace Go.Proofs.YtpcgklagmcnhaaaGreat.Plain
def idsL (l : List Lk) : List Int := l.map Lk.id
def idsN (ns : List Nd) : List (List Int) := ns.map fun n => idsL n.l
theorem at0_range (l : List Lk) : (List.range l.length).map (at0 l) = l := by
 refine List.ext_getElem (by simp) fun i h1 h2 => ?_
 simp [at0, List.getD, h2]
theorem cut_perm {l : List Lk} {q : Nat → Bool} : (((List.range l.length).filter q).map (at0 l) ++ ((List.range l.length).filter fun i => !q i).map (at0 l)).Perm l := by
 rw [← List.map_append]
 have h := (List.filter_append_perm q (List.range l.length)).map (at0 l)
 rw [at0_range] at h
 exact h
theorem cutK_perm {l a b : List Lk} {u v : Int} {s : List Int} {id : Int} (h : cutK l u v s id = some (a, b)) : ∃ a0 b0 : List Lk, a = a0 ++ [⟨u, v, id⟩] ∧ b = b0 ++ [⟨u, v, id⟩] ∧ (a0 ++ b0).Perm l ∧ 2 ≤ a0.length ∧ 2 ≤ b0.length := by
 obtain ⟨rfl, rfl, h1, h2, h3, h4, h5, -⟩ := cutK_some h
 obtain ⟨q, hq⟩ := cls_row h3
 obtain ⟨e1, e2⟩ := offK_row hq
 exact ⟨_, _, rfl, rfl, by rw [e1, e2]; exact cut_perm, h4, h5⟩
theorem Tr.cutF {E : List Int} : ∀ (f : Nat) (todo : List (List Lk)) (done : List Nd) (last : Int), cutM todo < f → last ≤ 0 → (∀ x ∈ todo.map idsL ++ idsN done, ∀ v ∈ x, last ≤ v) → Tr E (todo.map idsL ++ idsN done) →
  Tr E (idsN (Plain.cutF f todo done last).1) ∧ (∀ x ∈ idsN (Plain.cutF f todo done last).1, ∀ v ∈ x, (Plain.cutF f todo done last).2 ≤ v) ∧ (Plain.cutF f todo done last).2 ≤ 0
 | 0, todo, done, last, hf, _, _, _ => by omega
 | f + 1, [], done, last, _, h0, hl, ht => by
  rw [List.map_nil, List.nil_append] at ht hl
  exact ⟨ht, hl, h0⟩
 | f + 1, l :: todo, done, last, hf, h0, hl, ht => by
  cases hc : cutN l last with
  | none =>
   rw [cutF_done hc]
   have p : (todo.map idsL ++ idsN (done ++ [⟨(kindK l).1, l⟩])).Perm ((l :: todo).map idsL ++ idsN done) := by
    unfold idsN
    rw [List.map_append, List.map_cons, List.map_nil, List.map_cons, ← List.append_assoc]
    exact List.perm_append_singleton _ _
   refine Tr.cutF f todo _ last (by have := cutM_pos l todo; omega) h0 (fun x hx => hl x (p.mem_iff.1 hx)) (ht.perm p.symm)
  | some ab =>
   obtain ⟨a, b⟩ := ab
   rw [cutF_cut hc]
   obtain ⟨u, v, s, -, hk⟩ := cutN_some hc
   obtain ⟨hlt, -⟩ := cutM_cut (t := todo) hk
   obtain ⟨a0, b0, rfl, rfl, hp, la, lb⟩ := cutK_perm hk
   have e : (((a0 ++ [⟨u, v, last - 1⟩]) :: (b0 ++ [⟨u, v, last - 1⟩]) :: todo).map idsL ++ idsN done) = (idsL a0 ++ [last - 1]) :: (idsL b0 ++ [last - 1]) :: (todo.map idsL ++ idsN done) := by
    simp [idsL]
   have hpi : (idsL l).Perm (idsL a0 ++ idsL b0) := by
    have := hp.symm.map Lk.id
    rw [List.map_append] at this
    exact this
   refine Tr.cutF f _ done (last - 1) (by omega) (by omega) ?_ ?_
   ·rw [e]
    intro x hx w hw
    have hall : ∀ w ∈ idsL l, last ≤ w := fun w hw => hl (idsL l) (by simp) w hw
    rcases List.mem_cons.1 hx with rfl | hx
    ·rcases List.mem_append.1 hw with q | q
     ·have := hall w (hpi.mem_iff.2 (List.mem_append_left _ q)); omega
     rw [List.mem_singleton.1 q]; omega
    rcases List.mem_cons.1 hx with rfl | hx
    ·rcases List.mem_append.1 hw with q | q
     ·have := hall w (hpi.mem_iff.2 (List.mem_append_right _ q)); omega
     rw [List.mem_singleton.1 q]; omega
    have := hl x (by rw [List.map_cons, List.cons_append]; exact List.mem_cons_of_mem _ hx) w hw
    omega
   rw [e]
   rw [List.map_cons, List.cons_append] at ht hl
   refine ht.cut hpi (by simpa [idsL] using la) (by simpa [idsL] using lb) (by omega) fun x hx q => ?_
   have := hl x hx _ q
   omega
theorem perm_erase {α : Type} {l : List α} {i : Nat} (h : i < l.length) : (l[i] :: l.eraseIdx i).Perm l := by
 have e : l = l.take i ++ l[i] :: l.drop (i + 1) := by rw [← List.drop_eq_getElem_cons h, List.take_append_drop]
 rw [List.eraseIdx_eq_take_drop_succ]
 exact List.perm_middle.symm.trans (List.Perm.of_eq e.symm)
theorem two_of {α : Type} [Inhabited α] (ns : List α) (m : α) {i j : Nat} (hij : i < j) (hj : j < ns.length) : ∃ R, ns.Perm (ns.getD i default :: ns.getD j default :: R) ∧ ((ns.set i m).eraseIdx j).Perm (m :: R) := by
 refine ⟨(ns.eraseIdx j).eraseIdx i, ?_, ?_⟩
 ·have h1 := (perm_erase hj).symm
  have hi2 : i < (ns.eraseIdx j).length := by rw [List.length_eraseIdx_of_lt hj]; omega
  have h2 := (perm_erase hi2).symm
  have e : (ns.eraseIdx j)[i] = ns[i] := List.getElem_eraseIdx_of_lt _ hij
  rw [e] at h2
  have e1 : ns.getD i default = ns[i] := by simp [List.getD, show i < ns.length by omega]
  have e2 : ns.getD j default = ns[j] := by simp [List.getD, hj]
  rw [e1, e2]
  exact (h1.trans (h2.cons _)).trans (List.Perm.swap _ _ _)
 have hs : j < (ns.set i m).length := by rw [List.length_set]; exact hj
 have hi2 : i < ((ns.set i m).eraseIdx j).length := by rw [List.length_eraseIdx_of_lt hs, List.length_set]; omega
 have h2 := (perm_erase hi2).symm
 have e : ((ns.set i m).eraseIdx j)[i] = m := by rw [List.getElem_eraseIdx_of_lt _ hij]; simp
 rw [e] at h2
 refine h2.trans (List.Perm.cons _ ?_)
 have : ((ns.set i m).eraseIdx j).eraseIdx i = (ns.eraseIdx j).eraseIdx i := by
  refine List.ext_getElem? fun k => ?_
  simp only [List.getElem?_eraseIdx, List.getElem?_set]
  grind
 rw [this]
theorem hasK_iff {n : Nd} {id : Int} : hasK n id = true ↔ id ∈ idsL n.l := by
 unfold hasK idsL
 rw [List.any_eq_true, List.mem_map]
 simp
theorem mergeS_cases (ns : List Nd) (id : Int) : mergeS ns id = ns ∨ ∃ a b : Nd, ∃ R : List Nd, ns.Perm (a :: b :: R) ∧ (mergeS ns id).Perm (⟨a.kind, (a.l ++ b.l).filter fun x => x.id ≠ id⟩ :: R) ∧ id ∈ idsL a.l ∧ id ∈ idsL b.l ∧ a.kind = b.kind ∧ (a.kind = 1 ∨ a.kind = 2) := by
 unfold mergeS
 split
 ·rename_i i j h
  split
  ·exact Or.inl rfl
  rename_i hk
  have hk1 : (nd0 ns i).kind = (nd0 ns j).kind := Classical.byContradiction fun q => hk (Or.inl q)
  have hk2 : (nd0 ns i).kind = 1 ∨ (nd0 ns i).kind = 2 := by
   rcases Classical.em ((nd0 ns i).kind = 1) with q | q
   ·exact Or.inl q
   exact Or.inr (Classical.byContradiction fun q2 => hk (Or.inr ⟨q, q2⟩))
  obtain ⟨hij, hj⟩ := atK_lt h
  obtain ⟨R, p1, p2⟩ := two_of ns (⟨(nd0 ns i).kind, ((nd0 ns i).l ++ (nd0 ns j).l).filter fun x => x.id ≠ id⟩ : Nd) hij hj
  have hm : ∀ k ∈ atK ns id, id ∈ idsL (nd0 ns k).l := fun k hk => hasK_iff.1 (List.mem_filter.1 hk).2
  exact Or.inr ⟨_, _, R, p1, p2, hm i (by rw [h]; simp), hm j (by rw [h]; simp), hk1, hk2⟩
 exact Or.inl rfl
theorem Tr.mergeS {E : List Int} {ns : List Nd} (h : Tr E (idsN ns)) {id : Int} (hid : id < 0) : Tr E (idsN (Plain.mergeS ns id)) := by
 rcases mergeS_cases ns id with e | ⟨a, b, R, p1, p2, ha, hb, -, -⟩
 ·rw [e]; exact h
 have h1 : Tr E (idsL a.l :: idsL b.l :: idsN R) := h.perm (p1.map fun n : Nd => idsL n.l)
 have h2 := h1.merge hid ha hb
 refine h2.perm ?_
 have p3 := p2.symm.map fun n : Nd => idsL n.l
 have e : (idsL a.l ++ idsL b.l).filter (fun u => decide (u ≠ id)) = idsL ((a.l ++ b.l).filter fun x => x.id ≠ id) := by
  unfold idsL
  rw [← List.map_append, List.filter_map]
  rfl
 rw [e]
 exact p3
theorem Tr.mergeK {E : List Int} {ns : List Nd} (h : Tr E (idsN ns)) : ∀ k, Tr E (idsN (Plain.mergeK ns k))
 | 0 => h
 | k + 1 => (Tr.mergeK h k).mergeS (by omega)
theorem occ_eq {l : List Lk} (hn : (idsL l).Nodup) (i : Nat) {v : Int} (hv : v < 0) : occ l i v = if v ∈ idsL l then [(i : Int)] else [] := by
 unfold occ
 have e : (l.filter fun x => decide (x.id < 0 ∧ x.id = v)) = l.filter fun x => decide (x.id = v) := List.filter_congr fun x _ => by
  rw [decide_eq_decide]
  exact ⟨fun q => q.2, fun q => ⟨by omega, q⟩⟩
 rw [e]
 clear e
 induction l with
 | nil => simp [idsL]
 | cons x l ih =>
  rw [show idsL (x :: l) = x.id :: idsL l from rfl, List.nodup_cons] at hn
  have ih := ih hn.2
  rw [show idsL (x :: l) = x.id :: idsL l from rfl, List.filter_cons]
  by_cases e : x.id = v
  ·rw [if_pos (decide_eq_true e), if_pos (by simp [e]), List.map_cons, ih, if_neg (by rw [← e]; exact hn.1)]
  rw [if_neg (by simpa using e), ih]
  by_cases q : v ∈ idsL l
  ·rw [if_pos q, if_pos (by simp [q])]
  rw [if_neg q, if_neg (by simp [q, Ne.symm e])]
theorem atF_eq {ns : List Nd} (hn : ∀ i, i < ns.length → (idsL (nd0 ns i).l).Nodup) {v : Int} (hv : v < 0) : atF ns ns.length 0 v = ((List.range ns.length).filter fun i => decide (v ∈ idsL (nd0 ns i).l)).map fun i : Nat => (i : Int) := by
 unfold atF
 rw [List.take_zero]
 simp only [occ, List.filter_nil, List.map_nil, List.append_nil]
 have : ∀ k, k ≤ ns.length → ((List.range k).flatMap fun i => occ (nd0 ns i).l i v) = ((List.range k).filter fun i => decide (v ∈ idsL (nd0 ns i).l)).map fun i : Nat => (i : Int) := by
  intro k hk
  induction k with
  | zero => rfl
  | succ k ih =>
   rw [List.range_succ, List.flatMap_append, List.filter_append, List.map_append, ih (by omega), List.flatMap_cons, List.flatMap_nil, List.append_nil, occ_eq (hn k (by omega)) k hv, List.filter_cons, List.filter_nil]
   by_cases q : v ∈ idsL (nd0 ns k).l
   ·rw [if_pos q, if_pos (decide_eq_true q)]; rfl
   rw [if_neg q, if_neg (by simpa using q)]; rfl
 exact this _ (Nat.le_refl _)
theorem numF_at {rs : List T3} (hn : (rs.map T3.c).Nodup) : ∀ (k : Nat), k ≤ rs.length → ∀ j, j < k → numF rs k (t30 rs j).c = some (-1 - (j : Int))
 | 0, _, j, hj => by omega
 | k + 1, hk, j, hj => by
  unfold numF
  by_cases e : j = k
  ·rw [e, if_pos rfl]
  have ne : (t30 rs j).c ≠ (t30 rs k).c := fun q => e (by
   have g : ∀ i, i < rs.length → (rs.map T3.c).idxOf (t30 rs i).c = i := fun i hi => by
    have h2 : i < (rs.map T3.c).length := by rw [List.length_map]; exact hi
    have : (t30 rs i).c = (rs.map T3.c)[i] := by simp [t30, List.getD, hi]
    rw [this]
    exact hn.idxOf_getElem _ h2
   rw [← g j (by omega), q, g k (by omega)])
  rw [if_neg ne]
  exact numF_at hn k (by omega) j (by omega)
structure TreeP (E : List Int) (ms : List Nd) (rs : List T3) : Prop where
 tri : TrI ms.length fun i v => v ∈ idsL (nd0 ms i).l
 big : ms.length = 1 ∨ ∀ i, i < ms.length → 3 ≤ (nd0 ms i).l.length
 pos : 0 < ms.length
 edg : (((List.range ms.length).flatMap fun i => idsL (nd0 ms i).l).filter fun v => decide (0 ≤ v)).Perm E
 cnt : (((List.range ms.length).flatMap fun i => idsL (nd0 ms i).l).filter fun v => decide (v < 0)).length + 2 = 2 * ms.length
 nod : ∀ i, i < ms.length → (idsL (nd0 ms i).l).Nodup
 mat : ∀ i v, i < ms.length → v < 0 → v ∈ idsL (nd0 ms i).l → ∃ k : Nat, v = -1 - (k : Int) ∧ k < rs.length ∧ ∃ j, j < ms.length ∧ j ≠ i ∧ v ∈ idsL (nd0 ms j).l ∧ ((t30 rs k).a = i ∧ (t30 rs k).b = j ∨ (t30 rs k).a = j ∧ (t30 rs k).b = i)
 row : ∀ k : Nat, k < rs.length → ∃ i j : Nat, (t30 rs k).a = i ∧ (t30 rs k).b = j ∧ i < j ∧ j < ms.length ∧ -1 - (k : Int) ∈ idsL (nd0 ms i).l ∧ -1 - (k : Int) ∈ idsL (nd0 ms j).l
theorem range_getD {α β : Type} [Inhabited α] (f : α → β) (l : List α) : (List.range l.length).map (fun i => f (l.getD i default)) = l.map f := by
 refine List.ext_getElem (by simp) fun i h1 h2 => ?_
 have : i < l.length := by simpa using h2
 simp [List.getD, this]
theorem idsN_range (ns : List Nd) : (idsN ns).flatten = (List.range ns.length).flatMap fun i => idsL (nd0 ns i).l := by
 unfold idsN nd0
 rw [List.flatMap_def, range_getD (fun n : Nd => idsL n.l)]
theorem idsN_at {ns : List Nd} {i : Nat} (h : i < ns.length) : (idsN ns).getD i [] = idsL (nd0 ns i).l := by
 unfold idsN nd0
 simp [List.getD, h]
theorem flatMap_perm {α β : Type} {l : List α} {f g : α → List β} (h : ∀ x ∈ l, (f x).Perm (g x)) : (l.flatMap f).Perm (l.flatMap g) := by
 induction l with
 | nil => exact List.Perm.refl _
 | cons x l ih =>
  rw [List.flatMap_cons, List.flatMap_cons]
  exact (h x (by simp)).append (ih fun y hy => h y (by simp [hy]))
theorem tree_of {E : List Int} {ns ms : List Nd} {rs : List T3} (h : Tr E (idsN ns)) (h64 : ∀ i, i < ns.length → ∀ v ∈ idsL (nd0 ns i).l, I64 v) (hrs : ∀ t, t ∈ rs ↔ I64 t.c ∧ atF ns ns.length 0 t.c = [t.a, t.b]) (hn : (rs.map T3.c).Nodup) (hd : NumDone (numF rs rs.length) ns ns.length ms) : TreeP E ms rs := by
 have hnl : (idsN ns).length = ns.length := by simp [idsN]
 have hml : ms.length = ns.length := hd.len
 have hnod : ∀ i, i < ns.length → (idsL (nd0 ns i).l).Nodup := fun i hi => h.nod _ (by
  rw [← idsN_at hi, show (idsN ns).getD i [] = (idsN ns)[i]'(by rw [hnl]; exact hi) by simp [List.getD, hnl, hi]]
  exact List.getElem_mem _)
 have ti := h.ix
 rw [hnl] at ti
 have hpos : 0 < ns.length := by
  have := h.cnt
  rw [hnl] at this
  omega
 -- the pairs
 have hrow : ∀ k, k < rs.length → (t30 rs k).c < 0 ∧ ∃ i j : Nat, (t30 rs k).a = i ∧ (t30 rs k).b = j ∧ i < j ∧ j < ns.length ∧ (t30 rs k).c ∈ idsL (nd0 ns i).l ∧ (t30 rs k).c ∈ idsL (nd0 ns j).l := fun k hk => by
  have hm : t30 rs k ∈ rs := by
   have : t30 rs k = rs[k] := by simp [t30, List.getD, hk]
   rw [this]; exact List.getElem_mem hk
  have q := ((hrs _).1 hm).2
  have hc : (t30 rs k).c < 0 := (atF_ne (by rw [q]; simp)).1
  refine ⟨hc, ?_⟩
  rw [atF_eq hnod hc] at q
  obtain ⟨L, hL⟩ : ∃ L, ((List.range ns.length).filter fun i => decide ((t30 rs k).c ∈ idsL (nd0 ns i).l)) = L := ⟨_, rfl⟩
  have hp : L.Pairwise (· < ·) := by rw [← hL]; exact List.Pairwise.filter _ List.pairwise_lt_range
  rw [hL] at q
  have hlen : L.length = 2 := by simpa using congrArg List.length q
  match L, hlen, q with
  | [i, j], _, q =>
   simp only [List.map_cons, List.map_nil, List.cons.injEq, and_true] at q
   have hi : i ∈ ((List.range ns.length).filter fun i => decide ((t30 rs k).c ∈ idsL (nd0 ns i).l)) := by rw [hL]; simp
   have hj : j ∈ ((List.range ns.length).filter fun i => decide ((t30 rs k).c ∈ idsL (nd0 ns i).l)) := by rw [hL]; simp
   obtain ⟨i1, i2⟩ := List.mem_filter.1 hi
   obtain ⟨j1, j2⟩ := List.mem_filter.1 hj
   exact ⟨i, j, q.1.symm, q.2.symm, by simpa using hp, List.mem_range.1 j1, of_decide_eq_true i2, of_decide_eq_true j2⟩
 have hget : ∀ i v, i < ns.length → v < 0 → v ∈ idsL (nd0 ns i).l → ∃ k, k < rs.length ∧ (t30 rs k).c = v := fun i v hi hv hiv => by
  obtain ⟨j, hj, hji, hjv, hall⟩ := ti.two v hv i hi (by rw [idsN_at hi]; exact hiv)
  rw [idsN_at hj] at hjv
  have go : ∀ a b, a < b → b < ns.length → v ∈ idsL (nd0 ns a).l → v ∈ idsL (nd0 ns b).l → (∀ k, k < ns.length → v ∈ idsL (nd0 ns k).l → k = a ∨ k = b) → ∃ k, k < rs.length ∧ (t30 rs k).c = v := fun a b hab hb ha2 hb2 hall2 => by
   have e : atF ns ns.length 0 v = [(a : Int), (b : Int)] := by
    rw [atF_eq hnod hv]
    have e2 : ((List.range ns.length).filter fun i => decide (v ∈ idsL (nd0 ns i).l)) = [a, b] := by
     have p : ((List.range ns.length).filter fun i => decide (v ∈ idsL (nd0 ns i).l)).Perm [a, b] := by
      refine (List.perm_ext_iff_of_nodup (List.nodup_range.filter _) (by simp; omega)).2 fun x => ?_
      rw [List.mem_filter, List.mem_range, decide_eq_true_iff]
      simp only [List.mem_cons, List.not_mem_nil, or_false]
      exact ⟨fun q => hall2 x q.1 q.2, fun q => q.elim (fun q => by rw [q]; exact ⟨by omega, ha2⟩) fun q => by rw [q]; exact ⟨hb, hb2⟩⟩
     refine p.eq_of_pairwise (le := (· ≤ ·)) (fun x y _ _ h1 h2 => Nat.le_antisymm h1 h2) ((List.Pairwise.filter _ List.pairwise_lt_range).imp fun q => Nat.le_of_lt q) (by simp; omega)
    rw [e2]; rfl
   have hm := (hrs ⟨a, b, v⟩).2 ⟨h64 i hi v hiv, e⟩
   obtain ⟨k, hk, e3⟩ := List.getElem_of_mem hm
   exact ⟨k, hk, by simp [t30, List.getD, hk, e3]⟩
  have hall' : ∀ k, k < ns.length → v ∈ idsL (nd0 ns k).l → k = i ∨ k = j := fun k hk hkv => hall k hk (by rw [idsN_at hk]; exact hkv)
  rcases Nat.lt_or_gt_of_ne hji with q | q
  ·exact go j i q hi hjv hiv fun k hk hkv => (hall' k hk hkv).symm
  exact go i j q hj hiv hjv hall'
 -- the new numbers
 have hp : ∀ i, i < ns.length → (idsL (nd0 ms i).l).Perm ((idsL (nd0 ns i).l).map fun v => if v < 0 then (numF rs rs.length v).getD 0 else v) := fun i hi => by
  have := ((hd.done i hi).2.1).map Lk.id
  rw [List.map_map] at this
  refine this.trans (List.Perm.of_eq ?_)
  unfold idsL
  rw [List.map_map]
  refine List.map_congr_left fun x _ => ?_
  show (renK _ x).id = if x.id < 0 then _ else x.id
  unfold renK
  split <;> rfl
 have hnum : ∀ k, k < rs.length → (numF rs rs.length (t30 rs k).c).getD 0 = -1 - (k : Int) := fun k hk => by rw [numF_at hn _ (Nat.le_refl _) k hk]; rfl
 have hnew : ∀ i, i < ns.length → ∀ v, v < 0 → (v ∈ idsL (nd0 ms i).l ↔ ∃ k, k < rs.length ∧ v = -1 - (k : Int) ∧ (t30 rs k).c ∈ idsL (nd0 ns i).l) := fun i hi v hv => by
  rw [(hp i hi).mem_iff, List.mem_map]
  constructor
  ·rintro ⟨u, hu, e⟩
   split at e
   ·rename_i hu0
    obtain ⟨k, hk, rfl⟩ := hget i u hi hu0 hu
    rw [hnum k hk] at e
    exact ⟨k, hk, e.symm, hu⟩
   omega
  rintro ⟨k, hk, rfl, hm⟩
  exact ⟨_, hm, by rw [if_pos (hrow k hk).1, hnum k hk]⟩
 have hold : ∀ i, i < ns.length → ((idsL (nd0 ms i).l).filter fun v => decide (0 ≤ v)).Perm ((idsL (nd0 ns i).l).filter fun v => decide (0 ≤ v)) ∧ ((idsL (nd0 ms i).l).filter fun v => decide (v < 0)).length = ((idsL (nd0 ns i).l).filter fun v => decide (v < 0)).length := fun i hi => by
  have q := hp i hi
  have hlt : ∀ u ∈ idsL (nd0 ns i).l, u < 0 → (numF rs rs.length u).getD 0 < 0 := fun u hu hu0 => by
   obtain ⟨k, hk, rfl⟩ := hget i u hi hu0 hu
   rw [hnum k hk]; omega
  refine ⟨(q.filter _).trans (List.Perm.of_eq ?_), (q.filter _).length_eq.trans ?_⟩
  ·rw [List.filter_map]
   have e1 : ((idsL (nd0 ns i).l).filter ((fun v => decide (0 ≤ v)) ∘ fun v => if v < 0 then (numF rs rs.length v).getD 0 else v)) = (idsL (nd0 ns i).l).filter fun v => decide (0 ≤ v) := List.filter_congr fun u hu => by
    dsimp only [Function.comp]
    rw [decide_eq_decide]
    split
    ·have := hlt u hu (by assumption); omega
    exact Iff.rfl
   rw [e1]
   refine (List.map_congr_left (g := id) fun u hu => ?_).trans (List.map_id _)
   have := of_decide_eq_true (List.mem_filter.1 hu).2
   rw [if_neg (by omega)]; rfl
  rw [List.filter_map, List.length_map]
  congr 1
  refine List.filter_congr fun u hu => ?_
  dsimp only [Function.comp]
  rw [decide_eq_decide]
  split
  ·have := hlt u hu (by assumption); omega
  exact Iff.rfl
 have hinj : ∀ k j, k < rs.length → j < rs.length → (t30 rs k).c = (t30 rs j).c → k = j := fun k j hk hj e => by
  have a := hnum k hk
  rw [e, hnum j hj] at a
  omega
 refine ⟨?_, ?_, by omega, ?_, ?_, fun i hi => ?_, fun i v hi hv hiv => ?_, fun k hk => ?_⟩
 ·rw [hml]
  refine ti.ren (fun v => (numF rs rs.length v).getD 0) (fun v => (t30 rs (-1 - v).toNat).c) (fun i v hi hv hiv => ?_) (fun i v hi hv hiv => ?_)
  ·rw [idsN_at hi] at hiv
   obtain ⟨k, hk, rfl⟩ := hget i v hi hv hiv
   rw [hnum k hk]
   refine ⟨by omega, (hnew i hi _ (by omega)).2 ⟨k, hk, rfl, hiv⟩, ?_⟩
   rw [show (-1 - (-1 - (k : Int))).toNat = k by omega]
  obtain ⟨k, hk, rfl, hm⟩ := (hnew i hi v hv).1 hiv
  rw [show (-1 - (-1 - (k : Int))).toNat = k by omega]
  exact ⟨(hrow k hk).1, by rw [idsN_at hi]; exact hm, hnum k hk⟩
 ·refine h.big.imp (fun q => by rw [hml, ← hnl]; exact q) fun q i hi => ?_
  have hi' : i < ns.length := by omega
  have := q _ (show (idsN ns).getD i [] ∈ idsN ns by
   rw [show (idsN ns).getD i [] = (idsN ns)[i]'(by rw [hnl]; exact hi') by simp [List.getD, hnl, hi']]
   exact List.getElem_mem _)
  rw [idsN_at hi', idsL, List.length_map] at this
  rw [hd.lens]
  exact this
 ·refine List.Perm.trans ?_ h.edg
  rw [idsN_range, hml, List.filter_flatMap, List.filter_flatMap]
  exact flatMap_perm fun i hi => (hold i (List.mem_range.1 hi)).1
 ·have c := h.cnt
  rw [idsN_range, hnl, List.filter_flatMap] at c
  rw [hml, List.filter_flatMap]
  rw [List.length_flatMap] at c ⊢
  rw [← c]
  congr 2
  exact List.map_congr_left fun i hi => (hold i (List.mem_range.1 hi)).2
 ·have hi' : i < ns.length := by omega
  refine (hp i hi').nodup_iff.2 ?_
  unfold List.Nodup
  rw [List.pairwise_map]
  refine (hnod i hi').imp_of_mem fun {x y} hx hy hxy e => hxy ?_
  split at e <;> split at e
  ·obtain ⟨k, hk, rfl⟩ := hget i x hi' (by assumption) hx
   obtain ⟨j, hj, rfl⟩ := hget i y hi' (by assumption) hy
   rw [hnum k hk, hnum j hj] at e
   rw [show k = j by omega]
  ·obtain ⟨k, hk, rfl⟩ := hget i x hi' (by assumption) hx
   rw [hnum k hk] at e
   omega
  ·obtain ⟨k, hk, rfl⟩ := hget i y hi' (by assumption) hy
   rw [hnum k hk] at e
   omega
  exact e
 ·have hi' : i < ns.length := by omega
  obtain ⟨k, hk, rfl, hm⟩ := (hnew i hi' v hv).1 hiv
  obtain ⟨hc, a, b, ea, eb, hab, hb, ma, mb⟩ := hrow k hk
  obtain ⟨j0, hj0, hji, hjv, hall⟩ := ti.two _ hc i hi' (by rw [idsN_at hi']; exact hm)
  have h1 := hall a (by omega) (by rw [idsN_at (by omega)]; exact ma)
  have h2 := hall b hb (by rw [idsN_at hb]; exact mb)
  have fin : ∀ j, j < ns.length → (t30 rs k).c ∈ idsL (nd0 ns j).l → -1 - (k : Int) ∈ idsL (nd0 ms j).l := fun j hj q => (hnew j hj _ (by omega)).2 ⟨k, hk, rfl, q⟩
  by_cases e : a = i
  ·exact ⟨k, rfl, hk, b, by omega, by omega, fin b hb mb, Or.inl ⟨by rw [ea, e], eb⟩⟩
  have e2 : b = i := by omega
  exact ⟨k, rfl, hk, a, by omega, e, fin a (by omega) ma, Or.inr ⟨ea, by rw [eb, e2]⟩⟩
 obtain ⟨hc, a, b, ea, eb, hab, hb, ma, mb⟩ := hrow k hk
 exact ⟨a, b, ea, eb, hab, by omega, (hnew a (by omega) _ (by omega)).2 ⟨k, hk, rfl, ma⟩, (hnew b hb _ (by omega)).2 ⟨k, hk, rfl, mb⟩⟩
def vlM (ms : List Nd) (i : Nat) : List Int := (idsL (nd0 ms i).l).filter fun v => decide (v < 0)
def edM (ms : List Nd) (i : Nat) : List Int := (idsL (nd0 ms i).l).filter fun v => decide (0 ≤ v)
def mtM (rs : List T3) (i : Nat) (v : Int) : Nat := if (t30 rs (-1 - v).toNat).a = i then (t30 rs (-1 - v).toNat).b.toNat else (t30 rs (-1 - v).toNat).a.toNat
theorem Bl_len (s : Int → Nat → Bool) (n m : Nat) (u : Int) : (Bl s n m u).length ≤ n := by
 have := List.length_filter_le (fun j => s u j == s u m) (List.range n)
 rw [List.length_range] at this
 exact this
section
variable {E : List Int} {ms : List Nd} {rs : List T3} (h : TreeP E ms rs)
include h
theorem TreeP.mt {i : Nat} {v : Int} (hi : i < ms.length) (hv : v < 0) (hiv : v ∈ idsL (nd0 ms i).l) : mtM rs i v < ms.length ∧ mtM rs i v ≠ i ∧ v ∈ idsL (nd0 ms (mtM rs i v)).l ∧ (-1 - v).toNat < rs.length ∧ ((t30 rs (-1 - v).toNat).a = i ∧ (t30 rs (-1 - v).toNat).b = mtM rs i v ∨ (t30 rs (-1 - v).toNat).a = mtM rs i v ∧ (t30 rs (-1 - v).toNat).b = i) := by
 obtain ⟨k, rfl, hk, j, hj, hji, hjv, hab⟩ := h.mat i v hi hv hiv
 unfold mtM
 rw [show (-1 - (-1 - (k : Int))).toNat = k by omega]
 rcases hab with ⟨e1, e2⟩ | ⟨e1, e2⟩
 ·rw [if_pos e1, e2, show ((j : Int)).toNat = j by omega]
  exact ⟨hj, hji, hjv, hk, Or.inl ⟨e1, rfl⟩⟩
 rw [if_neg (by rw [e1]; omega), e1, show ((j : Int)).toNat = j by omega]
 exact ⟨hj, hji, hjv, hk, Or.inr ⟨rfl, e2⟩⟩
theorem TreeP.mm {i : Nat} {v : Int} (hi : i < ms.length) (hv : v < 0) (hiv : v ∈ idsL (nd0 ms i).l) : mtM rs (mtM rs i v) v = i := by
 obtain ⟨h1, h2, h3, h4, h5⟩ := h.mt hi hv hiv
 have q : ∀ j, mtM rs j v = if (t30 rs (-1 - v).toNat).a = j then (t30 rs (-1 - v).toNat).b.toNat else (t30 rs (-1 - v).toNat).a.toNat := fun j => rfl
 rw [q (mtM rs i v)]
 rcases h5 with ⟨e1, e2⟩ | ⟨e1, e2⟩
 ·rw [if_neg (by rw [e1]; omega), e1]; omega
 rw [if_pos e1, e2]; omega
theorem TreeP.bey : ∃ s : Int → Nat → Bool, (∀ v, v < 0 → ∀ i j, i < ms.length → j < ms.length → ∀ u, u < 0 → u ∈ idsL (nd0 ms i).l → u ∈ idsL (nd0 ms j).l → (u ≠ v → s v i = s v j) ∧ (u = v → i ≠ j → s v i ≠ s v j)) ∧
  (∀ m u, m < ms.length → u < 0 → u ∈ idsL (nd0 ms m).l → (Bl s ms.length m u).Perm (m :: (((vlM ms m).filter fun w => decide (w ≠ u)).flatMap fun w => Bl s ms.length (mtM rs m w) w))) ∧
  ∀ f todo es, (∀ p ∈ todo, p.1 < ms.length ∧ p.2 < 0 ∧ p.2 ∈ idsL (nd0 ms p.1).l) → (todo.map fun p => (Bl s ms.length p.1 p.2).length).sum ≤ f → (beyF (edM ms) (vlM ms) (mtM rs) f todo es).Perm (es ++ (todo.flatMap fun p => Bl s ms.length p.1 p.2).flatMap (edM ms)) := by
 obtain ⟨s, hs⟩ := h.tri.sides
 have h1 : ∀ i v, i < ms.length → v < 0 → v ∈ idsL (nd0 ms i).l → mtM rs i v < ms.length ∧ mtM rs i v ≠ i ∧ v ∈ idsL (nd0 ms (mtM rs i v)).l := fun i v hi hv hiv => by
  obtain ⟨a, b, c, -⟩ := h.mt hi hv hiv
  exact ⟨a, b, c⟩
 have h2 : ∀ i v, i < ms.length → (v ∈ vlM ms i ↔ v < 0 ∧ v ∈ idsL (nd0 ms i).l) := fun i v _ => by
  unfold vlM
  rw [List.mem_filter, decide_eq_true_iff]
  exact And.comm
 have h3 : ∀ i, i < ms.length → (vlM ms i).Nodup := fun i hi => (h.nod i hi).filter _
 exact ⟨s, hs, fun m u hm hu hmu => h.tri.unfold hs h1 h2 h3 hm hu hmu, fun f todo es hv hf => h.tri.run (ed := edM ms) hs h1 h2 h3 f todo es hv hf⟩
def beyM (ms : List Nd) (rs : List T3) (i : Nat) (v : Int) : List Int := beyF (edM ms) (vlM ms) (mtM rs) ms.length [(mtM rs i v, v)] []
theorem TreeP.beyM_perm {s : Int → Nat → Bool} (hr : ∀ f todo es, (∀ p ∈ todo, p.1 < ms.length ∧ p.2 < 0 ∧ p.2 ∈ idsL (nd0 ms p.1).l) → (todo.map fun p => (Bl s ms.length p.1 p.2).length).sum ≤ f → (beyF (edM ms) (vlM ms) (mtM rs) f todo es).Perm (es ++ (todo.flatMap fun p => Bl s ms.length p.1 p.2).flatMap (edM ms))) {i : Nat} {v : Int} (hi : i < ms.length) (hv : v < 0) (hiv : v ∈ idsL (nd0 ms i).l) :
  (beyM ms rs i v).Perm ((Bl s ms.length (mtM rs i v) v).flatMap (edM ms)) := by
 obtain ⟨a, b, c, -⟩ := h.mt hi hv hiv
 have := hr ms.length [(mtM rs i v, v)] [] (fun p hp => by rw [List.mem_singleton.1 hp]; exact ⟨a, hv, c⟩) (by have := Bl_len s ms.length (mtM rs i v) v; simpa using this)
 unfold beyM
 simpa using this
theorem TreeP.sides {i : Nat} {v : Int} (hi : i < ms.length) (hv : v < 0) (hiv : v ∈ idsL (nd0 ms i).l) : (beyM ms rs i v ++ beyM ms rs (mtM rs i v) v).Perm E := by
 obtain ⟨s, hs, -, hr⟩ := h.bey
 obtain ⟨a, b, c, -⟩ := h.mt hi hv hiv
 refine ((h.beyM_perm hr hi hv hiv).append (h.beyM_perm hr a hv c)).trans ?_
 rw [h.mm hi hv hiv, ← List.flatMap_append]
 refine ((TrI.both (s := s) (h := fun i v => v ∈ idsL (nd0 ms i).l) hs a hi b hv c hiv).flatMap_right _).trans (List.Perm.trans (List.Perm.of_eq ?_) h.edg)
 rw [List.filter_flatMap]
 rfl
theorem TreeP.nodes {s : Int → Nat → Bool} (hs : ∀ v, v < 0 → ∀ i j, i < ms.length → j < ms.length → ∀ u, u < 0 → u ∈ idsL (nd0 ms i).l → u ∈ idsL (nd0 ms j).l → (u ≠ v → s v i = s v j) ∧ (u = v → i ≠ j → s v i ≠ s v j))
  (hu : ∀ m u, m < ms.length → u < 0 → u ∈ idsL (nd0 ms m).l → (Bl s ms.length m u).Perm (m :: (((vlM ms m).filter fun w => decide (w ≠ u)).flatMap fun w => Bl s ms.length (mtM rs m w) w))) {m : Nat} (hm : m < ms.length) : (m :: (vlM ms m).flatMap fun w => Bl s ms.length (mtM rs m w) w).Perm (List.range ms.length) := by
 cases hv : vlM ms m with
 | nil =>
  rw [List.flatMap_nil]
  refine (List.perm_ext_iff_of_nodup (by simp) List.nodup_range).2 fun j => ?_
  rw [List.mem_singleton, List.mem_range]
  refine ⟨fun q => by omega, fun q => Classical.byContradiction fun hne => ?_⟩
  obtain ⟨w, h1, h2, -⟩ := h.tri.beyond_one hs hm q hne
  have : w ∈ vlM ms m := List.mem_filter.2 ⟨h2, decide_eq_true h1⟩
  rw [hv] at this
  cases this
 | cons u L =>
  have hum : u ∈ vlM ms m := by rw [hv]; simp
  obtain ⟨h1, h2⟩ := List.mem_filter.1 hum
  have h2 := of_decide_eq_true h2
  obtain ⟨a, b, c, -⟩ := h.mt hm h2 h1
  have hn : (vlM ms m).Nodup := (h.nod m hm).filter _
  have e : ((vlM ms m).filter fun w => decide (w ≠ u)) = L := by
   rw [hv] at hn ⊢
   rw [List.nodup_cons] at hn
   rw [List.filter_cons, if_neg (by simp), List.filter_eq_self.2]
   intro w hw
   exact decide_eq_true fun q => hn.1 (q ▸ hw)
  have p1 := hu m u hm h2 h1
  rw [e] at p1
  refine List.Perm.trans ?_ (TrI.both (s := s) (h := fun i v => v ∈ idsL (nd0 ms i).l) hs a hm b h2 c h1)
  rw [List.flatMap_cons]
  refine List.Perm.trans ?_ (List.Perm.append_left _ p1.symm)
  exact List.perm_middle.symm
theorem TreeP.all {i : Nat} (hi : i < ms.length) : ((idsL (nd0 ms i).l).map fun v => if v < 0 then (beyM ms rs i v).length else 1).sum = E.length := by
 obtain ⟨s, hs, hu, hr⟩ := h.bey
 have e1 := ((h.nodes hs hu hi).flatMap_right (edM ms)).length_eq
 have e2 := h.edg.length_eq
 rw [List.filter_flatMap] at e2
 have e3 : ((List.range ms.length).flatMap fun a => (idsL (nd0 ms a).l).filter fun v => decide (0 ≤ v)) = (List.range ms.length).flatMap (edM ms) := rfl
 rw [e3, ← e1, List.flatMap_cons, List.length_append, List.flatMap_assoc, List.length_flatMap] at e2
 rw [← e2]
 have e4 : ((vlM ms i).map fun a => ((Bl s ms.length (mtM rs i a) a).flatMap (edM ms)).length) = (vlM ms i).map fun a => (beyM ms rs i a).length := List.map_congr_left fun w hw => by
  obtain ⟨q1, q2⟩ := List.mem_filter.1 hw
  exact (h.beyM_perm hr hi (of_decide_eq_true q2) q1).length_eq.symm
 rw [e4]
 unfold edM vlM
 generalize idsL (nd0 ms i).l = L
 induction L with
 | nil => rfl
 | cons v L ih =>
  rw [List.map_cons, List.sum_cons, ih, List.filter_cons, List.filter_cons]
  by_cases q : v < 0
  ·rw [if_pos q, if_neg (by simpa using q), if_pos (decide_eq_true q), List.map_cons, List.sum_cons]
   omega
  rw [if_neg q, if_pos (decide_eq_true (Int.not_lt.1 q)), if_neg (by simpa using q), List.length_cons]
  omega
end
def linksP (g : Gr) (p : Pt) : List Lk := p.e.map fun e => ⟨(g.at e).1, (g.at e).2, e⟩
def loopB (g : Gr) (p : Pt) (k : Nat) : Bool := (p.e.take k).any fun e => (g.at e).1 == (g.at e).2
noncomputable def newErr (g : Gr) (p : Pt) : Int := if p.err g ≠ 0 then p.err g else if solidB g p = false then 10 else if loopB g p p.e.length = true then 16 else 0
theorem linksP_snoc {g : Gr} {p : Pt} {k : Nat} (h : k < p.e.length) : (linksP g p).take (k + 1) = (linksP g p).take k ++ [⟨(g.at (p.e.getD k 0)).1, (g.at (p.e.getD k 0)).2, p.e.getD k 0⟩] := by
 unfold linksP
 rw [← List.map_take, ← List.map_take, List.take_succ_eq_append_getElem h, List.map_append]
 simp [List.getD, h]
theorem loopB_succ {g : Gr} {p : Pt} {k : Nat} (h : k < p.e.length) : loopB g p (k + 1) = (loopB g p k || (g.at (p.e.getD k 0)).1 == (g.at (p.e.getD k 0)).2) := by
 unfold loopB
 rw [List.take_succ_eq_append_getElem h, List.any_append]
 simp [List.getD, h]
theorem loopB_all {g : Gr} {p : Pt} {k : Nat} (h : loopB g p k = true) : loopB g p p.e.length = true := by
 unfold loopB at h ⊢
 rw [List.any_eq_true] at h ⊢
 obtain ⟨x, hx, h⟩ := h
 exact ⟨x, by rw [List.take_length]; exact List.mem_of_mem_take hx, h⟩
theorem linksP_len (g : Gr) (p : Pt) : (linksP g p).length = p.e.length := by simp [linksP]
theorem linksP_ids (g : Gr) (p : Pt) : idsL (linksP g p) = p.e := by
 unfold idsL linksP
 rw [List.map_map]
 exact List.map_id _
theorem cutF_last : ∀ (f : Nat) (todo : List (List Lk)) (done : List Nd) (last : Int), last - f ≤ (cutF f todo done last).2
 | 0, _, _, last => by show last - 0 ≤ last; omega
 | f + 1, [], _, last => by show last - _ ≤ last; omega
 | f + 1, l :: todo, done, last => by
  cases hc : cutN l last with
  | none => rw [cutF_done hc]; have := cutF_last f todo (done ++ [⟨(kindK l).1, l⟩]) last; omega
  | some ab => rw [cutF_cut hc]; have := cutF_last f (ab.1 :: ab.2 :: todo) done (last - 1); omega
theorem sumK_flat (ns : List Nd) : sumK ns = (idsN ns).flatten.length := by
 unfold sumK idsN idsL
 induction ns with
 | nil => rfl
 | cons n ns ih => simp [ih]
theorem Tr.size {E : List Int} {ns : List Nd} (h : Tr E (idsN ns)) : ns.length ≤ E.length + 1 ∧ sumK ns ≤ 3 * E.length := by
 have c := h.cnt
 have e := h.edg.length_eq
 have hs : sumK ns = ((idsN ns).flatten.filter fun v => decide (0 ≤ v)).length + ((idsN ns).flatten.filter fun v => decide (v < 0)).length := by
  rw [sumK_flat]
  have := filter_two (fun v => decide (0 ≤ v)) (idsN ns).flatten
  rw [← this]
  congr 2
  refine List.filter_congr fun v _ => ?_
  by_cases q : 0 ≤ v
  ·simp [q]
  simp [q]; omega
 have hl : (idsN ns).length = ns.length := by simp [idsN]
 rw [hl] at c
 have hb : ns.length ≤ 1 ∨ 3 * ns.length ≤ sumK ns := by
  rcases h.big with q | q
  ·left; omega
  right
  have : ∀ ms : List Nd, (∀ n ∈ ms, 3 ≤ (idsL n.l).length) → 3 * ms.length ≤ sumK ms := fun ms => by
   induction ms with
   | nil => intro _; exact Nat.le_refl _
   | cons n ms ih =>
    intro hq
    have h1 := ih fun m hm => hq m (by simp [hm])
    have h2 := hq n (by simp)
    simp only [idsL, List.length_map] at h2
    simp only [sumK, List.map_cons, List.sum_cons, List.length_cons] at h1 ⊢
    omega
  exact this ns fun n hn => q _ (List.mem_map.2 ⟨n, hn, rfl⟩)
 omega
theorem tree_new {g : Gr} {p : Pt} (he : p.err g = 0) : Tr p.e (idsN (cutT (linksP g p)).1) ∧ (∀ x ∈ idsN (cutT (linksP g p)).1, ∀ v ∈ x, (cutT (linksP g p)).2 ≤ v) ∧ (cutT (linksP g p)).2 ≤ 0 ∧ -((2 * p.e.length + 2 : Nat) : Int) ≤ (cutT (linksP g p)).2 := by
 have hin : ∀ e ∈ p.e, 0 ≤ e := fun e q => (Pt.edge_in he q).1
 have t0 := Tr.one (rises_nodup (Pt.err_ok he).2.2.1) hin
 have hm : cutM [linksP g p] < 2 * (linksP g p).length + 2 := by
  rw [cutM_cons]
  show max 1 (2 * (linksP g p).length - 5) + 0 < _
  omega
 obtain ⟨a, b, c⟩ := Tr.cutF (E := p.e) (2 * (linksP g p).length + 2) [linksP g p] [] 0 hm (Int.le_refl _) (fun x hx v hv => by
  simp only [idsN, List.map_cons, List.map_nil, List.append_nil, List.mem_singleton] at hx
  subst hx
  rw [linksP_ids] at hv
  exact hin v hv) (by
  simp only [idsN, List.map_cons, List.map_nil, List.append_nil, linksP_ids]
  exact t0)
 refine ⟨a, b, c, ?_⟩
 have := cutF_last (2 * (linksP g p).length + 2) [linksP g p] [] 0
 rw [linksP_len] at this
 unfold cutT
 rw [linksP_len]
 omega
theorem mergeS_ids {ns : List Nd} {id : Int} : ∀ x ∈ idsN (mergeS ns id), ∀ v ∈ x, ∃ y ∈ idsN ns, v ∈ y := by
 intro x hx v hv
 rcases mergeS_cases ns id with e | ⟨a, b, R, p1, p2, -⟩
 ·rw [e] at hx; exact ⟨x, hx, hv⟩
 have q1 := p1.map fun n : Nd => idsL n.l
 have q2 := (p2.map fun n : Nd => idsL n.l).mem_iff.1 hx
 have mem : ∀ y, y ∈ idsL a.l :: idsL b.l :: idsN R → y ∈ idsN ns := fun y hy => q1.mem_iff.2 hy
 rcases List.mem_cons.1 q2 with rfl | q2
 ·obtain ⟨z, hz, rfl⟩ := List.mem_map.1 hv
  rcases List.mem_append.1 (List.mem_filter.1 hz).1 with q | q
  ·exact ⟨idsL a.l, mem _ (by simp), List.mem_map.2 ⟨z, q, rfl⟩⟩
  exact ⟨idsL b.l, mem _ (List.mem_cons_of_mem _ (by simp)), List.mem_map.2 ⟨z, q, rfl⟩⟩
 exact ⟨x, mem _ (List.mem_cons_of_mem _ (List.mem_cons_of_mem _ q2)), hv⟩
theorem mergeK_ids {ns : List Nd} : ∀ k, ∀ x ∈ idsN (mergeK ns k), ∀ v ∈ x, ∃ y ∈ idsN ns, v ∈ y
 | 0, x, hx, v, hv => ⟨x, hx, hv⟩
 | k + 1, x, hx, v, hv => by
  obtain ⟨y, hy, h2⟩ := mergeS_ids x hx v hv
  exact mergeK_ids k y hy v h2
theorem tree_ns {g : Gr} {p : Pt} (he : p.err g = 0) {ns : List Nd} {m : Nat} (hp : ns.Perm (mergeK (cutT (linksP g p)).1 m)) : Tr p.e (idsN ns) ∧ ∀ i, i < ns.length → ∀ v ∈ idsL (nd0 ns i).l, -((2 * p.e.length + 2 : Nat) : Int) ≤ v ∧ v < g.e.length := by
 obtain ⟨h1, h2, h3, h4⟩ := tree_new he
 have ht : Tr p.e (idsN ns) := (h1.mergeK m).perm (hp.symm.map fun n : Nd => idsL n.l)
 refine ⟨ht, fun i hi v hv => ?_⟩
 have hm : idsL (nd0 ns i).l ∈ idsN ns := List.mem_map.2 ⟨_, by unfold nd0; simp [List.getD, hi], rfl⟩
 constructor
 ·obtain ⟨y, hy, h5⟩ := mergeK_ids m _ ((hp.map fun n : Nd => idsL n.l).mem_iff.1 hm) v hv
  have := h2 y hy v h5
  omega
 by_cases q : v < 0
 ·omega
 have : v ∈ p.e := ht.edg.mem_iff.1 (List.mem_filter.2 ⟨List.mem_flatten.2 ⟨_, hm, hv⟩, decide_eq_true (Int.not_lt.1 q)⟩)
 exact (Pt.edge_in he this).2
end Go.Proofs.YtpcgklagmcnhaaaGreat.Plain
