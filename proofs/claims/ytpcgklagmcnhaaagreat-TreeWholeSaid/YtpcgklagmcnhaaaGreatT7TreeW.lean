/- A block's tree as the law TreeWhole asks it. No program here. -/
import Derived.Test.YtpcgklagmcnhaaaGreatT7TrV
namespace Go.Proofs.YtpcgklagmcnhaaaGreat.Plain
theorem linksP_mem {g : Gr} {p : Pt} {x : Lk} (h : x ∈ linksP g p) : x.id ∈ p.e ∧ x.a = (g.at x.id).1 ∧ x.b = (g.at x.id).2 := by
 obtain ⟨e, he, rfl⟩ := List.mem_map.1 h
 exact ⟨he, rfl, rfl⟩
theorem linksP_in {g : Gr} {p : Pt} {e : Int} (h : e ∈ p.e) : (⟨(g.at e).1, (g.at e).2, e⟩ : Lk) ∈ linksP g p := List.mem_map.2 ⟨e, h, rfl⟩
theorem links_rt {g : Gr} {p : Pt} (hne : newErr g p = 0) : Rt (linksP g p) := by
 obtain ⟨he, hs, hl⟩ := newErr_ok hne
 obtain ⟨-, ⟨e0, t, het, hap⟩, -⟩ := solidB_iff.1 hs
 obtain ⟨b1, b2, b3, b4⟩ := Gr.err_ok (Pt.err_ok he).1
 have noloop : ∀ e ∈ p.e, (g.at e).1 ≠ (g.at e).2 := fun e hm q => by
  unfold loopB at hl
  rw [List.take_length, List.any_eq_false] at hl
  exact hl e hm (by simpa using q)
 have ends : ∀ e ∈ p.e, 0 ≤ (g.at e).1 ∧ (g.at e).1 < g.n ∧ 0 ≤ (g.at e).2 ∧ (g.at e).2 < g.n := fun e hm => by
  have := Pt.edge_in he hm
  exact b4 e.toNat (by omega)
 have inV : ∀ w, Vx (linksP g p) w → w ∈ p.v := fun w ⟨x, hx, hw⟩ => by
  obtain ⟨h1, h2, h3⟩ := linksP_mem hx
  have := Pt.ends_in he x.id h1
  rcases hw with rfl | rfl
  ·rw [h2]; exact this.1
  rw [h3]; exact this.2
 have he0 : e0 ∈ p.e := by rw [het]; simp
 refine ⟨List.ne_nil_of_mem (linksP_in he0), by rw [linksP_ids]; exact rises_nodup (Pt.err_ok he).2.2.1, fun x hx => ?_, ?_, fun v hv c hc => ?_⟩
 ·obtain ⟨h1, h2, h3⟩ := linksP_mem hx
  have := ends x.id h1
  have n := noloop x.id h1
  rw [← h2, ← h3] at this n
  exact ⟨by omega, by omega, n, by omega, by omega⟩
 ·have h1 : nK (linksP g p) ≤ g.n := nK_le b1 fun x hx => by
   obtain ⟨h1, h2, h3⟩ := linksP_mem hx
   have := ends x.id h1
   rw [h2, h3]
   omega
  rw [linksP_len]
  have := rises_len (Pt.err_ok he).2.2.1
  omega
 have hv2 := inV v hv
 have offv : ∀ e ∈ p.e, off g v e ≠ v := fun e hm => off_ne fun q => noloop e hm (q.1.trans q.2.symm)
 have near : ∀ x y, Near g p x y → x ≠ v → y ≠ v → c x = c y := by
  rintro x y ⟨e, hm, h | h⟩ h1 h2
  ·have := hc _ (linksP_in hm) (by rw [h]; exact h1) (by rw [h]; exact h2)
   rw [h] at this; exact this
  have := hc _ (linksP_in hm) (by rw [h]; exact h2) (by rw [h]; exact h1)
  rw [h] at this; exact this.symm
 have key : ∀ e ∈ p.e, c (off g v e0) = c (off g v e) := fun e hm => by
  have h5 := hap e hm v hv2
  unfold Apart at h5
  by_cases q : e0 = e
  ·rw [q]
  have h6 : Come g p v (off g v e0) (off g v e) := Classical.byContradiction fun r => h5 ⟨q, Or.inr (Or.inr r)⟩
  exact (come_rest near (offv e0 he0) h6).1
 have one : ∀ y, Vx (linksP g p) y → y ≠ v → c y = c (off g v e0) := by
  rintro y ⟨x, hx, hxy⟩ hyv
  obtain ⟨h1, h2, h3⟩ := linksP_mem hx
  rw [key x.id h1]
  unfold off
  rw [← h2, ← h3]
  split
  ·rename_i q
   rcases hxy with e | e
   ·exact absurd (e.symm.trans q) hyv
   rw [e]
  rename_i q
  rcases hxy with e | e
  ·rw [e]
  have := hc x hx q (by rw [e]; exact hyv)
  rw [this, e]
 intro y z hy hz hyv hzv
 rw [one y hy hyv, one z hz hzv]
theorem num_get {E : List Int} {ns : List Nd} {rs : List T3} (h : Tr E (idsN ns)) (h64 : ∀ i, i < ns.length → ∀ v ∈ idsL (nd0 ns i).l, I64 v) (hrs : ∀ t, t ∈ rs ↔ I64 t.c ∧ atF ns ns.length 0 t.c = [t.a, t.b]) (hn : (rs.map T3.c).Nodup) {i : Nat} {v : Int} (hi : i < ns.length) (hv : v < 0) (hiv : v ∈ idsL (nd0 ns i).l) : ∃ k : Nat, k < rs.length ∧ (t30 rs k).c = v ∧ (numF rs rs.length v).getD 0 = -1 - (k : Int) := by
 have hnl : (idsN ns).length = ns.length := by simp [idsN]
 have hnod : ∀ i, i < ns.length → (idsL (nd0 ns i).l).Nodup := fun i hi => h.nod _ (by
  rw [← idsN_at hi, show (idsN ns).getD i [] = (idsN ns)[i]'(by rw [hnl]; exact hi) by simp [List.getD, hnl, hi]]
  exact List.getElem_mem _)
 have ti := h.ix
 rw [hnl] at ti
 obtain ⟨j, hj, hji, hjv, hall⟩ := ti.two v hv i hi (by rw [idsN_at hi]; exact hiv)
 rw [idsN_at hj] at hjv
 have go : ∀ a b, a < b → b < ns.length → v ∈ idsL (nd0 ns a).l → v ∈ idsL (nd0 ns b).l → (∀ k, k < ns.length → v ∈ idsL (nd0 ns k).l → k = a ∨ k = b) → ∃ k : Nat, k < rs.length ∧ (t30 rs k).c = v := fun a b hab hb ha2 hb2 hall2 => by
  have e : atF ns ns.length 0 v = [(a : Int), (b : Int)] := by
   rw [atF_eq hnod hv]
   have e2 : ((List.range ns.length).filter fun i => decide (v ∈ idsL (nd0 ns i).l)) = [a, b] := by
    have p : ((List.range ns.length).filter fun i => decide (v ∈ idsL (nd0 ns i).l)).Perm [a, b] := by
     refine (List.perm_ext_iff_of_nodup (List.nodup_range.filter _) (by simp; omega)).2 fun x => ?_
     rw [List.mem_filter, List.mem_range, decide_eq_true_iff]
     simp only [List.mem_cons, List.not_mem_nil, or_false]
     exact ⟨fun q => hall2 x q.1 q.2, fun q => q.elim (fun q => by rw [q]; exact ⟨by omega, ha2⟩) fun q => by rw [q]; exact ⟨hb, hb2⟩⟩
    refine p.eq_of_pairwise (le := (· ≤ ·)) (fun x y _ _ h1 h2 => Nat.le_antisymm h1 h2) ((List.Pairwise.filter _ List.pairwise_lt_range).imp fun q => Nat.le_of_lt q) (by simp; omega)
   rw [e2]; rfl
  have hm := (hrs ⟨a, b, v⟩).2 ⟨h64 i hi v hiv, e⟩
  obtain ⟨k, hk, e3⟩ := List.getElem_of_mem hm
  exact ⟨k, hk, by simp [t30, List.getD, hk, e3]⟩
 have hall' : ∀ k, k < ns.length → v ∈ idsL (nd0 ns k).l → k = i ∨ k = j := fun k hk hkv => hall k hk (by rw [idsN_at hk]; exact hkv)
 have hk : ∃ k : Nat, k < rs.length ∧ (t30 rs k).c = v := by
  rcases Nat.lt_or_gt_of_ne hji with q | q
  ·exact go j i q hi hjv hiv fun k hk hkv => (hall' k hk hkv).symm
  exact go i j q hj hiv hjv hall'
 obtain ⟨k, hk, rfl⟩ := hk
 exact ⟨k, hk, rfl, by rw [numF_at hn _ (Nat.le_refl _) k hk]; rfl⟩
structure TreeQ (g : Gr) (p : Pt) (ms : List Nd) (rs : List T3) : Prop where
 t : TreeP p.e ms rs
 kind : ∀ i, i < ms.length → kindK (nd0 ms i).l = ((nd0 ms i).kind, true) ∧ (nd0 ms i).kind ≠ 4 ∧ ((nd0 ms i).kind = 0 → ms.length = 1)
 old : ∀ i, i < ms.length → ∀ x ∈ (nd0 ms i).l, 0 ≤ x.id → x ∈ linksP g p
 mate : ∀ i, i < ms.length → ∀ x ∈ (nd0 ms i).l, x.id < 0 → x ∈ (nd0 ms (mtM rs i x.id)).l ∧ ¬ ((nd0 ms (mtM rs i x.id)).kind = (nd0 ms i).kind ∧ ((nd0 ms i).kind = 1 ∨ (nd0 ms i).kind = 2))
theorem TreeOf.whole {g : Gr} {p : Pt} {ms : List Nd} {rs : List T3} (hne : newErr g p = 0) (h : TreeOf g p ms rs) (hg : g.e.length ≤ 100000) (hp : p.e.length ≤ 100000) : TreeQ g p ms rs := by
 obtain ⟨he, -, -⟩ := newErr_ok hne
 have ht := h.tree he hg hp
 obtain ⟨ns, h1, -, h3, h4, -, hd⟩ := h
 obtain ⟨t1, t2⟩ := tree_ns he h1
 have h64 : ∀ i, i < ns.length → ∀ v ∈ idsL (nd0 ns i).l, I64 v := fun i hi v hv => by
  have := t2 i hi v hv
  exact I64.mk (by omega) (by omega)
 have hr := links_rt hne
 have hin : ∀ e ∈ p.e, 0 ≤ e := fun e q => (Pt.edge_in he q).1
 have hl0 : (linksP g p).length = p.e.length := linksP_len g p
 -- the nodes ahead of their numbers
 have hk : TrK p.e (linksP g p) ns := by
  have c0 : TrC p.e (linksP g p) ([linksP g p] ++ ([] : List Nd).map Nd.l) := by
   simpa using TrC.one (linksP_ids g p) (rises_nodup (Pt.err_ok he).2.2.1) hin hr
  have hm : cutM [linksP g p] < 2 * (linksP g p).length + 2 := by
   rw [cutM_cons]
   show max 1 (2 * (linksP g p).length - 5) + 0 < _
   omega
  have := TrK.cutF (2 * (linksP g p).length + 2) [linksP g p] [] 0 hm (Int.le_refl _) (fun l hl x hx => by
   have hl : l = linksP g p := by simpa using hl
   rw [hl] at hx
   exact hin _ (linksP_mem hx).1) c0 (by simp)
  exact (TrK.mergeK this hr hl0 _).perm h1.symm
 have hadj : ∀ v, v < 0 → (∃ i, i < ns.length ∧ v ∈ idsL (nd0 ns i).l) → NoAdj ns v := by
  rintro v hv ⟨i, hi, hiv⟩
  obtain ⟨a1, a2, a3, a4⟩ := tree_new he
  have hm : idsL (nd0 ns i).l ∈ idsN ns := List.mem_map.2 ⟨_, by unfold nd0; simp [List.getD, hi], rfl⟩
  obtain ⟨y, hy, h5⟩ := mergeK_ids _ _ ((h1.map fun n : Nd => idsL n.l).mem_iff.1 hm) v hiv
  have hge := a2 y hy v h5
  have := NoAdj.all a1 (-(cutT (linksP g p)).2).toNat (-1 - v).toNat (by omega)
  rw [show (-1 - (((-1 - v).toNat : Nat) : Int)) = v by omega] at this
  exact this.perm h1.symm
 have hml := hd.len
 have mem : ∀ i, i < ns.length → nd0 ns i ∈ ns := fun i hi => by unfold nd0; simp [List.getD, hi]
 -- the links with their numbers
 obtain ⟨F, hF⟩ : ∃ F, numF rs rs.length = F := ⟨_, rfl⟩
 rw [hF] at hd
 have num : ∀ i, i < ns.length → ∀ y ∈ (nd0 ns i).l, y.id < 0 → ∃ k : Nat, k < rs.length ∧ (t30 rs k).c = y.id ∧ (F y.id).getD 0 = -1 - (k : Int) := fun i hi y hy h0 => by
  rw [← hF]
  exact num_get t1 h64 h3 h4 hi h0 (List.mem_map.2 ⟨y, hy, rfl⟩)
 have pre : ∀ i, i < ns.length → ∀ x ∈ (nd0 ms i).l, ∃ y ∈ (nd0 ns i).l, x = renK F y := fun i hi x hx => by
  obtain ⟨y, hy, e⟩ := List.mem_map.1 ((hd.done i hi).2.1.mem_iff.1 hx)
  exact ⟨y, hy, e.symm⟩
 have ren0 : ∀ y : Lk, 0 ≤ y.id → renK F y = y := fun y h0 => by unfold renK; rw [if_neg (by omega)]
 have renn : ∀ y : Lk, y.id < 0 → renK F y = ⟨min y.a y.b, max y.a y.b, (F y.id).getD 0⟩ := fun y h0 => by unfold renK; rw [if_pos h0]
 have rid : ∀ i, i < ns.length → ∀ y ∈ (nd0 ns i).l, y.id < 0 → (renK F y).id < 0 := fun i hi y hy h0 => by
  obtain ⟨k, -, -, e⟩ := num i hi y hy h0
  rw [renn y h0]
  show (F y.id).getD 0 < 0
  omega
 refine ⟨ht, fun i hi => ?_, fun i hi x hx h0 => ?_, fun i hi x hx h0 => ?_⟩
 ·have hi' : i < ns.length := by omega
  obtain ⟨k1, k2, k3⟩ := hk.k _ (mem i hi')
  have hren : Ren (renK F) (nd0 ns i).l (nd0 ms i).l := ⟨(hd.done i hi').2.1, fun x _ => by
   by_cases q : x.id < 0
   ·rw [renn x q]
    rcases Int.le_total x.a x.b with r | r
    ·exact Or.inl ⟨Int.min_eq_left r, Int.max_eq_right r⟩
    exact Or.inr ⟨Int.min_eq_right r, Int.max_eq_left r⟩
   rw [ren0 x (by omega)]; exact Or.inl ⟨rfl, rfl⟩, ht.nod i hi⟩
  rw [(hd.done i hi').1]
  refine ⟨hren.kind k1 k2, k2, fun q => ?_⟩
  have h5 := k3 q
  rcases ht.big with r | r
  ·exact r
  have := r i hi
  rw [hd.lens] at this
  omega
 ·have hi' : i < ns.length := by omega
  obtain ⟨y, hy, rfl⟩ := pre i hi' x hx
  have hy0 : 0 ≤ y.id := Int.not_lt.1 fun q => by have := rid i hi' y hy q; omega
  rw [ren0 y hy0]
  exact hk.c.old _ (List.mem_map.2 ⟨_, mem i hi', rfl⟩) y hy hy0
 have hi' : i < ns.length := by omega
 obtain ⟨m1, m2, m3, -⟩ := ht.mt hi h0 (List.mem_map.2 ⟨x, hx, rfl⟩)
 obtain ⟨j, hj⟩ : ∃ j, mtM rs i x.id = j := ⟨_, rfl⟩
 rw [hj] at m1 m2 m3 ⊢
 have hj' : j < ns.length := by omega
 obtain ⟨x', hx', ex⟩ := List.mem_map.1 m3
 obtain ⟨y, hy, rfl⟩ := pre i hi' x hx
 obtain ⟨y', hy', rfl⟩ := pre j hj' x' hx'
 have neg : ∀ z : Lk, (renK F z).id < 0 → z.id < 0 := fun z hz => Classical.byContradiction fun q => by
  rw [ren0 z (by omega)] at hz; omega
 have hy0 := neg y h0
 have hy0' := neg y' (by rw [ex]; exact h0)
 obtain ⟨k, hk1, hk2, hk3⟩ := num i hi' y hy hy0
 obtain ⟨k', hk1', hk2', hk3'⟩ := num j hj' y' hy' hy0'
 rw [renn y hy0, renn y' hy0'] at ex
 have ex : (F y'.id).getD 0 = (F y.id).getD 0 := ex
 have hid : y'.id = y.id := by
  have : k' = k := by omega
  rw [← hk2', ← hk2, this]
 obtain ⟨e1, e2⟩ := hk.c.en _ (List.mem_map.2 ⟨_, mem j hj', rfl⟩) _ (List.mem_map.2 ⟨_, mem i hi', rfl⟩) y' hy' y hy hid hy0'
 have heq : renK F y' = renK F y := by rw [renn y hy0, renn y' hy0', e1, e2, hid]
 refine ⟨by rw [← heq]; exact hx', ?_⟩
 rw [(hd.done i hi').1, (hd.done j hj').1]
 have hnd := nodes_nodup t1
 refine hadj y.id hy0 ⟨i, hi', List.mem_map.2 ⟨y, hy, rfl⟩⟩ _ (mem j hj') _ (mem i hi') (List.mem_map.2 ⟨y', hy', hid⟩) (List.mem_map.2 ⟨y, hy, rfl⟩) (fun e => m2 ?_) |> fun q r => q ⟨r.1, by rw [r.1]; exact r.2⟩
 unfold nd0 at e
 have g1 : ns.getD j default = ns[j] := by simp [List.getD, hj']
 have g2 : ns.getD i default = ns[i] := by simp [List.getD, hi']
 rw [g1, g2] at e
 rw [← hnd.idxOf_getElem j hj', e, hnd.idxOf_getElem i hi']
end Go.Proofs.YtpcgklagmcnhaaaGreat.Plain
namespace Go.Proofs.YtpcgklagmcnhaaaGreat
open Go.RowKit Go.Maps
namespace Plain
theorem lk_take {l : List Lk} {j : Nat} {x : Lk} (h : j < l.length) : x ∈ l.take (j + 1) ↔ x ∈ l.take j ∨ x = at0 l j := by
 rw [lk_snoc h, List.mem_append, List.mem_singleton]
theorem lk_eq {x y : Lk} : x = y ↔ x.a = y.a ∧ x.b = y.b ∧ x.id = y.id := by
 cases x; cases y; simp
theorem if3 {α : Type} {p q r : Prop} [Decidable p] [Decidable q] [Decidable r] (h : ¬ (p ∧ q ∧ r)) (T F : α) : (if p then if q then if r then T else F else F else F) = F := by
 split
 ·split
  ·rw [if_neg fun k => h ⟨by assumption, by assumption, k⟩]
  rfl
 rfl
end Plain
set_option maxRecDepth 100000 in
set_option maxHeartbeats 4000000 in
theorem shared_any (kind : Int) (v : Value) (l : List Plain.Lk) (x : Plain.Lk) (w : World) (hl : l.length ≤ 100000) (h : LksAt w v l) :
  Calls Tryz.prog 17 #[.agg #[.int .i64 kind, v], .agg #[.int .i64 x.a, .int .i64 x.b, .int .i64 x.id]] w fun e w' => e = .returned (.bool (decide (x ∈ l))) ∧ Chg [] w w' := by
 have HL := Lib.hid h
 obtain ⟨lo, cap, rfl, -, -, hcell⟩ := h
 have HCE := Lib.hid hcell
 clear hcell
 obtain ⟨t1, t2, t3⟩ := box_two w #[.int .i64 kind, .slice lo l.length cap] #[.int .i64 x.a, .int .i64 x.b, .int .i64 x.id] 26 50
 obtain ⟨wb, hwb⟩ : ∃ wb, (w.alloc (.cells #[.int .i64 kind, .slice lo l.length cap] 26)).alloc (.cells #[.int .i64 x.a, .int .i64 x.b, .int .i64 x.id] 50) = wb := ⟨_, rfl⟩
 rw [hwb] at t1 t2 t3
 have T1 := Lib.hid t1
 have T2 := Lib.hid t2
 have T3 := Lib.hid t3
 clear t1 t2 t3
 go_enter Tryz.func17, Tryz.ntmps17
 go_wp2_with fail
 clear hwb
 go_loopw [5] (fun iv wr => ∃ j : Nat, j ≤ l.length ∧ iv = .int .i64 j ∧ Hid (x ∉ l.take j) ∧ Chg [] wb wr) (fun iv _ => l.length - (intOf iv).toNat)
 case atStart => exact ⟨0, Nat.zero_le _, rfl, Lib.hid (by simp), Chg.refl _ _⟩
 case round =>
  obtain ⟨j, hj, rfl, hno, hc⟩ := hrel
  have HC := Lib.hid hc
  have HW := Lib.hid (T3.out.tr hc)
  have n1 := (cell_of_row _ _ 1 _ _ _ (hc.hp T1.out)).trans (show _ = some (Value.slice lo l.length cap) from rfl)
  have x0 := (cell_of_row _ _ 0 _ _ _ (hc.hp T2.out)).trans (show _ = some (Value.int .i64 x.a) from rfl)
  have x1 := (cell_of_row _ _ 1 _ _ _ (hc.hp T2.out)).trans (show _ = some (Value.int .i64 x.b) from rfl)
  have x2 := (cell_of_row _ _ 2 _ _ _ (hc.hp T2.out)).trans (show _ = some (Value.int .i64 x.id) from rfl)
  clear hc
  by_cases hjl : j < l.length
  ·obtain ⟨b, off, rfl, q0, q1, q2⟩ := HCE.out j hjl
   have q0 := HW.out.cel q0
   have q1 := HW.out.cel q1
   have q2 := HW.out.cel q2
   have HTK := Lib.hid (Plain.lk_take (x := x) hjl)
   have HIN := Lib.hid (Plain.at0_mem hjl)
   obtain ⟨L, hL⟩ : ∃ L, Plain.at0 l j = L := ⟨_, rfl⟩
   rw [hL] at q0 q1 q2 HTK HIN
   clear hL
   go_wp2_with fail
   by_cases hx : L = x
   ·subst hx
    have HD := Lib.hid (decide_eq_true HIN.out)
    have hS0 : Chg [] wr wr.drew := (Chg.refl [] wr).drew
    refine wp_region_way (Chg [] wr) [0, 1, 2, 3, 4, 5] (Way.line [0, 1, 2, 3, 4, 5, 6] .done) (by kernel_rfl) (by kernel_rfl) ?_
    simp only [Way.line]
    repeat
     first
      | (refine along_off rfl (by rfl) (by rfl) (fun _ _ _ h => h) hS0 ?_; simp only [Act.put, Z1, Z2, Z3, Z4, Z5, Z6])
      | (refine along_read (v := ?_) rfl (by rfl) (by rfl) (fun _ _ _ h => h) hS0 (fun w' hS' => ?_) ?_; rotate_left; (focus (have rd0 := hS'.cell n1 (by simp); have rd1 := hS'.cell q0 (by simp); have rd2 := hS'.cell q1 (by simp); have rd3 := hS'.cell q2 (by simp); have rd4 := hS'.cell x0 (by simp); have rd5 := hS'.cell x1 (by simp); have rd6 := hS'.cell x2 (by simp); clear hS'; go_simp; try with_reducible rfl)); simp only [Act.put, Z1, Z2, Z3, Z4, Z5, Z6])
      | (refine along_skip rfl (by rfl) (by rfl) hS0 ?_; simp only [Act.put, Z1, Z2, Z3, Z4, Z5, Z6])
    refine along_op rfl (by rfl) (by rfl) (fun K hK => ?_)
    go_simp
    refine hK.out _ _ (fun h => absurd h (Bool.eq_false_iff.1 (by kernel_rfl))) ?_
    clear hK K
    try simp only [Act.put, Z1, Z2, Z3, Z4, Z5, Z6]
    refine along_done ?_
    have HF := Lib.hid (HW.out.tr hS0)
    clear hS0 n1 q0 q1 q2 x0 x1 x2
    go_wp2
    go_ret
    exact ⟨ret_bool HD.out.symm, HF.out⟩
   have hif := fun (T F : Result Next) => Plain.if3 (fun q => hx (Plain.lk_eq.2 q)) T F
   have HNT := Lib.hid (show x ∉ l.take (j + 1) from fun q => by
    rcases HTK.out.1 q with r | r
    ·exact hno.out r
    exact hx r.symm)
   have hS0 : Chg [] wr wr.drew := (Chg.refl [] wr).drew
   refine wp_region_way (Chg [] wr) [0, 1, 2, 3, 4, 5] (Way.line [0, 1, 2, 3, 4, 5, 6] .done) (by kernel_rfl) (by kernel_rfl) ?_
   simp only [Way.line]
   repeat
    first
     | (refine along_off rfl (by rfl) (by rfl) (fun _ _ _ h => h) hS0 ?_; simp only [Act.put, Z1, Z2, Z3, Z4, Z5, Z6])
     | (refine along_read (v := ?_) rfl (by rfl) (by rfl) (fun _ _ _ h => h) hS0 (fun w' hS' => ?_) ?_; rotate_left; (focus (have rd0 := hS'.cell n1 (by simp); have rd1 := hS'.cell q0 (by simp); have rd2 := hS'.cell q1 (by simp); have rd3 := hS'.cell q2 (by simp); have rd4 := hS'.cell x0 (by simp); have rd5 := hS'.cell x1 (by simp); have rd6 := hS'.cell x2 (by simp); clear hS'; go_simp; try with_reducible rfl)); simp only [Act.put, Z1, Z2, Z3, Z4, Z5, Z6])
     | (refine along_skip rfl (by rfl) (by rfl) hS0 ?_; simp only [Act.put, Z1, Z2, Z3, Z4, Z5, Z6])
   refine along_op rfl (by rfl) (by rfl) (fun K hK => ?_)
   go_simp
   refine hK.out _ _ (fun h => absurd h (Bool.eq_false_iff.1 (by kernel_rfl))) ?_
   clear hK K
   try simp only [Act.put, Z1, Z2, Z3, Z4, Z5, Z6]
   refine along_done ?_
   have HF := Lib.hid (HC.out.tr hS0)
   clear hS0 n1 q0 q1 q2 x0 x1 x2 hif
   go_wp2
   go_roundw
   case rel => exact ⟨j + 1, by omega, by go_num, Lib.hid HNT.out, HF.out⟩
   case measure => simp [intOf]; omega
  have e : j = l.length := by omega
  subst e
  have hno2 : x ∉ l := by have := hno.out; rwa [List.take_length] at this
  have HNO := Lib.hid (decide_eq_false hno2)
  clear x0 x1 x2 hno2
  go_wp2
  go_ret
  exact ⟨ret_bool HNO.out.symm, HW.out⟩
namespace Plain
def beyS (ms : List Nd) (rs : List T3) (j : Nat) : Nat := (((idsL (nd0 ms 0).l).take j).map fun v => (beyV ms rs 0 v).length).sum
theorem beyS_succ {ms : List Nd} {rs : List T3} {j : Nat} (h : j < (nd0 ms 0).l.length) : beyS ms rs (j + 1) = beyS ms rs j + (beyV ms rs 0 (at0 (nd0 ms 0).l j).id).length := by
 unfold beyS
 have e : idsL (nd0 ms 0).l = (nd0 ms 0).l.map Lk.id := rfl
 rw [e, ← List.map_take, ← List.map_take, lk_snoc h, List.map_append, List.map_append, List.sum_append]
 simp
theorem beyS_all {E : List Int} {ms : List Nd} {rs : List T3} (h : TreeP E ms rs) : beyS ms rs (nd0 ms 0).l.length = E.length := by
 rw [← h.all h.pos]
 unfold beyS
 rw [List.take_of_length_le (by simp [idsL])]
 congr 1
 refine List.map_congr_left fun v _ => ?_
 unfold beyV
 split <;> rfl
theorem sum_take_le (l : List Nat) (j : Nat) : (l.take j).sum ≤ l.sum := by
 have := List.take_append_drop j l
 conv => rhs; rw [← this, List.sum_append]
 omega
theorem beyS_le {E : List Int} {ms : List Nd} {rs : List T3} (h : TreeP E ms rs) (j : Nat) : beyS ms rs j ≤ E.length := by
 have h1 := beyS_all h
 have h2 : beyS ms rs (nd0 ms 0).l.length = ((idsL (nd0 ms 0).l).map fun v => (beyV ms rs 0 v).length).sum := by
  unfold beyS
  rw [List.take_of_length_le (by simp [idsL])]
 rw [← h1, h2]
 unfold beyS
 rw [List.map_take]
 exact sum_take_le _ j
end Plain
set_option maxRecDepth 100000 in
set_option maxHeartbeats 4000000 in
theorem beyondAll_any (pb : Nat) (v ev : Value) (vs : List Value) (E : List Int) (ms : List Plain.Nd) (rs : List Plain.T3) (B : Nat) (w : World) (H : Plain.TreeP E ms rs) (h0 : w.heap[pb]? = some (.cells #[v, ev] 73 (0, 0))) (hn : NdRow w B v vs ms) (hr : T2Row w B ev rs) (hml : ms.length ≤ 100000) (hE : E.length ≤ 100000) (hrs : rs.length ≤ 100000) (hll : ∀ i, i < ms.length → (Plain.nd0 ms i).l.length ≤ 100000) :
  Calls Tryz.prog 18 #[.pointer (some ⟨pb, 0, none⟩)] w fun e w' => e = .returned (.int .i64 E.length) ∧ Chg [] w w' := by
 have HH := Lib.hid H
 have HN := Lib.hid hn
 have HR := Lib.hid hr
 have HT := Lib.hid h0
 have HLL := Lib.hid hll
 have hpos := H.pos
 have t0 := (cell_of_row _ _ 0 _ _ _ h0).trans (show _ = some v from rfl)
 clear hn hr h0 hll H
 go_enter Tryz.func18, Tryz.ntmps18
 go_wp2_with fail
 refine (tnode_any pb v vs ms B 0 w t0 HN.out hpos hml (by have := HLL.out 0 hpos; omega)).mono ?_
 rintro e w2 ⟨nu, rfl, hrow, hc2⟩
 obtain ⟨uo, uc, rfl⟩ := hrow.shape
 have HRW := Lib.hid hrow
 have hl0 := HLL.out 0 hpos
 have HSU := Lib.hid (fun j h => Plain.beyS_succ (ms := ms) (rs := rs) (j := j) h)
 have HSA := Lib.hid (Plain.beyS_all HH.out)
 have HSL := Lib.hid (fun j => Plain.beyS_le HH.out j)
 obtain ⟨N, hN⟩ : ∃ N, Plain.nd0 ms 0 = N := ⟨_, rfl⟩
 have HNN := Lib.hid hN
 rw [hN] at HRW HSU HSA hl0 ⊢
 have HC2 := Lib.hid hc2
 have HBX := Lib.hid (heap_alloc_new w2 (.cells #[.int .i64 N.kind, .slice uo N.l.length uc] 26))
 have HCX := Lib.hid ((Chg.refl [] w2).alloc (.cells #[.int .i64 N.kind, .slice uo N.l.length uc] 26))
 obtain ⟨nb, hnb⟩ : ∃ n, w2.heap.size = n := ⟨_, rfl⟩
 rw [hnb] at HBX
 clear hrow hc2 hN t0
 go_wp2_with fail
 clear hnb
 go_loopw [5, 6] (fun c5 iv wr => ∃ j : Nat, j ≤ N.l.length ∧ iv = .int .i64 j ∧ c5 = .int .i64 (Plain.beyS ms rs j : Nat) ∧ Chg [] (w2.alloc (.cells #[.int .i64 N.kind, .slice uo N.l.length uc] 26)) wr) (fun _ iv _ => N.l.length - (intOf iv).toNat)
 case atStart => exact ⟨0, Nat.zero_le _, rfl, rfl, Chg.refl _ _⟩
 case round =>
  obtain ⟨j, hj, rfl, rfl, hc⟩ := hrel
  have HC := Lib.hid hc
  have HA := Lib.hid ((HC2.out.tr HCX.out).tr hc)
  have b1 := (cell_of_row _ _ 1 _ _ _ (hc.hp HBX.out)).trans (show _ = some (Value.slice uo N.l.length uc) from rfl)
  clear hc
  by_cases hjl : j < N.l.length
  ·obtain ⟨lo', lc', el, -, hsm2, hcell⟩ := (HRW.out.fresh (HCX.out.tr HC.out)).lks
   simp only [Value.slice.injEq] at el
   obtain ⟨rfl, -, rfl⟩ := el
   obtain ⟨lb, loff, rfl, -, -, q2⟩ := hcell j hjl
   have HML := Lib.hid (show (Plain.at0 N.l j).id ∈ Plain.idsL (Plain.nd0 ms 0).l from by
    rw [HNN.out]
    exact List.mem_map.2 ⟨_, Plain.at0_mem hjl, rfl⟩)
   have HS1 := Lib.hid (HSU.out j hjl)
   have hsl := HSL.out (j + 1)
   rw [HS1.out] at hsl
   obtain ⟨id, hid⟩ : ∃ id, (Plain.at0 N.l j).id = id := ⟨_, rfl⟩
   rw [hid] at q2 HML HS1 hsl
   clear hcell hsm2 hid
   go_wp2_with fail
   refine (tbeyond_any pb v ev vs E ms rs B _ HH.out (HA.out.hp HT.out) (HN.out.fresh HA.out) (owns_chg HR.out HA.out (by simp)) hml hE hrs HLL.out 0 hpos id HML.out).mono ?_
   rintro e w7 ⟨ov, l1, rfl, hov, -, hlp, hc7⟩
   obtain ⟨o1, c1, rfl⟩ := hov.shape
   have hlen : l1.length = (Plain.beyV ms rs 0 id).length := hlp.length_eq
   rw [hlen]
   have HC7 := Lib.hid (HC.out.tr hc7)
   obtain ⟨S, hS⟩ : ∃ S : Nat, Plain.beyS ms rs j = S := ⟨_, rfl⟩
   obtain ⟨D, hD⟩ : ∃ D : Nat, (Plain.beyV ms rs 0 id).length = D := ⟨_, rfl⟩
   rw [hS, hD] at hsl HS1
   rw [hS, hD]
   have hsd : (S : Int) + D ≤ 100000 := by omega
   clear hov hlp hc7 hlen q2 b1 hS hD hsl
   go_wp2
   go_roundw
   case rel => exact ⟨j + 1, by omega, by go_num, by rw [HS1.out]; go_num, HC7.out⟩
   case measure => simp [intOf]; omega
  have e : j = N.l.length := by omega
  subst e
  rw [HSA.out]
  go_wp2
  go_ret
  exact ⟨rfl, HA.out⟩
end Go.Proofs.YtpcgklagmcnhaaaGreat
namespace Go.Proofs.YtpcgklagmcnhaaaGreat.Plain
def flT (q : Int → Bool) (ms : List Nd) (i j : Nat) : List Int := (((List.range i).flatMap fun k => idsL (nd0 ms k).l) ++ idsL ((nd0 ms i).l.take j)).filter q
theorem flT_zero {q : Int → Bool} {ms : List Nd} : flT q ms 0 0 = [] := by simp [flT, idsL]
theorem flT_put {q : Int → Bool} {ms : List Nd} {i j : Nat} (h : j < (nd0 ms i).l.length) (hq : q (at0 (nd0 ms i).l j).id = true) : flT q ms i (j + 1) = flT q ms i j ++ [(at0 (nd0 ms i).l j).id] := by
 unfold flT
 rw [idsL_snoc h, ← List.append_assoc, List.filter_append, List.filter_cons, if_pos hq]
 rfl
theorem flT_skip {q : Int → Bool} {ms : List Nd} {i j : Nat} (h : j < (nd0 ms i).l.length) (hq : q (at0 (nd0 ms i).l j).id = false) : flT q ms i (j + 1) = flT q ms i j := by
 unfold flT
 rw [idsL_snoc h, ← List.append_assoc, List.filter_append, List.filter_cons, if_neg (by simp [hq])]
 simp
theorem flT_next {q : Int → Bool} {ms : List Nd} {i : Nat} : flT q ms i (nd0 ms i).l.length = flT q ms (i + 1) 0 := by
 unfold flT
 rw [List.take_length, List.range_succ, List.flatMap_append]
 simp [idsL]
theorem flT_row {q : Int → Bool} {ms : List Nd} {i j : Nat} : flT q ms i j <+: flT q ms (i + 1) 0 := by
 rw [← flT_next]
 unfold flT
 rw [List.take_length]
 exact ((List.prefix_append_right_inj _).2 ((List.take_prefix j _).map _)).filter _
theorem flT_up {q : Int → Bool} {ms : List Nd} {i : Nat} : ∀ d, flT q ms i 0 <+: flT q ms (i + d) 0
 | 0 => List.prefix_refl _
 | d + 1 => (flT_up d).trans flT_row
theorem flT_pre {q : Int → Bool} {ms : List Nd} {i j : Nat} (h : i < ms.length) : flT q ms i j <+: flT q ms ms.length 0 := by
 have := flT_up (q := q) (ms := ms) (i := i + 1) (ms.length - (i + 1))
 rw [show i + 1 + (ms.length - (i + 1)) = ms.length by omega] at this
 exact flT_row.trans this
theorem flT_all {q : Int → Bool} {ms : List Nd} : flT q ms ms.length 0 = (((List.range ms.length).flatMap fun k => idsL (nd0 ms k).l).filter q) := by simp [flT, idsL]
def old0 (v : Int) : Bool := decide (0 ≤ v)
def new0 (v : Int) : Bool := decide (v < 0)
variable {E : List Int} {ms : List Nd} {rs : List T3} (h : TreeP E ms rs)
include h
theorem TreeP.olds : (flT old0 ms ms.length 0).Perm E := by rw [flT_all]; exact h.edg
theorem TreeP.news : (flT new0 ms ms.length 0).length + 2 = 2 * ms.length := by rw [flT_all]; exact h.cnt
theorem TreeP.old_sub {i j : Nat} (hi : i < ms.length) : (flT old0 ms i j).Sublist (flT old0 ms ms.length 0) := by
 have _h' := h.pos
 exact (flT_pre hi).sublist
theorem TreeP.old_in {i j : Nat} (hi : i < ms.length) : ∀ v ∈ flT old0 ms i j, v ∈ E := fun _ hv => h.olds.mem_iff.1 ((h.old_sub hi).mem hv)
theorem TreeP.old_len {i j : Nat} (hi : i < ms.length) : (flT old0 ms i j).length ≤ E.length := by rw [← h.olds.length_eq]; exact (h.old_sub hi).length_le
theorem TreeP.new_len {i j : Nat} (hi : i < ms.length) : (flT new0 ms i j).length ≤ 2 * ms.length := by
 have := h.news
 have := (flT_pre (q := new0) (j := j) hi).length_le
 omega
theorem TreeP.old_new {i j : Nat} (hE : E.Nodup) (hi : i < ms.length) (hj : j < (nd0 ms i).l.length) (h0 : 0 ≤ (at0 (nd0 ms i).l j).id) : (at0 (nd0 ms i).l j).id ∉ flT old0 ms i j := by
 have h1 : (flT old0 ms i (j + 1)).Nodup := (h.olds.nodup_iff.2 hE).sublist (h.old_sub hi)
 rw [flT_put hj (by simpa [old0] using h0)] at h1
 intro q
 exact (List.nodup_append.1 h1).2.2 _ q _ (List.mem_singleton.2 rfl) rfl
theorem TreeP.old_mem {i j : Nat} (hi : i < ms.length) (hj : j < (nd0 ms i).l.length) (h0 : 0 ≤ (at0 (nd0 ms i).l j).id) : (at0 (nd0 ms i).l j).id ∈ E := by
 refine h.old_in (j := j + 1) hi _ ?_
 rw [flT_put hj (by simpa [old0] using h0)]
 simp
end Go.Proofs.YtpcgklagmcnhaaaGreat.Plain
namespace Go.Proofs.YtpcgklagmcnhaaaGreat
open Go.RowKit Go.Maps
theorem Plain.at_nat {g : Plain.Gr} {i : Nat} (h : i < g.e.length) : g.at (i : Int) = g.ends i := by
 have h' := h
 grind [Plain.Gr.at]
section
attribute [local go_sem] Oper.semAt_some
set_option maxRecDepth 100000 in
set_option maxHeartbeats 16000000 in
theorem treeWhole_any (vg vp : Value) (g : Plain.Gr) (p : Plain.Pt) (w : World) (hg : GrAt w vg g) (hp : PtAt w vp p) :
  Calls Tryz.prog 4 #[vg, vp] w fun e w' => e = .returned (.bool true) ∧ Chg [] w w' := by
 have HSM0 := Lib.hid (show ∀ i, i < g.e.length → I64 (g.ends i).1 ∧ I64 (g.ends i).2 from by obtain ⟨-, -, -, -, -, h, -⟩ := hg; exact h)
 obtain ⟨eo, cap, ao, ac, bo, bc, rfl, rfl, HG, HP, hm, ham, hbm, HAC, HBC, HAS, HBS, HC1, HBXS⟩ := box_gp hg hp
 clear hg hp
 have HCE := Lib.hid (show ∀ i, i < g.e.length → ∃ b off, eo = some ⟨b, off, none⟩ ∧ w.cell? ⟨b, off + i * 2, none⟩ = some (.int .i64 (g.ends i).1) ∧ w.cell? ⟨b, off + i * 2 + 1, none⟩ = some (.int .i64 (g.ends i).2) from by
  obtain ⟨eo', cap', eg, -, -, -, hce⟩ := HG.out
  simp only [Value.agg.injEq, Array.mk.injEq, List.cons.injEq, Value.slice.injEq, and_true] at eg
  obtain ⟨-, rfl, -⟩ := eg
  exact hce)
 have HP9 := Lib.hid (show IntsAt w (.slice bo p.e.length bc) p.e from by
  obtain ⟨v1, v2, e1, -, h2⟩ := HP.out
  simp only [Value.agg.injEq, Array.mk.injEq, List.cons.injEq, and_true] at e1
  obtain ⟨-, rfl⟩ := e1
  exact h2)
 obtain ⟨x0, x1, y0, y1, hsz⟩ := HBXS.out _ (Chg.refl _ _)
 go_enter Tryz.func4, Tryz.ntmps4
 go_wp2_with fail
 obtain ⟨w1, hw1⟩ : ∃ w1, ((w.alloc (.cells #[.int .i64 g.n, .slice eo g.e.length cap] 41)).alloc (.cells #[.slice ao p.v.length ac, .slice bo p.e.length bc] 43)) = w1 := ⟨_, rfl⟩
 rw [hw1] at HC1 HBXS ⊢
 clear hw1 x0 x1 y0 y1 hsz
 refine (awake15_any _).mono ?_
 rintro e w2 ⟨rfl, hc2⟩
 have HC2 := Lib.hid hc2
 obtain ⟨x0, x1, y0, y1, -⟩ := HBXS.out _ HC2.out
 have HCW2 := Lib.hid (HC1.out.tr HC2.out)
 clear hc2
 go_wp2_with fail
 refine (small15_any _ _ g p _ (HG.out.fresh HCW2.out) (HP.out.fresh HCW2.out)).mono ?_
 rintro e w3 ⟨rfl, hc3⟩
 have HC3 := Lib.hid (HC2.out.tr hc3)
 have HCW3 := Lib.hid (HC1.out.tr HC3.out)
 obtain ⟨x0, x1, y0, y1, -⟩ := HBXS.out _ HC3.out
 clear hc3
 by_cases hsm : Plain.small15 g p = true
 ·rw [hsm]
  have HSM := Lib.hid (Plain.small15_is hsm)
  clear hsm
  go_wp2_with fail
  refine (tnew_any _ _ g p _ (by have := HSM.out; omega) (by have := HSM.out; omega) (HG.out.fresh HCW3.out) (HP.out.fresh HCW3.out)).mono ?_
  rintro e w4 ⟨hc4, hno, hyes⟩
  have HC4 := Lib.hid (HC3.out.tr hc4)
  have HCW4 := Lib.hid (HC1.out.tr HC4.out)
  obtain ⟨x0, x1, y0, y1, -⟩ := HBXS.out _ HC4.out
  clear hc4
  by_cases hne : Plain.newErr g p = 0
  ·obtain ⟨pb, ms, rs, rfl, htr, hof⟩ := hyes hne
   obtain ⟨hpe, -, -⟩ := Plain.newErr_ok hne
   have hgl := (Plain.Gr.err_ok (Plain.Pt.err_ok hpe).1)
   have HQ := Lib.hid (hof.whole hne (by have := hgl; omega) (by have := HSM.out; omega))
   have HT := Lib.hid HQ.out.t
   have HS := Lib.hid HT.out.small
   have HND := Lib.hid (Plain.rises_nodup (Plain.Pt.err_ok hpe).2.2.1)
   have HEI := Lib.hid (fun e h => Plain.Pt.edge_in hpe (e := e) h)
   obtain ⟨hpb, tv, tvs, tev, th, tn, tr⟩ := htr
   have TH := Lib.hid th
   have TN := Lib.hid tn
   have TR := Lib.hid tr
   obtain ⟨no, nc, rfl⟩ := tn.shape
   have hml : ms.length ≤ 100000 := by have := HS.out.1; have := HSM.out; omega
   clear hno hyes hof hne th tn tr hgl hpe x0 x1 y0 y1
   go_wp2_with fail
   go_loopw [7, 8, 9] (fun c7 c8 iv wr => ∃ i : Nat, i ≤ ms.length ∧ iv = .int .i64 i ∧ c8 = .int .i64 ((Plain.flT Plain.new0 ms i 0).length : Nat) ∧ RowAt wr w4.heap.size c7 (Plain.flT Plain.old0 ms i 0) ∧ Chg [] w4 wr) (fun _ _ iv _ => ms.length - (intOf iv).toNat)
   case atStart => exact ⟨0, Nat.zero_le _, rfl, by rw [Plain.flT_zero]; rfl, by rw [Plain.flT_zero]; exact rowNil' _ _, Chg.refl _ _⟩
   case round =>
    obtain ⟨i, hi, rfl, rfl, hr7, hc⟩ := hrel
    have HR7 := Lib.hid hr7
    have HC := Lib.hid hc
    obtain ⟨ro, rc, rfl⟩ := hr7.shape
    have t0 := (cell_of_row _ _ 0 _ _ _ (hc.hp TH.out)).trans (show _ = some (Value.slice no ms.length nc) from rfl)
    obtain ⟨R, hR⟩ : ∃ R, Plain.flT Plain.old0 ms i 0 = R := ⟨_, rfl⟩
    have HRR := Lib.hid hR
    rw [hR] at HR7 ⊢
    obtain ⟨V, hV⟩ : ∃ V, (Plain.flT Plain.new0 ms i 0).length = V := ⟨_, rfl⟩
    have HVV := Lib.hid hV
    rw [hV]
    clear hr7 hc hR hV
    go_wp2_with fail
    refine (tlen_any pb _ ms.length nc _ t0).mono ?_
    rintro e w6 ⟨rfl, q6⟩
    rw [q6]
    clear q6
    by_cases hlt : i < ms.length
    ·have HKN := Lib.hid (HQ.out.kind i hlt)
     have hll := HS.out.2.2 i hlt
     have hp14 := HSM.out
     have hll2 : (Plain.nd0 ms i).l.length ≤ 1000 := by omega
     clear hll hp14
     go_wp2_with fail
     refine (tnode_any pb _ tvs ms w3.heap.size i _ t0 (TN.out.fresh HC.out) hlt hml (by omega)).mono ?_
     rintro e w7 ⟨nu, rfl, hrow, hc7⟩
     obtain ⟨uo, uc, rfl⟩ := hrow.shape
     obtain ⟨N, hN⟩ : ∃ N, Plain.nd0 ms i = N := ⟨_, rfl⟩
     have HNN := Lib.hid hN
     rw [hN] at hrow HKN hll2 ⊢
     have HCX := Lib.hid ((Chg.refl [] w7).alloc (.cells #[.int .i64 N.kind, .slice uo N.l.length uc] 26))
     have HBX := Lib.hid (heap_alloc_new w7 (.cells #[.int .i64 N.kind, .slice uo N.l.length uc] 26))
     have HRW := Lib.hid (hrow.fresh HCX.out)
     have HC7 := Lib.hid ((HC.out.tr hc7).tr HCX.out)
     have HR7b := Lib.hid ((HR7.out.chg hc7 (by simp)).chg HCX.out (by simp))
     have t0 := HCX.out.cel (hc7.cel t0)
     have hsz7 : w4.heap.size ≤ w7.heap.size := (HC.out.tr hc7).size
     have HS7 := Lib.hid hsz7
     clear hrow hc7 hN HC HR7 hsz7
     go_wp2_with fail
     obtain ⟨w8, hw8⟩ : ∃ x, w7.alloc (.cells #[.int .i64 N.kind, .slice uo N.l.length uc] 26) = x := ⟨_, rfl⟩
     obtain ⟨nb, hnb⟩ : ∃ n, w7.heap.size = n := ⟨_, rfl⟩
     rw [hnb] at HBX HS7
     try rw [hnb]
     rw [hw8] at HCX HBX HRW HC7 HR7b t0 ⊢
     clear hw8 hnb HCX
     refine (pkind_any _ N.l _ (by omega) HRW.out.lks).mono ?_
     rw [HKN.out.1]
     rintro e w9 ⟨rfl, hc9⟩
     have HC9 := Lib.hid (HC7.out.tr hc9)
     have HR9 := Lib.hid (HR7b.out.chg hc9 (by simp))
     have HRW9 := Lib.hid ((HRW.out.fresh hc9).base (Nat.zero_le _))
     have HB9 := Lib.hid (hc9.hp HBX.out)
     have t0 := hc9.cel t0
     have n0 := (cell_of_row _ _ 0 _ _ _ HB9.out).trans (show _ = some (Value.int .i64 N.kind) from rfl)
     have b4 : (N.kind == 4) = false := by simpa using HKN.out.2.1
     clear hc9 HC7 HR7b HRW HBX
     by_cases hk0 : N.kind = 0
     case' pos =>
      have b0 : (N.kind == 0) = true := by simpa using hk0
      have hl1 := HKN.out.2.2 hk0
      have hgt : decide ((1 : Int) < ms.length) = false := by rw [hl1]; rfl
      clear hk0 hl1
      go_wp2_with fail
      refine (tlen_any pb _ ms.length nc _ t0).mono ?_
      rintro e w10 ⟨rfl, q6⟩
      rw [q6]
      clear q6
      go_wp2_with fail
     case' neg =>
      have b0 : (N.kind == 0) = false := by simpa using hk0
      clear hk0
      go_wp2_with fail
     all_goals
      clear t0 n0 b0 b4 x0 x1 y0 y1
      go_loopw [7, 8, 14] (fun c7 c8 iv wr => ∃ j : Nat, j ≤ N.l.length ∧ iv = .int .i64 j ∧ c8 = .int .i64 ((Plain.flT Plain.new0 ms i j).length : Nat) ∧ RowAt wr w4.heap.size c7 (Plain.flT Plain.old0 ms i j) ∧ wr.heap[nb]? = some (.cells #[.int .i64 N.kind, .slice uo N.l.length uc] 26 (0, 0)) ∧ LkRow wr 0 (.slice uo N.l.length uc) N.l ∧ Chg [] w4 wr) (fun _ _ iv _ => N.l.length - (intOf iv).toNat)
      case atStart => exact ⟨0, Nat.zero_le _, rfl, by rw [HVV.out], by rw [HRR.out]; exact HR9.out, HB9.out, HRW9.out, HC9.out⟩
      case round =>
       obtain ⟨j, hj, rfl, rfl, hr7, hbx, hlk, hc⟩ := hrel
       have HA := Lib.hid hr7
       have HC := Lib.hid hc
       have HBX := Lib.hid hbx
       have HLK := Lib.hid hlk
       obtain ⟨xo1, xc1, rfl⟩ := hr7.shape
       obtain ⟨K1, hK1⟩ : ∃ K, Plain.flT Plain.old0 ms i j = K := ⟨_, rfl⟩
       obtain ⟨V1, hV1⟩ : ∃ K, (Plain.flT Plain.new0 ms i j).length = K := ⟨_, rfl⟩
       have hkl : K1.length ≤ 100000 := by rw [← hK1]; have := HT.out.old_len (j := j) hlt; have := HSM.out; omega
       have hvl : V1 ≤ 200000 := by rw [← hV1]; have := HT.out.new_len (j := j) hlt; omega
       have HK1 := Lib.hid hK1
       have HV1 := Lib.hid hV1
       rw [hK1] at HA ⊢
       rw [hV1]
       have n1 := (cell_of_row _ _ 1 _ _ _ hbx).trans (show _ = some (Value.slice uo N.l.length uc) from rfl)
       clear hr7 hc hbx hlk hK1 hV1
       by_cases hjl : j < N.l.length
       ·obtain ⟨lo', lc', el, -, hsm2, hcell⟩ := HLK.out.lks
        simp only [Value.slice.injEq] at el
        obtain ⟨rfl, -, rfl⟩ := el
        obtain ⟨lb, loff, rfl, q0, q1, q2⟩ := hcell j hjl
        have HI := Lib.hid (hsm2 j hjl)
        have HJ := Lib.hid (show j < (Plain.nd0 ms i).l.length by rw [HNN.out]; exact hjl)
        have HIN := Lib.hid (show Plain.at0 N.l j ∈ (Plain.nd0 ms i).l from by rw [HNN.out]; exact Plain.at0_mem hjl)
        have HO1 := Lib.hid (fun h => HT.out.old_new HND.out hlt HJ.out h)
        have HO2 := Lib.hid (fun h => HT.out.old_mem hlt HJ.out h)
        have HP1 := Lib.hid (fun h => Plain.flT_put (q := Plain.old0) HJ.out h)
        have HP2 := Lib.hid (fun h => Plain.flT_skip (q := Plain.old0) HJ.out h)
        have HP3 := Lib.hid (fun h => Plain.flT_put (q := Plain.new0) HJ.out h)
        have HP4 := Lib.hid (fun h => Plain.flT_skip (q := Plain.new0) HJ.out h)
        rw [HNN.out] at HO1 HO2 HP1 HP2 HP3 HP4
        rw [HK1.out] at HO1
        obtain ⟨L, hL⟩ : ∃ L, Plain.at0 N.l j = L := ⟨_, rfl⟩
        rw [hL] at q0 q1 q2 HI HIN HO1 HO2 HP1 HP2 HP3 HP4
        obtain ⟨La, Lb, Li⟩ := L
        dsimp only at q0 q1 q2 HI HO1 HO2 HP1 HP2 HP3 HP4
        have HBY := Lib.hid (heap_alloc_new wr (.cells #[.int .i64 La, .int .i64 Lb, .int .i64 Li] 50))
        have HCY := Lib.hid ((Chg.refl [] wr).alloc (.cells #[.int .i64 La, .int .i64 Lb, .int .i64 Li] 50))
        have HA2 := Lib.hid (HA.out.chg HCY.out (by simp))
        have HB2 := Lib.hid (HCY.out.hp HBX.out)
        have HL2 := Lib.hid (HLK.out.fresh HCY.out)
        have HC2 := Lib.hid (HC.out.tr HCY.out)
        have HS2 := Lib.hid (show w4.heap.size ≤ wr.heap.size from HC.out.size)
        obtain ⟨yb, hyb⟩ : ∃ n, wr.heap.size = n := ⟨_, rfl⟩
        rw [hyb] at HBY HS2
        have y0 := (cell_of_row _ _ 0 _ _ _ HBY.out).trans (show _ = some (Value.int .i64 La) from rfl)
        have y1 := (cell_of_row _ _ 1 _ _ _ HBY.out).trans (show _ = some (Value.int .i64 Lb) from rfl)
        have y2 := (cell_of_row _ _ 2 _ _ _ HBY.out).trans (show _ = some (Value.int .i64 Li) from rfl)
        have IL := HI.out.2.2
        clear hcell hsm2 hL
        by_cases hge : 0 ≤ Li
        ·have HM := Lib.hid (HO2.out hge)
         have HNI := Lib.hid (decide_eq_false (HO1.out hge))
         have HYI := Lib.hid (decide_eq_true HM.out)
         obtain ⟨-, e1, e2⟩ := Plain.linksP_mem (HQ.out.old i hlt _ HIN.out hge)
         obtain ⟨ei, rfl⟩ : ∃ ei : Nat, Li = (ei : Int) := ⟨Li.toNat, by omega⟩
         have hel : ei < g.e.length := by have := HEI.out _ HM.out; omega
         have hat := Plain.at_nat hel
         obtain ⟨eb, eoff, rfl, hc0, hc1⟩ := HCE.out ei hel
         dsimp only at e1 e2
         rw [hat] at e1 e2
         rw [← e1] at hc0
         rw [← e2] at hc1
         have HWW := Lib.hid (HCW4.out.tr HC2.out)
         have c0 := HWW.out.cel hc0
         have c1 := HWW.out.cel hc1
         obtain ⟨-, x1, -, z1, -⟩ := HBXS.out _ (HC4.out.tr HC2.out)
         have hei : (ei : Int) < g.e.length := by omega
         have II := IL
         clear hat hc0 hc1 e1 e2 IL
         go_wp2_with fail
         try rw [hyb]
         clear q0 q1 q2 n1 hyb
         generalize wr.alloc (.cells #[.int .i64 La, .int .i64 Lb, .int .i64 (ei : Int)] 50) = wx at *
         have hS0 : Chg [] wx wx.drew := (Chg.refl [] wx).drew
         refine wp_region_way (Chg [] wx) [0, 1, 2, 4, 5, 6, 7, 8, 10, 11, 12, 13, 14, 15, 16, 17, 18, 19, 20, 21, 22, 23, 25] (Way.line [0, 1, 2, 3, 4, 5, 6, 7, 8, 9, 10, 11, 12, 13, 14, 15, 16, 17, 18, 19, 20, 21, 22, 23, 24, 25] .done) (by kernel_rfl) (by kernel_rfl) ?_
         simp only [Way.line]
         repeat
          first
           | (refine along_off rfl (by rfl) (by rfl) (fun _ _ _ h => h) hS0 ?_; simp only [Act.put, Z1, Z2, Z3, Z4, Z5, Z6])
           | (refine along_read (v := ?_) rfl (by rfl) (by rfl) (fun _ _ _ h => h) hS0 (fun w' hS' => ?_) ?_; rotate_left; (focus (have rd0 := hS'.cell x1 (by simp); have rd1 := hS'.cell z1 (by simp); have rd2 := hS'.cell c0 (by simp); have rd3 := hS'.cell c1 (by simp); have rd4 := hS'.cell y0 (by simp); have rd5 := hS'.cell y1 (by simp); have rd6 := hS'.cell y2 (by simp); clear hS'; go_simp; try with_reducible rfl)); simp only [Act.put, Z1, Z2, Z3, Z4, Z5, Z6])
           | (refine along_skip rfl (by rfl) (by rfl) hS0 ?_; simp only [Act.put, Z1, Z2, Z3, Z4, Z5, Z6])
         refine along_op rfl (by rfl) (by rfl) (fun K hK => ?_)
         go_simp
         refine (in_any _ K1 (ei : Int) _ (HA2.out.ints.fresh hS0)).mono ?_
         rw [HNI.out]
         rintro e w11 ⟨rfl, hcx⟩
         have hS1 := hS0.trans hcx (by simp)
         clear hS0 hcx
         have hS0 := hS1
         clear hS1
         refine hK.out _ _ (fun _ => hS0) ?_
         clear hK K
         try simp only [Act.put, Z1, Z2, Z3, Z4, Z5, Z6]
         repeat
          first
           | (refine along_off rfl (by rfl) (by rfl) (fun _ _ _ h => h) hS0 ?_; simp only [Act.put, Z1, Z2, Z3, Z4, Z5, Z6])
           | (refine along_read (v := ?_) rfl (by rfl) (by rfl) (fun _ _ _ h => h) hS0 (fun w' hS' => ?_) ?_; rotate_left; (focus (have rd0 := hS'.cell x1 (by simp); have rd1 := hS'.cell z1 (by simp); have rd2 := hS'.cell c0 (by simp); have rd3 := hS'.cell c1 (by simp); have rd4 := hS'.cell y0 (by simp); have rd5 := hS'.cell y1 (by simp); have rd6 := hS'.cell y2 (by simp); clear hS'; go_simp; try with_reducible rfl)); simp only [Act.put, Z1, Z2, Z3, Z4, Z5, Z6])
           | (refine along_skip rfl (by rfl) (by rfl) hS0 ?_; simp only [Act.put, Z1, Z2, Z3, Z4, Z5, Z6])
         refine along_op rfl (by rfl) (by rfl) (fun K hK => ?_)
         go_simp
         refine (in_any _ p.e (ei : Int) _ (HP9.out.fresh (HWW.out.tr hS0))).mono ?_
         rw [HYI.out]
         rintro e w12 ⟨rfl, hcx⟩
         have hS1 := hS0.trans hcx (by simp)
         clear hS0 hcx
         have hS0 := hS1
         clear hS1
         refine hK.out _ _ (fun _ => hS0) ?_
         clear hK K
         try simp only [Act.put, Z1, Z2, Z3, Z4, Z5, Z6]
         repeat
          first
           | (refine along_off rfl (by rfl) (by rfl) (fun _ _ _ h => h) hS0 ?_; simp only [Act.put, Z1, Z2, Z3, Z4, Z5, Z6])
           | (refine along_read (v := ?_) rfl (by rfl) (by rfl) (fun _ _ _ h => h) hS0 (fun w' hS' => ?_) ?_; rotate_left; (focus (have rd0 := hS'.cell x1 (by simp); have rd1 := hS'.cell z1 (by simp); have rd2 := hS'.cell c0 (by simp); have rd3 := hS'.cell c1 (by simp); have rd4 := hS'.cell y0 (by simp); have rd5 := hS'.cell y1 (by simp); have rd6 := hS'.cell y2 (by simp); clear hS'; go_simp; try with_reducible rfl)); simp only [Act.put, Z1, Z2, Z3, Z4, Z5, Z6])
           | (refine along_skip rfl (by rfl) (by rfl) hS0 ?_; simp only [Act.put, Z1, Z2, Z3, Z4, Z5, Z6])
         refine along_op rfl (by rfl) (by rfl) (fun K hK => ?_)
         go_simp
         refine hK.out _ _ (fun _ => hS0) ?_
         clear hK K
         try simp only [Act.put, Z1, Z2, Z3, Z4, Z5, Z6]
         repeat
          first
           | (refine along_off rfl (by rfl) (by rfl) (fun _ _ _ h => h) hS0 ?_; simp only [Act.put, Z1, Z2, Z3, Z4, Z5, Z6])
           | (refine along_read (v := ?_) rfl (by rfl) (by rfl) (fun _ _ _ h => h) hS0 (fun w' hS' => ?_) ?_; rotate_left; (focus (have rd0 := hS'.cell x1 (by simp); have rd1 := hS'.cell z1 (by simp); have rd2 := hS'.cell c0 (by simp); have rd3 := hS'.cell c1 (by simp); have rd4 := hS'.cell y0 (by simp); have rd5 := hS'.cell y1 (by simp); have rd6 := hS'.cell y2 (by simp); clear hS'; go_simp; try with_reducible rfl)); simp only [Act.put, Z1, Z2, Z3, Z4, Z5, Z6])
           | (refine along_skip rfl (by rfl) (by rfl) hS0 ?_; simp only [Act.put, Z1, Z2, Z3, Z4, Z5, Z6])
         refine along_done ?_
         have HC9 := Lib.hid (HC2.out.tr hS0)
         have HA9 := Lib.hid (HA2.out.chg hS0 (by simp))
         have HB9' := Lib.hid (hS0.hp HB2.out)
         have HL9 := Lib.hid (HL2.out.fresh hS0)
         have y2 := hS0.cel y2
         have HPA := Lib.hid (HP1.out (by simp [Plain.old0]))
         have hll1 : K1.length < 4294967290 := by omega
         have HPB := Lib.hid (HP4.out (by simp [Plain.new0]))
         clear hS0 x1 z1 c0 c1 y0 y1
         go_wp2_with (at_builtin; refine wl_push rfl _ _ rfl (w0 := w12) (B := w4.heap.size) (v := .slice xo1 K1.length xc1) (l := K1) (k := (ei : Int)) rfl rfl HA9.out II HC9.out.size hll1 rfl ?_; intro v7 w7 r7 c7 f7; have R7 := Lib.hid r7; have C7 := Lib.hid c7; clear r7 c7 f7)
         go_roundw
         case rel =>
          refine ⟨j + 1, by omega, by go_num, by rw [HPB.out, HV1.out], ?_, ?_, ?_, HC9.out.trans C7.out fun b hb => Or.inr ?_⟩
          ·rw [HPA.out, HK1.out]; exact R7.out
          ·refine C7.out.heap HB9'.out fun q => ?_
           obtain ⟨cs2, r2, e2⟩ := row_kind HA9.out nb (by rw [HA9.out.foot]; exact q)
           rw [HB9'.out] at e2
           simp at e2
          ·exact HL9.out.chg C7.out fun b hb q => by
            obtain ⟨cs, r, e1⟩ := HL9.out.kind b hb
            obtain ⟨cs2, r2, e2⟩ := row_kind HA9.out b (by rw [HA9.out.foot]; exact q)
            rw [e1] at e2
            simp at e2
          exact (HA9.out.low b (by rw [← HA9.out.foot]; exact hb)).1
         case measure => simp [intOf]; omega
        have hn0 : Li < 0 := by omega
        have HML := Lib.hid (show Li ∈ Plain.idsL (Plain.nd0 ms i).l from List.mem_map.2 ⟨_, HIN.out, rfl⟩)
        obtain ⟨hm1, hm2, -, hm4, -⟩ := HT.out.mt hlt hn0 HML.out
        have HMV := Lib.hid (HT.out.mateV hlt hn0 HML.out)
        have HMM := Lib.hid (HQ.out.mate i hlt _ HIN.out hn0)
        rw [HNN.out] at HMM
        have hmll := HS.out.2.2 _ hm1
        have hp14 := HSM.out
        obtain ⟨mt, hmt⟩ : ∃ mt, Plain.mtM rs i Li = mt := ⟨_, rfl⟩
        dsimp only at HMM
        rw [hmt] at hm1 hm2 HMV HMM hmll
        have hrl : rs.length ≤ 1000 := by have := HS.out.2.1; omega
        have hmll2 : (Plain.nd0 ms mt).l.length ≤ 1000 := by omega
        have bmi : ((mt : Int) == (i : Int)) = false := beq_eq_false_iff_ne.2 (by omega)
        have HPA := Lib.hid (HP3.out (by simpa [Plain.new0] using hn0))
        have HPB := Lib.hid (HP2.out (by simpa [Plain.old0] using hn0))
        clear hmll hp14 hmt
        go_wp2_with fail
        try rw [hyb]
        clear q0 q1 q2 n1 hyb
        generalize wr.alloc (.cells #[.int .i64 La, .int .i64 Lb, .int .i64 Li] 50) = wx at *
        refine (tmate_at pb _ tev rs w3.heap.size i Li _ (HC2.out.hp TH.out) (owns_chg TR.out HC2.out (by simp)) hn0 hm4 (by omega)).mono ?_
        rw [HMV.out]
        rintro e w10 ⟨rfl, hc10⟩
        have HC10 := Lib.hid (HC2.out.tr hc10)
        have HX10 := Lib.hid hc10
        have t0 := (cell_of_row _ _ 0 _ _ _ (HC10.out.hp TH.out)).trans (show _ = some (Value.slice no ms.length nc) from rfl)
        clear hc10 hm4 y0 y1 y2
        go_wp2_with fail
        refine (tnode_any pb _ tvs ms w3.heap.size mt _ t0 (TN.out.fresh HC10.out) hm1 hml (by omega)).mono ?_
        rintro e w11 ⟨nu2, rfl, hrow2, hc11⟩
        obtain ⟨uo2, uc2, rfl⟩ := hrow2.shape
        obtain ⟨M, hM⟩ : ∃ M, Plain.nd0 ms mt = M := ⟨_, rfl⟩
        rw [hM] at hrow2 HMM hmll2 ⊢
        have HCZ := Lib.hid ((Chg.refl [] w11).alloc (.cells #[.int .i64 M.kind, .slice uo2 M.l.length uc2] 26))
        have HBZ := Lib.hid (heap_alloc_new w11 (.cells #[.int .i64 M.kind, .slice uo2 M.l.length uc2] 26))
        have HZ := Lib.hid ((HX10.out.tr hc11).tr HCZ.out)
        have HRZ := Lib.hid (hrow2.fresh HCZ.out)
        have n0 := (cell_of_row _ _ 0 _ _ _ (HZ.out.hp HB2.out)).trans (show _ = some (Value.int .i64 N.kind) from rfl)
        have m0 := (cell_of_row _ _ 0 _ _ _ HBZ.out).trans (show _ = some (Value.int .i64 M.kind) from rfl)
        have m1 := (cell_of_row _ _ 1 _ _ _ HBZ.out).trans (show _ = some (Value.slice uo2 M.l.length uc2) from rfl)
        have HYZ := Lib.hid (HZ.out.hp HBY.out)
        have y0 := (cell_of_row _ _ 0 _ _ _ HYZ.out).trans (show _ = some (Value.int .i64 La) from rfl)
        have y1 := (cell_of_row _ _ 1 _ _ _ HYZ.out).trans (show _ = some (Value.int .i64 Lb) from rfl)
        have y2 := (cell_of_row _ _ 2 _ _ _ HYZ.out).trans (show _ = some (Value.int .i64 Li) from rfl)
        have HD := Lib.hid (decide_eq_true HMM.out.1)
        have HEQ := Lib.hid HMM.out.2
        clear hrow2 hc11 hM hm2 t0
        by_cases hkk : M.kind = N.kind
        case' pos =>
         have bkk : (M.kind == N.kind) = true := by simpa using hkk
         have k1 : (N.kind == 1) = false := by simpa using fun q => HEQ.out ⟨hkk, Or.inl q⟩
         have k2 : (N.kind == 2) = false := by simpa using fun q => HEQ.out ⟨hkk, Or.inr q⟩
         clear hkk
        case' neg =>
         have bkk : (M.kind == N.kind) = false := by simpa using hkk
         clear hkk
        all_goals
         go_wp2_with fail
         refine (shared_any M.kind (.slice uo2 M.l.length uc2) M.l ⟨La, Lb, Li⟩ _ (by omega) HRZ.out.lks).mono ?_
         rw [HD.out]
         rintro e w14 ⟨rfl, hc14⟩
         have HW := Lib.hid (HZ.out.tr hc14)
         have HC14 := Lib.hid (HC2.out.tr HW.out)
         clear hc14
         go_wp2
         go_roundw
         case rel => exact ⟨j + 1, by omega, by go_num, by rw [HPA.out, List.length_append, HV1.out]; go_num, by rw [HPB.out, HK1.out]; exact HA2.out.chg HW.out (by simp), HW.out.hp HB2.out, HL2.out.fresh HW.out, HC14.out⟩
         case measure => simp [intOf]; omega
       have e : j = N.l.length := by omega
       subst e
       have e7 := Plain.flT_next (q := Plain.old0) (ms := ms) (i := i)
       have e8 := Plain.flT_next (q := Plain.new0) (ms := ms) (i := i)
       rw [HNN.out] at e7 e8
       have HE7 := Lib.hid (e7.symm.trans HK1.out)
       have HE8 := Lib.hid (show (Plain.flT Plain.new0 ms (i + 1) 0).length = V1 by rw [← e8]; exact HV1.out)
       clear e7 e8
       go_wp2_with fail
       go_roundw
       case rel => exact ⟨i + 1, by omega, by go_num, by rw [HE8.out], by rw [HE7.out]; exact HA.out, HC.out⟩
       case measure => simp [intOf]; omega
    have e : i = ms.length := by omega
    subst e
    have HRL := Lib.hid (show R.length = p.e.length by rw [← HRR.out]; exact HT.out.olds.length_eq)
    have hV2 : (V : Int) = 2 * ((ms.length : Int) - 1) := by have := HT.out.news; rw [HVV.out] at this; omega
    have hm1 : (ms.length : Int) ≤ 100000 := by omega
    have hll : ∀ i, i < ms.length → (Plain.nd0 ms i).l.length ≤ 100000 := fun i hi => by have := HS.out.2.2 i hi; have := HSM.out; omega
    rw [HRL.out]
    go_wp2_with fail
    refine (beyondAll_any pb _ tev tvs p.e ms rs w3.heap.size _ HT.out (HC.out.hp TH.out) (TN.out.fresh HC.out) (owns_chg TR.out HC.out (by simp)) hml (by have := HSM.out; omega) (by have := HS.out.2.1; have := HSM.out; omega) hll).mono ?_
    rintro e w7 ⟨rfl, hc7⟩
    have HC7 := Lib.hid (HC.out.tr hc7)
    have t0 := hc7.cel t0
    obtain ⟨-, -, -, z1, -⟩ := HBXS.out _ (HC4.out.tr HC7.out)
    clear hc7
    go_wp2_with fail
    refine (tlen_any pb _ ms.length nc _ t0).mono ?_
    rintro e w8 ⟨rfl, q6⟩
    rw [q6]
    clear q6
    go_wp2
    go_ret
    exact ⟨rfl, HCW4.out.tr HC7.out⟩
  have h1 := hno hne
  rw [h1]
  obtain ⟨er, her⟩ : ∃ er, Plain.newErr g p = er := ⟨_, rfl⟩
  rw [her] at hne ⊢
  have be : (er != 0) = true := by simpa using hne
  clear hno hyes h1 her
  go_wp2
  go_ret
  exact ⟨rfl, HCW4.out⟩
 rw [Bool.not_eq_true] at hsm
 rw [hsm]
 clear hsm
 go_wp2_with fail
 refine (awake15_any _).mono ?_
 rintro e w4 ⟨rfl, hc4⟩
 have HC4 := Lib.hid (HCW3.out.tr hc4)
 clear hc4
 go_wp2
 go_ret
 exact ⟨rfl, HC4.out⟩
end
end Go.Proofs.YtpcgklagmcnhaaaGreat
