/- What is left of a drawing is a drawing: the theorem. No program here. -/
import Derived.Test.YtckjpaimbmlboaaVGrps
namespace Go.Proofs.Ytckjpaimbmlboaa.Plain
theorem mark_lof {g : Gr} {p : Pt} {turn : List (List Int)} {W : List Face} (ll : List (List Int)) (hpe : p.err g = 0) (hW : WalksOk g p turn W) {f : Face} (hf : f ∈ W) {y : Int} (hy : y ∈ marks f) : lf (leftOf ll W) y = numOf ll f.1 := by
 obtain ⟨i, hi, hfi⟩ := List.getElem_of_mem hf
 have hp8 := places8_getD hi
 rw [show W.getD i (0, []) = f by simp [List.getD, hi, hfi]] at hp8
 unfold lf leftOf
 rw [regionAt_hit (places_nodup hpe hW) (by rw [places8_len]; exact hi) (by rw [hp8]; exact hy)]
 simp [List.getD, hi, hfi]
noncomputable def lof (g : Gr) (p : Pt) (turn same : List (List Int)) (x : Int) : Int := lf (leftOf (regionsOf g p turn same) (walksOf g p turn)) x
def RegR (g : Gr) (p : Pt) (turn same : List (List Int)) (x y : Int) : Prop := lof g p turn same x = lof g p turn same y
theorem RegR.eqv (g : Gr) (p : Pt) (turn same : List (List Int)) : Eqv (RegR g p turn same) := eqv_eq.comap _
section
variable {g : Gr} {p q : Pt} {turn same : List (List Int)}
theorem zero_ok (hz : planErr g p turn same = 0) : p.err g = 0 ∧ TurnsOk g p turn := turnErr_zero (flatErr_zero (planErr_zero hz).1).1
theorem mark_of (hpe : p.err g = 0) (ht : TurnsOk g p turn) {x : Int} (hx : x ∈ ground g p turn p.v) : ∃ f ∈ walksOf g p turn, x ∈ marks f := by
 have hW := walks_ok hpe ht
 obtain ⟨w1, w2⟩ := walk_rings hpe ht hW (Stretch.all (Pt.ok_of_err hpe))
 obtain ⟨c, hc, hxc⟩ := List.mem_flatten.1 (w2.mem_iff.2 hx)
 obtain ⟨f, hf, rfl⟩ := List.mem_map.1 hc
 exact ⟨f, (List.mem_filter.1 hf).1, hxc⟩
theorem marks_ground (hpe : p.err g = 0) (ht : TurnsOk g p turn) {f : Face} (hf : f ∈ walksOf g p turn) : marks f ∈ walksIn g (walksOf g p turn) p.v ∧ ∀ x ∈ marks f, x ∈ ground g p turn p.v := by
 have h := Pt.ok_of_err hpe
 have hW := walks_ok hpe ht
 obtain ⟨w1, w2⟩ := walk_rings hpe ht hW (Stretch.all h)
 have hm : marks f ∈ walksIn g (walksOf g p turn) p.v := List.mem_map.2 ⟨f, List.mem_filter.2 ⟨hf, decide_eq_true (corner_mem h hW.faces f hf)⟩, rfl⟩
 exact ⟨hm, fun x hx => w2.mem_iff.1 (List.mem_flatten.2 ⟨_, hm, hx⟩)⟩
theorem key_mark (hpe : p.err g = 0) (ht : TurnsOk g p turn) {f : Face} (hf : f ∈ walksOf g p turn) : f.1 ∈ marks f ∧ vert g f.1 = f.corner g := by
 have h := Pt.ok_of_err hpe
 have hW := walks_ok hpe ht
 match e : f.2 with
 | [] =>
  obtain ⟨v, hv, -, e1⟩ := lone_of hW.faces hf e
  refine ⟨by rw [marks_nil e]; simp, ?_⟩
  unfold Face.corner
  rw [e, e1, vert_lone (h.vr v hv).1]
  show v = -1 - (-1 - v)
  omega
 | d :: l =>
  have hk := hW.faces.key f hf d l e
  have hm : f.1 ∈ marks f := by rw [marks_some (by rw [e]; simp), e, hk]; simp
  refine ⟨hm, ?_⟩
  have hd : f.1 ∈ p.darts := by
   rcases (all_ground h).1 ((marks_ground hpe ht hf).2 _ hm) with q | ⟨v, hv, e2, e3⟩
   ·exact q
   exfalso
   have hl := lone_walk hW.faces hv e2
   have := key_face (walks_keys hpe hW) hf hl e3
   rw [this] at e
   cases e
  rw [vert_dart h hd]
  unfold Face.corner
  rw [e]
theorem lof_cls (hz : planErr g p turn same = 0) {f : Face} (hf : f ∈ walksOf g p turn) {y : Int} (hy : y ∈ marks f) : lof g p turn same y = cls g p turn same f := by
 obtain ⟨hpe, hto⟩ := zero_ok hz
 exact mark_lof _ hpe (walks_ok hpe hto) hf hy
theorem lof_in (hz : planErr g p turn same = 0) {x : Int} (hx : x ∈ ground g p turn p.v) : lof g p turn same x ∈ upTo (regionsOf g p turn same).length := by
 obtain ⟨hpe, hto⟩ := zero_ok hz
 obtain ⟨f, hf, hxf⟩ := mark_of hpe hto hx
 obtain ⟨i, hi, -, e⟩ := cls_has (parted hz (walks_ok hpe hto)) hf
 rw [lof_cls hz hf hxf, e, mem_upTo]
 omega
theorem lof_all (hz : planErr g p turn same = 0) {i : Nat} (hi : i < (regionsOf g p turn same).length) : ∃ f ∈ walksOf g p turn, cls g p turn same f = i := by
 obtain ⟨hpe, hto⟩ := zero_ok hz
 have hpt := parted hz (walks_ok hpe hto)
 have hg : (regionsOf g p turn same).getD i [] = (regionsOf g p turn same)[i] := by simp [List.getD, hi]
 have hne := hpt.ne _ ((regs_ok hpt).perm.mem_iff.1 (List.getElem_mem hi))
 rw [← hg] at hne
 obtain ⟨k, hk⟩ := List.exists_mem_of_ne_nil _ hne
 obtain ⟨f, hf, e, -⟩ := keysAt_mem.1 ((cls_keys hpt hi k).2 hk)
 exact ⟨f, hf, e⟩
theorem cnt_regs (hz : planErr g p turn same = 0) : cnt (RegR g p turn same) (ground g p turn p.v) = (regionsOf g p turn same).length := by
 obtain ⟨hpe, hto⟩ := zero_ok hz
 rw [cnt_via (RegR.eqv g p turn same) eqv_eq (L := upTo (regionsOf g p turn same).length) (lof g p turn same) (fun x hx => lof_in hz hx) (fun x _ y _ => Iff.rfl) (fun z hzz => ?_), cnt_id (upTo_nodup _)]
 ·simp [upTo]
 obtain ⟨h1, h2⟩ := mem_upTo.1 hzz
 obtain ⟨f, hf, e⟩ := lof_all hz (i := z.toNat) (by omega)
 have hm := key_mark hpe hto hf
 refine ⟨f.1, (marks_ground hpe hto hf).2 _ hm.1, ?_⟩
 rw [lof_cls hz hf hm.1, e]; omega
theorem regs_count (hz : planErr g p turn same = 0) (hne : p.v ≠ []) : (roots g p).length + (regionsOf g p turn same).length = (walksOf g p turn).length + 1 := by
 obtain ⟨hpe, hto⟩ := zero_ok hz
 have h := Pt.ok_of_err hpe
 have hW := walks_ok hpe hto
 have hpt := parted hz hW
 have hr : (roots g p).length ≠ 0 := by
  obtain ⟨v, hv⟩ := List.exists_mem_of_ne_nil _ hne
  obtain ⟨r, hr, -⟩ := root_of (g := g) (fun v hv => (h.vr v hv).1) hv
  have := List.length_pos_of_mem hr
  omega
 have h1 := (plan_tot hz).1 hr
 have h2 := (regs_ok hpt).perm.length_eq
 unfold allRegs at h2
 rw [List.length_append] at h2
 have h3 := singles_count hpt.keysNodup hpt.nodup hpt.keys
 omega
theorem piece_at (h : PartOk g p) {u : Int} (hu : u ∈ p.v) : pieceIx g p u < (roots g p).length ∧ u ∈ comp g p ((roots g p).getD (pieceIx g p u) 0) := by
 obtain ⟨r, hr, hc⟩ := root_of (g := g) (fun v hv => (h.vr v hv).1) hu
 obtain ⟨n, hn, e⟩ := List.getElem_of_mem hr
 have hg : (roots g p).getD n 0 = r := by simp [List.getD, hn, e]
 have hm : u ∈ comp g p ((roots g p).getD n 0) := by rw [hg]; exact mem_comp.2 ⟨hu, hc⟩
 have := pieceIx_eq h hn hm
 rw [this]
 exact ⟨hn, hm⟩
theorem piece_come (h : PartOk g p) {u v : Int} (hu : u ∈ p.v) (hv : v ∈ p.v) (e : pieceIx g p u = pieceIx g p v) : Come g p (-1) u v := by
 obtain ⟨n1, c1⟩ := piece_at h hu
 obtain ⟨-, c2⟩ := piece_at h hv
 rw [← e] at c2
 have hr : (roots g p).getD (pieceIx g p u) 0 ∈ p.v := (mem_roots.1 (getD_mem n1)).1
 have hne : (roots g p).getD (pieceIx g p u) 0 ≠ -1 := by have := (h.vr _ hr).1; omega
 exact ((mem_comp.1 c1).2.symm hne).2.trans (mem_comp.1 c2).2
theorem come_piece (h : PartOk g p) {u v : Int} (hu : u ∈ p.v) (hv : v ∈ p.v) (c : Come g p (-1) u v) : pieceIx g p u = pieceIx g p v := by
 obtain ⟨n1, c1⟩ := piece_at h hu
 exact (pieceIx_eq h n1 (mem_comp.2 ⟨hv, (mem_comp.1 c1).2.trans c⟩)).symm
theorem tot_start (hz : planErr g p turn same = 0) (J : Int → Int → Prop) (hJ : Eqv J) (h1 : ∀ x ∈ ground g p turn p.v, J x (bef g turn x)) (h2 : ∀ f ∈ p.e, J (2 * f) (2 * f + 1)) (h3 : ∀ x ∈ ground g p turn p.v, ∀ y ∈ ground g p turn p.v, RegR g p turn same x y → J x y) :
  ∀ x ∈ ground g p turn p.v, ∀ y ∈ ground g p turn p.v, J x y := by
 obtain ⟨hpe, hto⟩ := zero_ok hz
 have h := Pt.ok_of_err hpe
 have hW := walks_ok hpe hto
 have hpt := parted hz hW
 obtain ⟨b1, b2⟩ := bef_rings h hto (Stretch.all h)
 have hpiece : ∀ x ∈ ground g p turn p.v, ∀ y ∈ ground g p turn p.v, pieceIx g p (vert g x) = pieceIx g p (vert g y) → J x y := by
  intro x hx y hy e
  have c := piece_come h (ground_vert h (Stretch.all h) hx) (ground_vert h (Stretch.all h) hy) e
  exact come_gen (S := p.e) h (Stretch.all h) hJ (fun u hu w hw e => Same.least hJ b1 (fun w hw => h1 w (b2.mem_iff.1 hw)) (same_vert h hto (Stretch.all h) hu hw e)) (fun _ he => he) (fun e he _ => h2 e he) (Come.congr (p := p) (q := ⟨p.v, p.e⟩) rfl c) x hx rfl y hy rfl
 obtain ⟨P, hP⟩ : ∃ P : Int → Int, ∀ x, P x = (pieceIx g p (vert g x) : Int) := ⟨_, fun _ => rfl⟩
 have hpc : ∀ x ∈ ground g p turn p.v, ∀ y ∈ ground g p turn p.v, P x = P y → J x y := fun x hx y hy e => hpiece x hx y hy (by rw [hP, hP] at e; omega)
 let J' : Int → Int → Prop := fun a b => a = b ∨ ∃ x ∈ ground g p turn p.v, ∃ y ∈ ground g p turn p.v, P x = a ∧ P y = b ∧ J x y
 have hJ' : Eqv J' := by
  refine ⟨fun x => Or.inl rfl, fun {a b} k => ?_, fun {a b c} k m => ?_⟩
  ·rcases k with e | ⟨x, hx, y, hy, e1, e2, k⟩
   ·exact Or.inl e.symm
   exact Or.inr ⟨y, hy, x, hx, e2, e1, hJ.symm k⟩
  rcases k with e | ⟨x, hx, y, hy, e1, e2, k⟩
  ·rw [e]; exact m
  rcases m with e | ⟨u, hu, v, hv, e3, e4, m⟩
  ·rw [← e]; exact Or.inr ⟨x, hx, y, hy, e1, e2, k⟩
  exact Or.inr ⟨x, hx, v, hv, e1, e4, hJ.trans k (hJ.trans (hpc y hy u hu (e2.trans e3.symm)) m)⟩
 have htot := (plan_tot hz).2 J' hJ' (fun l hl k hk => by
  have hla : l ∈ regionsOf g p turn same := (regs_ok hpt).perm.mem_iff.2 (List.mem_append.2 (Or.inl hl))
  obtain ⟨i, hi, e⟩ := List.getElem_of_mem hla
  have hg : (regionsOf g p turn same).getD i [] = l := by simp [List.getD, hi, e]
  have face : ∀ y ∈ l, ∃ f ∈ walksOf g p turn, f.1 = y ∧ cls g p turn same f = i := by
   intro y hy
   obtain ⟨f, hf, e1, e2⟩ := keysAt_mem.1 ((cls_keys hpt hi y).2 (by rw [hg]; exact hy))
   exact ⟨f, hf, e2, e1⟩
  have h0 : l.getD 0 0 ∈ l := getD_mem (List.length_pos_of_mem hk)
  obtain ⟨f, hf, e1, e2⟩ := face _ h0
  obtain ⟨x, hx, e3, e4⟩ := face k hk
  rw [← e1, ← e3, own_corner hpe hto hf, own_corner hpe hto hx]
  obtain ⟨a1, a2⟩ := key_mark hpe hto hf
  obtain ⟨b1, b2⟩ := key_mark hpe hto hx
  refine Or.inr ⟨f.1, (marks_ground hpe hto hf).2 _ a1, x.1, (marks_ground hpe hto hx).2 _ b1, by rw [hP, a2], by rw [hP, b2], h3 _ ((marks_ground hpe hto hf).2 _ a1) _ ((marks_ground hpe hto hx).2 _ b1) ?_⟩
  show lof g p turn same f.1 = lof g p turn same x.1
  rw [lof_cls hz hf a1, lof_cls hz hx b1, e2, e4])
 intro x hx y hy
 have hin : ∀ x ∈ ground g p turn p.v, P x ∈ upTo (roots g p).length := fun x hx => by
  rw [mem_upTo, hP]
  have := (piece_at h (ground_vert h (Stretch.all h) hx)).1
  omega
 rcases htot _ (hin x hx) _ (hin y hy) with e | ⟨u, hu, v, hv, e1, e2, k⟩
 ·exact hpc x hx y hy e
 exact hJ.trans (hpc x hx u hu e1.symm) (hJ.trans k (hpc v hv y hy e2))
theorem cut_start (hz : planErr g p turn same = 0) (hne : p.v ≠ []) {S : List Int} (hS : S.Perm p.e) : Cut (bef g turn) (bRings turn p.v) (ground g p turn p.v) (RegR g p turn same) [] S := by
 obtain ⟨hpe, hto⟩ := zero_ok hz
 have h := Pt.ok_of_err hpe
 have hW := walks_ok hpe hto
 have hSn : S.Nodup := hS.nodup_iff.2 h.en
 have hsub : Subs g p p turn := ⟨hpe, hpe, hto, fun _ h => h, fun _ h => h⟩
 refine ⟨by simp, fun e he => edges_in h (Stretch.all h) (by rw [edges_all h]; exact hS.mem_iff.1 he), fun x hx => ?_, fun C hC hCK => ?_⟩
 ·show lof g p turn same x = lof g p turn same (bef g turn (tw S x))
  rcases (all_ground h).1 hx with hd | ⟨v, hv, -, rfl⟩
  ·rw [go_dart h hSn hd (hS.mem_iff.2 (mem_darts.1 hd))]
   unfold lof lf
   rw [(left_next _ hpe hW hd).1]
  rw [go_key hSn (fun e he => h.er e (hS.mem_iff.1 he)) (by have := (h.vr v hv).1; omega)]
 have htw : ∀ x, tw S x = tw p.e x := fun x => by
  rw [tw_eq hSn, tw_eq h.en]
  by_cases q : x / 2 ∈ p.e
  ·rw [if_pos q, if_pos (hS.mem_iff.2 q)]
  rw [if_neg q, if_neg (fun k => q (hS.mem_iff.1 k))]
 have hC2 : RingsOf g p p turn C := ⟨hC.congr fun x _ => by show bef g turn (tw S x) = bef g turn (tw p.e x); rw [htw], hCK⟩
 obtain ⟨w1, w2⟩ := walk_rings hpe hto hW (Stretch.all h)
 rw [edges_all h] at w1
 have hlen := Rings.count hC2.rings w1 (hCK.trans w2.symm)
 rw [walks_all h hW.faces] at hlen
 have hpc := cnt_pieces hsub
 have hdr := drop_len hsub
 have hE := Same.eqv (bef_rings h hto (Stretch.all h)).1.nodup
 have hgen : cnt (Gen (Same (bRings turn p.v)) S) (ground g p turn p.v) = cnt (Gen (Same (bRings turn p.v)) p.e) (ground g p turn p.v) :=
  cnt_congr (Gen.eqv hE S) (Gen.eqv hE p.e) fun x _ y _ => ⟨fun k => Gen.mono hE (fun e he => hS.mem_iff.1 he) k, fun k => Gen.mono hE (fun e he => hS.mem_iff.2 he) k⟩
 have hr := regs_count hz hne
 have heu := euler h hto hW.faces (flatErr_zero (planErr_zero hz).1).2
 have hreg : cnt (Gen (RegR g p turn same) []) (ground g p turn p.v) = (regionsOf g p turn same).length := cnt_regs hz
 rw [bRings_len, hgen, hpc, hreg, hS.length_eq]
 omega
theorem rings_cut {b : Int → Int} {K S : List Int} : ∀ {T : List Int}, (∀ e ∈ T, 2 * e ∈ K ∧ 2 * e + 1 ∈ K) → ∀ {C : List (List Int)}, Rings (fun x => b (tw (T ++ S) x)) C → C.flatten.Perm K → ∃ D, Rings (fun x => b (tw S x)) D ∧ D.flatten.Perm K
 | [], _, C, hC, hCK => ⟨C, hC, hCK⟩
 | e :: T, hT, C, hC, hCK => by
  obtain ⟨he1, he2⟩ := hT e (by simp)
  obtain ⟨D, hD, hDC, -⟩ := hC.swap2 (hCK.mem_iff.2 he1) (hCK.mem_iff.2 he2) (even_odd_ne e)
  refine rings_cut (T := T) (fun f hf => hT f (List.mem_cons_of_mem _ hf)) (C := D) (hD.congr fun x _ => ?_) (hDC.trans hCK)
  show b (tw (e :: (T ++ S)) (swp _ _ x)) = _
  rw [tw_swp]
def outE (p q : Pt) : List Int := p.e.filter fun e => decide (e ∉ q.e)
theorem out_perm (h : Subs g p q turn) : (outE p q ++ q.e).Perm p.e := by
 refine (List.perm_ext_iff_of_nodup ?_ h.pk.en).2 fun x => ?_
 ·rw [List.nodup_append]
  refine ⟨h.pk.en.filter _, h.qk.en, fun a ha b hb e => ?_⟩
  have := of_decide_eq_true (List.mem_filter.1 ha).2
  rw [e] at this
  exact this hb
 rw [List.mem_append]
 unfold outE
 rw [List.mem_filter, decide_eq_true_iff]
 constructor
 ·rintro (k | k)
  ·exact k.1
  exact h.sube x k
 intro k
 by_cases q : x ∈ q.e
 ·exact Or.inr q
 exact Or.inl ⟨k, q⟩
def GenR (g : Gr) (p q : Pt) (turn same : List (List Int)) : Int → Int → Prop := Gen (RegR g p turn same) ((outE p q).reverse ++ [])
theorem GenR.eqv : Eqv (GenR g p q turn same) := Gen.eqv (RegR.eqv g p turn same) _
theorem rest_cut (hz : planErr g p turn same = 0) (h : Subs g p q turn) (hne : p.v ≠ []) : Cut (bef g turn) (bRings turn p.v) (ground g p turn p.v) (RegR g p turn same) ((outE p q).reverse ++ []) q.e := by
 obtain ⟨b1, b2⟩ := bef_rings h.pk h.to_ (Stretch.all h.pk)
 exact Cut.all b1 b2 (RegR.eqv g p turn same) (A := p.e) (fun J hJ j1 j2 j3 => tot_start hz J hJ j1 j2 j3) (fun f hf => Or.inr ((out_perm h).mem_iff.2 hf)) (cut_start hz hne (out_perm h))
theorem rest_rings (h : Subs g p q turn) : ∃ C, RingsOf g p q turn C := by
 have hW := walks_ok h.pe h.to_
 obtain ⟨w1, w2⟩ := walk_rings h.pe h.to_ hW (Stretch.all h.pk)
 rw [edges_all h.pk] at w1
 have hpm := out_perm h
 have hn : (outE p q ++ q.e).Nodup := hpm.nodup_iff.2 h.pk.en
 obtain ⟨D, hD, hDK⟩ := rings_cut (b := bef g turn) (K := ground g p turn p.v) (S := q.e) (T := outE p q) (fun e he => edges_in h.pk (Stretch.all h.pk) (by rw [edges_all h.pk]; exact (List.mem_filter.1 he).1)) (C := walksIn g (walksOf g p turn) p.v) (w1.congr fun x _ => by
  show bef g turn (tw p.e x) = bef g turn (tw (outE p q ++ q.e) x)
  congr 1
  rw [tw_eq hn, tw_eq h.pk.en]
  by_cases k : x / 2 ∈ p.e
  ·rw [if_pos k, if_pos (hpm.mem_iff.2 k)]
  rw [if_neg k, if_neg (fun m => k (hpm.mem_iff.1 m))]) w2
 exact ⟨D, hD, hDK⟩
theorem gen_side {x y : Int} : GenR g p q turn same x y ↔ sideRel (leftOf (regionsOf g p turn same) (walksOf g p turn)) p (evens q.e) (lof g p turn same x) (lof g p turn same y) := by
 obtain ⟨L, hL⟩ : ∃ L, leftOf (regionsOf g p turn same) (walksOf g p turn) = L := ⟨_, rfl⟩
 have hlof : ∀ x, lof g p turn same x = lf L x := fun x => by unfold lof; rw [hL]
 have hR : Eqv (RegR g p turn same) := RegR.eqv g p turn same
 have hG := GenR.eqv (g := g) (p := p) (q := q) (turn := turn) (same := same)
 have hout : ∀ e, e ∈ (outE p q).reverse ++ [] ↔ e ∈ p.e ∧ e ∉ q.e := fun e => by
  rw [List.append_nil, List.mem_reverse]; unfold outE; rw [List.mem_filter, decide_eq_true_iff]
 rw [hL]
 constructor
 ·intro k
  refine Gen.least (R := RegR g p turn same) (Q := fun x y => sideRel L p (evens q.e) (lof g p turn same x) (lof g p turn same y)) ⟨fun x => St.rel_refl _ _, fun k => St.rel_symm k, fun k m => St.rel_trans k m⟩ (fun x y e => ?_) (fun e he => ?_) k
  ·have e : lof g p turn same x = lof g p turn same y := e
   show sideRel L p (evens q.e) _ _
   rw [e]; exact St.rel_refl _ _
  obtain ⟨h1, h2⟩ := (hout e).1 he
  show sideRel L p (evens q.e) (lof g p turn same _) (lof g p turn same _)
  rw [hlof, hlof]
  exact sideRel_edge h1 (by rw [evens_half]; exact h2)
 intro k
 have hb : ∀ {u v : Int}, lof g p turn same u = lof g p turn same v → GenR g p q turn same u v := fun e => Gen.base (R := RegR g p turn same) e _
 have := sideRel_least (R := fun a b => a = b ∨ ∃ u v, lof g p turn same u = a ∧ lof g p turn same v = b ∧ GenR g p q turn same u v) (fun _ => Or.inl rfl) (fun a b k => by
  rcases k with e | ⟨u, v, e1, e2, k⟩
  ·exact Or.inl e.symm
  ·exact Or.inr ⟨v, u, e2, e1, hG.symm k⟩) (fun a b c k m => by
  rcases k with e | ⟨u, v, e1, e2, k⟩
  ·rw [e]; exact m
  rcases m with e | ⟨u', v', e3, e4, m⟩
  ·rw [← e]; exact Or.inr ⟨u, v, e1, e2, k⟩
  exact Or.inr ⟨u, v', e1, e4, hG.trans k (hG.trans (hb (e2.trans e3.symm)) m)⟩) (fun e he hn => Or.inr ⟨2 * e, 2 * e + 1, hlof _, hlof _, Gen.edge hR ((hout e).2 ⟨he, by rw [evens_half] at hn; exact hn⟩)⟩) k
 rcases this with e | ⟨u, v, e1, e2, k⟩
 ·exact hb e
 exact hG.trans (hb e1.symm) (hG.trans k (hb e2))
theorem place_stand (hpe : p.err g = 0) (ht : TurnsOk g p turn) {f : Face} (hf : f ∈ walksOf g p turn) (turn0 : List (List Int)) : place turn0 f = stand turn0 f.1 := by
 have h := Pt.ok_of_err hpe
 have hW := walks_ok hpe ht
 unfold place stand
 by_cases e : f.2 = []
 ·obtain ⟨v, hv, -, e1⟩ := lone_of hW.faces hf e
  have := (h.vr v hv).1
  rw [if_pos e, if_pos (by omega)]
 have hm := (key_mark hpe ht hf).1
 rcases (all_ground h).1 ((marks_ground hpe ht hf).2 _ hm) with q | ⟨v, hv, e2, e3⟩
 ·rw [if_neg e, if_neg (by have := dart_pos h q; omega)]
 exfalso
 have hl := lone_walk hW.faces hv e2
 have := key_face (walks_keys hpe hW) hf hl e3
 rw [this] at e
 exact e rfl
theorem walk_beside (hz : planErr g p turn same = 0) (h : Subs g p q turn) (hne : p.v ≠ []) {k : Int} (hk : k ∈ ground g p turn p.v) (hkq : vert g k ∈ q.v) :
  ∃ f ∈ walksOf g q (restTurn q.e turn), GenR g p q turn same k (place turn f) ∧ ownAt g q (restTurn q.e turn) f.1 = (pieceIx g q (vert g k) : Int) := by
 obtain ⟨C, hC⟩ := rest_rings h
 have cut := rest_cut hz h hne
 obtain ⟨f, hf, hm⟩ := mark_of h.qe h.turns (lnd_mem h hk hkq)
 have hkm := key_mark h.qe h.turns hf
 refine ⟨f, hf, ?_, ?_⟩
 ·rw [place_stand h.qe h.turns hf]
  have s1 := same_out h hC hk
  have s2 := same_stand h hC (x := lnd g turn q.e k) (y := f.1) (Or.inr ⟨marks f, (marks_ground h.qe h.turns hf).1, hm, hkm.1⟩)
  exact Same.least (GenR.eqv (g := g) (p := p) (q := q) (turn := turn) (same := same)) hC.rings (fun w hw => cut.left w (hC.all.mem_iff.1 hw)) ((Same.eqv hC.rings.nodup).trans s1 s2)
 rw [own_corner h.qe h.turns hf]
 have hW := walks_ok h.qe h.turns
 have hv := lnd_vert h hk
 have hcm := corner_mem h.qk hW.faces f hf
 by_cases e : f.2 = []
 ·rw [marks_nil e] at hm
  have hm : lnd g turn q.e k = f.1 := by simpa using hm
  rw [← hv, hm, hkm.2]
 rw [marks_some e] at hm
 obtain ⟨n1, c1⟩ := piece_at h.qk hcm
 obtain ⟨d1, d2⟩ := walk_const h.qk h.turns hW.faces (comp_closed h.qk _) hf hm
 have h3 := d2.2 c1
 rw [← hv, vert_dart h.qk d1, pieceIx_eq h.qk n1 h3]
theorem walk_any (hz : planErr g p turn same = 0) (h : Subs g p q turn) (hqn : q.v ≠ []) {k : Int} (hk : k ∈ ground g p turn p.v) : ∃ f ∈ walksOf g q (restTurn q.e turn), GenR g p q turn same k (place turn f) := by
 have hne : p.v ≠ [] := by
  obtain ⟨v, hv⟩ := List.exists_mem_of_ne_nil _ hqn
  exact List.ne_nil_of_mem (h.subv v hv)
 have hG := GenR.eqv (g := g) (p := p) (q := q) (turn := turn) (same := same)
 have cut := rest_cut hz h hne
 by_cases hex : ∃ u ∈ ground g p turn p.v, vert g u ∈ q.v ∧ GenR g p q turn same k u
 ·obtain ⟨u, hu, huq, hku⟩ := hex
  obtain ⟨f, hf, h1, -⟩ := walk_beside hz h hne hu huq
  exact ⟨f, hf, hG.trans hku h1⟩
 exfalso
 have hno : ∀ u ∈ ground g p turn p.v, GenR g p q turn same k u → vert g u ∉ q.v := fun u hu hku hv => hex ⟨u, hu, hv, hku⟩
 have off : ∀ u ∈ ground g p turn p.v, vert g u ∉ q.v → GenR g p q turn same u (bef g turn u) := by
  intro u hu hv
  have hl := cut.left u hu
  rcases (all_ground h.pk).1 hu with hd | ⟨v, hv2, -, rfl⟩
  ·have hnq : u / 2 ∉ q.e := fun m => by
    have := (h.qk.tail_mem (mem_darts.2 m)).1
    rw [vert_dart h.pk hd] at hv
    exact hv this
   rw [go_off h.pk h.qk.en hd hnq] at hl
   have h0 := dart_pos h.pk hd
   unfold bef
   rw [if_neg (by omega)]
   exact hl
  unfold bef
  rw [if_pos (by have := (h.pk.vr v hv2).1; omega)]
  exact hG.refl _
 have hJ : Eqv fun u v => (GenR g p q turn same k u ↔ GenR g p q turn same k v) := ⟨fun _ => Iff.rfl, fun k => k.symm, fun k m => k.trans m⟩
 have ht := tot_start hz _ hJ (fun u hu => by
  have hvb := vert_bef h.pk h.to_ (Stretch.all h.pk) hu
  constructor
  ·intro m
   exact hG.trans m (off u hu (hno u hu m))
  ·intro m
   have hv := hno _ hvb.1 m
   rw [hvb.2] at hv
   exact hG.trans m (hG.symm (off u hu hv))) (fun f hf => by
  have hg2 := edges_in (turn := turn) h.pk (Stretch.all h.pk) (by rw [edges_all h.pk]; exact hf)
  by_cases hq : f ∈ q.e
  ·have d1 : 2 * f ∈ q.darts := mem_darts.2 (by rwa [show 2 * f / 2 = f by omega])
   have d2 : 2 * f + 1 ∈ q.darts := mem_darts.2 (by rwa [show (2 * f + 1) / 2 = f by omega])
   exact ⟨fun m => absurd (by rw [vert_dart h.qk d1]; exact (h.qk.tail_mem d1).1) (hno _ hg2.1 m), fun m => absurd (by rw [vert_dart h.qk d2]; exact (h.qk.tail_mem d2).1) (hno _ hg2.2 m)⟩
  ·have he : GenR g p q turn same (2 * f) (2 * f + 1) := Gen.edge (RegR.eqv g p turn same) (by
    rw [List.append_nil, List.mem_reverse]; exact List.mem_filter.2 ⟨hf, decide_eq_true hq⟩)
   exact ⟨fun m => hG.trans m he, fun m => hG.trans m (hG.symm he)⟩) (fun u hu v hv m => by
  have he : GenR g p q turn same u v := Gen.base m _
  exact ⟨fun m => hG.trans m he, fun m => hG.trans m (hG.symm he)⟩)
 obtain ⟨v, hv⟩ := List.exists_mem_of_ne_nil _ hqn
 obtain ⟨s1, s2⟩ := seat_mem h.pk h.to_ (h.subv v hv)
 exact hno _ s1 ((ht k hk _ s1).1 (hG.refl k)) (by rw [s2]; exact hv)
theorem rest_counts (hz : planErr g p turn same = 0) (h : Subs g p q turn) (hqn : q.v ≠ []) :
  q.v.length + (walksOf g q (restTurn q.e turn)).length = 2 * (roots g q).length + q.e.length ∧ (roots g q).length + cnt (GenR g p q turn same) (ground g p turn p.v) = (walksOf g q (restTurn q.e turn)).length + 1 := by
 have hne : p.v ≠ [] := by
  obtain ⟨v, hv⟩ := List.exists_mem_of_ne_nil _ hqn
  exact List.ne_nil_of_mem (h.subv v hv)
 obtain ⟨C, hC⟩ := rest_rings h
 obtain ⟨f1, f2⟩ := (rest_cut hz h hne).flat C hC.rings hC.all
 have h1 := cnt_walks h hC
 have h2 := cnt_pieces h
 have h3 := drop_len h
 rw [bRings_len] at f1
 have e : cnt (GenR g p q turn same) (ground g p turn p.v) = cnt (Gen (RegR g p turn same) ((outE p q).reverse ++ [])) (ground g p turn p.v) := rfl
 omega
end
end Go.Proofs.Ytckjpaimbmlboaa.Plain
namespace Go.Proofs.Ytckjpaimbmlboaa
open Go.RowKit Go.Maps
namespace Plain
end Plain
namespace Plain
theorem grps_lens {c : Face → Int} {W : List Face} : (grps c W).length ≤ W.length ∧ ∀ i, ((grps c W).getD i []).length ≤ W.length := by
 refine ⟨?_, fun i => ?_⟩
 ·unfold grps
  rw [List.length_map]
  exact List.length_filter_le _ _
 by_cases hi : i < (grps c W).length
 ·have hm : (grps c W).getD i [] ∈ grps c W := by
   have : (grps c W).getD i [] = (grps c W)[i] := by simp [List.getD, hi]
   rw [this]; exact List.getElem_mem hi
  obtain ⟨h, e, -⟩ := mem_grps.1 hm
  rw [e]
  unfold keysAt
  rw [List.length_map]
  exact List.length_filter_le _ _
 simp [List.getD, hi]
end Plain
end Go.Proofs.Ytckjpaimbmlboaa
