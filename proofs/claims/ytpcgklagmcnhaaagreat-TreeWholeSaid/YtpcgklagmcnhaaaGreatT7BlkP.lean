/- The blocks that the search finds, as a list of parts. No program here. -/
import Derived.Test.YtpcgklagmcnhaaaGreatT7SkD
namespace Go.Proofs.YtpcgklagmcnhaaaGreat.Plain
theorem setB_all {P : List Int → Prop} {l : List Int} {bl : List (List Int)} (h : ∀ m ∈ bl, P m) (hl : P l) : ∀ m ∈ setB l bl, P m := fun m hm => by
 unfold setB at hm
 split at hm
 ·obtain ⟨k, hk, rfl⟩ := List.mem_map.1 hm
  split
  ·exact hl
  exact h k hk
 rcases List.mem_append.1 hm with q | q
 ·exact h m q
 rw [List.mem_singleton.1 q]; exact hl
def Rising (s : Dfs) : Prop := ∀ l ∈ s.bl, l.Pairwise (· ≤ ·)
theorem srt_rise (l : List Int) : (srt l).Pairwise (· ≤ ·) := by
 unfold srt
 have := List.pairwise_mergeSort (le := fun x y : Int => decide (x ≤ y)) (fun a b c h1 h2 => by grind) (fun a b => by grind) l
 grind
theorem Rising.take {s : Dfs} (h : Rising s) (e : Int) : Rising (s.take e) := setB_all h (srt_rise _)
theorem Rising.lay {s : Dfs} (h : Rising s) (e : Int) : Rising (s.lay e) := setB_all h (by simp)
theorem Rising.step {g : Gr} {go : Int → Int → Dfs → Dfs} (hgo : ∀ v via s, Rising s → Rising (go v via s)) {v via d : Int} {s : Dfs} (h : Rising s) : Rising (stepD go g v via s d) := by
 unfold stepD
 split
 ·exact h.lay _
 split
 ·exact h
 split
 ·have h1 : Rising (go (g.head d) (d / 2) (s.push (d / 2))) := hgo _ _ _ h
  unfold Dfs.back
  split
  ·exact Rising.take (s := Dfs.lower _ _ _) h1 _
  exact h1
 split
 ·exact h
 exact h
theorem Rising.visit {g : Gr} {p : Pt} : ∀ (n : Nat) (v via : Int) (s : Dfs), Rising s → Rising (visit g p n v via s)
 | 0, _, _, _, h => h
 | n + 1, v, via, s, h => by
  have hf : ∀ (D : List Int) (t : Dfs), Rising t → Rising (D.foldl (stepD (Plain.visit g p n) g v via) t) := by
   intro D
   induction D with
   | nil => intro t ht; exact ht
   | cons d D ih => intro t ht; exact ih _ (ht.step (Rising.visit n))
  exact hf _ _ h
theorem rising_all (g : Gr) (p : Pt) : Rising (findAll g p) := by
 have hf : ∀ (l : List Int) (t : Dfs), Rising t → Rising (findR g p p.v.length l t) := by
  intro l
  induction l with
  | nil => intro t ht; exact ht
  | cons v l ih =>
   all_goals grind [findR, Rising.visit]
 exact hf _ _ (by intro l h; cases h)
def headsB (bl : List (List Int)) : List Int := bl.map fun l => l.getD 0 0
def keysB (g : Gr) (p : Pt) : List Int := (headsB (findAll g p).bl).mergeSort fun x y => decide (x ≤ y)
def blAt (bl : List (List Int)) (r : Int) : List Int := (bl.find? fun l => decide (l.getD 0 0 = r)).getD []
theorem heads_nodup : ∀ {bl : List (List Int)}, bl.flatten.Nodup → (∀ l ∈ bl, l ≠ []) → (headsB bl).Nodup
 | [], _, _ => List.nodup_nil
 | l :: bl, h, hn => by
  rw [List.flatten_cons, List.nodup_append] at h
  show ((l.getD 0 0) :: headsB bl).Nodup
  rw [List.nodup_cons]
  refine ⟨fun q => ?_, heads_nodup h.2.1 fun m hm => hn m (List.mem_cons_of_mem _ hm)⟩
  obtain ⟨m, hm, e⟩ := List.mem_map.1 q
  have h1 : ∀ k : List Int, k ≠ [] → k.getD 0 0 ∈ k := fun k hk => by
   cases k with
   | nil => exact absurd rfl hk
   | cons x k => simp
  exact h.2.2 _ (h1 l (hn l (by simp))) _ (List.mem_flatten.2 ⟨m, hm, h1 m (hn m (List.mem_cons_of_mem _ hm))⟩) e.symm
theorem blAt_mem {bl : List (List Int)} {r : Int} (h : r ∈ headsB bl) : blAt bl r ∈ bl ∧ (blAt bl r).getD 0 0 = r := by
 obtain ⟨l, hl, e⟩ := List.mem_map.1 h
 unfold blAt
 cases hf : bl.find? fun l => decide (l.getD 0 0 = r) with
 | none =>
  grind
 | some m => exact ⟨List.mem_of_find?_eq_some hf, by grind⟩
theorem keysB_mem {g : Gr} {p : Pt} {r : Int} : r ∈ keysB g p ↔ r ∈ headsB (findAll g p).bl := (List.mergeSort_perm _ _).mem_iff
theorem keysB_len (g : Gr) (p : Pt) : (keysB g p).length = (findAll g p).bl.length := by
 unfold keysB
 rw [(List.mergeSort_perm _ _).length_eq]
 simp [headsB]
theorem bl_small {g : Gr} {p : Pt} (hp : PartOk g p) : (findAll g p).bl.length ≤ p.e.length ∧ ∀ l ∈ (findAll g p).bl, l.length ≤ p.e.length ∧ ∀ e ∈ l, e ∈ p.e := by
 obtain ⟨h1, -⟩ := find_ok hp
 have h2 := blocks_perm hp
 have h3 : ∀ {bl : List (List Int)}, (∀ l ∈ bl, l ≠ []) → bl.length ≤ bl.flatten.length := by
  intro bl
  induction bl with
  | nil => intro _; simp
  | cons l bl ih =>
   intro h
   have := ih fun m hm => h m (List.mem_cons_of_mem _ hm)
   have := List.length_pos_iff.2 (h l (by simp))
   grind
 refine ⟨by have := h3 h1.good.bln; rw [h2.length_eq] at this; exact this, fun l hl => ⟨?_, fun e he => h2.mem_iff.1 (List.mem_flatten.2 ⟨l, hl, he⟩)⟩⟩
 rw [← h2.length_eq]
 exact (List.sublist_flatten_of_mem hl).length_le
end Go.Proofs.YtpcgklagmcnhaaaGreat.Plain
namespace Go.Proofs.YtpcgklagmcnhaaaGreat
open Go.RowKit Go.Maps
namespace Plain
def blkV (g : Gr) (p : Pt) (r : Int) : List Int := (bspan g (blAt (findAll g p).bl r)).v
def blkE (g : Gr) (p : Pt) (r : Int) : List Int := blAt (findAll g p).bl r
end Plain
set_option maxRecDepth 100000 in
set_option maxHeartbeats 4000000 in
theorem blocks_any (vg vp : Value) (g : Plain.Gr) (p : Plain.Pt) (w : World) (hpl : p.v.length ≤ 100000) (hg : GrAt w vg g) (hp : PtAt w vp p) :
  Calls Tryz.prog 63 #[vg, vp] w fun e w' => ∃ ov, e = .returned (.tuple #[ov, .int .i64 (p.err g)]) ∧ (p.err g ≠ 0 → ov = .slice none 0 0) ∧
   (p.err g = 0 → ∃ xs, Nest w' w.heap.size 43 2 ov (Plain.keysB g p).length xs (pcs (Plain.blkV g p) (Plain.blkE g p) (Plain.keysB g p))) ∧ Chg [] w w' := by
 obtain ⟨eo, cap, ao, ac, bo, bc, rfl, rfl, HG, HP, hm, ham, hbm, HAC, HBC, HAS, HBS, HC1, HBXS⟩ := box_gp hg hp
 clear hg hp
 obtain ⟨x0, x1, y0, y1, hsz⟩ := HBXS.out _ (Chg.refl _ _)
 go_enter Tryz.func63, Tryz.ntmps63
 go_wp2_with fail
 obtain ⟨w1, hw1⟩ : ∃ w1, ((w.alloc (.cells #[.int .i64 g.n, .slice eo g.e.length cap] 41)).alloc (.cells #[.slice ao p.v.length ac, .slice bo p.e.length bc] 43)) = w1 := ⟨_, rfl⟩
 rw [hw1] at HC1 HBXS ⊢
 clear hw1 x0 x1 y0 y1 hsz
 refine (rightPart_any _ _ g p _ (by omega) (HG.out.fresh HC1.out) (HP.out.fresh HC1.out)).mono ?_
 rintro e w2 ⟨rfl, hc2⟩
 have HC2 := Lib.hid (HC1.out.tr hc2)
 have HCB := Lib.hid hc2
 obtain ⟨x0, x1, y0, y1, hsz⟩ := HBXS.out _ hc2
 clear hc2
 by_cases hr : p.err g = 0
 ·have HR := Lib.hid hr
  rw [hr]
  have HPO := Lib.hid (Plain.Pt.ok_of_err hr)
  have HGE := Lib.hid (Plain.Pt.err_ok hr).1
  obtain ⟨hz4, hz5, hz6, -⟩ := Plain.Gr.err_ok (Plain.Pt.err_ok hr).1
  have HEL := Lib.hid (show p.e.length ≤ 1024 by have := rises_len (Plain.Pt.err_ok hr).2.2.1; omega)
  obtain ⟨N, hN⟩ : ∃ N : Nat, g.n = N := ⟨g.n.toNat, by omega⟩
  have HN := Lib.hid hN
  clear hz4 hz5 hz6 hr hN
  go_wp2_with fail
  have hf := bfind_any _ _ g p w2 N HN.out HR.out (HG.out.fresh HC2.out) (HP.out.fresh HC2.out)
  have HFI := Lib.hid hf
  clear hf
  refine HFI.out.mono ?_
  rintro e w3 ⟨k, ev, m, F, rfl, -, hfin, hmm, hk, hkw, hko, hc3⟩
  have HFIN := Lib.hid hfin
  have HC3 := Lib.hid (HCB.out.tr hc3)
  obtain ⟨x0, x1, y0, y1, hsz⟩ := HBXS.out _ HC3.out
  obtain ⟨-, -, -, -, -, -, -, a7⟩ := hfin.eight
  have HTOP := Lib.hid (Plain.find_ok HPO.out).1
  have HML := Lib.hid (show m ≤ 100000 by omega)
  clear hfin hmm hko hk hc3 HFI
  have HIX := Lib.hid (show ∀ x, x ∈ Plain.headsB (Plain.findAll g p).bl ↔ I64 x ∧ (F x).isSome = true from fun x => by
   constructor
   ·intro hx
    obtain ⟨l, hl, rfl⟩ := List.mem_map.1 hx
    obtain ⟨v, h1, h2, -⟩ := HFIN.out.rel.1 l hl
    have hne := HTOP.out.good.bln l hl
    have hm : l.getD 0 0 ∈ l := by
     grind
    exact ⟨h2.2.1 _ hm, by grind⟩
   rintro ⟨-, hs⟩
   obtain ⟨v, hv⟩ := Option.isSome_iff_exists.1 hs
   obtain ⟨l, hl, e⟩ := HFIN.out.rel.2 x v hv
   exact List.mem_map.2 ⟨l, hl, e⟩)
  go_wp2_with fail
  refine (keys_any k.mp w3).mono ?_
  rintro e w4 ⟨rfl, rfl⟩
  have hso := sorted_any k.mp m F (Plain.headsB (Plain.findAll g p).bl) w3 HFIN.out.map (by have := HML.out; omega) (Plain.heads_nodup HTOP.out.nd HTOP.out.good.bln) HIX.out
  have HSO := Lib.hid hso
  clear hso x0 x1 y0 y1 hsz a7
  go_wp2_with fail
  refine HSO.out.mono ?_
  rintro e w5 ⟨v5, rfl, hr5, hc5⟩
  have hr5 : RowAt w5 w3.heap.size v5 (Plain.keysB g p) := hr5
  obtain ⟨o5, c5, rfl⟩ := hr5.shape
  have HR5 := Lib.hid hr5
  have HC5 := Lib.hid hc5
  have HKL := Lib.hid (show (Plain.keysB g p).length ≤ 1024 by rw [Plain.keysB_len]; have := (Plain.bl_small HPO.out).1; have := HEL.out; omega)
  clear hr5 hc5 HSO HIX
  obtain ⟨K, hK⟩ : ∃ K, Plain.keysB g p = K := ⟨_, rfl⟩
  have HK := Lib.hid hK
  rw [hK] at HR5 HKL ⊢
  clear hK
  have HB5 := Lib.hid (show w.heap.size ≤ w5.heap.size from ((HC1.out.tr HC3.out).tr HC5.out).size)
  go_wp2_with fail
  go_loopw [8, 10, 27] (fun ov _ iv wr => ∃ i : Nat, i ≤ K.length ∧ iv = .int .i64 i ∧ ∃ xs, Nest wr w5.heap.size 43 2 ov i xs (pcs (Plain.blkV g p) (Plain.blkE g p) (K.take i)) ∧ Chg [] w5 wr) (fun _ _ iv _ => K.length - (intOf iv).toNat)
  case atStart => exact ⟨0, Nat.zero_le _, rfl, [], Nest.nil _ _ _ _, Chg.refl _ _⟩
  case round =>
   obtain ⟨i, hi, rfl, xs, hne, hc⟩ := hrel
   have HNE := Lib.hid hne
   have HC := Lib.hid hc
   have HC35 := Lib.hid (HC5.out.tr hc)
   obtain ⟨x0, x1, y0, y1, hsz⟩ := HBXS.out wr (HC3.out.tr HC35.out)
   obtain ⟨uo, uc, rfl⟩ := hne.shape
   have hkl := HKL.out
   clear hne hc
   by_cases hlt : i < K.length
   ·obtain ⟨kb, rfl, hkc⟩ := HR5.out.some (by omega)
    have ck := HC.out.cel (hkc i hlt)
    have hrm : K.getD i 0 ∈ Plain.headsB (Plain.findAll g p).bl := by rw [← Plain.keysB_mem, HK.out]; exact Plain.getD_mem hlt
    have HTK := Lib.hid (show K.take (i + 1) = K.take i ++ [K.getD i 0] by rw [List.take_succ_eq_append_getElem hlt]; simp [List.getD, hlt])
    have hi64 : I64 (K.getD i 0) := HR5.out.2.1 _ (Plain.getD_mem hlt)
    obtain ⟨r, hr⟩ : ∃ r, K.getD i 0 = r := ⟨_, rfl⟩
    rw [hr] at ck hrm HTK hi64
    obtain ⟨hb1, hb2⟩ := Plain.blAt_mem hrm
    obtain ⟨v, hv1, hv2, -⟩ := HFIN.out.rel.1 _ hb1
    rw [hb2] at hv1
    have hbs := (Plain.bl_small HPO.out).2 _ hb1
    obtain ⟨L, hL⟩ : ∃ L, Plain.blAt (Plain.findAll g p).bl r = L := ⟨_, rfl⟩
    rw [hL] at hv2 hbs
    have HLE := Lib.hid (show Plain.blkE g p r = L from hL)
    have HLV := Lib.hid (show Plain.blkV g p r = (Plain.bspan g L).v by grind [Plain.blkV])
    have HLI := Lib.hid ((hv2.chg HC35.out (by simp)).ints)
    have HLS := Lib.hid hbs
    have hlook := (HFIN.out.map.chg HC35.out (by simp)).look_run hi64
    rw [hv1, Option.getD_some] at hlook
    obtain ⟨vo, vc, rfl⟩ := hv2.shape
    clear hkc hr hrm hb1 hb2 hv1 hv2 hbs hL
    go_wp2_with fail
    refine (bspan_any _ _ g L _ HGE.out (by have := HLS.out.1; have := HEL.out; omega) (fun e he => Plain.Pt.edge_in HR.out (HLS.out.2 e he)) (HG.out.fresh ((HC1.out.tr HC3.out).tr HC35.out)) HLI.out).mono ?_
    rintro e w6 ⟨v1, v2, rfl, h1, h2, hap, hc6⟩
    have HNE6 := Lib.hid (HNE.out.fresh hc6)
    have H1 := Lib.hid (h1.base HC.out.size)
    have H2 := Lib.hid (h2.base HC.out.size)
    have H1L := Lib.hid h1.low
    have H2L := Lib.hid h2.low
    have HAP := Lib.hid hap
    have HC6 := Lib.hid (HC.out.tr hc6)
    have HFT := Lib.hid (show foot v1 = v1.ownBlock.toList ∧ foot v2 = v2.ownBlock.toList from ⟨h1.foot, h2.foot⟩)
    obtain ⟨o1, c1, rfl⟩ := h1.shape
    obtain ⟨o2, c2, rfl⟩ := h2.shape
    have HSW := Lib.hid (show wr.heap.size ≤ w6.heap.size from hc6.size)
    have HON := Lib.hid (show ∀ u ∈ (#[Value.slice o1 (Plain.bspan g L).v.length c1, Value.slice o2 L.length c2] : Array Value).toList, u.oneCell' = true from fun u hu => by
     simp at hu
     rcases hu with rfl | rfl <;> rfl)
    have HI := Lib.hid (show i < 68719476736 by grind)
    clear h1 h2 hap hc6 x0 x1 y0 y1 hsz hlook ck
    go_wp2_with (at_builtin; refine wp_app elemPart rfl _ _ rfl (v := .slice uo i uc) rfl rfl rfl HNE6.out.out HC6.out.size rfl HON.out HI.out ?_; intro g4 cap4 w9 r9 c9 l9; have R9 := Lib.hid r9; have C9 := Lib.hid c9; clear r9 c9 l9)
    go_roundw
    case rel =>
     have hadd := HNE6.out.add (us := [.slice o1 (Plain.bspan g L).v.length c1, .slice o2 L.length c2]) (ds := [.row (Plain.bspan g L).v, .row L]) (by decide) rfl rfl (fun j d hj => by
      rcases j with _ | _ | j
      ·simp at hj; subst hj; exact H1.out
      ·simp at hj; subst hj; exact H2.out
      ·simp at hj) (fun a b ha hb hne => by
      have h12 : (Value.slice o1 (Plain.bspan g L).v.length c1).ownBlock = none ∨ (Value.slice o1 (Plain.bspan g L).v.length c1).ownBlock ≠ (Value.slice o2 L.length c2).ownBlock := by
       cases hq : (Value.slice o1 (Plain.bspan g L).v.length c1).ownBlock with
       | none => exact Or.inl rfl
       | some b => exact Or.inr fun e => HAP.out b (by rw [HFT.out.1, hq]; simp) (by rw [HFT.out.2, ← e]; simp)
      simp at ha hb
      rcases a with _ | _ | a
      ·rcases b with _ | _ | b
       ·exact absurd rfl hne
       ·exact h12
       omega
      ·rcases b with _ | _ | b
       ·cases hq : (Value.slice o2 L.length c2).ownBlock with
        | none => exact Or.inl hq
        | some b =>
         refine Or.inr fun e => ?_
         have e : (Value.slice o2 L.length c2).ownBlock = (Value.slice o1 (Plain.bspan g L).v.length c1).ownBlock := e
         exact HAP.out b (by rw [HFT.out.1, ← e, hq]; simp) (by rw [HFT.out.2, hq]; simp)
       ·exact absurd rfl hne
       omega
      ·omega) (fun a b q ha hb hq e => by
      have := (HNE.out.kind ha hq).2.1
      simp at hb
      rcases b with _ | _ | b
      ·have e : (Value.slice o1 (Plain.bspan g L).v.length c1).ownBlock = some q := e
       have := (H1L.out q (by rw [e]; simp)).1
       omega
      ·have e : (Value.slice o2 L.length c2).ownBlock = some q := e
       have := (H2L.out q (by rw [e]; simp)).1
       omega
      omega) R9.out C9.out
     refine ⟨i + 1, by omega, by go_num, _, by rw [HTK.out, pcs_snoc, HLE.out, HLV.out]; exact hadd, HC6.out.trans C9.out fun j hj => Or.inr (HNE6.out.out.lt j (by grind)).1⟩
    case measure => simp [intOf]; omega
   have e : i = K.length := by omega
   subst e
   rw [List.take_length] at HNE
   clear x0 x1 y0 y1 hsz hi hlt
   go_wp2
   refine bodyPost_ret (v := .tuple #[.slice uo K.length uc, .int .i64 0]) (by simp [results, Tryz.results63, go_sem]) rfl ?_
   exact ⟨_, by rw [HR.out], fun h => absurd HR.out h, fun _ => ⟨xs, by rw [HK.out]; exact HNE.out.base HB5.out⟩, (HC1.out.tr HC3.out).tr HC35.out⟩
 obtain ⟨er, her⟩ : ∃ er, p.err g = er := ⟨_, rfl⟩
 rw [her] at hr ⊢
 have HR := Lib.hid hr
 have HER := Lib.hid her
 have bz : (er != 0) = true := by simp only [bne_iff_ne]; exact hr
 clear hr her x0 x1 y0 y1 hsz
 go_wp2
 refine bodyPost_ret (v := .tuple #[.slice none 0 0, .int .i64 er]) (by simp [results, Tryz.results63, go_sem]) rfl ?_
 exact ⟨_, by rw [HER.out], fun _ => rfl, fun h => absurd (HER.out.symm.trans h) HR.out, HC2.out⟩
namespace Plain
noncomputable def solidB (g : Gr) (p : Pt) : Bool := @decide (p.err g = 0 ∧ SolidP g p) (Classical.propDecidable _)
theorem solidB_iff {g : Gr} {p : Pt} : solidB g p = true ↔ p.err g = 0 ∧ SolidP g p := by grind [solidB]
theorem endsL_mem {g : Gr} {E : List Int} {v : Int} : v ∈ endsL g E ↔ ∃ e ∈ E, (g.at e).1 = v ∨ (g.at e).2 = v := by
 all_goals grind [endsL]
theorem solid_one {g : Gr} {p : Pt} (h : p.err g = 0) : ((keysB g p).length = 1 ∧ blkV g p ((keysB g p).getD 0 0) = p.v ∧ blkE g p ((keysB g p).getD 0 0) = p.e) ↔ SolidP g p := by
 have hp := Pt.ok_of_err h
 obtain ⟨-, hv, he, -⟩ := Pt.err_ok h
 have hV : p.v.Pairwise (· < ·) := rises_pair hv
 have hE : p.e.Pairwise (· < ·) := rises_pair he
 rw [← one_block hp, keysB_len]
 refine and_congr_right fun h1 => ?_
 obtain ⟨l, hB⟩ := List.length_eq_one_iff.1 h1
 have hk : keysB g p = [l.getD 0 0] := by unfold keysB headsB; rw [hB]; simp
 have hbl : blkE g p (l.getD 0 0) = l := by unfold blkE blAt; rw [hB]; simp
 have hperm := blocks_perm hp
 rw [hB, List.flatten_cons, List.flatten_nil, List.append_nil] at hperm
 have hrise : l.Pairwise (· ≤ ·) := rising_all g p l (by grind)
 have hle : l = p.e := by
  have hn : l.Nodup := hperm.nodup_iff.2 hp.en
  have hlt : l.Pairwise (· < ·) := by
   have := hrise.and hn
   exact this.imp fun {a b} k => by obtain ⟨k1, k2⟩ := k; exact Int.lt_iff_le_and_ne.2 ⟨k1, k2⟩
  grind [rise_ext]
 have hvb : blkV g p (l.getD 0 0) = tidy (endsL g p.e) := by
  show tidy (endsL g (blkE g p (l.getD 0 0))) = _
  rw [hbl, hle]
 have h0 : (keysB g p).getD 0 0 = l.getD 0 0 := by rw [hk]; rfl
 rw [h0, hvb, hbl, hle]
 have hds : ∀ v, v ∈ endsL g p.e ↔ ∃ d ∈ p.darts, g.tail d = v := fun v => by
  rw [endsL_mem]
  constructor
  ·rintro ⟨e, he, q⟩
   have h2 := tail_even g e
   have hd : 2 * e ∈ p.darts := mem_darts.2 (by rwa [show 2 * e / 2 = e by omega])
   rcases q with q | q
   ·exact ⟨2 * e, hd, by rw [h2.1, q]⟩
   exact ⟨twin (2 * e), twin_mem hd, by rw [tail_twin, h2.2, q]⟩
  all_goals grind [mem_darts, dart_ats]
 constructor
 all_goals grind [tidy_ok, rise_ext, PartOk.tail_mem]
end Plain
set_option maxRecDepth 100000 in
set_option maxHeartbeats 4000000 in
theorem bsolid_any (vg vp : Value) (g : Plain.Gr) (p : Plain.Pt) (w : World) (hpl : p.v.length ≤ 100000) (hg : GrAt w vg g) (hp : PtAt w vp p) :
  Calls Tryz.prog 35 #[vg, vp] w fun e w' => e = .returned (.bool (Plain.solidB g p)) ∧ Chg [] w w' := by
 obtain ⟨eo, cap, ao, ac, bo, bc, rfl, rfl, HG, HP, hm, ham, hbm, HAC, HBC, HAS, HBS, HC1, HBXS⟩ := box_gp hg hp
 clear hg hp
 obtain ⟨x0, x1, y0, y1, hsz⟩ := HBXS.out _ (Chg.refl _ _)
 go_enter Tryz.func35, Tryz.ntmps35
 go_wp2_with fail
 obtain ⟨w1, hw1⟩ : ∃ w1, ((w.alloc (.cells #[.int .i64 g.n, .slice eo g.e.length cap] 41)).alloc (.cells #[.slice ao p.v.length ac, .slice bo p.e.length bc] 43)) = w1 := ⟨_, rfl⟩
 rw [hw1] at HC1 HBXS ⊢
 clear hw1 x0 x1 y0 y1 hsz
 refine (blocks_any _ _ g p _ hpl (HG.out.fresh HC1.out) (HP.out.fresh HC1.out)).mono ?_
 rintro e w2 ⟨ov, rfl, hno, hyes, hc2⟩
 have HC2 := Lib.hid (HC1.out.tr hc2)
 obtain ⟨x0, x1, y0, y1, hsz⟩ := HBXS.out _ hc2
 clear hc2
 by_cases hr : p.err g = 0
 ·obtain ⟨xs, hne⟩ := hyes hr
  have HNE := Lib.hid hne
  have HR := Lib.hid hr
  have HONE := Lib.hid (Plain.solid_one hr)
  obtain ⟨uo, uc, rfl⟩ := hne.shape
  obtain ⟨K, hK⟩ : ∃ K, Plain.keysB g p = K := ⟨_, rfl⟩
  rw [hr]
  rw [hK] at HNE HONE ⊢
  clear hne hno hyes hr hK
  by_cases h1 : K.length = 1
  ·obtain ⟨gb, gc, hgb⟩ := HNE.out.some (by omega)
   simp only [Value.slice.injEq] at hgb
   obtain ⟨rfl, -, -⟩ := hgb
   have c0 := HNE.out.cell (k := 0) (by rw [HNE.out.cells]; omega)
   have c1 := HNE.out.cell (k := 1) (by rw [HNE.out.cells]; omega)
   have r0 := HNE.out.row (pcs_even (Plain.blkV g p) (Plain.blkE g p) K 0 (by omega))
   have r1 := HNE.out.row (pcs_odd (Plain.blkV g p) (Plain.blkE g p) K 0 (by omega))
   obtain ⟨V, hV⟩ : ∃ V, Plain.blkV g p (K.getD 0 0) = V := ⟨_, rfl⟩
   obtain ⟨E, hE⟩ : ∃ E, Plain.blkE g p (K.getD 0 0) = E := ⟨_, rfl⟩
   rw [hV] at r0
   rw [hE] at r1
   rw [hV, hE] at HONE
   obtain ⟨u0, hu0⟩ : ∃ u0, xs.getD 0 undef = u0 := ⟨_, rfl⟩
   obtain ⟨u1, hu1⟩ : ∃ u1, xs.getD 1 undef = u1 := ⟨_, rfl⟩
   have r1' : RowAt w2 w1.heap.size (xs.getD 1 undef) E := r1
   have r0' : RowAt w2 w1.heap.size (xs.getD 0 undef) V := r0
   rw [hu0] at c0 r0'
   rw [hu1] at c1 r1'
   have HPT := Lib.hid (show PtAt w2 (.agg #[u0, u1]) ⟨V, E⟩ from ⟨u0, u1, rfl, r0'.ints, r1'.ints⟩)
   have HP2 := Lib.hid (HP.out.fresh HC2.out)
   have bl : ((K.length : Int) == 1) = true := by rw [h1]; rfl
   have hlt0 : 0 < K.length := by omega
   have HSB := Lib.hid (show Plain.solidB g p = (decide (V = p.v) && decide (E = p.e)) by
    rw [Bool.eq_iff_iff, Plain.solidB_iff, Bool.and_eq_true, decide_eq_true_iff, decide_eq_true_iff, ← HONE.out]
    exact ⟨fun k => k.2.2, fun k => ⟨HR.out, h1, k⟩⟩)
   have HL1 := Lib.hid h1
   clear r0 r1 r0' r1' hV hE hu0 hu1 x0 x1 h1 HNE
   go_wp2_with fail
   have hS0 : Chg [] w2 w2.drew := (Chg.refl [] w2).drew
   refine wp_region_way (Chg [] w2) [0, 1, 2, 3, 4, 5, 6, 7, 8, 9, 10, 11, 13, 14] (Way.line [0, 1, 2, 3, 4, 5, 6, 7, 8, 9, 10, 11, 12, 13, 14] .done) (by kernel_rfl) (by kernel_rfl) ?_
   simp only [Way.line]
   repeat (refine along_read (v := ?_) rfl (by rfl) (by rfl) (fun _ _ _ h => h) hS0 (fun w' hS' => ?_) ?_; rotate_left; (focus (have rd0 := hS'.cell c0 (by simp); have rd1 := hS'.cell c1 (by simp); have rd2 := hS'.cell y0 (by simp); have rd3 := hS'.cell y1 (by simp); clear hS'; go_simp; try with_reducible rfl)); simp only [Act.put, Z1, Z2, Z3, Z4, Z5, Z6])
   refine along_op rfl (by rfl) (by rfl) (fun K hK => ?_)
   go_simp
   refine (gsame_any _ _ ⟨V, E⟩ p _ (HPT.out.fresh hS0) (HP2.out.fresh hS0)).mono ?_
   rintro e w3 ⟨rfl, hcx⟩
   have hS1 := hS0.trans hcx (by simp)
   clear hS0 hcx
   have hS0 := hS1
   clear hS1
   refine hK.out _ _ (fun _ => hS0) ?_
   clear hK K
   try simp only
   repeat (refine along_read (v := ?_) rfl (by rfl) (by rfl) (fun _ _ _ h => h) hS0 (fun w' hS' => ?_) ?_; rotate_left; (focus (skip; clear hS'; go_simp; try with_reducible rfl)); simp only [Act.put, Z1, Z2, Z3, Z4, Z5, Z6])
   refine along_done ?_
   have HC3 := Lib.hid (HC2.out.tr hS0)
   clear hS0 c0 c1 y0 y1 hsz
   generalize w3 = w4 at *
   go_wp2
   go_ret
   exact ⟨ret_bool (by show _ = Plain.solidB g p; rw [HSB.out]), HC3.out⟩
  have bl : ((K.length : Int) == 1) = false := by rw [beq_eq_false_iff_ne]; omega
  have HSB := Lib.hid (show Plain.solidB g p = false by
   rw [Bool.eq_false_iff]
   intro k
   exact h1 (HONE.out.2 (Plain.solidB_iff.1 k).2).1)
  clear x0 x1 h1
  go_wp2_with fail
  have hS0 : Chg [] w2 w2.drew := (Chg.refl [] w2).drew
  refine wp_region_way (Chg [] w2) [0, 1, 2, 3, 4, 5, 6, 7, 8, 9, 10, 11, 13, 14] (Way.line [0, 1, 2, 3, 4, 5, 6, 7, 8, 9, 10, 11, 12, 13, 14] .done) (by kernel_rfl) (by kernel_rfl) ?_
  simp only [Way.line]
  repeat
   first
    | (refine along_off rfl (by rfl) (by rfl) (fun _ _ _ h => h) hS0 ?_; simp only [Act.put, Z1, Z2, Z3, Z4, Z5, Z6])
    | (refine along_read (v := ?_) rfl (by rfl) (by rfl) (fun _ _ _ h => h) hS0 (fun w' hS' => ?_) ?_; rotate_left; (focus (have rd0 := hS'.cell y0 (by simp); have rd1 := hS'.cell y1 (by simp); clear hS'; go_simp; try with_reducible rfl)); simp only [Act.put, Z1, Z2, Z3, Z4, Z5, Z6])
    | (refine along_skip rfl (by rfl) (by rfl) hS0 ?_; simp only [Act.put, Z1, Z2, Z3, Z4, Z5, Z6])
  refine along_done ?_
  have HC3 := Lib.hid (HC2.out.tr hS0)
  clear hS0 y0 y1 hsz
  generalize w2.drew = w4 at *
  go_wp2
  go_ret
  exact ⟨ret_bool (by show _ = Plain.solidB g p; rw [HSB.out]), HC3.out⟩
 have HSB := Lib.hid (show Plain.solidB g p = false by
  grind [Plain.solidB_iff])
 obtain rfl := hno hr
 obtain ⟨er, her⟩ : ∃ er, p.err g = er := ⟨_, rfl⟩
 rw [her] at hr ⊢
 have bz : (er == 0) = false := by rw [beq_eq_false_iff_ne]; exact hr
 clear hr her x0 x1 hno hyes
 go_wp2_with fail
 have hS0 : Chg [] w2 w2.drew := (Chg.refl [] w2).drew
 refine wp_region_way (Chg [] w2) [0, 1, 2, 3, 4, 5, 6, 7, 8, 9, 10, 11, 13, 14] (Way.line [0, 1, 2, 3, 4, 5, 6, 7, 8, 9, 10, 11, 12, 13, 14] .done) (by kernel_rfl) (by kernel_rfl) ?_
 simp only [Way.line]
 repeat
  first
   | (refine along_off rfl (by rfl) (by rfl) (fun _ _ _ h => h) hS0 ?_; simp only [Act.put, Z1, Z2, Z3, Z4, Z5, Z6])
   | (refine along_read (v := ?_) rfl (by rfl) (by rfl) (fun _ _ _ h => h) hS0 (fun w' hS' => ?_) ?_; rotate_left; (focus (have rd0 := hS'.cell y0 (by simp); have rd1 := hS'.cell y1 (by simp); clear hS'; go_simp; try with_reducible rfl)); simp only [Act.put, Z1, Z2, Z3, Z4, Z5, Z6])
   | (refine along_skip rfl (by rfl) (by rfl) hS0 ?_; simp only [Act.put, Z1, Z2, Z3, Z4, Z5, Z6])
 refine along_done ?_
 have HC3 := Lib.hid (HC2.out.tr hS0)
 clear hS0 y0 y1 hsz
 generalize w2.drew = w4 at *
 go_wp2
 go_ret
 exact ⟨ret_bool (by show _ = Plain.solidB g p; rw [HSB.out]), HC3.out⟩
end Go.Proofs.YtpcgklagmcnhaaaGreat
