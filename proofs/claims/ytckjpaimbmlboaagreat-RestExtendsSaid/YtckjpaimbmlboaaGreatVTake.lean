/- package rota: the contract of take. Conditions: lists that lie in memory and read so. -/
import Derived.Test.YtckjpaimbmlboaaGreatVSetsB
namespace Go.Proofs.YtckjpaimbmlboaaGreat
open Go.RowKit Go.Maps
namespace Plain
def placeRow (f : Int → Option Int) (l : List Int) : Nat → Int → Option Int
 | 0 => f
 | k + 1 => fun y => if y = l.getD k 0 then some (k : Int) else placeRow f l k y
def places (T : List (List Int)) : Nat → Int → Option Int
 | 0 => fun _ => none
 | k + 1 => placeRow (places T k) (first (T.getD k [])) (first (T.getD k [])).length
def sumLen (T : List (List Int)) : Nat → Nat
 | 0 => 0
 | k + 1 => sumLen T k + (T.getD k []).length
theorem sumLen_mono (T : List (List Int)) {i j : Nat} (h : i ≤ j) : sumLen T i ≤ sumLen T j := by
 induction j with
 | zero => rw [Nat.le_zero.1 h]; exact Nat.le_refl _
 | succ j ih =>
  rcases Nat.lt_or_ge i (j + 1) with q | q
  ·exact Nat.le_trans (ih (by omega)) (Nat.le_add_right _ _)
  rw [Nat.le_antisymm h q]; exact Nat.le_refl _
theorem first_length (l : List Int) : (first l).length = l.length := by
 unfold first
 have := lst_le l l.length
 rw [List.length_append, List.length_drop, List.length_take]
 omega
theorem first_mem (l : List Int) (x : Int) : x ∈ first l ↔ x ∈ l := by
 unfold first
 rw [List.mem_append, or_comm, ← List.mem_append, List.take_append_drop]
end Plain
theorem CapOk.row {w : World} {B : Nat} {v : Value} {l : List Int} (h : RowAt w B v l) : CapOk v := by
 rcases h.1.2 with ⟨rfl, h0⟩ | ⟨g, cap, cur, rfl, _, _, h1, h2, _⟩
 ·exact ⟨_, _, _, rfl, Nat.le_refl _, by decide⟩
 exact ⟨_, _, _, rfl, h1, by unfold maxLen at h2; omega⟩
theorem RowsOwn.rowsAt {w : World} {B : Nat} {ov : Value} {vs : List Value} {ll : List (List Int)} (h : RowsOwn w B ov vs ll) (hi : ∀ l ∈ ll, (∀ x ∈ l, I64 x) ∧ l.length < 4294967296) (hn : ll.length ≤ 9223372036854775807) : RowsAt w ov ll := by
 obtain ⟨ao, cap, e⟩ := owns_shape h.out
 have hl := h.len
 refine ⟨ao, cap, by rw [e, hl], hn, fun i hi' => ?_⟩
 have hiv : i < vs.length := by omega
 obtain ⟨g, c, e2⟩ := owns_some h.out (by omega)
 have hm : ll.getD i [] ∈ ll := by simp [List.getD, hi']
 have hr : RowAt w B (vs.getD i undef) (ll.getD i []) := ⟨h.rows i hiv, (hi _ hm).1, (hi _ hm).2⟩
 rw [e] at e2
 simp only [Value.slice.injEq] at e2
 obtain ⟨rfl, -, -⟩ := e2
 refine ⟨g, 0, vs.getD i undef, rfl, ?_, CapOk.row hr, hr.ints⟩
 have hc := h.out.cells (g := g) (by rw [e]; rfl) i (vs.getD i undef) (by simp [List.getD, hiv])
 have hadd : (⟨g, 0, none⟩ : Addr).add i = ⟨g, 0 + i, none⟩ := by unfold Addr.add; split <;> simp_all
 rwa [hadd] at hc
theorem free_at {w : World} {b : Nat} {cs : Array Value} {t : TypeId} (h : w.heap[b]? = some (.cells cs t (0, 0))) (i : Nat) : w.frozen? ⟨b, i, none⟩ = false := by
 simp [World.frozen?, h]
theorem owns_other {w : World} {B : Nat} {v : Value} {n : Nat} {xs : List Value} {e t : TypeId} {sz b : Nat} {cs : Array Value} {r : Nat × Nat} (h : w.ownsRow B e sz v n xs) (hb : w.heap[b]? = some (.cells cs t r)) (he : e ≠ t) : v.ownBlock ≠ some b := by
 rcases h.2 with ⟨rfl, _⟩ | ⟨g, cap, cur, rfl, _, hg, _⟩
 ·simp [Value.ownBlock]
 intro e1
 simp [Value.ownBlock] at e1
 subst e1
 rw [hg] at hb
 simp at hb
 exact he hb.2.1
theorem owns_map {w : World} {B : Nat} {v : Value} {n : Nat} {xs : List Value} {e : TypeId} {sz b m : Nat} {f : Int → Option Int} (h : w.ownsRow B e sz v n xs) (hb : IMap w b m f) : v.ownBlock ≠ some b := by
 rcases h.2 with ⟨rfl, _⟩ | ⟨g, cap, cur, rfl, _, hg, _⟩
 ·simp [Value.ownBlock]
 intro e1
 simp [Value.ownBlock] at e1
 exact hb.ne hg e1
structure TakeAt (w0 w : World) (vd : Value) (lb : Nat) (R : List (List Int)) (pl : Int → Option Int) (N : Nat) : Prop where
 obj : ∃ tv vs, w.heap[w0.heap.size + 1]? = some (.cells #[tv, .map (some lb), .map (some w0.heap.size), vd] 127 (0, 0)) ∧ RowsOwn w w0.heap.size tv vs R
 place : IMap w w0.heap.size N pl
 ch : Chg [] w0 w
theorem TakeAt.row {w0 w w' : World} {vd v : Value} {lb g cap N n B c : Nat} {tto : Option Addr} {R : List (List Int)} {pl : Int → Option Int} {l : List Int} {vs : List Value} (h1 : w.heap[w0.heap.size + 1]? = some (.cells #[.slice tto n c, .map (some lb), .map (some w0.heap.size), vd] 127 (0, 0))) (h2 : RowsOwn w w0.heap.size (.slice tto n c) vs R) (h3 : IMap w w0.heap.size N pl) (h4 : Chg [] w0 w) (hB : w0.heap.size ≤ B)
  (hv : RowAt w B v l) (hlow : ∀ k b, k < vs.length → (vs.getD k undef).ownBlock = some b → b < B) (hn : w'.ownsRow w0.heap.size 25 1 (.slice (some ⟨g, 0, none⟩) (vs.length + 1) cap) (vs.length + 1) (vs ++ [v])) (hc : Chg (Value.slice tto n c).ownBlock.toList w w') :
  TakeAt w0 (w'.setCell ⟨w0.heap.size + 1, 0, none⟩ (.slice (some ⟨g, 0, none⟩) (vs.length + 1) cap)) vd lb (R ++ [l]) pl N := by
 have hno := owns_other h2.out h1 (by decide)
 have hnm : (Value.slice tto n c).ownBlock ≠ some w0.heap.size := owns_map h2.out h3
 have hb' := hc.heap h1 (by simpa using hno)
 have hadd := h2.add (owns_base hv.1 hB) (fun k b hk hb e => by have := hlow k b hk hb; have := (hv.low b (by rw [e]; simp)).1; omega) hn hc
 have hset : Chg [w0.heap.size + 1] w' (w'.setCell ⟨w0.heap.size + 1, 0, none⟩ (.slice (some ⟨g, 0, none⟩) (vs.length + 1) cap)) := (Chg.refl _ _).setCell (Or.inl (by simp)) _
 refine ⟨⟨_, _, heap_setCell_same hb' 0 _, hadd.chg hset (fun b hb e => ?_) (fun k b hk hb e => ?_)⟩, (h3.chg hc (by simpa using hnm)).chg hset (by simp), (h4.trans hc (fun j hj => Or.inr ?_)).trans hset (fun j hj => Or.inr (by simp at hj; omega))⟩
 ·simp at e; subst e
  exact owns_other hadd.out hb' (by decide) hb
 ·simp at e; subst e
  exact owns_other (hadd.rows k hk) hb' (by decide) hb
 exact (h2.out.lt j (by simpa using hj)).1
set_option maxRecDepth 100000 in
set_option maxHeartbeats 1000000 in
theorem take_any (vt vd : Value) (T : List (List Int)) (lv : Int → Option Int) (ds : List Int) (lb n : Nat) (w : World) (hTL : T.length < 2147483648) (hS : Plain.sumLen T T.length < 2147483648) (ht : RowsAt w vt T) (hl : NMap w lb n lv) (hd : IntsAt w vd ds) :
  Calls Tryz.prog 100 #[vt, .map (some lb), vd] w fun e w' => ∃ vt', e = .returned (.pointer (some ⟨w.heap.size + 1, 0, none⟩)) ∧ RotaAt w' (w.heap.size + 1) (T.map Plain.first) lv (Plain.places T T.length) ds vt' vd lb w.heap.size n (Plain.sumLen T T.length) ∧ Chg [] w w' := by
 have HT := lh ht
 have HSM := lh hS
 have HN := lh hl
 have HD := lh hd
 obtain ⟨dao, dcap, rfl, -, -, -⟩ := hd
 obtain ⟨tto, tc, rfl, -, htc⟩ := ht
 have HTC := lh htc
 have HLT := lh hl.lt
 have C0 := lh (((Chg.refl [] w).alloc (.map #[] 0)).alloc (.cells #[.slice none 0 0, .map (some lb), .map (some w.heap.size), .slice dao ds.length dcap] 127))
 have HT0 := lh (show TakeAt w ((w.alloc (.map #[] 0)).alloc (.cells #[.slice none 0 0, .map (some lb), .map (some w.heap.size), .slice dao ds.length dcap] 127)) (.slice dao ds.length dcap) lb [] (Plain.places T 0) 0 from
  ⟨⟨_, [], by simpa using heap_alloc_new (w.alloc (.map #[] 0)) (.cells #[.slice none 0 0, .map (some lb), .map (some w.heap.size), .slice dao ds.length dcap] 127), RowsOwn.nil _ _⟩, (IMap.made w).alloc _, C0.out⟩)
 clear htc hl hS
 go_enter Tryz.func100, Tryz.ntmps100
 have hmm := fun n w => run_makeMap_hint Tryz.underlying53 n w
 have hln := HN.out.len
 go_wp2
 clear hmm hln
 have hsz1 : w.heap.size + 2 = ((w.alloc (.map #[] 0)).alloc (.cells #[.slice none 0 0, .map (some lb), .map (some w.heap.size), .slice dao ds.length dcap] 127)).heap.size := by simp
 have HSZ := lh hsz1
 generalize hw1 : ((w.alloc (.map #[] 0)).alloc (.cells #[.slice none 0 0, .map (some lb), .map (some w.heap.size), .slice dao ds.length dcap] 127)) = w1 at *
 clear hw1 hsz1
 go_loopw [22] (fun c wr => ∃ k : Nat, k ≤ T.length ∧ c = .int .i64 k ∧ TakeAt w wr (.slice dao ds.length dcap) lb ((T.take k).map Plain.first) (Plain.places T k) (Plain.sumLen T k)) (fun c _ => T.length - (intOf c).toNat)
 case atStart => exact ⟨0, Nat.zero_le _, rfl, HT0.out⟩
 case round =>
  obtain ⟨k, hk, rfl, hrel⟩ := hrel
  have HR := lh hrel
  by_cases hlt : k < T.length
  ·obtain ⟨tb, toff, u, rfl, hu, hcap, hints⟩ := HTC.out k hlt
   have ck := hrel.ch.cell hu (by simp)
   have HIN := lh (hints.fresh hrel.ch)
   obtain ⟨uo, uc, rfl, hsm, hul, -⟩ := hints
   obtain ⟨⟨tv, vs, hb, hro⟩, hm, hch⟩ := hrel
   obtain ⟨tvo, tvc, rfl⟩ := owns_shape hro.out
   have HLOW := lh (show ∀ k b, k < vs.length → (vs.getD k undef).ownBlock = some b → b < wr.heap.size from fun k b hk hb => ((hro.rows k hk).lt b hb).2)
   have HB := lh hb
   have HRO := lh hro
   have HMM := lh hm
   have HCC := lh hch
   have HVL := lh (show vs.length = k by rw [hro.len, List.length_map, List.length_take]; omega)
   have HTL := lh hlt
   have hk1 : Plain.sumLen T (k + 1) = Plain.sumLen T k + (T.getD k []).length := rfl
   have hk2 := Plain.sumLen_mono T (show k + 1 ≤ T.length from hlt)
   have hkS := HSM.out
   have HL := lh (Plain.first_length (T.getD k []))
   have HI := lh (show ∀ x ∈ Plain.first (T.getD k []), I64 x from fun x hx => hsm x ((Plain.first_mem _ x).1 hx))
   have HLEN := lh (show (T.getD k []).length < 2147483648 by omega)
   have HPR := lh (show Plain.places T (k + 1) = Plain.placeRow (Plain.places T k) (Plain.first (T.getD k [])) (Plain.first (T.getD k [])).length from rfl)
   have HTK := lh (show (T.take (k + 1)).map Plain.first = (T.take k).map Plain.first ++ [Plain.first (T.getD k [])] by rw [List.take_succ_eq_append_getElem hlt, List.map_append]; simp [List.getD, hlt])
   have HSK := lh (show Plain.sumLen T (k + 1) = Plain.sumLen T k + (Plain.first (T.getD k [])).length by rw [HL.out]; rfl)
   have HNB := lh (show Plain.sumLen T k + (Plain.first (T.getD k [])).length < 2147483648 by rw [HL.out]; omega)
   have HBW := lh (show w.heap.size ≤ wr.heap.size from hch.size)
   clear hsm hul hu hk1 hk2 hkS hb hro hm hch hlt
   generalize T.getD k [] = l at *
   go_wp2_with fail
   refine (first_any _ l _ HLEN.out hcap HIN.out).mono ?_
   rintro e w2 ⟨v', rfl, hrow, hc2⟩
   have HB2 := lh (hc2.heap HB.out (by simp))
   have HRO2 := lh (HRO.out.chg hc2 (by simp) (by simp))
   have HM2 := lh (HMM.out.chg hc2 (by simp))
   have HC2 := lh (HCC.out.trans hc2 (by simp))
   have HROW := lh hrow
   obtain ⟨ro, rc, rfl⟩ := hrow.shape
   have HRI := lh hrow.ints
   clear hcap hrow hc2 ck
   generalize Plain.first l = L at *
   clear HL HIN HLEN
   have hLL : L.length < 2147483648 := by have := HNB.out; omega
   go_wp2
   go_loopw [30] (fun c wi => ∃ j : Nat, j ≤ L.length ∧ c = .int .i64 j ∧ IMap wi w.heap.size (Plain.sumLen T k + j) (Plain.placeRow (Plain.places T k) L j) ∧ Chg [w.heap.size] w2 wi) (fun c _ => L.length - (intOf c).toNat)
   case atStart => exact ⟨0, Nat.zero_le _, rfl, HM2.out, Chg.refl _ _⟩
   case round =>
    obtain ⟨j, hj, rfl, hm, hch⟩ := hrel
    have HM := lh hm
    have HCH := lh hch
    by_cases hltj : j < L.length
    ·obtain ⟨lo, lcap, hle, -, -, hlc⟩ := HRI.out
     simp only [Value.slice.injEq] at hle
     obtain ⟨rfl, -, rfl⟩ := hle
     obtain ⟨rb, roff, rfl, hcj⟩ := hlc (by intro e; rw [e] at hltj; simp at hltj)
     have cj := hch.cell (hcj j hltj) (by intro e; obtain ⟨cs, r, hh⟩ := row_kind HROW.out rb (by simp [foot, Value.ownBlock]); exact HM2.out.ne hh (by simpa using e))
     have c0 := (cell_of_row _ _ 2 _ _ _ (hch.heap HB2.out (by simp))).trans (show _ = some (Value.map (some w.heap.size)) from rfl)
     have IJ : I64 (j : Int) := I64.mk (by omega) (by have := HNB.out; omega)
     have IX := HI.out (L.getD j 0) (by simp [List.getD, hltj])
     have HPJ := lh (show Plain.placeRow (Plain.places T k) L (j + 1) = fun y => if y = L.getD j 0 then some (j : Int) else Plain.placeRow (Plain.places T k) L j y from rfl)
     have hmx : Plain.sumLen T k + j < maxLen := by have := HNB.out; unfold maxLen; omega
     clear hcj hlc hm hch
     generalize L.getD j 0 = x at *
     go_wp2_with (at_mapUpdate; refine wp_store _ rfl _ _ _ rfl HM.out hmx rfl IX IJ rfl rfl ?_; intro w3 m3 g3; have M3 := lh m3; have G3 := lh g3; clear m3 g3)
     go_roundw
     case rel => exact ⟨j + 1, by omega, by go_num, by rw [HPJ.out]; exact M3.out, HCH.out.grown G3.out (fun j hj => by cases hj; exact Or.inl (by simp))⟩
     case measure => simp [intOf]; omega
    have e : j = L.length := by omega
    subst e
    have HB3 := lh (hch.heap HB2.out (by simp))
    have HRO3 := lh (HRO2.out.chg hch (fun b hb e => by simp at e; subst e; exact owns_map HRO2.out.out HM2.out hb) (fun k b hk hb e => by simp at e; subst e; exact owns_map (HRO2.out.rows k hk) HM2.out hb))
    have HROW3 := lh (HROW.out.chg hch (fun b hb e => by obtain ⟨cs, r, hh⟩ := row_kind HROW.out b (by rw [HROW.out.foot]; exact hb); exact HM2.out.ne hh (by simpa using e)))
    have HC3 := lh (HC2.out.trans hch (fun j hj => Or.inr (by simp at hj; omega)))
    have c0 := (cell_of_row _ _ 0 _ _ _ (hch.heap HB2.out (by simp))).trans (show _ = some (Value.slice tvo vs.length tvc) from rfl)
    have hvl : vs.length < 68719476736 := by have := HVL.out; have := HTL.out; have := hTL; omega
    have HSB := lh (show w.heap.size ≤ wr.heap.size from HC3.out.size)
    have HNO := lh (show w.heap.size + 1 ∉ (Value.slice tvo vs.length tvc).ownBlock.toList from fun e => owns_other HRO3.out.out HB3.out (by decide) (by simpa using e))
    clear hm hch
    go_wp2_with (at_builtin; refine wp_app elemRow rfl (.tmp 46) (.tmp 48) rfl (v := .slice tvo vs.length tvc) rfl rfl rfl HRO3.out.out HSB.out rfl (oneSlice _ _ _) hvl ?_; intro g cap w4 r4 c4 l4; have R4 := lh r4; have C4 := lh c4; have b4 := c4.heap HB3.out HNO.out; have s4 := (cell_of_row _ _ 0 _ _ _ b4).trans (show _ = some (Value.slice tvo vs.length tvc) from rfl); have z4 : w4.frozen? ⟨w.heap.size + 1, 0, none⟩ = false := free_at b4 0; clear r4 c4 l4 b4)
    have HT5 := lh (HB3.out)
    have HT6 := lh (TakeAt.row HB3.out HRO3.out HM.out HC3.out HBW.out HROW3.out HLOW.out R4.out C4.out)
    rw [← HTK.out, ← HSK.out, ← HPR.out] at HT6
    go_roundw
    case rel => exact ⟨k + 1, by have := HTL.out; omega, by go_num, HT6.out⟩
    case measure => have := HTL.out; simp [intOf]; omega
  have e : k = T.length := by omega
  subst e
  clear hrel
  have HFIN := lh (show ∃ vt', RotaAt wr (w.heap.size + 1) (T.map Plain.first) lv (Plain.places T T.length) ds vt' (.slice dao ds.length dcap) lb w.heap.size n (Plain.sumLen T T.length) by
   obtain ⟨⟨tv, vs, hb, hro⟩, hm, hch⟩ := HR.out
   rw [List.take_length] at hro
   refine ⟨tv, hb, hro.rowsAt (fun l hl => ?_) (by rw [List.length_map]; omega), HN.out.imap.chg hch (by simp), hm, HD.out.fresh hch⟩
   obtain ⟨q, hq, rfl⟩ := List.mem_map.1 hl
   obtain ⟨i, hi, e⟩ := List.getElem_of_mem hq
   have hqi : T.getD i [] = q := by simp [List.getD, hi, e]
   obtain ⟨_, _, u, _, _, _, hints⟩ := HTC.out i hi
   rw [hqi] at hints
   obtain ⟨_, _, _, hsm, _, _⟩ := hints
   have h1 : Plain.sumLen T (i + 1) = Plain.sumLen T i + (T.getD i []).length := rfl
   have h2 := Plain.sumLen_mono T (show i + 1 ≤ T.length from hi)
   have h3 := HSM.out
   rw [hqi] at h1
   exact ⟨fun x hx => hsm x ((Plain.first_mem _ x).1 hx), by rw [Plain.first_length]; omega⟩)
  have HCF := lh (HR.out.ch)
  go_wp2
  go_ret
  obtain ⟨vt', h⟩ := HFIN.out
  exact ⟨vt', rfl, h, HCF.out⟩
end Go.Proofs.YtckjpaimbmlboaaGreat
namespace Go.Proofs.YtckjpaimbmlboaaGreat.Plain
theorem len_le_of_sub : ∀ {l m : List Int}, l.Nodup → (∀ x ∈ l, x ∈ m) → l.length ≤ m.length
 | [], _, _, _ => Nat.zero_le _
 | x :: l, m, h, hs => by
  rw [List.nodup_cons] at h
  obtain ⟨a, b, rfl⟩ := List.append_of_mem (hs x (by simp))
  have h2 := len_le_of_sub h.2 (m := a ++ b) (fun y hy => by
   have h3 := hs y (by simp [hy])
   have h4 : y ≠ x := fun e => h.1 (e ▸ hy)
   simp only [List.mem_append, List.mem_cons] at h3 ⊢
   rcases h3 with q | q | q
   ·exact Or.inl q
   ·exact absurd q h4
   exact Or.inr q)
  simp only [List.length_append, List.length_cons] at h2 ⊢
  omega
def seen (turn : List (List Int)) (k j : Nat) : List Int := (turn.take k).flatten ++ (turn.getD k []).take j
theorem take_snoc {l : List Int} {j : Nat} (hj : j < l.length) : l.take (j + 1) = l.take j ++ [l.getD j 0] := by
 rw [List.take_succ_eq_append_getElem hj]
 simp [List.getD, hj]
theorem nodup_flat {L : List (List Int)} : L.flatten.Nodup ↔ (∀ l ∈ L, l.Nodup) ∧ L.Pairwise fun a b => ∀ x ∈ a, ∀ y ∈ b, x ≠ y := List.pairwise_flatten
theorem seen_zero (turn : List (List Int)) : seen turn 0 0 = [] := by simp [seen]
theorem seen_next {turn : List (List Int)} {k j : Nat} (hj : j < (turn.getD k []).length) : seen turn k (j + 1) = seen turn k j ++ [(turn.getD k []).getD j 0] := by
 unfold seen
 rw [List.append_assoc, take_snoc hj]
theorem seen_row {turn : List (List Int)} {k : Nat} (hk : k < turn.length) : seen turn (k + 1) 0 = seen turn k (turn.getD k []).length := by
 unfold seen
 rw [List.take_succ_eq_append_getElem hk, List.take_zero, List.append_nil, List.flatten_append, List.take_length]
 simp [List.getD, hk]
theorem seen_all (turn : List (List Int)) : seen turn turn.length 0 = turn.flatten := by simp [seen]
structure Good (g : Gr) (p : Pt) (turn : List (List Int)) (k j : Nat) : Prop where
 nodup : (seen turn k j).Nodup
 rows : ∀ i, i < k → ∀ d ∈ turn.getD i [], d ∈ p.darts ∧ g.tail d = (i : Int)
 last : ∀ d ∈ (turn.getD k []).take j, d ∈ p.darts ∧ g.tail d = (k : Int)
theorem Good.start (g : Gr) (p : Pt) (turn : List (List Int)) : Good g p turn 0 0 := ⟨by rw [seen_zero]; exact List.nodup_nil, fun i hi => by omega, by simp⟩
theorem Good.next {g : Gr} {p : Pt} {turn : List (List Int)} {k j : Nat} (h : Good g p turn k j) (hj : j < (turn.getD k []).length) (hd : (turn.getD k []).getD j 0 ∈ p.darts) (ht : g.tail ((turn.getD k []).getD j 0) = (k : Int)) (hn : (turn.getD k []).getD j 0 ∉ seen turn k j) : Good g p turn k (j + 1) := by
 refine ⟨?_, h.rows, fun d hd' => ?_⟩
 ·rw [seen_next hj, List.nodup_append]
  exact ⟨h.nodup, by simp, fun a ha b hb e => by simp at hb; subst hb; subst e; exact hn ha⟩
 rw [take_snoc hj, List.mem_append] at hd'
 rcases hd' with q | q
 ·exact h.last d q
 have e : d = (turn.getD k []).getD j 0 := List.mem_singleton.1 q
 rw [e]; exact ⟨hd, ht⟩
theorem Good.row {g : Gr} {p : Pt} {turn : List (List Int)} {k : Nat} (h : Good g p turn k (turn.getD k []).length) (hk : k < turn.length) : Good g p turn (k + 1) 0 := by
 refine ⟨by rw [seen_row hk]; exact h.nodup, fun i hi d hd => ?_, by simp⟩
 by_cases e : i < k
 ·exact h.rows i e d hd
 obtain rfl : i = k := by omega
 exact h.last d (by rw [List.take_length]; exact hd)
theorem mem_turn {turn : List (List Int)} {v : Nat} {d : Int} (h : d ∈ turn.getD v []) : d ∈ turn.flatten := by
 by_cases hv : v < turn.length
 ·refine List.mem_flatten.2 ⟨turn.getD v [], ?_, h⟩
  simp [List.getD, hv]
 simp [List.getD, Nat.not_lt.1 hv] at h
theorem turn_of_mem {turn : List (List Int)} {d : Int} (h : d ∈ turn.flatten) : ∃ v, v < turn.length ∧ d ∈ turn.getD v [] := by
 obtain ⟨l, hl, hd⟩ := List.mem_flatten.1 h
 obtain ⟨i, hi, rfl⟩ := List.getElem_of_mem hl
 exact ⟨i, hi, by simpa [List.getD, hi] using hd⟩
theorem Good.turns {g : Gr} {p : Pt} {turn : List (List Int)} (_hp : PartOk g p) (hn : (turn.length : Int) = g.n) (h : Good g p turn turn.length 0) (hl : turn.flatten.length = 2 * p.e.length) : TurnsOk g p turn := by
 have hnd : turn.flatten.Nodup := by have := h.nodup; rwa [seen_all] at this
 have hsub : ∀ d ∈ turn.flatten, d ∈ p.darts := fun d hd => by
  obtain ⟨v, hv, hd⟩ := turn_of_mem hd
  exact (h.rows v hv d hd).1
 have hsup : ∀ d ∈ p.darts, d ∈ turn.flatten := fun d hd => by
  refine Classical.byContradiction fun hno => ?_
  have := len_le_of_sub (l := d :: turn.flatten) (m := p.darts) (by rw [List.nodup_cons]; exact ⟨hno, hnd⟩) (fun x hx => by
   rcases List.mem_cons.1 hx with q | q
   ·rw [q]; exact hd
   exact hsub x q)
  rw [List.length_cons, darts_length] at this
  omega
 refine ⟨hn, fun v => ?_, fun v hv0 hv1 d => ⟨fun hd => ?_, fun hd => ?_⟩⟩
 ·unfold turnAt
  by_cases hv : v.toNat < turn.length
  ·have : turn.getD v.toNat [] ∈ turn := by simp [List.getD, hv]
   exact (nodup_flat.1 hnd).1 _ this
  simp [List.getD, Nat.not_lt.1 hv]
 ·have := h.rows v.toNat (by omega) d hd
  refine ⟨this.1, by omega⟩
 obtain ⟨u, hu, hdu⟩ := turn_of_mem (hsup d hd.1)
 have := (h.rows u hu d hdu).2
 have e : u = v.toNat := by omega
 subst e
 exact hdu
theorem TurnsOk.row {g : Gr} {p : Pt} {turn : List (List Int)} (h : TurnsOk g p turn) {i : Nat} (hi : i < turn.length) {d : Int} (hd : d ∈ turn.getD i []) : d ∈ p.darts ∧ g.tail d = (i : Int) := by
 have := (h.mem (i : Int) (by omega) (by have := h.len; omega) d).1 (by unfold turnAt; simpa using hd)
 exact this
theorem TurnsOk.flat_nodup {g : Gr} {p : Pt} {turn : List (List Int)} (h : TurnsOk g p turn) : turn.flatten.Nodup := by
 rw [nodup_flat]
 refine ⟨fun l hl => ?_, ?_⟩
 ·obtain ⟨i, hi, rfl⟩ := List.getElem_of_mem hl
  have := h.nodup (i : Int)
  unfold turnAt at this
  simpa [List.getD, hi] using this
 rw [List.pairwise_iff_getElem]
 intro i j hi hj hij x hx y hy e
 subst e
 have h1 := (h.row hi (d := x) (by simpa [List.getD, hi] using hx)).2
 have h2 := (h.row hj (d := x) (by simpa [List.getD, hj] using hy)).2
 omega
theorem TurnsOk.flat_len {g : Gr} {p : Pt} {turn : List (List Int)} (hp : PartOk g p) (h : TurnsOk g p turn) : turn.flatten.length = 2 * p.e.length := by
 rw [← darts_length]
 refine Nat.le_antisymm (len_le_of_sub h.flat_nodup fun d hd => ?_) (len_le_of_sub (darts_nodup hp.en) fun d hd => ?_)
 ·obtain ⟨v, hv, hd⟩ := turn_of_mem hd
  exact (h.row hv hd).1
 have hv := hp.vr _ (hp.tail_mem hd).1
 have h1 : d ∈ turnAt turn (g.tail d) := (h.mem (g.tail d) hv.1 hv.2 d).2 ⟨hd, rfl⟩
 exact mem_turn h1
theorem seen_sub (turn : List (List Int)) (k j : Nat) : ∃ r, turn.flatten = seen turn k j ++ r := by
 by_cases hk : k < turn.length
 ·refine ⟨(turn.getD k []).drop j ++ (turn.drop (k + 1)).flatten, ?_⟩
  have e : turn = turn.take k ++ turn.getD k [] :: turn.drop (k + 1) := by
   have : turn.getD k [] = turn[k] := by simp [List.getD, hk]
   rw [this, List.getElem_cons_drop, List.take_append_drop]
  conv => lhs; rw [e]
  unfold seen
  rw [List.flatten_append, List.flatten_cons, List.append_assoc, ← List.append_assoc ((turn.getD k []).take j), List.take_append_drop]
 refine ⟨[], ?_⟩
 unfold seen
 rw [List.take_of_length_le (by omega)]
 simp [List.getD, Nat.not_lt.1 hk]
theorem TurnsOk.once {g : Gr} {p : Pt} {turn : List (List Int)} (h : TurnsOk g p turn) {k j : Nat} (hj : j < (turn.getD k []).length) : (turn.getD k []).getD j 0 ∉ seen turn k j := by
 intro hm
 obtain ⟨r, hr⟩ := seen_sub turn k (j + 1)
 have hn := h.flat_nodup
 rw [hr, seen_next hj, List.nodup_append] at hn
 have := hn.1
 rw [List.nodup_append] at this
 exact this.2.2 _ hm _ (by simp) rfl
open Classical in
noncomputable def turnErr (g : Gr) (p : Pt) (turn : List (List Int)) : Int := if p.err g ≠ 0 then p.err g else if TurnsOk g p turn then 0 else 5
theorem turnErr_part {g : Gr} {p : Pt} {turn : List (List Int)} (h : p.err g ≠ 0) : turnErr g p turn = p.err g := if_pos h
theorem turnErr_bad {g : Gr} {p : Pt} {turn : List (List Int)} (h : p.err g = 0) (ht : ¬ TurnsOk g p turn) : turnErr g p turn = 5 := by
 unfold turnErr; rw [if_neg (by simp [h]), if_neg ht]
theorem turnErr_ok {g : Gr} {p : Pt} {turn : List (List Int)} (h : p.err g = 0) (ht : TurnsOk g p turn) : turnErr g p turn = 0 := by
 unfold turnErr; rw [if_neg (by simp [h]), if_pos ht]
theorem turnErr_zero {g : Gr} {p : Pt} {turn : List (List Int)} (h : turnErr g p turn = 0) : p.err g = 0 ∧ TurnsOk g p turn := by
 by_cases h1 : p.err g = 0
 ·refine ⟨h1, Classical.byContradiction fun h2 => ?_⟩
  rw [turnErr_bad h1 h2] at h
  cases h
 rw [turnErr_part h1] at h; exact absurd h h1
def leavesOf (g : Gr) (p : Pt) (k : Nat) : Int → Option Int := fun d => if d ∈ Pt.darts ⟨[], p.e.take k⟩ then some (g.tail d) else none
theorem darts_take {p : Pt} {k : Nat} (hk : k < p.e.length) : Pt.darts ⟨[], p.e.take (k + 1)⟩ = Pt.darts ⟨[], p.e.take k⟩ ++ [2 * p.e.getD k 0, 2 * p.e.getD k 0 + 1] := by
 unfold Pt.darts
 rw [List.take_succ_eq_append_getElem hk, List.flatMap_append]
 simp [List.getD, hk]
theorem leavesOf_zero (g : Gr) (p : Pt) : leavesOf g p 0 = fun _ => none := by funext d; simp [leavesOf, Pt.darts]
theorem leavesOf_all (g : Gr) (p : Pt) : leavesOf g p p.e.length = fun d => if d ∈ p.darts then some (g.tail d) else none := by
 funext d; unfold leavesOf; rw [List.take_length]; rfl
theorem leavesOf_next {g : Gr} {p : Pt} {k e : Nat} (hk : k < p.e.length) (he : p.e.getD k 0 = (e : Int)) :
  leavesOf g p (k + 1) = fun y => if y = 2 * (e : Int) + 1 then some (g.ends e).2 else if y = 2 * (e : Int) then some (g.ends e).1 else leavesOf g p k y := by
 funext y
 unfold leavesOf
 rw [darts_take hk, he]
 have t0 : g.tail (2 * (e : Int)) = (g.ends e).1 := by unfold Gr.tail Gr.at; rw [if_pos (by omega)]; congr 2; omega
 have t1 : g.tail (2 * (e : Int) + 1) = (g.ends e).2 := by unfold Gr.tail Gr.at; rw [if_neg (by omega)]; congr 2; omega
 simp only [List.mem_append, List.mem_cons, List.not_mem_nil, or_false]
 by_cases h1 : y = 2 * (e : Int) + 1
 ·subst h1; simp [t1]
 by_cases h2 : y = 2 * (e : Int)
 ·subst h2; rw [if_neg h1, if_pos rfl, t0, if_pos (by simp)]
 simp [h1, h2]
theorem leavesOf_new {g : Gr} {p : Pt} (hp : p.e.Pairwise (· < ·)) {k : Nat} (hk : k < p.e.length) {d : Int} (hd : d / 2 = p.e.getD k 0) : leavesOf g p k d = none := by
 unfold leavesOf
 refine if_neg fun h => ?_
 rw [mem_darts, hd] at h
 obtain ⟨i, hi, e⟩ := List.getElem_of_mem h
 rw [List.length_take] at hi
 rw [List.getElem_take] at e
 have := List.pairwise_iff_getElem.1 hp i k (by omega) hk (by omega)
 rw [e] at this
 simp [List.getD, hk] at this
end Go.Proofs.YtckjpaimbmlboaaGreat.Plain
