/- package rota: the contract of take. Conditions: lists that lie in memory and read so. -/
import Derived.Test.YtfgbkpbakignhaaVRing
namespace Go.Proofs.Ytfgbkpbakignhaa
open Go.RowKit Go.Maps

namespace Plain
/-- A row's places. -/
def placeRow (f : Int → Option Int) (l : List Int) : Nat → Int → Option Int
  | 0 => f
  | k + 1 => fun y => if y = l.getD k 0 then some (k : Int) else placeRow f l k y
/-- The places in the first k turns, begun with their least darts. -/
def places (T : List (List Int)) : Nat → Int → Option Int
  | 0 => fun _ => none
  | k + 1 => placeRow (places T k) (first (T.getD k [])) (first (T.getD k [])).length
/-- How many things the first k rows have. -/
def sumLen (T : List (List Int)) : Nat → Nat
  | 0 => 0
  | k + 1 => sumLen T k + (T.getD k []).length
theorem sumLen_mono (T : List (List Int)) {i j : Nat} (h : i ≤ j) : sumLen T i ≤ sumLen T j := by
  induction j with
  | zero => rw [Nat.le_zero.1 h]; exact Nat.le_refl _
  | succ j ih =>
    rcases Nat.lt_or_ge i (j + 1) with q | q
    · exact Nat.le_trans (ih (by omega)) (Nat.le_add_right _ _)
    · rw [Nat.le_antisymm h q]; exact Nat.le_refl _
theorem first_length (l : List Int) : (first l).length = l.length := by
  unfold first
  have := lst_le l l.length
  rw [List.length_append, List.length_drop, List.length_take]
  omega
theorem first_mem (l : List Int) (x : Int) : x ∈ first l ↔ x ∈ l := by
  unfold first
  rw [List.mem_append, or_comm, ← List.mem_append, List.take_append_drop]
end Plain

theorem CapOk.row {w : World} {B : Nat} {v : Value} {l : List Int} (h : RowAt w B v l) : CapOk v := by
  rcases h.1.2 with ⟨rfl, h0⟩ | ⟨g, cap, cur, rfl, _, _, h1, h2, _⟩
  · exact ⟨_, _, _, rfl, Nat.le_refl _, by decide⟩
  · exact ⟨_, _, _, rfl, h1, by unfold maxLen at h2; omega⟩

/-- A [][]int of the call's own, read. -/
theorem RowsOwn.rowsAt {w : World} {B : Nat} {ov : Value} {vs : List Value} {ll : List (List Int)} (h : RowsOwn w B ov vs ll) (hi : ∀ l ∈ ll, (∀ x ∈ l, I64 x) ∧ l.length < 4294967296) (hn : ll.length ≤ 9223372036854775807) : RowsAt w ov ll := by
  obtain ⟨ao, cap, e⟩ := owns_shape h.out
  have hl := h.len
  refine ⟨ao, cap, by rw [e, hl], hn, fun i hi' => ?_⟩
  have hiv : i < vs.length := by omega
  obtain ⟨g, c, e2⟩ := owns_some h.out (by omega)
  have hm : ll.getD i [] ∈ ll := by simp [List.getD, hi']
  have hr : RowAt w B (vs.getD i undef) (ll.getD i []) := ⟨h.rows i hiv, (hi _ hm).1, (hi _ hm).2⟩
  rw [e] at e2
  simp only [Value.slice.injEq] at e2
  obtain ⟨rfl, -, -⟩ := e2
  refine ⟨g, 0, vs.getD i undef, rfl, ?_, CapOk.row hr, hr.ints⟩
  have hc := h.out.cells (g := g) (by rw [e]; rfl) i (vs.getD i undef) (by simp [List.getD, hiv])
  have hadd : (⟨g, 0, none⟩ : Addr).add i = ⟨g, 0 + i, none⟩ := by unfold Addr.add; split <;> simp_all
  rwa [hadd] at hc

theorem free_at {w : World} {b : Nat} {cs : Array Value} {t : TypeId} (h : w.heap[b]? = some (.cells cs t (0, 0))) (i : Nat) : w.frozen? ⟨b, i, none⟩ = false := by
  simp [World.frozen?, h]

/-- A block of another type is none of a row's. -/
theorem owns_other {w : World} {B : Nat} {v : Value} {n : Nat} {xs : List Value} {e t : TypeId} {sz b : Nat} {cs : Array Value} {r : Nat × Nat} (h : w.ownsRow B e sz v n xs) (hb : w.heap[b]? = some (.cells cs t r)) (he : e ≠ t) : v.ownBlock ≠ some b := by
  rcases h.2 with ⟨rfl, _⟩ | ⟨g, cap, cur, rfl, _, hg, _⟩
  · simp [Value.ownBlock]
  · intro e1
    simp [Value.ownBlock] at e1
    subst e1
    rw [hg] at hb
    simp at hb
    exact he hb.2.1

theorem owns_map {w : World} {B : Nat} {v : Value} {n : Nat} {xs : List Value} {e : TypeId} {sz b m : Nat} {f : Int → Option Int} (h : w.ownsRow B e sz v n xs) (hb : IMap w b m f) : v.ownBlock ≠ some b := by
  rcases h.2 with ⟨rfl, _⟩ | ⟨g, cap, cur, rfl, _, hg, _⟩
  · simp [Value.ownBlock]
  · intro e1
    simp [Value.ownBlock] at e1
    exact hb.ne hg e1

/-- What is under way in take: the new rota's block, its rows, its places. -/
structure TakeAt (w0 w : World) (vd : Value) (lb : Nat) (R : List (List Int)) (pl : Int → Option Int) (N : Nat) : Prop where
  obj : ∃ tv vs, w.heap[w0.heap.size + 1]? = some (.cells #[tv, .map (some lb), .map (some w0.heap.size), vd] 92 (0, 0)) ∧ RowsOwn w w0.heap.size tv vs R
  place : IMap w w0.heap.size N pl
  ch : Chg [] w0 w

theorem TakeAt.fresh {w0 w w' : World} {vd : Value} {lb : Nat} {R : List (List Int)} {pl : Int → Option Int} {N : Nat} (h : TakeAt w0 w vd lb R pl N) (hc : Chg [] w w') : TakeAt w0 w' vd lb R pl N := by
  obtain ⟨⟨tv, vs, h1, h2⟩, h3, h4⟩ := h
  exact ⟨⟨tv, vs, hc.heap h1 (by simp), h2.chg hc (by simp) (by simp)⟩, h3.chg hc (by simp), h4.trans hc (by simp)⟩

theorem TakeAt.put {w0 w w' : World} {vd : Value} {lb : Nat} {R : List (List Int)} {pl pl' : Int → Option Int} {N N' : Nat} (h : TakeAt w0 w vd lb R pl N) (hch : Chg [w0.heap.size] w w') (hm : IMap w' w0.heap.size N' pl') : TakeAt w0 w' vd lb R pl' N' := by
  obtain ⟨⟨tv, vs, h1, h2⟩, h3, h4⟩ := h
  exact ⟨⟨tv, vs, hch.heap h1 (by simp), h2.chg hch (fun b hb e => by simp at e; subst e; exact owns_map h2.out h3 hb) (fun k b hk hb e => by simp at e; subst e; exact owns_map (h2.rows k hk) h3 hb)⟩, hm, h4.trans hch (fun j hj => Or.inr (by simp at hj; omega))⟩

/-- A row more. -/
theorem TakeAt.row {w0 w w' : World} {vd v : Value} {lb g cap N n B c : Nat} {tto : Option Addr} {R : List (List Int)} {pl : Int → Option Int} {l : List Int} {vs : List Value} (h1 : w.heap[w0.heap.size + 1]? = some (.cells #[.slice tto n c, .map (some lb), .map (some w0.heap.size), vd] 92 (0, 0))) (h2 : RowsOwn w w0.heap.size (.slice tto n c) vs R) (h3 : IMap w w0.heap.size N pl) (h4 : Chg [] w0 w) (hB : w0.heap.size ≤ B)
    (hv : RowAt w B v l) (hlow : ∀ k b, k < vs.length → (vs.getD k undef).ownBlock = some b → b < B) (hn : w'.ownsRow w0.heap.size 25 1 (.slice (some ⟨g, 0, none⟩) (vs.length + 1) cap) (vs.length + 1) (vs ++ [v])) (hc : Chg (Value.slice tto n c).ownBlock.toList w w') :
    TakeAt w0 (w'.setCell ⟨w0.heap.size + 1, 0, none⟩ (.slice (some ⟨g, 0, none⟩) (vs.length + 1) cap)) vd lb (R ++ [l]) pl N := by
  have hno := owns_other h2.out h1 (by decide)
  have hnm : (Value.slice tto n c).ownBlock ≠ some w0.heap.size := owns_map h2.out h3
  have hb' := hc.heap h1 (by simpa using hno)
  have hadd := h2.add (owns_base hv.1 hB) (fun k b hk hb e => by have := hlow k b hk hb; have := (hv.low b (by rw [e]; simp)).1; omega) hn hc
  have hset : Chg [w0.heap.size + 1] w' (w'.setCell ⟨w0.heap.size + 1, 0, none⟩ (.slice (some ⟨g, 0, none⟩) (vs.length + 1) cap)) := (Chg.refl _ _).setCell (Or.inl (by simp)) _
  refine ⟨⟨_, _, heap_setCell_same hb' 0 _, hadd.chg hset (fun b hb e => ?_) (fun k b hk hb e => ?_)⟩, (h3.chg hc (by simpa using hnm)).chg hset (by simp), (h4.trans hc (fun j hj => Or.inr ?_)).trans hset (fun j hj => Or.inr (by simp at hj; omega))⟩
  · simp at e; subst e
    exact owns_other hadd.out hb' (by decide) hb
  · simp at e; subst e
    exact owns_other (hadd.rows k hk) hb' (by decide) hb
  · exact (h2.out.lt j (by simpa using hj)).1

set_option maxRecDepth 100000 in
set_option maxHeartbeats 1000000 in
theorem take_any (vt vd : Value) (T : List (List Int)) (lv : Int → Option Int) (ds : List Int) (lb n : Nat) (w : World) (hTL : T.length < 2147483648) (hS : Plain.sumLen T T.length < 2147483648) (ht : RowsAt w vt T) (hl : NMap w lb n lv) (hd : IntsAt w vd ds) :
    Calls Try.prog 48 #[vt, .map (some lb), vd] w fun e w' => ∃ vt', e = .returned (.pointer (some ⟨w.heap.size + 1, 0, none⟩)) ∧ RotaAt w' (w.heap.size + 1) (T.map Plain.first) lv (Plain.places T T.length) ds vt' vd lb w.heap.size n (Plain.sumLen T T.length) ∧ Chg [] w w' := by
  have HT := Lib.hid ht
  have HSM := Lib.hid hS
  have HN := Lib.hid hl
  have HD := Lib.hid hd
  obtain ⟨dao, dcap, rfl, -, -, -⟩ := hd
  obtain ⟨tto, tc, rfl, -, htc⟩ := ht
  have HTC := Lib.hid htc
  have HLT := Lib.hid hl.lt
  have C0 := Lib.hid (((Chg.refl [] w).alloc (.map #[] 0)).alloc (.cells #[.slice none 0 0, .map (some lb), .map (some w.heap.size), .slice dao ds.length dcap] 92))
  have HT0 := Lib.hid (show TakeAt w ((w.alloc (.map #[] 0)).alloc (.cells #[.slice none 0 0, .map (some lb), .map (some w.heap.size), .slice dao ds.length dcap] 92)) (.slice dao ds.length dcap) lb [] (Plain.places T 0) 0 from
    ⟨⟨_, [], by simpa using heap_alloc_new (w.alloc (.map #[] 0)) (.cells #[.slice none 0 0, .map (some lb), .map (some w.heap.size), .slice dao ds.length dcap] 92), RowsOwn.nil _ _⟩, (IMap.made w).alloc _, C0.out⟩)
  clear htc hl hS
  go_enter Try.func48, Try.ntmps48
  have hmm := fun n w => run_makeMap_hint Try.underlying33 n w
  have hln := HN.out.len
  go_wp2
  clear hmm hln
  have hsz1 : w.heap.size + 2 = ((w.alloc (.map #[] 0)).alloc (.cells #[.slice none 0 0, .map (some lb), .map (some w.heap.size), .slice dao ds.length dcap] 92)).heap.size := by simp
  have HSZ := Lib.hid hsz1
  generalize hw1 : ((w.alloc (.map #[] 0)).alloc (.cells #[.slice none 0 0, .map (some lb), .map (some w.heap.size), .slice dao ds.length dcap] 92)) = w1 at *
  clear hw1 hsz1

  go_loopw [22] (fun c wr => ∃ k : Nat, k ≤ T.length ∧ c = .int .i64 k ∧ TakeAt w wr (.slice dao ds.length dcap) lb ((T.take k).map Plain.first) (Plain.places T k) (Plain.sumLen T k)) (fun c _ => T.length - (intOf c).toNat)
  case atStart => exact ⟨0, Nat.zero_le _, rfl, HT0.out⟩
  case round =>
    obtain ⟨k, hk, rfl, hrel⟩ := hrel
    have HR := Lib.hid hrel
    by_cases hlt : k < T.length
    · obtain ⟨tb, toff, u, rfl, hu, hcap, hints⟩ := HTC.out k hlt
      have ck := hrel.ch.cell hu (by simp)
      have HIN := Lib.hid (hints.fresh hrel.ch)
      obtain ⟨uo, uc, rfl, hsm, hul, -⟩ := hints
      obtain ⟨⟨tv, vs, hb, hro⟩, hm, hch⟩ := hrel
      obtain ⟨tvo, tvc, rfl⟩ := owns_shape hro.out
      have HLOW := Lib.hid (show ∀ k b, k < vs.length → (vs.getD k undef).ownBlock = some b → b < wr.heap.size from fun k b hk hb => ((hro.rows k hk).lt b hb).2)
      have HB := Lib.hid hb
      have HRO := Lib.hid hro
      have HMM := Lib.hid hm
      have HCC := Lib.hid hch
      have HVL := Lib.hid (show vs.length = k by rw [hro.len, List.length_map, List.length_take]; omega)
      have HTL := Lib.hid hlt
      have hk1 : Plain.sumLen T (k + 1) = Plain.sumLen T k + (T.getD k []).length := rfl
      have hk2 := Plain.sumLen_mono T (show k + 1 ≤ T.length from hlt)
      have hkS := HSM.out
      have HL := Lib.hid (Plain.first_length (T.getD k []))
      have HI := Lib.hid (show ∀ x ∈ Plain.first (T.getD k []), I64 x from fun x hx => hsm x ((Plain.first_mem _ x).1 hx))
      have HLEN := Lib.hid (show (T.getD k []).length < 2147483648 by omega)
      have HPR := Lib.hid (show Plain.places T (k + 1) = Plain.placeRow (Plain.places T k) (Plain.first (T.getD k [])) (Plain.first (T.getD k [])).length from rfl)
      have HTK := Lib.hid (show (T.take (k + 1)).map Plain.first = (T.take k).map Plain.first ++ [Plain.first (T.getD k [])] by rw [List.take_succ_eq_append_getElem hlt, List.map_append]; simp [List.getD, hlt])
      have HSK := Lib.hid (show Plain.sumLen T (k + 1) = Plain.sumLen T k + (Plain.first (T.getD k [])).length by rw [HL.out]; rfl)
      have HNB := Lib.hid (show Plain.sumLen T k + (Plain.first (T.getD k [])).length < 2147483648 by rw [HL.out]; omega)
      have HBW := Lib.hid (show w.heap.size ≤ wr.heap.size from hch.size)
      clear hsm hul hu hk1 hk2 hkS hb hro hm hch hlt
      generalize T.getD k [] = l at *
      go_wp2_with fail
      refine (first_any _ l _ HLEN.out hcap HIN.out).mono ?_
      rintro e w2 ⟨v', rfl, hrow, hc2⟩
      have HB2 := Lib.hid (hc2.heap HB.out (by simp))
      have HRO2 := Lib.hid (HRO.out.chg hc2 (by simp) (by simp))
      have HM2 := Lib.hid (HMM.out.chg hc2 (by simp))
      have HC2 := Lib.hid (HCC.out.trans hc2 (by simp))
      have HROW := Lib.hid hrow
      obtain ⟨ro, rc, rfl⟩ := hrow.shape
      have HRI := Lib.hid hrow.ints
      clear hcap hrow hc2 ck
      generalize Plain.first l = L at *
      clear HL HIN HLEN
      have hLL : L.length < 2147483648 := by have := HNB.out; omega
      go_wp2
      go_loopw [30] (fun c wi => ∃ j : Nat, j ≤ L.length ∧ c = .int .i64 j ∧ IMap wi w.heap.size (Plain.sumLen T k + j) (Plain.placeRow (Plain.places T k) L j) ∧ Chg [w.heap.size] w2 wi) (fun c _ => L.length - (intOf c).toNat)
      case atStart => exact ⟨0, Nat.zero_le _, rfl, HM2.out, Chg.refl _ _⟩
      case round =>
        obtain ⟨j, hj, rfl, hm, hch⟩ := hrel
        have HM := Lib.hid hm
        have HCH := Lib.hid hch
        by_cases hltj : j < L.length
        · obtain ⟨lo, lcap, hle, -, -, hlc⟩ := HRI.out
          simp only [Value.slice.injEq] at hle
          obtain ⟨rfl, -, rfl⟩ := hle
          obtain ⟨rb, roff, rfl, hcj⟩ := hlc (by intro e; rw [e] at hltj; simp at hltj)
          have cj := hch.cell (hcj j hltj) (by intro e; obtain ⟨cs, r, hh⟩ := row_kind HROW.out rb (by simp [foot, Value.ownBlock]); exact HM2.out.ne hh (by simpa using e))
          have c0 := (cell_of_row _ _ 2 _ _ _ (hch.heap HB2.out (by simp))).trans (show _ = some (Value.map (some w.heap.size)) from rfl)
          have IJ : I64 (j : Int) := I64.mk (by omega) (by have := HNB.out; omega)
          have IX := HI.out (L.getD j 0) (by simp [List.getD, hltj])
          have HPJ := Lib.hid (show Plain.placeRow (Plain.places T k) L (j + 1) = fun y => if y = L.getD j 0 then some (j : Int) else Plain.placeRow (Plain.places T k) L j y from rfl)
          have hmx : Plain.sumLen T k + j < maxLen := by have := HNB.out; unfold maxLen; omega
          clear hcj hlc hm hch
          generalize L.getD j 0 = x at *
          go_wp2_with (at_mapUpdate; refine wp_store _ rfl _ _ _ rfl HM.out hmx rfl IX IJ rfl rfl ?_; intro w3 m3 g3; have M3 := Lib.hid m3; have G3 := Lib.hid g3; clear m3 g3)
          go_roundw
          case rel => exact ⟨j + 1, by omega, by go_num, by rw [HPJ.out]; exact M3.out, HCH.out.grown G3.out (fun j hj => by cases hj; exact Or.inl (by simp))⟩
          case measure => simp [intOf]; omega
        · have e : j = L.length := by omega
          subst e
          have HB3 := Lib.hid (hch.heap HB2.out (by simp))
          have HRO3 := Lib.hid (HRO2.out.chg hch (fun b hb e => by simp at e; subst e; exact owns_map HRO2.out.out HM2.out hb) (fun k b hk hb e => by simp at e; subst e; exact owns_map (HRO2.out.rows k hk) HM2.out hb))
          have HROW3 := Lib.hid (HROW.out.chg hch (fun b hb e => by obtain ⟨cs, r, hh⟩ := row_kind HROW.out b (by rw [HROW.out.foot]; exact hb); exact HM2.out.ne hh (by simpa using e)))
          have HC3 := Lib.hid (HC2.out.trans hch (fun j hj => Or.inr (by simp at hj; omega)))
          have c0 := (cell_of_row _ _ 0 _ _ _ (hch.heap HB2.out (by simp))).trans (show _ = some (Value.slice tvo vs.length tvc) from rfl)
          have hvl : vs.length < 68719476736 := by have := HVL.out; have := HTL.out; have := hTL; omega
          have HSB := Lib.hid (show w.heap.size ≤ wr.heap.size from HC3.out.size)
          have HNO := Lib.hid (show w.heap.size + 1 ∉ (Value.slice tvo vs.length tvc).ownBlock.toList from fun e => owns_other HRO3.out.out HB3.out (by decide) (by simpa using e))
          clear hm hch
          go_wp2_with (at_builtin; refine wp_app elemRow rfl (.tmp 46) (.tmp 48) rfl (v := .slice tvo vs.length tvc) rfl rfl rfl HRO3.out.out HSB.out rfl (oneSlice _ _ _) hvl ?_; intro g cap w4 r4 c4 l4; have R4 := Lib.hid r4; have C4 := Lib.hid c4; have b4 := c4.heap HB3.out HNO.out; have s4 := (cell_of_row _ _ 0 _ _ _ b4).trans (show _ = some (Value.slice tvo vs.length tvc) from rfl); have z4 : w4.frozen? ⟨w.heap.size + 1, 0, none⟩ = false := free_at b4 0; clear r4 c4 l4 b4)
          have HT5 := Lib.hid (HB3.out)
          have HT6 := Lib.hid (TakeAt.row HB3.out HRO3.out HM.out HC3.out HBW.out HROW3.out HLOW.out R4.out C4.out)
          rw [← HTK.out, ← HSK.out, ← HPR.out] at HT6
          go_roundw
          case rel => exact ⟨k + 1, by have := HTL.out; omega, by go_num, HT6.out⟩
          case measure => have := HTL.out; simp [intOf]; omega
    · have e : k = T.length := by omega
      subst e
      clear hrel
      have HFIN := Lib.hid (show ∃ vt', RotaAt wr (w.heap.size + 1) (T.map Plain.first) lv (Plain.places T T.length) ds vt' (.slice dao ds.length dcap) lb w.heap.size n (Plain.sumLen T T.length) by
        obtain ⟨⟨tv, vs, hb, hro⟩, hm, hch⟩ := HR.out
        rw [List.take_length] at hro
        refine ⟨tv, hb, hro.rowsAt (fun l hl => ?_) (by rw [List.length_map]; omega), HN.out.imap.chg hch (by simp), hm, HD.out.fresh hch⟩
        obtain ⟨q, hq, rfl⟩ := List.mem_map.1 hl
        obtain ⟨i, hi, e⟩ := List.getElem_of_mem hq
        have hqi : T.getD i [] = q := by simp [List.getD, hi, e]
        obtain ⟨_, _, u, _, _, _, hints⟩ := HTC.out i hi
        rw [hqi] at hints
        obtain ⟨_, _, _, hsm, _, _⟩ := hints
        have h1 : Plain.sumLen T (i + 1) = Plain.sumLen T i + (T.getD i []).length := rfl
        have h2 := Plain.sumLen_mono T (show i + 1 ≤ T.length from hi)
        have h3 := HSM.out
        rw [hqi] at h1
        exact ⟨fun x hx => hsm x ((Plain.first_mem _ x).1 hx), by rw [Plain.first_length]; omega⟩)
      have HCF := Lib.hid (HR.out.ch)
      go_wp2
      go_ret
      obtain ⟨vt', h⟩ := HFIN.out
      exact ⟨vt', rfl, h, HCF.out⟩

end Go.Proofs.Ytfgbkpbakignhaa
