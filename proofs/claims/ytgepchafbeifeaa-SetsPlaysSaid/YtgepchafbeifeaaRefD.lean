/- the document's answer for package sets: the contract of Groups. Conditions: a value that stands in memory; few things. -/
import Derived.Test.YtgepchafbeifeaaRefC
namespace Go.Proofs.Ytgepchafbeifeaa
open Go.RowKit Go.Maps

/-- A row that is not empty has its head among the places, and the other way round. -/
theorem St.row_empty {s : St} (hs : s.Ok) {h : Nat} (hh : h < s.grp.length) : s.row s.grp.length h = [] ↔ s.hd h ≠ h := by
  unfold St.row
  rw [List.map_eq_nil_iff, List.filter_eq_nil_iff]
  constructor
  · intro q e
    exact q h (List.mem_range.2 hh) (by simp [e])
  · intro q i hi e
    have hi' : i < s.grp.length := List.mem_range.1 hi
    have e' : s.hd i = h := by simpa using e
    have := hs.own i hi'
    rw [e'] at this
    exact q this

/-- A row of the call's own more, apart from all the others. -/
theorem RowsOwn.add {w w' : World} {B g cap : Nat} {ov v : Value} {vs : List Value} {ll : List (List Int)} {l : List Int} (h : RowsOwn w B ov vs ll) (hv : w.ownsRow B 3 1 v l.length (ints l))
    (hap : ∀ k b, k < vs.length → (vs.getD k undef).ownBlock = some b → v.ownBlock ≠ some b) (hn : w'.ownsRow B 35 1 (.slice (some ⟨g, 0, none⟩) (vs.length + 1) cap) (vs.length + 1) (vs ++ [v])) (hc : Chg ov.ownBlock.toList w w') :
    RowsOwn w' B (.slice (some ⟨g, 0, none⟩) (vs.length + 1) cap) (vs ++ [v]) (ll ++ [l]) := by
  have hl := h.len
  have old : ∀ k, k < vs.length → (vs ++ [v]).getD k undef = vs.getD k undef ∧ (ll ++ [l]).getD k [] = ll.getD k [] := by
    intro k hk
    simp only [List.getD]
    rw [List.getElem?_append_left hk, List.getElem?_append_left (by omega)]
    exact ⟨rfl, rfl⟩
  have new : (vs ++ [v]).getD vs.length undef = v ∧ (ll ++ [l]).getD vs.length [] = l := by
    simp [List.getD, hl]
  have keep : ∀ {u : Value} {m : List Int}, w.ownsRow B 3 1 u m.length (ints m) → w'.ownsRow B 3 1 u m.length (ints m) := by
    intro u m hu
    refine owns_chg hu hc (fun b hb e1 => ?_)
    rcases owns_two hu h.out (by decide) with q | q
    · rw [q] at hb; cases hb
    · simp at e1; exact q (hb.trans e1.symm)
  refine ⟨by simpa using hn, by simp [hl], fun k hk => ?_, fun k j hk hj hne => ?_⟩
  · by_cases e : k < vs.length
    · rw [(old k e).1, (old k e).2]
      exact keep (h.rows k e)
    · have : k = vs.length := by simp at hk; omega
      subst this
      rw [new.1, new.2]
      exact keep hv
  · by_cases e : k < vs.length
    · rw [(old k e).1]
      by_cases e2 : j < vs.length
      · rw [(old j e2).1]
        exact h.apart k j e e2 hne
      · have : j = vs.length := by simp at hj; omega
        subst this
        rw [new.1]
        cases hq : (vs.getD k undef).ownBlock with
        | none => exact Or.inl rfl
        | some b => exact Or.inr (fun q => hap k b e hq q.symm)
    · have : k = vs.length := by simp at hk; omega
      subst this
      have e2 : j < vs.length := by simp at hj; omega
      rw [new.1, (old j e2).1]
      cases hq : (vs.getD j undef).ownBlock with
      | none =>
        cases hq2 : v.ownBlock with
        | none => exact Or.inl rfl
        | some b => exact Or.inr (by simp)
      | some b => exact Or.inr (fun q => hap j b e2 hq q)

theorem owns_base {w : World} {B B' : Nat} {e : TypeId} {size : Nat} {v : Value} {n : Nat} {xs : List Value} (h : w.ownsRow B' e size v n xs) (hB : B ≤ B') : w.ownsRow B e size v n xs := by
  obtain ⟨h0, h1⟩ := h
  refine ⟨h0, h1.imp id ?_⟩
  rintro ⟨g, cap, cur, e, q, r⟩
  exact ⟨g, cap, cur, e, by omega, r⟩

theorem RowsOwn.base {w : World} {B B' : Nat} {ov : Value} {vs : List Value} {ll : List (List Int)} (h : RowsOwn w B' ov vs ll) (hB : B ≤ B') : RowsOwn w B ov vs ll :=
  ⟨owns_base h.out hB, h.len, fun k hk => owns_base (h.rows k hk) hB, h.apart⟩

set_option maxHeartbeats 1000000 in
theorem refgroups_any (B : Nat) (v : Value) (s : St) (w : World) (hn : s.all.length < 1000000) (hok : s.Ok) (h : RefAt w B v s) :
    Calls Try.prog 18 #[v] w fun e w' => ∃ ov vs, e = .returned ov ∧ RowsOwn w' w.heap.size ov vs s.groups ∧ Chg [] w w' := by
  obtain ⟨va, vg, rfl, ha, hg⟩ := h
  obtain ⟨aa, ac, ea⟩ := owns_shape ha.1
  obtain ⟨ga, gc, eg⟩ := owns_shape hg.1
  rw [List.length_map] at eg
  subst ea eg
  have HOK := Lib.hid hok
  have hc0 := (Chg.refl [] w).alloc (.cells #[.slice aa s.all.length ac, .slice ga s.grp.length gc] 37)
  have hb0 := heap_alloc_new w (.cells #[.slice aa s.all.length ac, .slice ga s.grp.length gc] 37)
  go_enter Try.func18, Try.ntmps18
  have HL := Lib.hid hok.len
  have HA := Lib.hid ha
  have HG := Lib.hid hg
  have H0 := Lib.hid hb0
  have HC0 := Lib.hid hc0
  clear ha hg hok hb0 hc0
  go_wp2
  generalize w.alloc (.cells #[.slice aa s.all.length ac, .slice ga s.grp.length gc] 37) = w0 at *
  go_loopw [3, 4] (fun ov c wr => ∃ k : Nat, k ≤ s.all.length ∧ c = .int .i64 k ∧ ∃ vs, RowsOwn wr w0.heap.size ov vs ((s.heads k).map (s.row s.all.length)) ∧ Chg [] w0 wr) (fun _ c _ => s.all.length - (intOf c).toNat)
  case atStart => exact ⟨0, Nat.zero_le _, rfl, [], RowsOwn.nil _ _, Chg.refl _ _⟩
  case round =>
    obtain ⟨k, hk, rfl, vs, hrows, hch⟩ := hrel
    obtain ⟨wo, rfl⟩ : ∃ wo, wo = wr := ⟨wr, rfl⟩
    have bx := hch.heap H0.out (by simp)
    have cx0 : wo.cell? ⟨w.heap.size, 0, none⟩ = some (.slice aa s.all.length ac) := by rw [cell_of_row _ _ _ _ _ _ bx]; rfl
    have cx1 : wo.cell? ⟨w.heap.size, 1, none⟩ = some (.slice ga s.grp.length gc) := by rw [cell_of_row _ _ _ _ _ _ bx]; rfl
    have HR := Lib.hid hrows
    have HCH := Lib.hid hch
    have HBX := Lib.hid bx
    clear hrows hch bx
    by_cases hlt : k < s.all.length
    · obtain ⟨ag, rfl, hac⟩ := HA.out.some (by omega)
      obtain ⟨gg, rfl, hgc⟩ := HG.out.some (by rw [List.length_map, ← HL.out]; omega)
      have HAC := Lib.hid hac
      have HGC := Lib.hid hgc
      have HSM := Lib.hid HA.out.2.1
      clear hac hgc
      go_wp2
      go_loopw [5, 6] (fun lv c w2 => ∃ i : Nat, i ≤ s.all.length ∧ c = .int .i64 i ∧ RowAt w2 wo.heap.size lv (s.row i k) ∧ Chg [] wo w2) (fun _ c _ => s.all.length - (intOf c).toNat)
      case atStart => exact ⟨0, Nat.zero_le _, rfl, ⟨World.ownsRow_nil _ _ _ _, by simp [St.row], by simp [St.row]⟩, Chg.refl _ _⟩
      case round =>
        obtain ⟨i, hi, rfl, hrow, hch2⟩ := hrel
        have dx0 := hch2.cell cx0 (by simp)
        have dx1 := hch2.cell cx1 (by simp)
        by_cases hil : i < s.all.length
        · have hgi := ((HC0.out.trans HCH.out (by simp)).trans hch2 (by simp)).cell (HGC.out i (by rw [List.length_map, ← HL.out]; exact hil)) (by simp)
          have hai := ((HC0.out.trans HCH.out (by simp)).trans hch2 (by simp)).cell (HAC.out i hil) (by simp)
          rw [show (s.grp.map fun (k : Nat) => (k : Int)).getD i 0 = ((s.hd i : Nat) : Int) by have := HL.out; simp [St.hd, List.getD, show i < s.grp.length by omega]] at hgi
          have hsm := HSM.out (s.all.getD i 0) (by simp [List.getD, hil])
          have HRS := Lib.hid (St.row_succ s i k)
          have hil2 : (i : Int) < (s.grp.length : Int) := by have := HL.out; omega
          obtain ⟨h1, h2, h3⟩ := hrow
          have hlen := s.row_le i k
          have HCH2 := Lib.hid hch2
          have HSL := Lib.hid h2
          have hB2 := hch2.size
          clear h2 hch2
          generalize s.hd i = q at *
          generalize s.all.getD i 0 = x at *
          by_cases hq : q = k
          · have hq' : ((q : Int) == (k : Int)) = true := by rw [beq_iff_eq]; omega
            have HQ := Lib.hid hq
            clear hq
            go_wp2_with (refine wp_app_int rfl _ _ rfl rfl rfl rfl h1 hB2 (by omega) ?_; intro g2 cap2 w3 q1 q2 q3)
            have q1' : w3.ownsRow wo.heap.size 3 1 (.slice (some ⟨g2, 0, none⟩) ((s.row i k).length + 1) cap2) ((s.row i k).length + 1) (ints (s.row i k) ++ [.int .i64 x]) := q1
            have hc3 := HCH2.out.trans q2 (fun j hj => Or.inr (h1.lt j (by simpa [Act.eval] using hj)).1)
            go_roundw
            case rel => exact ⟨i + 1, by omega, by go_num, by rw [HRS.out, if_pos HQ.out]; exact ⟨by rw [List.length_append]; simpa [ints] using q1', fun y hy => by rcases List.mem_append.1 hy with r | r; exact HSL.out y r; (simp at r; subst r; exact hsm), by rw [List.length_append]; simp; omega⟩, hc3⟩
            case measure => simp [intOf]; omega
          · have hq' : ((q : Int) == (k : Int)) = false := by rw [beq_eq_false_iff_ne]; omega
            have HQ := Lib.hid hq
            have H1 := Lib.hid h1
            clear hq h1
            go_wp2
            go_roundw
            case rel => exact ⟨i + 1, by omega, by go_num, by rw [HRS.out, if_neg HQ.out]; exact ⟨H1.out, HSL.out, h3⟩, HCH2.out⟩
            case measure => simp [intOf]; omega
        · have e : i = s.all.length := by omega
          subst e
          obtain ⟨al, cl, el⟩ := hrow.shape
          subst el
          have hre := St.row_empty HOK.out (h := k) (by rw [← HL.out]; exact hlt)
          rw [← HL.out] at hre
          have hro := HR.out.chg hch2 (by simp) (by simp)
          have hlo := hrow.low
          have hvl : vs.length < 1000000 := by have := hro.len; have := s.heads_le k; simp only [List.length_map] at *; omega
          have hout := hro.out
          have hBo : w0.heap.size ≤ wr.heap.size := by have := HCH.out.size; have := hch2.size; omega
          have hwo : w0.heap.size ≤ wo.heap.size := HCH.out.size
          have HRO := Lib.hid hro
          have HRW := Lib.hid hrow
          have HC2 := Lib.hid hch2
          have HLO := Lib.hid hlo
          have HHS := Lib.hid (s.heads_succ k)
          have hrl := s.row_le s.all.length k
          clear hro hrow hch2 hlo
          by_cases hkk : s.hd k = k
          · have hpos : 0 < (s.row s.all.length k).length := by
              rcases Nat.eq_zero_or_pos (s.row s.all.length k).length with q | q
              · exact absurd hkk (hre.1 (List.length_eq_zero_iff.1 q))
              · exact q
            have HKK := Lib.hid hkk
            clear hkk hre
            generalize hrw : s.row s.all.length k = row at *
            have HRE := Lib.hid hrw
            clear hrw
            go_wp2_with (refine wp_app elemRow rfl _ _ rfl rfl rfl rfl hout hBo rfl (oneSlice _ _ _) (by omega) ?_; intro g2 cap2 w3 q1 q2 q3)
            have q1' : w3.ownsRow w0.heap.size 35 1 (.slice (some ⟨g2, 0, none⟩) (vs.length + 1) cap2) (vs.length + 1) (vs ++ [.slice al row.length cl]) := q1
            have hu3 := HRO.out.out.lt
            have hc3 := (HCH.out.trans HC2.out (by simp)).trans q2 (fun j hj => Or.inr (hu3 j (by simpa [Act.eval] using hj)).1)
            have hadd := HRO.out.add (HRW.out.base hwo).1 (fun k' b hk' hb' e => by
              have h1 := ((HR.out.rows k' hk').lt b hb').2
              have h2 := (HLO.out b (by rw [e]; simp)).1
              omega) q1' q2
            go_roundw
            case rel => exact ⟨k + 1, by omega, by go_num, vs ++ [.slice al row.length cl], by rw [HHS.out, if_pos HKK.out, List.map_append, List.map_cons, List.map_nil, HRE.out]; exact hadd, hc3⟩
            case measure => simp [intOf]; omega
          · have hnil := hre.2 hkk
            have HKK := Lib.hid hkk
            clear hkk hre hout
            have hlen0 : (s.row s.all.length k).length = 0 := by rw [hnil]; rfl
            clear hnil
            generalize s.row s.all.length k = row at *
            go_wp2
            go_roundw
            case rel => exact ⟨k + 1, by omega, by go_num, vs, by rw [HHS.out, if_neg HKK.out]; exact HRO.out, HCH.out.trans HC2.out (by simp)⟩
            case measure => simp [intOf]; omega
    · have e : k = s.all.length := by omega
      subst e
      go_wp2
      go_ret
      exact ⟨_, vs, rfl, HR.out.base HC0.out.size, HC0.out.trans HCH.out (by simp)⟩

end Go.Proofs.Ytgepchafbeifeaa
