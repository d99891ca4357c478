/- Laws at operations, in short words: a number appended to a row of the call's own. Conditions: what each law says. -/
import Derived.Test.YtpbljifejopecaaVRow
import Derived.Test.YtpbljifejopecaaVFlat
import Derived.Test.YtpbljifejopecaaVWake
namespace Go.Proofs.Ytpbljifejopecaa
open Go.RowKit Go.Maps

theorem row_lit1 {w : World} {B : Nat} (hB : B ≤ w.heap.size) {k : Int} (hk : I64 k) : RowAt (w.alloc (.cells #[.int .i64 k] 3)) B (.slice (some ⟨w.heap.size, 0, none⟩) 1 1) [k] :=
  ⟨World.ownsRow_lit w #[.int .i64 k] 1 hB (by decide) rfl, by simpa using hk, by simp⟩

/-- 'append(l, x)'. -/
theorem wl_push {ops : Array Oper} {rest : List Oper} {o : Oper} {a : Act} {Q : Exit → Act → World → Prop} {w w0 : World} (hg : o.guard = none) (s x : Operand) (ho : o.op = .call { callee := .builtin .append, args := #[s, x], argTypes := #[25, 25] })
    {B : Nat} {v : Value} {l : List Int} {k : Int} (hs : a.eval s = v) (hx : a.eval x = .slice (some ⟨w0.heap.size, 0, none⟩) 1 1) (h : RowAt w0 B v l) (hk : I64 k) (hB : B ≤ w0.heap.size) (hn : l.length < 4294967290) (hw : w = w0.alloc (.cells #[.int .i64 k] 3))
    (hK : ∀ v' w', RowAt w' B v' (l ++ [k]) → Chg (foot v) w0 w' → (∀ b ∈ foot v', b ∈ foot v ∨ w0.heap.size ≤ b) → wpList Try.prog ops Q rest (a.put o.dst v') w') : wpList Try.prog ops Q (o :: rest) a w := by
  subst hw
  have hc := (Chg.refl [] w0).alloc (.cells #[.int .i64 k] 3)
  refine wl_cat hg s x ho hs hx (h.chg hc (by simp)) (row_lit1 (B := w0.heap.size) (Nat.le_refl _) hk) (Nat.le_trans hB hc.size) (by simp; omega) fun v' w' r1 r2 r3 => hK v' w' r1 ((hc.mono (by simp)).trans r2 fun j hj => Or.inl hj) fun b hb => (r3 b hb).imp id fun q => Nat.le_trans hc.size q

/-- One cell of a list that is read. -/
theorem IntsAt.cellAt {w : World} {ao : Option Addr} {n c : Nat} {l : List Int} (h : IntsAt w (.slice ao n c) l) {i : Nat} (hi : i < l.length) : ∃ b off, ao = some ⟨b, off, none⟩ ∧ w.cell? ⟨b, off + i, none⟩ = some (.int .i64 (l.getD i 0)) := by
  obtain ⟨ao', c', e', -, -, h⟩ := h
  simp only [Value.slice.injEq] at e'
  obtain ⟨rfl, -, rfl⟩ := e'
  obtain ⟨b, off, rfl, h2⟩ := h (by intro q; rw [q] at hi; simp at hi)
  exact ⟨b, off, rfl, h2 i hi⟩

/-- One row of a list of lists that is read. -/
theorem RowsAt.row {w : World} {tno : Option Addr} {n tc : Nat} {ll : List (List Int)} (h : RowsAt w (.slice tno n tc) ll) {k : Nat} (hk : k < ll.length) : ∃ b off uo uc, tno = some ⟨b, off, none⟩ ∧ w.cell? ⟨b, off + k, none⟩ = some (.slice uo (ll.getD k []).length uc) ∧ IntsAt w (.slice uo (ll.getD k []).length uc) (ll.getD k []) := by
  obtain ⟨ao, cap, e, -, h2⟩ := h
  simp only [Value.slice.injEq] at e
  obtain ⟨rfl, rfl, rfl⟩ := e
  obtain ⟨b, off, u, rfl, h3, -, h5⟩ := h2 k hk
  have h6 := h5
  obtain ⟨uo, uc, rfl, -⟩ := h5
  exact ⟨b, off, uo, uc, rfl, h3, h6⟩

theorem rowNil' (w : World) (B : Nat) : RowAt w B (.slice none 0 0) [] := ⟨World.ownsRow_nil _ _ _ _, by simp, by simp⟩
theorem ret_val {u v : Value} (h : u = v) : Ending.returned u = .returned v := by rw [h]

end Go.Proofs.Ytpbljifejopecaa
/- plan.Region: its contract. Conditions: a graph, a part, a plan that lie in memory and read so, of a bounded size. -/
namespace Go.Proofs.Ytpbljifejopecaa
open Go.RowKit Go.Maps

theorem contains_any (v : Value) (l : List Int) (x : Int) (w : World) (h : IntsAt w v l) :
    Calls Try.prog 65 #[v, .int .i64 x] w fun e w' => e = .returned (.bool (decide (x ∈ l))) ∧ w' = w := by
  obtain ⟨ao, cap, rfl, -, hm, hc⟩ := h
  cases l with
  | nil =>
    refine (Try.slices_Contains_int_empty ao cap x w).mono ?_
    rintro e w' ⟨rfl, rfl⟩
    exact ⟨ret_bool (by simp), rfl⟩
  | cons y r =>
    obtain ⟨b, off, rfl, hc2⟩ := hc (by simp)
    refine (Try.slices_Contains_int b off (y :: r).length cap (y :: r) x w (Nat.le_refl _) hm hc2).mono ?_
    rintro e w' ⟨rfl, rfl⟩
    exact ⟨ret_bool (by rw [List.take_length]; simp), rfl⟩

theorem region1_any (v : Value) (l : List Int) (kb : Nat) (x : Int) (w : World) (h : IntsAt w v l) (hk : w.cell? ⟨kb, 0, none⟩ = some (.int .i64 x)) :
    Calls Try.prog 64 #[v, .pointer (some ⟨kb, 0, none⟩)] w fun e w' => e = .returned (.bool (decide (x ∈ l))) ∧ w' = w := by
  have H := Lib.hid h
  obtain ⟨ao, cap, rfl, -, -, -⟩ := h
  go_enter Try.func64, Try.ntmps64
  go_wp2_with fail
  refine (contains_any _ l x _ H.out).mono ?_
  rintro e w' ⟨rfl, rfl⟩
  go_wp2
  go_ret
  exact ⟨rfl, rfl⟩

/-- A number for 'found at' or -1. -/
def ixOf : Option Nat → Int
  | some i => i
  | none => -1

theorem regionAt_take {ll : List (List Int)} {key : Int} {k : Nat} (hk : k < ll.length) (h : ∀ i, i < k → key ∉ ll.getD i []) (hin : key ∈ ll.getD k []) : Plain.regionAt ll key = some k := by
  unfold Plain.regionAt
  rw [List.findIdx?_eq_some_iff_getElem]
  refine ⟨hk, decide_eq_true (by simpa [List.getD, hk] using hin), fun j hj => ?_⟩
  have := h j hj
  have hjl : j < ll.length := by omega
  simpa [List.getD, hjl] using this
theorem regionAt_no {ll : List (List Int)} {key : Int} (h : ∀ i, i < ll.length → key ∉ ll.getD i []) : Plain.regionAt ll key = none := by
  rw [Plain.regionAt_none]
  intro hm
  obtain ⟨l, hl, hx⟩ := List.mem_flatten.1 hm
  obtain ⟨i, hi, rfl⟩ := List.getElem_of_mem hl
  exact h i hi (by simpa [List.getD, hi] using hx)

set_option maxRecDepth 100000 in
set_option maxHeartbeats 1000000 in
theorem regionIx_any (vt : Value) (ll : List (List Int)) (kb : Nat) (x : Int) (w : World) (h : RowsAt w vt ll) (hk : w.cell? ⟨kb, 0, none⟩ = some (.int .i64 x)) :
    Calls Try.prog 63 #[vt, .func (.func 64) #[] #[.pointer (some ⟨kb, 0, none⟩)]] w fun e w' => e = .returned (.int .i64 (ixOf (Plain.regionAt ll x))) ∧ w' = w := by
  have HT := Lib.hid h
  obtain ⟨tno, tc, rfl, hm, -⟩ := h
  have HKB := Lib.hid hk
  clear hk
  go_enter Try.func63, Try.ntmps63
  go_wp2
  go_loopw [8] (fun c wr => ∃ k : Nat, k ≤ ll.length ∧ c = .int .i64 k ∧ wr = w ∧ Hid (∀ i, i < k → x ∉ ll.getD i [])) (fun c _ => ll.length - (intOf c).toNat)
  case atStart => exact ⟨0, Nat.zero_le _, rfl, rfl, Lib.hid (by omega)⟩
  case round =>
    obtain ⟨k, hk, rfl, rfl, hno⟩ := hrel
    by_cases hlt : k < ll.length
    · obtain ⟨tb, toff, uo, uc, rfl, tcell, hrow⟩ := HT.out.row hlt
      have HROW := Lib.hid hrow
      have HHIT := Lib.hid (fun h => regionAt_take (key := x) hlt hno.out h)
      have HNO := Lib.hid (fun (h : x ∉ ll.getD k []) i (hi : i < k + 1) => show x ∉ ll.getD i [] from by
        by_cases e : i = k
        · rw [e]; exact h
        · exact hno.out i (by omega))
      obtain ⟨T, hT⟩ : ∃ T, ll.getD k [] = T := ⟨_, rfl⟩
      rw [hT] at tcell HROW HHIT HNO
      clear hrow hT
      go_wp2_with fail
      refine (region1_any _ T kb x _ HROW.out HKB.out).mono ?_
      rintro e w2 ⟨rfl, rfl⟩
      by_cases hx : x ∈ T
      · rw [decide_eq_true hx]
        have HE := Lib.hid (HHIT.out hx)
        clear hx
        go_wp2
        go_ret
        exact ⟨ret_int (by rw [HE.out]; rfl), rfl⟩
      · rw [decide_eq_false hx]
        have HE := Lib.hid (HNO.out hx)
        clear hx
        go_wp2
        go_roundw
        case rel => exact ⟨k + 1, by omega, by go_num, trivial, HE⟩
        case measure => simp [intOf]; omega
    · have e : k = ll.length := by omega
      subst e
      have HE := Lib.hid (regionAt_no hno.out)
      go_wp2
      go_ret
      exact ⟨ret_int (by rw [HE.out]; rfl), rfl⟩

/-- Lists of the call's own, read. -/
theorem RowsOwn.read {w : World} {B : Nat} {ov : Value} {vs : List Value} {ll : List (List Int)} (h : RowsOwn w B ov vs ll) (hi : ∀ l ∈ ll, (∀ x ∈ l, I64 x) ∧ l.length < 4294967296) : RowsAt w ov ll := by
  have hlen := h.len
  have hcap : ∀ {v : Value} {n : Nat} {xs : List Value} {e : TypeId}, w.ownsRow B e 1 v n xs → CapOk v := by
    intro v n xs e ho
    rcases ho.2 with ⟨rfl, _⟩ | ⟨g, cap, cur, rfl, -, -, hn, hc, -, -⟩
    · exact ⟨none, 0, 0, rfl, by decide, by decide⟩
    · exact ⟨_, _, _, rfl, hn, by unfold maxLen at hc; omega⟩
  rcases h.out.2 with ⟨rfl, h0⟩ | ⟨g, cap, cur, rfl, -, -, hn, hc, -, -⟩
  · have : ll = [] := List.length_eq_zero_iff.1 (by omega)
    subst this
    exact ⟨none, 0, rfl, by decide, fun i hi => absurd hi (by simp)⟩
  · refine ⟨_, cap, by rw [hlen], by unfold maxLen at hc; omega, fun i hi2 => ?_⟩
    have hiv : i < vs.length := by omega
    have hrow := h.rows i hiv
    have hcell := h.out.cellAt i (by omega)
    have hm : ll.getD i [] ∈ ll := by simp [List.getD, hi2]
    refine ⟨g, 0, vs.getD i undef, rfl, ?_, hcap hrow, RowAt.ints (B := B) ⟨hrow, hi _ hm⟩⟩
    rw [Nat.zero_add, hcell]
    simp [List.getD, hiv]

namespace Plain
/-- What plan.Region answers. -/
noncomputable def regionRes (g : Gr) (p : Pt) (turn same : List (List Int)) (key : Int) : Int × Bool :=
  if planErr g p turn same ≠ 0 then (0, false) else match regionAt (regionsOf g p turn same) key with
    | some i => ((i : Int), true)
    | none => (0, false)

theorem regs_small {g : Gr} {p : Pt} {turn same ll : List (List Int)} (h : Parted g p turn same) (hl : IsRegs g p turn same ll) : ∀ l ∈ ll, (∀ x ∈ l, I64 x ∧ x ∈ (walksOf g p turn).map (·.1)) ∧ l.length ≤ (walksOf g p turn).length := by
  intro l hlm
  have hm := hl.perm.mem_iff.1 hlm
  have hk : ∀ x ∈ l, x ∈ (walksOf g p turn).map (·.1) := fun x hx => h.all.mem_iff.1 (List.mem_flatten.2 ⟨l, hm, hx⟩)
  refine ⟨fun x hx => ⟨?_, hk x hx⟩, ?_⟩
  · obtain ⟨f, hf, rfl⟩ := List.mem_map.1 (hk x hx)
    have := key_small h.part h.walks hf
    exact I64.mk (by omega) (by omega)
  · have hn := (nodup_flat.1 h.nodupAll).1 l hm
    have := len_le_of_sub hn hk
    rwa [List.length_map] at this
end Plain

set_option maxRecDepth 100000 in
set_option maxHeartbeats 4000000 in
theorem region_any (vg vp vx : Value) (g : Plain.Gr) (p : Plain.Pt) (turn same : List (List Int)) (key : Int) (w : World) (hpl : p.e.length ≤ 100000) (hpv : p.v.length ≤ 100000) (hTL : turn.length < 2147483648) (hS : Plain.sumLen turn turn.length < 2147483648) (hsl : same.length ≤ 10000) (hsr : ∀ i, (same.getD i []).length ≤ 10000) (hg : GrAt w vg g) (hp : PtAt w vp p) (hx : PlAt w vx turn same) :
    Calls Try.prog 23 #[vg, vp, vx, .int .i64 key] w fun e w' => e = .returned (.tuple #[.int .i64 (Plain.regionRes g p turn same key).1, .bool (Plain.regionRes g p turn same key).2]) ∧ Chg [] w w' := by
  have hmf : ∀ (fn : Fn) (first cap : Array Value) (w : World), (Instr.makeFunc fn first cap).run Try.prog w = .ok (.func fn first cap) w := fun _ _ _ _ => rfl
  have HS1 := Lib.hid hS
  have HSR := Lib.hid hsr
  clear hS hsr
  have HG := Lib.hid hg
  have HP := Lib.hid hp
  have HX := Lib.hid hx
  obtain ⟨eo, cap, rfl, hn, hm, hsm, hcell⟩ := hg
  obtain ⟨v1, v2, rfl, hv, he⟩ := hp
  obtain ⟨ao, ac, rfl, has, ham, hacell⟩ := hv
  obtain ⟨bo, bc, rfl, hbs, hbm, hbcell⟩ := he
  have HAC := Lib.hid hacell
  have HBC := Lib.hid hbcell
  obtain ⟨t1, t2, rfl, ht, hs⟩ := hx
  have HT := Lib.hid ht
  have HS := Lib.hid hs
  obtain ⟨tno, tc, rfl, htm, -⟩ := ht
  obtain ⟨so, sc, rfl, hsm2, hsc⟩ := hs
  obtain ⟨-, -, hc1⟩ := box_two w #[.int .i64 g.n, .slice eo g.e.length cap] #[.slice ao p.v.length ac, .slice bo p.e.length bc] 24 27
  obtain ⟨-, hc3⟩ := box_three w #[.int .i64 g.n, .slice eo g.e.length cap] #[.slice ao p.v.length ac, .slice bo p.e.length bc] #[.slice tno turn.length tc, .slice so same.length sc] 24 27 32
  have HC1 := Lib.hid (hc1.trans hc3 (by simp))
  have HBXS := Lib.hid (fun w2 h => three_boxes w (g := g) (p := p) (turn := turn) (same := same) (eo := eo) (ao := ao) (bo := bo) (tno := tno) (so := so) (cap := cap) (ac := ac) (bc := bc) (tc := tc) (sc := sc) (w2 := w2) h)
  clear hcell hacell hbcell hsm hbs has hn hc1 hc3 hsc
  obtain ⟨w3, hw3⟩ : ∃ w3, ((((w.alloc (.cells #[.int .i64 g.n, .slice eo g.e.length cap] 24)).alloc (.cells #[.slice ao p.v.length ac, .slice bo p.e.length bc] 27)).alloc (.cells #[.slice tno turn.length tc, .slice so same.length sc] 32))) = w3 := ⟨_, rfl⟩
  have hk1 := heap_alloc_new w3 (.cells #[.int .i64 key] 3)
  have hsz3 : w3.heap.size = w.heap.size + 3 := by rw [← hw3]; simp
  rw [hsz3] at hk1
  have HK := Lib.hid ((cell_of_row _ _ 0 _ _ _ hk1).trans (show _ = some (Value.int .i64 key) from rfl))
  have HC4 := Lib.hid ((Chg.refl [] w3).alloc (.cells #[.int .i64 key] 3))
  rw [hw3] at HC1 HBXS
  obtain ⟨x0, x1, y0, y1, z0, z1, hsz⟩ := HBXS.out _ HC4.out
  subst hw3
  clear hk1 hsz3
  go_enter Try.func23, Try.ntmps23
  go_wp2_with fail
  generalize hw4 : ((((w.alloc (.cells #[.int .i64 g.n, .slice eo g.e.length cap] 24)).alloc (.cells #[.slice ao p.v.length ac, .slice bo p.e.length bc] 27)).alloc (.cells #[.slice tno turn.length tc, .slice so same.length sc] 32)).alloc (.cells #[.int .i64 key] 3)) = w4 at *
  have HCW := Lib.hid (HC1.out.trans HC4.out (by simp))
  refine (regions_any _ _ _ g p turn same _ hpl hpv hTL HS1.out hsl HSR.out (HG.out.fresh HCW.out) (HP.out.fresh HCW.out) (HX.out.fresh HCW.out)).mono ?_
  rintro e w5 ⟨ov, rfl, herr, hres, hc5⟩
  have HC5 := Lib.hid (HCW.out.trans hc5 (by simp))
  have hkc := hc5.cell HK.out (by simp)
  clear x0 x1 y0 y1 z0 z1 hsz
  by_cases hz : Plain.planErr g p turn same = 0
  · obtain ⟨vs, ll, h1, h2, h3, h4⟩ := hres hz
    have hpt := Plain.parted hz h4
    have hreg : Plain.IsRegs g p turn same ll := ⟨h2, h3⟩
    have hsm := Plain.regs_small hpt hreg
    have hwl := h4.len
    have HRD := Lib.hid (h1.read fun l hl => ⟨fun x hx => ((hsm l hl).1 x hx).1, by have := (hsm l hl).2; omega⟩)
    have HRS := Lib.hid (show Plain.regionRes g p turn same key = match Plain.regionAt ll key with | some i => ((i : Int), true) | none => (0, false) by unfold Plain.regionRes; rw [if_neg (by simp [hz]), hreg.eq hpt])
    rw [hz]
    obtain ⟨oo, oc, rfl⟩ := owns_shape h1.out
    clear hres herr h1 h2 h3 h4 hz hpt hreg hsm hwl hc5
    go_wp2_with fail
    refine (regionIx_any _ ll _ key _ HRD.out hkc).mono ?_
    rintro e w6 ⟨rfl, rfl⟩
    cases hr : Plain.regionAt ll key with
    | none =>
      rw [hr] at HRS
      clear hr
      rw [show ixOf none = -1 from rfl]
      have m1 : max (-1 : Int) 0 = 0 := by decide
      go_wp2
      exact bodyPost_ret (v := .tuple #[.int .i64 0, .bool false]) (by simp [results, Try.results23, go_sem]) rfl ⟨by rw [HRS.out], HC5.out⟩
    | some i =>
      rw [hr] at HRS
      clear hr
      rw [show ixOf (some i) = (i : Int) from rfl]
      have m1 : max (i : Int) 0 = (i : Int) := by omega
      go_wp2
      exact bodyPost_ret (v := .tuple #[.int .i64 i, .bool true]) (by simp [results, Try.results23, go_sem]) rfl ⟨by rw [HRS.out], HC5.out⟩
  · have hov := herr hz
    subst hov
    have HRS := Lib.hid (show Plain.regionRes g p turn same key = (0, false) by unfold Plain.regionRes; rw [if_pos hz])
    have hzb : ((Plain.planErr g p turn same) != 0) = true := by simp [hz]
    clear hres herr hz hkc hc5
    go_wp2
    exact bodyPost_ret (v := .tuple #[.int .i64 0, .bool false]) (by simp [results, Try.results23, go_sem]) rfl ⟨by rw [HRS.out], HC5.out⟩
end Go.Proofs.Ytpbljifejopecaa
/- A plan as it is built in memory: a variable of two lists of lists of the call's own. No condition beyond what each law says. -/
namespace Go.Proofs.Ytpbljifejopecaa
open Go.RowKit Go.Maps

theorem clone_any (v : Value) (l : List Int) (w : World) (hl : l.length ≤ 1000000000) (h : IntsAt w v l) :
    Calls Try.prog 61 #[v] w fun e w' => ∃ v', e = .returned v' ∧ RowAt w' w.heap.size v' l ∧ Chg [] w w' := by
  obtain ⟨ao, cap, rfl, hsm, hm, hc⟩ := h
  cases l with
  | nil =>
    cases ao with
    | none =>
      refine (Try.slices_Clone_int_nil 0 cap w).mono ?_
      rintro e w' ⟨rfl, rfl⟩
      exact ⟨_, rfl, rowNil' _ _, Chg.refl _ _⟩
    | some ad =>
      refine (Try.slices_Clone_int_zero ad cap w).mono ?_
      rintro e w' ⟨v', rfl, h1, -, h3⟩
      exact ⟨_, rfl, ⟨h1, by simp, by simp⟩, Chg.of_below h3 (Nat.le_refl _)⟩
  | cons y r =>
    obtain ⟨b, off, rfl, hc2⟩ := hc (by simp)
    refine (Try.slices_Clone_int b off (y :: r).length cap (y :: r) w (Nat.le_refl _) (by omega) hc2).mono ?_
    rintro e w' ⟨v', rfl, h1, -, h3⟩
    rw [List.take_length] at h1
    exact ⟨_, rfl, ⟨h1, hsm, by omega⟩, Chg.of_below h3 (Nat.le_refl _)⟩

/-- The variable at pb holds two lists of lists of the call's own, with all their rows below T. -/
structure PlanVar (w : World) (pb B T : Nat) (t s : List (List Int)) : Prop where
  ex : ∃ o1 v1 o2 v2, w.heap[pb]? = some (.cells #[o1, o2] 32 (0, 0)) ∧ RowsOwn w B o1 v1 t ∧ RowsOwn w B o2 v2 s ∧ (o1.ownBlock = none ∨ o1.ownBlock ≠ o2.ownBlock) ∧
    (∀ k b, k < v1.length → (v1.getD k undef).ownBlock = some b → b < T) ∧ (∀ k b, k < v2.length → (v2.getD k undef).ownBlock = some b → b < T)
  small : ∀ l ∈ t ++ s, (∀ x ∈ l, I64 x) ∧ l.length < 4294967296

theorem PlanVar.made (w : World) (B T : Nat) : PlanVar (w.alloc (.cells #[.slice none 0 0, .slice none 0 0] 32)) w.heap.size B T [] [] :=
  ⟨⟨_, [], _, [], heap_alloc_new w _, RowsOwn.nil _ _, RowsOwn.nil _ _, Or.inl rfl, by simp, by simp⟩, by simp⟩

theorem row_below {w : World} {B : Nat} {ov : Value} {vs : List Value} {ll : List (List Int)} (h : RowsOwn w B ov vs ll) : ∀ k b, k < vs.length → (vs.getD k undef).ownBlock = some b → b < w.heap.size := fun k _b hk hb => owns_lt (h.rows k hk) hb

theorem PlanVar.up {w : World} {pb B T T' : Nat} {t s : List (List Int)} (h : PlanVar w pb B T t s) (hT : w.heap.size ≤ T') : PlanVar w pb B T' t s := by
  obtain ⟨⟨o1, v1, o2, v2, h1, h2, h3, h4, -, -⟩, h7⟩ := h
  exact ⟨⟨o1, v1, o2, v2, h1, h2, h3, h4, fun k b hk hb => Nat.lt_of_lt_of_le (row_below h2 k b hk hb) hT, fun k b hk hb => Nat.lt_of_lt_of_le (row_below h3 k b hk hb) hT⟩, h7⟩

theorem owns_kind {w : World} {B : Nat} {e : TypeId} {sz : Nat} {v : Value} {n : Nat} {xs : List Value} (h : w.ownsRow B e sz v n xs) {b : Nat} (hb : v.ownBlock = some b) : ∃ cs, w.heap[b]? = some (.cells cs e (0, 0)) := by
  rcases h.2 with ⟨rfl, _⟩ | ⟨g, c, cur, rfl, _, hg, _⟩
  · cases hb
  · simp only [Value.ownBlock, Option.some.injEq] at hb
    subst hb
    exact ⟨_, hg⟩

/-- What turns is not the variable, no list of lists, no list. -/
theorem PlanVar.keep {w w' : World} {pb B T : Nat} {t s : List (List Int)} {own : List Nat} (h : PlanVar w pb B T t s) (hc : Chg own w w') (ho : ∀ j ∈ own, j ≠ pb ∧ ∀ cs u r, w.heap[j]? = some (.cells cs u r) → u ≠ 25 ∧ u ≠ 3) : PlanVar w' pb B T t s := by
  obtain ⟨⟨o1, v1, o2, v2, h1, h2, h3, h4, h5, h6⟩, h7⟩ := h
  have hr : ∀ {ov : Value} {vs : List Value} {ll : List (List Int)}, RowsOwn w B ov vs ll → RowsOwn w' B ov vs ll := by
    intro ov vs ll hr
    refine hr.chg hc (fun b hb hm => ?_) (fun k b hk hb hm => ?_)
    · obtain ⟨cs, hh⟩ := owns_kind hr.out hb
      exact ((ho _ hm).2 _ _ _ hh).1 rfl
    · obtain ⟨cs, hh⟩ := owns_kind (hr.rows k hk) hb
      exact ((ho _ hm).2 _ _ _ hh).2 rfl
  exact ⟨⟨o1, v1, o2, v2, hc.heap h1 (fun hm => (ho _ hm).1 rfl), hr h2, hr h3, h4, h5, h6⟩, h7⟩
theorem PlanVar.fresh {w w' : World} {pb B T : Nat} {t s : List (List Int)} (h : PlanVar w pb B T t s) (hc : Chg [] w w') : PlanVar w' pb B T t s := h.keep hc (by simp)

/-- What turns lies below B, and is not the variable. -/
theorem PlanVar.low {w w' : World} {pb B T : Nat} {t s : List (List Int)} {own : List Nat} (h : PlanVar w pb B T t s) (hc : Chg own w w') (ho : ∀ j ∈ own, j < B ∧ j ≠ pb) : PlanVar w' pb B T t s := by
  obtain ⟨⟨o1, v1, o2, v2, h1, h2, h3, h4, h5, h6⟩, h7⟩ := h
  exact ⟨⟨o1, v1, o2, v2, hc.heap h1 (fun hm => (ho _ hm).2 rfl), h2.below hc fun j hj => (ho j hj).1, h3.below hc fun j hj => (ho j hj).1, h4, h5, h6⟩, h7⟩

theorem PlanVar.cells {w : World} {pb B T : Nat} {t s : List (List Int)} (h : PlanVar w pb B T t s) : ∃ a1 c1 a2 c2, w.cell? ⟨pb, 0, none⟩ = some (.slice a1 t.length c1) ∧ w.cell? ⟨pb, 1, none⟩ = some (.slice a2 s.length c2) := by
  obtain ⟨⟨o1, v1, o2, v2, h1, h2, h3, -⟩, -⟩ := h
  obtain ⟨a1, c1, rfl⟩ := owns_shape h2.out
  obtain ⟨a2, c2, rfl⟩ := owns_shape h3.out
  exact ⟨a1, c1, a2, c2, by rw [← h2.len]; exact (cell_of_row _ _ 0 _ _ _ h1).trans rfl, by rw [← h3.len]; exact (cell_of_row _ _ 1 _ _ _ h1).trans rfl⟩
theorem PlanVar.lt {w : World} {pb B T : Nat} {t s : List (List Int)} (h : PlanVar w pb B T t s) : pb < w.heap.size := by
  obtain ⟨⟨o1, v1, o2, v2, h1, -⟩, -⟩ := h
  exact lt_of_block h1
theorem PlanVar.free {w : World} {pb B T : Nat} {t s : List (List Int)} (h : PlanVar w pb B T t s) (i : Nat) : w.frozen? ⟨pb, i, none⟩ = false := by
  obtain ⟨⟨o1, v1, o2, v2, h1, -⟩, -⟩ := h
  exact free_at h1 i

/-- The plan that the variable holds, read. -/
theorem PlanVar.read {w : World} {pb B T : Nat} {t s : List (List Int)} (h : PlanVar w pb B T t s) : ∃ a1 c1 a2 c2, w.cell? ⟨pb, 0, none⟩ = some (.slice a1 t.length c1) ∧ w.cell? ⟨pb, 1, none⟩ = some (.slice a2 s.length c2) ∧ PlAt w (.agg #[.slice a1 t.length c1, .slice a2 s.length c2]) t s := by
  obtain ⟨⟨o1, v1, o2, v2, h1, h2, h3, -⟩, h7⟩ := h
  obtain ⟨a1, c1, rfl⟩ := owns_shape h2.out
  obtain ⟨a2, c2, rfl⟩ := owns_shape h3.out
  have r1 := h2.read fun l hl => h7 l (List.mem_append.2 (Or.inl hl))
  have r2 := h3.read fun l hl => h7 l (List.mem_append.2 (Or.inr hl))
  have e1 := h2.len
  have e2 := h3.len
  rw [e1] at r1 h1
  rw [e2] at r2 h1
  exact ⟨a1, c1, a2, c2, (cell_of_row _ _ 0 _ _ _ h1).trans rfl, (cell_of_row _ _ 1 _ _ _ h1).trans rfl, _, _, rfl, r1, r2⟩

theorem PlanVar.readAt {w : World} {pb B T : Nat} {t s : List (List Int)} (h : PlanVar w pb B T t s) {u1 u2 : Value} (e1 : w.cell? ⟨pb, 0, none⟩ = some u1) (e2 : w.cell? ⟨pb, 1, none⟩ = some u2) : PlAt w (.agg #[u1, u2]) t s := by
  obtain ⟨a1, c1, a2, c2, h1, h2, h3⟩ := h.read
  rw [e1] at h1
  rw [e2] at h2
  cases h1
  cases h2
  exact h3

/-- What an append of a row leaves. -/
theorem run_row {w0 w : World} {B T : Nat} {ov v : Value} {vs : List Value} {ll : List (List Int)} {l : List Int} (h : RowsOwn w0 B ov vs ll) (hB : B ≤ w0.heap.size) (hv : RowAt w0 T v l) (hBT : B ≤ T) (hX : ∀ k b, k < vs.length → (vs.getD k undef).ownBlock = some b → b < T) (hn : vs.length < 68719476736)
    (hw : w = w0.alloc (.cells #[v] 25) ∨ w = (w0.alloc (.cells #[v] 25)).drew) (ty : TypeId) :
    ∃ g cap w', (Builtin.append_ #[28, 28] ty #[ov, .slice (some ⟨w0.heap.size, 0, none⟩) 1 1]).run Try.prog w = .ok (.slice (some ⟨g, 0, none⟩) (vs.length + 1) cap) w' ∧
      RowsOwn w' B (.slice (some ⟨g, 0, none⟩) (vs.length + 1) cap) (vs ++ [v]) (ll ++ [l]) ∧ Chg ov.ownBlock.toList w0 w' ∧ (ov.ownBlock = some g ∨ w0.heap.size ≤ g) := by
  obtain ⟨va, vc, rfl⟩ := hv.shape
  obtain ⟨g, cap, w', hr, r2, r3, r4⟩ := run_app elemRow h.out hB (cs := #[.slice va l.length vc]) rfl (oneSlice _ _ _) hn hw ty
  exact ⟨g, cap, w', hr, h.add (owns_base hv.1 hBT) (fun k b hk hb e => by
    have h1 := hX k b hk hb
    have h2 := (hv.low b (by rw [e]; simp)).1
    omega) r2 r3, r3, r4⟩

theorem heap_append {w w' : World} {own : List Nat} {pb : Nat} {o1 o2 : Value} (hp : w.heap[pb]? = some (.cells #[o1, o2] 32 (0, 0))) (hc : Chg own w w') (hn : pb ∉ own) : w'.heap[pb]? = some (.cells #[o1, o2] 32 (0, 0)) := hc.heap hp hn

/-- A row more in the first list. -/
theorem PlanVar.push0 {w0 w : World} {pb B T : Nat} {t s : List (List Int)} {v : Value} {l : List Int} (h : PlanVar w0 pb B T t s) (hB : B ≤ w0.heap.size) (hv : RowAt w0 T v l) (hBT : B ≤ T) (hn : t.length < 1000000000)
    (hw : w = w0.alloc (.cells #[v] 25) ∨ w = (w0.alloc (.cells #[v] 25)).drew) {ao : Option Addr} {n c : Nat} (hc0 : w0.cell? ⟨pb, 0, none⟩ = some (.slice ao n c)) (ty : TypeId) :
    ∃ g cap w', (Builtin.append_ #[28, 28] ty #[.slice ao n c, .slice (some ⟨w0.heap.size, 0, none⟩) 1 1]).run Try.prog w = .ok (.slice (some ⟨g, 0, none⟩) (n + 1) cap) w' ∧
      w'.frozen? ⟨pb, 0, none⟩ = false ∧ (∃ u, w'.cell? ⟨pb, 0, none⟩ = some u) ∧ PlanVar (w'.setCell ⟨pb, 0, none⟩ (.slice (some ⟨g, 0, none⟩) (n + 1) cap)) pb B w'.heap.size (t ++ [l]) s ∧
      ∃ own, Chg own w0 (w'.setCell ⟨pb, 0, none⟩ (.slice (some ⟨g, 0, none⟩) (n + 1) cap)) ∧ ∀ j ∈ own, j = pb ∨ (B ≤ j ∧ ∃ cs r, w0.heap[j]? = some (.cells cs 25 r)) := by
  obtain ⟨⟨o1, v1, o2, v2, h1, h2, h3, h4, h5, h6⟩, h7⟩ := h
  have e0 := (cell_of_row _ _ 0 _ _ _ h1).trans (show _ = some o1 from rfl)
  rw [hc0] at e0
  obtain rfl : Value.slice ao n c = o1 := by simpa using e0
  have hnl : n = v1.length := by
    obtain ⟨a1, c1, e⟩ := owns_shape h2.out
    simp only [Value.slice.injEq] at e
    exact e.2.1
  subst hnl
  obtain ⟨g, cap, w', hr, r1, r2, r3⟩ := run_row h2 hB hv hBT h5 (by have := h2.len; omega) hw ty
  have hno : pb ∉ (Value.slice ao v1.length c).ownBlock.toList := fun e => owns_other h2.out h1 (by decide) (by simpa using e)
  have hp := r2.heap h1 hno
  have h3' : RowsOwn w' B o2 v2 s := h3.chg r2 (fun b hb e => by
      rcases h4 with q | q
      · rw [q] at e; simp at e
      · simp at e; exact q (e.trans hb.symm)) (fun k b hk hb e => by
      rcases owns_two h2.out (h3.rows k hk) (by decide) with q | q
      · rw [q] at e; simp at e
      · simp at e; exact q (e.trans hb.symm))
  have hset : Chg [pb] w' (w'.setCell ⟨pb, 0, none⟩ (.slice (some ⟨g, 0, none⟩) (v1.length + 1) cap)) := (Chg.refl _ _).setCell (Or.inl (by simp)) _
  have keep : ∀ {ov : Value} {vs : List Value} {ll : List (List Int)}, RowsOwn w' B ov vs ll → RowsOwn (w'.setCell ⟨pb, 0, none⟩ (.slice (some ⟨g, 0, none⟩) (v1.length + 1) cap)) B ov vs ll := fun hr => hr.chg hset
    (fun b hb e => owns_other hr.out hp (by decide) (by rw [hb, List.mem_singleton.1 e])) (fun k b hk hb e => owns_other (hr.rows k hk) hp (by decide) (by rw [hb, List.mem_singleton.1 e]))
  have hx := row_below r1
  have hx3 := row_below h3'
  refine ⟨g, cap, w', hr, free_at hp 0, ⟨_, (cell_of_row _ _ 0 _ _ _ hp).trans rfl⟩, ⟨⟨_, _, o2, v2, heap_setCell_same hp 0 _, keep r1, keep h3', ?_, hx, hx3⟩, ?_⟩, pb :: (Value.slice ao v1.length c).ownBlock.toList, (r2.mono (fun j hj => Or.inl (by simp [hj]))).trans hset (fun j hj => Or.inl (by simp at hj; simp [hj])), fun j hj => ?_⟩
  · right
    intro e
    rcases r3 with q | q
    · rcases h4 with r | r
      · rw [r] at q; cases q
      · rw [q] at r; exact r e
    · have : g < w0.heap.size := owns_lt h3.out e.symm
      omega
  · intro m hm
    rw [List.append_assoc] at hm
    rcases List.mem_append.1 hm with q | q
    · exact h7 m (List.mem_append.2 (Or.inl q))
    · rcases List.mem_append.1 q with q | q
      · rw [List.mem_singleton.1 q]; exact hv.2
      · exact h7 m (List.mem_append.2 (Or.inr q))
  · rcases List.mem_cons.1 hj with q | q
    · exact Or.inl q
    · obtain ⟨cs, hh⟩ := owns_kind h2.out (by simpa using q)
      exact Or.inr ⟨(h2.out.lt j (by simpa using q)).1, cs, _, hh⟩

/-- A row more in the second list. -/
theorem PlanVar.push1 {w0 w : World} {pb B T : Nat} {t s : List (List Int)} {v : Value} {l : List Int} (h : PlanVar w0 pb B T t s) (hB : B ≤ w0.heap.size) (hv : RowAt w0 T v l) (hBT : B ≤ T) (hn : s.length < 1000000000)
    (hw : w = w0.alloc (.cells #[v] 25) ∨ w = (w0.alloc (.cells #[v] 25)).drew) {ao : Option Addr} {n c : Nat} (hc0 : w0.cell? ⟨pb, 1, none⟩ = some (.slice ao n c)) (ty : TypeId) :
    ∃ g cap w', (Builtin.append_ #[28, 28] ty #[.slice ao n c, .slice (some ⟨w0.heap.size, 0, none⟩) 1 1]).run Try.prog w = .ok (.slice (some ⟨g, 0, none⟩) (n + 1) cap) w' ∧
      w'.frozen? ⟨pb, 1, none⟩ = false ∧ (∃ u, w'.cell? ⟨pb, 1, none⟩ = some u) ∧ PlanVar (w'.setCell ⟨pb, 1, none⟩ (.slice (some ⟨g, 0, none⟩) (n + 1) cap)) pb B w'.heap.size t (s ++ [l]) ∧
      ∃ own, Chg own w0 (w'.setCell ⟨pb, 1, none⟩ (.slice (some ⟨g, 0, none⟩) (n + 1) cap)) ∧ ∀ j ∈ own, j = pb ∨ (B ≤ j ∧ ∃ cs r, w0.heap[j]? = some (.cells cs 25 r)) := by
  obtain ⟨⟨o1, v1, o2, v2, h1, h2, h3, h4, h5, h6⟩, h7⟩ := h
  have e0 := (cell_of_row _ _ 1 _ _ _ h1).trans (show _ = some o2 from rfl)
  rw [hc0] at e0
  obtain rfl : Value.slice ao n c = o2 := by simpa using e0
  have hnl : n = v2.length := by
    obtain ⟨a1, c1, e⟩ := owns_shape h3.out
    simp only [Value.slice.injEq] at e
    exact e.2.1
  subst hnl
  obtain ⟨g, cap, w', hr, r1, r2, r3⟩ := run_row h3 hB hv hBT h6 (by have := h3.len; omega) hw ty
  have hno : pb ∉ (Value.slice ao v2.length c).ownBlock.toList := fun e => owns_other h3.out h1 (by decide) (by simpa using e)
  have hp := r2.heap h1 hno
  have h2' : RowsOwn w' B o1 v1 t := h2.chg r2 (fun b hb e => by
      rcases h4 with q | q
      · rw [q] at hb; cases hb
      · simp at e; exact q (hb.trans e.symm)) (fun k b hk hb e => by
      rcases owns_two h3.out (h2.rows k hk) (by decide) with q | q
      · rw [q] at e; simp at e
      · simp at e; exact q (e.trans hb.symm))
  have hset : Chg [pb] w' (w'.setCell ⟨pb, 1, none⟩ (.slice (some ⟨g, 0, none⟩) (v2.length + 1) cap)) := (Chg.refl _ _).setCell (Or.inl (by simp)) _
  have keep : ∀ {ov : Value} {vs : List Value} {ll : List (List Int)}, RowsOwn w' B ov vs ll → RowsOwn (w'.setCell ⟨pb, 1, none⟩ (.slice (some ⟨g, 0, none⟩) (v2.length + 1) cap)) B ov vs ll := fun hr => hr.chg hset
    (fun b hb e => owns_other hr.out hp (by decide) (by rw [hb, List.mem_singleton.1 e])) (fun k b hk hb e => owns_other (hr.rows k hk) hp (by decide) (by rw [hb, List.mem_singleton.1 e]))
  have hx := row_below r1
  have hx2 := row_below h2'
  refine ⟨g, cap, w', hr, free_at hp 1, ⟨_, (cell_of_row _ _ 1 _ _ _ hp).trans rfl⟩, ⟨⟨o1, v1, _, _, heap_setCell_same hp 1 _, keep h2', keep r1, ?_, hx2, hx⟩, ?_⟩, pb :: (Value.slice ao v2.length c).ownBlock.toList, (r2.mono (fun j hj => Or.inl (by simp [hj]))).trans hset (fun j hj => Or.inl (by simp at hj; simp [hj])), fun j hj => ?_⟩
  · cases hq : o1.ownBlock with
    | none => exact Or.inl rfl
    | some b =>
      right
      intro e
      have e : some b = some g := e
      rcases r3 with q | q
      · rcases h4 with r | r
        · rw [r] at hq; cases hq
        · exact r (hq.trans (e.trans q.symm))
      · have := owns_lt h2.out hq
        cases e
        omega
  · intro m hm
    rw [← List.append_assoc] at hm
    rcases List.mem_append.1 hm with q | q
    · exact h7 m q
    · rw [List.mem_singleton.1 q]; exact hv.2
  · rcases List.mem_cons.1 hj with q | q
    · exact Or.inl q
    · obtain ⟨cs, hh⟩ := owns_kind h3.out (by simpa using q)
      exact Or.inr ⟨(h3.out.lt j (by simpa using q)).1, cs, _, hh⟩

/-- An append whose outcome is known, at an operation of a drawn region. -/
theorem wp_apprun {o : Oper} {a : Act} {K : Act → World → Prop} {Q : Exit → Act → World → Prop} {w w' : World} (s x : Operand) (t : TypeId) (ho : o.op = .call { callee := .builtin .append, args := #[s, x], argTypes := #[t, t] }) {v u r : Value} (hs : a.eval s = v) (hx : a.eval x = u)
    (hr : (Builtin.append_ #[t, t] o.type #[v, u]).run Try.prog w = .ok r w') (hK : K (a.put o.dst r) w') : o.wp Try.prog a w K Q := by
  unfold Oper.wp execOp
  simp only [ho, resolve, invoke, builtin, Sem.run_bind, Sem.run_pure, Result.andThen_ok, List.map_toArray, List.map_cons, List.map_nil, hs, hx, hr]
  exact hK

end Go.Proofs.Ytpbljifejopecaa
/- plan.Clean: its contract. Conditions: a plan that lies in memory and reads so, of a bounded size. -/
namespace Go.Proofs.Ytpbljifejopecaa
open Go.RowKit Go.Maps

theorem RowsAt.rowc {w : World} {tno : Option Addr} {n tc : Nat} {ll : List (List Int)} (h : RowsAt w (.slice tno n tc) ll) {k : Nat} (hk : k < ll.length) : ∃ b off u, tno = some ⟨b, off, none⟩ ∧ w.cell? ⟨b, off + k, none⟩ = some u ∧ CapOk u ∧ IntsAt w u (ll.getD k []) := by
  obtain ⟨ao, cap, e, -, h2⟩ := h
  simp only [Value.slice.injEq] at e
  obtain ⟨rfl, rfl, rfl⟩ := e
  obtain ⟨b, off, u, rfl, h3, h4, h5⟩ := h2 k hk
  exact ⟨b, off, u, rfl, h3, h4, h5⟩

namespace Plain
theorem map_take_snoc {f : List Int → List Int} {L : List (List Int)} {k : Nat} (hk : k < L.length) : (L.take (k + 1)).map f = (L.take k).map f ++ [f (L.getD k [])] := by
  rw [List.take_succ_eq_append_getElem hk, List.map_append]
  simp [List.getD, hk]
end Plain

set_option maxRecDepth 100000 in
set_option maxHeartbeats 4000000 in
theorem clean_any (vx : Value) (turn same : List (List Int)) (w : World) (hTL : turn.length < 1000000000) (hSL : same.length < 1000000000) (htr : ∀ i, (turn.getD i []).length < 1000000000) (hsr : ∀ i, (same.getD i []).length < 1000000000) (hx : PlAt w vx turn same) :
    Calls Try.prog 48 #[vx] w fun e w' => ∃ vy, e = .returned vy ∧ (∀ own wx, Chg own w' wx → (∀ j ∈ own, j < w.heap.size) → PlAt wx vy (turn.map Plain.first) same) ∧ Chg [] w w' := by
  obtain ⟨t1, t2, rfl, ht, hs⟩ := hx
  have HT := Lib.hid ht
  have HS := Lib.hid hs
  have HTR := Lib.hid htr
  have HSR := Lib.hid hsr
  obtain ⟨tno, tc, rfl, htm, -⟩ := ht
  obtain ⟨so, sc, rfl, hsm2, -⟩ := hs
  obtain ⟨hb1, hb2, hc1⟩ := box_two w #[.slice tno turn.length tc, .slice so same.length sc] #[.slice none 0 0, .slice none 0 0] 32 32
  have hpv := PlanVar.made ((w.alloc (.cells #[.slice tno turn.length tc, .slice so same.length sc] 32)).alloc (.cells #[.slice none 0 0, .slice none 0 0] 32)) (w.heap.size + 3) (w.heap.size + 3)
  have hc2 := (Chg.refl [] ((w.alloc (.cells #[.slice tno turn.length tc, .slice so same.length sc] 32)).alloc (.cells #[.slice none 0 0, .slice none 0 0] 32))).alloc (.cells #[.slice none 0 0, .slice none 0 0] 32)
  rw [show ((w.alloc (.cells #[.slice tno turn.length tc, .slice so same.length sc] 32)).alloc (.cells #[.slice none 0 0, .slice none 0 0] 32)).heap.size = w.heap.size + 2 by simp] at hpv
  have B1 := Lib.hid (hc2.heap hb1 (by simp))
  have B2 := Lib.hid (hc2.heap hb2 (by simp))
  have HPV := Lib.hid hpv
  have HC1 := Lib.hid (hc1.trans hc2 (by simp))
  have z0 := (cell_of_row _ _ 0 _ _ _ B1.out).trans (show _ = some (Value.slice tno turn.length tc) from rfl)
  have hsz : (((w.alloc (.cells #[.slice tno turn.length tc, .slice so same.length sc] 32)).alloc (.cells #[.slice none 0 0, .slice none 0 0] 32)).alloc (.cells #[.slice none 0 0, .slice none 0 0] 32)).heap.size = w.heap.size + 3 := by simp
  have HSZ := Lib.hid hsz
  clear htr hsr hb1 hb2 hc1 hpv hc2 hsz
  go_enter Try.func48, Try.ntmps48
  go_wp2
  generalize (((w.alloc (.cells #[.slice tno turn.length tc, .slice so same.length sc] 32)).alloc (.cells #[.slice none 0 0, .slice none 0 0] 32)).alloc (.cells #[.slice none 0 0, .slice none 0 0] 32)) = w1 at *
  clear z0
  go_loopw [11] (fun c wr => ∃ k : Nat, k ≤ turn.length ∧ c = .int .i64 k ∧ PlanVar wr (w.heap.size + 2) (w.heap.size + 3) wr.heap.size ((turn.take k).map Plain.first) [] ∧ Chg [w.heap.size + 2] w1 wr) (fun c _ => turn.length - (intOf c).toNat)
  case atStart => exact ⟨0, Nat.zero_le _, rfl, by simpa [HSZ.out] using HPV.out, Chg.refl _ _⟩
  case round =>
    obtain ⟨k, hk, rfl, hpv, hc⟩ := hrel
    have HV := Lib.hid hpv
    have HC := Lib.hid hc
    have HCW := Lib.hid (HC1.out.trans hc (fun j hj => Or.inr (by simp at hj; omega)))
    have z0 := hc.cell ((cell_of_row _ _ 0 _ _ _ B1.out).trans (show _ = some (Value.slice tno turn.length tc) from rfl)) (by simp)
    by_cases hlt : k < turn.length
    · obtain ⟨tb, toff, u, rfl, tcell, hcap, hrow⟩ := (HT.out.fresh HCW.out).rowc hlt
      obtain ⟨a1, c1, a2, c2, p0, -⟩ := hpv.cells
      have HCAP := Lib.hid hcap
      have hTl := HTR.out k
      have HMS := Lib.hid (Plain.map_take_snoc (f := Plain.first) hlt)
      have hml : ((turn.take k).map Plain.first).length < 1000000000 := by simp; omega
      have HB := Lib.hid (show w.heap.size + 3 ≤ wr.heap.size by have := hc.size; have := HSZ.out; omega)
      have HP0 := Lib.hid p0
      obtain ⟨T, hT⟩ : ∃ T, turn.getD k [] = T := ⟨_, rfl⟩
      rw [hT] at hrow hTl HMS
      have HROW := Lib.hid hrow
      obtain ⟨uo, uc, rfl, -⟩ := hrow
      obtain ⟨L, hL⟩ : ∃ L, (turn.take k).map Plain.first = L := ⟨_, rfl⟩
      rw [hL] at HV HMS hml p0 HP0
      clear hpv hc hcap hT hL
      go_wp2
      have hS0 : Chg [] wr wr.drew := (Chg.refl [] wr).drew
      refine wp_region_way (Chg [] wr) [0, 1, 2] (Way.line [0, 1, 2, 3, 4, 5, 6, 7] .done) (by kernel_rfl) (by kernel_rfl) ?_
      simp only [Way.line]
      repeat
        first
          | (refine along_off rfl (by rfl) (by rfl) (fun _ _ _ h => h) hS0 ?_; simp only [Act.put, List.getElem_toArray, List.getElem_cons_zero, List.getElem_cons_succ, List.setIfInBounds_toArray, List.set_cons_zero, List.set_cons_succ])
          | (refine along_read (v := ?_) rfl (by rfl) (by rfl) (fun _ _ _ h => h) hS0 (fun w' hS' => ?_) ?_; rotate_left; (focus (have rd0 := hS'.cell p0 (by simp); have rd1 := hS'.cell tcell (by simp); clear hS'; go_simp; try with_reducible rfl)); simp only [Act.put, List.getElem_toArray, List.getElem_cons_zero, List.getElem_cons_succ, List.setIfInBounds_toArray, List.set_cons_zero, List.set_cons_succ])
          | (refine along_skip rfl (by rfl) (by rfl) hS0 ?_; simp only [Act.put, List.getElem_toArray, List.getElem_cons_zero, List.getElem_cons_succ, List.setIfInBounds_toArray, List.set_cons_zero, List.set_cons_succ])
      refine along_op rfl (by rfl) (by rfl) (fun K hK => ?_)
      go_simp
      refine (first_any _ T _ (by omega) HCAP.out (HROW.out.fresh hS0)).mono ?_
      rintro e w3 ⟨v', rfl, hrv, hcx⟩
      have hS1 := hS0.trans hcx (by simp)
      clear hS0 hcx
      have hS0 := hS1
      clear hS1
      refine hK.out _ _ (fun _ => hS0) ?_
      clear hK K
      try simp only [Act.put, List.getElem_toArray, List.getElem_cons_zero, List.getElem_cons_succ, List.setIfInBounds_toArray, List.set_cons_zero, List.set_cons_succ]
      obtain ⟨vo, vc, rfl⟩ := hrv.shape
      have HRV := Lib.hid hrv
      have HS3 := Lib.hid hS0
      refine along_op rfl (by rfl) (by rfl) (fun K hK => ?_)
      go_simp
      refine hK.out _ _ (fun _ => hS0.alloc _) ?_
      clear hK K hrv
      try simp only [Act.put, List.getElem_toArray, List.getElem_cons_zero, List.getElem_cons_succ, List.setIfInBounds_toArray, List.set_cons_zero, List.set_cons_succ]
      obtain ⟨g5, q5, w5, hr5, hf5, ⟨u5, hu5⟩, hv5, own5, hc5, ho5⟩ := (HV.out.fresh HS3.out).push0 (by have := HS3.out.size; have := HB.out; omega) HRV.out HB.out hml (Or.inl rfl) (HS3.out.cell HP0.out (by simp)) 28
      have HV5 := Lib.hid hv5
      have HC5 := Lib.hid hc5
      have HO5 := Lib.hid ho5
      clear hv5 hc5 ho5
      refine along_op rfl (by rfl) (by rfl) (fun K hK => ?_)
      simp only [List.getElem_toArray, List.getElem_cons_zero, List.getElem_cons_succ]
      refine wp_apprun (.tmp 16) (.tmp 19) 28 rfl rfl rfl hr5 ?_
      refine hK.out _ _ (fun h => absurd h (Bool.eq_false_iff.1 (by kernel_rfl))) ?_
      clear hK K hr5
      try simp only [Act.put, List.setIfInBounds_toArray, List.set_cons_zero, List.set_cons_succ]
      refine along_op rfl (by rfl) (by rfl) (fun K hK => ?_)
      go_simp
      refine hK.out _ _ (fun h => absurd h (Bool.eq_false_iff.1 (by kernel_rfl))) ?_
      clear hK K
      try simp only [Act.put, List.getElem_toArray, List.getElem_cons_zero, List.getElem_cons_succ, List.setIfInBounds_toArray, List.set_cons_zero, List.set_cons_succ]
      refine along_op rfl (by rfl) (by rfl) (fun K hK => ?_)
      go_simp
      refine hK.out _ _ (fun h => absurd h (Bool.eq_false_iff.1 (by kernel_rfl))) ?_
      clear hK K hu5 hf5 p0 tcell hS0
      try simp only [Act.put, List.getElem_toArray, List.getElem_cons_zero, List.getElem_cons_succ, List.setIfInBounds_toArray, List.set_cons_zero, List.set_cons_succ]
      refine along_done ?_
      generalize (w5.setCell ⟨w.heap.size + 2, 0, none⟩ (.slice (some ⟨g5, 0, none⟩) (L.length + 1) q5)) = w6 at *
      have HC6 := Lib.hid (show Chg [w.heap.size + 2] w1 w6 from HC.out.trans ((HS3.out.mono (by simp)).trans HC5.out (fun j hj => Or.inl hj) : Chg own5 wr w6) (fun j hj => (HO5.out j hj).imp (fun e => by simp [e]) (fun h => by have := HSZ.out; omega)))
      go_wp2
      go_roundw
      case rel => exact ⟨k + 1, by omega, by go_num, by rw [HMS.out]; exact HV5.out.up (Nat.le_refl _), HC6.out⟩
      case measure => simp [intOf]; omega
    · have e : k = turn.length := by omega
      subst e
      rw [List.take_length] at HV
      have z1 := hc.cell ((cell_of_row _ _ 1 _ _ _ B1.out).trans (show _ = some (Value.slice so same.length sc) from rfl)) (by simp)
      clear hpv z0
      go_wp2
      clear z1
      obtain ⟨TT, hTT⟩ : ∃ TT, turn.map Plain.first = TT := ⟨_, rfl⟩
      have HTT := Lib.hid hTT
      rw [hTT] at HV
      clear hTT
      rename World => wo
      go_loopw [26] (fun c wr => ∃ k : Nat, k ≤ same.length ∧ c = .int .i64 k ∧ PlanVar wr (w.heap.size + 2) (w.heap.size + 3) wr.heap.size TT (same.take k) ∧ Chg [w.heap.size + 2] w1 wr) (fun c _ => same.length - (intOf c).toNat)
      case atStart => exact ⟨0, Nat.zero_le _, rfl, by simpa using HV.out, HC.out⟩
      case round =>
        clear HV HC HCW hc
        obtain ⟨k, hk, rfl, hpv, hc⟩ := hrel
        have HV := Lib.hid hpv
        have HC := Lib.hid hc
        have HCW := Lib.hid (HC1.out.trans hc (fun j hj => Or.inr (by simp at hj; omega)))
        by_cases hlt : k < same.length
        · obtain ⟨tb, toff, u, rfl, tcell, -, hrow⟩ := (HS.out.fresh HCW.out).rowc hlt
          obtain ⟨a1, c1, a2, c2, -, p1⟩ := hpv.cells
          have hTl := HSR.out k
          have HMS := Lib.hid (show same.take (k + 1) = same.take k ++ [same.getD k []] by rw [List.take_succ_eq_append_getElem hlt]; simp [List.getD, hlt])
          have hml : (same.take k).length < 1000000000 := by simp; omega
          have HB := Lib.hid (show w.heap.size + 3 ≤ wr.heap.size by have := hc.size; have := HSZ.out; omega)
          have HP0 := Lib.hid p1
          obtain ⟨T, hT⟩ : ∃ T, same.getD k [] = T := ⟨_, rfl⟩
          rw [hT] at hrow hTl HMS
          have HROW := Lib.hid hrow
          obtain ⟨uo, uc, rfl, -⟩ := hrow
          obtain ⟨L, hL⟩ : ∃ L, same.take k = L := ⟨_, rfl⟩
          rw [hL] at HV HMS hml p1 HP0
          clear hpv hc hT hL
          go_wp2
          have hS0 : Chg [] wr wr.drew := (Chg.refl [] wr).drew
          refine wp_region_way (Chg [] wr) [0, 1, 2] (Way.line [0, 1, 2, 3, 4, 5, 6, 7] .done) (by kernel_rfl) (by kernel_rfl) ?_
          simp only [Way.line]
          repeat
            first
              | (refine along_off rfl (by rfl) (by rfl) (fun _ _ _ h => h) hS0 ?_; simp only [Act.put, List.getElem_toArray, List.getElem_cons_zero, List.getElem_cons_succ, List.setIfInBounds_toArray, List.set_cons_zero, List.set_cons_succ])
              | (refine along_read (v := ?_) rfl (by rfl) (by rfl) (fun _ _ _ h => h) hS0 (fun w' hS' => ?_) ?_; rotate_left; (focus (have rd0 := hS'.cell p1 (by simp); have rd1 := hS'.cell tcell (by simp); clear hS'; go_simp; try with_reducible rfl)); simp only [Act.put, List.getElem_toArray, List.getElem_cons_zero, List.getElem_cons_succ, List.setIfInBounds_toArray, List.set_cons_zero, List.set_cons_succ])
              | (refine along_skip rfl (by rfl) (by rfl) hS0 ?_; simp only [Act.put, List.getElem_toArray, List.getElem_cons_zero, List.getElem_cons_succ, List.setIfInBounds_toArray, List.set_cons_zero, List.set_cons_succ])
          refine along_op rfl (by rfl) (by rfl) (fun K hK => ?_)
          go_simp
          refine (clone_any _ T _ (by omega) (HROW.out.fresh hS0)).mono ?_
          rintro e w3 ⟨v', rfl, hrv, hcx⟩
          have hS1 := hS0.trans hcx (by simp)
          clear hS0 hcx
          have hS0 := hS1
          clear hS1
          refine hK.out _ _ (fun _ => hS0) ?_
          clear hK K
          try simp only [Act.put, List.getElem_toArray, List.getElem_cons_zero, List.getElem_cons_succ, List.setIfInBounds_toArray, List.set_cons_zero, List.set_cons_succ]
          obtain ⟨vo, vc, rfl⟩ := hrv.shape
          have HRV := Lib.hid hrv
          have HS3 := Lib.hid hS0
          refine along_op rfl (by rfl) (by rfl) (fun K hK => ?_)
          go_simp
          refine hK.out _ _ (fun _ => hS0.alloc _) ?_
          clear hK K hrv
          try simp only [Act.put, List.getElem_toArray, List.getElem_cons_zero, List.getElem_cons_succ, List.setIfInBounds_toArray, List.set_cons_zero, List.set_cons_succ]
          obtain ⟨g5, q5, w5, hr5, hf5, ⟨u5, hu5⟩, hv5, own5, hc5, ho5⟩ := (HV.out.fresh HS3.out).push1 (by have := HS3.out.size; have := HB.out; omega) HRV.out HB.out hml (Or.inl rfl) (HS3.out.cell HP0.out (by simp)) 28
          have HV5 := Lib.hid hv5
          have HC5 := Lib.hid hc5
          have HO5 := Lib.hid ho5
          clear hv5 hc5 ho5
          refine along_op rfl (by rfl) (by rfl) (fun K hK => ?_)
          simp only [List.getElem_toArray, List.getElem_cons_zero, List.getElem_cons_succ]
          refine wp_apprun (.tmp 31) (.tmp 34) 28 rfl rfl rfl hr5 ?_
          refine hK.out _ _ (fun h => absurd h (Bool.eq_false_iff.1 (by kernel_rfl))) ?_
          clear hK K hr5
          try simp only [Act.put, List.setIfInBounds_toArray, List.set_cons_zero, List.set_cons_succ]
          refine along_op rfl (by rfl) (by rfl) (fun K hK => ?_)
          go_simp
          refine hK.out _ _ (fun h => absurd h (Bool.eq_false_iff.1 (by kernel_rfl))) ?_
          clear hK K
          try simp only [Act.put, List.getElem_toArray, List.getElem_cons_zero, List.getElem_cons_succ, List.setIfInBounds_toArray, List.set_cons_zero, List.set_cons_succ]
          refine along_op rfl (by rfl) (by rfl) (fun K hK => ?_)
          go_simp
          refine hK.out _ _ (fun h => absurd h (Bool.eq_false_iff.1 (by kernel_rfl))) ?_
          clear hK K hu5 hf5 p1 tcell hS0
          try simp only [Act.put, List.getElem_toArray, List.getElem_cons_zero, List.getElem_cons_succ, List.setIfInBounds_toArray, List.set_cons_zero, List.set_cons_succ]
          refine along_done ?_
          generalize (w5.setCell ⟨w.heap.size + 2, 1, none⟩ (.slice (some ⟨g5, 0, none⟩) (L.length + 1) q5)) = w6 at *
          have HC6 := Lib.hid (show Chg [w.heap.size + 2] w1 w6 from HC.out.trans ((HS3.out.mono (by simp)).trans HC5.out (fun j hj => Or.inl hj) : Chg own5 wr w6) (fun j hj => (HO5.out j hj).imp (fun e => by simp [e]) (fun h => by have := HSZ.out; omega)))
          go_wp2
          go_roundw
          case rel => exact ⟨k + 1, by omega, by go_num, by rw [HMS.out]; exact HV5.out.up (Nat.le_refl _), HC6.out⟩
          case measure => simp [intOf]; omega
        · have e : k = same.length := by omega
          subst e
          rw [List.take_length] at HV
          obtain ⟨a1, c1, a2, c2, p0, p1⟩ := HV.out.cells
          have P0 := Lib.hid p0
          have P1 := Lib.hid p1
          have b2 := HC.out.heap B2.out (by simp)
          have HB2 := Lib.hid b2
          have r0 := (cell_of_row _ _ 0 _ _ _ b2).trans (show _ = some (Value.slice none 0 0) from rfl)
          have r1 := (cell_of_row _ _ 1 _ _ _ b2).trans (show _ = some (Value.slice none 0 0) from rfl)
          have f0 := free_at b2 0
          have f1 := free_at b2 1
          have hset : Chg [w.heap.size + 1] wr ((wr.setCell ⟨w.heap.size + 1, 0, none⟩ (.slice a1 TT.length c1)).setCell ⟨w.heap.size + 1, 1, none⟩ (.slice a2 same.length c2)) := ((Chg.refl _ wr).setCell (Or.inl (by simp)) _).setCell (Or.inl (by simp)) _
          have hheap := heap_setCell_same (heap_setCell_same b2 0 (.slice a1 TT.length c1)) 1 (.slice a2 same.length c2)
          have HF0 := Lib.hid ((cell_of_row _ _ 0 _ _ _ hheap).trans (show _ = some (Value.slice a1 TT.length c1) from rfl))
          have HF1 := Lib.hid ((cell_of_row _ _ 1 _ _ _ hheap).trans (show _ = some (Value.slice a2 same.length c2) from rfl))
          have hkeep := HV.out.keep hset (fun j hj => by
            have e : j = w.heap.size + 1 := by simpa using hj
            subst e
            refine ⟨by omega, fun cs u r hh => ?_⟩
            rw [b2] at hh
            simp at hh
            obtain ⟨-, rfl, -⟩ := hh
            exact ⟨by decide, by decide⟩)
          have e0 := hset.cell p0 (by simp)
          have e1 := hset.cell p1 (by simp)
          have HPL := Lib.hid (fun own wx (hcx : Chg own _ wx) (hlow : ∀ j ∈ own, j < w.heap.size) => (hkeep.low hcx (fun j hj => by have := hlow j hj; omega)).readAt (hcx.cell e0 (fun hm => by have : w.heap.size + 2 < w.heap.size := hlow _ hm; omega)) (hcx.cell e1 (fun hm => by have : w.heap.size + 2 < w.heap.size := hlow _ hm; omega)))
          have HCF := Lib.hid (HCW.out.trans hset (fun j hj => Or.inr (by simp at hj; omega)))
          clear hpv hc b2 hset hheap hkeep e0 e1
          go_wp2
          refine bodyPost_ret (v := .agg #[.slice a1 TT.length c1, .slice a2 same.length c2]) (by have h0 := HF0.out; have h1 := HF1.out; simp [results, Try.results48, go_sem, h0, h1]) rfl ?_
          exact ⟨_, rfl, fun own wx h1 h2 => by rw [HTT.out]; exact HPL.out own wx h1 h2, HCF.out⟩
end Go.Proofs.Ytpbljifejopecaa
