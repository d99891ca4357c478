/- Laws at operations, in short words: a number appended to a row of the call's own. Conditions: what each law says. -/
import Derived.Test.YtpbljifejopecaaVRow
import Derived.Test.YtpbljifejopecaaVFlat
import Derived.Test.YtpbljifejopecaaVWake
namespace Go.Proofs.Ytpbljifejopecaa
open Go.RowKit Go.Maps

theorem row_lit1 {w : World} {B : Nat} (hB : B ≤ w.heap.size) {k : Int} (hk : I64 k) : RowAt (w.alloc (.cells #[.int .i64 k] 3)) B (.slice (some ⟨w.heap.size, 0, none⟩) 1 1) [k] :=
  ⟨World.ownsRow_lit w #[.int .i64 k] 1 hB (by decide) rfl, by simpa using hk, by simp⟩

/-- 'append(l, x)'. -/
theorem wl_push {ops : Array Oper} {rest : List Oper} {o : Oper} {a : Act} {Q : Exit → Act → World → Prop} {w w0 : World} (hg : o.guard = none) (s x : Operand) (ho : o.op = .call { callee := .builtin .append, args := #[s, x], argTypes := #[25, 25] })
    {B : Nat} {v : Value} {l : List Int} {k : Int} (hs : a.eval s = v) (hx : a.eval x = .slice (some ⟨w0.heap.size, 0, none⟩) 1 1) (h : RowAt w0 B v l) (hk : I64 k) (hB : B ≤ w0.heap.size) (hn : l.length < 4294967290) (hw : w = w0.alloc (.cells #[.int .i64 k] 3))
    (hK : ∀ v' w', RowAt w' B v' (l ++ [k]) → Chg (foot v) w0 w' → (∀ b ∈ foot v', b ∈ foot v ∨ w0.heap.size ≤ b) → wpList Try.prog ops Q rest (a.put o.dst v') w') : wpList Try.prog ops Q (o :: rest) a w := by
  subst hw
  have hc := (Chg.refl [] w0).alloc (.cells #[.int .i64 k] 3)
  refine wl_cat hg s x ho hs hx (h.chg hc (by simp)) (row_lit1 (B := w0.heap.size) (Nat.le_refl _) hk) (Nat.le_trans hB hc.size) (by simp; omega) fun v' w' r1 r2 r3 => hK v' w' r1 ((hc.mono (by simp)).trans r2 fun j hj => Or.inl hj) fun b hb => (r3 b hb).imp id fun q => Nat.le_trans hc.size q

/-- One cell of a list that is read. -/
theorem IntsAt.cellAt {w : World} {ao : Option Addr} {n c : Nat} {l : List Int} (h : IntsAt w (.slice ao n c) l) {i : Nat} (hi : i < l.length) : ∃ b off, ao = some ⟨b, off, none⟩ ∧ w.cell? ⟨b, off + i, none⟩ = some (.int .i64 (l.getD i 0)) := by
  obtain ⟨ao', c', e', -, -, h⟩ := h
  simp only [Value.slice.injEq] at e'
  obtain ⟨rfl, -, rfl⟩ := e'
  obtain ⟨b, off, rfl, h2⟩ := h (by intro q; rw [q] at hi; simp at hi)
  exact ⟨b, off, rfl, h2 i hi⟩

/-- One row of a list of lists that is read. -/
theorem RowsAt.row {w : World} {tno : Option Addr} {n tc : Nat} {ll : List (List Int)} (h : RowsAt w (.slice tno n tc) ll) {k : Nat} (hk : k < ll.length) : ∃ b off uo uc, tno = some ⟨b, off, none⟩ ∧ w.cell? ⟨b, off + k, none⟩ = some (.slice uo (ll.getD k []).length uc) ∧ IntsAt w (.slice uo (ll.getD k []).length uc) (ll.getD k []) := by
  obtain ⟨ao, cap, e, -, h2⟩ := h
  simp only [Value.slice.injEq] at e
  obtain ⟨rfl, rfl, rfl⟩ := e
  obtain ⟨b, off, u, rfl, h3, -, h5⟩ := h2 k hk
  have h6 := h5
  obtain ⟨uo, uc, rfl, -⟩ := h5
  exact ⟨b, off, uo, uc, rfl, h3, h6⟩

theorem rowNil' (w : World) (B : Nat) : RowAt w B (.slice none 0 0) [] := ⟨World.ownsRow_nil _ _ _ _, by simp, by simp⟩
theorem ret_val {u v : Value} (h : u = v) : Ending.returned u = .returned v := by rw [h]

end Go.Proofs.Ytpbljifejopecaa
/- plan.Region: its contract. Conditions: a graph, a part, a plan that lie in memory and read so, of a bounded size. -/
namespace Go.Proofs.Ytpbljifejopecaa
open Go.RowKit Go.Maps

theorem contains_any (v : Value) (l : List Int) (x : Int) (w : World) (h : IntsAt w v l) :
    Calls Try.prog 65 #[v, .int .i64 x] w fun e w' => e = .returned (.bool (decide (x ∈ l))) ∧ w' = w := by
  obtain ⟨ao, cap, rfl, -, hm, hc⟩ := h
  cases l with
  | nil =>
    refine (Try.slices_Contains_int_empty ao cap x w).mono ?_
    rintro e w' ⟨rfl, rfl⟩
    exact ⟨ret_bool (by simp), rfl⟩
  | cons y r =>
    obtain ⟨b, off, rfl, hc2⟩ := hc (by simp)
    refine (Try.slices_Contains_int b off (y :: r).length cap (y :: r) x w (Nat.le_refl _) hm hc2).mono ?_
    rintro e w' ⟨rfl, rfl⟩
    exact ⟨ret_bool (by rw [List.take_length]; simp), rfl⟩

theorem region1_any (v : Value) (l : List Int) (kb : Nat) (x : Int) (w : World) (h : IntsAt w v l) (hk : w.cell? ⟨kb, 0, none⟩ = some (.int .i64 x)) :
    Calls Try.prog 64 #[v, .pointer (some ⟨kb, 0, none⟩)] w fun e w' => e = .returned (.bool (decide (x ∈ l))) ∧ w' = w := by
  have H := Lib.hid h
  obtain ⟨ao, cap, rfl, -, -, -⟩ := h
  go_enter Try.func64, Try.ntmps64
  go_wp2_with fail
  refine (contains_any _ l x _ H.out).mono ?_
  rintro e w' ⟨rfl, rfl⟩
  go_wp2
  go_ret
  exact ⟨rfl, rfl⟩

/-- A number for 'found at' or -1. -/
def ixOf : Option Nat → Int
  | some i => i
  | none => -1

theorem regionAt_take {ll : List (List Int)} {key : Int} {k : Nat} (hk : k < ll.length) (h : ∀ i, i < k → key ∉ ll.getD i []) (hin : key ∈ ll.getD k []) : Plain.regionAt ll key = some k := by
  unfold Plain.regionAt
  rw [List.findIdx?_eq_some_iff_getElem]
  refine ⟨hk, decide_eq_true (by simpa [List.getD, hk] using hin), fun j hj => ?_⟩
  have := h j hj
  have hjl : j < ll.length := by omega
  simpa [List.getD, hjl] using this
theorem regionAt_no {ll : List (List Int)} {key : Int} (h : ∀ i, i < ll.length → key ∉ ll.getD i []) : Plain.regionAt ll key = none := by
  rw [Plain.regionAt_none]
  intro hm
  obtain ⟨l, hl, hx⟩ := List.mem_flatten.1 hm
  obtain ⟨i, hi, rfl⟩ := List.getElem_of_mem hl
  exact h i hi (by simpa [List.getD, hi] using hx)

set_option maxRecDepth 100000 in
set_option maxHeartbeats 1000000 in
theorem regionIx_any (vt : Value) (ll : List (List Int)) (kb : Nat) (x : Int) (w : World) (h : RowsAt w vt ll) (hk : w.cell? ⟨kb, 0, none⟩ = some (.int .i64 x)) :
    Calls Try.prog 63 #[vt, .func (.func 64) #[] #[.pointer (some ⟨kb, 0, none⟩)]] w fun e w' => e = .returned (.int .i64 (ixOf (Plain.regionAt ll x))) ∧ w' = w := by
  have HT := Lib.hid h
  obtain ⟨tno, tc, rfl, hm, -⟩ := h
  have HKB := Lib.hid hk
  clear hk
  go_enter Try.func63, Try.ntmps63
  go_wp2
  go_loopw [8] (fun c wr => ∃ k : Nat, k ≤ ll.length ∧ c = .int .i64 k ∧ wr = w ∧ Hid (∀ i, i < k → x ∉ ll.getD i [])) (fun c _ => ll.length - (intOf c).toNat)
  case atStart => exact ⟨0, Nat.zero_le _, rfl, rfl, Lib.hid (by omega)⟩
  case round =>
    obtain ⟨k, hk, rfl, rfl, hno⟩ := hrel
    by_cases hlt : k < ll.length
    · obtain ⟨tb, toff, uo, uc, rfl, tcell, hrow⟩ := HT.out.row hlt
      have HROW := Lib.hid hrow
      have HHIT := Lib.hid (fun h => regionAt_take (key := x) hlt hno.out h)
      have HNO := Lib.hid (fun (h : x ∉ ll.getD k []) i (hi : i < k + 1) => show x ∉ ll.getD i [] from by
        by_cases e : i = k
        · rw [e]; exact h
        · exact hno.out i (by omega))
      obtain ⟨T, hT⟩ : ∃ T, ll.getD k [] = T := ⟨_, rfl⟩
      rw [hT] at tcell HROW HHIT HNO
      clear hrow hT
      go_wp2_with fail
      refine (region1_any _ T kb x _ HROW.out HKB.out).mono ?_
      rintro e w2 ⟨rfl, rfl⟩
      by_cases hx : x ∈ T
      · rw [decide_eq_true hx]
        have HE := Lib.hid (HHIT.out hx)
        clear hx
        go_wp2
        go_ret
        exact ⟨ret_int (by rw [HE.out]; rfl), rfl⟩
      · rw [decide_eq_false hx]
        have HE := Lib.hid (HNO.out hx)
        clear hx
        go_wp2
        go_roundw
        case rel => exact ⟨k + 1, by omega, by go_num, trivial, HE⟩
        case measure => simp [intOf]; omega
    · have e : k = ll.length := by omega
      subst e
      have HE := Lib.hid (regionAt_no hno.out)
      go_wp2
      go_ret
      exact ⟨ret_int (by rw [HE.out]; rfl), rfl⟩

/-- Lists of the call's own, read. -/
theorem RowsOwn.read {w : World} {B : Nat} {ov : Value} {vs : List Value} {ll : List (List Int)} (h : RowsOwn w B ov vs ll) (hi : ∀ l ∈ ll, (∀ x ∈ l, I64 x) ∧ l.length < 4294967296) : RowsAt w ov ll := by
  have hlen := h.len
  have hcap : ∀ {v : Value} {n : Nat} {xs : List Value} {e : TypeId}, w.ownsRow B e 1 v n xs → CapOk v := by
    intro v n xs e ho
    rcases ho.2 with ⟨rfl, _⟩ | ⟨g, cap, cur, rfl, -, -, hn, hc, -, -⟩
    · exact ⟨none, 0, 0, rfl, by decide, by decide⟩
    · exact ⟨_, _, _, rfl, hn, by unfold maxLen at hc; omega⟩
  rcases h.out.2 with ⟨rfl, h0⟩ | ⟨g, cap, cur, rfl, -, -, hn, hc, -, -⟩
  · have : ll = [] := List.length_eq_zero_iff.1 (by omega)
    subst this
    exact ⟨none, 0, rfl, by decide, fun i hi => absurd hi (by simp)⟩
  · refine ⟨_, cap, by rw [hlen], by unfold maxLen at hc; omega, fun i hi2 => ?_⟩
    have hiv : i < vs.length := by omega
    have hrow := h.rows i hiv
    have hcell := h.out.cellAt i (by omega)
    have hm : ll.getD i [] ∈ ll := by simp [List.getD, hi2]
    refine ⟨g, 0, vs.getD i undef, rfl, ?_, hcap hrow, RowAt.ints (B := B) ⟨hrow, hi _ hm⟩⟩
    rw [Nat.zero_add, hcell]
    simp [List.getD, hiv]

namespace Plain
/-- What plan.Region answers. -/
noncomputable def regionRes (g : Gr) (p : Pt) (turn same : List (List Int)) (key : Int) : Int × Bool :=
  if planErr g p turn same ≠ 0 then (0, false) else match regionAt (regionsOf g p turn same) key with
    | some i => ((i : Int), true)
    | none => (0, false)

theorem regs_small {g : Gr} {p : Pt} {turn same ll : List (List Int)} (h : Parted g p turn same) (hl : IsRegs g p turn same ll) : ∀ l ∈ ll, (∀ x ∈ l, I64 x ∧ x ∈ (walksOf g p turn).map (·.1)) ∧ l.length ≤ (walksOf g p turn).length := by
  intro l hlm
  have hm := hl.perm.mem_iff.1 hlm
  have hk : ∀ x ∈ l, x ∈ (walksOf g p turn).map (·.1) := fun x hx => h.all.mem_iff.1 (List.mem_flatten.2 ⟨l, hm, hx⟩)
  refine ⟨fun x hx => ⟨?_, hk x hx⟩, ?_⟩
  · obtain ⟨f, hf, rfl⟩ := List.mem_map.1 (hk x hx)
    have := key_small h.part h.walks hf
    exact I64.mk (by omega) (by omega)
  · have hn := (nodup_flat.1 h.nodupAll).1 l hm
    have := len_le_of_sub hn hk
    rwa [List.length_map] at this
end Plain

set_option maxRecDepth 100000 in
set_option maxHeartbeats 4000000 in
theorem region_any (vg vp vx : Value) (g : Plain.Gr) (p : Plain.Pt) (turn same : List (List Int)) (key : Int) (w : World) (hpl : p.e.length ≤ 100000) (hpv : p.v.length ≤ 100000) (hTL : turn.length < 2147483648) (hS : Plain.sumLen turn turn.length < 2147483648) (hsl : same.length ≤ 10000) (hsr : ∀ i, (same.getD i []).length ≤ 10000) (hg : GrAt w vg g) (hp : PtAt w vp p) (hx : PlAt w vx turn same) :
    Calls Try.prog 23 #[vg, vp, vx, .int .i64 key] w fun e w' => e = .returned (.tuple #[.int .i64 (Plain.regionRes g p turn same key).1, .bool (Plain.regionRes g p turn same key).2]) ∧ Chg [] w w' := by
  have hmf : ∀ (fn : Fn) (first cap : Array Value) (w : World), (Instr.makeFunc fn first cap).run Try.prog w = .ok (.func fn first cap) w := fun _ _ _ _ => rfl
  have HS1 := Lib.hid hS
  have HSR := Lib.hid hsr
  clear hS hsr
  have HG := Lib.hid hg
  have HP := Lib.hid hp
  have HX := Lib.hid hx
  obtain ⟨eo, cap, rfl, hn, hm, hsm, hcell⟩ := hg
  obtain ⟨v1, v2, rfl, hv, he⟩ := hp
  obtain ⟨ao, ac, rfl, has, ham, hacell⟩ := hv
  obtain ⟨bo, bc, rfl, hbs, hbm, hbcell⟩ := he
  have HAC := Lib.hid hacell
  have HBC := Lib.hid hbcell
  obtain ⟨t1, t2, rfl, ht, hs⟩ := hx
  have HT := Lib.hid ht
  have HS := Lib.hid hs
  obtain ⟨tno, tc, rfl, htm, -⟩ := ht
  obtain ⟨so, sc, rfl, hsm2, hsc⟩ := hs
  obtain ⟨-, -, hc1⟩ := box_two w #[.int .i64 g.n, .slice eo g.e.length cap] #[.slice ao p.v.length ac, .slice bo p.e.length bc] 24 27
  obtain ⟨-, hc3⟩ := box_three w #[.int .i64 g.n, .slice eo g.e.length cap] #[.slice ao p.v.length ac, .slice bo p.e.length bc] #[.slice tno turn.length tc, .slice so same.length sc] 24 27 32
  have HC1 := Lib.hid (hc1.trans hc3 (by simp))
  have HBXS := Lib.hid (fun w2 h => three_boxes w (g := g) (p := p) (turn := turn) (same := same) (eo := eo) (ao := ao) (bo := bo) (tno := tno) (so := so) (cap := cap) (ac := ac) (bc := bc) (tc := tc) (sc := sc) (w2 := w2) h)
  clear hcell hacell hbcell hsm hbs has hn hc1 hc3 hsc
  obtain ⟨w3, hw3⟩ : ∃ w3, ((((w.alloc (.cells #[.int .i64 g.n, .slice eo g.e.length cap] 24)).alloc (.cells #[.slice ao p.v.length ac, .slice bo p.e.length bc] 27)).alloc (.cells #[.slice tno turn.length tc, .slice so same.length sc] 32))) = w3 := ⟨_, rfl⟩
  have hk1 := heap_alloc_new w3 (.cells #[.int .i64 key] 3)
  have hsz3 : w3.heap.size = w.heap.size + 3 := by rw [← hw3]; simp
  rw [hsz3] at hk1
  have HK := Lib.hid ((cell_of_row _ _ 0 _ _ _ hk1).trans (show _ = some (Value.int .i64 key) from rfl))
  have HC4 := Lib.hid ((Chg.refl [] w3).alloc (.cells #[.int .i64 key] 3))
  rw [hw3] at HC1 HBXS
  obtain ⟨x0, x1, y0, y1, z0, z1, hsz⟩ := HBXS.out _ HC4.out
  subst hw3
  clear hk1 hsz3
  go_enter Try.func23, Try.ntmps23
  go_wp2_with fail
  generalize hw4 : ((((w.alloc (.cells #[.int .i64 g.n, .slice eo g.e.length cap] 24)).alloc (.cells #[.slice ao p.v.length ac, .slice bo p.e.length bc] 27)).alloc (.cells #[.slice tno turn.length tc, .slice so same.length sc] 32)).alloc (.cells #[.int .i64 key] 3)) = w4 at *
  have HCW := Lib.hid (HC1.out.trans HC4.out (by simp))
  refine (regions_any _ _ _ g p turn same _ hpl hpv hTL HS1.out hsl HSR.out (HG.out.fresh HCW.out) (HP.out.fresh HCW.out) (HX.out.fresh HCW.out)).mono ?_
  rintro e w5 ⟨ov, rfl, herr, hres, hc5⟩
  have HC5 := Lib.hid (HCW.out.trans hc5 (by simp))
  have hkc := hc5.cell HK.out (by simp)
  clear x0 x1 y0 y1 z0 z1 hsz
  by_cases hz : Plain.planErr g p turn same = 0
  · obtain ⟨vs, ll, h1, h2, h3, h4⟩ := hres hz
    have hpt := Plain.parted hz h4
    have hreg : Plain.IsRegs g p turn same ll := ⟨h2, h3⟩
    have hsm := Plain.regs_small hpt hreg
    have hwl := h4.len
    have HRD := Lib.hid (h1.read fun l hl => ⟨fun x hx => ((hsm l hl).1 x hx).1, by have := (hsm l hl).2; omega⟩)
    have HRS := Lib.hid (show Plain.regionRes g p turn same key = match Plain.regionAt ll key with | some i => ((i : Int), true) | none => (0, false) by unfold Plain.regionRes; rw [if_neg (by simp [hz]), hreg.eq hpt])
    rw [hz]
    obtain ⟨oo, oc, rfl⟩ := owns_shape h1.out
    clear hres herr h1 h2 h3 h4 hz hpt hreg hsm hwl hc5
    go_wp2_with fail
    refine (regionIx_any _ ll _ key _ HRD.out hkc).mono ?_
    rintro e w6 ⟨rfl, rfl⟩
    cases hr : Plain.regionAt ll key with
    | none =>
      rw [hr] at HRS
      clear hr
      rw [show ixOf none = -1 from rfl]
      have m1 : max (-1 : Int) 0 = 0 := by decide
      go_wp2
      exact bodyPost_ret (v := .tuple #[.int .i64 0, .bool false]) (by simp [results, Try.results23, go_sem]) rfl ⟨by rw [HRS.out], HC5.out⟩
    | some i =>
      rw [hr] at HRS
      clear hr
      rw [show ixOf (some i) = (i : Int) from rfl]
      have m1 : max (i : Int) 0 = (i : Int) := by omega
      go_wp2
      exact bodyPost_ret (v := .tuple #[.int .i64 i, .bool true]) (by simp [results, Try.results23, go_sem]) rfl ⟨by rw [HRS.out], HC5.out⟩
  · have hov := herr hz
    subst hov
    have HRS := Lib.hid (show Plain.regionRes g p turn same key = (0, false) by unfold Plain.regionRes; rw [if_pos hz])
    have hzb : ((Plain.planErr g p turn same) != 0) = true := by simp [hz]
    clear hres herr hz hkc hc5
    go_wp2
    exact bodyPost_ret (v := .tuple #[.int .i64 0, .bool false]) (by simp [results, Try.results23, go_sem]) rfl ⟨by rw [HRS.out], HC5.out⟩
end Go.Proofs.Ytpbljifejopecaa
