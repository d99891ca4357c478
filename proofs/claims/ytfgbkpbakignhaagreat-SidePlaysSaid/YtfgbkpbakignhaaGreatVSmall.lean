/- what is small enough to be looked at: contracts of laws 04's, 06's and 08's Small. Conditions: a graph, a part, lists that lie in memory and read so. -/
import Derived.Test.YtfgbkpbakignhaaGreatVGraphB
import Derived.Test.YtfgbkpbakignhaaGreatVSetsC
import Derived.Test.YtfgbkpbakignhaaGreatVWhole
import Derived.Test.YtfgbkpbakignhaaGreatVSums
namespace Go.Proofs.YtfgbkpbakignhaaGreat
open Go.RowKit Go.Maps

namespace Plain
def small4 (g : Gr) (p : Pt) : Bool := decide (g.e.length ≤ 60) && decide (p.v.length ≤ 60) && decide (p.e.length ≤ 60) && (decide (g.n ≤ 60) || decide (1024 < g.n))
def small6 (g : Gr) (p : Pt) (turn : List (List Int)) : Bool := small4 g p && decide (turn.length ≤ 100) && (List.range turn.length).all fun i => decide ((turn.getD i []).length ≤ 200)
def small8 (g : Gr) (p : Pt) (turn same : List (List Int)) : Bool := small6 g p turn && decide (same.length ≤ 60) && (List.range same.length).all fun i => decide ((same.getD i []).length ≤ 60)
end Plain

def bit (b : Bool) : Int := if b then 1 else 0

theorem small4_any (vg vp : Value) (g : Plain.Gr) (p : Plain.Pt) (w : World) (hg : GrAt w vg g) (hp : PtAt w vp p) :
  Calls Tryz.prog 43 #[vg, vp] w fun e w' => e = .returned (.int .i64 (bit (Plain.small4 g p))) ∧ Chg [] w w' := by
 obtain ⟨eo, cap, rfl, -, hm, -, -⟩ := hg
 obtain ⟨v1, v2, rfl, hv, he⟩ := hp
 obtain ⟨ao, ac, rfl, -, hvm, -⟩ := hv
 obtain ⟨bo, bc, rfl, -, hbm, -⟩ := he
 obtain ⟨hb1, hb2, hc1⟩ := box_two w #[.int .i64 g.n, .slice eo g.e.length cap] #[.slice ao p.v.length ac, .slice bo p.e.length bc] 24 27
 have x0 := (cell_of_row _ _ 0 _ _ _ hb1).trans (show _ = some (Value.int .i64 g.n) from rfl)
 have x1 := (cell_of_row _ _ 1 _ _ _ hb1).trans (show _ = some (Value.slice eo g.e.length cap) from rfl)
 have y0 := (cell_of_row _ _ 0 _ _ _ hb2).trans (show _ = some (Value.slice ao p.v.length ac) from rfl)
 have y1 := (cell_of_row _ _ 1 _ _ _ hb2).trans (show _ = some (Value.slice bo p.e.length bc) from rfl)
 have HC1 := Lib.hid hc1
 clear hb1 hb2 hc1
 have HS := Lib.hid (show Plain.small4 g p = (decide (g.e.length ≤ 60) && decide (p.v.length ≤ 60) && decide (p.e.length ≤ 60) && (decide (g.n ≤ 60) || decide (1024 < g.n))) from rfl)
 by_cases h1 : g.e.length ≤ 60
 ·by_cases h2 : p.v.length ≤ 60
  ·by_cases h3 : p.e.length ≤ 60
   ·by_cases h4 : g.n ≤ 60
    ·have HB := Lib.hid (show bit (Plain.small4 g p) = 1 by rw [HS.out]; simp [h1, h2, h3, h4, bit])
     go_enter Tryz.func43, Tryz.ntmps43
     go_wp2
     go_ret
     exact ⟨ret_int HB.out.symm, HC1.out⟩
    ·by_cases h5 : 1024 < g.n
     ·have HB := Lib.hid (show bit (Plain.small4 g p) = 1 by rw [HS.out]; simp [h1, h2, h3, h5, bit])
      go_enter Tryz.func43, Tryz.ntmps43
      go_wp2
      go_ret
      exact ⟨ret_int HB.out.symm, HC1.out⟩
     ·have HB := Lib.hid (show bit (Plain.small4 g p) = 0 by rw [HS.out]; simp [h4, h5, bit])
      go_enter Tryz.func43, Tryz.ntmps43
      go_wp2
      go_ret
      exact ⟨ret_int HB.out.symm, HC1.out⟩
   ·have HB := Lib.hid (show bit (Plain.small4 g p) = 0 by rw [HS.out]; simp [h3, bit])
    go_enter Tryz.func43, Tryz.ntmps43
    go_wp2
    go_ret
    exact ⟨ret_int HB.out.symm, HC1.out⟩
  ·have HB := Lib.hid (show bit (Plain.small4 g p) = 0 by rw [HS.out]; simp [h2, bit])
   go_enter Tryz.func43, Tryz.ntmps43
   go_wp2
   go_ret
   exact ⟨ret_int HB.out.symm, HC1.out⟩
 ·have HB := Lib.hid (show bit (Plain.small4 g p) = 0 by rw [HS.out]; simp [h1, bit])
  go_enter Tryz.func43, Tryz.ntmps43
  go_wp2
  go_ret
  exact ⟨ret_int HB.out.symm, HC1.out⟩

set_option maxHeartbeats 800000 in
theorem small6_any (vg vp vt : Value) (g : Plain.Gr) (p : Plain.Pt) (turn : List (List Int)) (w : World) (hg : GrAt w vg g) (hp : PtAt w vp p) (ht : RowsAt w vt turn) :
  Calls Tryz.prog 61 #[vg, vp, vt] w fun e w' => e = .returned (.int .i64 (bit (Plain.small6 g p turn))) ∧ Chg [] w w' := by
 have HG := Lib.hid hg
 have HP := Lib.hid hp
 obtain ⟨eo, cap, rfl, -, hm, -, -⟩ := hg
 obtain ⟨v1, v2, rfl, hv, he⟩ := hp
 obtain ⟨ao, ac, rfl, -, hvm, -⟩ := hv
 obtain ⟨bo, bc, rfl, -, hbm, -⟩ := he
 obtain ⟨tto, tc, rfl, htm, htc⟩ := ht
 have HTC := Lib.hid htc
 obtain ⟨hb1, hb2, hc1⟩ := box_two w #[.int .i64 g.n, .slice eo g.e.length cap] #[.slice ao p.v.length ac, .slice bo p.e.length bc] 24 27
 have HC1 := Lib.hid hc1
 have HS := Lib.hid (show Plain.small6 g p turn = (Plain.small4 g p && decide (turn.length ≤ 100) && (List.range turn.length).all fun i => decide ((turn.getD i []).length ≤ 200)) from rfl)
 clear hb1 hb2 hc1 htc
 go_enter Tryz.func61, Tryz.ntmps61
 go_wp2_with fail
 refine (small4_any _ _ g p _ (HG.out.fresh HC1.out) (HP.out.fresh HC1.out)).mono ?_
 rintro e w2 ⟨rfl, hc2⟩
 have HC2 := Lib.hid (HC1.out.trans hc2 (by simp))
 clear hc2
 cases h4 : Plain.small4 g p with
 | false =>
  have HB := Lib.hid (show bit (Plain.small6 g p turn) = 0 by rw [HS.out, h4]; rfl)
  rw [show bit false = 0 from rfl]
  go_wp2
  go_ret
  exact ⟨ret_int HB.out.symm, HC2.out⟩
 | true =>
  rw [show bit true = 1 from rfl]
  by_cases h5 : turn.length ≤ 100
  ·have HS2 := Lib.hid (show Plain.small6 g p turn = ((List.range turn.length).all fun i => decide ((turn.getD i []).length ≤ 200)) by rw [HS.out, h4, decide_eq_true h5]; rfl)
   clear h4 HS
   go_wp2
   go_loopw [7] (fun c wr => ∃ k : Nat, k ≤ turn.length ∧ c = .int .i64 k ∧ Chg [] w wr ∧ Hid ((List.range k).all (fun i => decide ((turn.getD i []).length ≤ 200)) = true)) (fun c _ => turn.length - (intOf c).toNat)
   case atStart => exact ⟨0, Nat.zero_le _, rfl, HC2.out, rfl⟩
   case round =>
    obtain ⟨k, hk, rfl, hc, hall⟩ := hrel
    have HC := Lib.hid hc
    by_cases hlt : k < turn.length
    ·obtain ⟨b, off, u, rfl, hcell, -, hints⟩ := HTC.out k hlt
     obtain ⟨uo, uc, rfl, -, hul, -⟩ := hints
     have c0 := hc.cell hcell (by simp)
     have HF := Lib.hid (fun h => Plain.all_range_false (p := fun i => decide ((turn.getD i []).length ≤ 200)) hlt h)
     have HSS := Lib.hid (Plain.all_range_succ (fun i => decide ((turn.getD i []).length ≤ 200)) k)
     clear hcell hc
     generalize (turn.getD k []).length = n at *
     by_cases h6 : n ≤ 200
     ·have HK := Lib.hid (show (List.range (k + 1)).all (fun i => decide ((turn.getD i []).length ≤ 200)) = true by rw [HSS.out, hall.out]; simp [h6])
      go_wp2
      go_roundw
      case rel => exact ⟨k + 1, by omega, by go_num, HC.out, HK⟩
      case measure => simp [intOf]; omega
     ·have HB := Lib.hid (show bit (Plain.small6 g p turn) = 0 by rw [HS2.out, HF.out (by simp [h6])]; rfl)
      go_wp2
      go_ret
      exact ⟨ret_int HB.out.symm, HC.out⟩
    ·have e : k = turn.length := by omega
     subst e
     have HB := Lib.hid (show bit (Plain.small6 g p turn) = 1 by rw [HS2.out, hall.out]; rfl)
     clear hc
     go_wp2
     go_ret
     exact ⟨ret_int HB.out.symm, HC.out⟩
  ·have HB := Lib.hid (show bit (Plain.small6 g p turn) = 0 by rw [HS.out, h4, decide_eq_false h5]; rfl)
   clear h4 HS
   go_wp2
   go_ret
   exact ⟨ret_int HB.out.symm, HC2.out⟩

def PlAt (w : World) (v : Value) (turn same : List (List Int)) : Prop := ∃ v1 v2, v = .agg #[v1, v2] ∧ RowsAt w v1 turn ∧ RowsAt w v2 same

theorem PlAt.fresh {w w' : World} {v : Value} {turn same : List (List Int)} (h : PlAt w v turn same) (hc : Chg [] w w') : PlAt w' v turn same := by
 obtain ⟨v1, v2, e, h1, h2⟩ := h
 exact ⟨v1, v2, e, h1.fresh hc, h2.fresh hc⟩

theorem box_three (w : World) (cs ds es : Array Value) (t u x : TypeId) : (((w.alloc (.cells cs t)).alloc (.cells ds u)).alloc (.cells es x)).heap[w.heap.size + 2]? = some (.cells es x (0, 0)) ∧ Chg [] ((w.alloc (.cells cs t)).alloc (.cells ds u)) (((w.alloc (.cells cs t)).alloc (.cells ds u)).alloc (.cells es x)) := by
 refine ⟨?_, (Chg.refl [] _).alloc _⟩
 have := heap_alloc_new ((w.alloc (.cells cs t)).alloc (.cells ds u)) (.cells es x (0, 0))
 simpa using this

set_option maxHeartbeats 800000 in
theorem small8_any (vg vp vx : Value) (g : Plain.Gr) (p : Plain.Pt) (turn same : List (List Int)) (w : World) (hg : GrAt w vg g) (hp : PtAt w vp p) (hx : PlAt w vx turn same) :
  Calls Tryz.prog 22 #[vg, vp, vx] w fun e w' => e = .returned (.int .i64 (bit (Plain.small8 g p turn same))) ∧ Chg [] w w' := by
 have HG := Lib.hid hg
 have HP := Lib.hid hp
 obtain ⟨eo, cap, rfl, -, hm, -, -⟩ := hg
 obtain ⟨v1, v2, rfl, hv, he⟩ := hp
 obtain ⟨ao, ac, rfl, -, hvm, -⟩ := hv
 obtain ⟨bo, bc, rfl, -, hbm, -⟩ := he
 obtain ⟨t1, t2, rfl, ht, hs⟩ := hx
 have HT := Lib.hid ht
 obtain ⟨tto, tc, rfl, htm, -⟩ := ht
 obtain ⟨so, sc, rfl, hsm, hsc⟩ := hs
 have HSC := Lib.hid hsc
 obtain ⟨hb1, hb2, hc1⟩ := box_two w #[.int .i64 g.n, .slice eo g.e.length cap] #[.slice ao p.v.length ac, .slice bo p.e.length bc] 24 27
 obtain ⟨hb3, hc3⟩ := box_three w #[.int .i64 g.n, .slice eo g.e.length cap] #[.slice ao p.v.length ac, .slice bo p.e.length bc] #[.slice tto turn.length tc, .slice so same.length sc] 24 27 30
 have x0 := (cell_of_row _ _ 0 _ _ _ hb3).trans (show _ = some (Value.slice tto turn.length tc) from rfl)
 have x1 := (cell_of_row _ _ 1 _ _ _ hb3).trans (show _ = some (Value.slice so same.length sc) from rfl)
 have X1 := Lib.hid x1
 have HC1 := Lib.hid (hc1.trans hc3 (by simp))
 have HS := Lib.hid (show Plain.small8 g p turn same = (Plain.small6 g p turn && decide (same.length ≤ 60) && (List.range same.length).all fun i => decide ((same.getD i []).length ≤ 60)) from rfl)
 clear hb1 hb2 hb3 hc1 hc3 hsc x1
 go_enter Tryz.func22, Tryz.ntmps22
 go_wp2_with fail
 generalize (((w.alloc (.cells #[.int .i64 g.n, .slice eo g.e.length cap] 24)).alloc (.cells #[.slice ao p.v.length ac, .slice bo p.e.length bc] 27)).alloc (.cells #[.slice tto turn.length tc, .slice so same.length sc] 30)) = w1 at *
 refine (small6_any _ _ _ g p turn _ (HG.out.fresh HC1.out) (HP.out.fresh HC1.out) (HT.out.fresh HC1.out)).mono ?_
 rintro e w2 ⟨rfl, hc2⟩
 have HC2 := Lib.hid (HC1.out.trans hc2 (by simp))
 have HC21 := Lib.hid hc2
 have x1 := hc2.cell X1.out (by simp)
 clear hc2 x0
 cases h4 : Plain.small6 g p turn with
 | false =>
  have HB := Lib.hid (show bit (Plain.small8 g p turn same) = 0 by rw [HS.out, h4]; rfl)
  rw [show bit false = 0 from rfl]
  go_wp2
  go_ret
  exact ⟨ret_int HB.out.symm, HC2.out⟩
 | true =>
  rw [show bit true = 1 from rfl]
  by_cases h5 : same.length ≤ 60
  ·have HS2 := Lib.hid (show Plain.small8 g p turn same = ((List.range same.length).all fun i => decide ((same.getD i []).length ≤ 60)) by rw [HS.out, h4, decide_eq_true h5]; rfl)
   clear h4 HS
   go_wp2
   clear x1
   go_loopw [7] (fun c wr => ∃ k : Nat, k ≤ same.length ∧ c = .int .i64 k ∧ Chg [] w1 wr ∧ Hid ((List.range k).all (fun i => decide ((same.getD i []).length ≤ 60)) = true)) (fun c _ => same.length - (intOf c).toNat)
   case atStart => exact ⟨0, Nat.zero_le _, rfl, HC21.out, rfl⟩
   case round =>
    obtain ⟨k, hk, rfl, hc, hall⟩ := hrel
    have HC := Lib.hid hc
    have x1 := hc.cell X1.out (by simp)
    by_cases hlt : k < same.length
    ·obtain ⟨b, off, u, rfl, hcell, -, hints⟩ := HSC.out k hlt
     obtain ⟨uo, uc, rfl, -, hul, -⟩ := hints
     have c0 := hc.cell (HC1.out.cell hcell (by simp)) (by simp)
     have HF := Lib.hid (fun h => Plain.all_range_false (p := fun i => decide ((same.getD i []).length ≤ 60)) hlt h)
     have HSS := Lib.hid (Plain.all_range_succ (fun i => decide ((same.getD i []).length ≤ 60)) k)
     clear hcell hc
     generalize (same.getD k []).length = n at *
     by_cases h6 : n ≤ 60
     ·have HK := Lib.hid (show (List.range (k + 1)).all (fun i => decide ((same.getD i []).length ≤ 60)) = true by rw [HSS.out, hall.out]; simp [h6])
      go_wp2
      go_roundw
      case rel => exact ⟨k + 1, by omega, by go_num, HC.out, HK⟩
      case measure => simp [intOf]; omega
     ·have HB := Lib.hid (show bit (Plain.small8 g p turn same) = 0 by rw [HS2.out, HF.out (by simp [h6])]; rfl)
      go_wp2
      go_ret
      exact ⟨ret_int HB.out.symm, HC1.out.trans HC.out (by simp)⟩
    ·have e : k = same.length := by omega
     subst e
     have HB := Lib.hid (show bit (Plain.small8 g p turn same) = 1 by rw [HS2.out, hall.out]; rfl)
     clear hc
     go_wp2
     go_ret
     exact ⟨ret_int HB.out.symm, HC1.out.trans HC.out (by simp)⟩
  ·have HB := Lib.hid (show bit (Plain.small8 g p turn same) = 0 by rw [HS.out, h4, decide_eq_false h5]; rfl)
   clear h4 HS
   go_wp2
   go_ret
   exact ⟨ret_int HB.out.symm, HC2.out⟩

end Go.Proofs.YtfgbkpbakignhaaGreat
/- Memory of the triangle and its drawing, as awake lays it. Condition: one place of the drawing's list is an int. -/
namespace Go.Proofs.YtfgbkpbakignhaaGreat
open Go.RowKit Go.Maps

theorem alloc_at (w : World) (o : Obj) (n : Nat) (h : w.heap.size = n) : (w.alloc o).heap[n]? = some o ∧ (w.alloc o).heap.size = n + 1 ∧ ∀ (b : Nat) (o' : Obj), w.heap[b]? = some o' → (w.alloc o).heap[b]? = some o' := by
 subst h
 exact ⟨heap_alloc_new w o, by simp, fun b o' hb => ((Chg.refl [] w).alloc o).heap hb (by simp)⟩
theorem ints_two {w : World} {b : Nat} {x y : Int} (h : w.heap[b]? = some (.cells #[.int .i64 x, .int .i64 y] 3)) (hx : I64 x) (hy : I64 y) : IntsAt w (.slice (some ⟨b, 0, none⟩) 2 2) [x, y] := by
 refine ⟨_, 2, rfl, by simp [hx, hy], by simp, fun _ => ⟨b, 0, rfl, fun i hi => ?_⟩⟩
 simp at hi
 rw [cell_of_row _ _ _ _ _ _ h]
 rcases i with _ | _ | i
 ·rfl
 ·rfl
 ·omega
theorem ints_three {w : World} {b : Nat} {x y z : Int} (h : w.heap[b]? = some (.cells #[.int .i64 x, .int .i64 y, .int .i64 z] 3)) (hx : I64 x) (hy : I64 y) (hz : I64 z) : IntsAt w (.slice (some ⟨b, 0, none⟩) 3 3) [x, y, z] := by
 refine ⟨_, 3, rfl, by simp [hx, hy, hz], by simp, fun _ => ⟨b, 0, rfl, fun i hi => ?_⟩⟩
 simp at hi
 rw [cell_of_row _ _ _ _ _ _ h]
 rcases i with _ | _ | _ | i
 ·rfl
 ·rfl
 ·rfl
 ·omega
theorem lit_three (w : World) {x y z : Int} (hx : I64 x) (hy : I64 y) (hz : I64 z) : IntsAt (w.alloc (.cells #[.int .i64 x, .int .i64 y, .int .i64 z] 3)) (.slice (some ⟨w.heap.size, 0, none⟩) 3 3) [x, y, z] := ints_three (heap_alloc_new w _) hx hy hz
theorem capOk (b n : Nat) (h : n ≤ 100) : CapOk (.slice (some ⟨b, 0, none⟩) n n) := ⟨_, n, n, rfl, Nat.le_refl _, by omega⟩
theorem gr_tri {w : World} {b : Nat} (h : w.heap[b]? = some (.cells #[.int .i64 0, .int .i64 1, .int .i64 1, .int .i64 2, .int .i64 2, .int .i64 0] 49)) : GrAt w (.agg #[.int .i64 4, .slice (some ⟨b, 0, none⟩) 3 3]) Plain.g1 := by
 have hc := fun i => cell_of_row w b i _ _ _ h
 refine ⟨_, 3, rfl, I64.mk (by decide) (by decide), by decide, fun i hi => ?_, fun i hi => ⟨b, 0, rfl, ?_⟩⟩
 ·have hi : i < 3 := hi
  rcases (show i = 0 ∨ i = 1 ∨ i = 2 by omega) with rfl | rfl | rfl
  ·exact ⟨I64.mk (by decide) (by decide), I64.mk (by decide) (by decide)⟩
  ·exact ⟨I64.mk (by decide) (by decide), I64.mk (by decide) (by decide)⟩
  ·exact ⟨I64.mk (by decide) (by decide), I64.mk (by decide) (by decide)⟩
 ·have hi : i < 3 := hi
  rcases (show i = 0 ∨ i = 1 ∨ i = 2 by omega) with rfl | rfl | rfl
  ·exact ⟨(hc 0).trans rfl, (hc 1).trans rfl⟩
  ·exact ⟨(hc 2).trans rfl, (hc 3).trans rfl⟩
  ·exact ⟨(hc 4).trans rfl, (hc 5).trans rfl⟩
theorem pl_tri {w : World} {b0 b1 b2 b3 b4 b5 : Nat} {k : Int} (hk : I64 k) (h0 : w.heap[b0]? = some (.cells #[.int .i64 0, .int .i64 5] 3)) (h1 : w.heap[b1]? = some (.cells #[.int .i64 1, .int .i64 2] 3)) (h2 : w.heap[b2]? = some (.cells #[.int .i64 3, .int .i64 4] 3))
  (h3 : w.heap[b3]? = some (.cells #[.slice (some ⟨b0, 0, none⟩) 2 2, .slice (some ⟨b1, 0, none⟩) 2 2, .slice (some ⟨b2, 0, none⟩) 2 2, .slice none 0 0] 25)) (h4 : w.heap[b4]? = some (.cells #[.int .i64 (-4), .int .i64 k] 3)) (h5 : w.heap[b5]? = some (.cells #[.slice (some ⟨b4, 0, none⟩) 2 2] 25)) :
  PlAt w (.agg #[.slice (some ⟨b3, 0, none⟩) 4 4, .slice (some ⟨b5, 0, none⟩) 1 1]) Plain.t1 [[-4, k]] := by
 have i0 : ∀ x : Int, -100 ≤ x → x ≤ 100 → I64 x := fun x a b => I64.mk (by omega) (by omega)
 have hc3 := fun i => cell_of_row w b3 i _ _ _ h3
 have hc5 := fun i => cell_of_row w b5 i _ _ _ h5
 refine ⟨_, _, rfl, ⟨_, 4, rfl, by decide, fun i hi => ?_⟩, ⟨_, 1, rfl, by simp, fun i hi => ?_⟩⟩
 ·have hi : i < 4 := hi
  rcases (show i = 0 ∨ i = 1 ∨ i = 2 ∨ i = 3 by omega) with rfl | rfl | rfl | rfl
  ·exact ⟨b3, 0, _, rfl, (hc3 0).trans rfl, capOk _ _ (by decide), ints_two h0 (i0 _ (by decide) (by decide)) (i0 _ (by decide) (by decide))⟩
  ·exact ⟨b3, 0, _, rfl, (hc3 1).trans rfl, capOk _ _ (by decide), ints_two h1 (i0 _ (by decide) (by decide)) (i0 _ (by decide) (by decide))⟩
  ·exact ⟨b3, 0, _, rfl, (hc3 2).trans rfl, capOk _ _ (by decide), ints_two h2 (i0 _ (by decide) (by decide)) (i0 _ (by decide) (by decide))⟩
  ·exact ⟨b3, 0, _, rfl, (hc3 3).trans rfl, ⟨none, 0, 0, rfl, by decide, by decide⟩, IntsAt.nil _⟩
 ·have hi : i < 1 := by simpa using hi
  obtain rfl : i = 0 := by omega
  exact ⟨b5, 0, _, rfl, (hc5 0).trans rfl, capOk _ _ (by decide), ints_two h4 (i0 _ (by decide) (by decide)) hk⟩
end Go.Proofs.YtfgbkpbakignhaaGreat
/- What a cycle of darts is, plainly; the contract of side.leaves. Conditions: a graph that lies in memory and reads so; a dart of it. -/
namespace Go.Proofs.YtfgbkpbakignhaaGreat
open Go.RowKit Go.Maps

namespace Plain
def lastAt (F : Int → Int) (cy : List Int) : Nat → Int → Option Int
 | 0 => fun _ => none
 | k + 1 => fun v => if v = F (cy.getD k 0) then some (k : Int) else lastAt F cy k v
theorem lastAt_succ (F : Int → Int) (cy : List Int) (k : Nat) : lastAt F cy (k + 1) = fun v => if v = F (cy.getD k 0) then some (k : Int) else lastAt F cy k v := rfl
theorem lastAt_none {F : Int → Int} {cy : List Int} {k : Nat} {v : Int} : lastAt F cy k v = none ↔ ∀ i, i < k → F (cy.getD i 0) ≠ v := by
 induction k with
 | zero => simp [lastAt]
 | succ k ih =>
  rw [lastAt_succ]
  constructor
  ·intro h i hi
   replace h : (if v = F (cy.getD k 0) then some (k : Int) else lastAt F cy k v) = none := h
   by_cases e : v = F (cy.getD k 0)
   ·rw [if_pos e] at h; cases h
   ·rw [if_neg e] at h
    by_cases hik : i < k
    ·exact ih.1 h i hik
    ·have : i = k := by omega
     subst this
     exact fun q => e q.symm
  ·intro h
   show (if v = F (cy.getD k 0) then some (k : Int) else lastAt F cy k v) = none
   rw [if_neg (fun e => h k (by omega) e.symm)]
   exact ih.2 fun i hi => h i (by omega)

def befAt (cy : List Int) (k : Nat) : Int := if k = 0 then cy.getD (cy.length - 1) 0 else cy.getD (k - 1) 0
theorem befAt_zero (cy : List Int) : befAt cy 0 = cy.getD (cy.length - 1) 0 := rfl
theorem befAt_succ (cy : List Int) (k : Nat) : befAt cy (k + 1) = cy.getD k 0 := rfl
def cycAt (g : Gr) (cy : List Int) (k : Nat) : Bool :=
 !((lastAt g.tail cy k (g.tail (cy.getD k 0))).isSome || (lastAt (· / 2) cy k (cy.getD k 0 / 2)).isSome) && decide (g.head (befAt cy k) = g.tail (cy.getD k 0))
def dartAt (p : Pt) (cy : List Int) (k : Nat) : Bool := decide (0 ≤ cy.getD k 0 ∧ cy.getD k 0 / 2 ∈ p.e)
def cycOk (g : Gr) (p : Pt) (cy : List Int) : Bool := decide (p.err g = 0) && !cy.isEmpty && (List.range cy.length).all (dartAt p cy) && (List.range cy.length).all (cycAt g cy)

theorem all_stop {f : Nat → Bool} {n k : Nat} (hk : k < n) (h : f k = false) : (List.range n).all f = false := by
 rw [List.all_eq_false]
 exact ⟨k, List.mem_range.2 hk, by simp [h]⟩
theorem all_go {f : Nat → Bool} {n : Nat} (h : ∀ i, i < n → f i = true) : (List.range n).all f = true := List.all_eq_true.2 fun i hi => h i (List.mem_range.1 hi)
theorem cyc_err {g : Gr} {p : Pt} {cy : List Int} (h : p.err g ≠ 0) : cycOk g p cy = false := by simp [cycOk, h]
theorem cyc_nil {g : Gr} {p : Pt} : cycOk g p [] = false := by simp [cycOk]
theorem cyc_dart {g : Gr} {p : Pt} {cy : List Int} {k : Nat} (hk : k < cy.length) (h : dartAt p cy k = false) : cycOk g p cy = false := by
 unfold cycOk; rw [all_stop hk h]; simp
theorem cyc_at {g : Gr} {p : Pt} {cy : List Int} {k : Nat} (hk : k < cy.length) (h : cycAt g cy k = false) : cycOk g p cy = false := by
 unfold cycOk; rw [all_stop hk h]; simp
theorem cyc_ok {g : Gr} {p : Pt} {cy : List Int} (h0 : p.err g = 0) (h1 : 0 < cy.length) (h2 : ∀ k, k < cy.length → dartAt p cy k = true) (h3 : ∀ k, k < cy.length → cycAt g cy k = true) : cycOk g p cy = true := by
 unfold cycOk
 rw [all_go h2, all_go h3, decide_eq_true h0]
 cases cy with
 | nil => simp at h1
 | cons a l => rfl
end Plain

theorem leavesS_any (v : Value) (g : Plain.Gr) (d : Nat) (w : World) (hd : d / 2 < g.e.length) (hm : g.e.length < 4294967296) (h : GrAt w v g) :
  Calls Tryz.prog 31 #[v, .int .i64 d] w fun e w' => e = .returned (.int .i64 (g.tail d)) ∧ Chg [] w w' := by
 obtain ⟨eo, cap, rfl, -, -, -, hcell⟩ := h
 obtain ⟨b, off, rfl, hc0, hc1⟩ := hcell (d / 2) hd
 have HC1 := Lib.hid ((Chg.refl [] w).alloc (.cells #[.int .i64 g.n, .slice (some ⟨b, off, none⟩) g.e.length cap] 24))
 obtain ⟨e, he⟩ : ∃ e, d / 2 = e := ⟨_, rfl⟩
 rw [he] at hd hc0 hc1
 have c0 := fun o => cellNew hc0 o
 have c1 := fun o => cellNew hc1 o
 clear hcell hc0 hc1
 rcases (show d = 2 * e ∨ d = 2 * e + 1 by omega) with rfl | rfl
 ·obtain ⟨q1, q2⟩ := quo_even e
  have HE := Lib.hid (dart_even g e).1
  rw [HE.out]
  clear he
  generalize ((2 * e : Nat) : Int) = dd at *
  generalize (g.ends e).1 = x at *
  generalize (g.ends e).2 = y at *
  go_enter Tryz.func31, Tryz.ntmps31
  go_wp2
  go_ret
  exact ⟨rfl, HC1.out⟩
 ·obtain ⟨q1, q2⟩ := quo_odd e
  have HE := Lib.hid (dart_odd g e).1
  rw [HE.out]
  clear he
  generalize ((2 * e + 1 : Nat) : Int) = dd at *
  generalize (g.ends e).1 = x at *
  generalize (g.ends e).2 = y at *
  go_enter Tryz.func31, Tryz.ntmps31
  go_wp2
  go_ret
  exact ⟨rfl, HC1.out⟩
end Go.Proofs.YtfgbkpbakignhaaGreat
