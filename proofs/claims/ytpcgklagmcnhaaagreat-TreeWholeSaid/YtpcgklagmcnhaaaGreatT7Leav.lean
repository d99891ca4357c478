/- package walk: the contract of leaving: of each vertex the darts that leave it. Conditions: a right part that lies in memory and reads so. -/
import Derived.Test.YtpcgklagmcnhaaaGreatT7Row
import Derived.Test.YtpcgklagmcnhaaaGreatT7GraphB
import Derived.ArgAppend
import Derived.Deep.LoopGhost
import Derived.Deep.DeepCutAuto
-- READS ONLY
namespace Go.Proofs.YtpcgklagmcnhaaaGreat
open Go.RowKit Go.Maps
namespace Plain
end Plain
theorem lit_ints (w : World) {x : Int} (hx : I64 x) : IntsAt (w.alloc (.cells #[.int .i64 x] 3)) (.slice (some ⟨w.heap.size, 0, none⟩) 1 1) [x] := by
 refine ⟨_, 1, rfl, by grind, by simp, fun _ => ⟨w.heap.size, 0, rfl, fun i hi => ?_⟩⟩
 have : i = 0 := by simpa using hi
 subst this
 rw [cell_of_row _ _ _ _ _ _ (heap_alloc_new w _)]
 rfl
end Go.Proofs.YtpcgklagmcnhaaaGreat
namespace Go.Proofs.YtpcgklagmcnhaaaGreat.Plain
def left (p : Pt) (f : Int → Option Int) : Nat := (p.v.filter fun u => (f u).isNone).length
theorem near_iff {g : Gr} {p : Pt} (_hp : PartOk g p) {u x : Int} : Near g p u x ↔ ∃ d ∈ p.darts.filter fun d => decide (g.tail d = u), g.head d = x := by
 constructor
 ·rintro ⟨e, he, h | h⟩
  ·have h1 := tail_even g e
   all_goals grind [mem_darts]
  have hd : 2 * e ∈ p.darts := mem_darts.2 (by rwa [show 2 * e / 2 = e by omega])
  have h1 := tail_even g e
  refine ⟨twin (2 * e), List.mem_filter.2 ⟨twin_mem hd, ?_⟩, ?_⟩
  all_goals grind [tail_twin, twin_twin]
 all_goals grind [near_dart]
end Go.Proofs.YtpcgklagmcnhaaaGreat.Plain
namespace Go.Proofs.YtpcgklagmcnhaaaGreat
open Go.RowKit Go.Maps
theorem SMap.fresh {w w' : World} {b n : Nat} {f : Int → List Int} (h : SMap w b n f) (hc : Chg [] w w') : SMap w' b n f := by
 obtain ⟨D, ho, hD⟩ := h
 refine ⟨D, ?_, hD⟩
 have hb : b < w.heap.size := SMap.lt ⟨D, ho, hD⟩
 exact ho.kept (hc.grownBy (row := none) (by simp)) (by simp) (fun es clock he x hx => by cases x.val.ownBlock <;> simp)
section
variable {w wr w' : World} {gb mp H : Nat} {gv : Array Value} {f f' : Int → Option Int} {m m' : Nat} {q q' : List Int}
end
namespace Plain
end Plain
namespace Plain
def small4 (g : Gr) (p : Pt) : Bool := decide (g.e.length ≤ 60) && decide (p.v.length ≤ 60) && decide (p.e.length ≤ 60) && (decide (g.n ≤ 60) || decide (1024 < g.n))
end Plain
def bit (b : Bool) : Int := if b then 1 else 0
theorem small4_any (vg vp : Value) (g : Plain.Gr) (p : Plain.Pt) (w : World) (hg : GrAt w vg g) (hp : PtAt w vp p) :
  Calls Tryz.prog 33 #[vg, vp] w fun e w' => e = .returned (.int .i64 (bit (Plain.small4 g p))) ∧ Chg [] w w' := by
 obtain ⟨eo, cap, rfl, -, hm, -, -⟩ := hg
 obtain ⟨v1, v2, rfl, hv, he⟩ := hp
 obtain ⟨ao, ac, rfl, -, hvm, -⟩ := hv
 obtain ⟨bo, bc, rfl, -, hbm, -⟩ := he
 obtain ⟨hb1, hb2, hc1⟩ := box_two w #[.int .i64 g.n, .slice eo g.e.length cap] #[.slice ao p.v.length ac, .slice bo p.e.length bc] 41 43
 have x0 := (cell_of_row _ _ 0 _ _ _ hb1).trans (show _ = some (Value.int .i64 g.n) from rfl)
 have x1 := (cell_of_row _ _ 1 _ _ _ hb1).trans (show _ = some (Value.slice eo g.e.length cap) from rfl)
 have y0 := (cell_of_row _ _ 0 _ _ _ hb2).trans (show _ = some (Value.slice ao p.v.length ac) from rfl)
 have y1 := (cell_of_row _ _ 1 _ _ _ hb2).trans (show _ = some (Value.slice bo p.e.length bc) from rfl)
 have HC1 := Lib.hid hc1
 clear hb1 hb2 hc1
 have HS := Lib.hid (show Plain.small4 g p = (decide (g.e.length ≤ 60) && decide (p.v.length ≤ 60) && decide (p.e.length ≤ 60) && (decide (g.n ≤ 60) || decide (1024 < g.n))) from rfl)
 by_cases h1 : g.e.length ≤ 60
 ·by_cases h2 : p.v.length ≤ 60
  ·by_cases h3 : p.e.length ≤ 60
   ·by_cases h4 : g.n ≤ 60
    ·have HB := Lib.hid (show bit (Plain.small4 g p) = 1 by rw [HS.out]; simp [h1, h2, h3, h4, bit])
     go_enter Tryz.func33, Tryz.ntmps33
     go_wp2
     go_ret
     exact ⟨ret_int HB.out.symm, HC1.out⟩
    by_cases h5 : 1024 < g.n
    ·have HB := Lib.hid (show bit (Plain.small4 g p) = 1 by rw [HS.out]; simp [h1, h2, h3, h5, bit])
     go_enter Tryz.func33, Tryz.ntmps33
     go_wp2
     go_ret
     exact ⟨ret_int HB.out.symm, HC1.out⟩
    have HB := Lib.hid (show bit (Plain.small4 g p) = 0 by rw [HS.out]; simp [h4, h5, bit])
    go_enter Tryz.func33, Tryz.ntmps33
    go_wp2
    go_ret
    exact ⟨ret_int HB.out.symm, HC1.out⟩
   have HB := Lib.hid (show bit (Plain.small4 g p) = 0 by rw [HS.out]; simp [h3, bit])
   go_enter Tryz.func33, Tryz.ntmps33
   go_wp2
   go_ret
   exact ⟨ret_int HB.out.symm, HC1.out⟩
  have HB := Lib.hid (show bit (Plain.small4 g p) = 0 by rw [HS.out]; simp [h2, bit])
  go_enter Tryz.func33, Tryz.ntmps33
  go_wp2
  go_ret
  exact ⟨ret_int HB.out.symm, HC1.out⟩
 have HB := Lib.hid (show bit (Plain.small4 g p) = 0 by rw [HS.out]; simp [h1, bit])
 go_enter Tryz.func33, Tryz.ntmps33
 go_wp2
 go_ret
 exact ⟨ret_int HB.out.symm, HC1.out⟩
end Go.Proofs.YtpcgklagmcnhaaaGreat
-- READS ONLY
namespace Go.Proofs.YtpcgklagmcnhaaaGreat
open Go.RowKit Go.Maps
end Go.Proofs.YtpcgklagmcnhaaaGreat
-- READS ONLY
namespace Go.Proofs.YtpcgklagmcnhaaaGreat
open Go.RowKit Go.Maps
namespace Plain
end Plain
def OutAt (w : World) (B ob : Nat) (V E : List Int) : Prop := ∃ v1 v2, w.heap[ob]? = some (.cells #[v1, v2] 43 (0, 0)) ∧ RowAt w B v1 V ∧ RowAt w B v2 E ∧ (∀ j ∈ foot v1, j ∉ foot v2) ∧ B ≤ ob
end Go.Proofs.YtpcgklagmcnhaaaGreat
