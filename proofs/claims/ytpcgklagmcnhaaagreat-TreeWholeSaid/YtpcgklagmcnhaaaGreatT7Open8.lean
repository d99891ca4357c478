/- From what comes in, as it is read, to the plain words of this seat: a graph, a part, a plan. -/
import Derived.ProofKit
import Derived.OpenShut
import Derived.ChangeOld
import Derived.Deep.Strs
import Derived.Lib.SmallJoins
import Derived.Test.YtpcgklagmcnhaaaGreatT7Nest
namespace Go.Proofs.YtpcgklagmcnhaaaGreat
open Go.ChangeShapes Go.WideShapes Go.ChangeAt Go.RowKit Go.Deep Go.Joins
section
variable {H : Type} {enc : TypeId × Value → H} {w : World} {base : Nat} {held : Bool}
theorem cellsInt : Tryz.prog.cellsOf 3 = 1 := by kernel_rfl
theorem cellsRow : Tryz.prog.cellsOf 31 = 1 := by kernel_rfl
theorem cellsEdge : Tryz.prog.cellsOf 53 = 2 := by kernel_rfl
theorem ints_open {fuel : Nat} {u : Value} {x : DataW H × List MemPlace} (h : DataW.trod enc Tryz.prog w base (fun _ => true) held fuel 31 [u] = some x) : ∃ l, IntsAt w u l ∧ CapOk u := by
 rcases open_ints Tryz.underlying31 Tryz.underlying3 cellsInt h with ⟨hcs, _⟩ | ⟨a, len', cap', zs, hcs, _, hl, hm, hz, _, hcell, hwz⟩
 ·simp at hcs
  subst hcs
  exact ⟨[], IntsAt.nil w, none, 0, 0, rfl, by decide, by decide⟩
 simp at hcs
 subst hcs
 have hz' : zs.length = cap' := by simpa using hz
 have hlen : (zs.take len').length = len' := by simp; omega
 unfold maxLen at hm
 refine ⟨zs.take len', ⟨some a, cap', by rw [hlen], fun y hy => hwz y (List.mem_of_mem_take hy), by grind, fun hne => ?_⟩, some a, len', cap', rfl, hl, by omega⟩
 obtain ⟨b, off, rfl, hc⟩ := ints_at hcell (by
  rcases Nat.eq_zero_or_pos zs.length with q | q
  ·rw [List.length_eq_zero_iff.1 q] at hne; simp at hne
  exact q)
 grind
theorem rows_open {fuel : Nat} {u : Value} {x : DataW H × List MemPlace} (h : DataW.trod enc Tryz.prog w base (fun _ => true) held fuel 132 [u] = some x) : ∃ ll, RowsAt w u ll := by
 rcases open_slice Tryz.underlying132 h with ⟨hcs, _⟩ | ⟨a, len', cap', m, n, D, Pl, hcs, _, hl, hm, hmm, _, hx⟩
 ·simp at hcs
  subst hcs
  exact ⟨[], none, 0, rfl, by decide, fun i hi => absurd hi (by simp)⟩
 simp at hcs
 subst hcs
 simp only [if_true] at hmm
 subst hmm
 have each : ∀ i, i < m → ∃ l : List Int, ∃ u, w.cell? (a.add (i * 1)) = some u ∧ IntsAt w u l ∧ CapOk u := by
  intro i hi
  obtain ⟨cs', hc, ht⟩ := hx i hi
  rw [cellsRow] at hc
  obtain ⟨_, hlen, hat⟩ := World.cells?_some hc
  match cs', hlen with
  | [c0], _ =>
   obtain ⟨l, h1, h2⟩ := ints_open ht
   refine ⟨l, c0, ?_, h1, h2⟩
   have := hat 0 (by omega); rw [add_add] at this; simpa using this
 obtain ⟨f, hf⟩ := choose_lt each
 unfold maxLen at hm
 refine ⟨(List.range len').map f, some a, m, by simp, by simp; omega, fun i hi => ?_⟩
 have hi : i < len' := by simpa using hi
 obtain ⟨u, k0, k1, k2⟩ := hf i (by omega)
 obtain ⟨b, off, spot⟩ := a
 have hs : spot = none := by
  obtain ⟨u0, z0, -⟩ := hf 0 (by omega)
  have := World.cell?_spot z0
  simpa [Addr.add] using this
 subst hs
 refine ⟨b, off, u, rfl, ?_, k2, by simpa [List.getD, hi] using k1⟩
 have := k0
 rw [add_plain] at this
 simpa using this
set_option maxRecDepth 100000 in
theorem gr_open {r : Reach} {b0 : Nat} {v : Value} {d : DataW H} {p : List MemPlace} (hv : Value.okWide Tryz.prog w r b0 41 v) (h : DataW.Trod enc Tryz.prog w base (fun _ => true) held 41 v d p) : ∃ g, GrAt w v g := by
 obtain ⟨c0, c1, y0, y1, n, rfl, -, -, h0, h1⟩ := open_agg2 Tryz.underlying41 (by kernel_rfl) (by kernel_rfl) hv h
 obtain ⟨N, e0, _, w0⟩ := DataW.trod_int Tryz.underlying3 h0
 simp at e0
 subst e0
 rcases open_slice Tryz.underlying39 h1 with ⟨hcs, _⟩ | ⟨a, len', cap', m, n', D, Pl, hcs, _, hl, hm, hmm, _, hx⟩
 ·simp at hcs
  subst hcs
  exact ⟨⟨N, []⟩, none, 0, rfl, w0, Nat.zero_le _, fun i hi => absurd hi (by simp), fun i hi => absurd hi (by simp)⟩
 simp at hcs
 subst hcs
 simp only [if_true] at hmm
 subst hmm
 have each : ∀ i, i < m → ∃ y : Int × Int, (I64 y.1 ∧ I64 y.2) ∧ w.cell? (a.add (i * 2)) = some (.int .i64 y.1) ∧ w.cell? (a.add (i * 2 + 1)) = some (.int .i64 y.2) := by
  intro i hi
  obtain ⟨cs', hc, ht⟩ := hx i hi
  rw [cellsEdge] at hc
  obtain ⟨_, hlen, hat⟩ := World.cells?_some hc
  obtain ⟨y0, y1, n', _, _, k0, k1⟩ := trod_struct2 Tryz.underlying53 ht
  match cs', hlen with
  | [c0, c1], _ =>
   simp only [cellsInt, List.drop_zero, List.drop_succ_cons, List.take_succ_cons, List.take_zero] at k0 k1
   obtain ⟨x0, e0, _, q0⟩ := DataW.trod_int Tryz.underlying3 k0
   obtain ⟨x1, e1, _, q1⟩ := DataW.trod_int Tryz.underlying3 k1
   simp at e0 e1
   subst e0 e1
   refine ⟨(x0, x1), ⟨q0, q1⟩, ?_, ?_⟩
   ·have := hat 0 (by omega); rw [add_add] at this; simpa using this
   have := hat 1 (by omega); rw [add_add] at this; simpa using this
 obtain ⟨f, hf⟩ := choose_lt each
 unfold maxLen at hm
 have hg : ∀ i, i < len' → ((List.range len').map f).getD i (0, 0) = f i := fun i hi => by simp [List.getD, hi]
 refine ⟨⟨N, (List.range len').map f⟩, some a, m, by simp, w0, by simp; omega, fun i hi => ?_, fun i hi => ?_⟩
 ·have hi : i < len' := by simpa using hi
  show I64 (((List.range len').map f).getD i (0, 0)).1 ∧ I64 (((List.range len').map f).getD i (0, 0)).2
  grind
 have hi : i < len' := by simpa using hi
 obtain ⟨_, k0, k1⟩ := hf i (by omega)
 obtain ⟨b, off, spot⟩ := a
 have hs : spot = none := by
  have := World.cell?_spot (hf 0 (by omega)).2.1
  simpa [Addr.add] using this
 subst hs
 refine ⟨b, off, rfl, ?_, ?_⟩
 ·show _ = some (Value.int .i64 (((List.range len').map f).getD i (0, 0)).1)
  rw [hg i hi, ← add_plain]; exact k0
 show _ = some (Value.int .i64 (((List.range len').map f).getD i (0, 0)).2)
 rw [hg i hi, Nat.add_assoc, ← add_plain]; exact k1
set_option maxRecDepth 100000 in
theorem pt_open {r : Reach} {b0 : Nat} {v : Value} {d : DataW H} {p : List MemPlace} (hv : Value.okWide Tryz.prog w r b0 43 v) (h : DataW.Trod enc Tryz.prog w base (fun _ => true) held 43 v d p) : ∃ g, PtAt w v g := by
 obtain ⟨c0, c1, y0, y1, n, rfl, -, -, h0, h1⟩ := open_agg2 Tryz.underlying43 (by kernel_rfl) (by kernel_rfl) hv h
 obtain ⟨l0, k0, -⟩ := ints_open h0
 obtain ⟨l1, k1, -⟩ := ints_open h1
 exact ⟨⟨l0, l1⟩, c0, c1, rfl, k0, k1⟩
end
end Go.Proofs.YtpcgklagmcnhaaaGreat
namespace Go.Proofs.YtpcgklagmcnhaaaGreat
open Go.RowKit Go.Maps
end Go.Proofs.YtpcgklagmcnhaaaGreat
namespace Go.Proofs.YtpcgklagmcnhaaaGreat
open Go.RowKit Go.Maps
end Go.Proofs.YtpcgklagmcnhaaaGreat
namespace Go.Proofs.YtpcgklagmcnhaaaGreat
open Go.RowKit Go.Maps
namespace Plain
end Plain
namespace Plain
end Plain
end Go.Proofs.YtpcgklagmcnhaaaGreat
namespace Go.Proofs.YtpcgklagmcnhaaaGreat.Plain
end Go.Proofs.YtpcgklagmcnhaaaGreat.Plain
