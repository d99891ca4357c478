/- law 08's awake: true. -/
import Derived.Test.YtckjpaimbmlboaaVRegions
import Derived.Test.YtckjpaimbmlboaaVSpread
import Derived.ProofKit
import Derived.OpenShut
import Derived.ChangeOld
import Derived.Deep.Strs
import Derived.Lib.SmallJoins
import Derived.Test.YtckjpaimbmlboaaVGraphA
import Derived.Test.YtckjpaimbmlboaaVEuler
import Derived.Test.YtckjpaimbmlboaaVGraphB
import Derived.Test.YtckjpaimbmlboaaVRows2
import Derived.Test.YtckjpaimbmlboaaVWalkU
import Derived.Test.YtckjpaimbmlboaaVSetsC
namespace Go.Proofs.Ytckjpaimbmlboaa
open Go.RowKit Go.Maps

end Go.Proofs.Ytckjpaimbmlboaa
/- law PlanEuler, plainly; what a small case is. No program here. -/
namespace Go.Proofs.Ytckjpaimbmlboaa

namespace Plain
theorem filter_split {α : Type} (q : α → Bool) : ∀ l : List α, (l.filter q).length + (l.filter fun x => !q x).length = l.length
 | [] => rfl
 | x :: l => by
  have := filter_split q l
  by_cases h : q x = true
  ·simp [h]; omega
  ·simp [h]; omega

theorem left_over {K M : List Int} (hK : K.Nodup) (hM : M.Nodup) (hs : ∀ x ∈ M, x ∈ K) : (K.filter fun x => decide (x ∉ M)).length + M.length = K.length := by
 have h1 := filter_split (fun x => decide (x ∈ M)) K
 have e : (K.filter fun x => decide (x ∉ M)) = K.filter fun x => !decide (x ∈ M) := List.filter_congr fun x _ => by simp
 have h2 := len_le_of_sub (hK.filter (fun x => decide (x ∈ M))) (m := M) (fun x hx => by simpa using (List.mem_filter.1 hx).2)
 have h3 := len_le_of_sub hM (m := K.filter fun x => decide (x ∈ M)) (fun x hx => List.mem_filter.2 ⟨hs x hx, by simpa using hx⟩)
 rw [e]
 omega

theorem singles_count {W : List Face} {M : List Int} (hK : (W.map (·.1)).Nodup) (hM : M.Nodup) (hs : ∀ x ∈ M, x ∈ W.map (·.1)) : (singles W M).length + M.length = W.length := by
 have h := left_over hK hM hs
 rw [List.length_map] at h
 have : (singles W M).length = ((W.map (·.1)).filter fun x => decide (x ∉ M)).length := by
  unfold singles
  rw [List.length_map, List.filter_map, List.length_map]
  rfl
 omega

theorem count_pos {s : St} (hs : s.Ok) (h : 0 < s.grp.length) : 0 < s.count := by
 unfold St.count
 rw [List.countP_pos_iff]
 refine ⟨0, List.mem_range.2 h, ?_⟩
 have := hs.le 0 h
 unfold St.hd at this
 simp
 simp at this
 omega

theorem all_le {n b : Nat} {f : Nat → Nat} (h : ((List.range n).all fun i => decide (f i ≤ b)) = true) : ∀ i, i < n → f i ≤ b := fun i hi => by
 have := List.all_eq_true.1 h i (List.mem_range.2 hi)
 exact of_decide_eq_true this

theorem getD_le {T : List (List Int)} {b : Nat} (h : ∀ i, i < T.length → (T.getD i []).length ≤ b) : ∀ i, (T.getD i []).length ≤ b := fun i => by
 by_cases hi : i < T.length
 ·exact h i hi
 ·simp [List.getD, Nat.not_lt.1 hi]

theorem sumLen_le {T : List (List Int)} {b : Nat} (h : ∀ i, (T.getD i []).length ≤ b) : ∀ k, sumLen T k ≤ k * b
 | 0 => by simp [sumLen]
 | k + 1 => by
  have := sumLen_le h k
  have h1 := h k
  have e : sumLen T (k + 1) = sumLen T k + (T.getD k []).length := rfl
  rw [e, Nat.succ_mul]
  omega

theorem small8_is {g : Gr} {p : Pt} {turn same : List (List Int)} (h : small8 g p turn same = true) : p.v.length ≤ 60 ∧ p.e.length ≤ 60 ∧ turn.length ≤ 100 ∧ sumLen turn turn.length ≤ 20000 ∧ same.length ≤ 60 ∧ ∀ i, (same.getD i []).length ≤ 60 := by
 unfold small8 small6 small4 at h
 simp only [Bool.and_eq_true] at h
 obtain ⟨⟨⟨⟨h4, h5⟩, h6⟩, h7⟩, h8⟩ := h
 have h5 := of_decide_eq_true h5
 have h6 := getD_le (all_le h6)
 have h9 := sumLen_le h6 turn.length
 have : turn.length * 200 ≤ 100 * 200 := Nat.mul_le_mul_right _ h5
 exact ⟨of_decide_eq_true h4.1.1.2, of_decide_eq_true h4.1.2, h5, by omega, of_decide_eq_true h7, getD_le (all_le h8)⟩
end Plain
end Go.Proofs.Ytckjpaimbmlboaa
/- From what comes in, as it is read, to the plain words of this seat: a graph, a part, a plan. -/
namespace Go.Proofs.Ytckjpaimbmlboaa
open Go.ChangeShapes Go.WideShapes Go.ChangeAt Go.RowKit Go.Deep Go.Joins

section
variable {H : Type} {enc : TypeId × Value → H} {w : World} {base : Nat} {held : Bool}

theorem cellsInt : Try.prog.cellsOf 3 = 1 := by kernel_rfl
theorem cellsRow : Try.prog.cellsOf 25 = 1 := by kernel_rfl
theorem cellsEdge : Try.prog.cellsOf 79 = 2 := by kernel_rfl

theorem ints_open {fuel : Nat} {u : Value} {x : DataW H × List MemPlace} (h : DataW.trod enc Try.prog w base (fun _ => true) held fuel 25 [u] = some x) : ∃ l, IntsAt w u l ∧ CapOk u := by
 rcases open_ints Try.underlying25 Try.underlying3 cellsInt h with ⟨hcs, _⟩ | ⟨a, len', cap', zs, hcs, _, hl, hm, hz, _, hcell, hwz⟩
 ·simp at hcs
  subst hcs
  exact ⟨[], IntsAt.nil w, none, 0, 0, rfl, by decide, by decide⟩
 ·simp at hcs
  subst hcs
  have hz' : zs.length = cap' := by simpa using hz
  have hlen : (zs.take len').length = len' := by simp; omega
  unfold maxLen at hm
  refine ⟨zs.take len', ⟨some a, cap', by rw [hlen], fun y hy => hwz y (List.mem_of_mem_take hy), by rw [hlen]; omega, fun hne => ?_⟩, some a, len', cap', rfl, hl, by omega⟩
  obtain ⟨b, off, rfl, hc⟩ := ints_at hcell (by
   rcases Nat.eq_zero_or_pos zs.length with q | q
   ·rw [List.length_eq_zero_iff.1 q] at hne; simp at hne
   ·exact q)
  refine ⟨b, off, rfl, fun i hi => ?_⟩
  rw [hlen] at hi
  rw [hc i (by omega)]
  simp [List.getD, hi]

theorem rows_open {fuel : Nat} {u : Value} {x : DataW H × List MemPlace} (h : DataW.trod enc Try.prog w base (fun _ => true) held fuel 28 [u] = some x) : ∃ ll, RowsAt w u ll := by
 rcases open_slice Try.underlying28 h with ⟨hcs, _⟩ | ⟨a, len', cap', m, n, D, Pl, hcs, _, hl, hm, hmm, _, hx⟩
 ·simp at hcs
  subst hcs
  exact ⟨[], none, 0, rfl, by decide, fun i hi => absurd hi (by simp)⟩
 ·simp at hcs
  subst hcs
  simp only [if_true] at hmm
  subst hmm
  have each : ∀ i, i < m → ∃ l : List Int, ∃ u, w.cell? (a.add (i * 1)) = some u ∧ IntsAt w u l ∧ CapOk u := by
   intro i hi
   obtain ⟨cs', hc, ht⟩ := hx i hi
   rw [cellsRow] at hc
   obtain ⟨_, hlen, hat⟩ := World.cells?_some hc
   match cs', hlen with
   | [c0], _ =>
    obtain ⟨l, h1, h2⟩ := ints_open ht
    refine ⟨l, c0, ?_, h1, h2⟩
    have := hat 0 (by omega); rw [add_add] at this; simpa using this
  obtain ⟨f, hf⟩ := choose_lt each
  unfold maxLen at hm
  refine ⟨(List.range len').map f, some a, m, by simp, by simp; omega, fun i hi => ?_⟩
  have hi : i < len' := by simpa using hi
  obtain ⟨u, k0, k1, k2⟩ := hf i (by omega)
  obtain ⟨b, off, spot⟩ := a
  have hs : spot = none := by
   obtain ⟨u0, z0, -⟩ := hf 0 (by omega)
   have := World.cell?_spot z0
   simpa [Addr.add] using this
  subst hs
  refine ⟨b, off, u, rfl, ?_, k2, by simpa [List.getD, hi] using k1⟩
  have := k0
  rw [add_plain] at this
  simpa using this

set_option maxRecDepth 100000 in
theorem gr_open {r : Reach} {b0 : Nat} {v : Value} {d : DataW H} {p : List MemPlace} (hv : Value.okWide Try.prog w r b0 24 v) (h : DataW.Trod enc Try.prog w base (fun _ => true) held 24 v d p) : ∃ g, GrAt w v g := by
 obtain ⟨c0, c1, y0, y1, n, rfl, -, -, h0, h1⟩ := open_agg2 Try.underlying24 (by kernel_rfl) (by kernel_rfl) hv h
 obtain ⟨N, e0, _, w0⟩ := DataW.trod_int Try.underlying3 h0
 simp at e0
 subst e0
 rcases open_slice Try.underlying22 h1 with ⟨hcs, _⟩ | ⟨a, len', cap', m, n', D, Pl, hcs, _, hl, hm, hmm, _, hx⟩
 ·simp at hcs
  subst hcs
  exact ⟨⟨N, []⟩, none, 0, rfl, w0, Nat.zero_le _, fun i hi => absurd hi (by simp), fun i hi => absurd hi (by simp)⟩
 ·simp at hcs
  subst hcs
  simp only [if_true] at hmm
  subst hmm
  have each : ∀ i, i < m → ∃ y : Int × Int, (I64 y.1 ∧ I64 y.2) ∧ w.cell? (a.add (i * 2)) = some (.int .i64 y.1) ∧ w.cell? (a.add (i * 2 + 1)) = some (.int .i64 y.2) := by
   intro i hi
   obtain ⟨cs', hc, ht⟩ := hx i hi
   rw [cellsEdge] at hc
   obtain ⟨_, hlen, hat⟩ := World.cells?_some hc
   obtain ⟨y0, y1, n', _, _, k0, k1⟩ := trod_struct2 Try.underlying79 ht
   match cs', hlen with
   | [c0, c1], _ =>
    simp only [cellsInt, List.drop_zero, List.drop_succ_cons, List.take_succ_cons, List.take_zero] at k0 k1
    obtain ⟨x0, e0, _, q0⟩ := DataW.trod_int Try.underlying3 k0
    obtain ⟨x1, e1, _, q1⟩ := DataW.trod_int Try.underlying3 k1
    simp at e0 e1
    subst e0 e1
    refine ⟨(x0, x1), ⟨q0, q1⟩, ?_, ?_⟩
    ·have := hat 0 (by omega); rw [add_add] at this; simpa using this
    ·have := hat 1 (by omega); rw [add_add] at this; simpa using this
  obtain ⟨f, hf⟩ := choose_lt each
  unfold maxLen at hm
  have hg : ∀ i, i < len' → ((List.range len').map f).getD i (0, 0) = f i := fun i hi => by simp [List.getD, hi]
  refine ⟨⟨N, (List.range len').map f⟩, some a, m, by simp, w0, by simp; omega, fun i hi => ?_, fun i hi => ?_⟩
  ·have hi : i < len' := by simpa using hi
   show I64 (((List.range len').map f).getD i (0, 0)).1 ∧ I64 (((List.range len').map f).getD i (0, 0)).2
   rw [hg i hi]
   exact (hf i (by omega)).1
  ·have hi : i < len' := by simpa using hi
   obtain ⟨_, k0, k1⟩ := hf i (by omega)
   obtain ⟨b, off, spot⟩ := a
   have hs : spot = none := by
    have := World.cell?_spot (hf 0 (by omega)).2.1
    simpa [Addr.add] using this
   subst hs
   refine ⟨b, off, rfl, ?_, ?_⟩
   ·show _ = some (Value.int .i64 (((List.range len').map f).getD i (0, 0)).1)
    rw [hg i hi, ← add_plain]; exact k0
   ·show _ = some (Value.int .i64 (((List.range len').map f).getD i (0, 0)).2)
    rw [hg i hi, Nat.add_assoc, ← add_plain]; exact k1

set_option maxRecDepth 100000 in
theorem pt_open {r : Reach} {b0 : Nat} {v : Value} {d : DataW H} {p : List MemPlace} (hv : Value.okWide Try.prog w r b0 27 v) (h : DataW.Trod enc Try.prog w base (fun _ => true) held 27 v d p) : ∃ g, PtAt w v g := by
 obtain ⟨c0, c1, y0, y1, n, rfl, -, -, h0, h1⟩ := open_agg2 Try.underlying27 (by kernel_rfl) (by kernel_rfl) hv h
 obtain ⟨l0, k0, -⟩ := ints_open h0
 obtain ⟨l1, k1, -⟩ := ints_open h1
 exact ⟨⟨l0, l1⟩, c0, c1, rfl, k0, k1⟩

set_option maxRecDepth 100000 in
theorem pl_open {r : Reach} {b0 : Nat} {v : Value} {d : DataW H} {p : List MemPlace} (hv : Value.okWide Try.prog w r b0 30 v) (h : DataW.Trod enc Try.prog w base (fun _ => true) held 30 v d p) : ∃ turn same, PlAt w v turn same := by
 obtain ⟨c0, c1, y0, y1, n, rfl, -, -, h0, h1⟩ := open_agg2 Try.underlying30 (by kernel_rfl) (by kernel_rfl) hv h
 obtain ⟨l0, k0⟩ := rows_open h0
 obtain ⟨l1, k1⟩ := rows_open h1
 exact ⟨l0, l1, c0, c1, rfl, k0, k1⟩
end
end Go.Proofs.Ytckjpaimbmlboaa
/- ref04: the contract of Rises. Condition: a list that lies in memory and reads so. -/
namespace Go.Proofs.Ytckjpaimbmlboaa
open Go.RowKit Go.Maps

end Go.Proofs.Ytckjpaimbmlboaa
/- ref04: the contract of Right. Condition: a graph that lies in memory and reads so. -/
namespace Go.Proofs.Ytckjpaimbmlboaa
open Go.RowKit Go.Maps

end Go.Proofs.Ytckjpaimbmlboaa
/- ref04: the contract of RightPart. Conditions: a graph, a part that lie in memory and read so, of a bounded size. -/
namespace Go.Proofs.Ytckjpaimbmlboaa
open Go.RowKit Go.Maps

end Go.Proofs.Ytckjpaimbmlboaa
/- ref02: the contracts of Find, Right. Condition: a list that lies in memory and reads so. -/
namespace Go.Proofs.Ytckjpaimbmlboaa
open Go.RowKit Go.Maps

namespace Plain
def findIx (l : List Int) (x : Int) : Int := if x ∈ l then (l.idxOf x : Nat) else -1
theorem findIx_hit {l : List Int} {x : Int} {k : Nat} (hk : k < l.length) (h : l.getD k 0 = x) (hn : x ∉ l.take k) : findIx l x = k := by
 have hm : x ∈ l := by rw [← h]; simp [List.getD, hk]
 have hi := List.idxOf_lt_length_iff.2 hm
 unfold findIx
 rw [if_pos hm]
 have h1 : ¬ l.idxOf x < k := fun q => hn (by
  have e : (l.take k)[l.idxOf x]? = some x := by rw [List.getElem?_take, if_pos q, List.getElem?_eq_getElem hi, List.getElem_idxOf]
  exact List.mem_of_getElem? e)
 have h2 : ¬ k < l.idxOf x := fun q => by
  have := List.not_of_lt_findIdx (xs := l) (p := fun y => y == x) q
  simp [List.getD, hk] at h
  simp [h] at this
 omega
theorem findIx_miss {l : List Int} {x : Int} (h : x ∉ l) : findIx l x = -1 := if_neg h
end Plain

namespace Plain
end Plain

theorem find02_any (v : Value) (l : List Int) (x : Int) (w : World) (h : IntsAt w v l) :
  Calls Try.prog 128 #[v, .int .i64 x] w fun e w' => e = .returned (.int .i64 (Plain.findIx l x)) ∧ Chg [] w w' := by
 obtain ⟨ao, cap, rfl, -, hm, hcell⟩ := h
 have HCE := Lib.hid hcell
 clear hcell
 go_enter Try.func128, Try.ntmps128
 go_wp2
 go_loopw [5] (fun c wr => ∃ k : Nat, k ≤ l.length ∧ c = .int .i64 k ∧ Chg [] w wr ∧ Hid (x ∉ l.take k)) (fun c _ => l.length - (intOf c).toNat)
 case atStart => exact ⟨0, Nat.zero_le _, rfl, Chg.refl _ _, Lib.hid (by simp)⟩
 case round =>
  obtain ⟨k, hk, rfl, hc, hno⟩ := hrel
  have HC := Lib.hid hc
  by_cases hlt : k < l.length
  ·obtain ⟨b, off, rfl, hfc⟩ := HCE.out (by intro e; rw [e] at hlt; simp at hlt)
   have c0 := hc.cell (hfc k hlt) (by simp)
   have HH := Lib.hid (fun h => Plain.findIx_hit (x := x) hlt h hno.out)
   have HT := Lib.hid (show l.take (k + 1) = l.take k ++ [l.getD k 0] by rw [List.take_succ_eq_append_getElem hlt]; simp [List.getD, hlt])
   obtain ⟨z, hz⟩ : ∃ z, l.getD k 0 = z := ⟨_, rfl⟩
   rw [hz] at c0 HH HT
   clear hfc hc hz
   by_cases e : z = x
   ·have HE := Lib.hid (HH.out e)
    have b1 : (z == x) = true := by rw [beq_iff_eq]; exact e
    clear e
    go_wp2
    go_ret
    exact ⟨ret_int HE.out.symm, HC.out⟩
   ·have HN := Lib.hid (show x ∉ l.take (k + 1) by rw [HT.out, List.mem_append]; rintro (q | q); exact hno.out q; exact e (List.mem_singleton.1 q).symm)
    have b1 : (z == x) = false := by rw [beq_eq_false_iff_ne]; exact e
    clear e
    go_wp2
    go_roundw
    case rel => exact ⟨k + 1, by omega, by go_num, HC.out, HN⟩
    case measure => simp [intOf]; omega
  ·have e : k = l.length := by omega
   subst e
   have HE := Lib.hid (Plain.findIx_miss (l := l) (x := x) (by have := hno.out; rwa [List.take_length] at this))
   clear hc
   go_wp2
   go_ret
   exact ⟨ret_int HE.out.symm, HC.out⟩

end Go.Proofs.Ytckjpaimbmlboaa
/- The walk of each dart, begun with it; the walks of turns are those that begin with their least dart. No program here. -/
namespace Go.Proofs.Ytckjpaimbmlboaa.Plain

theorem rings_next {g : Gr} {p : Pt} {turn : List (List Int)} (hp : PartOk g p) (ht : TurnsOk g p turn) : ∃ C, Rings (nextDart g turn) C ∧ C.flatten.Perm p.darts := by
 obtain ⟨h1, h2⟩ := before_rings ht hp.en hp.vn hp.vr
 have hA := twin_rings hp.en
 have hl : leaving g p p.v = p.darts := List.filter_eq_self.2 fun d hd => decide_eq_true (hp.tail_mem hd).1
 have hd : (p.e.map fun e => [2 * e, 2 * e + 1]).flatten = p.darts := by rw [Pt.darts, List.flatMap_def]
 obtain ⟨C, h, k, -⟩ := Rings.mul _ rfl h1 hA (by rw [hd, ← hl]; exact h2.symm)
 exact ⟨C, h.congr fun x _ => rfl, by rw [hd] at k; exact k⟩

structure Cyc (g : Gr) (p : Pt) (turn : List (List Int)) (d : Int) (l : List Int) : Prop where
 ring : Ring (nextDart g turn) (d :: l)
 nodup : (d :: l).Nodup
 sub : ∀ x ∈ d :: l, x ∈ p.darts

theorem cyc_some {g : Gr} {p : Pt} {turn : List (List Int)} (hp : PartOk g p) (ht : TurnsOk g p turn) {d : Int} (hd : d ∈ p.darts) : ∃ l, Cyc g p turn d l := by
 obtain ⟨C, hC, hperm⟩ := rings_next hp ht
 obtain ⟨c, hc, hdc⟩ := List.mem_flatten.1 (hperm.mem_iff.2 hd)
 obtain ⟨l, hl, hlp⟩ := (hC.ring c hc).from hdc
 exact ⟨l, hl, hlp.nodup_iff.2 ((nodup_flat.1 hC.nodup).1 c hc), fun x hx => hperm.mem_iff.1 (List.mem_flatten.2 ⟨c, hc, hlp.mem_iff.1 hx⟩)⟩

theorem Cyc.one {g : Gr} {p : Pt} {turn : List (List Int)} {d : Int} {l m : List Int} (h : Cyc g p turn d l) (k : Cyc g p turn d m) : l = m :=
 Trail.det (x := d) h.ring k.ring (List.nodup_cons.1 h.nodup).1 (List.nodup_cons.1 k.nodup).1

theorem Cyc.turn {g : Gr} {p : Pt} {turn : List (List Int)} {d x : Int} {l : List Int} (h : Cyc g p turn d l) (hx : x ∈ d :: l) : ∃ m, Cyc g p turn x m ∧ (x :: m).Perm (d :: l) := by
 obtain ⟨m, hm, hp⟩ := h.ring.from hx
 exact ⟨m, ⟨hm, hp.nodup_iff.2 h.nodup, fun y hy => h.sub y (hp.mem_iff.1 hy)⟩, hp⟩

open Classical in
noncomputable def cycOf (g : Gr) (p : Pt) (turn : List (List Int)) (d : Int) : List Int := if h : ∃ l, Cyc g p turn d l then Classical.choose h else []
theorem cycOf_ok {g : Gr} {p : Pt} {turn : List (List Int)} (hp : PartOk g p) (ht : TurnsOk g p turn) {d : Int} (hd : d ∈ p.darts) : Cyc g p turn d (cycOf g p turn d) := by
 have h := cyc_some hp ht hd
 unfold cycOf
 rw [dif_pos h]
 exact Classical.choose_spec h

theorem ring_at {q : Int → Int} {d : Int} {l : List Int} (h : Ring q (d :: l)) {k : Nat} (hk : k ≤ l.length) : q ((d :: l).getD k 0) = (l ++ [d]).getD k 0 := by
 have e := Trail.map (show Trail q d l d from h)
 have e2 : ((d :: l).map q)[k]? = (l ++ [d])[k]? := by rw [e]
 rw [List.getElem?_map] at e2
 have h1 : (d :: l)[k]? = some ((d :: l).getD k 0) := by
  rw [List.getElem?_eq_getElem (by simp; omega)]; simp [List.getD, List.getElem?_eq_getElem (show k < (d :: l).length by simp; omega)]
 rw [h1, Option.map_some] at e2
 unfold List.getD at e2 ⊢
 rw [← e2]
 rfl

noncomputable def minAt (g : Gr) (p : Pt) (turn : List (List Int)) (d : Int) : Bool := (cycOf g p turn d).all fun x => decide (d < x)
noncomputable def minsTo (g : Gr) (p : Pt) (turn : List (List Int)) (k : Nat) : List Face := ((p.darts.take k).filter (minAt g p turn)).map fun d => (d, d :: cycOf g p turn d)

theorem minsTo_zero (g : Gr) (p : Pt) (turn : List (List Int)) : minsTo g p turn 0 = [] := by simp [minsTo]
theorem minsTo_succ {g : Gr} {p : Pt} {turn : List (List Int)} {k : Nat} (hk : k < p.darts.length) : minsTo g p turn (k + 1) = minsTo g p turn k ++ if minAt g p turn (p.darts.getD k 0) then [(p.darts.getD k 0, p.darts.getD k 0 :: cycOf g p turn (p.darts.getD k 0))] else [] := by
 unfold minsTo
 rw [take_snoc hk, List.filter_append, List.map_append]
 congr 1
 by_cases h : minAt g p turn (p.darts.getD k 0) = true
 ·rw [List.filter_cons_of_pos h, if_pos h]; rfl
 ·rw [List.filter_cons_of_neg h, if_neg h]; rfl
theorem minsTo_len (g : Gr) (p : Pt) (turn : List (List Int)) (k : Nat) : (minsTo g p turn k).length ≤ k := by
 unfold minsTo
 rw [List.length_map]
 exact Nat.le_trans (List.length_filter_le _ _) (by rw [List.length_take]; omega)

theorem min_of_mem {g : Gr} {p : Pt} {turn : List (List Int)} {f : Face} {k : Nat} (h : f ∈ minsTo g p turn k) : f.1 ∈ p.darts ∧ minAt g p turn f.1 = true ∧ f.2 = f.1 :: cycOf g p turn f.1 := by
 unfold minsTo at h
 obtain ⟨d, hd, rfl⟩ := List.mem_map.1 h
 obtain ⟨h1, h2⟩ := List.mem_filter.1 hd
 exact ⟨(List.take_sublist _ _).subset h1, h2, rfl⟩

theorem mins_trk {g : Gr} {p : Pt} {turn : List (List Int)} (hp : PartOk g p) (hr : p.e.Pairwise (· < ·)) (ht : TurnsOk g p turn) : Trk g p turn (minsTo g p turn p.darts.length) p.darts := by
 have hle : ∀ f ∈ minsTo g p turn p.darts.length, ∀ y ∈ f.2, f.1 ≤ y := by
  intro f hf y hy
  obtain ⟨-, h2, h3⟩ := min_of_mem hf
  rw [h3] at hy
  rcases List.mem_cons.1 hy with q | q
  ·omega
  ·have := List.all_eq_true.1 h2 y q
   simp at this; omega
 have hcy : ∀ f ∈ minsTo g p turn p.darts.length, Cyc g p turn f.1 (cycOf g p turn f.1) := fun f hf => cycOf_ok hp ht (min_of_mem hf).1
 have hkeys : ((minsTo g p turn p.darts.length).map (·.1)) = p.darts.filter (minAt g p turn) := by
  unfold minsTo
  rw [List.take_length, List.map_map]
  exact List.map_id' _
 have hdp := darts_pair hr
 have hksub : ((minsTo g p turn p.darts.length).map (·.1)).Sublist p.darts := by rw [hkeys]; exact List.filter_sublist
 have hone : ∀ f ∈ minsTo g p turn p.darts.length, ∀ f' ∈ minsTo g p turn p.darts.length, ∀ y, y ∈ f.2 → y ∈ f'.2 → f.1 = f'.1 := by
  intro f hf f' hf' y hy hy'
  have h3 := (min_of_mem hf).2.2
  have h3' := (min_of_mem hf').2.2
  rw [h3] at hy
  rw [h3'] at hy'
  obtain ⟨m, hm, hmp⟩ := (hcy f hf).turn hy
  obtain ⟨m', hm', hmp'⟩ := (hcy f' hf').turn hy'
  have := hm.one hm'
  subst this
  have hperm := hmp.symm.trans hmp'
  have h1 := hle f hf f'.1 (by rw [h3]; exact hperm.mem_iff.2 (by simp))
  have h2 := hle f' hf' f.1 (by rw [h3']; exact hperm.mem_iff.1 (by simp))
  omega
 refine ⟨⟨fun c hc => ?_, ?_⟩, fun x hx => ?_, fun f hf => ⟨_, (min_of_mem hf).2.2⟩, hksub, fun f hf => ?_, fun x hx => ?_⟩
 ·obtain ⟨f, hf, rfl⟩ := List.mem_map.1 hc
  rw [(min_of_mem hf).2.2]
  exact (hcy f hf).ring
 ·rw [nodup_flat]
  refine ⟨fun l hl => ?_, ?_⟩
  ·obtain ⟨f, hf, rfl⟩ := List.mem_map.1 hl
   rw [(min_of_mem hf).2.2]
   exact (hcy f hf).nodup
  ·rw [List.pairwise_map]
   have hkp : (minsTo g p turn p.darts.length).Pairwise fun a b => a.1 < b.1 := by
    have := hdp.sublist hksub
    rwa [List.pairwise_map] at this
   refine hkp.imp_of_mem ?_
   intro a b ha hb hab x hx y hy e
   subst e
   have := hone a ha b hb x hx hy
   omega
 ·obtain ⟨c, hc, hxc⟩ := List.mem_flatten.1 hx
  obtain ⟨f, hf, rfl⟩ := List.mem_map.1 hc
  rw [(min_of_mem hf).2.2] at hxc
  exact (hcy f hf).sub x hxc
 ·obtain ⟨a, b, e⟩ := List.append_of_mem (min_of_mem hf).1
  refine ⟨a, b, e, fun y hy ha => ?_⟩
  have h1 := hle f hf y hy
  rw [e] at hdp
  have := (List.pairwise_append.1 hdp).2.2 y ha f.1 (by simp)
  omega
 ·obtain ⟨l, hl⟩ := cyc_some hp ht hx
  obtain ⟨d, hd, hmin⟩ := exists_least (l := x :: l) (by simp)
  obtain ⟨m, hm, hmp⟩ := hl.turn hd
  have hdd := hl.sub d hd
  have e := (cycOf_ok hp ht hdd).one hm
  have hma : minAt g p turn d = true := by
   unfold minAt
   rw [List.all_eq_true, e]
   intro y hy
   have h1 := hmin y (hmp.mem_iff.1 (by simp [hy]))
   have h2 : d ≠ y := fun q => (List.nodup_cons.1 hm.nodup).1 (q ▸ hy)
   simp; omega
  refine List.mem_flatten.2 ⟨d :: cycOf g p turn d, List.mem_map.2 ⟨(d, d :: cycOf g p turn d), List.mem_map.2 ⟨d, List.mem_filter.2 ⟨by rw [List.take_length]; exact hdd, hma⟩, rfl⟩, rfl⟩, ?_⟩
  rw [e]
  exact hmp.mem_iff.2 (by simp)

theorem mins_walks {g : Gr} {p : Pt} {turn : List (List Int)} (hr : p.err g = 0) (ht : TurnsOk g p turn) : loneAt turn p.v ++ minsTo g p turn p.darts.length = walksOf g p turn :=
 ((mins_trk (Pt.ok_of_err hr) (rises_pair (Pt.err_ok hr).2.2.1) ht).walks (Pt.ok_of_err hr)).eq hr
end Go.Proofs.Ytckjpaimbmlboaa.Plain
/- Turns, told vertex by vertex: as many darts as leave it, each once, all of them. No program here. -/
namespace Go.Proofs.Ytckjpaimbmlboaa.Plain

def dartsAt (g : Gr) (p : Pt) (v : Int) : List Int := p.darts.filter fun d => decide (g.tail d = v)
theorem mem_dartsAt {g : Gr} {p : Pt} {v d : Int} : d ∈ dartsAt g p v ↔ d ∈ p.darts ∧ g.tail d = v := by simp [dartsAt]
theorem dartsAt_nodup {g : Gr} {p : Pt} (h : p.e.Nodup) (v : Int) : (dartsAt g p v).Nodup := (darts_nodup h).filter _
theorem darts_getD {p : Pt} {i : Nat} (hi : i < p.e.length) (s : Nat) (hs : s < 2) : p.darts.getD (2 * i + s) 0 = 2 * p.e.getD i 0 + s := by
 obtain ⟨v, e⟩ := p
 unfold Pt.darts
 dsimp only at hi ⊢
 induction e generalizing i with
 | nil => simp at hi
 | cons a l ih =>
  rw [List.flatMap_cons]
  cases i with
  | zero => rcases (show s = 0 ∨ s = 1 by omega) with rfl | rfl <;> simp [List.getD]
  | succ i =>
   have := ih (i := i) (by simpa using hi)
   rw [show 2 * (i + 1) + s = (2 * i + s) + 2 by omega]
   simpa [List.getD] using this

def rowOk (g : Gr) (p : Pt) (turn : List (List Int)) (v : Int) : Prop := (dartsAt g p v).length = (turnAt turn v).length ∧ (turnAt turn v).Nodup ∧ ∀ d ∈ dartsAt g p v, d ∈ turnAt turn v

theorem perm_of_sub {l m : List Int} (hl : l.Nodup) (h : ∀ x ∈ l, x ∈ m) (hlen : l.length = m.length) : ∀ x ∈ m, x ∈ l := by
 intro x hx
 refine Classical.byContradiction fun q => ?_
 have h1 := len_le_of_sub (l := x :: l) (m := m) (List.nodup_cons.2 ⟨q, hl⟩) (fun y hy => by rcases List.mem_cons.1 hy with r | r; exact r ▸ hx; exact h y r)
 simp at h1
 omega

theorem turns_of_rows {g : Gr} {p : Pt} {turn : List (List Int)} (hp : PartOk g p) (hl : (turn.length : Int) = g.n) (h : ∀ v : Nat, (v : Int) < g.n → Plain.rowOk g p turn v) : TurnsOk g p turn := by
 have hrow : ∀ v : Int, 0 ≤ v → v < g.n → Plain.rowOk g p turn v := fun v h0 hn => by
  have := h v.toNat (by omega)
  rwa [show ((v.toNat : Nat) : Int) = v by omega] at this
 refine ⟨hl, fun v => ?_, fun v h0 hn d => ?_⟩
 ·by_cases h1 : v.toNat < turn.length
  ·have := (hrow (v.toNat : Nat) (by omega) (by omega)).2.1
   unfold turnAt at this ⊢
   rwa [Int.toNat_natCast] at this
  ·unfold turnAt
   rw [List.getD, List.getElem?_eq_none (by omega)]
   simp
 ·obtain ⟨h1, -, h3⟩ := hrow v h0 hn
  rw [← mem_dartsAt]
  exact ⟨fun hd => perm_of_sub (dartsAt_nodup hp.en v) h3 h1 d hd, h3 d⟩

theorem Pt.edge_in {g : Gr} {p : Pt} (h : p.err g = 0) {e : Int} (he : e ∈ p.e) : 0 ≤ e ∧ e < g.e.length := by
 obtain ⟨i, hi, rfl⟩ := mem_getD he
 have := rises_at (Pt.err_ok h).2.2.1 hi
 exact ⟨this.1, this.2.1⟩
theorem Pt.dart_nat {g : Gr} {p : Pt} (h : p.err g = 0) {d : Int} (hd : d ∈ p.darts) : ∃ n : Nat, d = n ∧ n / 2 < g.e.length ∧ n < 2048 := by
 have h1 := edge_in h (mem_darts.1 hd)
 have h2 := Gr.err_ok (Pt.err_ok h).1
 exact ⟨d.toNat, by omega, by omega, by omega⟩

end Go.Proofs.Ytckjpaimbmlboaa.Plain
