/- ref02: the contracts of Find, Right. Condition: a list that lies in memory and reads so. -/
import Derived.Test.YtfgbkpbakignhaaGreatVSums
import Derived.Test.YtfgbkpbakignhaaGreatVWalkU
import Derived.Test.YtfgbkpbakignhaaGreatVWake
import Derived.Test.YtfgbkpbakignhaaGreatVSetsC
namespace Go.Proofs.YtfgbkpbakignhaaGreat
open Go.RowKit Go.Maps

namespace Plain
def findIx (l : List Int) (x : Int) : Int := if x ∈ l then (l.idxOf x : Nat) else -1
theorem findIx_hit {l : List Int} {x : Int} {k : Nat} (hk : k < l.length) (h : l.getD k 0 = x) (hn : x ∉ l.take k) : findIx l x = k := by
 have hm : x ∈ l := by rw [← h]; simp [List.getD, hk]
 have hi := List.idxOf_lt_length_iff.2 hm
 unfold findIx
 rw [if_pos hm]
 have h1 : ¬ l.idxOf x < k := fun q => hn (by
  have e : (l.take k)[l.idxOf x]? = some x := by rw [List.getElem?_take, if_pos q, List.getElem?_eq_getElem hi, List.getElem_idxOf]
  exact List.mem_of_getElem? e)
 have h2 : ¬ k < l.idxOf x := fun q => by
  have := List.not_of_lt_findIdx (xs := l) (p := fun y => y == x) q
  simp [List.getD, hk] at h
  simp [h] at this
 omega
theorem findIx_miss {l : List Int} {x : Int} (h : x ∉ l) : findIx l x = -1 := if_neg h
end Plain

namespace Plain
theorem findIx_lt {l : List Int} {k : Nat} (hk : k < l.length) : findIx l (l.getD k 0) < k ↔ l.getD k 0 ∈ l.take k := by
 constructor
 ·intro h
  by_cases q : l.getD k 0 ∈ l.take k
  ·exact q
  ·rw [findIx_hit hk rfl q] at h; omega
 ·intro h
  obtain ⟨i, hi, e⟩ := List.getElem_of_mem h
  rw [List.length_take] at hi
  rw [List.getElem_take] at e
  have hm : l.getD k 0 ∈ l := by simp [List.getD, hk]
  unfold findIx
  rw [if_pos hm]
  have h2 : ¬ i < l.idxOf (l.getD k 0) := fun q => by
   have := List.not_of_lt_findIdx (xs := l) (p := fun y => y == l.getD k 0) q
   simp at this
   exact this (by simpa [List.getD, hk] using e)
  omega
theorem nodup_snoc {l : List Int} {k : Nat} (hk : k < l.length) : (l.take (k + 1)).Nodup ↔ (l.take k).Nodup ∧ l.getD k 0 ∉ l.take k := by
 have e : l.take (k + 1) = l.take k ++ [l.getD k 0] := by rw [List.take_succ_eq_append_getElem hk]; simp [List.getD, hk]
 rw [e, List.nodup_append]
 constructor
 ·rintro ⟨h1, -, h3⟩
  exact ⟨h1, fun h => h3 _ h _ (by simp) rfl⟩
 ·rintro ⟨h1, h2⟩
  exact ⟨h1, by simp, fun x hx y hy e => h2 (by rw [← List.mem_singleton.1 hy, ← e]; exact hx)⟩
end Plain

theorem find02_any (v : Value) (l : List Int) (x : Int) (w : World) (h : IntsAt w v l) :
  Calls Tryz.prog 103 #[v, .int .i64 x] w fun e w' => e = .returned (.int .i64 (Plain.findIx l x)) ∧ Chg [] w w' := by
 obtain ⟨ao, cap, rfl, -, hm, hcell⟩ := h
 have HCE := Lib.hid hcell
 clear hcell
 go_enter Tryz.func103, Tryz.ntmps103
 go_wp2
 go_loopw [5] (fun c wr => ∃ k : Nat, k ≤ l.length ∧ c = .int .i64 k ∧ Chg [] w wr ∧ Hid (x ∉ l.take k)) (fun c _ => l.length - (intOf c).toNat)
 case atStart => exact ⟨0, Nat.zero_le _, rfl, Chg.refl _ _, Lib.hid (by simp)⟩
 case round =>
  obtain ⟨k, hk, rfl, hc, hno⟩ := hrel
  have HC := Lib.hid hc
  by_cases hlt : k < l.length
  ·obtain ⟨b, off, rfl, hfc⟩ := HCE.out (by intro e; rw [e] at hlt; simp at hlt)
   have c0 := hc.cell (hfc k hlt) (by simp)
   have HH := Lib.hid (fun h => Plain.findIx_hit (x := x) hlt h hno.out)
   have HT := Lib.hid (show l.take (k + 1) = l.take k ++ [l.getD k 0] by rw [List.take_succ_eq_append_getElem hlt]; simp [List.getD, hlt])
   obtain ⟨z, hz⟩ : ∃ z, l.getD k 0 = z := ⟨_, rfl⟩
   rw [hz] at c0 HH HT
   clear hfc hc hz
   by_cases e : z = x
   ·have HE := Lib.hid (HH.out e)
    have b1 : (z == x) = true := by rw [beq_iff_eq]; exact e
    clear e
    go_wp2
    go_ret
    exact ⟨ret_int HE.out.symm, HC.out⟩
   ·have HN := Lib.hid (show x ∉ l.take (k + 1) by rw [HT.out, List.mem_append]; rintro (q | q); exact hno.out q; exact e (List.mem_singleton.1 q).symm)
    have b1 : (z == x) = false := by rw [beq_eq_false_iff_ne]; exact e
    clear e
    go_wp2
    go_roundw
    case rel => exact ⟨k + 1, by omega, by go_num, HC.out, HN⟩
    case measure => simp [intOf]; omega
  ·have e : k = l.length := by omega
   subst e
   have HE := Lib.hid (Plain.findIx_miss (l := l) (x := x) (by have := hno.out; rwa [List.take_length] at this))
   clear hc
   go_wp2
   go_ret
   exact ⟨ret_int HE.out.symm, HC.out⟩

theorem right02_any (v : Value) (l : List Int) (w : World) (h : IntsAt w v l) :
  Calls Tryz.prog 72 #[v] w fun e w' => e = .returned (.bool (decide l.Nodup)) ∧ Chg [] w w' := by
 have HI := Lib.hid h
 obtain ⟨ao, cap, rfl, -, hm, hcell⟩ := h
 have HCE := Lib.hid hcell
 clear hcell
 go_enter Tryz.func72, Tryz.ntmps72
 go_wp2
 go_loopw [3] (fun c wr => ∃ k : Nat, k ≤ l.length ∧ c = .int .i64 k ∧ Chg [] w wr ∧ Hid ((l.take k).Nodup)) (fun c _ => l.length - (intOf c).toNat)
 case atStart => exact ⟨0, Nat.zero_le _, rfl, Chg.refl _ _, Lib.hid (by simp)⟩
 case round =>
  obtain ⟨k, hk, rfl, hc, hno⟩ := hrel
  have HC := Lib.hid hc
  by_cases hlt : k < l.length
  ·obtain ⟨b, off, rfl, hfc⟩ := HCE.out (by intro e; rw [e] at hlt; simp at hlt)
   have c0 := hc.cell (hfc k hlt) (by simp)
   have HL := Lib.hid (Plain.findIx_lt hlt)
   have HS := Lib.hid (Plain.nodup_snoc hlt)
   have HSUB := Lib.hid (fun (h : l.Nodup) => h.sublist (List.take_sublist (k + 1) l))
   obtain ⟨z, hz⟩ : ∃ z, l.getD k 0 = z := ⟨_, rfl⟩
   rw [hz] at c0 HL HS
   clear hfc hc hz
   go_wp2_with fail
   refine (find02_any _ l z _ (HI.out.fresh HC.out)).mono ?_
   rintro e w2 ⟨rfl, hc2⟩
   have HC2 := Lib.hid (HC.out.trans hc2 (by simp))
   clear hc2 c0
   by_cases q : z ∈ l.take k
   ·have b1 : decide (Plain.findIx l z < (k : Int)) = true := decide_eq_true (HL.out.2 q)
    have HE := Lib.hid (show decide l.Nodup = false from decide_eq_false fun h => (HS.out.1 (HSUB.out h)).2 q)
    clear q
    go_wp2
    go_ret
    exact ⟨ret_bool HE.out.symm, HC2.out⟩
   ·have b1 : decide (Plain.findIx l z < (k : Int)) = false := decide_eq_false fun h => q (HL.out.1 h)
    have HN := Lib.hid (HS.out.2 ⟨hno.out, q⟩)
    clear q
    go_wp2
    go_roundw
    case rel => exact ⟨k + 1, by omega, by go_num, HC2.out, HN⟩
    case measure => simp [intOf]; omega
  ·have e : k = l.length := by omega
   subst e
   have HE := Lib.hid (decide_eq_true (by have := hno.out; rwa [List.take_length] at this : l.Nodup))
   clear hc
   go_wp2
   go_ret
   exact ⟨ret_bool HE.out.symm, HC.out⟩
end Go.Proofs.YtfgbkpbakignhaaGreat
/- The walk of each dart, begun with it; the walks of turns are those that begin with their least dart. No program here. -/
namespace Go.Proofs.YtfgbkpbakignhaaGreat.Plain

theorem rings_next {g : Gr} {p : Pt} {turn : List (List Int)} (hp : PartOk g p) (ht : TurnsOk g p turn) : ∃ C, Rings (nextDart g turn) C ∧ C.flatten.Perm p.darts := by
 obtain ⟨h1, h2⟩ := before_rings ht hp.en hp.vn hp.vr
 have hA := twin_rings hp.en
 have hl : leaving g p p.v = p.darts := List.filter_eq_self.2 fun d hd => decide_eq_true (hp.tail_mem hd).1
 have hd : (p.e.map fun e => [2 * e, 2 * e + 1]).flatten = p.darts := by rw [Pt.darts, List.flatMap_def]
 obtain ⟨C, h, k, -⟩ := Rings.mul _ rfl h1 hA (by rw [hd, ← hl]; exact h2.symm)
 exact ⟨C, h.congr fun x _ => rfl, by rw [hd] at k; exact k⟩

structure Cyc (g : Gr) (p : Pt) (turn : List (List Int)) (d : Int) (l : List Int) : Prop where
 ring : Ring (nextDart g turn) (d :: l)
 nodup : (d :: l).Nodup
 sub : ∀ x ∈ d :: l, x ∈ p.darts

theorem cyc_some {g : Gr} {p : Pt} {turn : List (List Int)} (hp : PartOk g p) (ht : TurnsOk g p turn) {d : Int} (hd : d ∈ p.darts) : ∃ l, Cyc g p turn d l := by
 obtain ⟨C, hC, hperm⟩ := rings_next hp ht
 obtain ⟨c, hc, hdc⟩ := List.mem_flatten.1 (hperm.mem_iff.2 hd)
 obtain ⟨l, hl, hlp⟩ := (hC.ring c hc).from hdc
 exact ⟨l, hl, hlp.nodup_iff.2 ((nodup_flat.1 hC.nodup).1 c hc), fun x hx => hperm.mem_iff.1 (List.mem_flatten.2 ⟨c, hc, hlp.mem_iff.1 hx⟩)⟩

theorem Cyc.one {g : Gr} {p : Pt} {turn : List (List Int)} {d : Int} {l m : List Int} (h : Cyc g p turn d l) (k : Cyc g p turn d m) : l = m :=
 Trail.det (x := d) h.ring k.ring (List.nodup_cons.1 h.nodup).1 (List.nodup_cons.1 k.nodup).1

theorem Cyc.turn {g : Gr} {p : Pt} {turn : List (List Int)} {d x : Int} {l : List Int} (h : Cyc g p turn d l) (hx : x ∈ d :: l) : ∃ m, Cyc g p turn x m ∧ (x :: m).Perm (d :: l) := by
 obtain ⟨m, hm, hp⟩ := h.ring.from hx
 exact ⟨m, ⟨hm, hp.nodup_iff.2 h.nodup, fun y hy => h.sub y (hp.mem_iff.1 hy)⟩, hp⟩

open Classical in
noncomputable def cycOf (g : Gr) (p : Pt) (turn : List (List Int)) (d : Int) : List Int := if h : ∃ l, Cyc g p turn d l then Classical.choose h else []
theorem cycOf_ok {g : Gr} {p : Pt} {turn : List (List Int)} (hp : PartOk g p) (ht : TurnsOk g p turn) {d : Int} (hd : d ∈ p.darts) : Cyc g p turn d (cycOf g p turn d) := by
 have h := cyc_some hp ht hd
 unfold cycOf
 rw [dif_pos h]
 exact Classical.choose_spec h

theorem ring_at {q : Int → Int} {d : Int} {l : List Int} (h : Ring q (d :: l)) {k : Nat} (hk : k ≤ l.length) : q ((d :: l).getD k 0) = (l ++ [d]).getD k 0 := by
 have e := Trail.map (show Trail q d l d from h)
 have e2 : ((d :: l).map q)[k]? = (l ++ [d])[k]? := by rw [e]
 rw [List.getElem?_map] at e2
 have h1 : (d :: l)[k]? = some ((d :: l).getD k 0) := by
  rw [List.getElem?_eq_getElem (by simp; omega)]; simp [List.getD, List.getElem?_eq_getElem (show k < (d :: l).length by simp; omega)]
 rw [h1, Option.map_some] at e2
 unfold List.getD at e2 ⊢
 rw [← e2]
 rfl

noncomputable def minAt (g : Gr) (p : Pt) (turn : List (List Int)) (d : Int) : Bool := (cycOf g p turn d).all fun x => decide (d < x)
noncomputable def minsTo (g : Gr) (p : Pt) (turn : List (List Int)) (k : Nat) : List Face := ((p.darts.take k).filter (minAt g p turn)).map fun d => (d, d :: cycOf g p turn d)

theorem minsTo_zero (g : Gr) (p : Pt) (turn : List (List Int)) : minsTo g p turn 0 = [] := by simp [minsTo]
theorem minsTo_succ {g : Gr} {p : Pt} {turn : List (List Int)} {k : Nat} (hk : k < p.darts.length) : minsTo g p turn (k + 1) = minsTo g p turn k ++ if minAt g p turn (p.darts.getD k 0) then [(p.darts.getD k 0, p.darts.getD k 0 :: cycOf g p turn (p.darts.getD k 0))] else [] := by
 unfold minsTo
 rw [take_snoc hk, List.filter_append, List.map_append]
 congr 1
 by_cases h : minAt g p turn (p.darts.getD k 0) = true
 ·rw [List.filter_cons_of_pos h, if_pos h]; rfl
 ·rw [List.filter_cons_of_neg h, if_neg h]; rfl
theorem minsTo_len (g : Gr) (p : Pt) (turn : List (List Int)) (k : Nat) : (minsTo g p turn k).length ≤ k := by
 unfold minsTo
 rw [List.length_map]
 exact Nat.le_trans (List.length_filter_le _ _) (by rw [List.length_take]; omega)

theorem min_of_mem {g : Gr} {p : Pt} {turn : List (List Int)} {f : Face} {k : Nat} (h : f ∈ minsTo g p turn k) : f.1 ∈ p.darts ∧ minAt g p turn f.1 = true ∧ f.2 = f.1 :: cycOf g p turn f.1 := by
 unfold minsTo at h
 obtain ⟨d, hd, rfl⟩ := List.mem_map.1 h
 obtain ⟨h1, h2⟩ := List.mem_filter.1 hd
 exact ⟨(List.take_sublist _ _).subset h1, h2, rfl⟩

theorem mins_trk {g : Gr} {p : Pt} {turn : List (List Int)} (hp : PartOk g p) (hr : p.e.Pairwise (· < ·)) (ht : TurnsOk g p turn) : Trk g p turn (minsTo g p turn p.darts.length) p.darts := by
 have hle : ∀ f ∈ minsTo g p turn p.darts.length, ∀ y ∈ f.2, f.1 ≤ y := by
  intro f hf y hy
  obtain ⟨-, h2, h3⟩ := min_of_mem hf
  rw [h3] at hy
  rcases List.mem_cons.1 hy with q | q
  ·omega
  ·have := List.all_eq_true.1 h2 y q
   simp at this; omega
 have hcy : ∀ f ∈ minsTo g p turn p.darts.length, Cyc g p turn f.1 (cycOf g p turn f.1) := fun f hf => cycOf_ok hp ht (min_of_mem hf).1
 have hkeys : ((minsTo g p turn p.darts.length).map (·.1)) = p.darts.filter (minAt g p turn) := by
  unfold minsTo
  rw [List.take_length, List.map_map]
  exact List.map_id' _
 have hdp := darts_pair hr
 have hksub : ((minsTo g p turn p.darts.length).map (·.1)).Sublist p.darts := by rw [hkeys]; exact List.filter_sublist
 have hone : ∀ f ∈ minsTo g p turn p.darts.length, ∀ f' ∈ minsTo g p turn p.darts.length, ∀ y, y ∈ f.2 → y ∈ f'.2 → f.1 = f'.1 := by
  intro f hf f' hf' y hy hy'
  have h3 := (min_of_mem hf).2.2
  have h3' := (min_of_mem hf').2.2
  rw [h3] at hy
  rw [h3'] at hy'
  obtain ⟨m, hm, hmp⟩ := (hcy f hf).turn hy
  obtain ⟨m', hm', hmp'⟩ := (hcy f' hf').turn hy'
  have := hm.one hm'
  subst this
  have hperm := hmp.symm.trans hmp'
  have h1 := hle f hf f'.1 (by rw [h3]; exact hperm.mem_iff.2 (by simp))
  have h2 := hle f' hf' f.1 (by rw [h3']; exact hperm.mem_iff.1 (by simp))
  omega
 refine ⟨⟨fun c hc => ?_, ?_⟩, fun x hx => ?_, fun f hf => ⟨_, (min_of_mem hf).2.2⟩, hksub, fun f hf => ?_, fun x hx => ?_⟩
 ·obtain ⟨f, hf, rfl⟩ := List.mem_map.1 hc
  rw [(min_of_mem hf).2.2]
  exact (hcy f hf).ring
 ·rw [nodup_flat]
  refine ⟨fun l hl => ?_, ?_⟩
  ·obtain ⟨f, hf, rfl⟩ := List.mem_map.1 hl
   rw [(min_of_mem hf).2.2]
   exact (hcy f hf).nodup
  ·rw [List.pairwise_map]
   have hkp : (minsTo g p turn p.darts.length).Pairwise fun a b => a.1 < b.1 := by
    have := hdp.sublist hksub
    rwa [List.pairwise_map] at this
   refine hkp.imp_of_mem ?_
   intro a b ha hb hab x hx y hy e
   subst e
   have := hone a ha b hb x hx hy
   omega
 ·obtain ⟨c, hc, hxc⟩ := List.mem_flatten.1 hx
  obtain ⟨f, hf, rfl⟩ := List.mem_map.1 hc
  rw [(min_of_mem hf).2.2] at hxc
  exact (hcy f hf).sub x hxc
 ·obtain ⟨a, b, e⟩ := List.append_of_mem (min_of_mem hf).1
  refine ⟨a, b, e, fun y hy ha => ?_⟩
  have h1 := hle f hf y hy
  rw [e] at hdp
  have := (List.pairwise_append.1 hdp).2.2 y ha f.1 (by simp)
  omega
 ·obtain ⟨l, hl⟩ := cyc_some hp ht hx
  obtain ⟨d, hd, hmin⟩ := exists_least (l := x :: l) (by simp)
  obtain ⟨m, hm, hmp⟩ := hl.turn hd
  have hdd := hl.sub d hd
  have e := (cycOf_ok hp ht hdd).one hm
  have hma : minAt g p turn d = true := by
   unfold minAt
   rw [List.all_eq_true, e]
   intro y hy
   have h1 := hmin y (hmp.mem_iff.1 (by simp [hy]))
   have h2 : d ≠ y := fun q => (List.nodup_cons.1 hm.nodup).1 (q ▸ hy)
   simp; omega
  refine List.mem_flatten.2 ⟨d :: cycOf g p turn d, List.mem_map.2 ⟨(d, d :: cycOf g p turn d), List.mem_map.2 ⟨d, List.mem_filter.2 ⟨by rw [List.take_length]; exact hdd, hma⟩, rfl⟩, rfl⟩, ?_⟩
  rw [e]
  exact hmp.mem_iff.2 (by simp)

theorem mins_walks {g : Gr} {p : Pt} {turn : List (List Int)} (hr : p.err g = 0) (ht : TurnsOk g p turn) : loneAt turn p.v ++ minsTo g p turn p.darts.length = walksOf g p turn :=
 ((mins_trk (Pt.ok_of_err hr) (rises_pair (Pt.err_ok hr).2.2.1) ht).walks (Pt.ok_of_err hr)).eq hr
end Go.Proofs.YtfgbkpbakignhaaGreat.Plain
/- ref04.Twin, ref06.Step, ref06.Next: contracts. Conditions: a right part, right turns that lie in memory and read so; a dart of the part. -/
namespace Go.Proofs.YtfgbkpbakignhaaGreat
open Go.RowKit Go.Maps

theorem twin_any (d : Nat) (w : World) (hd : d < 4611686018427387904) :
  Calls Tryz.prog 67 #[.int .i64 d] w fun e w' => e = .returned (.int .i64 (Plain.twin d)) ∧ w' = w := by
 rcases (show (∃ e, d = 2 * e) ∨ ∃ e, d = 2 * e + 1 from by rcases Nat.mod_two_eq_zero_or_one d with h | h; exact Or.inl ⟨d / 2, by omega⟩; exact Or.inr ⟨d / 2, by omega⟩) with ⟨e, rfl⟩ | ⟨e, rfl⟩
 ·obtain ⟨q1, q2⟩ := quo_even e
  have HE := Lib.hid (show Plain.twin ((2 * e : Nat) : Int) = ((2 * e : Nat) : Int) + 1 by unfold Plain.twin; rw [if_pos (by omega)])
  have w1 : IntKind.i64.wrap (((2 * e : Nat) : Int) + 1) = ((2 * e : Nat) : Int) + 1 := IntWalk.i64_in _ (by omega)
  generalize ((2 * e : Nat) : Int) = dd at *
  go_enter Tryz.func67, Tryz.ntmps67
  go_wp2
  go_ret
  exact ⟨ret_int HE.out.symm, rfl⟩
 ·obtain ⟨q1, q2⟩ := quo_odd e
  have HE := Lib.hid (show Plain.twin ((2 * e + 1 : Nat) : Int) = ((2 * e + 1 : Nat) : Int) - 1 by unfold Plain.twin; rw [if_neg (by omega)])
  have w1 : IntKind.i64.wrap (((2 * e + 1 : Nat) : Int) - 1) = ((2 * e + 1 : Nat) : Int) - 1 := IntWalk.i64_in _ (by omega)
  generalize ((2 * e + 1 : Nat) : Int) = dd at *
  go_enter Tryz.func67, Tryz.ntmps67
  go_wp2
  go_ret
  exact ⟨ret_int HE.out.symm, rfl⟩

set_option maxRecDepth 100000 in
set_option maxHeartbeats 2000000 in
theorem refStep_any (vg vt : Value) (g : Plain.Gr) (p : Plain.Pt) (turn : List (List Int)) (d : Nat) (w : World) (hd : (d : Int) ∈ p.darts) (hpe : p.err g = 0) (hto : Plain.TurnsOk g p turn) (hrl : ∀ v, (Plain.turnAt turn v).length < 4294967296) (hg : GrAt w vg g) (ht : RowsAt w vt turn) :
  Calls Tryz.prog 104 #[vg, vt, .int .i64 d, .int .i64 (-1)] w fun e w' => e = .returned (.int .i64 (Plain.before g turn d)) ∧ Chg [] w w' := by
 have hpo := Plain.Pt.ok_of_err hpe
 have hge := Plain.Gr.err_ok (Plain.Pt.err_ok hpe).1
 have htl := hpo.vr _ (hpo.tail_mem hd).1
 have hde := Plain.Pt.edge_in hpe (Plain.mem_darts.1 hd)
 have hd2 : d / 2 < g.e.length := by omega
 have hglen : g.e.length < 4294967296 := by omega
 have hin := (hto.mem _ htl.1 htl.2 d).2 ⟨hd, rfl⟩
 have hlen := hto.len
 have hbe : Plain.before g turn d = Plain.ahead (Plain.turnAt turn (g.tail d)) d := rfl
 have HG := Lib.hid hg
 have HT := Lib.hid ht
 obtain ⟨tno, tc, rfl, htm, -⟩ := ht
 obtain ⟨tv, htv⟩ : ∃ tv : Nat, g.tail d = tv := ⟨(g.tail d).toNat, by omega⟩
 rw [htv] at htl hin hbe
 have htvl : tv < turn.length := by omega
 obtain ⟨tb, toff, uo, uc, rfl, tcell, hrow⟩ := HT.out.row htvl
 have hta : Plain.turnAt turn (tv : Int) = turn.getD tv [] := by unfold Plain.turnAt; rw [Int.toNat_natCast]
 rw [hta] at hin hbe
 have hTl := hrl (tv : Int)
 rw [hta] at hTl
 have HROW := Lib.hid hrow
 generalize turn.getD tv [] = T at *
 have hix := List.idxOf_lt_length_iff.2 hin
 have HFI := Lib.hid (show Plain.findIx T d = (T.idxOf (d : Int) : Nat) from if_pos hin)
 have hBE := Lib.hid (show Plain.before g turn d = T.getD ((T.idxOf (d : Int) + T.length - 1) % T.length) 0 from hbe)
 generalize T.idxOf (d : Int) = ix at *
 have w1 : IntKind.i64.wrap ((ix : Int) + -1) = (ix : Int) + -1 := IntWalk.i64_in _ (by omega)
 have w2 : IntKind.i64.wrap ((ix : Int) + -1 + (T.length : Int)) = ((ix + T.length - 1 : Nat) : Int) := by rw [IntWalk.i64_in _ (by omega)]; omega
 obtain ⟨j, hj⟩ : ∃ j, (ix + T.length - 1) % T.length = j := ⟨_, rfl⟩
 have w3 : Int.tmod ((ix + T.length - 1 : Nat) : Int) (T.length : Int) = (j : Int) := by rw [Int.tmod_eq_emod_of_nonneg (by omega), ← hj]; omega
 have hjl : j < T.length := by rw [← hj]; exact Nat.mod_lt _ (by omega)
 have hl0 : ((T.length : Int) == 0) = false := by rw [beq_eq_false_iff_ne]; omega
 rw [hj] at hBE
 obtain ⟨eo, cap, rfl, -, -, -, -⟩ := hg
 have HC1 := Lib.hid ((Chg.refl [] w).alloc (.cells #[.int .i64 g.n, .slice eo g.e.length cap] 24))
 have tc1 := fun o => cellNew tcell o
 have HTV := Lib.hid htv
 clear hpo hge hin hlen hbe hta hrow htv hj hde hd hto hrl hpe
 go_enter Tryz.func104, Tryz.ntmps104
 go_wp2_with fail
 refine (tail_any _ g d _ hd2 hglen (HG.out.fresh HC1.out)).mono ?_
 rintro e w2' ⟨rfl, hc2⟩
 rw [HTV.out]
 have HC2 := Lib.hid (HC1.out.trans hc2 (by simp))
 have tcell2 := HC2.out.cell tcell (by simp)
 clear hc2 tc1 tcell
 go_wp2_with fail
 refine (find02_any _ T (d : Int) _ (HROW.out.fresh HC2.out)).mono ?_
 rintro e w3' ⟨rfl, hc3⟩
 rw [HFI.out]
 obtain ⟨rb, roff, rfl, hrc⟩ := IntsAt.cellAt HROW.out hjl
 have HC3 := Lib.hid (HC2.out.trans hc3 (by simp))
 have c3 := HC3.out.cell hrc (by simp)
 clear hc3 hrc tcell2
 go_wp2
 go_ret
 exact ⟨ret_int (by rw [hBE.out]; simp [List.getD, hjl]), HC3.out⟩

set_option maxRecDepth 100000 in
theorem refNext_any (vg vt : Value) (g : Plain.Gr) (p : Plain.Pt) (turn : List (List Int)) (d : Nat) (w : World) (hd : (d : Int) ∈ p.darts) (hpe : p.err g = 0) (hto : Plain.TurnsOk g p turn) (hrl : ∀ v, (Plain.turnAt turn v).length < 4294967296) (hg : GrAt w vg g) (ht : RowsAt w vt turn) :
  Calls Tryz.prog 74 #[vg, vt, .int .i64 d] w fun e w' => e = .returned (.int .i64 (Plain.nextDart g turn d)) ∧ Chg [] w w' := by
 have hpo := Plain.Pt.ok_of_err hpe
 have hge := Plain.Gr.err_ok (Plain.Pt.err_ok hpe).1
 have hde := Plain.Pt.edge_in hpe (Plain.mem_darts.1 hd)
 have hdb : d < 4611686018427387904 := by omega
 have htw := Plain.twin_mem hd
 have hte := Plain.Pt.edge_in hpe (Plain.mem_darts.1 htw)
 obtain ⟨td, htd⟩ : ∃ td : Nat, Plain.twin d = td := ⟨(Plain.twin d).toNat, by omega⟩
 have HND := Lib.hid (show Plain.nextDart g turn d = Plain.before g turn td by unfold Plain.nextDart; rw [htd])
 have HG := Lib.hid hg
 have HT := Lib.hid ht
 rw [htd] at htw
 have HTD := Lib.hid htd
 have HTW := Lib.hid htw
 have HTO := Lib.hid hto
 have HPE := Lib.hid hpe
 have HRL := Lib.hid hrl
 obtain ⟨eo, cap, rfl, -, -, -, -⟩ := hg
 obtain ⟨tno, tc, rfl, htm, -⟩ := ht
 have hb := heap_alloc_new w (.cells #[.int .i64 g.n, .slice eo g.e.length cap] 24)
 have x0 := (cell_of_row _ _ 0 _ _ _ hb).trans (show _ = some (Value.int .i64 g.n) from rfl)
 have x1 := (cell_of_row _ _ 1 _ _ _ hb).trans (show _ = some (Value.slice eo g.e.length cap) from rfl)
 have HC1 := Lib.hid ((Chg.refl [] w).alloc (.cells #[.int .i64 g.n, .slice eo g.e.length cap] 24))
 clear hpo hge hde hte htw htd hto hpe hrl hb
 go_enter Tryz.func74, Tryz.ntmps74
 go_wp2
 generalize (w.alloc (.cells #[.int .i64 g.n, .slice eo g.e.length cap] 24)) = w1 at *
 have hS0 : Chg [] w1 w1.drew := (Chg.refl [] w1).drew
 refine wp_region_way (Chg [] w1) [0, 1, 2] (Way.line [0, 1, 2, 3, 4, 5] .done) (by kernel_rfl) (by kernel_rfl) ?_
 simp only [Way.line]
 repeat
  first
   | (refine along_off rfl (by rfl) (by rfl) (fun _ _ _ h => h) hS0 ?_; simp only [Act.put, List.getElem_toArray, List.getElem_cons_zero, List.getElem_cons_succ, List.setIfInBounds_toArray, List.set_cons_zero, List.set_cons_succ])
   | (refine along_read (v := ?_) rfl (by rfl) (by rfl) (fun _ _ _ h => h) hS0 (fun w' hS' => ?_) ?_; rotate_left; (focus (have rd0 := hS'.cell x0 (by simp); have rd1 := hS'.cell x1 (by simp); clear hS'; go_simp; try with_reducible rfl)); simp only [Act.put, List.getElem_toArray, List.getElem_cons_zero, List.getElem_cons_succ, List.setIfInBounds_toArray, List.set_cons_zero, List.set_cons_succ])
   | (refine along_skip rfl (by rfl) (by rfl) hS0 ?_; simp only [Act.put, List.getElem_toArray, List.getElem_cons_zero, List.getElem_cons_succ, List.setIfInBounds_toArray, List.set_cons_zero, List.set_cons_succ])
 refine along_op rfl (by rfl) (by rfl) (fun K hK => ?_)
 go_simp
 refine (twin_any d _ hdb).mono ?_
 rintro e w2 ⟨rfl, rfl⟩
 refine hK.out _ _ (fun _ => hS0) ?_
 clear hK K
 rw [HTD.out]
 try simp only [Act.put, List.getElem_toArray, List.getElem_cons_zero, List.getElem_cons_succ, List.setIfInBounds_toArray, List.set_cons_zero, List.set_cons_succ]
 refine along_op rfl (by rfl) (by rfl) (fun K hK => ?_)
 go_simp
 refine (refStep_any _ _ g p turn td _ HTW.out HPE.out HTO.out HRL.out ((HG.out.fresh HC1.out).fresh hS0) ((HT.out.fresh HC1.out).fresh hS0)).mono ?_
 rintro e w3 ⟨rfl, hcx⟩
 have hS1 := hS0.trans hcx (by simp)
 clear hS0 hcx
 have hS0 := hS1
 clear hS1
 refine hK.out _ _ (fun _ => hS0) ?_
 clear hK K
 try simp only [Act.put, List.getElem_toArray, List.getElem_cons_zero, List.getElem_cons_succ, List.setIfInBounds_toArray, List.set_cons_zero, List.set_cons_succ]
 refine along_op rfl (by rfl) (by rfl) (fun K hK => ?_)
 go_simp
 refine hK.out _ _ (fun _ => hS0) ?_
 clear hK K
 try simp only [Act.put, List.getElem_toArray, List.getElem_cons_zero, List.getElem_cons_succ, List.setIfInBounds_toArray, List.set_cons_zero, List.set_cons_succ]
 refine along_done ?_
 have HCF := Lib.hid (HC1.out.trans hS0 (by simp))
 clear x0 x1 hS0
 go_wp2
 go_ret
 exact ⟨ret_int HND.out.symm, HCF.out⟩
end Go.Proofs.YtfgbkpbakignhaaGreat
