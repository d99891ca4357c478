/- The walk of each dart, begun with it; the walks of turns are those that begin with their least dart. No program here. -/
import Derived.Test.YtfgbkpbakignhaaVWalkU
import Derived.Test.YtfgbkpbakignhaaVKit
import Derived.Test.YtfgbkpbakignhaaVSums
import Derived.Test.YtfgbkpbakignhaaVBase
import Derived.Test.YtfgbkpbakignhaaVMisc
import Derived.Test.YtfgbkpbakignhaaVGraphA
import Derived.Test.YtfgbkpbakignhaaVSeq
import Derived.Test.YtfgbkpbakignhaaVGraphB
namespace Go.Proofs.Ytfgbkpbakignhaa.Plain

theorem rings_next {g : Gr} {p : Pt} {turn : List (List Int)} (hp : PartOk g p) (ht : TurnsOk g p turn) : ∃ C, Rings (nextDart g turn) C ∧ C.flatten.Perm p.darts := by
  obtain ⟨h1, h2⟩ := before_rings ht hp.en hp.vn hp.vr
  have hA := twin_rings hp.en
  have hl : leaving g p p.v = p.darts := List.filter_eq_self.2 fun d hd => decide_eq_true (hp.tail_mem hd).1
  have hd : (p.e.map fun e => [2 * e, 2 * e + 1]).flatten = p.darts := by rw [Pt.darts, List.flatMap_def]
  obtain ⟨C, h, k, -⟩ := Rings.mul _ rfl h1 hA (by rw [hd, ← hl]; exact h2.symm)
  exact ⟨C, h.congr fun x _ => rfl, by rw [hd] at k; exact k⟩

/-- The walk that begins with a dart. -/
structure Cyc (g : Gr) (p : Pt) (turn : List (List Int)) (d : Int) (l : List Int) : Prop where
  ring : Ring (nextDart g turn) (d :: l)
  nodup : (d :: l).Nodup
  sub : ∀ x ∈ d :: l, x ∈ p.darts

theorem cyc_some {g : Gr} {p : Pt} {turn : List (List Int)} (hp : PartOk g p) (ht : TurnsOk g p turn) {d : Int} (hd : d ∈ p.darts) : ∃ l, Cyc g p turn d l := by
  obtain ⟨C, hC, hperm⟩ := rings_next hp ht
  obtain ⟨c, hc, hdc⟩ := List.mem_flatten.1 (hperm.mem_iff.2 hd)
  obtain ⟨l, hl, hlp⟩ := (hC.ring c hc).from hdc
  exact ⟨l, hl, hlp.nodup_iff.2 ((nodup_flat.1 hC.nodup).1 c hc), fun x hx => hperm.mem_iff.1 (List.mem_flatten.2 ⟨c, hc, hlp.mem_iff.1 hx⟩)⟩

theorem Cyc.one {g : Gr} {p : Pt} {turn : List (List Int)} {d : Int} {l m : List Int} (h : Cyc g p turn d l) (k : Cyc g p turn d m) : l = m :=
  Trail.det (x := d) h.ring k.ring (List.nodup_cons.1 h.nodup).1 (List.nodup_cons.1 k.nodup).1

theorem Cyc.turn {g : Gr} {p : Pt} {turn : List (List Int)} {d x : Int} {l : List Int} (h : Cyc g p turn d l) (hx : x ∈ d :: l) : ∃ m, Cyc g p turn x m ∧ (x :: m).Perm (d :: l) := by
  obtain ⟨m, hm, hp⟩ := h.ring.from hx
  exact ⟨m, ⟨hm, hp.nodup_iff.2 h.nodup, fun y hy => h.sub y (hp.mem_iff.1 hy)⟩, hp⟩

open Classical in
/-- What follows a dart on its walk. -/
noncomputable def cycOf (g : Gr) (p : Pt) (turn : List (List Int)) (d : Int) : List Int := if h : ∃ l, Cyc g p turn d l then Classical.choose h else []
theorem cycOf_ok {g : Gr} {p : Pt} {turn : List (List Int)} (hp : PartOk g p) (ht : TurnsOk g p turn) {d : Int} (hd : d ∈ p.darts) : Cyc g p turn d (cycOf g p turn d) := by
  have h := cyc_some hp ht hd
  unfold cycOf
  rw [dif_pos h]
  exact Classical.choose_spec h

theorem ring_at {q : Int → Int} {d : Int} {l : List Int} (h : Ring q (d :: l)) {k : Nat} (hk : k ≤ l.length) : q ((d :: l).getD k 0) = (l ++ [d]).getD k 0 := by
  have e := Trail.map (show Trail q d l d from h)
  have e2 : ((d :: l).map q)[k]? = (l ++ [d])[k]? := by rw [e]
  rw [List.getElem?_map] at e2
  have h1 : (d :: l)[k]? = some ((d :: l).getD k 0) := by
    rw [List.getElem?_eq_getElem (by simp; omega)]; simp [List.getD, List.getElem?_eq_getElem (show k < (d :: l).length by simp; omega)]
  rw [h1, Option.map_some] at e2
  unfold List.getD at e2 ⊢
  rw [← e2]
  rfl

/-- Is a dart its walk's least one? -/
noncomputable def minAt (g : Gr) (p : Pt) (turn : List (List Int)) (d : Int) : Bool := (cycOf g p turn d).all fun x => decide (d < x)
/-- The walks that begin with their least darts, among the first k darts. -/
noncomputable def minsTo (g : Gr) (p : Pt) (turn : List (List Int)) (k : Nat) : List Face := ((p.darts.take k).filter (minAt g p turn)).map fun d => (d, d :: cycOf g p turn d)

theorem minsTo_zero (g : Gr) (p : Pt) (turn : List (List Int)) : minsTo g p turn 0 = [] := by simp [minsTo]
theorem minsTo_succ {g : Gr} {p : Pt} {turn : List (List Int)} {k : Nat} (hk : k < p.darts.length) : minsTo g p turn (k + 1) = minsTo g p turn k ++ if minAt g p turn (p.darts.getD k 0) then [(p.darts.getD k 0, p.darts.getD k 0 :: cycOf g p turn (p.darts.getD k 0))] else [] := by
  unfold minsTo
  rw [take_snoc hk, List.filter_append, List.map_append]
  congr 1
  by_cases h : minAt g p turn (p.darts.getD k 0) = true
  · rw [List.filter_cons_of_pos h, if_pos h]; rfl
  · rw [List.filter_cons_of_neg h, if_neg h]; rfl
theorem minsTo_len (g : Gr) (p : Pt) (turn : List (List Int)) (k : Nat) : (minsTo g p turn k).length ≤ k := by
  unfold minsTo
  rw [List.length_map]
  exact Nat.le_trans (List.length_filter_le _ _) (by rw [List.length_take]; omega)

theorem min_of_mem {g : Gr} {p : Pt} {turn : List (List Int)} {f : Face} {k : Nat} (h : f ∈ minsTo g p turn k) : f.1 ∈ p.darts ∧ minAt g p turn f.1 = true ∧ f.2 = f.1 :: cycOf g p turn f.1 := by
  unfold minsTo at h
  obtain ⟨d, hd, rfl⟩ := List.mem_map.1 h
  obtain ⟨h1, h2⟩ := List.mem_filter.1 hd
  exact ⟨(List.take_sublist _ _).subset h1, h2, rfl⟩

theorem mins_trk {g : Gr} {p : Pt} {turn : List (List Int)} (hp : PartOk g p) (hr : p.e.Pairwise (· < ·)) (ht : TurnsOk g p turn) : Trk g p turn (minsTo g p turn p.darts.length) p.darts := by
  have hle : ∀ f ∈ minsTo g p turn p.darts.length, ∀ y ∈ f.2, f.1 ≤ y := by
    intro f hf y hy
    obtain ⟨-, h2, h3⟩ := min_of_mem hf
    rw [h3] at hy
    rcases List.mem_cons.1 hy with q | q
    · omega
    · have := List.all_eq_true.1 h2 y q
      simp at this; omega
  have hcy : ∀ f ∈ minsTo g p turn p.darts.length, Cyc g p turn f.1 (cycOf g p turn f.1) := fun f hf => cycOf_ok hp ht (min_of_mem hf).1
  have hkeys : ((minsTo g p turn p.darts.length).map (·.1)) = p.darts.filter (minAt g p turn) := by
    unfold minsTo
    rw [List.take_length, List.map_map]
    exact List.map_id' _
  have hdp := darts_pair hr
  have hksub : ((minsTo g p turn p.darts.length).map (·.1)).Sublist p.darts := by rw [hkeys]; exact List.filter_sublist
  have hone : ∀ f ∈ minsTo g p turn p.darts.length, ∀ f' ∈ minsTo g p turn p.darts.length, ∀ y, y ∈ f.2 → y ∈ f'.2 → f.1 = f'.1 := by
    intro f hf f' hf' y hy hy'
    have h3 := (min_of_mem hf).2.2
    have h3' := (min_of_mem hf').2.2
    rw [h3] at hy
    rw [h3'] at hy'
    obtain ⟨m, hm, hmp⟩ := (hcy f hf).turn hy
    obtain ⟨m', hm', hmp'⟩ := (hcy f' hf').turn hy'
    have := hm.one hm'
    subst this
    have hperm := hmp.symm.trans hmp'
    have h1 := hle f hf f'.1 (by rw [h3]; exact hperm.mem_iff.2 (by simp))
    have h2 := hle f' hf' f.1 (by rw [h3']; exact hperm.mem_iff.1 (by simp))
    omega
  refine ⟨⟨fun c hc => ?_, ?_⟩, fun x hx => ?_, fun f hf => ⟨_, (min_of_mem hf).2.2⟩, hksub, fun f hf => ?_, fun x hx => ?_⟩
  · obtain ⟨f, hf, rfl⟩ := List.mem_map.1 hc
    rw [(min_of_mem hf).2.2]
    exact (hcy f hf).ring
  · rw [nodup_flat]
    refine ⟨fun l hl => ?_, ?_⟩
    · obtain ⟨f, hf, rfl⟩ := List.mem_map.1 hl
      rw [(min_of_mem hf).2.2]
      exact (hcy f hf).nodup
    · rw [List.pairwise_map]
      have hkp : (minsTo g p turn p.darts.length).Pairwise fun a b => a.1 < b.1 := by
        have := hdp.sublist hksub
        rwa [List.pairwise_map] at this
      refine hkp.imp_of_mem ?_
      intro a b ha hb hab x hx y hy e
      subst e
      have := hone a ha b hb x hx hy
      omega
  · obtain ⟨c, hc, hxc⟩ := List.mem_flatten.1 hx
    obtain ⟨f, hf, rfl⟩ := List.mem_map.1 hc
    rw [(min_of_mem hf).2.2] at hxc
    exact (hcy f hf).sub x hxc
  · obtain ⟨a, b, e⟩ := List.append_of_mem (min_of_mem hf).1
    refine ⟨a, b, e, fun y hy ha => ?_⟩
    have h1 := hle f hf y hy
    rw [e] at hdp
    have := (List.pairwise_append.1 hdp).2.2 y ha f.1 (by simp)
    omega
  · obtain ⟨l, hl⟩ := cyc_some hp ht hx
    obtain ⟨d, hd, hmin⟩ := exists_least (l := x :: l) (by simp)
    obtain ⟨m, hm, hmp⟩ := hl.turn hd
    have hdd := hl.sub d hd
    have e := (cycOf_ok hp ht hdd).one hm
    have hma : minAt g p turn d = true := by
      unfold minAt
      rw [List.all_eq_true, e]
      intro y hy
      have h1 := hmin y (hmp.mem_iff.1 (by simp [hy]))
      have h2 : d ≠ y := fun q => (List.nodup_cons.1 hm.nodup).1 (q ▸ hy)
      simp; omega
    refine List.mem_flatten.2 ⟨d :: cycOf g p turn d, List.mem_map.2 ⟨(d, d :: cycOf g p turn d), List.mem_map.2 ⟨d, List.mem_filter.2 ⟨by rw [List.take_length]; exact hdd, hma⟩, rfl⟩, rfl⟩, ?_⟩
    rw [e]
    exact hmp.mem_iff.2 (by simp)

theorem mins_walks {g : Gr} {p : Pt} {turn : List (List Int)} (hr : p.err g = 0) (ht : TurnsOk g p turn) : loneAt turn p.v ++ minsTo g p turn p.darts.length = walksOf g p turn :=
  ((mins_trk (Pt.ok_of_err hr) (rises_pair (Pt.err_ok hr).2.2.1) ht).walks (Pt.ok_of_err hr)).eq hr
end Go.Proofs.Ytfgbkpbakignhaa.Plain
/- ref04.Twin, ref06.Step, ref06.Next: contracts. Conditions: a right part, right turns that lie in memory and read so; a dart of the part. -/
namespace Go.Proofs.Ytfgbkpbakignhaa
open Go.RowKit Go.Maps

end Go.Proofs.Ytfgbkpbakignhaa
/- ref04: the contract of Darts. Conditions: a right part that lies in memory and reads so, of a bounded size. -/
namespace Go.Proofs.Ytfgbkpbakignhaa
open Go.RowKit Go.Maps

end Go.Proofs.Ytfgbkpbakignhaa
/- ref04: the contract of Rises. Condition: a list that lies in memory and reads so. -/
namespace Go.Proofs.Ytfgbkpbakignhaa
open Go.RowKit Go.Maps

end Go.Proofs.Ytfgbkpbakignhaa
/- ref04: the contract of Right. Condition: a graph that lies in memory and reads so. -/
namespace Go.Proofs.Ytfgbkpbakignhaa
open Go.RowKit Go.Maps

end Go.Proofs.Ytfgbkpbakignhaa
/- ref04: the contract of RightPart. Conditions: a graph, a part that lie in memory and read so, of a bounded size. -/
namespace Go.Proofs.Ytfgbkpbakignhaa
open Go.RowKit Go.Maps

end Go.Proofs.Ytfgbkpbakignhaa
/- ref06: the contract of Right. Conditions: a graph, a part, turns that lie in memory and read so, of a bounded size. -/
namespace Go.Proofs.Ytfgbkpbakignhaa
open Go.RowKit Go.Maps

end Go.Proofs.Ytfgbkpbakignhaa
