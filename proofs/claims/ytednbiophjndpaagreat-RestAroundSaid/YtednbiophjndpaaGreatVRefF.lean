/- ref02: the contracts of Find, Right. Condition: a list that lies in memory and reads so. -/
import Derived.Test.YtednbiophjndpaaGreatVFlat
import Derived.Test.YtednbiophjndpaaGreatVSmall
namespace Go.Proofs.YtednbiophjndpaaGreat
open Go.RowKit Go.Maps
namespace Plain
def findIx (l : List Int) (x : Int) : Int := if x ∈ l then (l.idxOf x : Nat) else -1
theorem findIx_hit {l : List Int} {x : Int} {k : Nat} (hk : k < l.length) (h : l.getD k 0 = x) (hn : x ∉ l.take k) : findIx l x = k := by
 have hm : x ∈ l := by rw [← h]; simp [List.getD, hk]
 have hi := List.idxOf_lt_length_iff.2 hm
 unfold findIx
 rw [if_pos hm]
 have h1 : ¬ l.idxOf x < k := fun q => hn (by
  have e : (l.take k)[l.idxOf x]? = some x := by rw [List.getElem?_take, if_pos q, List.getElem?_eq_getElem hi, List.getElem_idxOf]
  exact List.mem_of_getElem? e)
 have h2 : ¬ k < l.idxOf x := fun q => by
  have := List.not_of_lt_findIdx (xs := l) (p := fun y => y == x) q
  simp [List.getD, hk] at h
  simp [h] at this
 omega
theorem findIx_miss {l : List Int} {x : Int} (h : x ∉ l) : findIx l x = -1 := if_neg h
end Plain
namespace Plain
theorem findIx_lt {l : List Int} {k : Nat} (hk : k < l.length) : findIx l (l.getD k 0) < k ↔ l.getD k 0 ∈ l.take k := by
 constructor
 ·intro h
  by_cases q : l.getD k 0 ∈ l.take k
  ·exact q
  rw [findIx_hit hk rfl q] at h; omega
 intro h
 obtain ⟨i, hi, e⟩ := List.getElem_of_mem h
 rw [List.length_take] at hi
 rw [List.getElem_take] at e
 have hm : l.getD k 0 ∈ l := by simp [List.getD, hk]
 unfold findIx
 rw [if_pos hm]
 have h2 : ¬ i < l.idxOf (l.getD k 0) := fun q => by
  have := List.not_of_lt_findIdx (xs := l) (p := fun y => y == l.getD k 0) q
  simp at this
  exact this (by simpa [List.getD, hk] using e)
 omega
theorem nodup_snoc {l : List Int} {k : Nat} (hk : k < l.length) : (l.take (k + 1)).Nodup ↔ (l.take k).Nodup ∧ l.getD k 0 ∉ l.take k := by
 have e : l.take (k + 1) = l.take k ++ [l.getD k 0] := by rw [List.take_succ_eq_append_getElem hk]; simp [List.getD, hk]
 rw [e, List.nodup_append]
 constructor
 ·rintro ⟨h1, -, h3⟩
  exact ⟨h1, fun h => h3 _ h _ (by simp) rfl⟩
 rintro ⟨h1, h2⟩
 exact ⟨h1, by simp, fun x hx y hy e => h2 (by rw [← List.mem_singleton.1 hy, ← e]; exact hx)⟩
end Plain
theorem find02_any (v : Value) (l : List Int) (x : Int) (w : World) (h : IntsAt w v l) :
  Calls Tryz.prog 167 #[v, .int .i64 x] w fun e w' => e = .returned (.int .i64 (Plain.findIx l x)) ∧ Chg [] w w' := by
 obtain ⟨ao, cap, rfl, -, hm, hcell⟩ := h
 have HCE := Lib.hid hcell
 clear hcell
 go_enter Tryz.func167, Tryz.ntmps167
 go_wp2
 go_loopw [5] (fun c wr => ∃ k : Nat, k ≤ l.length ∧ c = .int .i64 k ∧ Chg [] w wr ∧ Hid (x ∉ l.take k)) (fun c _ => l.length - (intOf c).toNat)
 case atStart => exact ⟨0, Nat.zero_le _, rfl, Chg.refl _ _, Lib.hid (by simp)⟩
 case round =>
  obtain ⟨k, hk, rfl, hc, hno⟩ := hrel
  have HC := Lib.hid hc
  by_cases hlt : k < l.length
  ·obtain ⟨b, off, rfl, hfc⟩ := HCE.out (by intro e; rw [e] at hlt; simp at hlt)
   have c0 := hc.cell (hfc k hlt) (by simp)
   have HH := Lib.hid (fun h => Plain.findIx_hit (x := x) hlt h hno.out)
   have HT := Lib.hid (show l.take (k + 1) = l.take k ++ [l.getD k 0] by rw [List.take_succ_eq_append_getElem hlt]; simp [List.getD, hlt])
   obtain ⟨z, hz⟩ : ∃ z, l.getD k 0 = z := ⟨_, rfl⟩
   rw [hz] at c0 HH HT
   clear hfc hc hz
   by_cases e : z = x
   ·have HE := Lib.hid (HH.out e)
    have b1 : (z == x) = true := by rw [beq_iff_eq]; exact e
    clear e
    go_wp2
    go_ret
    exact ⟨ret_int HE.out.symm, HC.out⟩
   have HN := Lib.hid (show x ∉ l.take (k + 1) by rw [HT.out, List.mem_append]; rintro (q | q); exact hno.out q; exact e (List.mem_singleton.1 q).symm)
   have b1 : (z == x) = false := by rw [beq_eq_false_iff_ne]; exact e
   clear e
   go_wp2
   go_roundw
   case rel => exact ⟨k + 1, by omega, by go_num, HC.out, HN⟩
   case measure => simp [intOf]; omega
  have e : k = l.length := by omega
  subst e
  have HE := Lib.hid (Plain.findIx_miss (l := l) (x := x) (by have := hno.out; rwa [List.take_length] at this))
  clear hc
  go_wp2
  go_ret
  exact ⟨ret_int HE.out.symm, HC.out⟩
theorem right02_any (v : Value) (l : List Int) (w : World) (h : IntsAt w v l) :
  Calls Tryz.prog 116 #[v] w fun e w' => e = .returned (.bool (decide l.Nodup)) ∧ Chg [] w w' := by
 have HI := Lib.hid h
 obtain ⟨ao, cap, rfl, -, hm, hcell⟩ := h
 have HCE := Lib.hid hcell
 clear hcell
 go_enter Tryz.func116, Tryz.ntmps116
 go_wp2
 go_loopw [3] (fun c wr => ∃ k : Nat, k ≤ l.length ∧ c = .int .i64 k ∧ Chg [] w wr ∧ Hid ((l.take k).Nodup)) (fun c _ => l.length - (intOf c).toNat)
 case atStart => exact ⟨0, Nat.zero_le _, rfl, Chg.refl _ _, Lib.hid (by simp)⟩
 case round =>
  obtain ⟨k, hk, rfl, hc, hno⟩ := hrel
  have HC := Lib.hid hc
  by_cases hlt : k < l.length
  ·obtain ⟨b, off, rfl, hfc⟩ := HCE.out (by intro e; rw [e] at hlt; simp at hlt)
   have c0 := hc.cell (hfc k hlt) (by simp)
   have HL := Lib.hid (Plain.findIx_lt hlt)
   have HS := Lib.hid (Plain.nodup_snoc hlt)
   have HSUB := Lib.hid (fun (h : l.Nodup) => h.sublist (List.take_sublist (k + 1) l))
   obtain ⟨z, hz⟩ : ∃ z, l.getD k 0 = z := ⟨_, rfl⟩
   rw [hz] at c0 HL HS
   clear hfc hc hz
   go_wp2_with fail
   refine (find02_any _ l z _ (HI.out.fresh HC.out)).mono ?_
   rintro e w2 ⟨rfl, hc2⟩
   have HC2 := Lib.hid (HC.out.trans hc2 (by simp))
   clear hc2 c0
   by_cases q : z ∈ l.take k
   ·have b1 : decide (Plain.findIx l z < (k : Int)) = true := decide_eq_true (HL.out.2 q)
    have HE := Lib.hid (show decide l.Nodup = false from decide_eq_false fun h => (HS.out.1 (HSUB.out h)).2 q)
    clear q
    go_wp2
    go_ret
    exact ⟨ret_bool HE.out.symm, HC2.out⟩
   have b1 : decide (Plain.findIx l z < (k : Int)) = false := decide_eq_false fun h => q (HL.out.1 h)
   have HN := Lib.hid (HS.out.2 ⟨hno.out, q⟩)
   clear q
   go_wp2
   go_roundw
   case rel => exact ⟨k + 1, by omega, by go_num, HC2.out, HN⟩
   case measure => simp [intOf]; omega
  have e : k = l.length := by omega
  subst e
  have HE := Lib.hid (decide_eq_true (by have := hno.out; rwa [List.take_length] at this : l.Nodup))
  clear hc
  go_wp2
  go_ret
  exact ⟨ret_bool HE.out.symm, HC.out⟩
end Go.Proofs.YtednbiophjndpaaGreat
namespace Go.Proofs.YtednbiophjndpaaGreat.Plain
theorem rings_next {g : Gr} {p : Pt} {turn : List (List Int)} (hp : PartOk g p) (ht : TurnsOk g p turn) : ∃ C, Rings (nextDart g turn) C ∧ C.flatten.Perm p.darts := by
 obtain ⟨h1, h2⟩ := before_rings ht hp.en hp.vn hp.vr
 have hA := twin_rings hp.en
 have hl : leaving g p p.v = p.darts := List.filter_eq_self.2 fun d hd => decide_eq_true (hp.tail_mem hd).1
 have hd : (p.e.map fun e => [2 * e, 2 * e + 1]).flatten = p.darts := by rw [Pt.darts, List.flatMap_def]
 obtain ⟨C, h, k, -⟩ := Rings.mul _ rfl h1 hA (by rw [hd, ← hl]; exact h2.symm)
 exact ⟨C, h.congr fun x _ => rfl, by rw [hd] at k; exact k⟩
structure Cyc (g : Gr) (p : Pt) (turn : List (List Int)) (d : Int) (l : List Int) : Prop where
 ring : Ring (nextDart g turn) (d :: l)
 nodup : (d :: l).Nodup
 sub : ∀ x ∈ d :: l, x ∈ p.darts
theorem cyc_some {g : Gr} {p : Pt} {turn : List (List Int)} (hp : PartOk g p) (ht : TurnsOk g p turn) {d : Int} (hd : d ∈ p.darts) : ∃ l, Cyc g p turn d l := by
 obtain ⟨C, hC, hperm⟩ := rings_next hp ht
 obtain ⟨c, hc, hdc⟩ := List.mem_flatten.1 (hperm.mem_iff.2 hd)
 obtain ⟨l, hl, hlp⟩ := (hC.ring c hc).from hdc
 exact ⟨l, hl, hlp.nodup_iff.2 ((nodup_flat.1 hC.nodup).1 c hc), fun x hx => hperm.mem_iff.1 (List.mem_flatten.2 ⟨c, hc, hlp.mem_iff.1 hx⟩)⟩
theorem Cyc.one {g : Gr} {p : Pt} {turn : List (List Int)} {d : Int} {l m : List Int} (h : Cyc g p turn d l) (k : Cyc g p turn d m) : l = m :=
 Trail.det (x := d) h.ring k.ring (List.nodup_cons.1 h.nodup).1 (List.nodup_cons.1 k.nodup).1
theorem Cyc.turn {g : Gr} {p : Pt} {turn : List (List Int)} {d x : Int} {l : List Int} (h : Cyc g p turn d l) (hx : x ∈ d :: l) : ∃ m, Cyc g p turn x m ∧ (x :: m).Perm (d :: l) := by
 obtain ⟨m, hm, hp⟩ := h.ring.from hx
 exact ⟨m, ⟨hm, hp.nodup_iff.2 h.nodup, fun y hy => h.sub y (hp.mem_iff.1 hy)⟩, hp⟩
open Classical in
noncomputable def cycOf (g : Gr) (p : Pt) (turn : List (List Int)) (d : Int) : List Int := if h : ∃ l, Cyc g p turn d l then Classical.choose h else []
theorem cycOf_ok {g : Gr} {p : Pt} {turn : List (List Int)} (hp : PartOk g p) (ht : TurnsOk g p turn) {d : Int} (hd : d ∈ p.darts) : Cyc g p turn d (cycOf g p turn d) := by
 have h := cyc_some hp ht hd
 unfold cycOf
 rw [dif_pos h]
 exact Classical.choose_spec h
theorem ring_at {q : Int → Int} {d : Int} {l : List Int} (h : Ring q (d :: l)) {k : Nat} (hk : k ≤ l.length) : q ((d :: l).getD k 0) = (l ++ [d]).getD k 0 := by
 have e := Trail.map (show Trail q d l d from h)
 have e2 : ((d :: l).map q)[k]? = (l ++ [d])[k]? := by rw [e]
 rw [List.getElem?_map] at e2
 have h1 : (d :: l)[k]? = some ((d :: l).getD k 0) := by
  rw [List.getElem?_eq_getElem (by simp; omega)]; simp [List.getD, List.getElem?_eq_getElem (show k < (d :: l).length by simp; omega)]
 rw [h1, Option.map_some] at e2
 unfold List.getD at e2 ⊢
 rw [← e2]
 rfl
noncomputable def minAt (g : Gr) (p : Pt) (turn : List (List Int)) (d : Int) : Bool := (cycOf g p turn d).all fun x => decide (d < x)
noncomputable def minsTo (g : Gr) (p : Pt) (turn : List (List Int)) (k : Nat) : List Face := ((p.darts.take k).filter (minAt g p turn)).map fun d => (d, d :: cycOf g p turn d)
theorem minsTo_zero (g : Gr) (p : Pt) (turn : List (List Int)) : minsTo g p turn 0 = [] := by simp [minsTo]
theorem minsTo_succ {g : Gr} {p : Pt} {turn : List (List Int)} {k : Nat} (hk : k < p.darts.length) : minsTo g p turn (k + 1) = minsTo g p turn k ++ if minAt g p turn (p.darts.getD k 0) then [(p.darts.getD k 0, p.darts.getD k 0 :: cycOf g p turn (p.darts.getD k 0))] else [] := by
 unfold minsTo
 rw [take_snoc hk, List.filter_append, List.map_append]
 congr 1
 by_cases h : minAt g p turn (p.darts.getD k 0) = true
 ·rw [List.filter_cons_of_pos h, if_pos h]; rfl
 rw [List.filter_cons_of_neg h, if_neg h]; rfl
theorem minsTo_len (g : Gr) (p : Pt) (turn : List (List Int)) (k : Nat) : (minsTo g p turn k).length ≤ k := by
 unfold minsTo
 rw [List.length_map]
 exact Nat.le_trans (List.length_filter_le _ _) (by rw [List.length_take]; omega)
theorem min_of_mem {g : Gr} {p : Pt} {turn : List (List Int)} {f : Face} {k : Nat} (h : f ∈ minsTo g p turn k) : f.1 ∈ p.darts ∧ minAt g p turn f.1 = true ∧ f.2 = f.1 :: cycOf g p turn f.1 := by
 unfold minsTo at h
 obtain ⟨d, hd, rfl⟩ := List.mem_map.1 h
 obtain ⟨h1, h2⟩ := List.mem_filter.1 hd
 exact ⟨(List.take_sublist _ _).subset h1, h2, rfl⟩
theorem mins_trk {g : Gr} {p : Pt} {turn : List (List Int)} (hp : PartOk g p) (hr : p.e.Pairwise (· < ·)) (ht : TurnsOk g p turn) : Trk g p turn (minsTo g p turn p.darts.length) p.darts := by
 have hle : ∀ f ∈ minsTo g p turn p.darts.length, ∀ y ∈ f.2, f.1 ≤ y := by
  intro f hf y hy
  obtain ⟨-, h2, h3⟩ := min_of_mem hf
  rw [h3] at hy
  rcases List.mem_cons.1 hy with q | q
  ·omega
  have := List.all_eq_true.1 h2 y q
  simp at this; omega
 have hcy : ∀ f ∈ minsTo g p turn p.darts.length, Cyc g p turn f.1 (cycOf g p turn f.1) := fun f hf => cycOf_ok hp ht (min_of_mem hf).1
 have hkeys : ((minsTo g p turn p.darts.length).map (·.1)) = p.darts.filter (minAt g p turn) := by
  unfold minsTo
  rw [List.take_length, List.map_map]
  exact List.map_id' _
 have hdp := darts_pair hr
 have hksub : ((minsTo g p turn p.darts.length).map (·.1)).Sublist p.darts := by rw [hkeys]; exact List.filter_sublist
 have hone : ∀ f ∈ minsTo g p turn p.darts.length, ∀ f' ∈ minsTo g p turn p.darts.length, ∀ y, y ∈ f.2 → y ∈ f'.2 → f.1 = f'.1 := by
  intro f hf f' hf' y hy hy'
  have h3 := (min_of_mem hf).2.2
  have h3' := (min_of_mem hf').2.2
  rw [h3] at hy
  rw [h3'] at hy'
  obtain ⟨m, hm, hmp⟩ := (hcy f hf).turn hy
  obtain ⟨m', hm', hmp'⟩ := (hcy f' hf').turn hy'
  have := hm.one hm'
  subst this
  have hperm := hmp.symm.trans hmp'
  have h1 := hle f hf f'.1 (by rw [h3]; exact hperm.mem_iff.2 (by simp))
  have h2 := hle f' hf' f.1 (by rw [h3']; exact hperm.mem_iff.1 (by simp))
  omega
 refine ⟨⟨fun c hc => ?_, ?_⟩, fun x hx => ?_, fun f hf => ⟨_, (min_of_mem hf).2.2⟩, hksub, fun f hf => ?_, fun x hx => ?_⟩
 ·obtain ⟨f, hf, rfl⟩ := List.mem_map.1 hc
  rw [(min_of_mem hf).2.2]
  exact (hcy f hf).ring
 ·rw [nodup_flat]
  refine ⟨fun l hl => ?_, ?_⟩
  ·obtain ⟨f, hf, rfl⟩ := List.mem_map.1 hl
   rw [(min_of_mem hf).2.2]
   exact (hcy f hf).nodup
  rw [List.pairwise_map]
  have hkp : (minsTo g p turn p.darts.length).Pairwise fun a b => a.1 < b.1 := by
   have := hdp.sublist hksub
   rwa [List.pairwise_map] at this
  refine hkp.imp_of_mem ?_
  intro a b ha hb hab x hx y hy e
  subst e
  have := hone a ha b hb x hx hy
  omega
 ·obtain ⟨c, hc, hxc⟩ := List.mem_flatten.1 hx
  obtain ⟨f, hf, rfl⟩ := List.mem_map.1 hc
  rw [(min_of_mem hf).2.2] at hxc
  exact (hcy f hf).sub x hxc
 ·obtain ⟨a, b, e⟩ := List.append_of_mem (min_of_mem hf).1
  refine ⟨a, b, e, fun y hy ha => ?_⟩
  have h1 := hle f hf y hy
  rw [e] at hdp
  have := (List.pairwise_append.1 hdp).2.2 y ha f.1 (by simp)
  omega
 obtain ⟨l, hl⟩ := cyc_some hp ht hx
 obtain ⟨d, hd, hmin⟩ := exists_least (l := x :: l) (by simp)
 obtain ⟨m, hm, hmp⟩ := hl.turn hd
 have hdd := hl.sub d hd
 have e := (cycOf_ok hp ht hdd).one hm
 have hma : minAt g p turn d = true := by
  unfold minAt
  rw [List.all_eq_true, e]
  intro y hy
  have h1 := hmin y (hmp.mem_iff.1 (by simp [hy]))
  have h2 : d ≠ y := fun q => (List.nodup_cons.1 hm.nodup).1 (q ▸ hy)
  simp; omega
 refine List.mem_flatten.2 ⟨d :: cycOf g p turn d, List.mem_map.2 ⟨(d, d :: cycOf g p turn d), List.mem_map.2 ⟨d, List.mem_filter.2 ⟨by rw [List.take_length]; exact hdd, hma⟩, rfl⟩, rfl⟩, ?_⟩
 rw [e]
 exact hmp.mem_iff.2 (by simp)
theorem mins_walks {g : Gr} {p : Pt} {turn : List (List Int)} (hr : p.err g = 0) (ht : TurnsOk g p turn) : loneAt turn p.v ++ minsTo g p turn p.darts.length = walksOf g p turn :=
 ((mins_trk (Pt.ok_of_err hr) (rises_pair (Pt.err_ok hr).2.2.1) ht).walks (Pt.ok_of_err hr)).eq hr
def dartsAt (g : Gr) (p : Pt) (v : Int) : List Int := p.darts.filter fun d => decide (g.tail d = v)
def dartsTo (g : Gr) (p : Pt) (v : Int) (k : Nat) : List Int := (p.darts.take k).filter fun d => decide (g.tail d = v)
theorem dartsTo_zero (g : Gr) (p : Pt) (v : Int) : dartsTo g p v 0 = [] := by simp [dartsTo]
theorem dartsTo_all (g : Gr) (p : Pt) (v : Int) : dartsTo g p v p.darts.length = dartsAt g p v := by unfold dartsTo dartsAt; rw [List.take_length]
theorem dartsTo_next {g : Gr} {p : Pt} {v : Int} {k : Nat} (hk : k < p.darts.length) : dartsTo g p v (k + 1) = if g.tail (p.darts.getD k 0) = v then dartsTo g p v k ++ [p.darts.getD k 0] else dartsTo g p v k := by
 unfold dartsTo
 rw [take_snoc hk, List.filter_append]
 by_cases h : g.tail (p.darts.getD k 0) = v
 ·rw [List.filter_cons_of_pos (by simpa using h), if_pos h]; rfl
 rw [List.filter_cons_of_neg (by simpa using h), if_neg h]; simp
theorem dartsTo_len (g : Gr) (p : Pt) (v : Int) (k : Nat) : (dartsTo g p v k).length ≤ k :=
 Nat.le_trans (List.length_filter_le _ _) (by rw [List.length_take]; omega)
theorem mem_dartsAt {g : Gr} {p : Pt} {v d : Int} : d ∈ dartsAt g p v ↔ d ∈ p.darts ∧ g.tail d = v := by simp [dartsAt]
theorem dartsAt_nodup {g : Gr} {p : Pt} (h : p.e.Nodup) (v : Int) : (dartsAt g p v).Nodup := (darts_nodup h).filter _
theorem darts_getD {p : Pt} {i : Nat} (hi : i < p.e.length) (s : Nat) (hs : s < 2) : p.darts.getD (2 * i + s) 0 = 2 * p.e.getD i 0 + s := by
 obtain ⟨v, e⟩ := p
 unfold Pt.darts
 dsimp only at hi ⊢
 induction e generalizing i with
 | nil => simp at hi
 | cons a l ih =>
  rw [List.flatMap_cons]
  cases i with
  | zero => rcases (show s = 0 ∨ s = 1 by omega) with rfl | rfl <;> simp [List.getD]
  | succ i =>
   have := ih (i := i) (by simpa using hi)
   rw [show 2 * (i + 1) + s = (2 * i + s) + 2 by omega]
   simpa [List.getD] using this
def rowOk (g : Gr) (p : Pt) (turn : List (List Int)) (v : Int) : Prop := (dartsAt g p v).length = (turnAt turn v).length ∧ (turnAt turn v).Nodup ∧ ∀ d ∈ dartsAt g p v, d ∈ turnAt turn v
theorem perm_of_sub {l m : List Int} (hl : l.Nodup) (h : ∀ x ∈ l, x ∈ m) (hlen : l.length = m.length) : ∀ x ∈ m, x ∈ l := by
 intro x hx
 refine Classical.byContradiction fun q => ?_
 have h1 := len_le_of_sub (l := x :: l) (m := m) (List.nodup_cons.2 ⟨q, hl⟩) (fun y hy => by rcases List.mem_cons.1 hy with r | r; exact r ▸ hx; exact h y r)
 simp at h1
 omega
theorem TurnsOk.rowOk {g : Gr} {p : Pt} {turn : List (List Int)} (hp : PartOk g p) (h : TurnsOk g p turn) {v : Int} (h0 : 0 ≤ v) (hn : v < g.n) : rowOk g p turn v := by
 have hm : ∀ d, d ∈ dartsAt g p v ↔ d ∈ turnAt turn v := fun d => by rw [mem_dartsAt, h.mem v h0 hn]
 exact ⟨((List.perm_ext_iff_of_nodup (dartsAt_nodup hp.en v) (h.nodup v)).2 hm).length_eq, h.nodup v, fun d hd => (hm d).1 hd⟩
theorem turns_of_rows {g : Gr} {p : Pt} {turn : List (List Int)} (hp : PartOk g p) (hl : (turn.length : Int) = g.n) (h : ∀ v : Nat, (v : Int) < g.n → Plain.rowOk g p turn v) : TurnsOk g p turn := by
 have hrow : ∀ v : Int, 0 ≤ v → v < g.n → Plain.rowOk g p turn v := fun v h0 hn => by
  have := h v.toNat (by omega)
  rwa [show ((v.toNat : Nat) : Int) = v by omega] at this
 refine ⟨hl, fun v => ?_, fun v h0 hn d => ?_⟩
 ·by_cases h1 : v.toNat < turn.length
  ·have := (hrow (v.toNat : Nat) (by omega) (by omega)).2.1
   unfold turnAt at this ⊢
   rwa [Int.toNat_natCast] at this
  unfold turnAt
  rw [List.getD, List.getElem?_eq_none (by omega)]
  simp
 obtain ⟨h1, -, h3⟩ := hrow v h0 hn
 rw [← mem_dartsAt]
 exact ⟨fun hd => perm_of_sub (dartsAt_nodup hp.en v) h3 h1 d hd, h3 d⟩
theorem Pt.edge_in {g : Gr} {p : Pt} (h : p.err g = 0) {e : Int} (he : e ∈ p.e) : 0 ≤ e ∧ e < g.e.length := by
 obtain ⟨i, hi, rfl⟩ := mem_getD he
 have := rises_at (Pt.err_ok h).2.2.1 hi
 exact ⟨this.1, this.2.1⟩
theorem Pt.dart_nat {g : Gr} {p : Pt} (h : p.err g = 0) {d : Int} (hd : d ∈ p.darts) : ∃ n : Nat, d = n ∧ n / 2 < g.e.length ∧ n < 2048 := by
 have h1 := edge_in h (mem_darts.1 hd)
 have h2 := Gr.err_ok (Pt.err_ok h).1
 exact ⟨d.toNat, by omega, by omega, by omega⟩
theorem turnErr_len {g : Gr} {p : Pt} {turn : List (List Int)} (h : p.err g = 0) (hl : (turn.length : Int) ≠ g.n) : turnErr g p turn = 5 := turnErr_bad h fun k => hl k.len
theorem turnErr_row {g : Gr} {p : Pt} {turn : List (List Int)} (h : p.err g = 0) {v : Nat} (hv : (v : Int) < g.n) (hr : ¬ Plain.rowOk g p turn v) : turnErr g p turn = 5 := turnErr_bad h fun k => hr (k.rowOk (Pt.ok_of_err h) (by omega) hv)
end Go.Proofs.YtednbiophjndpaaGreat.Plain
namespace Go.Proofs.YtednbiophjndpaaGreat
namespace Plain
theorem heads_one {s : St} (hs : s.Ok) : s.count ≤ 1 ↔ ∀ i j, i < s.grp.length → j < s.grp.length → s.hd i = s.hd j := by
 have hc : s.count = ((List.range s.grp.length).filter fun i => s.grp.getD i 0 == i).length := by unfold St.count; rw [List.countP_eq_length_filter]
 have hn : ((List.range s.grp.length).filter fun i => s.grp.getD i 0 == i).Nodup := List.nodup_range.filter _
 have hm : ∀ i, i ∈ ((List.range s.grp.length).filter fun i => s.grp.getD i 0 == i) ↔ i < s.grp.length ∧ s.hd i = i := fun i => by
  rw [List.mem_filter, List.mem_range]; unfold St.hd; simp
 rw [hc]
 generalize ((List.range s.grp.length).filter fun i => s.grp.getD i 0 == i) = L at *
 constructor
 ·intro h i j hi hj
  have h1 := (hm (s.hd i)).2 ⟨Nat.lt_of_le_of_lt (hs.le i hi) hi, hs.own i hi⟩
  have h2 := (hm (s.hd j)).2 ⟨Nat.lt_of_le_of_lt (hs.le j hj) hj, hs.own j hj⟩
  match L, h with
  | [], _ => simp at h1
  | [a], _ => rw [List.mem_singleton.1 h1, List.mem_singleton.1 h2]
  | a :: b :: l, h => simp at h
 intro h
 match L, hn with
 | [], _ => simp
 | [a], _ => simp
 | a :: b :: l, hn =>
  have h1 := (hm a).1 (by simp)
  have h2 := (hm b).1 (by simp)
  have := h a b h1.1 h2.1
  have e : a = b := by rw [← h1.2, ← h2.2]; exact this
  rw [e] at hn
  simp at hn
def keysOk (ow : Int → Option Int) (l : List Int) (met : List Int) (k : Nat) : Prop :=
 ∀ i, i < k → (ow (l.getD i 0)).isSome = true ∧ l.getD i 0 ∉ met ++ l.take i ∧ (0 < i → l.getD (i - 1) 0 < l.getD i 0)
instance (ow : Int → Option Int) (l met : List Int) (k : Nat) : Decidable (keysOk ow l met k) := by unfold keysOk; infer_instance
theorem keysOk_succ {ow : Int → Option Int} {l met : List Int} {k : Nat} : keysOk ow l met (k + 1) ↔ keysOk ow l met k ∧ ((ow (l.getD k 0)).isSome = true ∧ l.getD k 0 ∉ met ++ l.take k ∧ (0 < k → l.getD (k - 1) 0 < l.getD k 0)) := by
 unfold keysOk
 constructor
 ·exact fun h => ⟨fun i hi => h i (by omega), h k (by omega)⟩
 rintro ⟨h1, h2⟩ i hi
 by_cases e : i = k
 ·rw [e]; exact h2
 exact h1 i (by omega)
def grpStep (a b : Nat) (grp : List Nat) : List Nat := grp.map fun x => if x = b then a else x
def grpAt (ow : Int → Option Int) (grp : List Nat) (key : Int) : Nat := grp.getD ((ow key).getD 0).toNat 0
def joinRun (ow : Int → Option Int) (l : List Int) (grp : List Nat) : Nat → Option (List Nat)
 | 0 => some grp
 | k + 1 => (joinRun ow l grp k).bind fun q => if k = 0 then some q else if grpAt ow q (l.getD 0 0) = grpAt ow q (l.getD k 0) then none else some (grpStep (grpAt ow q (l.getD 0 0)) (grpAt ow q (l.getD k 0)) q)
structure Alike (n : Nat) (s : St) (grp : List Nat) : Prop where
 ok : s.Ok
 all : s.all = upTo n
 len : grp.length = n
 same : ∀ i j, i < n → j < n → (grp.getD i 0 = grp.getD j 0 ↔ s.hd i = s.hd j)
theorem idx_upTo {n i : Nat} (hi : i < n) : (upTo n).idxOf (i : Int) = i := by
 have hn : (upTo n).Nodup := by unfold upTo; exact List.Pairwise.map _ (fun a b hab => by omega) (List.nodup_range (n := n))
 have hl : (upTo n).length = n := by simp [upTo]
 have e : (upTo n).getD i 0 = (i : Int) := by simp [upTo, List.getD, hi]
 have := idxOf_at hn (i := i) (by rw [hl]; exact hi)
 rwa [e] at this
theorem Alike.start (n : Nat) : Alike n (St.new (upTo n)) (List.range n) := by
 have h := (PlanOk.start (fun _ => none) n)
 refine ⟨h.ok, h.all, by simp, fun i j hi hj => ?_⟩
 rw [St.new_upTo]
 rfl
theorem Alike.join {n : Nat} {s : St} {grp : List Nat} (h : Alike n s grp) {a b : Int} (ha : 0 ≤ a ∧ a < n) (hb : 0 ≤ b ∧ b < n) :
  (s.joins a b = true ↔ grp.getD a.toNat 0 ≠ grp.getD b.toNat 0) ∧ Alike n (s.join a b) (grpStep (grp.getD a.toNat 0) (grp.getD b.toNat 0) grp) := by
 obtain ⟨p, rfl⟩ : ∃ p : Nat, a = p := ⟨a.toNat, by omega⟩
 obtain ⟨q, rfl⟩ : ∃ q : Nat, b = q := ⟨b.toNat, by omega⟩
 have hp : p < n := by omega
 have hq : q < n := by omega
 have ma : ((p : Nat) : Int) ∈ s.all := by rw [h.all, mem_upTo]; omega
 have mb : ((q : Nat) : Int) ∈ s.all := by rw [h.all, mem_upTo]; omega
 obtain ⟨e1, e2⟩ := St.join_in ma mb
 have i1 : s.all.idxOf (p : Int) = p := by rw [h.all]; exact idx_upTo hp
 have i2 : s.all.idxOf (q : Int) = q := by rw [h.all]; exact idx_upTo hq
 rw [i1, i2] at e1 e2
 have hgl : s.grp.length = n := by rw [← h.ok.len, h.all]; simp [upTo]
 rw [Int.toNat_natCast, Int.toNat_natCast]
 refine ⟨by rw [e2, bne_iff_ne, ne_eq, ne_eq, h.same p q hp hq], ?_⟩
 refine ⟨h.ok.join _ _, by rw [e1]; exact h.all, by unfold grpStep; rw [List.length_map]; exact h.len, fun i j hi hj => ?_⟩
 have g1 : ∀ x, x < n → (grpStep (grp.getD p 0) (grp.getD q 0) grp).getD x 0 = if grp.getD x 0 = grp.getD q 0 then grp.getD p 0 else grp.getD x 0 := fun x hx => by
  unfold grpStep
  rw [getD_map _ _ _ (by rw [h.len]; exact hx)]
 have g2 : ∀ x, x < n → (s.join p q).hd x = if s.hd x = max (s.hd p) (s.hd q) then min (s.hd p) (s.hd q) else s.hd x := fun x hx => by
  rw [e1]
  unfold St.hd relabel
  rw [getD_map _ _ _ (by rw [hgl]; exact hx)]
 rw [g1 i hi, g1 j hj, g2 i hi, g2 j hj]
 have s1 := h.same i q hi hq
 have s2 := h.same j q hj hq
 have s3 := h.same i p hi hp
 have s4 := h.same j p hj hp
 have s5 := h.same i j hi hj
 have s6 := h.same p q hp hq
 generalize grp.getD i 0 = x1 at *
 generalize grp.getD j 0 = x2 at *
 generalize grp.getD p 0 = x3 at *
 generalize grp.getD q 0 = x4 at *
 generalize s.hd i = y1 at *
 generalize s.hd j = y2 at *
 generalize s.hd p = y3 at *
 generalize s.hd q = y4 at *
 clear e1 e2 g1 g2 i1 i2 ma mb
 rcases Nat.le_total y3 y4 with q1 | q1
 ·rw [Nat.max_eq_right q1, Nat.min_eq_left q1]
  split <;> split <;> split <;> split <;> omega
 rw [Nat.max_eq_left q1, Nat.min_eq_right q1]
 split <;> split <;> split <;> split <;> omega
theorem list_alike {ow : Int → Option Int} {n : Nat} {l : List Int} {c : St × List Int} {grp : List Nat} (hb : ∀ y a, ow y = some a → 0 ≤ a ∧ a < n) (hA : Alike n c.1 grp) : ∀ k, k ≤ l.length →
  (∀ d, listRun ow l c k = some d → keysOk ow l c.2 k ∧ d.2 = c.2 ++ l.take k ∧ ∃ q, joinRun ow l grp k = some q ∧ Alike n d.1 q) ∧ (listRun ow l c k = none → ¬ keysOk ow l c.2 k ∨ joinRun ow l grp k = none)
 | 0, _ => ⟨fun d h => by cases h; exact ⟨fun i hi => by omega, by simp, grp, rfl, hA⟩, fun h => by cases h⟩
 | k + 1, hk => by
  obtain ⟨i1, i2⟩ := list_alike (l := l) hb hA k (by omega)
  have e1 : listRun ow l c (k + 1) = (listRun ow l c k).bind (keyStep ow l k) := rfl
  cases hm : listRun ow l c k with
  | none =>
   rw [hm] at e1
   refine ⟨fun d h => (by rw [e1] at h; cases h), fun _ => ?_⟩
   rcases i2 hm with h | h
   ·exact Or.inl fun q => h (keysOk_succ.1 q).1
   refine Or.inr ?_
   show (joinRun ow l grp k).bind _ = none
   rw [h]; rfl
  | some m =>
   rw [hm] at e1
   have e1 : listRun ow l c (k + 1) = keyStep ow l k m := e1
   obtain ⟨h1, h2, q, h3, h4⟩ := i1 m hm
   have ej : joinRun ow l grp (k + 1) = if k = 0 then some q else if grpAt ow q (l.getD 0 0) = grpAt ow q (l.getD k 0) then none else some (grpStep (grpAt ow q (l.getD 0 0)) (grpAt ow q (l.getD k 0)) q) := by
    show (joinRun ow l grp k).bind _ = _
    rw [h3]; rfl
   have hfirst : 0 < k → ∃ b, ow (l.getD 0 0) = some b := fun h0 => Option.isSome_iff_exists.1 (h1 0 h0).1
   have htk : l.take (k + 1) = l.take k ++ [l.getD k 0] := take_snoc (by omega)
   constructor
   ·intro d hd
    rw [e1] at hd
    obtain ⟨a, ha, g1, g2, g3, g4⟩ := keyStep_some hd
    refine ⟨keysOk_succ.2 ⟨h1, by rw [ha]; rfl, by rw [← h2]; exact g1, g2⟩, by rw [g3, h2, htk, List.append_assoc], ?_⟩
    rcases g4 with ⟨rfl, e⟩ | ⟨h0, hj, e⟩
    ·exact ⟨q, by rw [ej, if_pos rfl], by rw [e]; exact h4⟩
    obtain ⟨b, hob⟩ := hfirst h0
    rw [hob] at hj e
    obtain ⟨w1, w2⟩ := h4.join (hb _ _ hob) (hb _ _ ha)
    have hne := w1.1 hj
    have ea : grpAt ow q (l.getD 0 0) = q.getD b.toNat 0 := by unfold grpAt; rw [hob]; rfl
    have eb : grpAt ow q (l.getD k 0) = q.getD a.toNat 0 := by unfold grpAt; rw [ha]; rfl
    refine ⟨_, by rw [ej, if_neg (by omega), ea, eb, if_neg hne], ?_⟩
    rw [e]
    exact w2
   intro hd
   rw [e1] at hd
   by_cases hok : keysOk ow l c.2 (k + 1)
   ·right
    obtain ⟨-, o1, o2, o3⟩ := keysOk_succ.1 hok
    obtain ⟨a, ha⟩ := Option.isSome_iff_exists.1 o1
    rw [← h2] at o2
    by_cases h0 : k = 0
    ·subst h0
     rw [keyStep_first ha o2] at hd
     cases hd
    obtain ⟨b, hob⟩ := hfirst (by omega)
    obtain ⟨w1, w2⟩ := h4.join (hb _ _ hob) (hb _ _ ha)
    have ea : grpAt ow q (l.getD 0 0) = q.getD b.toNat 0 := by unfold grpAt; rw [hob]; rfl
    have eb : grpAt ow q (l.getD k 0) = q.getD a.toNat 0 := by unfold grpAt; rw [ha]; rfl
    rw [ej, if_neg h0, ea, eb]
    by_cases hj : m.1.joins b a = true
    ·rw [keyStep_join (by omega) ha o2 (o3 (by omega)) (by rw [hob]; rfl) hj] at hd
     cases hd
    have : ¬ q.getD b.toNat 0 ≠ q.getD a.toNat 0 := fun x => hj (w1.2 x)
    rw [if_pos (by omega)]
   exact Or.inl hok
def refRun (ow : Int → Option Int) (same : List (List Int)) (st : List Nat × List Int) : Nat → Option (List Nat × List Int)
 | 0 => some st
 | i + 1 => (refRun ow same st i).bind fun c => if listBad same i then none else if keysOk ow (same.getD i []) c.2 (same.getD i []).length then (joinRun ow (same.getD i []) c.1 (same.getD i []).length).map fun q => (q, c.2 ++ same.getD i []) else none
theorem run_alike {ow : Int → Option Int} {n : Nat} {same : List (List Int)} (hb : ∀ y a, ow y = some a → 0 ≤ a ∧ a < n) : ∀ i,
  (∀ d, sameRun ow same (St.new (upTo n), []) i = some d → ∃ q, refRun ow same (List.range n, []) i = some (q, d.2) ∧ Alike n d.1 q) ∧ (sameRun ow same (St.new (upTo n), []) i = none → refRun ow same (List.range n, []) i = none)
 | 0 => ⟨fun d h => by cases h; exact ⟨_, rfl, Alike.start n⟩, fun h => by cases h⟩
 | i + 1 => by
  obtain ⟨i1, i2⟩ := run_alike (same := same) hb i
  have e1 : sameRun ow same (St.new (upTo n), []) (i + 1) = (sameRun ow same (St.new (upTo n), []) i).bind fun c => if listBad same i then none else listRun ow (same.getD i []) c (same.getD i []).length := rfl
  have e2 : refRun ow same (List.range n, []) (i + 1) = (refRun ow same (List.range n, []) i).bind fun c => if listBad same i then none else if keysOk ow (same.getD i []) c.2 (same.getD i []).length then (joinRun ow (same.getD i []) c.1 (same.getD i []).length).map fun q => (q, c.2 ++ same.getD i []) else none := rfl
  cases hm : sameRun ow same (St.new (upTo n), []) i with
  | none =>
   rw [hm] at e1
   rw [i2 hm] at e2
   exact ⟨fun d h => (by rw [e1] at h; cases h), fun _ => e2⟩
  | some m =>
   obtain ⟨q, hq, hA⟩ := i1 m hm
   rw [hm] at e1
   rw [hq] at e2
   have e1 : sameRun ow same (St.new (upTo n), []) (i + 1) = if listBad same i then none else listRun ow (same.getD i []) m (same.getD i []).length := e1
   have e2 : refRun ow same (List.range n, []) (i + 1) = if listBad same i then none else if keysOk ow (same.getD i []) m.2 (same.getD i []).length then (joinRun ow (same.getD i []) q (same.getD i []).length).map fun x => (x, m.2 ++ same.getD i []) else none := e2
   by_cases hbad : listBad same i
   ·rw [if_pos hbad] at e1 e2
    exact ⟨fun d h => (by rw [e1] at h; cases h), fun _ => e2⟩
   rw [if_neg hbad] at e1 e2
   obtain ⟨l1, l2⟩ := list_alike (l := same.getD i []) hb hA _ (Nat.le_refl _)
   constructor
   ·intro d h
    rw [e1] at h
    obtain ⟨k1, k2, r, k3, k4⟩ := l1 d h
    rw [List.take_length] at k2
    exact ⟨r, by rw [e2, if_pos k1, k3, k2]; rfl, k4⟩
   intro h
   rw [e1] at h
   rw [e2]
   rcases l2 h with k | k
   ·rw [if_neg k]
   split
   ·rw [k]; rfl
   rfl
def apartGrp (grp : List Nat) : Prop := ∃ i, i < grp.length ∧ grp.getD i 0 ≠ grp.getD 0 0
open Classical in
theorem planErr_ref {g : Gr} {p : Pt} {turn same : List (List Int)} (h : flatErr g p turn = 0) (hp : PartOk g p) (hW : WalksOk g p turn (walksOf g p turn)) :
  planErr g p turn same = match refRun (ownerOf g p (walksOf g p turn)) same (List.range (roots g p).length, []) same.length with
   | none => 7
   | some c => if apartGrp c.1 then 7 else 0 := by
 rw [planErr_run h]
 have hb : ∀ y a, ownerOf g p (walksOf g p turn) y = some a → 0 ≤ a ∧ a < ((roots g p).length : Int) := fun y a ha => ownerOf_lt hp hW ha
 obtain ⟨r1, r2⟩ := run_alike (same := same) hb same.length
 cases hm : sameRun (ownerOf g p (walksOf g p turn)) same (St.new (upTo (roots g p).length), []) same.length with
 | none => rw [r2 hm]
 | some d =>
  obtain ⟨q, hq, hA⟩ := r1 d hm
  rw [hq]
  dsimp only
  have hgl : d.1.grp.length = (roots g p).length := by rw [← hA.ok.len, hA.all]; simp [upTo]
  have : 1 < d.1.count ↔ apartGrp q := by
   rw [← Nat.not_le, heads_one hA.ok]
   constructor
   ·intro hx
    refine Classical.byContradiction fun hno => hx fun i j hi hj => ?_
    rw [hgl] at hi hj
    have e : ∀ x, x < (roots g p).length → q.getD x 0 = q.getD 0 0 := fun x hx => Classical.byContradiction fun y => hno ⟨x, by rw [hA.len]; exact hx, y⟩
    exact (hA.same i j hi hj).1 ((e i hi).trans (e j hj).symm)
   rintro ⟨i, hi, hne⟩ hall
   rw [hA.len] at hi
   exact hne ((hA.same i 0 hi (by omega)).2 (hall i 0 (by omega) (by omega)))
  by_cases hx : 1 < d.1.count
  ·rw [if_pos hx, if_pos (this.1 hx)]
  rw [if_neg hx, if_neg fun y => hx (this.2 y)]
end Plain
end Go.Proofs.YtednbiophjndpaaGreat
namespace Go.Proofs.YtednbiophjndpaaGreat
open Go.RowKit Go.Maps
theorem row_lit1 {w : World} {B : Nat} (hB : B ≤ w.heap.size) {k : Int} (hk : I64 k) : RowAt (w.alloc (.cells #[.int .i64 k] 3)) B (.slice (some ⟨w.heap.size, 0, none⟩) 1 1) [k] :=
 ⟨World.ownsRow_lit w #[.int .i64 k] 1 hB (by decide) rfl, by simpa using hk, by simp⟩
theorem wl_push {ops : Array Oper} {rest : List Oper} {o : Oper} {a : Act} {Q : Exit → Act → World → Prop} {w w0 : World} (hg : o.guard = none) (s x : Operand) (ho : o.op = .call { callee := .builtin .append, args := #[s, x], argTypes := #[25, 25] })
  {B : Nat} {v : Value} {l : List Int} {k : Int} (hs : a.eval s = v) (hx : a.eval x = .slice (some ⟨w0.heap.size, 0, none⟩) 1 1) (h : RowAt w0 B v l) (hk : I64 k) (hB : B ≤ w0.heap.size) (hn : l.length < 4294967290) (hw : w = w0.alloc (.cells #[.int .i64 k] 3))
  (hK : ∀ v' w', RowAt w' B v' (l ++ [k]) → Chg (foot v) w0 w' → (∀ b ∈ foot v', b ∈ foot v ∨ w0.heap.size ≤ b) → wpList Tryz.prog ops Q rest (a.put o.dst v') w') : wpList Tryz.prog ops Q (o :: rest) a w := by
 subst hw
 have hc := (Chg.refl [] w0).alloc (.cells #[.int .i64 k] 3)
 refine wl_cat hg s x ho hs hx (h.chg hc (by simp)) (row_lit1 (B := w0.heap.size) (Nat.le_refl _) hk) (Nat.le_trans hB hc.size) (by simp; omega) fun v' w' r1 r2 r3 => hK v' w' r1 ((hc.mono (by simp)).trans r2 fun j hj => Or.inl hj) fun b hb => (r3 b hb).imp id fun q => Nat.le_trans hc.size q
theorem IntsAt.cellAt {w : World} {ao : Option Addr} {n c : Nat} {l : List Int} (h : IntsAt w (.slice ao n c) l) {i : Nat} (hi : i < l.length) : ∃ b off, ao = some ⟨b, off, none⟩ ∧ w.cell? ⟨b, off + i, none⟩ = some (.int .i64 (l.getD i 0)) := by
 obtain ⟨ao', c', e', -, -, h⟩ := h
 simp only [Value.slice.injEq] at e'
 obtain ⟨rfl, -, rfl⟩ := e'
 obtain ⟨b, off, rfl, h2⟩ := h (by intro q; rw [q] at hi; simp at hi)
 exact ⟨b, off, rfl, h2 i hi⟩
theorem RowsAt.row {w : World} {tno : Option Addr} {n tc : Nat} {ll : List (List Int)} (h : RowsAt w (.slice tno n tc) ll) {k : Nat} (hk : k < ll.length) : ∃ b off uo uc, tno = some ⟨b, off, none⟩ ∧ w.cell? ⟨b, off + k, none⟩ = some (.slice uo (ll.getD k []).length uc) ∧ IntsAt w (.slice uo (ll.getD k []).length uc) (ll.getD k []) := by
 obtain ⟨ao, cap, e, -, h2⟩ := h
 simp only [Value.slice.injEq] at e
 obtain ⟨rfl, rfl, rfl⟩ := e
 obtain ⟨b, off, u, rfl, h3, -, h5⟩ := h2 k hk
 have h6 := h5
 obtain ⟨uo, uc, rfl, -⟩ := h5
 exact ⟨b, off, uo, uc, rfl, h3, h6⟩
theorem rowNil' (w : World) (B : Nat) : RowAt w B (.slice none 0 0) [] := ⟨World.ownsRow_nil _ _ _ _, by simp, by simp⟩
set_option maxRecDepth 100000 in
set_option maxHeartbeats 4000000 in
theorem refDarts_any (vg vp : Value) (g : Plain.Gr) (p : Plain.Pt) (v : Int) (w : World) (hE : p.e.length ≤ 1000000) (hr : p.err g = 0) (hg : GrAt w vg g) (hp : PtAt w vp p) :
  Calls Tryz.prog 70 #[vg, vp, .int .i64 v] w fun e w' => ∃ ov, e = .returned ov ∧ RowAt w' w.heap.size ov (Plain.dartsAt g p v) ∧ Chg [] w w' := by
 have HRE := Lib.hid (Plain.Pt.err_ok hr).2.2.1
 have HGE := Lib.hid (Plain.Gr.err_ok (Plain.Pt.err_ok hr).1)
 have hdl := Plain.darts_length p
 have HDA := Lib.hid (Plain.dartsTo_all g p v)
 rw [hdl] at HDA
 have HDL := Lib.hid hdl
 have HD0 := Lib.hid (Plain.dartsTo_zero g p v)
 clear hdl
 have HG := Lib.hid hg
 have HP := Lib.hid hp
 obtain ⟨eo, cap, rfl, hn, hm, hsm, hcell⟩ := hg
 obtain ⟨v1, v2, rfl, hv, he⟩ := hp
 obtain ⟨ao, ac, rfl, has, ham, hacell⟩ := hv
 obtain ⟨bo, bc, rfl, hbs, hbm, hbcell⟩ := he
 have HAC := Lib.hid hacell
 have HBC := Lib.hid hbcell
 have HAS := Lib.hid has
 have HBS := Lib.hid hbs
 obtain ⟨-, -, hc1⟩ := box_two w #[.int .i64 g.n, .slice eo g.e.length cap] #[.slice ao p.v.length ac, .slice bo p.e.length bc] 24 27
 have HC1 := Lib.hid hc1
 have HBXS := Lib.hid (fun w2 h => two_boxes w (g := g) (p := p) (eo := eo) (ao := ao) (bo := bo) (cap := cap) (ac := ac) (bc := bc) (w2 := w2) h)
 clear hcell hacell hbcell hsm has hbs hn hc1
 obtain ⟨x0, x1, y0, y1, hsz⟩ := HBXS.out _ (Chg.refl _ _)
 clear hr
 go_enter Tryz.func70, Tryz.ntmps70
 go_wp2
 obtain ⟨w1, hw1⟩ : ∃ w1, ((w.alloc (.cells #[.int .i64 g.n, .slice eo g.e.length cap] 24)).alloc (.cells #[.slice ao p.v.length ac, .slice bo p.e.length bc] 27)) = w1 := ⟨_, rfl⟩
 rw [hw1] at HC1 HBXS ⊢
 clear hw1 x0 x1 y0 y1 hsz
 have HB1 := Lib.hid HC1.out.size
 go_loopw [7, 8] (fun ov c wr => ∃ k : Nat, k ≤ p.e.length ∧ c = .int .i64 k ∧ RowAt wr w1.heap.size ov (Plain.dartsTo g p v (2 * k)) ∧ Chg [] w1 wr) (fun _ c _ => p.e.length - (intOf c).toNat)
 case atStart => exact ⟨0, Nat.zero_le _, rfl, by rw [show 2 * 0 = 0 from rfl, HD0.out]; exact rowNil' _ _, Chg.refl _ _⟩
 case round =>
  obtain ⟨k, hk, rfl, hrow, hc⟩ := hrel
  have HROW := Lib.hid hrow
  have HC := Lib.hid hc
  obtain ⟨oo, oc, rfl⟩ := hrow.shape
  obtain ⟨x0, x1, y0, y1, hsz⟩ := HBXS.out wr hc
  by_cases hlt : k < p.e.length
  ·obtain ⟨bb, boff, rfl, hbc⟩ := HBC.out (by intro e; rw [e] at hlt; simp at hlt)
   have HCK := Lib.hid (HC1.out.cell (hbc k hlt) (by simp))
   have hre := Plain.rises_at HRE.out hlt
   obtain ⟨ei, hei⟩ : ∃ ei : Nat, p.e.getD k 0 = (ei : Int) := ⟨(p.e.getD k 0).toNat, by omega⟩
   have HNX := Lib.hid (fun s (hs : s < 2) => (show Plain.dartsTo g p v (2 * k + s + 1) = if g.tail ((2 * ei + s : Nat) : Int) = v then Plain.dartsTo g p v (2 * k + s) ++ [((2 * ei + s : Nat) : Int)] else Plain.dartsTo g p v (2 * k + s) by
    rw [Plain.dartsTo_next (by rw [HDL.out]; omega), Plain.darts_getD hlt s hs, hei]
    rw [show (2 * (ei : Int) + (s : Int)) = ((2 * ei + s : Nat) : Int) by omega]))
   rw [hei] at HCK hre
   have hei2 : ei < g.e.length := by omega
   have hglen : g.e.length < 4294967296 := by have := HGE.out.2.2.1; have := HGE.out.1; omega
   have hgl2 : g.e.length ≤ 1024 := by have := HGE.out.2.2.1; have := HGE.out.1; omega
   have w2e : IntKind.i64.wrap (2 * (ei : Int)) = 2 * (ei : Int) := IntWalk.i64_in _ (by omega)
   clear hbc hre hrow hc
   go_wp2
   go_loopw [7, 9] (fun ov c wi => ∃ s : Nat, s ≤ 2 ∧ c = .int .i64 s ∧ RowAt wi w1.heap.size ov (Plain.dartsTo g p v (2 * k + s)) ∧ Chg [] w1 wi) (fun _ c _ => 2 - (intOf c).toNat)
   case atStart => exact ⟨0, by omega, rfl, HROW.out, HC.out⟩
   case round =>
    rename World => wi
    obtain ⟨s, hs, rfl, hrow, hc⟩ := hrel
    have HROW := Lib.hid hrow
    have HC := Lib.hid hc
    obtain ⟨oo, oc, rfl⟩ := hrow.shape
    obtain ⟨x0, x1, y0, y1, hsz⟩ := HBXS.out wi hc
    have ck := hc.cell HCK.out (by simp)
    clear hrow hc
    by_cases hs2 : s < 2
    ·have HN := Lib.hid (HNX.out s hs2)
     have wad : IntKind.i64.wrap (2 * (ei : Int) + (s : Int)) = ((2 * ei + s : Nat) : Int) := by rw [IntWalk.i64_in _ (by omega)]; omega
     have hdlen := Plain.dartsTo_len g p v (2 * k + s)
     have HID := Lib.hid (show I64 ((2 * ei + s : Nat) : Int) from I64.mk (by omega) (by omega))
     obtain ⟨d, hd⟩ : ∃ d, 2 * ei + s = d := ⟨_, rfl⟩
     rw [hd] at HN wad HID
     have hd2 : d / 2 < g.e.length := by omega
     clear hd
     go_wp2
     have hS0 : Chg [] wi wi.drew := (Chg.refl [] wi).drew
     refine wp_region_way (Chg [] wi) [0, 1, 2, 3, 4, 5, 6, 7, 8, 10, 11] (Way.line [0, 1, 2, 3, 4, 5, 6, 7, 8, 10, 9, 11] .done) (by kernel_rfl) (by kernel_rfl) ?_
     simp only [Way.line]
     repeat
      first
       | (refine along_off rfl (by rfl) (by rfl) (fun _ _ _ h => h) hS0 ?_; simp only [Act.put, Z1, Z2, Z3, Z4, Z5, Z6])
       | (refine along_read (v := ?_) rfl (by rfl) (by rfl) (fun _ _ _ h => h) hS0 (fun w' hS' => ?_) ?_; rotate_left; (focus (have rd0 := hS'.cell x0 (by simp); have rd1 := hS'.cell x1 (by simp); have rd2 := hS'.cell y0 (by simp); have rd3 := hS'.cell y1 (by simp); have rd4 := hS'.cell ck (by simp); clear hS'; go_simp; try with_reducible rfl)); simp only [Act.put, Z1, Z2, Z3, Z4, Z5, Z6])
       | (refine along_skip rfl (by rfl) (by rfl) hS0 ?_; simp only [Act.put, Z1, Z2, Z3, Z4, Z5, Z6])
     refine along_op rfl (by rfl) (by rfl) (fun K hK => ?_)
     go_simp
     refine (tail_any _ g d _ hd2 hglen (HG.out.fresh (HC1.out.trans (HC.out.trans hS0 (by simp)) (by simp)))).mono ?_
     rintro e w3 ⟨rfl, hcx⟩
     have hS1 := hS0.trans hcx (by simp)
     clear hS0 hcx
     have hS0 := hS1
     clear hS1
     refine hK.out _ _ (fun _ => hS0) ?_
     clear hK K
     try simp only [Act.put, Z1, Z2, Z3, Z4, Z5, Z6]
     repeat
      first
       | (refine along_off rfl (by rfl) (by rfl) (fun _ _ _ h => h) hS0 ?_; simp only [Act.put, Z1, Z2, Z3, Z4, Z5, Z6])
       | (refine along_read (v := ?_) rfl (by rfl) (by rfl) (fun _ _ _ h => h) hS0 (fun w' hS' => ?_) ?_; rotate_left; (focus (have rd0 := hS'.cell x0 (by simp); have rd1 := hS'.cell x1 (by simp); have rd2 := hS'.cell y0 (by simp); have rd3 := hS'.cell y1 (by simp); have rd4 := hS'.cell ck (by simp); clear hS'; go_simp; try with_reducible rfl)); simp only [Act.put, Z1, Z2, Z3, Z4, Z5, Z6])
       | (refine along_skip rfl (by rfl) (by rfl) hS0 ?_; simp only [Act.put, Z1, Z2, Z3, Z4, Z5, Z6])
     refine along_done ?_
     have HC3 := Lib.hid (HC.out.trans hS0 (by simp))
     have HROW3 := Lib.hid (HROW.out.chg hS0 (by simp))
     clear x0 x1 y0 y1 hsz ck hS0
     obtain ⟨x0, x1, y0, y1, hsz⟩ := HBXS.out w3 HC3.out
     have ck := HC3.out.cell HCK.out (by simp)
     by_cases ht : g.tail (d : Int) = v
     ·have HE := Lib.hid (HN.out.trans (if_pos ht))
      have b1 : (g.tail (d : Int) == v) = true := by rw [beq_iff_eq]; exact ht
      have HB3 := Lib.hid (show w1.heap.size ≤ w3.heap.size from HC3.out.size)
      clear ht
      go_wp2_with (at_builtin; refine wl_push rfl _ _ rfl (B := w1.heap.size) (v := .slice oo _ oc) rfl rfl HROW3.out HID.out HB3.out (by omega) rfl ?_; intro v6 w6 r6 c6 f6; have R6 := Lib.hid r6; have C6 := Lib.hid c6; clear r6 c6 f6)
      go_roundw
      case rel => exact ⟨s + 1, by omega, by go_num, by rw [← Nat.add_assoc, HE.out]; exact R6.out, HC3.out.trans C6.out (fun j hj => Or.inr (by rw [HROW3.out.foot] at hj; exact (HROW3.out.low j hj).1))⟩
      case measure => simp [intOf]; omega
     have HE := Lib.hid (HN.out.trans (if_neg ht))
     have b1 : (g.tail (d : Int) == v) = false := by rw [beq_eq_false_iff_ne]; exact ht
     clear ht
     go_wp2
     go_roundw
     case rel => exact ⟨s + 1, by omega, by go_num, by rw [← Nat.add_assoc, HE.out]; exact HROW3.out, HC3.out⟩
     case measure => simp [intOf]; omega
    have e : s = 2 := by omega
    subst e
    clear ck
    go_wp2
    go_roundw
    case rel => exact ⟨k + 1, by omega, by go_num, HROW.out, HC.out⟩
    case measure => simp [intOf]; omega
  have e : k = p.e.length := by omega
  subst e
  have HR := Lib.hid (HROW.out.base HB1.out)
  rw [HDA.out] at HR ⊢
  have HCF := Lib.hid (HC1.out.trans HC.out (by simp))
  clear hrow hc x0 x1
  obtain ⟨rn, hrn⟩ : ∃ rn, (Plain.dartsAt g p v).length = rn := ⟨_, rfl⟩
  rw [hrn] at HR ⊢
  clear hrn
  go_wp2
  go_ret
  exact ⟨_, rfl, HR.out, HCF.out⟩
end Go.Proofs.YtednbiophjndpaaGreat
