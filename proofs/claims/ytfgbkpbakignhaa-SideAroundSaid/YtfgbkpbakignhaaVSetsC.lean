/- package sets: contract of Groups. Condition: an object with fewer than 2^32 things. -/
import Derived.Test.YtfgbkpbakignhaaVSetsB
import Derived.Test.YtfgbkpbakignhaaVRows2
import Derived.Deep.DeepCutAuto
import Derived.Deep.RegionLaw
import Derived.Test.YtfgbkpbakignhaaVOwners
namespace Go.Proofs.Ytfgbkpbakignhaa
open Go.RowKit Go.Maps

/-- What Groups keeps at each round. -/
def GrpRel (w : World) (pb mb : Nat) (tv uv : Value) (s : St) (k : Nat) (ov : Value) (wr : World) : Prop :=
  ∃ vs ats up', RowsOwn wr w.heap.size ov vs (s.gr k) ∧ wr.ownsRow w.heap.size 3 1 (.slice (some ⟨w.heap.size, 0, none⟩) s.all.length s.all.length) s.all.length (ints ats) ∧
    (∀ h, h < k → s.hd h = h → ats.getD h 0 = ((s.heads k).idxOf h : Nat)) ∧ (∀ j, j < vs.length → (vs.getD j undef).ownBlock ≠ some w.heap.size) ∧ SetsAt wr pb mb tv uv up' s ∧ Chg uv.ownBlock.toList w wr

/-- What stands when the group of the thing at place k is there. -/
def MidRel (w : World) (pb mb : Nat) (tv uv : Value) (s : St) (k : Nat) (ov : Value) (wr : World) : Prop :=
  ∃ go cap vs ats up', ov = .slice (some ⟨go, 0, none⟩) vs.length cap ∧ RowsOwn wr w.heap.size ov vs (s.mid k) ∧ wr.ownsRow w.heap.size 3 1 (.slice (some ⟨w.heap.size, 0, none⟩) s.all.length s.all.length) s.all.length (ints ats) ∧
    (∀ h, h < k + 1 → s.hd h = h → ats.getD h 0 = ((s.heads (k + 1)).idxOf h : Nat)) ∧ (∀ j, j < vs.length → (vs.getD j undef).ownBlock ≠ some w.heap.size) ∧ SetsAt wr pb mb tv uv up' s ∧ Chg uv.ownBlock.toList w wr

/-- An old group. -/
theorem mid_old {w wr : World} {pb mb : Nat} {tv uv ov : Value} {s : St} {k : Nat} (hok : s.Ok) (hlt : k < s.all.length) (hkk : s.hd k ≠ k) (h : GrpRel w pb mb tv uv s k ov wr) : MidRel w pb mb tv uv s k ov wr := by
  obtain ⟨vs, ats, up', hro, hats, hidx, hne, hat, hch⟩ := h
  have hr : s.hd k ≤ k := hok.le k (by rw [← hok.len]; exact hlt)
  have hrr : s.hd (s.hd k) = s.hd k := hok.own k (by rw [← hok.len]; exact hlt)
  have hvl : vs.length = (s.heads k).length := by rw [hro.len]; simp [St.gr]
  have hq2 := List.idxOf_lt_length_iff.2 (St.mem_heads.2 ⟨by omega, hrr⟩ : s.hd k ∈ s.heads k)
  obtain ⟨go, cap, rfl⟩ := owns_some hro.out (by omega)
  refine ⟨go, cap, vs, ats, up', rfl, ?_, hats, fun j hj e => ?_, hne, hat, hch⟩
  · have : s.mid k = s.gr k := if_neg hkk
    rw [this]; exact hro
  · have hjk : j < k := by
      rcases Nat.lt_or_ge j k with q | q
      · exact q
      · have : j = k := by omega
        subst this
        exact absurd e hkk
    rw [hidx j hjk e, St.idx_heads hjk e]

/-- A new group: its place has been laid (w2 is behind that store), and a nil row appended. -/
theorem mid_new {w wr w3 : World} {pb mb : Nat} {tv uv ov : Value} {s : St} {k g cap : Nat} {vs : List Value} {ats : List Int} {up' : List Nat} (hk : s.hd k = k) (hlt : k < s.all.length)
    (hro : RowsOwn wr w.heap.size ov vs (s.gr k)) (hats : wr.ownsRow w.heap.size 3 1 (.slice (some ⟨w.heap.size, 0, none⟩) s.all.length s.all.length) s.all.length (ints ats))
    (hidx : ∀ h, h < k → s.hd h = h → ats.getD h 0 = ((s.heads k).idxOf h : Nat)) (hne : ∀ j, j < vs.length → (vs.getD j undef).ownBlock ≠ some w.heap.size) (hat : SetsAt wr pb mb tv uv up' s) (hch : Chg uv.ownBlock.toList w wr)
    (hbl : ∀ b ∈ SetsAt.blocks pb mb tv uv, b < w.heap.size)
    (hown : w3.ownsRow w.heap.size 25 1 (.slice (some ⟨g, 0, none⟩) (vs.length + 1) cap) (vs.length + 1) (vs ++ [.slice none 0 0]))
    (hc3 : Chg ov.ownBlock.toList (wr.setCell ⟨w.heap.size, k, none⟩ (.int .i64 (vs.length : Int))) w3) : MidRel w pb mb tv uv s k (.slice (some ⟨g, 0, none⟩) (vs.length + 1) cap) w3 := by
  have hst := hats.stored k (.int .i64 (vs.length : Int))
  have hob : ∀ j ∈ ov.ownBlock.toList, w.heap.size ≤ j ∧ j ≠ w.heap.size := by
    intro j hj
    have e : ov.ownBlock = some j := by simpa using hj
    refine ⟨(hro.out.lt j e).1, fun q => ?_⟩
    rcases owns_two hro.out hats (by decide) with t | t
    · rw [t] at e; cases e
    · exact t (by rw [e, q]; rfl)
  have hc2 : Chg [w.heap.size] wr (wr.setCell ⟨w.heap.size, k, none⟩ (.int .i64 (vs.length : Int))) := (Chg.refl _ _).setCell (by simp) _
  have hro2 := hro.chg hc2 (fun b hb e => by simp at e; exact (hob b (by simpa using hb)).2 e) (fun j b hj hb e => by simp at e; subst e; exact hne j hj hb)
  have hvl : vs.length = (s.heads k).length := by rw [hro.len]; simp [St.gr]
  have hal : ats.length = s.all.length := by have := hats.1; simpa [ints] using this
  refine ⟨g, cap, vs ++ [.slice none 0 0], ats.set k (vs.length : Int), up', by simp, ?_, ?_, ?_, ?_, ?_, ?_⟩
  · have : s.mid k = s.gr k ++ [[]] := if_pos hk
    rw [this]
    exact hro2.push hown hc3
  · refine owns_chg ?_ hc3 (fun b hb e => ?_)
    · have e1 : ints (ats.set k (vs.length : Int)) = (ints ats).set k (.int .i64 (vs.length : Int)) := by simp [ints, List.map_set]
      rw [e1]; exact hst.1
    · have := hob b e
      simp [Value.ownBlock] at hb
      omega
  · intro h hh e
    by_cases q : h = k
    · subst q
      rw [St.idx_new e, ← hvl]
      simp [List.getD, show h < ats.length by omega]
    · rw [St.idx_heads (by omega) e, ← hidx h (by omega) e]
      simp [List.getD, List.getElem?_set_ne (Ne.symm q)]
  · intro j hj
    simp at hj
    by_cases q : j < vs.length
    · have : (vs ++ [Value.slice none 0 0]).getD j undef = vs.getD j undef := by simp only [List.getD]; rw [List.getElem?_append_left q]
      rw [this]; exact hne j q
    · have : j = vs.length := by omega
      subst this
      simp [Value.ownBlock]
  · exact (hat.chg hc2 (fun b hb e => by have := hbl b hb; simp at e; omega)).chg hc3 (fun b hb e => by have := hbl b hb; have := (hob b e).1; omega)
  · exact (hch.trans hc2 (fun j hj => Or.inr (by simp at hj; omega))).trans hc3 (fun j hj => Or.inr (hob j hj).1)

/-- The thing has gone in. -/
theorem mid_close {w w2 w5 : World} {pb mb : Nat} {tv uv : Value} {s : St} {k go cap g5 cap5 n l : Nat} {vs : List Value} {ats : List Int} {up' : List Nat} {v : Value} {x : Int} {q : Nat} {ll : List Int} (hok : s.Ok) (hlt : k < s.all.length)
    (hro : RowsOwn w2 w.heap.size (.slice (some ⟨go, 0, none⟩) n cap) vs (s.mid k)) (hn : n = vs.length) (hats : w2.ownsRow w.heap.size 3 1 (.slice (some ⟨w.heap.size, 0, none⟩) s.all.length s.all.length) s.all.length (ints ats))
    (hidx : ∀ h, h < k + 1 → s.hd h = h → ats.getD h 0 = ((s.heads (k + 1)).idxOf h : Nat)) (hne : ∀ j, j < vs.length → (vs.getD j undef).ownBlock ≠ some w.heap.size) (hat : SetsAt w2 pb mb tv uv up' s) (hch : Chg uv.ownBlock.toList w w2)
    (hbl : ∀ b ∈ SetsAt.blocks pb mb tv uv, b < w.heap.size) (hq : s.rank k = q) (hv : vs.getD q undef = v) (hll : (s.mid k).getD q [] = ll) (hl : l = ll.length) (hx : s.all.getD k 0 = x)
    (ho : w5.ownsRow w.heap.size 3 1 (.slice (some ⟨g5, 0, none⟩) (l + 1) cap5) (l + 1) (ints ll ++ [.int .i64 x])) (hc : Chg v.ownBlock.toList w2 w5) (hl5 : v.ownBlock = some g5 ∨ w2.heap.size ≤ g5) :
    GrpRel w pb mb tv uv s (k + 1) (.slice (some ⟨go, 0, none⟩) n cap) (w5.setCell ⟨go, q, none⟩ (.slice (some ⟨g5, 0, none⟩) (l + 1) cap5)) := by
  subst hl hll hv hx
  have hkg : k < s.grp.length := by rw [← hok.len]; exact hlt
  have hrl := St.rank_lt hok hkg
  rw [← s.mid_length, ← hro.len, hq] at hrl
  have hvb : ∀ j ∈ (vs.getD q undef).ownBlock.toList, w.heap.size ≤ j ∧ j ≠ w.heap.size := by
    intro j hj
    have e : (vs.getD q undef).ownBlock = some j := by simpa using hj
    exact ⟨((hro.rows q hrl).lt j e).1, fun t => hne q hrl (by rw [e, t])⟩
  have hgo : w.heap.size ≤ go ∧ go ≠ w.heap.size := by
    refine ⟨(hro.out.lt go rfl).1, fun t => ?_⟩
    rcases owns_two hro.out hats (by decide) with r | r
    · simp [Value.ownBlock] at r
    · exact r (by simp [Value.ownBlock, t])
  have hcs : Chg [go] w5 (w5.setCell ⟨go, q, none⟩ (.slice (some ⟨g5, 0, none⟩) (((s.mid k).getD q []).length + 1) cap5)) := (Chg.refl _ _).setCell (by simp) _
  refine ⟨vs.set q (.slice (some ⟨g5, 0, none⟩) (((s.mid k).getD q []).length + 1) cap5), ats, up', ?_, ?_, hidx, ?_, ?_, ?_⟩
  · rw [St.gr_succ hok hkg, hq]
    exact hro.put hn hrl ho hc hl5
  · exact owns_chg (owns_chg hats hc (fun b hb e => by have := hvb b e; simp [Value.ownBlock] at hb; omega)) hcs (fun b hb e => by simp [Value.ownBlock] at hb e; omega)
  · intro j hj
    rw [List.length_set] at hj
    rw [getD_setV _ _ _ _ hrl]
    by_cases e : j = q
    · rw [if_pos e]
      simp only [Value.ownBlock, ne_eq, Option.some.injEq]
      rcases hl5 with r | r
      · exact (hvb g5 (by rw [r]; simp)).2
      · have := (hats.lt w.heap.size rfl).2; omega
    · rw [if_neg e]; exact hne j hj
  · exact (hat.chg hc (fun b hb e => by have := hbl b hb; have := (hvb b e).1; omega)).chg hcs (fun b hb e => by have := hbl b hb; simp at e; omega)
  · exact (hch.trans hc (fun j hj => Or.inr (hvb j hj).1)).trans hcs (fun j hj => Or.inr (by simp at hj; omega))

end Go.Proofs.Ytfgbkpbakignhaa
/- package sets: contracts of New and of the laws' own example. Conditions: a list of fewer than 2^32 ints. -/
namespace Go.Proofs.Ytfgbkpbakignhaa
open Go.RowKit Go.Maps

/-- An object without things, just laid. -/
theorem SetsObj.empty (w : World) : SetsObj ((w.alloc (.map #[] 0)).alloc (.cells #[.map (some w.heap.size), .slice none 0 0, .slice none 0 0, .int .i64 0] 88)) (w.heap.size + 1) [w.heap.size + 1, w.heap.size] ⟨[], []⟩ := by
  refine ⟨w.heap.size, .slice none 0 0, .slice none 0 0, [], ⟨?_, ?_, World.ownsRow_nil _ _ _ _, World.ownsRow_nil _ _ _ _, Or.inl rfl, ⟨rfl, by simp⟩, rfl, by simp, by simp⟩, rfl⟩
  · have := heap_alloc_new (w.alloc (.map #[] 0)) (.cells #[.map (some w.heap.size), .slice none 0 0, .slice none 0 0, .int .i64 0] 88)
    have e : (w.alloc (.map #[] 0)).heap.size = w.heap.size + 1 := by simp
    rw [e] at this
    exact this
  · have : (pos ([] : List Int)) = fun _ => none := by funext x; simp [pos]
    simp only [List.length_nil]
    rw [this]
    exact (IMap.made w).alloc _

/-- New of a list. -/
def St.new (l : List Int) : St := l.foldl St.put ⟨[], []⟩

theorem St.new_take {l : List Int} {k : Nat} (h : k < l.length) : St.new (l.take (k + 1)) = (St.new (l.take k)).put (l.getD k 0) := by
  unfold St.new
  rw [List.take_succ_eq_append_getElem h, List.foldl_append]
  simp [List.getD, h]

theorem St.new_len (l : List Int) : (St.new l).all.length ≤ l.length := by
  have : ∀ (l : List Int) (s : St), (l.foldl St.put s).all.length ≤ s.all.length + l.length := by
    intro l
    induction l with
    | nil => intro s; simp
    | cons x r ih =>
      intro s
      have := ih (s.put x)
      have := (s.len_put x).2
      simp only [List.foldl_cons, List.length_cons]
      omega
  simpa [St.new] using this l ⟨[], []⟩

theorem new_any (v : Value) (l : List Int) (w : World) (hn : l.length < 4294967296) (h : IntsAt w v l) :
    Calls Try.prog 26 #[v] w fun e w' => ∃ pb own, e = .returned (.pointer (some ⟨pb, 0, none⟩)) ∧ SetsObj w' pb own (St.new l) ∧ Chg [] w w' ∧ ∀ j ∈ own, w.heap.size ≤ j := by
  obtain ⟨ao, cap, rfl, hsm, -, hcell⟩ := h
  have hmm := @run_makeMap Try.prog
  have HE := Lib.hid (SetsObj.empty w)
  go_enter Try.func26, Try.ntmps26
  go_wp2
  go_loopw [11] (fun c wr => ∃ k : Nat, k ≤ l.length ∧ c = .int .i64 k ∧ ∃ own, SetsObj wr (w.heap.size + 1) own (St.new (l.take k)) ∧ Chg [] w wr ∧ ∀ j ∈ own, w.heap.size ≤ j) (fun c _ => l.length - (intOf c).toNat)
  case atStart => exact ⟨0, Nat.zero_le _, rfl, _, HE.out, ((Chg.refl _ _).alloc _).alloc _, by simp⟩
  case round =>
    obtain ⟨k, hk, rfl, own, hobj, hch, hown⟩ := hrel
    by_cases hlt : k < l.length
    · obtain ⟨b, off, rfl, hc⟩ := hcell (by intro e; rw [e] at hlt; simp at hlt)
      have ck := hch.cell (hc k hlt) (by simp)
      have hx := hsm (l.getD k 0) (by simp [List.getD, hlt])
      have hl := St.new_len (l.take k)
      have hl2 : (l.take k).length ≤ k := List.length_take_le _ _
      have HX := Lib.hid (St.new_take hlt)
      have HS := Lib.hid hsm
      have HC := Lib.hid hc
      clear hcell hc hsm
      generalize l.getD k 0 = x at *
      go_wp2_with fail
      refine (add_any _ own _ x _ hx (by omega) hobj).mono ?_
      rintro e w2 ⟨rfl, own2, ho2, hc2, hs2⟩
      have HO2 := Lib.hid ho2
      have hch2 := hch.trans hc2 (fun j hj => Or.inr (hown j hj))
      have hsz := hch.size
      have hown2 : ∀ j ∈ own2, w.heap.size ≤ j := fun j hj => by rcases hs2 j hj with q | q; exact hown j q; omega
      clear hobj hch hown ho2 hc2 hs2 ck
      go_wp2
      go_roundw
      case rel => exact ⟨k + 1, by omega, by go_num, own2, by rw [HX.out]; exact HO2.out, hch2, hown2⟩
      case measure => simp [intOf]; omega
    · have e : k = l.length := by omega
      subst e
      have HO := Lib.hid hobj
      clear hobj
      go_wp2
      go_ret
      exact ⟨_, own, rfl, by simpa using HO.out, hch, hown⟩

theorem one23 (w : World) : IntsAt (w.alloc (.cells #[.int .i64 1, .int .i64 2, .int .i64 3] 3)) (.slice (some ⟨w.heap.size, 0, none⟩) 3 3) [1, 2, 3] := by
  have hb := heap_alloc_new w (.cells #[.int .i64 1, .int .i64 2, .int .i64 3] 3)
  refine ⟨_, 3, rfl, ?_, by simp, fun _ => ⟨_, _, rfl, ?_⟩⟩
  · intro x hx
    simp at hx
    rcases hx with rfl | rfl | rfl <;> exact I64.mk (by omega) (by omega)
  · intro i hi
    simp at hi
    rw [Nat.zero_add, cell_of_row _ _ _ _ _ _ hb]
    rcases (by omega : i = 0 ∨ i = 1 ∨ i = 2) with rfl | rfl | rfl <;> rfl

end Go.Proofs.Ytfgbkpbakignhaa
/- joins, plainly (lines of the older texts Acts and PlaysA, for seats without their types). No program here. -/
namespace Go.Proofs.Ytfgbkpbakignhaa
open Go.RowKit Go.Maps

theorem St.Ok.idx_lt {s : St} {x : Int} (h : x ∈ s.all) : s.all.idxOf x < s.all.length := List.idxOf_lt_length_iff.2 h

theorem St.Ok.hd_lt {s : St} (h : s.Ok) {x : Int} (hx : x ∈ s.all) : s.hd (s.all.idxOf x) < s.all.length := by
  have := h.le (s.all.idxOf x) (by rw [← h.len]; exact St.Ok.idx_lt hx)
  have := St.Ok.idx_lt hx
  omega

theorem St.put_put_mem (s : St) (x y : Int) : x ∈ ((s.put x).put y).all ∧ y ∈ ((s.put x).put y).all := ⟨St.mem_put_of y (s.mem_put x), St.mem_put _ _⟩

theorem St.join_in {s : St} {x y : Int} (hx : x ∈ s.all) (hy : y ∈ s.all) : s.join x y = ⟨s.all, relabel s.grp (s.hd (s.all.idxOf x)) (s.hd (s.all.idxOf y))⟩ ∧ s.joins x y = (s.hd (s.all.idxOf x) != s.hd (s.all.idxOf y)) := by
  have e : (s.put x).put y = s := by rw [St.put_in hx, St.put_in hy]
  exact ⟨by unfold St.join; rw [e], by unfold St.joins; rw [e]⟩

theorem St.join_count {s : St} (hs : s.Ok) {x y : Int} (hx : x ∈ s.all) (hy : y ∈ s.all) : s.count = (s.join x y).count + if s.joins x y then 1 else 0 := by
  obtain ⟨e1, e2⟩ := St.join_in hx hy
  rw [e1, e2]
  have h1 := hs.le (s.all.idxOf x) (by rw [← hs.len]; exact St.Ok.idx_lt hx)
  have h2 := hs.le (s.all.idxOf y) (by rw [← hs.len]; exact St.Ok.idx_lt hy)
  have k1 := St.Ok.idx_lt hx
  have k2 := St.Ok.idx_lt hy
  rw [hs.len] at k1 k2
  have o1 := hs.own _ k1
  have o2 := hs.own _ k2
  generalize s.hd (s.all.idxOf x) = i at *
  generalize s.hd (s.all.idxOf y) = j at *
  by_cases e : i = j
  · subst e
    rw [relabel_self]
    simp
  · have := St.count_relabel (all := s.all) (grp := s.grp) (by omega : i < s.grp.length) (by omega : j < s.grp.length) o1 o2 e
    have e3 : (i != j) = true := by rw [bne_iff_ne]; exact e
    rw [e3, if_pos rfl]
    exact this

theorem St.Ok.up {s : St} (h : s.Ok) : Up s.grp s.grp := ⟨rfl, fun i hi => ⟨h.le i hi, by
  have := h.own i hi
  simp only [St.hd] at this
  split
  · assumption
  · exact this.symm⟩⟩

theorem St.ok_nil : St.Ok ⟨[], []⟩ := ⟨rfl, List.nodup_nil, by simp, by simp⟩

theorem St.Ok.put {s : St} (h : s.Ok) (x : Int) : (s.put x).Ok := by
  by_cases hx : x ∈ s.all
  · rwa [St.put_in hx]
  · rw [St.put_new hx]
    have hu := h.up.put
    have hl := h.len
    refine ⟨by simp [hl], by rw [List.nodup_append]; exact ⟨h.nodup, by simp, by intro a ha b hb; simp at hb; subst hb; rintro rfl; exact hx ha⟩, fun i hi => ?_, fun i hi => ?_⟩
    · have := hu.le i (by simpa using hi); simpa [St.hd, hl] using this.1
    · have := hu.own (i := i) (by simpa using hi); simpa [St.hd, hl] using this

theorem St.Ok.join {s : St} (h : s.Ok) (x y : Int) : (s.join x y).Ok := by
  have ht := (h.put x).put y
  have hm := s.put_put_mem x y
  show St.Ok ⟨((s.put x).put y).all, relabel ((s.put x).put y).grp (((s.put x).put y).hd (((s.put x).put y).all.idxOf x)) (((s.put x).put y).hd (((s.put x).put y).all.idxOf y))⟩
  generalize (s.put x).put y = t at *
  have hi := ht.hd_lt hm.1
  have hj := ht.hd_lt hm.2
  have ei := ht.own (t.all.idxOf x) (by rw [← ht.len]; exact List.idxOf_lt_length_iff.2 hm.1)
  have ej := ht.own (t.all.idxOf y) (by rw [← ht.len]; exact List.idxOf_lt_length_iff.2 hm.2)
  generalize t.hd (t.all.idxOf x) = a at *
  generalize t.hd (t.all.idxOf y) = b at *
  by_cases hab : a = b
  · subst hab
    rw [relabel_self]
    exact ht
  · have hu := ht.up.join (i := a) (j := b) (by rw [← ht.len]; exact hi) (by rw [← ht.len]; exact hj) ei ej hab
    have hl : (relabel t.grp a b).length = t.grp.length := by simp [relabel]
    refine ⟨by simp only [hl, ht.len], ht.nodup, fun i hi => ?_, fun i hi => ?_⟩
    · exact (hu.le i (by simp only [hl] at hi; simpa using hi)).1
    · exact hu.own (by simp only [hl] at hi; simpa using hi)

theorem St.new_ok (l : List Int) : (St.new l).Ok := by
  have : ∀ (l : List Int) (s : St), s.Ok → (l.foldl St.put s).Ok := by
    intro l
    induction l with
    | nil => intro s h; exact h
    | cons x r ih => intro s h; exact ih _ (h.put x)
  exact this l _ St.ok_nil

end Go.Proofs.Ytfgbkpbakignhaa
/- plan.Right's answer, plainly; how many lists, keys, joins there are; how many regions. -/
namespace Go.Proofs.Ytfgbkpbakignhaa

namespace Plain
/-- One key of a list: the groups, the keys met. -/
def keyStep (ow : Int → Option Int) (l : List Int) (k : Nat) (st : St × List Int) : Option (St × List Int) :=
  match ow (l.getD k 0) with
  | none => none
  | some a =>
    if l.getD k 0 ∈ st.2 ∨ (0 < k ∧ l.getD k 0 ≤ l.getD (k - 1) 0) then none
    else if 0 < k then (if st.1.joins ((ow (l.getD 0 0)).getD 0) a then some (st.1.join ((ow (l.getD 0 0)).getD 0) a, st.2 ++ [l.getD k 0]) else none)
    else some (st.1, st.2 ++ [l.getD k 0])

def listRun (ow : Int → Option Int) (l : List Int) (st : St × List Int) : Nat → Option (St × List Int)
  | 0 => some st
  | k + 1 => (listRun ow l st k).bind (keyStep ow l k)

def listBad (same : List (List Int)) (i : Nat) : Prop := (same.getD i []).length < 2 ∨ (0 < i ∧ (same.getD i []).getD 0 0 ≤ (same.getD (i - 1) []).getD 0 0)
instance (same : List (List Int)) (i : Nat) : Decidable (listBad same i) := by unfold listBad; infer_instance

def sameRun (ow : Int → Option Int) (same : List (List Int)) (st : St × List Int) : Nat → Option (St × List Int)
  | 0 => some st
  | i + 1 => (sameRun ow same st i).bind fun c => if listBad same i then none else listRun ow (same.getD i []) c (same.getD i []).length

/-- The numbers below n. -/
def upTo (n : Nat) : List Int := (List.range n).map fun (i : Nat) => (i : Int)

noncomputable def planErr (g : Gr) (p : Pt) (turn same : List (List Int)) : Int :=
  if flatErr g p turn ≠ 0 then flatErr g p turn
  else match sameRun (ownerOf g p (walksOf g p turn)) same (St.new (upTo (roots g p).length), []) same.length with
    | none => 7
    | some c => if 1 < c.1.count then 7 else 0

theorem listRun_none {ow : Int → Option Int} {l : List Int} {st : St × List Int} {k : Nat} (h : listRun ow l st k = none) : ∀ n, k ≤ n → listRun ow l st n = none
  | 0, hn => by rw [show k = 0 by omega] at h; exact h
  | n + 1, hn => by
    by_cases e : k = n + 1
    · rw [← e]; exact h
    · show (listRun ow l st n).bind _ = none
      rw [listRun_none h n (by omega)]; rfl

theorem sameRun_none {ow : Int → Option Int} {same : List (List Int)} {st : St × List Int} {k : Nat} (h : sameRun ow same st k = none) : ∀ n, k ≤ n → sameRun ow same st n = none
  | 0, hn => by rw [show k = 0 by omega] at h; exact h
  | n + 1, hn => by
    by_cases e : k = n + 1
    · rw [← e]; exact h
    · show (sameRun ow same st n).bind _ = none
      rw [sameRun_none h n (by omega)]; rfl

theorem listRun_stop {ow : Int → Option Int} {l : List Int} {st c : St × List Int} {k : Nat} (hk : k < l.length) (h : listRun ow l st k = some c) (hs : keyStep ow l k c = none) : listRun ow l st l.length = none :=
  listRun_none (k := k + 1) (show (listRun ow l st k).bind _ = none by rw [h]; exact hs) _ hk
theorem listRun_next {ow : Int → Option Int} {l : List Int} {st c d : St × List Int} {k : Nat} (h : listRun ow l st k = some c) (hs : keyStep ow l k c = some d) : listRun ow l st (k + 1) = some d :=
  show (listRun ow l st k).bind _ = some d by rw [h]; exact hs
theorem sameRun_bad {ow : Int → Option Int} {same : List (List Int)} {st c : St × List Int} {i : Nat} (hi : i < same.length) (h : sameRun ow same st i = some c) (hb : listBad same i) : sameRun ow same st same.length = none :=
  sameRun_none (k := i + 1) (show (sameRun ow same st i).bind _ = none by rw [h]; exact if_pos hb) _ hi
theorem sameRun_stop {ow : Int → Option Int} {same : List (List Int)} {st c : St × List Int} {i : Nat} (hi : i < same.length) (h : sameRun ow same st i = some c) (hb : ¬ listBad same i) (hs : listRun ow (same.getD i []) c (same.getD i []).length = none) : sameRun ow same st same.length = none :=
  sameRun_none (k := i + 1) (show (sameRun ow same st i).bind _ = none by rw [h]; show (if _ then _ else _) = none; rw [if_neg hb]; exact hs) _ hi
theorem sameRun_next {ow : Int → Option Int} {same : List (List Int)} {st c d : St × List Int} {i : Nat} (h : sameRun ow same st i = some c) (hb : ¬ listBad same i) (hs : listRun ow (same.getD i []) c (same.getD i []).length = some d) : sameRun ow same st (i + 1) = some d :=
  show (sameRun ow same st i).bind _ = some d by rw [h]; show (if _ then _ else _) = some d; rw [if_neg hb]; exact hs

theorem keyStep_none {ow : Int → Option Int} {l : List Int} {k : Nat} {st : St × List Int} (h : ow (l.getD k 0) = none) : keyStep ow l k st = none := by unfold keyStep; rw [h]
theorem keyStep_bad {ow : Int → Option Int} {l : List Int} {k : Nat} {st : St × List Int} (h : l.getD k 0 ∈ st.2 ∨ (0 < k ∧ l.getD k 0 ≤ l.getD (k - 1) 0)) : keyStep ow l k st = none := by
  unfold keyStep
  cases ow (l.getD k 0) with
  | none => rfl
  | some a => exact if_pos h
theorem keyStep_first {ow : Int → Option Int} {l : List Int} {st : St × List Int} {a : Int} (h : ow (l.getD 0 0) = some a) (hm : l.getD 0 0 ∉ st.2) : keyStep ow l 0 st = some (st.1, st.2 ++ [l.getD 0 0]) := by
  unfold keyStep; rw [h]; dsimp only; rw [if_neg (by rintro (q | ⟨q, -⟩); exact hm q; omega), if_neg (by omega)]
theorem keyStep_join {ow : Int → Option Int} {l : List Int} {k : Nat} {st : St × List Int} {a b : Int} (hk : 0 < k) (h : ow (l.getD k 0) = some a) (hm : l.getD k 0 ∉ st.2) (hr : l.getD (k - 1) 0 < l.getD k 0) (hb : (ow (l.getD 0 0)).getD 0 = b) (hj : st.1.joins b a = true) : keyStep ow l k st = some (st.1.join b a, st.2 ++ [l.getD k 0]) := by
  unfold keyStep; rw [h]; dsimp only; rw [if_neg (by rintro (q | ⟨-, q⟩); exact hm q; omega), if_pos hk, hb, if_pos hj]
theorem keyStep_not {ow : Int → Option Int} {l : List Int} {k : Nat} {st : St × List Int} {a b : Int} (hk : 0 < k) (h : ow (l.getD k 0) = some a) (hb : (ow (l.getD 0 0)).getD 0 = b) (hj : st.1.joins b a = false) : keyStep ow l k st = none := by
  unfold keyStep; rw [h]; dsimp only
  split
  · rfl
  · rw [hb, hj]; rfl

/-- What keyStep's success says. -/
theorem keyStep_some {ow : Int → Option Int} {l : List Int} {k : Nat} {st d : St × List Int} (h : keyStep ow l k st = some d) :
    ∃ a, ow (l.getD k 0) = some a ∧ l.getD k 0 ∉ st.2 ∧ (0 < k → l.getD (k - 1) 0 < l.getD k 0) ∧ d.2 = st.2 ++ [l.getD k 0] ∧ ((k = 0 ∧ d.1 = st.1) ∨ (0 < k ∧ st.1.joins ((ow (l.getD 0 0)).getD 0) a = true ∧ d.1 = st.1.join ((ow (l.getD 0 0)).getD 0) a)) := by
  unfold keyStep at h
  cases ha : ow (l.getD k 0) with
  | none => rw [ha] at h; cases h
  | some a =>
    rw [ha] at h
    dsimp only at h
    split at h
    · cases h
    · rename_i q
      have q1 : l.getD k 0 ∉ st.2 := fun x => q (Or.inl x)
      have q2 : 0 < k → l.getD (k - 1) 0 < l.getD k 0 := fun x => by
        by_cases y : l.getD k 0 ≤ l.getD (k - 1) 0
        · exact absurd (Or.inr ⟨x, y⟩) q
        · omega
      split at h
      · rename_i hk
        split at h
        · rename_i hj
          cases h
          exact ⟨a, rfl, q1, q2, rfl, Or.inr ⟨hk, hj, rfl⟩⟩
        · cases h
      · rename_i hk
        cases h
        exact ⟨a, rfl, q1, q2, rfl, Or.inl ⟨by omega, rfl⟩⟩

/-- What holds all along: of the groups of numbers below n; the keys met; so many lists done (one more while one is under way). -/
structure PlanOk (ow : Int → Option Int) (n : Nat) (t : Nat) (c : St × List Int) : Prop where
  ok : c.1.Ok
  all : c.1.all = upTo n
  num : c.1.count + c.2.length = n + t
  nodup : c.2.Nodup
  has : ∀ k ∈ c.2, (ow k).isSome = true

theorem mem_upTo {n : Nat} {a : Int} : a ∈ upTo n ↔ 0 ≤ a ∧ a < n := by
  unfold upTo
  rw [List.mem_map]
  constructor
  · rintro ⟨i, hi, rfl⟩; have := List.mem_range.1 hi; omega
  · intro h; exact ⟨a.toNat, List.mem_range.2 (by omega), by omega⟩

theorem St.new_upTo (n : Nat) : St.new (upTo n) = ⟨upTo n, List.range n⟩ := by
  induction n with
  | zero => rfl
  | succ n ih =>
    have e : upTo (n + 1) = upTo n ++ [(n : Int)] := by unfold upTo; rw [List.range_succ, List.map_append]; rfl
    have hn : (n : Int) ∉ upTo n := fun h => by have := mem_upTo.1 h; omega
    unfold St.new at ih ⊢
    rw [e, List.foldl_append, ih]
    show St.put _ _ = _
    rw [St.put_new hn]
    show St.mk _ _ = _
    congr 1
    rw [List.range_succ]
    congr 1
    simp [upTo]

theorem PlanOk.start (ow : Int → Option Int) (n : Nat) : PlanOk ow n 0 (St.new (upTo n), []) := by
  rw [St.new_upTo]
  refine ⟨⟨by simp [upTo], ?_, fun i hi => ?_, fun i hi => ?_⟩, rfl, ?_, List.nodup_nil, by simp⟩
  · show (upTo n).Nodup
    unfold upTo
    exact List.Pairwise.map _ (fun a b hab => by omega) (List.nodup_range (n := n))
  · have hi : i < n := by simpa using hi
    simp [St.hd, List.getD, hi]
  · have hi : i < n := by simpa using hi
    simp [St.hd, List.getD, hi]
  · show List.countP _ _ + 0 = _
    rw [List.length_range, List.countP_eq_length.2 ?_]
    · simp
    · intro i hi
      have hi := List.mem_range.1 hi
      simp [List.getD, hi]

theorem keyStep_ok {ow : Int → Option Int} {n t k : Nat} {l : List Int} {c d : St × List Int} (hb : ∀ y a, ow y = some a → 0 ≤ a ∧ a < n) (h0 : 0 < k → (ow (l.getD 0 0)).isSome = true) (hc : PlanOk ow n t c) (h : keyStep ow l k c = some d) : PlanOk ow n (if k = 0 then t + 1 else t) d := by
  obtain ⟨a, ha, hm, -, e2, e1⟩ := keyStep_some h
  have hnd : d.2.Nodup := by
    rw [e2, List.nodup_append]
    exact ⟨hc.nodup, by simp, fun x hx y hy => by rw [List.mem_singleton.1 hy]; intro q; exact hm (q ▸ hx)⟩
  have hhas : ∀ y ∈ d.2, (ow y).isSome = true := by
    intro y hy
    rw [e2, List.mem_append] at hy
    rcases hy with hy | hy
    · exact hc.has y hy
    · rw [List.mem_singleton.1 hy, ha]; rfl
  have hl : d.2.length = c.2.length + 1 := by rw [e2]; simp
  have hnum := hc.num
  rcases e1 with ⟨hk, e1⟩ | ⟨hk, hj, e1⟩
  · rw [if_pos hk]
    exact ⟨by rw [e1]; exact hc.ok, by rw [e1]; exact hc.all, by rw [e1, hl]; omega, hnd, hhas⟩
  · rw [if_neg (by omega)]
    obtain ⟨b, hob⟩ := Option.isSome_iff_exists.1 (h0 hk)
    rw [hob] at hj e1
    have ma : a ∈ c.1.all := by rw [hc.all, mem_upTo]; exact hb _ _ ha
    have mb : b ∈ c.1.all := by rw [hc.all, mem_upTo]; exact hb _ _ hob
    have hcnt := St.join_count hc.ok mb ma
    have hj : c.1.joins b a = true := hj
    rw [if_pos hj] at hcnt
    have e1 : d.1 = c.1.join b a := e1
    refine ⟨by rw [e1]; exact hc.ok.join _ _, by rw [e1, (St.join_in mb ma).1]; exact hc.all, by rw [e1, hl]; omega, hnd, hhas⟩

theorem listRun_ok {ow : Int → Option Int} {n t : Nat} {l : List Int} {c : St × List Int} (hb : ∀ y a, ow y = some a → 0 ≤ a ∧ a < n) (hc : PlanOk ow n t c) : ∀ k d, listRun ow l c k = some d →
    PlanOk ow n (if k = 0 then t else t + 1) d ∧ d.2 = c.2 ++ (List.range k).map (fun i => l.getD i 0) ∧ (0 < k → (ow (l.getD 0 0)).isSome = true) ∧ (∀ i, i + 1 < k → l.getD i 0 < l.getD (i + 1) 0)
  | 0, d, h => by
    cases h
    exact ⟨hc, by simp, by omega, by omega⟩
  | k + 1, d, h => by
    have h : (listRun ow l c k).bind (keyStep ow l k) = some d := h
    cases hm : listRun ow l c k with
    | none => rw [hm] at h; cases h
    | some m =>
      rw [hm] at h
      have h : keyStep ow l k m = some d := h
      obtain ⟨i1, i2, i3, i4⟩ := listRun_ok hb hc k m hm
      have := keyStep_ok hb i3 i1 h
      obtain ⟨a, ha, -, hr, e2, -⟩ := keyStep_some h
      refine ⟨?_, ?_, ?_, ?_⟩
      · rw [if_neg (by omega)]
        by_cases e : k = 0
        · rw [if_pos e, if_pos e] at this; exact this
        · rw [if_neg e, if_neg e] at this; exact this
      · rw [e2, i2, List.range_succ, List.map_append, List.append_assoc]; rfl
      · intro _
        by_cases e : k = 0
        · rw [← e, ha]; rfl
        · exact i3 (by omega)
      · intro i hi
        by_cases e : i + 1 = k
        · subst e; exact hr (by omega)
        · exact i4 i (by omega)

theorem getD_get (l : List Int) {i : Nat} (h : i < l.length) : l.getD i 0 = l[i] := by simp [List.getD, h]
theorem getD_all (l : List Int) : (List.range l.length).map (fun i => l.getD i 0) = l := by
  apply List.ext_getElem
  · simp
  · intro i h1 h2
    simp [List.getD, h2]

theorem sameRun_ok {ow : Int → Option Int} {n : Nat} {same : List (List Int)} (hb : ∀ y a, ow y = some a → 0 ≤ a ∧ a < n) : ∀ i d, i ≤ same.length → sameRun ow same (St.new (upTo n), []) i = some d →
    PlanOk ow n i d ∧ d.2 = (same.take i).flatten ∧ (∀ j, j < i → ¬ listBad same j ∧ (same.getD j []).Pairwise (· < ·))
  | 0, d, _, h => by
    cases h
    exact ⟨PlanOk.start ow n, by simp, by omega⟩
  | i + 1, d, hi, h => by
    have h : (sameRun ow same (St.new (upTo n), []) i).bind _ = some d := h
    cases hm : sameRun ow same (St.new (upTo n), []) i with
    | none => rw [hm] at h; cases h
    | some m =>
      rw [hm] at h
      have h : (if listBad same i then none else listRun ow (same.getD i []) m (same.getD i []).length) = some d := h
      split at h
      · cases h
      · rename_i hbad
        obtain ⟨i1, i2, i3⟩ := sameRun_ok hb i m (by omega) hm
        obtain ⟨j1, j2, -, j4⟩ := listRun_ok hb i1 _ d h
        have hl : 2 ≤ (same.getD i []).length := by unfold listBad at hbad; omega
        rw [if_neg (by omega)] at j1
        refine ⟨j1, ?_, ?_⟩
        · rw [j2, i2, getD_all, List.take_succ_eq_append_getElem (by omega), List.flatten_append]
          have : same.getD i [] = same[i] := by simp [List.getD, show i < same.length by omega]
          rw [this]; simp
        · intro j hj
          by_cases e : j = i
          · subst e
            refine ⟨hbad, ?_⟩
            rw [List.pairwise_iff_getElem]
            intro a b ha hb' hab
            have mono : ∀ y x, x < y → y < (same.getD j []).length → (same.getD j []).getD x 0 < (same.getD j []).getD y 0 := by
              intro y
              induction y with
              | zero => intro x hx; omega
              | succ y ih =>
                intro x hx hy
                have h1 := j4 y (by omega)
                by_cases e : x = y
                · subst e; exact h1
                · have := ih x (by omega) (by omega); omega
            have := mono b a hab hb'
            rw [getD_get _ ha, getD_get _ hb'] at this
            exact this
          · exact i3 j (by omega)
/-- An owner is the number of a piece. -/
theorem ownerOf_lt {g : Gr} {p : Pt} {turn : List (List Int)} {W : List Face} (hp : PartOk g p) (hW : WalksOk g p turn W) {y a : Int} (h : ownerOf g p W y = some a) : 0 ≤ a ∧ a < (roots g p).length := by
  unfold ownerOf at h
  obtain ⟨f, hf, rfl⟩ := Option.map_eq_some_iff.1 h
  have hm := List.mem_of_find?_eq_some hf
  have hc := corner_mem hp hW.faces f hm
  obtain ⟨r, hr, hcr⟩ := root_of (g := g) (fun v hv => (hp.vr v hv).1) hc
  obtain ⟨i, hi, rfl⟩ := mem_getD hr
  rw [pieceIx_eq hp hi (mem_comp.2 ⟨hc, hcr⟩)]
  omega
theorem ownerOf_some {g : Gr} {p : Pt} {W : List Face} {y : Int} (h : (ownerOf g p W y).isSome = true) : y ∈ W.map (·.1) := by
  unfold ownerOf at h
  rw [Option.isSome_map] at h
  obtain ⟨f, hf⟩ := Option.isSome_iff_exists.1 h
  have h1 := List.mem_of_find?_eq_some hf
  have h2 := List.find?_some hf
  exact List.mem_map.2 ⟨f, h1, of_decide_eq_true h2⟩

theorem planErr_flat {g : Gr} {p : Pt} {turn same : List (List Int)} (h : flatErr g p turn ≠ 0) : planErr g p turn same = flatErr g p turn := if_pos h
theorem planErr_run {g : Gr} {p : Pt} {turn same : List (List Int)} (h : flatErr g p turn = 0) : planErr g p turn same = match sameRun (ownerOf g p (walksOf g p turn)) same (St.new (upTo (roots g p).length), []) same.length with
    | none => 7
    | some c => if 1 < c.1.count then 7 else 0 := if_neg (by simp [h])
/-- What an answer 0 says. -/
theorem planErr_zero {g : Gr} {p : Pt} {turn same : List (List Int)} (h : planErr g p turn same = 0) : flatErr g p turn = 0 ∧ ∃ c, sameRun (ownerOf g p (walksOf g p turn)) same (St.new (upTo (roots g p).length), []) same.length = some c ∧ c.1.count ≤ 1 := by
  by_cases hf : flatErr g p turn = 0
  · rw [planErr_run hf] at h
    refine ⟨hf, ?_⟩
    split at h
    · cases h
    · rename_i c hc
      refine ⟨c, hc, ?_⟩
      split at h
      · cases h
      · omega
  · rw [planErr_flat hf] at h; exact absurd h hf
end Plain
end Go.Proofs.Ytfgbkpbakignhaa
