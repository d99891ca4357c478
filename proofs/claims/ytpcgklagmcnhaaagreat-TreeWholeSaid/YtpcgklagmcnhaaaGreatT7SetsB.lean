/- package sets: contracts of Add, Join, Same, Len, Count, Head. Conditions: an object that stands in memory, with fewer than 2^34 things; any ints. -/
import Derived.Test.YtpcgklagmcnhaaaGreatT7SetsA
import Derived.Deep.RegionHeld3
namespace Go.Proofs.YtpcgklagmcnhaaaGreat
open Go.RowKit Go.Maps
theorem SetsObj.chg {w w' : World} {own own' : List Nat} {pb : Nat} {s : St} (h : SetsObj w pb own s) (hc : Chg own' w w') (hn : ∀ b ∈ own, b ∉ own') : SetsObj w' pb own s := by
 obtain ⟨mb, tv, uv, up, h, rfl⟩ := h
 exact ⟨mb, tv, uv, up, h.chg hc hn, rfl⟩
theorem SetsObj.ok {w : World} {own : List Nat} {pb : Nat} {s : St} (h : SetsObj w pb own s) : s.Ok := by
 obtain ⟨mb, tv, uv, up, h, rfl⟩ := h
 have hl : up.length = s.grp.length := h.up.1
 exact ⟨h.len, h.nodup, fun i hi => (h.up.le i (by omega)).1, fun i hi => h.up.own (by omega)⟩
theorem SetsAt.thing {w : World} {pb mb g cap n : Nat} {uv : Value} {up : List Nat} {s : St} (h : SetsAt w pb mb (.slice (some ⟨g, 0, none⟩) n cap) uv up s) (hn : n = s.all.length) (i : Nat) (hi : i < s.all.length) : w.cell? ⟨g, i, none⟩ = some (.int .i64 (s.all.getD i 0)) := by
 subst hn
 rw [h.things.cellAt i (by omega)]
 grind
theorem root_at (pb mb : Nat) (tv uv : Value) (up : List Nat) (s : St) (i : Nat) (w : World) (hi : i < s.all.length) (h : SetsAt w pb mb tv uv up s) :
  Calls Tryz.prog 162 #[.pointer (some ⟨pb, 0, none⟩), .int .i64 i] w fun e w' => e = .returned (.int .i64 (s.hd i)) ∧ ∃ up', SetsAt w' pb mb tv uv up' s ∧ Chg uv.ownBlock.toList w w' := by
 have hl : up.length = s.all.length := by rw [h.up.1, h.len]
 obtain ⟨g, cap, rfl⟩ := owns_some h.ups (by omega)
 exact (root_any pb mb g cap tv up s i w (by omega) h).mono fun e w' ⟨he, ⟨up', hu, hat, _⟩, hch⟩ => ⟨he, up', hat, hch⟩
theorem root_obj (pb : Nat) (own : List Nat) (s : St) (i : Nat) (w : World) (hi : i < s.all.length) (h : SetsObj w pb own s) :
  Calls Tryz.prog 162 #[.pointer (some ⟨pb, 0, none⟩), .int .i64 i] w fun e w' => e = .returned (.int .i64 (s.hd i)) ∧ Turn w pb own w' s := by
 obtain ⟨mb, tv, uv, up, h, rfl⟩ := h
 have hl : up.length = s.all.length := by rw [h.up.1, h.len]
 obtain ⟨g, cap, rfl⟩ := owns_some h.ups (by omega)
 refine (root_any pb mb g cap tv up s i w (by omega) h).mono fun e w' ⟨he, ⟨up', hu, hat, _⟩, hch⟩ => ⟨he, SetsAt.blocks pb mb tv (.slice (some ⟨g, 0, none⟩) up.length cap), ⟨mb, tv, _, up', hat, rfl⟩, ?_, fun j hj => Or.inl hj⟩
 exact hch.mono (fun j hj => Or.inl (by simp at hj; subst hj; simp [SetsAt.blocks, Value.ownBlock]))
theorem add_any (pb : Nat) (own : List Nat) (s : St) (x : Int) (w : World) (hx : I64 x) (hn : s.all.length < 34359738368) (h : SetsObj w pb own s) :
  Calls Tryz.prog 124 #[.pointer (some ⟨pb, 0, none⟩), .int .i64 x] w fun e w' => e = .returned (.bool (decide (x ∉ s.all))) ∧ Turn w pb own w' (s.put x) := by
 go_enter Tryz.func124, Tryz.ntmps124
 go_wp2_with fail
 refine (can_any pb own s x _ hx h).mono ?_
 rintro e w1 ⟨rfl, hc1⟩
 have h1 := h.chg hc1 (by simp)
 obtain ⟨mb, tv, uv, up, h1', -⟩ := id h1
 obtain ⟨ao, cap0, rfl⟩ := owns_shape h1'.things
 have c1 := h1'.c1
 clear h1'
 go_wp2_with fail
 refine (put_any pb own s x _ hx hn h1).mono ?_
 rintro e w2 ⟨rfl, ht⟩
 have HT := Lib.hid (ht.behind hc1)
 clear ht c1
 go_wp2
 go_ret
 refine ⟨ret_bool ?_, HT.out⟩
 all_goals grind [St.put_in, St.put_new, idxOf_snoc]
theorem join_close {pb mb g cap : Nat} {tv : Value} {up : List Nat} {s : St} {w : World} {n : Nat} (h : SetsAt w pb mb tv (.slice (some ⟨g, 0, none⟩) n cap) up s) (hn : n = up.length) {i j : Nat} (hi : i < up.length) (hj : j < up.length) (ei : s.hd i = i) (ej : s.hd j = j) (ne : i ≠ j) :
  SetsAt ((w.setCell ⟨g, max i j, none⟩ (.int .i64 ((min i j : Nat) : Int))).setCell ⟨pb, 3, none⟩ (.int .i64 ((s.count : Int) - 1))) pb mb tv (.slice (some ⟨g, 0, none⟩) n cap) (up.set (max i j) (min i j)) ⟨s.all, relabel s.grp i j⟩ := by
 obtain ⟨n1, n2, n3⟩ := h.upNe
 subst hn
 have hl : up.length = s.grp.length := h.up.1
 have ei' : up.getD i 0 = i := by have := (h.up.le i hi).2; rwa [show s.grp.getD i 0 = i from ei] at this
 have ej' : up.getD j 0 = j := by have := (h.up.le j hj).2; rwa [show s.grp.getD j 0 = j from ej] at this
 have hs := h.ups.stored (max i j) (.int .i64 ((min i j : Nat) : Int))
 have hg := hs.2
 have hc1 : (w.setCell ⟨g, max i j, none⟩ (.int .i64 ((min i j : Nat) : Int))).heap[pb]? = _ := (Below.heap_setCell _ _ _ _ (by grind)).trans h.cells
 have hch : Chg [pb] (w.setCell ⟨g, max i j, none⟩ (.int .i64 ((min i j : Nat) : Int))) ((w.setCell ⟨g, max i j, none⟩ (.int .i64 ((min i j : Nat) : Int))).setCell ⟨pb, 3, none⟩ (.int .i64 ((s.count : Int) - 1))) := (Chg.refl _ _).setCell (by simp) _
 have hct := St.count_relabel (all := s.all) (by omega : i < s.grp.length) (by omega : j < s.grp.length) ei ej ne
 refine ⟨?_, ?_, ?_, ?_, h.apart, h.up.join hi hj ei' ej' ne, by simp [relabel, h.len], h.nodup, h.small⟩
 ·rw [heap_setCell_same hc1]
  have : ((s.count : Int) - 1) = ((St.count ⟨s.all, relabel s.grp i j⟩ : Nat) : Int) := by
   have e : s.count = St.count ⟨s.all, s.grp⟩ := rfl
   omega
  rw [this]; rfl
 ·exact (h.map.kept hg (by grind)).chg hch (by simpa using (h.map.ne h.cells).symm)
 ·refine owns_chg (h.things.kept hg (Or.inr n3)) hch (fun b hb e => ?_)
  simp at e
  subst e
  obtain ⟨g', cap, cur, rfl, -, hg, -⟩ := h.things.2.resolve_left (by rintro ⟨rfl, _⟩; simp [Value.ownBlock] at hb)
  simp [Value.ownBlock] at hb
  rw [hb, h.cells] at hg
  simp at hg
 refine owns_chg ?_ hch (by simpa [Value.ownBlock] using n1)
 have := hs.1
 rw [List.length_set, List.map_set]
 exact this
theorem join_any (pb : Nat) (own : List Nat) (s : St) (x y : Int) (w : World) (hx : I64 x) (hy : I64 y) (hn : s.all.length < 17179869184) (h : SetsObj w pb own s) :
  Calls Tryz.prog 125 #[.pointer (some ⟨pb, 0, none⟩), .int .i64 x, .int .i64 y] w fun e w' => e = .returned (.bool (s.joins x y)) ∧ Turn w pb own w' (s.join x y) := by
 go_enter Tryz.func125, Tryz.ntmps125
 go_wp2_with fail
 refine (can_any pb own s x _ hx h).mono ?_
 rintro e w1 ⟨rfl, hc1⟩
 have h1 := h.chg hc1 (by simp)
 go_wp2_with fail
 refine (can_any pb own s y _ hy h1).mono ?_
 rintro e w2 ⟨rfl, hc2⟩
 have h2 := h1.chg hc2 (by simp)
 have hl1 := s.len_put x
 have hl2 := (s.put x).len_put y
 go_wp2_with fail
 refine (put_any pb own s x _ hx (by omega) h2).mono ?_
 rintro e w3 ⟨rfl, own3, h3, hc3, hs3⟩
 go_wp2_with fail
 refine (put_any pb own3 (s.put x) y _ hy (by omega) h3).mono ?_
 rintro e w4 ⟨rfl, own4, h4, hc4, hs4⟩
 have HI := Lib.hid (St.idx_put_of (s := s.put x) y (s.mem_put x))
 have hi : (s.put x).all.idxOf x < ((s.put x).put y).all.length := by rw [← HI.out]; exact List.idxOf_lt_length_iff.2 (St.mem_put_of y (s.mem_put x))
 have hj : ((s.put x).put y).all.idxOf y < ((s.put x).put y).all.length := List.idxOf_lt_length_iff.2 (St.mem_put _ _)
 have hb : ((s.put x).put y).all.length ≤ 17179869186 := by omega
 have HJ := Lib.hid (s.joins_eq x y)
 have HK := Lib.hid (s.join_eq x y)
 generalize (s.put x).all.idxOf x = i at *
 generalize ((s.put x).put y).all.idxOf y = j at *
 generalize (s.put x).put y = t at *
 clear h h1 h2 h3 hl1 hl2 HI
 go_wp2_with fail
 refine (root_obj pb own4 t i _ hi h4).mono ?_
 rintro e w5 ⟨rfl, own5, h5, hc5, hs5⟩
 go_wp2_with fail
 refine (root_obj pb own5 t j _ hj h5).mono ?_
 rintro e w6 ⟨rfl, own6, h6, hc6, hs6⟩
 have HT : Hid (∀ w' t', Turn w6 pb own6 w' t' → Turn w pb own w' t') := fun w' t' k => (((((k.comp hc6 hs6).comp hc5 hs5).comp hc4 hs4).comp hc3 hs3).behind hc2).behind hc1
 clear hc1 hc2 hc3 hc4 hc5 hc6 hs3 hs4 hs5 hs6 h4 h5
 have hok := h6.ok
 have hi' := hok.le i (by rw [← hok.len]; exact hi)
 have hj' := hok.le j (by rw [← hok.len]; exact hj)
 have HP := Lib.hid (hok.own i (by rw [← hok.len]; exact hi))
 have HQ := Lib.hid (hok.own j (by rw [← hok.len]; exact hj))
 have hp : t.hd i < t.all.length := by omega
 have hq : t.hd j < t.all.length := by omega
 clear hi hj hi' hj' hok
 generalize t.hd i = p at *
 generalize t.hd j = q at *
 by_cases e : p = q
 ·subst e
  go_wp2
  go_ret
  exact ⟨ret_bool (by rw [HJ.out]; simp), by rw [HK.out, relabel_self]; exact HT.out _ _ (Turn.refl h6)⟩
 have e2 : (((p : Nat) : Int) == ((q : Nat) : Int)) = false := by rw [beq_eq_false_iff_ne]; omega
 obtain ⟨mb, tv, uv, up, h6', rfl⟩ := h6
 have hul : up.length = t.all.length := by rw [h6'.up.1, h6'.len]
 obtain ⟨g, cap, rfl⟩ := owns_some h6'.ups (by omega)
 have c2 := h6'.c2
 have c3 := h6'.c3
 have f3 := h6'.free 3
 have hne := h6'.upNe.1
 have hcl := t.count_le
 have hln := h6'.len
 have hcn : t.count ≤ 34359738368 := by omega
 have HC := Lib.hid (join_close h6' rfl (i := p) (j := q) (by omega) (by omega) HP.out HQ.out e)
 have HH := Lib.hid h6'
 have hpu : p < up.length := by omega
 have hqu : q < up.length := by omega
 have n1 : g ∈ SetsAt.blocks pb mb tv (.slice (some ⟨g, 0, none⟩) up.length cap) := by simp [SetsAt.blocks, Value.ownBlock]
 have n2 : pb ∈ SetsAt.blocks pb mb tv (.slice (some ⟨g, 0, none⟩) up.length cap) := by simp [SetsAt.blocks]
 clear hcl hln
 rcases Nat.lt_or_gt_of_ne e with hlt | hlt
 ·have cq := h6'.upCell rfl q (by omega)
  have fq := h6'.upFree rfl q
  have HC2 := HC.out
  rw [Nat.max_eq_right (by omega), Nat.min_eq_left (by omega)] at HC2
  have HC3 := Lib.hid HC2
  clear h6' hul HC2 HC
  go_wp2
  go_ret
  exact ⟨ret_bool (by rw [HJ.out]; simpa using e), by rw [HK.out]; exact HT.out _ _ ⟨_, ⟨mb, tv, _, _, HC3.out, rfl⟩, ((Chg.refl _ _).setCell (Or.inl n1) _).setCell (Or.inl n2) _, fun _ hj => Or.inl hj⟩⟩
 have cq := h6'.upCell rfl p (by omega)
 have fq := h6'.upFree rfl p
 have HC2 := HC.out
 rw [Nat.max_eq_left (by omega), Nat.min_eq_right (by omega)] at HC2
 have HC3 := Lib.hid HC2
 clear h6' hul HC2 HC
 go_wp2
 go_ret
 exact ⟨ret_bool (by rw [HJ.out]; simpa using e), by rw [HK.out]; exact HT.out _ _ ⟨_, ⟨mb, tv, _, _, HC3.out, rfl⟩, ((Chg.refl _ _).setCell (Or.inl n1) _).setCell (Or.inl n2) _, fun _ hj => Or.inl hj⟩⟩
end Go.Proofs.YtpcgklagmcnhaaaGreat
