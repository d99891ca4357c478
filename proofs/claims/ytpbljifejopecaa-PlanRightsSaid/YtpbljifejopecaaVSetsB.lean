/- package sets: contracts of Add, Join, Same, Len, Count, Head. Conditions: an object that stands in memory, with fewer than 2^34 things; any ints. -/
import Derived.Test.YtpbljifejopecaaVSetsA
import Derived.Deep.RegionHeld3
import Derived.Test.YtpbljifejopecaaVRows2
import Derived.Deep.DeepCutAuto
import Derived.Deep.RegionLaw
namespace Go.Proofs.Ytpbljifejopecaa
open Go.RowKit Go.Maps

theorem SetsObj.chg {w w' : World} {own own' : List Nat} {pb : Nat} {s : St} (h : SetsObj w pb own s) (hc : Chg own' w w') (hn : ∀ b ∈ own, b ∉ own') : SetsObj w' pb own s := by
  obtain ⟨mb, tv, uv, up, h, rfl⟩ := h
  exact ⟨mb, tv, uv, up, h.chg hc hn, rfl⟩

theorem SetsObj.ok {w : World} {own : List Nat} {pb : Nat} {s : St} (h : SetsObj w pb own s) : s.Ok := by
  obtain ⟨mb, tv, uv, up, h, rfl⟩ := h
  have hl : up.length = s.grp.length := h.up.1
  exact ⟨h.len, h.nodup, fun i hi => (h.up.le i (by omega)).1, fun i hi => h.up.own (by omega)⟩

theorem SetsObj.fresh {w w' : World} {own : List Nat} {pb : Nat} {s : St} (h : SetsObj w pb own s) (hc : Chg [] w w') : Turn w pb own w' s := ⟨own, h.chg hc (by simp), hc.mono (by simp), fun _ hj => Or.inl hj⟩

theorem SetsAt.thing {w : World} {pb mb g cap n : Nat} {uv : Value} {up : List Nat} {s : St} (h : SetsAt w pb mb (.slice (some ⟨g, 0, none⟩) n cap) uv up s) (hn : n = s.all.length) (i : Nat) (hi : i < s.all.length) : w.cell? ⟨g, i, none⟩ = some (.int .i64 (s.all.getD i 0)) := by
  subst hn
  rw [h.things.cellAt i (by omega)]
  simp [List.getD, hi]

/-- root, its lists named. -/
theorem root_at (pb mb : Nat) (tv uv : Value) (up : List Nat) (s : St) (i : Nat) (w : World) (hi : i < s.all.length) (h : SetsAt w pb mb tv uv up s) :
    Calls Try.prog 102 #[.pointer (some ⟨pb, 0, none⟩), .int .i64 i] w fun e w' => e = .returned (.int .i64 (s.hd i)) ∧ ∃ up', SetsAt w' pb mb tv uv up' s ∧ Chg uv.ownBlock.toList w w' := by
  have hl : up.length = s.all.length := by rw [h.up.1, h.len]
  obtain ⟨g, cap, rfl⟩ := owns_some h.ups (by omega)
  exact (root_any pb mb g cap tv up s i w (by omega) h).mono fun e w' ⟨he, ⟨up', hu, hat, _⟩, hch⟩ => ⟨he, up', hat, hch⟩

/-- root, of an object. -/
theorem root_obj (pb : Nat) (own : List Nat) (s : St) (i : Nat) (w : World) (hi : i < s.all.length) (h : SetsObj w pb own s) :
    Calls Try.prog 102 #[.pointer (some ⟨pb, 0, none⟩), .int .i64 i] w fun e w' => e = .returned (.int .i64 (s.hd i)) ∧ Turn w pb own w' s := by
  obtain ⟨mb, tv, uv, up, h, rfl⟩ := h
  have hl : up.length = s.all.length := by rw [h.up.1, h.len]
  obtain ⟨g, cap, rfl⟩ := owns_some h.ups (by omega)
  refine (root_any pb mb g cap tv up s i w (by omega) h).mono fun e w' ⟨he, ⟨up', hu, hat, _⟩, hch⟩ => ⟨he, SetsAt.blocks pb mb tv (.slice (some ⟨g, 0, none⟩) up.length cap), ⟨mb, tv, _, up', hat, rfl⟩, ?_, fun j hj => Or.inl hj⟩
  exact hch.mono (fun j hj => Or.inl (by simp at hj; subst hj; simp [SetsAt.blocks, Value.ownBlock]))

theorem count_any (pb : Nat) (own : List Nat) (s : St) (w : World) (h : SetsObj w pb own s) :
    Calls Try.prog 60 #[.pointer (some ⟨pb, 0, none⟩)] w fun e w' => e = .returned (.int .i64 (s.count : Int)) ∧ w = w' := by
  obtain ⟨mb, tv, uv, up, h, rfl⟩ := h
  have c3 := h.c3
  clear h
  go_enter Try.func60, Try.ntmps60
  go_wp2
  go_ret
  exact ⟨rfl, rfl⟩

theorem count_nil (w : World) : Calls Try.prog 60 #[.pointer none] w fun e w' => e = .returned (.int .i64 0) ∧ w = w' := by
  go_enter Try.func60, Try.ntmps60
  go_wp2
  go_ret
  exact ⟨rfl, rfl⟩

theorem add_any (pb : Nat) (own : List Nat) (s : St) (x : Int) (w : World) (hx : I64 x) (hn : s.all.length < 34359738368) (h : SetsObj w pb own s) :
    Calls Try.prog 58 #[.pointer (some ⟨pb, 0, none⟩), .int .i64 x] w fun e w' => e = .returned (.bool (decide (x ∉ s.all))) ∧ Turn w pb own w' (s.put x) := by
  go_enter Try.func58, Try.ntmps58
  go_wp2_with fail
  refine (can_any pb own s x _ hx h).mono ?_
  rintro e w1 ⟨rfl, hc1⟩
  have h1 := h.chg hc1 (by simp)
  obtain ⟨mb, tv, uv, up, h1', -⟩ := id h1
  obtain ⟨ao, cap0, rfl⟩ := owns_shape h1'.things
  have c1 := h1'.c1
  clear h1'
  go_wp2_with fail
  refine (put_any pb own s x _ hx hn h1).mono ?_
  rintro e w2 ⟨rfl, ht⟩
  have HT := Lib.hid (ht.behind hc1)
  clear ht c1
  go_wp2
  go_ret
  refine ⟨ret_bool ?_, HT.out⟩
  by_cases hin : x ∈ s.all
  · rw [St.put_in hin]
    have := List.idxOf_lt_length_iff.2 hin
    simp [hin]; omega
  · rw [St.put_new hin]
    simp only
    rw [idxOf_snoc hin]
    simp [hin]

theorem add_nil (x : Int) (w : World) : Calls Try.prog 58 #[.pointer none, .int .i64 x] w fun e w' => e = .returned (.bool false) ∧ Chg [] w w' := by
  go_enter Try.func58, Try.ntmps58
  go_wp2_with fail
  refine (can_nil x _).mono ?_
  rintro e w1 ⟨rfl, hc1⟩
  go_wp2
  go_ret
  exact ⟨rfl, hc1⟩

/-- Behind a Join that joins. -/
theorem join_close {pb mb g cap : Nat} {tv : Value} {up : List Nat} {s : St} {w : World} {n : Nat} (h : SetsAt w pb mb tv (.slice (some ⟨g, 0, none⟩) n cap) up s) (hn : n = up.length) {i j : Nat} (hi : i < up.length) (hj : j < up.length) (ei : s.hd i = i) (ej : s.hd j = j) (ne : i ≠ j) :
    SetsAt ((w.setCell ⟨g, max i j, none⟩ (.int .i64 ((min i j : Nat) : Int))).setCell ⟨pb, 3, none⟩ (.int .i64 ((s.count : Int) - 1))) pb mb tv (.slice (some ⟨g, 0, none⟩) n cap) (up.set (max i j) (min i j)) ⟨s.all, relabel s.grp i j⟩ := by
  obtain ⟨n1, n2, n3⟩ := h.upNe
  subst hn
  have hl : up.length = s.grp.length := h.up.1
  have ei' : up.getD i 0 = i := by have := (h.up.le i hi).2; rwa [show s.grp.getD i 0 = i from ei] at this
  have ej' : up.getD j 0 = j := by have := (h.up.le j hj).2; rwa [show s.grp.getD j 0 = j from ej] at this
  have hs := h.ups.stored (max i j) (.int .i64 ((min i j : Nat) : Int))
  have hg := hs.2
  have hc1 : (w.setCell ⟨g, max i j, none⟩ (.int .i64 ((min i j : Nat) : Int))).heap[pb]? = _ := (Below.heap_setCell _ _ _ _ (by simpa using Ne.symm n1)).trans h.cells
  have hch : Chg [pb] (w.setCell ⟨g, max i j, none⟩ (.int .i64 ((min i j : Nat) : Int))) ((w.setCell ⟨g, max i j, none⟩ (.int .i64 ((min i j : Nat) : Int))).setCell ⟨pb, 3, none⟩ (.int .i64 ((s.count : Int) - 1))) := (Chg.refl _ _).setCell (by simp) _
  have hct := St.count_relabel (all := s.all) (by omega : i < s.grp.length) (by omega : j < s.grp.length) ei ej ne
  refine ⟨?_, ?_, ?_, ?_, h.apart, h.up.join hi hj ei' ej' ne, by simp [relabel, h.len], h.nodup, h.small⟩
  · rw [heap_setCell_same hc1]
    have : ((s.count : Int) - 1) = ((St.count ⟨s.all, relabel s.grp i j⟩ : Nat) : Int) := by
      have e : s.count = St.count ⟨s.all, s.grp⟩ := rfl
      omega
    rw [this]; rfl
  · exact (h.map.kept hg (by simpa using Ne.symm n2)).chg hch (by simpa using (h.map.ne h.cells).symm)
  · refine owns_chg (h.things.kept hg (Or.inr n3)) hch (fun b hb e => ?_)
    simp at e
    subst e
    obtain ⟨g', cap, cur, rfl, -, hg, -⟩ := h.things.2.resolve_left (by rintro ⟨rfl, _⟩; simp [Value.ownBlock] at hb)
    simp [Value.ownBlock] at hb
    rw [hb, h.cells] at hg
    simp at hg
  · refine owns_chg ?_ hch (by simpa [Value.ownBlock] using n1)
    have := hs.1
    rw [List.length_set, List.map_set]
    exact this

theorem join_any (pb : Nat) (own : List Nat) (s : St) (x y : Int) (w : World) (hx : I64 x) (hy : I64 y) (hn : s.all.length < 17179869184) (h : SetsObj w pb own s) :
    Calls Try.prog 59 #[.pointer (some ⟨pb, 0, none⟩), .int .i64 x, .int .i64 y] w fun e w' => e = .returned (.bool (s.joins x y)) ∧ Turn w pb own w' (s.join x y) := by
  go_enter Try.func59, Try.ntmps59
  go_wp2_with fail
  refine (can_any pb own s x _ hx h).mono ?_
  rintro e w1 ⟨rfl, hc1⟩
  have h1 := h.chg hc1 (by simp)
  go_wp2_with fail
  refine (can_any pb own s y _ hy h1).mono ?_
  rintro e w2 ⟨rfl, hc2⟩
  have h2 := h1.chg hc2 (by simp)
  have hl1 := s.len_put x
  have hl2 := (s.put x).len_put y
  go_wp2_with fail
  refine (put_any pb own s x _ hx (by omega) h2).mono ?_
  rintro e w3 ⟨rfl, own3, h3, hc3, hs3⟩
  go_wp2_with fail
  refine (put_any pb own3 (s.put x) y _ hy (by omega) h3).mono ?_
  rintro e w4 ⟨rfl, own4, h4, hc4, hs4⟩
  have HI := Lib.hid (St.idx_put_of (s := s.put x) y (s.mem_put x))
  have hi : (s.put x).all.idxOf x < ((s.put x).put y).all.length := by rw [← HI.out]; exact List.idxOf_lt_length_iff.2 (St.mem_put_of y (s.mem_put x))
  have hj : ((s.put x).put y).all.idxOf y < ((s.put x).put y).all.length := List.idxOf_lt_length_iff.2 (St.mem_put _ _)
  have hb : ((s.put x).put y).all.length ≤ 17179869186 := by omega
  have HJ := Lib.hid (s.joins_eq x y)
  have HK := Lib.hid (s.join_eq x y)
  generalize (s.put x).all.idxOf x = i at *
  generalize ((s.put x).put y).all.idxOf y = j at *
  generalize (s.put x).put y = t at *
  clear h h1 h2 h3 hl1 hl2 HI
  go_wp2_with fail
  refine (root_obj pb own4 t i _ hi h4).mono ?_
  rintro e w5 ⟨rfl, own5, h5, hc5, hs5⟩
  go_wp2_with fail
  refine (root_obj pb own5 t j _ hj h5).mono ?_
  rintro e w6 ⟨rfl, own6, h6, hc6, hs6⟩
  have HT : Hid (∀ w' t', Turn w6 pb own6 w' t' → Turn w pb own w' t') := fun w' t' k => (((((k.comp hc6 hs6).comp hc5 hs5).comp hc4 hs4).comp hc3 hs3).behind hc2).behind hc1
  clear hc1 hc2 hc3 hc4 hc5 hc6 hs3 hs4 hs5 hs6 h4 h5
  have hok := h6.ok
  have hi' := hok.le i (by rw [← hok.len]; exact hi)
  have hj' := hok.le j (by rw [← hok.len]; exact hj)
  have HP := Lib.hid (hok.own i (by rw [← hok.len]; exact hi))
  have HQ := Lib.hid (hok.own j (by rw [← hok.len]; exact hj))
  have hp : t.hd i < t.all.length := by omega
  have hq : t.hd j < t.all.length := by omega
  clear hi hj hi' hj' hok
  generalize t.hd i = p at *
  generalize t.hd j = q at *
  by_cases e : p = q
  · subst e
    go_wp2
    go_ret
    exact ⟨ret_bool (by rw [HJ.out]; simp), by rw [HK.out, relabel_self]; exact HT.out _ _ (Turn.refl h6)⟩
  · have e2 : (((p : Nat) : Int) == ((q : Nat) : Int)) = false := by rw [beq_eq_false_iff_ne]; omega
    obtain ⟨mb, tv, uv, up, h6', rfl⟩ := h6
    have hul : up.length = t.all.length := by rw [h6'.up.1, h6'.len]
    obtain ⟨g, cap, rfl⟩ := owns_some h6'.ups (by omega)
    have c2 := h6'.c2
    have c3 := h6'.c3
    have f3 := h6'.free 3
    have hne := h6'.upNe.1
    have hcl := t.count_le
    have hln := h6'.len
    have hcn : t.count ≤ 34359738368 := by omega
    have HC := Lib.hid (join_close h6' rfl (i := p) (j := q) (by omega) (by omega) HP.out HQ.out e)
    have HH := Lib.hid h6'
    have hpu : p < up.length := by omega
    have hqu : q < up.length := by omega
    have n1 : g ∈ SetsAt.blocks pb mb tv (.slice (some ⟨g, 0, none⟩) up.length cap) := by simp [SetsAt.blocks, Value.ownBlock]
    have n2 : pb ∈ SetsAt.blocks pb mb tv (.slice (some ⟨g, 0, none⟩) up.length cap) := by simp [SetsAt.blocks]
    clear hcl hln
    rcases Nat.lt_or_gt_of_ne e with hlt | hlt
    · have cq := h6'.upCell rfl q (by omega)
      have fq := h6'.upFree rfl q
      have HC2 := HC.out
      rw [Nat.max_eq_right (by omega), Nat.min_eq_left (by omega)] at HC2
      have HC3 := Lib.hid HC2
      clear h6' hul HC2 HC
      go_wp2
      go_ret
      exact ⟨ret_bool (by rw [HJ.out]; simpa using e), by rw [HK.out]; exact HT.out _ _ ⟨_, ⟨mb, tv, _, _, HC3.out, rfl⟩, ((Chg.refl _ _).setCell (Or.inl n1) _).setCell (Or.inl n2) _, fun _ hj => Or.inl hj⟩⟩
    · have cq := h6'.upCell rfl p (by omega)
      have fq := h6'.upFree rfl p
      have HC2 := HC.out
      rw [Nat.max_eq_left (by omega), Nat.min_eq_right (by omega)] at HC2
      have HC3 := Lib.hid HC2
      clear h6' hul HC2 HC
      go_wp2
      go_ret
      exact ⟨ret_bool (by rw [HJ.out]; simpa using e), by rw [HK.out]; exact HT.out _ _ ⟨_, ⟨mb, tv, _, _, HC3.out, rfl⟩, ((Chg.refl _ _).setCell (Or.inl n1) _).setCell (Or.inl n2) _, fun _ hj => Or.inl hj⟩⟩

theorem join_nil (x y : Int) (w : World) : Calls Try.prog 59 #[.pointer none, .int .i64 x, .int .i64 y] w fun e w' => e = .returned (.bool false) ∧ Chg [] w w' := by
  go_enter Try.func59, Try.ntmps59
  go_wp2_with fail
  refine (can_nil x _).mono ?_
  rintro e w1 ⟨rfl, hc1⟩
  go_wp2
  go_ret
  exact ⟨rfl, hc1⟩

theorem same_nil (x y : Int) (w : World) : Calls Try.prog 115 #[.pointer none, .int .i64 x, .int .i64 y] w fun e w' => e = .returned (.bool false) ∧ Chg [] w w' := by
  go_enter Try.func115, Try.ntmps115
  go_wp2_with fail
  refine (can_nil x _).mono ?_
  rintro e w1 ⟨rfl, hc1⟩
  go_wp2
  go_ret
  exact ⟨rfl, hc1⟩

theorem head_nil (x : Int) (w : World) : Calls Try.prog 76 #[.pointer none, .int .i64 x] w fun e w' => e = .returned (.tuple #[.int .i64 0, .bool false]) ∧ Chg [] w w' := by
  go_enter Try.func76, Try.ntmps76
  go_wp2_with fail
  refine (can_nil x _).mono ?_
  rintro e w1 ⟨rfl, hc1⟩
  go_wp2
  go_ret2
  exact ⟨rfl, hc1⟩

/-- The facts that Same and Head read. -/
theorem SetsObj.look {w : World} {own : List Nat} {pb : Nat} {s : St} (h : SetsObj w pb own s) : ∃ mb ao cap, w.cell? ⟨pb, 0, none⟩ = some (.map (some mb)) ∧ IMap w mb s.all.length (pos s.all) ∧ w.cell? ⟨pb, 1, none⟩ = some (.slice ao s.all.length cap) ∧
    w.ownsRow 0 3 1 (.slice ao s.all.length cap) s.all.length (s.all.map (Value.int .i64)) := by
  obtain ⟨mb, tv, uv, up, h, -⟩ := h
  obtain ⟨ao, cap, rfl⟩ := owns_shape h.things
  exact ⟨mb, ao, cap, h.c0, h.map, h.c1, h.things⟩

theorem same_any (pb : Nat) (own : List Nat) (s : St) (x y : Int) (w : World) (hx : I64 x) (hy : I64 y) (h : SetsObj w pb own s) :
    Calls Try.prog 115 #[.pointer (some ⟨pb, 0, none⟩), .int .i64 x, .int .i64 y] w fun e w' => e = .returned (.bool (s.same x y)) ∧ Turn w pb own w' s := by
  go_enter Try.func115, Try.ntmps115
  go_wp2_with fail
  refine (can_any pb own s x _ hx h).mono ?_
  rintro e w1 ⟨rfl, hc1⟩
  have h1 := h.chg hc1 (by simp)
  go_wp2_with fail
  refine (can_any pb own s y _ hy h1).mono ?_
  rintro e w2 ⟨rfl, hc2⟩
  have h2 := h1.chg hc2 (by simp)
  have HT : Hid (∀ w' t', Turn w2 pb own w' t' → Turn w pb own w' t') := fun w' t' k => (k.behind hc2).behind hc1
  clear hc1 hc2 h h1
  obtain ⟨mb, ao, cap, c0, hm, -, -⟩ := h2.look
  by_cases hix : x ∈ s.all
  · have hpx := Lib.hid (pos_some hix)
    have hi := List.idxOf_lt_length_iff.2 hix
    by_cases hiy : y ∈ s.all
    · have hpy := Lib.hid (pos_some hiy)
      have hj := List.idxOf_lt_length_iff.2 hiy
      have HS : Hid (s.same x y = (s.hd (s.all.idxOf x) == s.hd (s.all.idxOf y))) := by show _ = _; simp [St.same, hix, hiy]
      clear hix hiy
      generalize s.all.idxOf x = i at *
      generalize s.all.idxOf y = j at *
      go_wp2_with (first
        | (at_lookup; refine wp_look_hit _ rfl (.tmp 25) (.tmp 26) rfl hm rfl hx rfl hpx ?_)
        | (at_lookup; refine wp_look_hit _ rfl (.tmp 34) (.tmp 35) rfl hm rfl hy rfl hpy ?_))
      refine (root_obj pb own s i _ hi h2).mono ?_
      rintro e w5 ⟨rfl, own5, h5, hc5, hs5⟩
      go_wp2_with fail
      refine (root_obj pb own5 s j _ hj h5).mono ?_
      rintro e w6 ⟨rfl, ht⟩
      have HT2 := Lib.hid (HT.out _ _ (ht.comp hc5 hs5))
      clear ht hc5 hs5
      go_wp2
      go_ret
      refine ⟨ret_bool ?_, HT2.out⟩
      rw [HS.out]
      exact beq_cast _ _
    · have hpy := Lib.hid (pos_none hiy)
      have HS : Hid (s.same x y = false) := by show _ = _; simp [St.same, hiy]
      clear hix hiy
      go_wp2_with (first
        | (at_lookup; refine wp_look_hit _ rfl (.tmp 25) (.tmp 26) rfl hm rfl hx rfl hpx ?_)
        | (at_lookup; refine wp_look_miss _ rfl (.tmp 34) (.tmp 35) rfl hm rfl hy rfl hpy ?_))
      go_ret
      exact ⟨ret_bool HS.out.symm, HT.out _ _ (Turn.refl h2)⟩
  · have hpx := Lib.hid (pos_none hix)
    have HS : Hid (s.same x y = false) := by show _ = _; simp [St.same, hix]
    clear hix
    by_cases hiy : y ∈ s.all
    · have hpy := Lib.hid (pos_some hiy)
      clear hiy
      go_wp2_with (first
        | (at_lookup; refine wp_look_miss _ rfl (.tmp 25) (.tmp 26) rfl hm rfl hx rfl hpx ?_)
        | (at_lookup; refine wp_look_hit _ rfl (.tmp 34) (.tmp 35) rfl hm rfl hy rfl hpy ?_))
      go_ret
      exact ⟨ret_bool HS.out.symm, HT.out _ _ (Turn.refl h2)⟩
    · have hpy := Lib.hid (pos_none hiy)
      clear hiy
      go_wp2_with (first
        | (at_lookup; refine wp_look_miss _ rfl (.tmp 25) (.tmp 26) rfl hm rfl hx rfl hpx ?_)
        | (at_lookup; refine wp_look_miss _ rfl (.tmp 34) (.tmp 35) rfl hm rfl hy rfl hpy ?_))
      go_ret
      exact ⟨ret_bool HS.out.symm, HT.out _ _ (Turn.refl h2)⟩

/-- The thing of x's group that came first. -/
def St.head (s : St) (x : Int) : Int := s.all.getD (s.hd (s.all.idxOf x)) 0

theorem head_miss (pb : Nat) (own : List Nat) (s : St) (x : Int) (w : World) (hx : I64 x) (hin : x ∉ s.all) (h : SetsObj w pb own s) :
    Calls Try.prog 76 #[.pointer (some ⟨pb, 0, none⟩), .int .i64 x] w fun e w' => e = .returned (.tuple #[.int .i64 0, .bool false]) ∧ Turn w pb own w' s := by
  go_enter Try.func76, Try.ntmps76
  go_wp2_with fail
  refine (can_any pb own s x _ hx h).mono ?_
  rintro e w1 ⟨rfl, hc1⟩
  have h1 := h.chg hc1 (by simp)
  have HT := Lib.hid ((Turn.refl h1).behind hc1)
  obtain ⟨mb, ao, cap, c0, hm, -, -⟩ := h1.look
  have hp := Lib.hid (pos_none hin)
  clear hin h h1
  go_wp2_with (at_lookup; refine wp_look_miss _ rfl _ _ rfl hm rfl hx rfl hp ?_)
  go_ret2
  exact ⟨rfl, HT.out⟩

theorem head_hit (pb : Nat) (own : List Nat) (s : St) (x : Int) (w : World) (hx : I64 x) (hin : x ∈ s.all) (hn : s.all.length < 17179869184) (h : SetsObj w pb own s) :
    Calls Try.prog 76 #[.pointer (some ⟨pb, 0, none⟩), .int .i64 x] w fun e w' => e = .returned (.tuple #[.int .i64 (s.head x), .bool true]) ∧ Turn w pb own w' s := by
  go_enter Try.func76, Try.ntmps76
  go_wp2_with fail
  refine (can_any pb own s x _ hx h).mono ?_
  rintro e w1 ⟨rfl, hc1⟩
  have h1 := h.chg hc1 (by simp)
  have HT : Hid (∀ w' t', Turn w1 pb own w' t' → Turn w pb own w' t') := fun w' t' k => k.behind hc1
  have hi := List.idxOf_lt_length_iff.2 hin
  have hok := h1.ok
  obtain ⟨mb, tv, uv, up, hat, rfl⟩ := h1
  obtain ⟨g, cap, rfl⟩ := owns_some hat.things (by omega)
  have hp := Lib.hid (pos_some hin)
  have hle := hok.le (s.all.idxOf x) (by rw [← hok.len]; exact hi)
  have hhd : s.hd (s.all.idxOf x) < s.all.length := by omega
  have HH : Hid (s.head x = s.all.getD (s.hd (s.all.idxOf x)) 0) := rfl
  have c0 := hat.c0
  have hm := hat.map
  have c1 := hat.c1
  have ct := hat.thing rfl (s.hd (s.all.idxOf x)) hhd
  have HA := Lib.hid hat
  clear hin h hc1 hok hat hle
  generalize s.all.idxOf x = i at *
  generalize hr : s.hd i = r at *
  have HR := Lib.hid hr
  clear hr
  generalize hv : s.all.getD r 0 = v at *
  have HV := Lib.hid hv
  clear hv
  have hi64 : (r : Int) < 17179869184 := by omega
  have hr0 : (0 : Int) ≤ (r : Int) := by omega
  have hr1 : (r : Int) < (s.all.length : Int) := by omega
  go_wp2_with (at_lookup; refine wp_look_hit _ rfl _ _ rfl hm rfl hx rfl hp ?_)
  go_region_held3 (fun w' => w'.cell? ⟨pb, 1, none⟩ = some (.slice (some ⟨g, 0, none⟩) s.all.length cap) ∧ w'.cell? ⟨g, r, none⟩ = some (.int .i64 v)) (go_keep)
    (first | (go_at_call 102; refine (root_at pb mb _ uv up s i _ hi (by first | exact HA.out | exact HA.out.drew)).mono ?_; rw [HR.out]; rintro e w5 ⟨rfl, up', hat5, hch5⟩; have k1 := hat5.c1; have k2 := hat5.thing rfl r hhd; rw [HV.out] at k2))
  all_goals go_wp2
  go_ret2
  refine ⟨by rw [HH.out]; rfl, HT.out _ _ ⟨_, ⟨mb, _, uv, up', hat5, rfl⟩, ?_, fun _ hj => Or.inl hj⟩⟩
  exact ((Chg.refl [] w1).drew.mono (by simp)).trans hch5 (fun j hj => Or.inl (by simp only [SetsAt.blocks, List.mem_append]; exact Or.inr hj))

end Go.Proofs.Ytpbljifejopecaa
/- package sets: contract of Groups. Condition: an object with fewer than 2^32 things. -/
namespace Go.Proofs.Ytpbljifejopecaa
open Go.RowKit Go.Maps

/-- What Groups keeps at each round. -/
def GrpRel (w : World) (pb mb : Nat) (tv uv : Value) (s : St) (k : Nat) (ov : Value) (wr : World) : Prop :=
  ∃ vs ats up', RowsOwn wr w.heap.size ov vs (s.gr k) ∧ wr.ownsRow w.heap.size 3 1 (.slice (some ⟨w.heap.size, 0, none⟩) s.all.length s.all.length) s.all.length (ints ats) ∧
    (∀ h, h < k → s.hd h = h → ats.getD h 0 = ((s.heads k).idxOf h : Nat)) ∧ (∀ j, j < vs.length → (vs.getD j undef).ownBlock ≠ some w.heap.size) ∧ SetsAt wr pb mb tv uv up' s ∧ Chg uv.ownBlock.toList w wr

/-- What stands when the group of the thing at place k is there. -/
def MidRel (w : World) (pb mb : Nat) (tv uv : Value) (s : St) (k : Nat) (ov : Value) (wr : World) : Prop :=
  ∃ go cap vs ats up', ov = .slice (some ⟨go, 0, none⟩) vs.length cap ∧ RowsOwn wr w.heap.size ov vs (s.mid k) ∧ wr.ownsRow w.heap.size 3 1 (.slice (some ⟨w.heap.size, 0, none⟩) s.all.length s.all.length) s.all.length (ints ats) ∧
    (∀ h, h < k + 1 → s.hd h = h → ats.getD h 0 = ((s.heads (k + 1)).idxOf h : Nat)) ∧ (∀ j, j < vs.length → (vs.getD j undef).ownBlock ≠ some w.heap.size) ∧ SetsAt wr pb mb tv uv up' s ∧ Chg uv.ownBlock.toList w wr

/-- An old group. -/
theorem mid_old {w wr : World} {pb mb : Nat} {tv uv ov : Value} {s : St} {k : Nat} (hok : s.Ok) (hlt : k < s.all.length) (hkk : s.hd k ≠ k) (h : GrpRel w pb mb tv uv s k ov wr) : MidRel w pb mb tv uv s k ov wr := by
  obtain ⟨vs, ats, up', hro, hats, hidx, hne, hat, hch⟩ := h
  have hr : s.hd k ≤ k := hok.le k (by rw [← hok.len]; exact hlt)
  have hrr : s.hd (s.hd k) = s.hd k := hok.own k (by rw [← hok.len]; exact hlt)
  have hvl : vs.length = (s.heads k).length := by rw [hro.len]; simp [St.gr]
  have hq2 := List.idxOf_lt_length_iff.2 (St.mem_heads.2 ⟨by omega, hrr⟩ : s.hd k ∈ s.heads k)
  obtain ⟨go, cap, rfl⟩ := owns_some hro.out (by omega)
  refine ⟨go, cap, vs, ats, up', rfl, ?_, hats, fun j hj e => ?_, hne, hat, hch⟩
  · have : s.mid k = s.gr k := if_neg hkk
    rw [this]; exact hro
  · have hjk : j < k := by
      rcases Nat.lt_or_ge j k with q | q
      · exact q
      · have : j = k := by omega
        subst this
        exact absurd e hkk
    rw [hidx j hjk e, St.idx_heads hjk e]

/-- A new group: its place has been laid (w2 is behind that store), and a nil row appended. -/
theorem mid_new {w wr w3 : World} {pb mb : Nat} {tv uv ov : Value} {s : St} {k g cap : Nat} {vs : List Value} {ats : List Int} {up' : List Nat} (hk : s.hd k = k) (hlt : k < s.all.length)
    (hro : RowsOwn wr w.heap.size ov vs (s.gr k)) (hats : wr.ownsRow w.heap.size 3 1 (.slice (some ⟨w.heap.size, 0, none⟩) s.all.length s.all.length) s.all.length (ints ats))
    (hidx : ∀ h, h < k → s.hd h = h → ats.getD h 0 = ((s.heads k).idxOf h : Nat)) (hne : ∀ j, j < vs.length → (vs.getD j undef).ownBlock ≠ some w.heap.size) (hat : SetsAt wr pb mb tv uv up' s) (hch : Chg uv.ownBlock.toList w wr)
    (hbl : ∀ b ∈ SetsAt.blocks pb mb tv uv, b < w.heap.size)
    (hown : w3.ownsRow w.heap.size 25 1 (.slice (some ⟨g, 0, none⟩) (vs.length + 1) cap) (vs.length + 1) (vs ++ [.slice none 0 0]))
    (hc3 : Chg ov.ownBlock.toList (wr.setCell ⟨w.heap.size, k, none⟩ (.int .i64 (vs.length : Int))) w3) : MidRel w pb mb tv uv s k (.slice (some ⟨g, 0, none⟩) (vs.length + 1) cap) w3 := by
  have hst := hats.stored k (.int .i64 (vs.length : Int))
  have hob : ∀ j ∈ ov.ownBlock.toList, w.heap.size ≤ j ∧ j ≠ w.heap.size := by
    intro j hj
    have e : ov.ownBlock = some j := by simpa using hj
    refine ⟨(hro.out.lt j e).1, fun q => ?_⟩
    rcases owns_two hro.out hats (by decide) with t | t
    · rw [t] at e; cases e
    · exact t (by rw [e, q]; rfl)
  have hc2 : Chg [w.heap.size] wr (wr.setCell ⟨w.heap.size, k, none⟩ (.int .i64 (vs.length : Int))) := (Chg.refl _ _).setCell (by simp) _
  have hro2 := hro.chg hc2 (fun b hb e => by simp at e; exact (hob b (by simpa using hb)).2 e) (fun j b hj hb e => by simp at e; subst e; exact hne j hj hb)
  have hvl : vs.length = (s.heads k).length := by rw [hro.len]; simp [St.gr]
  have hal : ats.length = s.all.length := by have := hats.1; simpa [ints] using this
  refine ⟨g, cap, vs ++ [.slice none 0 0], ats.set k (vs.length : Int), up', by simp, ?_, ?_, ?_, ?_, ?_, ?_⟩
  · have : s.mid k = s.gr k ++ [[]] := if_pos hk
    rw [this]
    exact hro2.push hown hc3
  · refine owns_chg ?_ hc3 (fun b hb e => ?_)
    · have e1 : ints (ats.set k (vs.length : Int)) = (ints ats).set k (.int .i64 (vs.length : Int)) := by simp [ints, List.map_set]
      rw [e1]; exact hst.1
    · have := hob b e
      simp [Value.ownBlock] at hb
      omega
  · intro h hh e
    by_cases q : h = k
    · subst q
      rw [St.idx_new e, ← hvl]
      simp [List.getD, show h < ats.length by omega]
    · rw [St.idx_heads (by omega) e, ← hidx h (by omega) e]
      simp [List.getD, List.getElem?_set_ne (Ne.symm q)]
  · intro j hj
    simp at hj
    by_cases q : j < vs.length
    · have : (vs ++ [Value.slice none 0 0]).getD j undef = vs.getD j undef := by simp only [List.getD]; rw [List.getElem?_append_left q]
      rw [this]; exact hne j q
    · have : j = vs.length := by omega
      subst this
      simp [Value.ownBlock]
  · exact (hat.chg hc2 (fun b hb e => by have := hbl b hb; simp at e; omega)).chg hc3 (fun b hb e => by have := hbl b hb; have := (hob b e).1; omega)
  · exact (hch.trans hc2 (fun j hj => Or.inr (by simp at hj; omega))).trans hc3 (fun j hj => Or.inr (hob j hj).1)

/-- The thing has gone in. -/
theorem mid_close {w w2 w5 : World} {pb mb : Nat} {tv uv : Value} {s : St} {k go cap g5 cap5 n l : Nat} {vs : List Value} {ats : List Int} {up' : List Nat} {v : Value} {x : Int} {q : Nat} {ll : List Int} (hok : s.Ok) (hlt : k < s.all.length)
    (hro : RowsOwn w2 w.heap.size (.slice (some ⟨go, 0, none⟩) n cap) vs (s.mid k)) (hn : n = vs.length) (hats : w2.ownsRow w.heap.size 3 1 (.slice (some ⟨w.heap.size, 0, none⟩) s.all.length s.all.length) s.all.length (ints ats))
    (hidx : ∀ h, h < k + 1 → s.hd h = h → ats.getD h 0 = ((s.heads (k + 1)).idxOf h : Nat)) (hne : ∀ j, j < vs.length → (vs.getD j undef).ownBlock ≠ some w.heap.size) (hat : SetsAt w2 pb mb tv uv up' s) (hch : Chg uv.ownBlock.toList w w2)
    (hbl : ∀ b ∈ SetsAt.blocks pb mb tv uv, b < w.heap.size) (hq : s.rank k = q) (hv : vs.getD q undef = v) (hll : (s.mid k).getD q [] = ll) (hl : l = ll.length) (hx : s.all.getD k 0 = x)
    (ho : w5.ownsRow w.heap.size 3 1 (.slice (some ⟨g5, 0, none⟩) (l + 1) cap5) (l + 1) (ints ll ++ [.int .i64 x])) (hc : Chg v.ownBlock.toList w2 w5) (hl5 : v.ownBlock = some g5 ∨ w2.heap.size ≤ g5) :
    GrpRel w pb mb tv uv s (k + 1) (.slice (some ⟨go, 0, none⟩) n cap) (w5.setCell ⟨go, q, none⟩ (.slice (some ⟨g5, 0, none⟩) (l + 1) cap5)) := by
  subst hl hll hv hx
  have hkg : k < s.grp.length := by rw [← hok.len]; exact hlt
  have hrl := St.rank_lt hok hkg
  rw [← s.mid_length, ← hro.len, hq] at hrl
  have hvb : ∀ j ∈ (vs.getD q undef).ownBlock.toList, w.heap.size ≤ j ∧ j ≠ w.heap.size := by
    intro j hj
    have e : (vs.getD q undef).ownBlock = some j := by simpa using hj
    exact ⟨((hro.rows q hrl).lt j e).1, fun t => hne q hrl (by rw [e, t])⟩
  have hgo : w.heap.size ≤ go ∧ go ≠ w.heap.size := by
    refine ⟨(hro.out.lt go rfl).1, fun t => ?_⟩
    rcases owns_two hro.out hats (by decide) with r | r
    · simp [Value.ownBlock] at r
    · exact r (by simp [Value.ownBlock, t])
  have hcs : Chg [go] w5 (w5.setCell ⟨go, q, none⟩ (.slice (some ⟨g5, 0, none⟩) (((s.mid k).getD q []).length + 1) cap5)) := (Chg.refl _ _).setCell (by simp) _
  refine ⟨vs.set q (.slice (some ⟨g5, 0, none⟩) (((s.mid k).getD q []).length + 1) cap5), ats, up', ?_, ?_, hidx, ?_, ?_, ?_⟩
  · rw [St.gr_succ hok hkg, hq]
    exact hro.put hn hrl ho hc hl5
  · exact owns_chg (owns_chg hats hc (fun b hb e => by have := hvb b e; simp [Value.ownBlock] at hb; omega)) hcs (fun b hb e => by simp [Value.ownBlock] at hb e; omega)
  · intro j hj
    rw [List.length_set] at hj
    rw [getD_setV _ _ _ _ hrl]
    by_cases e : j = q
    · rw [if_pos e]
      simp only [Value.ownBlock, ne_eq, Option.some.injEq]
      rcases hl5 with r | r
      · exact (hvb g5 (by rw [r]; simp)).2
      · have := (hats.lt w.heap.size rfl).2; omega
    · rw [if_neg e]; exact hne j hj
  · exact (hat.chg hc (fun b hb e => by have := hbl b hb; have := (hvb b e).1; omega)).chg hcs (fun b hb e => by have := hbl b hb; simp at e; omega)
  · exact (hch.trans hc (fun j hj => Or.inr (hvb j hj).1)).trans hcs (fun j hj => Or.inr (by simp at hj; omega))

end Go.Proofs.Ytpbljifejopecaa
/- package sets: contracts of New and of the laws' own example. Conditions: a list of fewer than 2^32 ints. -/
namespace Go.Proofs.Ytpbljifejopecaa
open Go.RowKit Go.Maps

/-- An object without things, just laid. -/
theorem SetsObj.empty (w : World) : SetsObj ((w.alloc (.map #[] 0)).alloc (.cells #[.map (some w.heap.size), .slice none 0 0, .slice none 0 0, .int .i64 0] 131)) (w.heap.size + 1) [w.heap.size + 1, w.heap.size] ⟨[], []⟩ := by
  refine ⟨w.heap.size, .slice none 0 0, .slice none 0 0, [], ⟨?_, ?_, World.ownsRow_nil _ _ _ _, World.ownsRow_nil _ _ _ _, Or.inl rfl, ⟨rfl, by simp⟩, rfl, by simp, by simp⟩, rfl⟩
  · have := heap_alloc_new (w.alloc (.map #[] 0)) (.cells #[.map (some w.heap.size), .slice none 0 0, .slice none 0 0, .int .i64 0] 131)
    have e : (w.alloc (.map #[] 0)).heap.size = w.heap.size + 1 := by simp
    rw [e] at this
    exact this
  · have : (pos ([] : List Int)) = fun _ => none := by funext x; simp [pos]
    simp only [List.length_nil]
    rw [this]
    exact (IMap.made w).alloc _

/-- New of a list. -/
def St.new (l : List Int) : St := l.foldl St.put ⟨[], []⟩

theorem St.new_take {l : List Int} {k : Nat} (h : k < l.length) : St.new (l.take (k + 1)) = (St.new (l.take k)).put (l.getD k 0) := by
  unfold St.new
  rw [List.take_succ_eq_append_getElem h, List.foldl_append]
  simp [List.getD, h]

theorem St.new_len (l : List Int) : (St.new l).all.length ≤ l.length := by
  have : ∀ (l : List Int) (s : St), (l.foldl St.put s).all.length ≤ s.all.length + l.length := by
    intro l
    induction l with
    | nil => intro s; simp
    | cons x r ih =>
      intro s
      have := ih (s.put x)
      have := (s.len_put x).2
      simp only [List.foldl_cons, List.length_cons]
      omega
  simpa [St.new] using this l ⟨[], []⟩

theorem new_any (v : Value) (l : List Int) (w : World) (hn : l.length < 4294967296) (h : IntsAt w v l) :
    Calls Try.prog 57 #[v] w fun e w' => ∃ pb own, e = .returned (.pointer (some ⟨pb, 0, none⟩)) ∧ SetsObj w' pb own (St.new l) ∧ Chg [] w w' ∧ ∀ j ∈ own, w.heap.size ≤ j := by
  obtain ⟨ao, cap, rfl, hsm, -, hcell⟩ := h
  have hmm := @run_makeMap Try.prog
  have HE := Lib.hid (SetsObj.empty w)
  go_enter Try.func57, Try.ntmps57
  go_wp2
  go_loopw [11] (fun c wr => ∃ k : Nat, k ≤ l.length ∧ c = .int .i64 k ∧ ∃ own, SetsObj wr (w.heap.size + 1) own (St.new (l.take k)) ∧ Chg [] w wr ∧ ∀ j ∈ own, w.heap.size ≤ j) (fun c _ => l.length - (intOf c).toNat)
  case atStart => exact ⟨0, Nat.zero_le _, rfl, _, HE.out, ((Chg.refl _ _).alloc _).alloc _, by simp⟩
  case round =>
    obtain ⟨k, hk, rfl, own, hobj, hch, hown⟩ := hrel
    by_cases hlt : k < l.length
    · obtain ⟨b, off, rfl, hc⟩ := hcell (by intro e; rw [e] at hlt; simp at hlt)
      have ck := hch.cell (hc k hlt) (by simp)
      have hx := hsm (l.getD k 0) (by simp [List.getD, hlt])
      have hl := St.new_len (l.take k)
      have hl2 : (l.take k).length ≤ k := List.length_take_le _ _
      have HX := Lib.hid (St.new_take hlt)
      have HS := Lib.hid hsm
      have HC := Lib.hid hc
      clear hcell hc hsm
      generalize l.getD k 0 = x at *
      go_wp2_with fail
      refine (add_any _ own _ x _ hx (by omega) hobj).mono ?_
      rintro e w2 ⟨rfl, own2, ho2, hc2, hs2⟩
      have HO2 := Lib.hid ho2
      have hch2 := hch.trans hc2 (fun j hj => Or.inr (hown j hj))
      have hsz := hch.size
      have hown2 : ∀ j ∈ own2, w.heap.size ≤ j := fun j hj => by rcases hs2 j hj with q | q; exact hown j q; omega
      clear hobj hch hown ho2 hc2 hs2 ck
      go_wp2
      go_roundw
      case rel => exact ⟨k + 1, by omega, by go_num, own2, by rw [HX.out]; exact HO2.out, hch2, hown2⟩
      case measure => simp [intOf]; omega
    · have e : k = l.length := by omega
      subst e
      have HO := Lib.hid hobj
      clear hobj
      go_wp2
      go_ret
      exact ⟨_, own, rfl, by simpa using HO.out, hch, hown⟩

theorem one23 (w : World) : IntsAt (w.alloc (.cells #[.int .i64 1, .int .i64 2, .int .i64 3] 3)) (.slice (some ⟨w.heap.size, 0, none⟩) 3 3) [1, 2, 3] := by
  have hb := heap_alloc_new w (.cells #[.int .i64 1, .int .i64 2, .int .i64 3] 3)
  refine ⟨_, 3, rfl, ?_, by simp, fun _ => ⟨_, _, rfl, ?_⟩⟩
  · intro x hx
    simp at hx
    rcases hx with rfl | rfl | rfl <;> exact I64.mk (by omega) (by omega)
  · intro i hi
    simp at hi
    rw [Nat.zero_add, cell_of_row _ _ _ _ _ _ hb]
    rcases (by omega : i = 0 ∨ i = 1 ∨ i = 2) with rfl | rfl | rfl <;> rfl

end Go.Proofs.Ytpbljifejopecaa
/- joins, plainly (lines of the older texts Acts and PlaysA, for seats without their types). No program here. -/
namespace Go.Proofs.Ytpbljifejopecaa
open Go.RowKit Go.Maps

theorem St.Ok.idx_lt {s : St} {x : Int} (h : x ∈ s.all) : s.all.idxOf x < s.all.length := List.idxOf_lt_length_iff.2 h

theorem St.Ok.hd_lt {s : St} (h : s.Ok) {x : Int} (hx : x ∈ s.all) : s.hd (s.all.idxOf x) < s.all.length := by
  have := h.le (s.all.idxOf x) (by rw [← h.len]; exact St.Ok.idx_lt hx)
  have := St.Ok.idx_lt hx
  omega

theorem St.put_put_mem (s : St) (x y : Int) : x ∈ ((s.put x).put y).all ∧ y ∈ ((s.put x).put y).all := ⟨St.mem_put_of y (s.mem_put x), St.mem_put _ _⟩

theorem St.join_in {s : St} {x y : Int} (hx : x ∈ s.all) (hy : y ∈ s.all) : s.join x y = ⟨s.all, relabel s.grp (s.hd (s.all.idxOf x)) (s.hd (s.all.idxOf y))⟩ ∧ s.joins x y = (s.hd (s.all.idxOf x) != s.hd (s.all.idxOf y)) := by
  have e : (s.put x).put y = s := by rw [St.put_in hx, St.put_in hy]
  exact ⟨by unfold St.join; rw [e], by unfold St.joins; rw [e]⟩

theorem St.join_count {s : St} (hs : s.Ok) {x y : Int} (hx : x ∈ s.all) (hy : y ∈ s.all) : s.count = (s.join x y).count + if s.joins x y then 1 else 0 := by
  obtain ⟨e1, e2⟩ := St.join_in hx hy
  rw [e1, e2]
  have h1 := hs.le (s.all.idxOf x) (by rw [← hs.len]; exact St.Ok.idx_lt hx)
  have h2 := hs.le (s.all.idxOf y) (by rw [← hs.len]; exact St.Ok.idx_lt hy)
  have k1 := St.Ok.idx_lt hx
  have k2 := St.Ok.idx_lt hy
  rw [hs.len] at k1 k2
  have o1 := hs.own _ k1
  have o2 := hs.own _ k2
  generalize s.hd (s.all.idxOf x) = i at *
  generalize s.hd (s.all.idxOf y) = j at *
  by_cases e : i = j
  · subst e
    rw [relabel_self]
    simp
  · have := St.count_relabel (all := s.all) (grp := s.grp) (by omega : i < s.grp.length) (by omega : j < s.grp.length) o1 o2 e
    have e3 : (i != j) = true := by rw [bne_iff_ne]; exact e
    rw [e3, if_pos rfl]
    exact this

theorem St.Ok.up {s : St} (h : s.Ok) : Up s.grp s.grp := ⟨rfl, fun i hi => ⟨h.le i hi, by
  have := h.own i hi
  simp only [St.hd] at this
  split
  · assumption
  · exact this.symm⟩⟩

theorem St.ok_nil : St.Ok ⟨[], []⟩ := ⟨rfl, List.nodup_nil, by simp, by simp⟩

theorem St.Ok.put {s : St} (h : s.Ok) (x : Int) : (s.put x).Ok := by
  by_cases hx : x ∈ s.all
  · rwa [St.put_in hx]
  · rw [St.put_new hx]
    have hu := h.up.put
    have hl := h.len
    refine ⟨by simp [hl], by rw [List.nodup_append]; exact ⟨h.nodup, by simp, by intro a ha b hb; simp at hb; subst hb; rintro rfl; exact hx ha⟩, fun i hi => ?_, fun i hi => ?_⟩
    · have := hu.le i (by simpa using hi); simpa [St.hd, hl] using this.1
    · have := hu.own (i := i) (by simpa using hi); simpa [St.hd, hl] using this

theorem St.Ok.join {s : St} (h : s.Ok) (x y : Int) : (s.join x y).Ok := by
  have ht := (h.put x).put y
  have hm := s.put_put_mem x y
  show St.Ok ⟨((s.put x).put y).all, relabel ((s.put x).put y).grp (((s.put x).put y).hd (((s.put x).put y).all.idxOf x)) (((s.put x).put y).hd (((s.put x).put y).all.idxOf y))⟩
  generalize (s.put x).put y = t at *
  have hi := ht.hd_lt hm.1
  have hj := ht.hd_lt hm.2
  have ei := ht.own (t.all.idxOf x) (by rw [← ht.len]; exact List.idxOf_lt_length_iff.2 hm.1)
  have ej := ht.own (t.all.idxOf y) (by rw [← ht.len]; exact List.idxOf_lt_length_iff.2 hm.2)
  generalize t.hd (t.all.idxOf x) = a at *
  generalize t.hd (t.all.idxOf y) = b at *
  by_cases hab : a = b
  · subst hab
    rw [relabel_self]
    exact ht
  · have hu := ht.up.join (i := a) (j := b) (by rw [← ht.len]; exact hi) (by rw [← ht.len]; exact hj) ei ej hab
    have hl : (relabel t.grp a b).length = t.grp.length := by simp [relabel]
    refine ⟨by simp only [hl, ht.len], ht.nodup, fun i hi => ?_, fun i hi => ?_⟩
    · exact (hu.le i (by simp only [hl] at hi; simpa using hi)).1
    · exact hu.own (by simp only [hl] at hi; simpa using hi)

theorem St.new_ok (l : List Int) : (St.new l).Ok := by
  have : ∀ (l : List Int) (s : St), s.Ok → (l.foldl St.put s).Ok := by
    intro l
    induction l with
    | nil => intro s h; exact h
    | cons x r ih => intro s h; exact ih _ (h.put x)
  exact this l _ St.ok_nil

end Go.Proofs.Ytpbljifejopecaa
