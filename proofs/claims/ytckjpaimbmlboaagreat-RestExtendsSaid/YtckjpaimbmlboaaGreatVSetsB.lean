/- package sets: contracts of Add, Join, Same, Len, Count, Head. Conditions: an object that stands in memory, with fewer than 2^34 things; any ints. -/
import Derived.Deep.DeepCutAuto
import Derived.Deep.RegionLaw
import Derived.Test.YtckjpaimbmlboaaGreatVRing
namespace Go.Proofs.YtckjpaimbmlboaaGreat
open Go.RowKit Go.Maps
theorem SetsObj.chg {w w' : World} {own own' : List Nat} {pb : Nat} {s : St} (h : SetsObj w pb own s) (hc : Chg own' w w') (hn : ∀ b ∈ own, b ∉ own') : SetsObj w' pb own s := by
 obtain ⟨mb, tv, uv, up, h, rfl⟩ := h
 exact ⟨mb, tv, uv, up, h.chg hc hn, rfl⟩
theorem SetsObj.ok {w : World} {own : List Nat} {pb : Nat} {s : St} (h : SetsObj w pb own s) : s.Ok := by
 obtain ⟨mb, tv, uv, up, h, rfl⟩ := h
 have hl : up.length = s.grp.length := h.up.1
 exact ⟨h.len, h.nodup, fun i hi => (h.up.le i (by omega)).1, fun i hi => h.up.own (by omega)⟩
theorem SetsAt.thing {w : World} {pb mb g cap n : Nat} {uv : Value} {up : List Nat} {s : St} (h : SetsAt w pb mb (.slice (some ⟨g, 0, none⟩) n cap) uv up s) (hn : n = s.all.length) (i : Nat) (hi : i < s.all.length) : w.cell? ⟨g, i, none⟩ = some (.int .i64 (s.all.getD i 0)) := by
 subst hn
 rw [h.things.cellAt i (by omega)]
 simp [List.getD, hi]
theorem root_at (pb mb : Nat) (tv uv : Value) (up : List Nat) (s : St) (i : Nat) (w : World) (hi : i < s.all.length) (h : SetsAt w pb mb tv uv up s) :
  Calls Tryz.prog 69 #[.pointer (some ⟨pb, 0, none⟩), .int .i64 i] w fun e w' => e = .returned (.int .i64 (s.hd i)) ∧ ∃ up', SetsAt w' pb mb tv uv up' s ∧ Chg uv.ownBlock.toList w w' := by
 have hl : up.length = s.all.length := by rw [h.up.1, h.len]
 obtain ⟨g, cap, rfl⟩ := owns_some h.ups (by omega)
 exact (root_any pb mb g cap tv up s i w (by omega) h).mono fun e w' ⟨he, ⟨up', hu, hat, _⟩, hch⟩ => ⟨he, up', hat, hch⟩
theorem root_obj (pb : Nat) (own : List Nat) (s : St) (i : Nat) (w : World) (hi : i < s.all.length) (h : SetsObj w pb own s) :
  Calls Tryz.prog 69 #[.pointer (some ⟨pb, 0, none⟩), .int .i64 i] w fun e w' => e = .returned (.int .i64 (s.hd i)) ∧ Turn w pb own w' s := by
 obtain ⟨mb, tv, uv, up, h, rfl⟩ := h
 have hl : up.length = s.all.length := by rw [h.up.1, h.len]
 obtain ⟨g, cap, rfl⟩ := owns_some h.ups (by omega)
 refine (root_any pb mb g cap tv up s i w (by omega) h).mono fun e w' ⟨he, ⟨up', hu, hat, _⟩, hch⟩ => ⟨he, SetsAt.blocks pb mb tv (.slice (some ⟨g, 0, none⟩) up.length cap), ⟨mb, tv, _, up', hat, rfl⟩, ?_, fun j hj => Or.inl hj⟩
 exact hch.mono (fun j hj => Or.inl (by simp at hj; subst hj; simp [SetsAt.blocks, Value.ownBlock]))
theorem count_any (pb : Nat) (own : List Nat) (s : St) (w : World) (h : SetsObj w pb own s) :
  Calls Tryz.prog 89 #[.pointer (some ⟨pb, 0, none⟩)] w fun e w' => e = .returned (.int .i64 (s.count : Int)) ∧ w = w' := by
 obtain ⟨mb, tv, uv, up, h, rfl⟩ := h
 have c3 := h.c3
 clear h
 go_enter Tryz.func89, Tryz.ntmps89
 go_wp2
 go_ret
 exact ⟨rfl, rfl⟩
theorem add_any (pb : Nat) (own : List Nat) (s : St) (x : Int) (w : World) (hx : I64 x) (hn : s.all.length < 34359738368) (h : SetsObj w pb own s) :
  Calls Tryz.prog 30 #[.pointer (some ⟨pb, 0, none⟩), .int .i64 x] w fun e w' => e = .returned (.bool (decide (x ∉ s.all))) ∧ Turn w pb own w' (s.put x) := by
 go_enter Tryz.func30, Tryz.ntmps30
 go_wp2_with fail
 refine (can_any pb own s x _ hx h).mono ?_
 rintro e w1 ⟨rfl, hc1⟩
 have h1 := h.chg hc1 (by simp)
 obtain ⟨mb, tv, uv, up, h1', -⟩ := id h1
 obtain ⟨ao, cap0, rfl⟩ := owns_shape h1'.things
 have c1 := h1'.c1
 clear h1'
 go_wp2_with fail
 refine (put_any pb own s x _ hx hn h1).mono ?_
 rintro e w2 ⟨rfl, ht⟩
 have HT := lh (ht.behind hc1)
 clear ht c1
 go_wp2
 go_ret
 refine ⟨ret_bool ?_, HT.out⟩
 by_cases hin : x ∈ s.all
 ·rw [St.put_in hin]
  have := List.idxOf_lt_length_iff.2 hin
  simp [hin]; omega
 rw [St.put_new hin]
 simp only
 rw [idxOf_snoc hin]
 simp [hin]
theorem join_close {pb mb g cap : Nat} {tv : Value} {up : List Nat} {s : St} {w : World} {n : Nat} (h : SetsAt w pb mb tv (.slice (some ⟨g, 0, none⟩) n cap) up s) (hn : n = up.length) {i j : Nat} (hi : i < up.length) (hj : j < up.length) (ei : s.hd i = i) (ej : s.hd j = j) (ne : i ≠ j) :
  SetsAt ((w.setCell ⟨g, max i j, none⟩ (.int .i64 ((min i j : Nat) : Int))).setCell ⟨pb, 3, none⟩ (.int .i64 ((s.count : Int) - 1))) pb mb tv (.slice (some ⟨g, 0, none⟩) n cap) (up.set (max i j) (min i j)) ⟨s.all, relabel s.grp i j⟩ := by
 obtain ⟨n1, n2, n3⟩ := h.upNe
 subst hn
 have hl : up.length = s.grp.length := h.up.1
 have ei' : up.getD i 0 = i := by have := (h.up.le i hi).2; rwa [show s.grp.getD i 0 = i from ei] at this
 have ej' : up.getD j 0 = j := by have := (h.up.le j hj).2; rwa [show s.grp.getD j 0 = j from ej] at this
 have hs := h.ups.stored (max i j) (.int .i64 ((min i j : Nat) : Int))
 have hg := hs.2
 have hc1 : (w.setCell ⟨g, max i j, none⟩ (.int .i64 ((min i j : Nat) : Int))).heap[pb]? = _ := (Below.heap_setCell _ _ _ _ (by simpa using Ne.symm n1)).trans h.cells
 have hch : Chg [pb] (w.setCell ⟨g, max i j, none⟩ (.int .i64 ((min i j : Nat) : Int))) ((w.setCell ⟨g, max i j, none⟩ (.int .i64 ((min i j : Nat) : Int))).setCell ⟨pb, 3, none⟩ (.int .i64 ((s.count : Int) - 1))) := (Chg.refl _ _).setCell (by simp) _
 have hct := St.count_relabel (all := s.all) (by omega : i < s.grp.length) (by omega : j < s.grp.length) ei ej ne
 refine ⟨?_, ?_, ?_, ?_, h.apart, h.up.join hi hj ei' ej' ne, by simp [relabel, h.len], h.nodup, h.small⟩
 ·rw [heap_setCell_same hc1]
  have : ((s.count : Int) - 1) = ((St.count ⟨s.all, relabel s.grp i j⟩ : Nat) : Int) := by
   have e : s.count = St.count ⟨s.all, s.grp⟩ := rfl
   omega
  rw [this]; rfl
 ·exact (h.map.kept hg (by simpa using Ne.symm n2)).chg hch (by simpa using (h.map.ne h.cells).symm)
 ·refine owns_chg (h.things.kept hg (Or.inr n3)) hch (fun b hb e => ?_)
  simp at e
  subst e
  obtain ⟨g', cap, cur, rfl, -, hg, -⟩ := h.things.2.resolve_left (by rintro ⟨rfl, _⟩; simp [Value.ownBlock] at hb)
  simp [Value.ownBlock] at hb
  rw [hb, h.cells] at hg
  simp at hg
 refine owns_chg ?_ hch (by simpa [Value.ownBlock] using n1)
 have := hs.1
 rw [List.length_set, List.map_set]
 exact this
theorem join_any (pb : Nat) (own : List Nat) (s : St) (x y : Int) (w : World) (hx : I64 x) (hy : I64 y) (hn : s.all.length < 17179869184) (h : SetsObj w pb own s) :
  Calls Tryz.prog 32 #[.pointer (some ⟨pb, 0, none⟩), .int .i64 x, .int .i64 y] w fun e w' => e = .returned (.bool (s.joins x y)) ∧ Turn w pb own w' (s.join x y) := by
 go_enter Tryz.func32, Tryz.ntmps32
 go_wp2_with fail
 refine (can_any pb own s x _ hx h).mono ?_
 rintro e w1 ⟨rfl, hc1⟩
 have h1 := h.chg hc1 (by simp)
 go_wp2_with fail
 refine (can_any pb own s y _ hy h1).mono ?_
 rintro e w2 ⟨rfl, hc2⟩
 have h2 := h1.chg hc2 (by simp)
 have hl1 := s.len_put x
 have hl2 := (s.put x).len_put y
 go_wp2_with fail
 refine (put_any pb own s x _ hx (by omega) h2).mono ?_
 rintro e w3 ⟨rfl, own3, h3, hc3, hs3⟩
 go_wp2_with fail
 refine (put_any pb own3 (s.put x) y _ hy (by omega) h3).mono ?_
 rintro e w4 ⟨rfl, own4, h4, hc4, hs4⟩
 have HI := lh (St.idx_put_of (s := s.put x) y (s.mem_put x))
 have hi : (s.put x).all.idxOf x < ((s.put x).put y).all.length := by rw [← HI.out]; exact List.idxOf_lt_length_iff.2 (St.mem_put_of y (s.mem_put x))
 have hj : ((s.put x).put y).all.idxOf y < ((s.put x).put y).all.length := List.idxOf_lt_length_iff.2 (St.mem_put _ _)
 have hb : ((s.put x).put y).all.length ≤ 17179869186 := by omega
 have HJ := lh (s.joins_eq x y)
 have HK := lh (s.join_eq x y)
 generalize (s.put x).all.idxOf x = i at *
 generalize ((s.put x).put y).all.idxOf y = j at *
 generalize (s.put x).put y = t at *
 clear h h1 h2 h3 hl1 hl2 HI
 go_wp2_with fail
 refine (root_obj pb own4 t i _ hi h4).mono ?_
 rintro e w5 ⟨rfl, own5, h5, hc5, hs5⟩
 go_wp2_with fail
 refine (root_obj pb own5 t j _ hj h5).mono ?_
 rintro e w6 ⟨rfl, own6, h6, hc6, hs6⟩
 have HT : Hid (∀ w' t', Turn w6 pb own6 w' t' → Turn w pb own w' t') := fun w' t' k => (((((k.comp hc6 hs6).comp hc5 hs5).comp hc4 hs4).comp hc3 hs3).behind hc2).behind hc1
 clear hc1 hc2 hc3 hc4 hc5 hc6 hs3 hs4 hs5 hs6 h4 h5
 have hok := h6.ok
 have hi' := hok.le i (by rw [← hok.len]; exact hi)
 have hj' := hok.le j (by rw [← hok.len]; exact hj)
 have HP := lh (hok.own i (by rw [← hok.len]; exact hi))
 have HQ := lh (hok.own j (by rw [← hok.len]; exact hj))
 have hp : t.hd i < t.all.length := by omega
 have hq : t.hd j < t.all.length := by omega
 clear hi hj hi' hj' hok
 generalize t.hd i = p at *
 generalize t.hd j = q at *
 by_cases e : p = q
 ·subst e
  go_wp2
  go_ret
  exact ⟨ret_bool (by rw [HJ.out]; simp), by rw [HK.out, relabel_self]; exact HT.out _ _ (Turn.refl h6)⟩
 have e2 : (((p : Nat) : Int) == ((q : Nat) : Int)) = false := by rw [beq_eq_false_iff_ne]; omega
 obtain ⟨mb, tv, uv, up, h6', rfl⟩ := h6
 have hul : up.length = t.all.length := by rw [h6'.up.1, h6'.len]
 obtain ⟨g, cap, rfl⟩ := owns_some h6'.ups (by omega)
 have c2 := h6'.c2
 have c3 := h6'.c3
 have f3 := h6'.free 3
 have hne := h6'.upNe.1
 have hcl := t.count_le
 have hln := h6'.len
 have hcn : t.count ≤ 34359738368 := by omega
 have HC := lh (join_close h6' rfl (i := p) (j := q) (by omega) (by omega) HP.out HQ.out e)
 have HH := lh h6'
 have hpu : p < up.length := by omega
 have hqu : q < up.length := by omega
 have n1 : g ∈ SetsAt.blocks pb mb tv (.slice (some ⟨g, 0, none⟩) up.length cap) := by simp [SetsAt.blocks, Value.ownBlock]
 have n2 : pb ∈ SetsAt.blocks pb mb tv (.slice (some ⟨g, 0, none⟩) up.length cap) := by simp [SetsAt.blocks]
 clear hcl hln
 rcases Nat.lt_or_gt_of_ne e with hlt | hlt
 ·have cq := h6'.upCell rfl q (by omega)
  have fq := h6'.upFree rfl q
  have HC2 := HC.out
  rw [Nat.max_eq_right (by omega), Nat.min_eq_left (by omega)] at HC2
  have HC3 := lh HC2
  clear h6' hul HC2 HC
  go_wp2
  go_ret
  exact ⟨ret_bool (by rw [HJ.out]; simpa using e), by rw [HK.out]; exact HT.out _ _ ⟨_, ⟨mb, tv, _, _, HC3.out, rfl⟩, ((Chg.refl _ _).setCell (Or.inl n1) _).setCell (Or.inl n2) _, fun _ hj => Or.inl hj⟩⟩
 have cq := h6'.upCell rfl p (by omega)
 have fq := h6'.upFree rfl p
 have HC2 := HC.out
 rw [Nat.max_eq_left (by omega), Nat.min_eq_right (by omega)] at HC2
 have HC3 := lh HC2
 clear h6' hul HC2 HC
 go_wp2
 go_ret
 exact ⟨ret_bool (by rw [HJ.out]; simpa using e), by rw [HK.out]; exact HT.out _ _ ⟨_, ⟨mb, tv, _, _, HC3.out, rfl⟩, ((Chg.refl _ _).setCell (Or.inl n1) _).setCell (Or.inl n2) _, fun _ hj => Or.inl hj⟩⟩
def St.head (s : St) (x : Int) : Int := s.all.getD (s.hd (s.all.idxOf x)) 0
end Go.Proofs.YtckjpaimbmlboaaGreat
namespace Go.Proofs.YtckjpaimbmlboaaGreat
open Go.RowKit Go.Maps
theorem SetsObj.empty (w : World) : SetsObj ((w.alloc (.map #[] 0)).alloc (.cells #[.map (some w.heap.size), .slice none 0 0, .slice none 0 0, .int .i64 0] 97)) (w.heap.size + 1) [w.heap.size + 1, w.heap.size] ⟨[], []⟩ := by
 refine ⟨w.heap.size, .slice none 0 0, .slice none 0 0, [], ⟨?_, ?_, World.ownsRow_nil _ _ _ _, World.ownsRow_nil _ _ _ _, Or.inl rfl, ⟨rfl, by simp⟩, rfl, by simp, by simp⟩, rfl⟩
 ·have := heap_alloc_new (w.alloc (.map #[] 0)) (.cells #[.map (some w.heap.size), .slice none 0 0, .slice none 0 0, .int .i64 0] 97)
  have e : (w.alloc (.map #[] 0)).heap.size = w.heap.size + 1 := by simp
  rw [e] at this
  exact this
 have : (pos ([] : List Int)) = fun _ => none := by funext x; simp [pos]
 simp only [List.length_nil]
 rw [this]
 exact (IMap.made w).alloc _
def St.new (l : List Int) : St := l.foldl St.put ⟨[], []⟩
theorem St.new_take {l : List Int} {k : Nat} (h : k < l.length) : St.new (l.take (k + 1)) = (St.new (l.take k)).put (l.getD k 0) := by
 unfold St.new
 rw [List.take_succ_eq_append_getElem h, List.foldl_append]
 simp [List.getD, h]
theorem St.new_len (l : List Int) : (St.new l).all.length ≤ l.length := by
 have : ∀ (l : List Int) (s : St), (l.foldl St.put s).all.length ≤ s.all.length + l.length := by
  intro l
  induction l with
  | nil => intro s; simp
  | cons x r ih =>
   intro s
   have := ih (s.put x)
   have := (s.len_put x).2
   simp only [List.foldl_cons, List.length_cons]
   omega
 simpa [St.new] using this l ⟨[], []⟩
theorem new_any (v : Value) (l : List Int) (w : World) (hn : l.length < 4294967296) (h : IntsAt w v l) :
  Calls Tryz.prog 29 #[v] w fun e w' => ∃ pb own, e = .returned (.pointer (some ⟨pb, 0, none⟩)) ∧ SetsObj w' pb own (St.new l) ∧ Chg [] w w' ∧ ∀ j ∈ own, w.heap.size ≤ j := by
 obtain ⟨ao, cap, rfl, hsm, -, hcell⟩ := h
 have hmm := @run_makeMap Tryz.prog
 have HE := lh (SetsObj.empty w)
 go_enter Tryz.func29, Tryz.ntmps29
 go_wp2
 go_loopw [11] (fun c wr => ∃ k : Nat, k ≤ l.length ∧ c = .int .i64 k ∧ ∃ own, SetsObj wr (w.heap.size + 1) own (St.new (l.take k)) ∧ Chg [] w wr ∧ ∀ j ∈ own, w.heap.size ≤ j) (fun c _ => l.length - (intOf c).toNat)
 case atStart => exact ⟨0, Nat.zero_le _, rfl, _, HE.out, ((Chg.refl _ _).alloc _).alloc _, by simp⟩
 case round =>
  obtain ⟨k, hk, rfl, own, hobj, hch, hown⟩ := hrel
  by_cases hlt : k < l.length
  ·obtain ⟨b, off, rfl, hc⟩ := hcell (by intro e; rw [e] at hlt; simp at hlt)
   have ck := hch.cell (hc k hlt) (by simp)
   have hx := hsm (l.getD k 0) (by simp [List.getD, hlt])
   have hl := St.new_len (l.take k)
   have hl2 : (l.take k).length ≤ k := List.length_take_le _ _
   have HX := lh (St.new_take hlt)
   have HS := lh hsm
   have HC := lh hc
   clear hcell hc hsm
   generalize l.getD k 0 = x at *
   go_wp2_with fail
   refine (add_any _ own _ x _ hx (by omega) hobj).mono ?_
   rintro e w2 ⟨rfl, own2, ho2, hc2, hs2⟩
   have HO2 := lh ho2
   have hch2 := hch.trans hc2 (fun j hj => Or.inr (hown j hj))
   have hsz := hch.size
   have hown2 : ∀ j ∈ own2, w.heap.size ≤ j := fun j hj => by rcases hs2 j hj with q | q; exact hown j q; omega
   clear hobj hch hown ho2 hc2 hs2 ck
   go_wp2
   go_roundw
   case rel => exact ⟨k + 1, by omega, by go_num, own2, by rw [HX.out]; exact HO2.out, hch2, hown2⟩
   case measure => simp [intOf]; omega
  have e : k = l.length := by omega
  subst e
  have HO := lh hobj
  clear hobj
  go_wp2
  go_ret
  exact ⟨_, own, rfl, by simpa using HO.out, hch, hown⟩
def NMap (w : World) (b n : Nat) (f : Int → Option Int) : Prop :=
 ∃ D : DataW Unit, w.ownsMap Tryz.prog 3 (plainElem Tryz.prog 3) b n D ∧ Maps.size D = n ∧
  ∀ x, I64 x → Maps.has D (.int .i64 x) = (f x).isSome ∧ D.atKey (.int .i64 x) (.lit (.int .i64 0)) = .lit (.int .i64 ((f x).getD 0))
theorem NMap.imap {w : World} {b n : Nat} {f : Int → Option Int} (h : NMap w b n f) : IMap w b n f := by obtain ⟨D, h1, _, h2⟩ := h; exact ⟨D, h1, h2⟩
theorem NMap.made (w : World) : NMap (w.alloc (.map #[] 0)) w.heap.size 0 (fun _ => none) :=
 ⟨.map [], World.ownsMap_made _ _ _ _, rfl, fun _ _ => ⟨rfl, rfl⟩⟩
theorem NMap.chg {w w' : World} {own : List Nat} {b n : Nat} {f : Int → Option Int} (h : NMap w b n f) (hc : Chg own w w') (hb : b ∉ own) : NMap w' b n f := by
 obtain ⟨D, ⟨es, clock, he, r⟩, g⟩ := h
 exact ⟨D, ⟨es, clock, hc.heap he hb, r⟩, g⟩
theorem NMap.lt {w : World} {b n : Nat} {f : Int → Option Int} (h : NMap w b n f) : b < w.heap.size := h.imap.lt
theorem run_makeMap_hint {t k e : TypeId} (ht : Tryz.prog.underlying t = some (.map k e)) (n : Int) (w : World) : (Instr.makeMap t (some (.int .i64 n))).run Tryz.prog w = .ok (.map (some w.heap.size)) (w.alloc (.map #[] 0)) := by
 simp [Instr.makeMap, run_underlying ht, asInt, asIntOf, Result.andThen]
theorem notFound {P : Program} {k : TypeId} (K : Keyed P k) {R : Value → Option (DataW Unit × List MemPlace)} {es : Array MapEntry} {clock : Nat} (F : WideElems.Fit P k R es clock) {key : Value} {kl : Lit} (hkey : keyOf P k key = some kl)
  (hh : Maps.has (.map ((es.toList.map (WideElems.rg P k R)).foldr DataW.insert [])) kl = false) (w : World) : (Instr.findKey k key es.toList).run P w = .ok none w ∧ ∀ e ∈ es.toList, e.key ≠ key := by
 rcases K.find w hkey es.toList F.keys with h | ⟨j, e0, h1, h2, h3⟩
 ·exact h
 exfalso
 have hf := filter_one K F hkey h2 h3
 have hj : j < es.toList.length := (List.getElem?_eq_some_iff.1 h2).1
 rw [has_eq] at hh
 have hp := Go.WideShapes.sorted_perm (es.toList.map (WideElems.rg P k R))
 have h0 : ∀ p ∈ es.toList.map (WideElems.rg P k R), p.1.sameKey kl = false := fun p hp' => by
  have := List.any_eq_false.1 hh p (hp.mem_iff.2 hp')
  simpa using this
 have e1 : (es.toList.map (WideElems.rg P k R)).filter (ChangeMaps.notKey kl) = es.toList.map (WideElems.rg P k R) := List.filter_eq_self.2 fun p hp' => by
  unfold ChangeMaps.notKey
  rw [h0 p hp']
  rfl
 rw [e1] at hf
 have := congrArg List.length hf
 rw [List.length_eraseIdx, if_pos (by simpa using hj)] at this
 simp at this hj
 omega
section
variable {w : World} {b n : Nat} {f : Int → Option Int}
theorem NMap.put (h : NMap w b n f) (hn : n < maxLen) {k v : Int} (hk : I64 k) (hv : I64 v) (hf : f k = none) :
  ∃ w2, (Instr.mapUpdate 53 (.map (some b)) (.int .i64 k) (.int .i64 v)).run Tryz.prog w = .ok () w2 ∧ NMap w2 b (n + 1) (fun y => if y = k then some v else f y) ∧ Chg [b] w w2 := by
 obtain ⟨D, ho, hs, hD⟩ := h
 have hkey := keyOf_int_mk Tryz.underlying3 hk
 obtain ⟨w2, h1, h2, h3⟩ := ho.update keyedInt Tryz.underlying53 hn hkey (plainElem_int Tryz.underlying3 hv)
 refine ⟨w2, h1, ⟨_, h2, ?_, fun y hy => ?_⟩, (Chg.refl _ _).grown h3 (fun j hj => by cases hj; exact Or.inl (by simp))⟩
 ·rw [size_put (ho.tidy keyedInt), (hD k hk).1, hf, hs]
  rfl
 by_cases e : y = k
 ·subst e
  have hkl := keyedInt.key hkey
  rw [has_put_same ho.isMap hkl, atKey_put_same ho.isMap hkl]
  simp
 rw [has_put_other (litNe e), atKey_put_other (litNe e)]
 simp only [if_neg e]
 exact hD y hy
theorem NMap.entry (h : NMap w b n f) (hn : n < maxLen) {k v : Int} (hk : I64 k) (hv : I64 v) (hf : f k = none) :
  ∃ st w1 w2, (Instr.mapEntry 53 (.map (some b)) (.int .i64 k)).run Tryz.prog w = .ok (.tuple #[.int .i64 0, .int .i64 st]) w1 ∧ Chg [b] w w1 ∧
   (Instr.entryStore 53 (.map (some b)) (.int .i64 st) (.int .i64 v)).run Tryz.prog w1 = .ok () w2 ∧ NMap w2 b (n + 1) (fun y => if y = k then some v else f y) ∧ Chg [b] w w2 := by
 obtain ⟨w2, h1, h2, h3⟩ := h.put hn hk hv hf
 obtain ⟨D, ⟨es, clock, hb, F, hsz, rfl⟩, hs, hD⟩ := h
 have hkey := keyOf_int_mk Tryz.underlying3 hk
 obtain ⟨g1, g2⟩ := notFound keyedInt F hkey (by rw [(hD k hk).1, hf]; rfl) w
 have hu := Tryz.underlying53
 simp only [Instr.mapUpdate, Sem.run_bind, run_underlying hu, MapKept.run_getObj_map hb, keyedInt.check w false hkey, g1, MapKept.run_setObj_map _ hb, Result.andThen] at h1
 have e2 : w2 = ChangeMaps.setBlock w b (.map (es.push ⟨.int .i64 k, .int .i64 v, clock⟩) (clock + 1)) := by
  simp [ChangeMaps.setBlock] at h1 ⊢
  exact h1.symm
 have hb1 := ChangeMaps.heap_setBlock_same hb (.map (es.push ⟨.int .i64 k, .int .i64 0, clock⟩) (clock + 1))
 refine ⟨clock, ChangeMaps.setBlock w b (.map (es.push ⟨.int .i64 k, .int .i64 0, clock⟩) (clock + 1)), w2, ?_, ⟨rfl, rfl, rfl, by simp [ChangeMaps.setBlock], fun i _ hi => ChangeMaps.heap_setBlock_other hb _ (fun e => hi (by simp [e]))⟩, ?_, h2, h3⟩
 ·simp [Instr.mapEntry, run_underlying hu, MapKept.run_getObj_map hb, keyedInt.check w false hkey, g1, MapKept.run_setObj_map _ hb, Result.andThen, ChangeMaps.setBlock, goInt]
 have hidx : (es.push ⟨.int .i64 k, .int .i64 0, clock⟩).findIdx? (fun e => (e.born : Int) == (clock : Int)) = some es.size := by
  rw [Array.findIdx?_eq_some_iff_getElem]
  refine ⟨by simp, by simp, fun j hj => ?_⟩
  rw [Array.getElem_push_lt hj]
  have := F.stamped.1 es[j] (by simp)
  simp
  omega
 have hmod : (es.push ⟨.int .i64 k, .int .i64 0, clock⟩).modify es.size (fun e => { e with val := .int .i64 v }) = es.push ⟨.int .i64 k, .int .i64 v, clock⟩ := by
  apply Array.ext
  ·simp
  intro i h1 h2
  simp only [Array.getElem_modify, Array.getElem_push]
  split <;> split <;> simp_all <;> omega
 simp only [Instr.entryStore, Sem.run_bind, MapKept.run_getObj_map hb1, Result.andThen, asInt, asIntOf, Sem.run_pure, hidx, MapKept.run_setObj_map _ hb1, hmod, e2]
 simp [ChangeMaps.setBlock]
theorem NMap.len (h : NMap w b n f) (ty : TypeId) : (Builtin.len_ #[53] ty #[.map (some b)]).run Tryz.prog w = .ok (.int .i64 n) w := by
 obtain ⟨D, ho, hs, -⟩ := h
 rw [ho.len Tryz.underlying53 ty, hs]
end
section
variable (w : World) {ops : Array Oper} {rest : List Oper} {o : Oper} {a : Act} {Q : Exit → Act → World → Prop} {K : Act → World → Prop}
theorem wp_nstore (hg : o.guard = none) (m x u : Operand) (hop : o.op = Op.mapUpdate 53 m x u) {b n : Nat} {f : Int → Option Int} (h : NMap w b n f) (hn : n < maxLen) (hm : a.eval m = .map (some b))
  {k v : Int} (hk : I64 k) (hv : I64 v) (hf : f k = none) (hx : a.eval x = .int .i64 k) (hu : a.eval u = .int .i64 v)
  (hK : ∀ w', NMap w' b (n + 1) (fun y => if y = k then some v else f y) → Chg [b] w w' → wpList Tryz.prog ops Q rest (a.put o.dst undef) w') : wpList Tryz.prog ops Q (o :: rest) a w := by
 refine wpList_plain hg fun K' hK' => ?_
 obtain ⟨w2, hrun, r1, r2⟩ := h.put hn hk hv hf
 unfold Oper.wp
 simp [execOp, hop, hm, hx, hu, hrun, Result.andThen]
 exact hK' _ _ (hK w2 r1 r2)
theorem wp_entry (m x : Operand) (hop : o.op = Op.mapEntry 53 m x) {b : Nat} {k : Int} {w1 : World} {v : Value} (hrun : (Instr.mapEntry 53 (.map (some b)) (.int .i64 k)).run Tryz.prog w = .ok v w1) (hm : a.eval m = .map (some b)) (hx : a.eval x = .int .i64 k)
  (hK : K (a.put o.dst v) w1) : o.wp Tryz.prog a w K Q := by
 unfold Oper.wp
 simp [execOp, hop, hm, hx, hrun, Result.andThen]
 exact hK
theorem wp_estore (m x u : Operand) (hop : o.op = Op.entryStore 53 m x u) {b : Nat} {st v : Int} {w1 : World} (hrun : (Instr.entryStore 53 (.map (some b)) (.int .i64 st) (.int .i64 v)).run Tryz.prog w = .ok () w1) (hm : a.eval m = .map (some b)) (hx : a.eval x = .int .i64 st) (hu : a.eval u = .int .i64 v)
  (hK : K (a.put o.dst undef) w1) : o.wp Tryz.prog a w K Q := by
 unfold Oper.wp
 simp [execOp, hop, hm, hx, hu, hrun, Result.andThen]
 exact hK
end
structure RotaAt (w : World) (rb : Nat) (T : List (List Int)) (lv pl : Int → Option Int) (ds : List Int) (vt vd : Value) (lb pb n m : Nat) : Prop where
 cells : w.heap[rb]? = some (.cells #[vt, .map (some lb), .map (some pb), vd] 127 (0, 0))
 turn : RowsAt w vt T
 leaves : IMap w lb n lv
 place : IMap w pb m pl
 darts : IntsAt w vd ds
theorem beside_some (rb : Nat) (T : List (List Int)) (lv pl : Int → Option Int) (ds : List Int) (vt vd : Value) (lb pb n m : Nat) (d step : Int) (v i j : Nat) (w : World) (hd : I64 d) (hl : lv d = some (v : Int)) (hp : pl d = some (i : Int)) (hv : v < T.length) (_hT : T.length < 4294967296) (hi : i < (T.getD v []).length) (hlen : (T.getD v []).length < 4294967296)
  (hs : -1 ≤ step ∧ step ≤ 1) (hj : Int.tmod ((i : Int) + step + ((T.getD v []).length : Int)) ((T.getD v []).length : Int) = (j : Int)) (hjl : j < (T.getD v []).length) (h : RotaAt w rb T lv pl ds vt vd lb pb n m) :
  Calls Tryz.prog 102 #[.pointer (some ⟨rb, 0, none⟩), .int .i64 d, .int .i64 step] w fun e w' => e = .returned (.tuple #[.int .i64 ((T.getD v []).getD j 0), .bool true]) ∧ w = w' := by
 obtain ⟨tto, tc, rfl, -, htc⟩ := h.turn
 obtain ⟨tb, toff, u, rfl, hu, -, hints⟩ := htc v hv
 obtain ⟨uo, uc, rfl, -, -, huc⟩ := hints
 obtain ⟨ub, uoff, rfl, hcell⟩ := huc (by intro e; rw [e] at hi; simp at hi)
 have cj := hcell j hjl
 have c0 := (cell_of_row _ _ 0 _ _ _ h.cells).trans (show _ = some (Value.slice (some ⟨tb, toff, none⟩) T.length tc) from rfl)
 have c1 := (cell_of_row _ _ 1 _ _ _ h.cells).trans (show _ = some (Value.map (some lb)) from rfl)
 have c2 := (cell_of_row _ _ 2 _ _ _ h.cells).trans (show _ = some (Value.map (some pb)) from rfl)
 have HL := lh hl
 have HP := lh (show (pl d).getD 0 = (i : Int) by rw [hp]; rfl)
 have HM := lh h.leaves
 have HQ := lh h.place
 clear hl hp h htc huc hcell
 generalize (T.getD v []).getD j 0 = z at *
 generalize (T.getD v []).length = len at *
 have hz : ((len : Int) == 0) = false := by rw [beq_eq_false_iff_ne]; omega
 have tok1 : True := trivial
 go_enter Tryz.func102, Tryz.ntmps102
 go_wp2_with (first
  | (at_lookup; have _t := tok1; refine wp_look_hit _ rfl _ _ rfl HM.out rfl hd rfl HL ?_; clear tok1)
  | (at_lookup; refine wp_look _ rfl _ _ rfl HQ.out rfl hd rfl HP ?_))
 exact bodyPost_ret (v := .tuple #[.int .i64 z, .bool true]) (by simp [results, Tryz.results102, go_sem]) rfl ⟨rfl, rfl⟩
end Go.Proofs.YtckjpaimbmlboaaGreat
