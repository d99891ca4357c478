/- package sets: what an object is in memory; contracts of can, put, root. Conditions: an object that stands in memory; any int. -/
import Derived.Test.YtpcgklagmcnhaaaGreatT7Turns
namespace Go.Proofs.YtpcgklagmcnhaaaGreat
open Go.RowKit Go.Maps
structure SetsAt (w : World) (pb mb : Nat) (tv uv : Value) (up : List Nat) (s : St) : Prop where
 cells : w.heap[pb]? = some (.cells #[.map (some mb), tv, uv, .int .i64 s.count] 206 (0, 0))
 map : IMap w mb s.all.length (pos s.all)
 things : w.ownsRow 0 3 1 tv s.all.length (s.all.map (Value.int .i64))
 ups : w.ownsRow 0 3 1 uv up.length (up.map fun (k : Nat) => .int .i64 (k : Int))
 apart : tv.ownBlock = none ∨ tv.ownBlock ≠ uv.ownBlock
 up : Up up s.grp
 len : s.all.length = s.grp.length
 nodup : s.all.Nodup
 small : ∀ x ∈ s.all, I64 x
def SetsAt.blocks (pb mb : Nat) (tv uv : Value) : List Nat := [pb, mb] ++ tv.ownBlock.toList ++ uv.ownBlock.toList
def SetsObj (w : World) (pb : Nat) (own : List Nat) (s : St) : Prop := ∃ mb tv uv up, SetsAt w pb mb tv uv up s ∧ own = SetsAt.blocks pb mb tv uv
theorem owns_chg {w w' : World} {own : List Nat} {v : Value} {n : Nat} {xs : List Value} {e : TypeId} {size base : Nat} (h : w.ownsRow base e size v n xs) (hc : Chg own w w') (hn : ∀ b, v.ownBlock = some b → b ∉ own) : w'.ownsRow base e size v n xs := by
 obtain ⟨h1, h2⟩ := h
 refine ⟨h1, ?_⟩
 rcases h2 with h2 | ⟨g, cap, cur, hv, hg, hh, r⟩
 ·exact Or.inl h2
 exact Or.inr ⟨g, cap, cur, hv, hg, hc.heap hh (hn g (by rw [hv]; rfl)), r⟩
theorem owns_shape {w : World} {v : Value} {n : Nat} {xs : List Value} {e : TypeId} {size base : Nat} (h : w.ownsRow base e size v n xs) : ∃ ao cap, v = .slice ao n cap := by
 rcases h.2 with ⟨rfl, rfl⟩ | ⟨g, cap, _, rfl, _⟩
 all_goals grind
theorem owns_some {w : World} {v : Value} {n : Nat} {xs : List Value} {e : TypeId} {size base : Nat} (h : w.ownsRow base e size v n xs) (hn : 0 < n) : ∃ g cap, v = .slice (some ⟨g, 0, none⟩) n cap := by
 rcases h.2 with ⟨rfl, rfl⟩ | ⟨g, cap, _, rfl, _⟩
 all_goals grind
theorem SetsAt.chg {w w' : World} {own : List Nat} {pb mb : Nat} {tv uv : Value} {up : List Nat} {s : St} (h : SetsAt w pb mb tv uv up s) (hc : Chg own w w') (hn : ∀ b ∈ SetsAt.blocks pb mb tv uv, b ∉ own) : SetsAt w' pb mb tv uv up s :=
 ⟨hc.heap h.cells (hn pb (by simp [SetsAt.blocks])), h.map.chg hc (hn mb (by simp [SetsAt.blocks])), owns_chg h.things hc (fun b hb => hn b (by simp [SetsAt.blocks, hb])), owns_chg h.ups hc (fun b hb => hn b (by simp [SetsAt.blocks, hb])), h.apart, h.up, h.len, h.nodup, h.small⟩
theorem can1_any (p : Addr) (x : Bool) (w : World) (hc : w.cell? p = some (.bool x)) (hz : w.frozen? p = false) :
  CallsD Tryz.prog 176 #[.pointer (some p)] .returning w fun e u' w' => e = .returned (.tuple #[]) ∧ u' = .returning ∧ w' = w.setCell p (.bool true) := by
 refine callsD_of_wpS Tryz.func176 rfl fun c₀ cs hu => ?_
 apply wpS_region
 simp [wpOpsS, go_sem, recoverD, hu, Tryz.ntmps176, hc, hz, bodyPostS, results, Tryz.results176]
 cases c₀
 simp_all
theorem can_any (pb : Nat) (own : List Nat) (s : St) (x : Int) (w : World) (hx : I64 x) (h : SetsObj w pb own s) :
  Calls Tryz.prog 160 #[.pointer (some ⟨pb, 0, none⟩), .int .i64 x] w fun e w' => e = .returned (.bool true) ∧ Chg [] w w' := by
 have hmf : ∀ (fn : Fn) (first cap : Array Value) (w : World), (Instr.makeFunc fn first cap).run Tryz.prog w = .ok (.func fn first cap) w := fun _ _ _ _ => rfl
 obtain ⟨mb, tv, uv, up, h, -⟩ := h
 have hc := h.cells
 have hc0 : w.cell? ⟨pb, 0, none⟩ = some (.map (some mb)) := by simp [World.cell?, hc]
 have hlt := lt_of_block hc
 have hm := h.map
 clear hc
 go_enter_defers Tryz.func160, Tryz.ntmps160
 go_wp2_with (at_lookup; refine wp_look _ rfl _ _ rfl (hm.alloc _) rfl hx rfl (v := _) (Lib.hid rfl) ?_)
 refine leaves_cons (f := 176) (args := #[.pointer (some ⟨w.heap.size, 0, none⟩)]) (by simp) (by simp [go_sem]) ?_
 refine (can1_any ⟨w.heap.size, 0, none⟩ true _ ?_ ?_).mono ?_
 ·simp [go_sem]
 ·simp [go_sem]
 rintro e u' w'' ⟨rfl, rfl, rfl⟩
 simp [Leaves, settle, results, Tryz.results160, go_sem]
 exact (Chg.refl [] w).alloc _
theorem SetsAt.c0 {w : World} {pb mb : Nat} {tv uv : Value} {up : List Nat} {s : St} (h : SetsAt w pb mb tv uv up s) : w.cell? ⟨pb, 0, none⟩ = some (.map (some mb)) := by simp [World.cell?, h.cells]
theorem SetsAt.c1 {w : World} {pb mb : Nat} {tv uv : Value} {up : List Nat} {s : St} (h : SetsAt w pb mb tv uv up s) : w.cell? ⟨pb, 1, none⟩ = some tv := by simp [World.cell?, h.cells]
theorem SetsAt.c2 {w : World} {pb mb : Nat} {tv uv : Value} {up : List Nat} {s : St} (h : SetsAt w pb mb tv uv up s) : w.cell? ⟨pb, 2, none⟩ = some uv := by simp [World.cell?, h.cells]
theorem SetsAt.c3 {w : World} {pb mb : Nat} {tv uv : Value} {up : List Nat} {s : St} (h : SetsAt w pb mb tv uv up s) : w.cell? ⟨pb, 3, none⟩ = some (.int .i64 s.count) := by simp [World.cell?, h.cells]
theorem SetsAt.free {w : World} {pb mb : Nat} {tv uv : Value} {up : List Nat} {s : St} (h : SetsAt w pb mb tv uv up s) (i : Nat) : w.frozen? ⟨pb, i, none⟩ = false := by simp [World.frozen?, h.cells]
theorem SetsAt.upCell {w : World} {pb mb g cap : Nat} {tv : Value} {up : List Nat} {n : Nat} {s : St} (h : SetsAt w pb mb tv (.slice (some ⟨g, 0, none⟩) n cap) up s) (hn : n = up.length) (i : Nat) (hi : i < up.length) : w.cell? ⟨g, i, none⟩ = some (.int .i64 ((up.getD i 0 : Nat) : Int)) := by
 subst hn
 rw [h.ups.cellAt i (by omega)]
 grind
theorem SetsAt.upFree {w : World} {pb mb g cap : Nat} {tv : Value} {up : List Nat} {n : Nat} {s : St} (h : SetsAt w pb mb tv (.slice (some ⟨g, 0, none⟩) n cap) up s) (hn : n = up.length) (i : Nat) : w.frozen? ⟨g, i, none⟩ = false := by
 subst hn
 exact h.ups.frozenAt i
theorem SetsAt.upNe {w : World} {pb mb g cap : Nat} {tv : Value} {up : List Nat} {n : Nat} {s : St} (h : SetsAt w pb mb tv (.slice (some ⟨g, 0, none⟩) n cap) up s) : g ≠ pb ∧ g ≠ mb ∧ tv.ownBlock ≠ some g := by
 rcases h.ups.2 with ⟨e, _⟩ | ⟨g', cap', cur, e, _, hg, _⟩
 ·simp at e
 simp only [Value.slice.injEq, Option.some.injEq, Addr.mk.injEq, and_true] at e
 obtain ⟨rfl, rfl⟩ := e.1, e.2.2
 refine ⟨fun e => ?_, h.map.ne hg, fun e => ?_⟩
 ·rw [e, h.cells] at hg
  simp at hg
 rcases h.apart with q | q
 ·rw [e] at q; cases q
 exact q e
theorem SetsAt.upSet {w : World} {pb mb g cap : Nat} {tv : Value} {up : List Nat} {n : Nat} {s : St} (h : SetsAt w pb mb tv (.slice (some ⟨g, 0, none⟩) n cap) up s) (hn : n = up.length) (i v : Nat) (hu : Up (up.set i v) s.grp) :
  SetsAt (w.setCell ⟨g, i, none⟩ (.int .i64 v)) pb mb tv (.slice (some ⟨g, 0, none⟩) n cap) (up.set i v) s := by
 obtain ⟨n1, n2, n3⟩ := h.upNe
 subst hn
 have hs := h.ups.stored i (.int .i64 v)
 have hg := hs.2
 refine ⟨?_, h.map.kept hg (by grind), h.things.kept hg (Or.inr n3), ?_, h.apart, hu, h.len, h.nodup, h.small⟩
 ·rw [Below.heap_setCell _ _ _ _ (by grind)]
  exact h.cells
 have := hs.1
 rw [List.length_set, List.map_set]
 exact this
theorem SetsAt.drew {w : World} {pb mb : Nat} {tv uv : Value} {up : List Nat} {s : St} (h : SetsAt w pb mb tv uv up s) : SetsAt w.drew pb mb tv uv up s := ⟨h.cells, h.map, h.things, h.ups, h.apart, h.up, h.len, h.nodup, h.small⟩
set_option maxHeartbeats 400000 in
theorem root_any (pb mb g cap : Nat) (tv : Value) (up : List Nat) (s : St) (i : Nat) (w : World) (hi : i < up.length) (h : SetsAt w pb mb tv (.slice (some ⟨g, 0, none⟩) up.length cap) up s) :
  Calls Tryz.prog 162 #[.pointer (some ⟨pb, 0, none⟩), .int .i64 i] w fun e w' => e = .returned (.int .i64 (s.hd i)) ∧ (∃ up', up'.length = up.length ∧ SetsAt w' pb mb tv (.slice (some ⟨g, 0, none⟩) up.length cap) up' s ∧ up'.getD (s.hd i) 0 = s.hd i) ∧ Chg [g] w w' := by
 go_enter Tryz.func162, Tryz.ntmps162
 go_wp2
 go_loopw [1] (fun v wr => ∃ (j : Nat) (up' : List Nat), v = .int .i64 j ∧ j < up.length ∧ s.hd j = s.hd i ∧ up'.length = up.length ∧ SetsAt wr pb mb tv (.slice (some ⟨g, 0, none⟩) up.length cap) up' s ∧ Chg [g] w wr) (fun v _ => (intOf v).toNat)
 case atStart => exact ⟨i, up, rfl, hi, rfl, rfl, h, Chg.refl _ _⟩
 case round =>
  obtain ⟨j, up', rfl, hj, hij, hul, hat, hch⟩ := hrel
  have c2 := hat.c2
  have HU := Lib.hid hul
  have cj := hat.upCell hul.symm j (by omega)
  have fj := hat.upFree hul.symm j
  have hle := (hat.up.2 j (by omega)).1
  have ck := hat.upCell hul.symm (up'.getD j 0) (by omega)
  have HN : Hid (up'.getD j 0 ≠ j → SetsAt (wr.setCell ⟨g, j, none⟩ (.int .i64 ((up'.getD (up'.getD j 0) 0 : Nat) : Int))) pb mb tv (.slice (some ⟨g, 0, none⟩) up.length cap) (up'.set j (up'.getD (up'.getD j 0) 0)) s) := fun e => hat.upSet hul.symm _ _ (hat.up.halve (by omega) e)
  have HL : Hid (up'.getD (up'.getD j 0) 0 ≤ up'.getD j 0) := (hat.up.2 (up'.getD j 0) (by omega)).1
  have HE : Hid (s.hd (up'.getD (up'.getD j 0) 0) = s.hd j) := (hat.up.next (by omega)).trans (hat.up.next (by omega))
  have HA := Lib.hid hat
  have HI := Lib.hid hij
  clear hul hat hij h hi
  generalize up'.getD (up'.getD j 0) 0 = m at *
  generalize hk : up'.getD j 0 = k at *
  have HK := Lib.hid hk
  clear hk
  by_cases e : k = j
  ·subst e
   clear ck
   go_wp2
   go_ret
   have hk : s.hd k = k := HA.out.up.fix (by have := HU.out; omega) HK.out
   exact ⟨by rw [← HI.out, hk]; rfl, ⟨up', HU.out, HA.out, by rw [← HI.out, hk]; exact HK.out⟩, hch⟩
  have e2 : (((k : Nat) : Int) != ((j : Nat) : Int)) = true := by rw [bne_iff_ne]; omega
  have HN1 := HN.out e
  clear HN
  go_wp2
  go_region
  have A1 := HN1.drew
  have B1 := (hch.setCell (p := ⟨g, j, none⟩) (by simp) (.int .i64 (m : Int))).drew
  generalize (wr.setCell ⟨g, j, none⟩ (.int .i64 (m : Int))).drew = w2 at A1 B1 ⊢
  have hl2 : up.length = (up'.set j m).length := by rw [List.length_set]; exact HU.out.symm
  have c2' := A1.c2
  have cj' := A1.upCell hl2 j (by omega)
  rw [getD_set _ _ _ _ (by grind), if_pos rfl] at cj'
  clear hl2 HN1
  have HA2 := Lib.hid A1
  clear A1 c2 cj fj ck
  go_wp2
  go_roundw
  case rel => exact ⟨m, up'.set j m, rfl, by have := HL.out; omega, by rw [HE.out, HI.out], by rw [List.length_set]; exact HU.out, HA2.out, B1⟩
  case measure => have := HL.out; simp [intOf]; omega
def Turn (w : World) (pb : Nat) (own : List Nat) (w' : World) (s' : St) : Prop := ∃ own', SetsObj w' pb own' s' ∧ Chg own w w' ∧ ∀ j ∈ own', j ∈ own ∨ w.heap.size ≤ j
theorem put_hit (pb : Nat) (own : List Nat) (s : St) (x : Int) (w : World) (hx : I64 x) (hin : x ∈ s.all) (h : SetsObj w pb own s) :
  Calls Tryz.prog 161 #[.pointer (some ⟨pb, 0, none⟩), .int .i64 x] w fun e w' => e = .returned (.int .i64 ((s.all.idxOf x : Nat) : Int)) ∧ w = w' := by
 obtain ⟨mb, tv, uv, up, h, -⟩ := h
 have c0 := h.c0
 have hm := h.map
 have hp := Lib.hid (pos_some hin)
 clear h hin
 go_enter Tryz.func161, Tryz.ntmps161
 go_wp2_with (at_lookup; refine wp_look_hit _ rfl _ _ rfl hm rfl hx rfl hp ?_)
 go_ret
 exact ⟨rfl, rfl⟩
theorem owns_ne {w : World} {g n cap : Nat} {xs : List Value} (h : w.ownsRow 0 3 1 (.slice (some ⟨g, 0, none⟩) n cap) n xs) {b : Nat} {cs : Array Value} (hb : w.heap[b]? = some (.cells cs 206 (0, 0))) : g ≠ b := by
 rcases h.2 with ⟨e, _⟩ | ⟨g', cap', cur, e, _, hg, _⟩
 all_goals grind
theorem put_one {pb mb : Nat} {tv uv : Value} {up : List Nat} {s : St} {w w1 : World} (h : SetsAt w pb mb tv uv up s) (hg : w.grownBy w1 (some mb)) :
  w1.heap[pb]? = some (.cells #[.map (some mb), tv, uv, .int .i64 s.count] 206 (0, 0)) ∧ w1.ownsRow 0 3 1 tv s.all.length (s.all.map (Value.int .i64)) ∧
   w1.ownsRow 0 3 1 uv up.length (up.map fun (k : Nat) => .int .i64 (k : Int)) ∧ Chg [mb] w w1 := by
 have hch : Chg [mb] w w1 := (Chg.refl _ _).grown hg (by simp)
 have ne : ∀ {v : Value} {n : Nat} {xs : List Value}, w.ownsRow 0 3 1 v n xs → ∀ b, v.ownBlock = some b → b ∉ [mb] := by
  intro v n xs hv b hb
  rcases hv.2 with ⟨rfl, _⟩ | ⟨g, cap, cur, rfl, _, hg, _⟩
  ·simp [Value.ownBlock] at hb
  simp [Value.ownBlock] at hb
  subst hb
  simpa using h.map.ne hg
 exact ⟨hch.heap h.cells (by simpa using h.map.ne h.cells), owns_chg h.things hch (ne h.things), owns_chg h.ups hch (ne h.ups), hch⟩
theorem put_two {pb mb : Nat} {tv uv : Value} {up : List Nat} {s : St} {w w1 w2 : World} {f : Int → Option Int} {g1 cap1 n : Nat} {u : Value} (h : SetsAt w pb mb tv uv up s)
  (hc : w1.heap[pb]? = some (.cells #[.map (some mb), tv, uv, .int .i64 s.count] 206 (0, 0))) (_ht : w1.ownsRow 0 3 1 tv s.all.length (s.all.map (Value.int .i64)))
  (hu : w1.ownsRow 0 3 1 uv up.length (up.map fun (k : Nat) => .int .i64 (k : Int))) (hm : IMap w1 mb n f) (hch1 : Chg [mb] w w1)
  (ho : w2.ownsRow 0 3 1 (.slice (some ⟨g1, 0, none⟩) (s.all.length + 1) cap1) (s.all.length + 1) (s.all.map (Value.int .i64) ++ [u])) (hch2 : Chg tv.ownBlock.toList w1 w2) (hl : tv.ownBlock = some g1 ∨ w1.heap.size ≤ g1) :
  w2.heap[pb]? = some (.cells #[.map (some mb), tv, uv, .int .i64 s.count] 206 (0, 0)) ∧
  (w2.setCell ⟨pb, 1, none⟩ (.slice (some ⟨g1, 0, none⟩) (s.all.length + 1) cap1)).ownsRow 0 3 1 uv up.length (up.map fun (k : Nat) => .int .i64 (k : Int)) ∧
  (w2.setCell ⟨pb, 1, none⟩ (.slice (some ⟨g1, 0, none⟩) (s.all.length + 1) cap1)).ownsRow 0 3 1 (.slice (some ⟨g1, 0, none⟩) (s.all.length + 1) cap1) (s.all.length + 1) (s.all.map (Value.int .i64) ++ [u]) ∧
  (w2.setCell ⟨pb, 1, none⟩ (.slice (some ⟨g1, 0, none⟩) (s.all.length + 1) cap1)).heap[pb]? = some (.cells #[.map (some mb), .slice (some ⟨g1, 0, none⟩) (s.all.length + 1) cap1, uv, .int .i64 s.count] 206 (0, 0)) ∧
  IMap (w2.setCell ⟨pb, 1, none⟩ (.slice (some ⟨g1, 0, none⟩) (s.all.length + 1) cap1)) mb n f ∧
  Chg (SetsAt.blocks pb mb tv uv) w (w2.setCell ⟨pb, 1, none⟩ (.slice (some ⟨g1, 0, none⟩) (s.all.length + 1) cap1)) ∧
  (tv.ownBlock = some g1 ∨ w.heap.size ≤ g1) ∧ uv.ownBlock ≠ some g1 := by
 have hpb : pb ∉ tv.ownBlock.toList := by
  intro e
  obtain ⟨g, cap, cur, rfl, -, hg, -⟩ := h.things.2.resolve_left (by rintro ⟨rfl, _⟩; simp [Value.ownBlock] at e)
  simp [Value.ownBlock] at e
  rw [← e, h.cells] at hg
  simp at hg
 have hmb : mb ∉ tv.ownBlock.toList := by
  intro e
  obtain ⟨g, cap, cur, rfl, -, hg, -⟩ := h.things.2.resolve_left (by rintro ⟨rfl, _⟩; simp [Value.ownBlock] at e)
  simp [Value.ownBlock] at e
  exact h.map.ne hg e.symm
 have hub : ∀ b, uv.ownBlock = some b → b ∉ tv.ownBlock.toList := by
  intro b hb e
  rcases h.apart with q | q
  all_goals grind
 have hc2 := hch2.heap hc hpb
 have hpm : pb ≠ mb := h.map.ne h.cells
 have hup : uv.ownBlock ≠ some pb := by
  intro e
  obtain ⟨g, cap, cur, rfl, -, hg, -⟩ := h.ups.2.resolve_left (by rintro ⟨rfl, _⟩; simp [Value.ownBlock] at e)
  simp [Value.ownBlock] at e
  rw [e, h.cells] at hg
  simp at hg
 have ho' : g1 ≠ pb := owns_ne ho hc2
 refine ⟨hc2, ownsRow_setCell_other (owns_chg hu hch2 hub) hup _, ownsRow_setCell_other ho (by simpa [Value.ownBlock] using ho') _, ?_, ?_, ?_, ?_, ?_⟩
 ·rw [heap_setCell_same hc2]; rfl
 ·exact ((hm.chg hch2 hmb).chg ((Chg.refl [pb] _).setCell (by simp) _) (by grind))
 ·refine ((hch1.mono (by simp [SetsAt.blocks])).trans (hch2.mono (own' := SetsAt.blocks pb mb tv uv) (fun j hj => Or.inl (by grind [SetsAt.blocks]))) (fun j hj => Or.inl hj)).setCell (by simp [SetsAt.blocks]) _
 ·exact hl.imp id (fun q => Nat.le_trans hch1.size q)
 intro e
 rcases hl with q | q
 ·rcases h.apart with r | r
  ·rw [q] at r; cases r
  exact r (q.trans e.symm)
 have := (hu.lt _ e).2
 omega
theorem put_three {pb mb : Nat} {tv uv v1 : Value} {up : List Nat} {s : St} {w w3 w4 : World} {f : Int → Option Int} {g1 cap1 g2 cap2 n : Nat} {u u2 : Value} (h : SetsAt w pb mb tv uv up s) {c2 : Prop}
  (hR : c2 ∧ w3.ownsRow 0 3 1 uv up.length (up.map fun (k : Nat) => .int .i64 (k : Int)) ∧
   w3.ownsRow 0 3 1 (.slice (some ⟨g1, 0, none⟩) (s.all.length + 1) cap1) (s.all.length + 1) (s.all.map (Value.int .i64) ++ [u]) ∧
   w3.heap[pb]? = some (.cells #[.map (some mb), v1, uv, .int .i64 s.count] 206 (0, 0)) ∧ IMap w3 mb n f ∧ Chg (SetsAt.blocks pb mb tv uv) w w3 ∧ (tv.ownBlock = some g1 ∨ w.heap.size ≤ g1) ∧ uv.ownBlock ≠ some g1)
  (ho : w4.ownsRow 0 3 1 (.slice (some ⟨g2, 0, none⟩) (up.length + 1) cap2) (up.length + 1) ((up.map fun (k : Nat) => .int .i64 (k : Int)) ++ [u2])) (hch : Chg uv.ownBlock.toList w3 w4) (hl : uv.ownBlock = some g2 ∨ w3.heap.size ≤ g2) :
  w4.heap[pb]? = some (.cells #[.map (some mb), v1, uv, .int .i64 s.count] 206 (0, 0)) ∧
  w4.ownsRow 0 3 1 (.slice (some ⟨g1, 0, none⟩) (s.all.length + 1) cap1) (s.all.length + 1) (s.all.map (Value.int .i64) ++ [u]) ∧
  w4.ownsRow 0 3 1 (.slice (some ⟨g2, 0, none⟩) (up.length + 1) cap2) (up.length + 1) ((up.map fun (k : Nat) => .int .i64 (k : Int)) ++ [u2]) ∧
  IMap w4 mb n f ∧ Chg (SetsAt.blocks pb mb tv uv) w w4 ∧ (tv.ownBlock = some g1 ∨ w.heap.size ≤ g1) ∧ (uv.ownBlock = some g2 ∨ w.heap.size ≤ g2) ∧ g1 ≠ g2 := by
 obtain ⟨-, hu3, ht3, hc3, hm3, hch3, hg1, hug⟩ := hR
 have hpb : pb ∉ uv.ownBlock.toList := by
  intro e
  obtain ⟨g, cap, cur, rfl, -, hg, -⟩ := h.ups.2.resolve_left (by rintro ⟨rfl, _⟩; simp [Value.ownBlock] at e)
  simp [Value.ownBlock] at e
  rw [← e, h.cells] at hg
  simp at hg
 have hmb : mb ∉ uv.ownBlock.toList := by
  intro e
  obtain ⟨g, cap, cur, rfl, -, hg, -⟩ := h.ups.2.resolve_left (by rintro ⟨rfl, _⟩; simp [Value.ownBlock] at e)
  simp [Value.ownBlock] at e
  exact h.map.ne hg e.symm
 refine ⟨hch.heap hc3 hpb, owns_chg ht3 hch (fun b hb e => ?_), ho, hm3.chg hch hmb, ?_, hg1, hl.imp id (fun q => Nat.le_trans hch3.size q), ?_⟩
 ·simp [Value.ownBlock] at hb
  grind
 ·exact hch3.trans hch (fun j hj => Or.inl (by grind [SetsAt.blocks]))
 intro e
 subst e
 rcases hl with q | q
 ·exact hug q
 have := (ht3.lt g1 rfl).2
 omega
theorem put_close {pb mb : Nat} {tv uv : Value} {up : List Nat} {s : St} {w w6 : World} {g1 cap1 g2 cap2 : Nat} {x : Int} (h : SetsAt w pb mb tv uv up s) (hx : I64 x) (hin : x ∉ s.all)
  (hc : w6.heap[pb]? = some (.cells #[.map (some mb), .slice (some ⟨g1, 0, none⟩) (s.all.length + 1) cap1, .slice (some ⟨g2, 0, none⟩) (up.length + 1) cap2, .int .i64 ((s.count : Int) + 1)] 206 (0, 0)))
  (hm : IMap w6 mb (s.all.length + 1) (fun y => if y = x then some (s.all.length : Int) else pos s.all y))
  (ht : w6.ownsRow 0 3 1 (.slice (some ⟨g1, 0, none⟩) (s.all.length + 1) cap1) (s.all.length + 1) (s.all.map (Value.int .i64) ++ [.int .i64 x]))
  (hu : w6.ownsRow 0 3 1 (.slice (some ⟨g2, 0, none⟩) (up.length + 1) cap2) (up.length + 1) ((up.map fun (k : Nat) => .int .i64 (k : Int)) ++ [.int .i64 ((s.all.length : Nat) : Int)]))
  (hne : g1 ≠ g2) (hg1 : tv.ownBlock = some g1 ∨ w.heap.size ≤ g1) (hg2 : uv.ownBlock = some g2 ∨ w.heap.size ≤ g2)
  (hch : Chg (SetsAt.blocks pb mb tv uv) w w6) : Turn w pb (SetsAt.blocks pb mb tv uv) w6 (s.put x) := by
 have hl : up.length = s.all.length := by rw [h.up.1, h.len]
 have hcount := St.count_put hin h.len
 rw [St.put_new hin] at hcount ⊢
 refine ⟨_, ⟨mb, .slice (some ⟨g1, 0, none⟩) (s.all.length + 1) cap1, .slice (some ⟨g2, 0, none⟩) (up.length + 1) cap2, up ++ [up.length], ⟨?_, ?_, ?_, ?_, ?_, ?_, ?_, ?_, ?_⟩, rfl⟩, hch, ?_⟩
 ·grind
 ·grind [pos_snoc]
 ·grind
 ·grind
 ·exact Or.inr (by simpa [Value.ownBlock] using hne)
 ·have := h.up.put
  rw [← h.len] at this
  exact this
 ·simp [h.len]
 ·exact List.nodup_append.2 ⟨h.nodup, by simp, fun a ha b hb => by grind⟩
 ·intro y hy
  rcases List.mem_append.1 hy with q | q
  ·exact h.small y q
  all_goals grind
 intro j hj
 simp only [SetsAt.blocks, List.mem_append, List.mem_cons, Value.ownBlock, Option.toList, List.mem_nil_iff, or_false] at hj
 all_goals grind [SetsAt.blocks]
set_option maxHeartbeats 400000 in
theorem put_miss (pb : Nat) (own : List Nat) (s : St) (x : Int) (w : World) (hx : I64 x) (hin : x ∉ s.all) (hn : s.all.length < 34359738368) (h : SetsObj w pb own s) :
  Calls Tryz.prog 161 #[.pointer (some ⟨pb, 0, none⟩), .int .i64 x] w fun e w' => e = .returned (.int .i64 (s.all.length : Int)) ∧ Turn w pb own w' (s.put x) := by
 obtain ⟨mb, tv, uv, up, h, rfl⟩ := h
 obtain ⟨ao, cap0, rfl⟩ := owns_shape h.things
 have c0 := h.c0
 have c1 := h.c1
 have c2 := h.c2
 have c3 := h.c3
 have f1 := h.free 1
 have f2 := h.free 2
 have f3 := h.free 3
 have hm := h.map
 have hp := Lib.hid (pos_none hin)
 have hul : up.length = s.all.length := by rw [h.up.1, h.len]
 have hcl := s.count_le
 have hsl := h.len
 have hcn : s.count ≤ 34359738368 := by omega
 have hub : up.length < 34359738368 := by omega
 clear hcl
 have HS := Lib.hid hsl
 have HU := Lib.hid hul
 have HH := Lib.hid h
 have HI := Lib.hid hin
 clear h hsl hul hin
 go_enter Tryz.func161, Tryz.ntmps161
 go_wp2_with (first
  | (at_lookup; refine wp_look_miss _ rfl _ _ rfl hm rfl hx rfl hp ?_)
  | (at_mapUpdate; refine wp_store _ rfl _ _ _ rfl hm (by unfold maxLen; omega) rfl hx (v := (s.all.length : Int)) (WalkArith.wf_i64 (by omega)) rfl rfl ?_; intro w1 hm1 hg1; have R1 := put_one HH.out hg1; clear hg1 c0 c1 c2 c3 f1 f2 f3; have HC1 := Lib.hid R1.1; obtain ⟨c0, c1, c2, c3, f1, f2, f3⟩ := four R1.1; have ht1 := R1.2.1; have hu1 := R1.2.2.1; have hch1 := R1.2.2.2; clear R1)
  | (at_builtin; refine wp_app_int rfl (.tmp 34) (.tmp 36) rfl rfl rfl (by simp) ht1 (Nat.zero_le _) (by omega) ?_; intro g1 cap1 w2 ho1 hch2 hl1; have R2 := put_two HH.out HC1.out ht1 hu1 hm1 hch1 ho1 hch2 hl1; clear hch2 hl1 ht1 hu1 hm1 hch1 c0 c1 c2 c3 f1 f2 f3; have HR2 := Lib.hid R2; obtain ⟨c0, c1, c2, c3, f1, f2, f3⟩ := four R2.1; clear R2)
  | (at_builtin; refine wp_app_int rfl (.tmp 44) (.tmp 46) rfl rfl rfl (by simp) HR2.out.2.1 (Nat.zero_le _) (by omega) ?_; intro g2 cap2 w4 ho2 hch4 hl2; have R4 := put_three HH.out HR2.out ho2 hch4 hl2; clear ho2 hch4 hl2 c0 c1 c2 c3 f1 f2 f3; have HR4 := Lib.hid R4; obtain ⟨c0, c1, c2, c3, f1, f2, f3⟩ := four R4.1; clear R4))
 go_ret
 have R := HR4.out
 have n1 := owns_ne R.2.1 R.1
 have n2 := owns_ne R.2.2.1 R.1
 have hc := ((Chg.refl [pb] w4).setCell (p := ⟨pb, 2, none⟩) (by simp) (.slice (some ⟨g2, 0, none⟩) (up.length + 1) cap2)).setCell (p := ⟨pb, 3, none⟩) (by simp) (.int .i64 ((s.count : Int) + 1))
 refine ⟨rfl, put_close (cap1 := cap1) (cap2 := cap2) HH.out hx HI.out ?_ ?_ ?_ ?_ R.2.2.2.2.2.2.2 R.2.2.2.2.2.1 R.2.2.2.2.2.2.1 ?_⟩
 ·rw [heap_setCell_same (heap_setCell_same R.1 _ _)]; rfl
 ·exact R.2.2.2.1.chg hc (by simpa using (R.2.2.2.1.ne R.1).symm)
 ·exact owns_chg R.2.1 hc (by simpa [Value.ownBlock] using n1)
 ·exact owns_chg R.2.2.1 hc (by simpa [Value.ownBlock] using n2)
 exact R.2.2.2.2.1.trans hc (fun j hj => Or.inl (by grind [SetsAt.blocks]))
theorem Turn.refl {w : World} {pb : Nat} {own : List Nat} {s : St} (h : SetsObj w pb own s) : Turn w pb own w s := ⟨own, h, Chg.refl _ _, fun _ hj => Or.inl hj⟩
theorem Turn.comp {a b c : World} {pb : Nat} {own own1 : List Nat} {t : St} (h : Chg own a b) (hs : ∀ j ∈ own1, j ∈ own ∨ a.heap.size ≤ j) (k : Turn b pb own1 c t) : Turn a pb own c t := by
 obtain ⟨own2, k1, k2, k3⟩ := k
 refine ⟨own2, k1, h.trans k2 hs, fun j hj => ?_⟩
 rcases k3 j hj with q | q
 ·exact hs j q
 exact Or.inr (Nat.le_trans h.size q)
theorem Turn.behind {a b c : World} {pb : Nat} {own : List Nat} {t : St} (h : Chg [] a b) (k : Turn b pb own c t) : Turn a pb own c t := Turn.comp (h.mono (by simp)) (fun _ hj => Or.inl hj) k
theorem idxOf_snoc {l : List Int} {x : Int} (h : x ∉ l) : (l ++ [x]).idxOf x = l.length := by grind
theorem put_any (pb : Nat) (own : List Nat) (s : St) (x : Int) (w : World) (hx : I64 x) (hn : s.all.length < 34359738368) (h : SetsObj w pb own s) :
  Calls Tryz.prog 161 #[.pointer (some ⟨pb, 0, none⟩), .int .i64 x] w fun e w' => e = .returned (.int .i64 (((s.put x).all.idxOf x : Nat) : Int)) ∧ Turn w pb own w' (s.put x) := by
 by_cases hin : x ∈ s.all
 ·rw [St.put_in hin]
  exact (put_hit pb own s x w hx hin h).mono fun e w' ⟨he, hw⟩ => ⟨he, hw ▸ Turn.refl h⟩
 refine (put_miss pb own s x w hx hin hn h).mono fun e w' ⟨he, hw⟩ => ⟨?_, hw⟩
 grind [St.put_new, idxOf_snoc]
end Go.Proofs.YtpcgklagmcnhaaaGreat
