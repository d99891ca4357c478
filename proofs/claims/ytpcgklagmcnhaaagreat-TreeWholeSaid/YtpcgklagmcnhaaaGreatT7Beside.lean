/- pair.beside: contract. Conditions: a right graph, a part that lie in memory and read so. -/
import Derived.Test.YtpcgklagmcnhaaaGreatT7PairW
import Derived.Test.YtpcgklagmcnhaaaGreatT7OpMap
namespace Go.Proofs.YtpcgklagmcnhaaaGreat
open Go.RowKit Go.Maps Go.Shelf Go.Lib Go.Sort
namespace Plain
theorem goU_snoc {g : Gr} {l : List Int} {k : Nat} (u : Int) (hk : k < l.length) : goU g (l.take (k + 1)) u = goU g (l.take k) u ++ (if (g.at (l.getD k 0)).1 = u then [(g.at (l.getD k 0)).2] else if (g.at (l.getD k 0)).2 = u then [(g.at (l.getD k 0)).1] else []) := by
 have e : l.take (k + 1) = l.take k ++ [l.getD k 0] := by rw [List.take_succ_eq_append_getElem hk]; simp [List.getD, hk]
 unfold goU
 rw [e, List.filterMap_append]
 congr 1
 generalize l.getD k 0 = z
 by_cases h1 : (g.at z).1 = u
 ·simp [h1]
 by_cases h2 : (g.at z).2 = u
 ·simp [h1, h2]
 simp [h1, h2]
theorem filter_snoc {l : List Int} {k : Nat} (q : Int → Bool) (hk : k < l.length) : (l.take (k + 1)).filter q = (l.take k).filter q ++ if q (l.getD k 0) = true then [l.getD k 0] else [] := by
 have e : l.take (k + 1) = l.take k ++ [l.getD k 0] := by rw [List.take_succ_eq_append_getElem hk]; simp [List.getD, hk]
 rw [e, List.filter_append]
 congr 1
 generalize l.getD k 0 = z
 by_cases h : q z = true <;> simp [h]
end Plain
theorem Plain.cuts_rise {g : Plain.Gr} {p : Plain.Pt} (hn : g.n ≤ 1024) : (Plain.cutsB g p).Pairwise (· < ·) ∧ (Plain.cutsB g p).length ≤ 100000 := by
 unfold Plain.cutsB
 split
 ·exact ⟨List.Pairwise.nil, by simp⟩
 have h1 := List.length_filter_le (fun v => decide (1 < ((Plain.keysB g p).flatMap (Plain.blkV g p)).count v)) (Plain.ixs g.n.toNat)
 rw [Plain.ixs_len] at h1
 refine ⟨List.Pairwise.filter _ ?_, by omega⟩
 unfold Plain.ixs
 rw [List.pairwise_map]
 exact List.pairwise_lt_range.imp fun h => by omega
theorem hasq_any (v : Value) (l : List Int) (x : Int) (w : World) (hs : l.Pairwise (· < ·)) (hl : l.length < 4611686018427387904) (h : IntsAt w v l) :
  Calls Tryz.prog 62 #[v, .int .i64 x] w fun e w' => e = .returned (.bool (decide (x ∈ l))) ∧ ∃ q, w' = w.drewN q := by
 obtain ⟨ao, cap, rfl, hsm, hm, hcell⟩ := h
 go_enter Tryz.func62, Tryz.ntmps62
 cases l with
 | nil =>
  go_wp2_with (go_at_call 97; refine (Tryz.slices_BinarySearch_int_empty ao cap x _).mono ?_; rintro e w1 ⟨rfl, rfl⟩)
  go_ret
  exact ⟨ret_bool (by simp), 0, rfl⟩
 | cons y r =>
  obtain ⟨b, off, rfl, hc⟩ := hcell (by simp)
  have HS := Lib.hid (show ((y :: r).take (y :: r).length).Pairwise (· ≤ ·) by rw [List.take_length]; exact hs.imp (fun h => by omega))
  have HC := Lib.hid hc
  have HL := Lib.hid hl
  have HT := Lib.hid (show ((y :: r).take (y :: r).length).contains x = decide (x ∈ y :: r) by grind)
  clear hs hc hcell hsm
  generalize y :: r = l at *
  go_wp2_with (go_at_call 97; refine (Tryz.slices_BinarySearch_int b off l.length cap l x _ (Nat.le_refl _) HL.out HC.out HS.out).mono ?_; rintro e w1 ⟨rfl, q, rfl⟩)
  go_ret
  exact ⟨rfl, q, rfl⟩
def besideQ (u : Int) (M cuts : List Int) (v : Int) : Bool := decide (v < u) || (decide ((M.count v : Int) < 2) && !decide (v ∈ cuts))
set_option maxRecDepth 100000 in
theorem beside1_any (ub nb cb mb n : Nat) (u v : Int) (M cuts : List Int) (cv : Value) (W : World) (hv : I64 v) (hs : cuts.Pairwise (· < ·)) (hl : cuts.length < 4611686018427387904)
  (h1 : W.cell? ⟨ub, 0, none⟩ = some (.int .i64 u)) (h2 : W.cell? ⟨nb, 0, none⟩ = some (.map (some mb))) (h3 : W.cell? ⟨cb, 0, none⟩ = some cv) (hm : IMap W mb n (Plain.cntF M)) (hc : IntsAt W cv cuts) :
  FnGives Tryz.prog 122 #[.pointer (some ⟨ub, 0, none⟩), .pointer (some ⟨nb, 0, none⟩), .pointer (some ⟨cb, 0, none⟩)] #[.int .i64 v] (.bool (besideQ u M cuts v)) W := by
 show Calls Tryz.prog 122 #[.int .i64 v, .pointer (some ⟨ub, 0, none⟩), .pointer (some ⟨nb, 0, none⟩), .pointer (some ⟨cb, 0, none⟩)] W _
 have HM := Lib.hid hm
 have HC := Lib.hid hc
 have HS := Lib.hid hs
 have HLL := Lib.hid hl
 have hrun := hm.run hv
 rw [Plain.cntF_get M v] at hrun
 obtain ⟨co, cc, rfl, -, -, -⟩ := hc
 have HQ := Lib.hid (show besideQ u M cuts v = (decide (v < u) || (decide ((M.count v : Int) < 2) && !decide (v ∈ cuts))) from rfl)
 obtain ⟨q, hq⟩ : ∃ q : Int, (M.count v : Int) = q := ⟨_, rfl⟩
 rw [hq] at hrun HQ
 clear hm hs hl hq
 by_cases h4 : v < u
 ·rw [decide_eq_true h4, Bool.true_or] at HQ
  go_enter Tryz.func122, Tryz.ntmps122
  go_wp2
  go_ret
  exact ⟨ret_bool HQ.out.symm, 0, rfl⟩
 rw [decide_eq_false h4, Bool.false_or] at HQ
 by_cases h5 : q < 2
 ·rw [decide_eq_true h5, Bool.true_and] at HQ
  go_enter Tryz.func122, Tryz.ntmps122
  go_wp2_with fail
  refine (hasq_any _ cuts v _ HS.out HLL.out HC.out).mono ?_
  rintro e w2 ⟨rfl, q, rfl⟩
  go_wp2
  go_ret
  exact ⟨ret_bool HQ.out.symm, q, rfl⟩
 rw [decide_eq_false h5, Bool.false_and] at HQ
 go_enter Tryz.func122, Tryz.ntmps122
 go_wp2
 go_ret
 exact ⟨ret_bool HQ.out.symm, 0, rfl⟩
def I6 : Type := {x : Int // I64 x}
def I6.val (z : I6) : Value := .int .i64 z.1
instance : Inhabited I6 := ⟨⟨0, I64.mk (by omega) (by omega)⟩⟩
theorem i6_list : ∀ (A : List Int), (∀ x ∈ A, I64 x) → ∃ d : List I6, d.map (fun z => z.1) = A
 | [], _ => ⟨[], rfl⟩
 | x :: A, h => by
  obtain ⟨d, hd⟩ := i6_list A fun y hy => h y (List.mem_cons_of_mem _ hy)
  exact ⟨⟨x, h x (by simp)⟩ :: d, congrArg (x :: ·) hd⟩
theorem delB_any (g c B ub nb cb mb n : Nat) (u : Int) (A M cuts : List Int) (cv : Value) (w : World) (h : RowAt w B (.slice (some ⟨g, 0, none⟩) A.length c) A) (hA : A.length ≤ 100000) (hs : cuts.Pairwise (· < ·)) (hl : cuts.length < 4611686018427387904)
  (h1 : w.cell? ⟨ub, 0, none⟩ = some (.int .i64 u)) (h2 : w.cell? ⟨nb, 0, none⟩ = some (.map (some mb))) (h3 : w.cell? ⟨cb, 0, none⟩ = some cv) (hm : IMap w mb n (Plain.cntF M)) (hc : IntsAt w cv cuts) (n1 : ub ≠ g) (n2 : nb ≠ g) (n3 : cb ≠ g) (n4 : mb ≠ g) (n5 : ∀ b n c, cv = .slice (some b) n c → b.block ≠ g) :
  Calls Tryz.prog 121 #[.slice (some ⟨g, 0, none⟩) A.length c, .func (.func 122) #[] #[.pointer (some ⟨ub, 0, none⟩), .pointer (some ⟨nb, 0, none⟩), .pointer (some ⟨cb, 0, none⟩)]] w fun e w' =>
   e = .returned (.slice (some ⟨g, 0, none⟩) (A.filter fun v => !besideQ u M cuts v).length c) ∧ RowAt w' B (.slice (some ⟨g, 0, none⟩) (A.filter fun v => !besideQ u M cuts v).length c) (A.filter fun v => !besideQ u M cuts v) ∧ Chg [g] w w' := by
 have eg : ∀ args w, (callFunc 122 args).run Tryz.prog w = .ok (.enter 122 args) w := enters_of Tryz.func122 (by kernel_rfl) rfl
 obtain ⟨d, hd⟩ := i6_list A h.2.1
 have hdl : d.length = A.length := by rw [← hd, List.length_map]
 have hown := h.1
 obtain ⟨hcap, hmax⟩ : A.length ≤ c ∧ c ≤ 9223372036854775807 := by
  rcases hown.2 with ⟨q, -⟩ | ⟨g', c', cur, q, -, -, h3, h4, -⟩
  ·cases q
  cases q
  exact ⟨h3, by simpa [maxLen] using h4⟩
 have hints : ints A = d.map I6.val := by rw [← hd]; unfold ints; rw [List.map_map]; rfl
 have hgl : g < w.heap.size := (h.low g (by simp [Value.ownBlock])).2
 have gives : ∀ W, Chg [g] w W → ∀ x : I6, FnGives Tryz.prog 122 #[.pointer (some ⟨ub, 0, none⟩), .pointer (some ⟨nb, 0, none⟩), .pointer (some ⟨cb, 0, none⟩)] #[x.val] (.bool (besideQ u M cuts x.1)) W := fun W hW x =>
  beside1_any ub nb cb mb n u x.1 M cuts cv W x.2 hs hl (hW.cell h1 (by simpa using n1)) (hW.cell h2 (by simpa using n2)) (hW.cell h3 (by simpa using n3)) (hm.chg hW (by simpa using n4)) (hc.chg hW fun b n c e => by simpa using n5 b n c e)
 have hil : (ints A).length = A.length := by simp [ints]
 rw [← hil] at hown
 have hH : Go.Sort.Holds I6.val w g 0 d.toArray := sorted_holds hown hints.symm
 have hcon := AnyE.slices_DeleteFunc Tryz.delInts I6.val (fun _ => rfl) (fun x => besideQ u M cuts x.1) 122 #[.pointer (some ⟨ub, 0, none⟩), .pointer (some ⟨nb, 0, none⟩), .pointer (some ⟨cb, 0, none⟩)] eg default Tryz.zeroValue3 g 0 c d.toArray w
  (fun W x hb => gives W ((Chg.of_below hb (Nat.le_refl _)).mono (by simp)) x) (fun m os dk x _ => gives _ (sorted_chg I6.val w g m os dk) x) hH (by simp; omega) (by simp; omega)
 change Calls Tryz.prog 121 _ _ _ at hcon
 rw [show d.toArray.size = A.length by simp [hdl]] at hcon
 refine hcon.mono ?_
 have hfl : ((d.toArray.toList.filter fun x => !besideQ u M cuts x.1).map fun z => z.1) = A.filter fun v => !besideQ u M cuts v := by
  rw [← hd]
  show (d.filter _).map _ = _
  rw [List.filter_map]
  rfl
 have hfll : (d.toArray.toList.filter fun x => !besideQ u M cuts x.1).length = (A.filter fun v => !besideQ u M cuts v).length := by rw [← hfl, List.length_map]
 rintro e w' ⟨rfl, q, rfl⟩
 rw [hfll]
 obtain ⟨D, hD⟩ : ∃ D, ((d.toArray.toList.filter fun x => !besideQ u M cuts x.1) ++ List.replicate (A.length - (A.filter fun v => !besideQ u M cuts v).length) (default : I6)) = D := ⟨_, rfl⟩
 have hle : (A.filter fun v => !besideQ u M cuts v).length ≤ A.length := List.length_filter_le _ _
 have hDl : D.length = A.length := by rw [← hD, List.length_append, List.length_replicate, hfll]; omega
 rw [hD]
 have he : Go.Sort.putRow I6.val (Go.Sort.ahead w q) g 0 D.toArray = sortWorld I6.val w g 0 q D.toArray #[] := by
  unfold sortWorld
  simp [Go.Sort.grow]
  rfl
 rw [he]
 have hso := sorted_owns (enc := I6.val) (n := q) (os := #[]) (d := D.toArray) hown (by simp [hDl, hil])
 have hless := owns_short hso (m := (A.filter fun v => !besideQ u M cuts v).length) (by rw [hil]; exact hle)
 have hxs : (D.toArray.toList.map I6.val).take ((A.filter fun v => !besideQ u M cuts v).length * 1) = ints (A.filter fun v => !besideQ u M cuts v) := by
  rw [Nat.mul_one, ← List.map_take]
  show List.map _ (D.take _) = _
  rw [← hD, ← hfll, List.take_left, ← hfl]
  unfold ints
  rw [List.map_map]
  rfl
 rw [hxs] at hless
 exact ⟨rfl, ⟨hless, fun x hx => h.2.1 x ((List.mem_filter.1 hx).1), by omega⟩, sorted_chg _ _ _ _ _ _⟩
set_option maxRecDepth 100000 in
set_option maxHeartbeats 16000000 in
theorem beside_any (vg vp : Value) (g : Plain.Gr) (p : Plain.Pt) (u : Int) (w : World) (_hu : I64 u) (hpe : p.err g = 0) (hne : (Plain.restU g p u).v ≠ []) (hg : GrAt w vg g) (hp : PtAt w vp p) :
  Calls Tryz.prog 77 #[vg, vp, .int .i64 u] w fun e w' => ∃ ov, e = .returned ov ∧ RowAt w' w.heap.size ov (Plain.besideK g p u) ∧ Chg [] w w' := by
 have HPE := Lib.hid hpe
 have HG := Lib.hid hg
 have HP := Lib.hid hp
 obtain ⟨eo, cap, rfl, -, hm, hsm, hcell⟩ := hg
 have HSM := Lib.hid hsm
 have HCE := Lib.hid hcell
 obtain ⟨v1, v2, rfl, hpv, hpee⟩ := hp
 have HPV := Lib.hid hpv
 have HPEE := Lib.hid hpee
 obtain ⟨ao, ac, rfl, -, -, -⟩ := hpv
 obtain ⟨bo, bc, rfl, -, -, -⟩ := hpee
 have hvl := rises_len (Plain.Pt.err_ok hpe).2.1
 have hel := rises_len (Plain.Pt.err_ok hpe).2.2.1
 have hge := Plain.Gr.err_ok (Plain.Pt.err_ok hpe).1
 have HEI := Lib.hid (fun k (hk : k < p.e.length) => (Plain.rises_at (Plain.Pt.err_ok hpe).2.2.1 hk))
 have hvl2 : p.v.length ≤ 1024 := by omega
 have hel2 : p.e.length ≤ 1024 := by omega
 have HGE := Lib.hid hge
 clear hsm hcell hpe hge hvl hel
 have HXC := Lib.hid (show Chg [] w ((((w.alloc (.cells #[.int .i64 g.n, .slice eo g.e.length cap] 41)).alloc (.cells #[.slice ao p.v.length ac, .slice bo p.e.length bc] 43)).alloc (.cells #[.int .i64 u] 3)).alloc (.cells #[.slice none 0 0, .slice none 0 0] 43)) from (show Chg [] w ((((w.alloc (.cells #[.int .i64 g.n, .slice eo g.e.length cap] 41)).alloc (.cells #[.slice ao p.v.length ac, .slice bo p.e.length bc] 43)).alloc (.cells #[.int .i64 u] 3)).alloc (.cells #[.slice none 0 0, .slice none 0 0] 43)) from (((((Chg.refl [] w).alloc _).alloc _).alloc _).alloc _)))
 have qbx0 := heap_alloc_new w (.cells #[.int .i64 g.n, .slice eo g.e.length cap] 41)
 replace qbx0 := (show Chg [] (w.alloc (.cells #[.int .i64 g.n, .slice eo g.e.length cap] 41)) ((((w.alloc (.cells #[.int .i64 g.n, .slice eo g.e.length cap] 41)).alloc (.cells #[.slice ao p.v.length ac, .slice bo p.e.length bc] 43)).alloc (.cells #[.int .i64 u] 3)).alloc (.cells #[.slice none 0 0, .slice none 0 0] 43)) from ((((Chg.refl [] (w.alloc (.cells #[.int .i64 g.n, .slice eo g.e.length cap] 41))).alloc _).alloc _).alloc _)).heap qbx0 (by simp)
 have qbx1 := heap_alloc_new (w.alloc (.cells #[.int .i64 g.n, .slice eo g.e.length cap] 41)) (.cells #[.slice ao p.v.length ac, .slice bo p.e.length bc] 43)
 rw [show (w.alloc (.cells #[.int .i64 g.n, .slice eo g.e.length cap] 41)).heap.size = w.heap.size + 1 by simp] at qbx1
 replace qbx1 := (show Chg [] ((w.alloc (.cells #[.int .i64 g.n, .slice eo g.e.length cap] 41)).alloc (.cells #[.slice ao p.v.length ac, .slice bo p.e.length bc] 43)) ((((w.alloc (.cells #[.int .i64 g.n, .slice eo g.e.length cap] 41)).alloc (.cells #[.slice ao p.v.length ac, .slice bo p.e.length bc] 43)).alloc (.cells #[.int .i64 u] 3)).alloc (.cells #[.slice none 0 0, .slice none 0 0] 43)) from (((Chg.refl [] ((w.alloc (.cells #[.int .i64 g.n, .slice eo g.e.length cap] 41)).alloc (.cells #[.slice ao p.v.length ac, .slice bo p.e.length bc] 43))).alloc _).alloc _)).heap qbx1 (by simp)
 have qbx2 := heap_alloc_new ((w.alloc (.cells #[.int .i64 g.n, .slice eo g.e.length cap] 41)).alloc (.cells #[.slice ao p.v.length ac, .slice bo p.e.length bc] 43)) (.cells #[.int .i64 u] 3)
 rw [show ((w.alloc (.cells #[.int .i64 g.n, .slice eo g.e.length cap] 41)).alloc (.cells #[.slice ao p.v.length ac, .slice bo p.e.length bc] 43)).heap.size = w.heap.size + 2 by simp] at qbx2
 replace qbx2 := (show Chg [] (((w.alloc (.cells #[.int .i64 g.n, .slice eo g.e.length cap] 41)).alloc (.cells #[.slice ao p.v.length ac, .slice bo p.e.length bc] 43)).alloc (.cells #[.int .i64 u] 3)) ((((w.alloc (.cells #[.int .i64 g.n, .slice eo g.e.length cap] 41)).alloc (.cells #[.slice ao p.v.length ac, .slice bo p.e.length bc] 43)).alloc (.cells #[.int .i64 u] 3)).alloc (.cells #[.slice none 0 0, .slice none 0 0] 43)) from ((Chg.refl [] (((w.alloc (.cells #[.int .i64 g.n, .slice eo g.e.length cap] 41)).alloc (.cells #[.slice ao p.v.length ac, .slice bo p.e.length bc] 43)).alloc (.cells #[.int .i64 u] 3))).alloc _)).heap qbx2 (by simp)
 have qbx3 := heap_alloc_new (((w.alloc (.cells #[.int .i64 g.n, .slice eo g.e.length cap] 41)).alloc (.cells #[.slice ao p.v.length ac, .slice bo p.e.length bc] 43)).alloc (.cells #[.int .i64 u] 3)) (.cells #[.slice none 0 0, .slice none 0 0] 43)
 rw [show (((w.alloc (.cells #[.int .i64 g.n, .slice eo g.e.length cap] 41)).alloc (.cells #[.slice ao p.v.length ac, .slice bo p.e.length bc] 43)).alloc (.cells #[.int .i64 u] 3)).heap.size = w.heap.size + 3 by simp] at qbx3
 have HX := Lib.hid (fun (w2 : World) (hbx : Chg [] ((((w.alloc (.cells #[.int .i64 g.n, .slice eo g.e.length cap] 41)).alloc (.cells #[.slice ao p.v.length ac, .slice bo p.e.length bc] 43)).alloc (.cells #[.int .i64 u] 3)).alloc (.cells #[.slice none 0 0, .slice none 0 0] 43)) w2) => (⟨hbx.cell ((cell_of_row _ _ 0 _ _ _ qbx0).trans rfl) (by simp), hbx.cell ((cell_of_row _ _ 1 _ _ _ qbx0).trans rfl) (by simp), hbx.cell ((cell_of_row _ _ 0 _ _ _ qbx1).trans rfl) (by simp), hbx.cell ((cell_of_row _ _ 1 _ _ _ qbx1).trans rfl) (by simp), hbx.cell ((cell_of_row _ _ 0 _ _ _ qbx2).trans rfl) (by simp), hbx.heap qbx3 (by simp), by have hz := hbx.size; simpa using hz⟩ : w2.cell? ⟨w.heap.size, 0, none⟩ = some (.int .i64 g.n) ∧ w2.cell? ⟨w.heap.size, 1, none⟩ = some (.slice eo g.e.length cap) ∧ w2.cell? ⟨w.heap.size + 1, 0, none⟩ = some (.slice ao p.v.length ac) ∧ w2.cell? ⟨w.heap.size + 1, 1, none⟩ = some (.slice bo p.e.length bc) ∧ w2.cell? ⟨w.heap.size + 2, 0, none⟩ = some (.int .i64 u) ∧ w2.heap[w.heap.size + 3]? = some (.cells #[.slice none 0 0, .slice none 0 0] 43 (0, 0)) ∧ w.heap.size + 4 ≤ w2.heap.size))
 clear qbx0 qbx1 qbx2 qbx3
 have HXZ := Lib.hid (show ((((w.alloc (.cells #[.int .i64 g.n, .slice eo g.e.length cap] 41)).alloc (.cells #[.slice ao p.v.length ac, .slice bo p.e.length bc] 43)).alloc (.cells #[.int .i64 u] 3)).alloc (.cells #[.slice none 0 0, .slice none 0 0] 43)).heap.size = w.heap.size + 4 by simp)
 obtain ⟨x0, x1, y0, y1, u0, r7, hsz⟩ := HX.out _ (Chg.refl _ _)
 have hmm := @run_makeMap Tryz.prog
 go_enter Tryz.func77, Tryz.ntmps77
 go_wp2_with fail
 generalize ((((w.alloc (.cells #[.int .i64 g.n, .slice eo g.e.length cap] 41)).alloc (.cells #[.slice ao p.v.length ac, .slice bo p.e.length bc] 43)).alloc (.cells #[.int .i64 u] 3)).alloc (.cells #[.slice none 0 0, .slice none 0 0] 43)) = w1 at *
 obtain ⟨ub, hub⟩ : ∃ ub, w.heap.size + 1 + 1 = ub := ⟨_, rfl⟩
 obtain ⟨lb, hlb⟩ : ∃ lb, ub + 1 = lb := ⟨_, rfl⟩
 obtain ⟨mb, hmb⟩ : ∃ mb, lb + 1 = mb := ⟨_, rfl⟩
 obtain ⟨nb, hnb⟩ : ∃ nb, mb + 1 = nb := ⟨_, rfl⟩
 have hw1 : w1.heap.size = mb := by have := HXZ.out; omega
 have HM0 := Lib.hid (show IMap ((w1.alloc (.map #[] 0)).alloc (.cells #[.map (some mb)] 126)) mb 0 (Plain.cntF []) by rw [Plain.cntF_nil, ← hw1]; exact (IMap.made w1).alloc _)
 have HN8 := Lib.hid (show ((w1.alloc (.map #[] 0)).alloc (.cells #[.map (some mb)] 126)).heap[nb]? = some (.cells #[.map (some mb)] 126 (0, 0)) by
  have h := heap_alloc_new (w1.alloc (.map #[] 0)) (.cells #[.map (some mb)] 126)
  rwa [show (w1.alloc (.map #[] 0)).heap.size = nb by simp; omega] at h)
 have HC12 := Lib.hid (show Chg [] w1 ((w1.alloc (.map #[] 0)).alloc (.cells #[.map (some mb)] 126)) from ((Chg.refl [] w1).alloc _).alloc _)
 have HZ2 := Lib.hid (show ((w1.alloc (.map #[] 0)).alloc (.cells #[.map (some mb)] 126)).heap.size = nb + 1 by simp; omega)
 have HEQ := Lib.hid (show ub = w.heap.size + 2 ∧ lb = w.heap.size + 3 ∧ mb = w.heap.size + 4 ∧ nb = w.heap.size + 5 by omega)
 rw [show w.heap.size + 2 = ub from hub] at u0
 rw [show w.heap.size + 3 = lb by omega] at r7
 rw [hub, hlb, hmb, hnb]
 generalize (w1.alloc (.map #[] 0)).alloc (.cells #[.map (some mb)] 126) = w2 at *
 have HR7 := Lib.hid (HC12.out.hp r7)
 have HFX := Lib.hid (show ∀ wx, Chg [lb, mb] w2 wx → wx.cell? ⟨w.heap.size, 1, none⟩ = some (.slice eo g.e.length cap) ∧ wx.cell? ⟨w.heap.size, 0, none⟩ = some (.int .i64 g.n) ∧ wx.cell? ⟨w.heap.size + 1, 0, none⟩ = some (.slice ao p.v.length ac) ∧ wx.cell? ⟨w.heap.size + 1, 1, none⟩ = some (.slice bo p.e.length bc) ∧ wx.cell? ⟨ub, 0, none⟩ = some (.int .i64 u) ∧ wx.cell? ⟨nb, 0, none⟩ = some (.map (some mb)) from fun wx hx => by
  have hq := HEQ.out
  refine ⟨hx.cell (HC12.out.cel x1) ?_, hx.cell (HC12.out.cel x0) ?_, hx.cell (HC12.out.cel y0) ?_, hx.cell (HC12.out.cel y1) ?_, hx.cell (HC12.out.cel u0) ?_, hx.cell ((cell_of_row _ _ 0 _ _ _ HN8.out).trans rfl) ?_⟩ <;> simp <;> omega)
 have HW2 := Lib.hid (HXC.out.tr HC12.out)
 obtain ⟨x1, x0, y0, y1, u0, n8⟩ := HFX.out w2 (Chg.refl _ _)
 clear hub hlb hmb hnb hw1 hmm r7 hsz
 go_loopw [19] (fun iv wr => ∃ k : Nat, k ≤ p.v.length ∧ iv = .int .i64 k ∧ ∃ so n sc, wr.heap[lb]? = some (.cells #[.slice so n sc, .slice none 0 0] 43 (0, 0)) ∧ RowAt wr (nb + 1) (.slice so n sc) ((p.v.take k).filter fun v => v ≠ u) ∧ Chg [lb] w2 wr) (fun iv _ => p.v.length - (intOf iv).toNat)
 case atStart => exact ⟨0, Nat.zero_le _, rfl, none, 0, 0, HR7.out, rowNil' _ _, Chg.refl _ _⟩
 case round =>
  obtain ⟨k, hk, rfl, so, n, sc, hl7, hr, hc⟩ := hrel
  have HL7 := Lib.hid hl7
  have HR := Lib.hid hr
  have HC := Lib.hid hc
  have HCM := Lib.hid (show Chg [lb, mb] w2 wr from hc.mono (by simp))
  have hn : n = ((p.v.take k).filter fun v => v ≠ u).length := by
   obtain ⟨a, c, e⟩ := hr.shape
   simp only [Value.slice.injEq] at e
   exact e.2.1
  have hnl : n ≤ 1024 := by
   have h1 := List.length_filter_le (fun v => decide (v ≠ u)) (p.v.take k)
   rw [List.length_take] at h1
   omega
  have HNL := Lib.hid hnl
  have HSZ := Lib.hid (show nb + 1 ≤ wr.heap.size by rw [← HZ2.out]; exact hc.size)
  clear hl7 hr hc
  by_cases hlt : k < p.v.length
  ·obtain ⟨x1, x0, y0, y1, u0, n8⟩ := HFX.out wr HCM.out
   obtain ⟨rb, roff, rfl, rc⟩ := IntsAt.cellAt HPV.out hlt
   have cj := HCM.out.cell (HW2.out.cel rc) (by have := World.block_lt_of_cell? w _ rc; have := HEQ.out; simp at *; omega)
   have HFS := Lib.hid (Plain.filter_snoc (l := p.v) (fun v => decide (v ≠ u)) hlt)
   have IZ : I64 (p.v.getD k 0) := by
    obtain ⟨_, _, e, h1, -⟩ := HPV.out
    exact h1 _ (Plain.getD_mem hlt)
   obtain ⟨z, hz⟩ : ∃ z, p.v.getD k 0 = z := ⟨_, rfl⟩
   rw [hz] at cj HFS IZ
   obtain ⟨A, hA⟩ : ∃ A, (p.v.take k).filter (fun v => decide (v ≠ u)) = A := ⟨_, rfl⟩
   rw [hA] at HR HFS hn
   subst hn
   have l0 := (cell_of_row _ _ 0 _ _ _ HL7.out).trans (show _ = some (Value.slice so A.length sc) from rfl)
   have fl0 := free_at HL7.out 0
   have HFB := Lib.hid (show ∀ b ∈ foot (.slice so A.length sc), nb + 1 ≤ b from fun b hb => (HR.out.low b (by rw [← HR.out.foot]; exact hb)).1)
   have HNF := Lib.hid (show lb ∉ foot (.slice so A.length sc) from fun e => by have := HFB.out _ e; have := HEQ.out; omega)
   have hAl : A.length < 4294967290 := by have := HNL.out; omega
   clear rc hz hA hnl
   by_cases hzu : z = u
   ·have hnz : (z != u) = false := by simp [hzu]
    rw [if_neg (by simp [hzu]), List.append_nil] at HFS
    go_wp2
    go_roundw
    case rel => exact ⟨k + 1, by omega, by go_num, so, _, sc, HL7.out, by rw [HFS.out]; exact HR.out, HC.out⟩
    case measure => simp [intOf]; omega
   have hnz : (z != u) = true := by simp [hzu]
   rw [if_pos (by simp [hzu])] at HFS
   go_wp2_with (at_builtin; refine wl_push rfl _ _ rfl (w0 := wr) (B := nb + 1) (v := .slice so A.length sc) (l := A) (k := z) rfl rfl HR.out IZ HSZ.out hAl rfl ?_; intro v7 w7 r7 c7 f7; have R7 := Lib.hid r7; have C7 := Lib.hid c7; have L7 := Lib.hid (c7.heap HL7.out HNF.out); have l1 := (cell_of_row _ _ 0 _ _ _ L7.out).trans (show _ = some (Value.slice so A.length sc) from rfl); have fl1 := free_at L7.out 0; obtain ⟨qo, qc, rfl⟩ := r7.shape; clear r7 c7 f7)
   have hal : (A ++ [z]).length = A.length + 1 := by simp
   rw [hal] at R7
   have hset : Chg [lb] w7 (w7.setCell ⟨lb, 0, none⟩ (.slice qo (A.length + 1) qc)) := (Chg.refl _ _).setCell (Or.inl (by simp)) _
   go_roundw
   case rel => exact ⟨k + 1, by omega, by go_num, qo, _, qc, heap_setCell_same L7.out 0 _, by rw [HFS.out]; exact R7.out.chg hset (fun b hb e => by have := (R7.out.low b hb).1; have := HEQ.out; simp at e; omega), (HC.out.trans C7.out (fun j hj => Or.inr (by have := HFB.out j hj; have := HZ2.out; omega))).trans hset (fun j hj => Or.inl hj)⟩
   case measure => simp [intOf]; omega
  have e : k = p.v.length := by omega
  subst e
  rw [List.take_length] at HR hn
  have HAV := Lib.hid (show (Plain.restU g p u).v = p.v.filter fun v => decide (v ≠ u) from rfl)
  rw [← HAV.out] at HR hn
  subst hn
  obtain ⟨A, hA⟩ : ∃ A, (Plain.restU g p u).v = A := ⟨_, rfl⟩
  have HAE := Lib.hid hA
  rw [hA] at HR HL7 HNL
  have HW := Lib.hid (HW2.out.trans HC.out (fun j hj => Or.inr (by have := HEQ.out; simp at hj; omega)))
  obtain ⟨x1, x0, y0, y1, u0, n8⟩ := HFX.out wr HCM.out
  have HM3 := Lib.hid (HM0.out.chg HC.out (by have := HEQ.out; simp; omega))
  have HSZ2 := Lib.hid (show w.heap.size ≤ wr.heap.size from HW.out.size)
  clear hk hlt hA hnl
  go_wp2_with fail
  obtain ⟨B3, hB3⟩ : ∃ B3, wr.heap.size = B3 := ⟨_, rfl⟩
  rw [hB3] at HSZ HSZ2
  have HB3 := Lib.hid hB3
  have HRL := Lib.hid (show ∀ b ∈ foot (.slice so A.length sc), nb + 1 ≤ b ∧ b < B3 from fun b hb => by have := HR.out.low b (by rw [← HR.out.foot]; exact hb); omega)
  clear hB3
  go_loopw [36] (fun iv wx => ∃ k : Nat, k ≤ p.e.length ∧ iv = .int .i64 k ∧ ∃ to2 n2 tc2, wx.heap[lb]? = some (.cells #[.slice so A.length sc, .slice to2 n2 tc2] 43 (0, 0)) ∧ RowAt wx B3 (.slice to2 n2 tc2) ((p.e.take k).filter fun e => (g.at e).1 ≠ u ∧ (g.at e).2 ≠ u) ∧ IMap wx mb k (Plain.cntF (Plain.goU g (p.e.take k) u)) ∧ Chg [lb, mb] wr wx) (fun iv _ => p.e.length - (intOf iv).toNat)
  case atStart => exact ⟨0, Nat.zero_le _, rfl, none, 0, 0, HL7.out, rowNil' _ _, HM3.out, Chg.refl _ _⟩
  case round =>
   obtain ⟨k, hk, rfl, eo2, n2, ec2, hl8, hr2, hm2, hc2⟩ := hrel
   have HL8 := Lib.hid hl8
   have HR2 := Lib.hid hr2
   have HM8 := Lib.hid hm2
   have HC8 := Lib.hid hc2
   have hn2 : n2 = ((p.e.take k).filter fun e => (g.at e).1 ≠ u ∧ (g.at e).2 ≠ u).length := by
    obtain ⟨a, c, e⟩ := hr2.shape
    simp only [Value.slice.injEq] at e
    exact e.2.1
   subst hn2
   have HCM2 := Lib.hid (HCM.out.trans hc2 (fun j hj => Or.inl hj))
   have HWX := Lib.hid (HW.out.trans hc2 (fun j hj => Or.inr (by have := HEQ.out; simp at hj; omega)))
   have hfl : ((p.e.take k).filter fun e => (g.at e).1 ≠ u ∧ (g.at e).2 ≠ u).length ≤ 1024 := by
    have h1 := List.length_filter_le (fun e => decide ((g.at e).1 ≠ u ∧ (g.at e).2 ≠ u)) (p.e.take k)
    rw [List.length_take] at h1
    omega
   have HFL := Lib.hid hfl
   clear hl8 hr2 hm2 hc2 hfl
   obtain ⟨x1, x0, y0, y1, u0, n8⟩ := HFX.out wr HCM2.out
   by_cases hlt : k < p.e.length
   ·obtain ⟨rb, roff, rfl, rc⟩ := IntsAt.cellAt HPEE.out hlt
    have ce := HWX.out.cel rc
    have hei := HEI.out k hlt
    have HFS := Lib.hid (Plain.filter_snoc (l := p.e) (fun e => decide ((g.at e).1 ≠ u ∧ (g.at e).2 ≠ u)) hlt)
    have HGS := Lib.hid (Plain.goU_snoc (g := g) u hlt)
    obtain ⟨ei, he⟩ : ∃ ei : Nat, p.e.getD k 0 = (ei : Int) := ⟨(p.e.getD k 0).toNat, by omega⟩
    rw [he] at ce hei HFS HGS
    have hel : ei < g.e.length := by omega
    obtain ⟨eb, eoff, rfl, hc0, hc1⟩ := HCE.out ei hel
    obtain ⟨hi1, hi2⟩ := HSM.out ei hel
    have c0 := HWX.out.cel hc0
    have c1 := HWX.out.cel hc1
    have hat : g.at (ei : Int) = g.ends ei := by simp [Plain.Gr.at]
    rw [hat] at HFS HGS
    obtain ⟨x, hx⟩ : ∃ x, (g.ends ei).1 = x := ⟨_, rfl⟩
    obtain ⟨y, hy⟩ : ∃ y, (g.ends ei).2 = y := ⟨_, rfl⟩
    rw [hx] at c0 hi1 HFS HGS
    rw [hy] at c1 hi2 HFS HGS
    obtain ⟨E, hE⟩ : ∃ E, (p.e.take k).filter (fun e => decide ((g.at e).1 ≠ u ∧ (g.at e).2 ≠ u)) = E := ⟨_, rfl⟩
    rw [hE] at HR2 HFS HFL HL8
    have hGL : (Plain.goU g (p.e.take k) u).length ≤ 1024 := by
     have h1 := List.length_filterMap_le (fun e => if (g.at e).1 = u then some (g.at e).2 else if (g.at e).2 = u then some (g.at e).1 else none) (p.e.take k)
     rw [List.length_take] at h1
     unfold Plain.goU
     omega
    obtain ⟨M, hM⟩ : ∃ M, Plain.goU g (p.e.take k) u = M := ⟨_, rfl⟩
    rw [hM] at HM8 HGS hGL
    have HGLN := Lib.hid hGL
    have hmx : k < maxLen := by unfold maxLen; omega
    have hei2 : ei < 1024 := by have := HGE.out.2.2.1; have := HGE.out.1; omega
    clear rc hc0 hc1 hx hy hE hM hat he hei hGL
    by_cases hxu : x = u
    ·have hxb : (u == x) = true := by simp [hxu]
     have HG := Lib.hid (Plain.cntF_get M y)
     have HCN := Lib.hid (Plain.cntF_snoc M y)
     rw [HG.out] at HCN
     have hq0 : M.count y ≤ 1024 := Nat.le_trans List.count_le_length HGLN.out
     obtain ⟨q, hq⟩ : ∃ q : Int, (M.count y : Int) = q := ⟨_, rfl⟩
     have hq1 : 0 ≤ q := by omega
     have hq2 : q ≤ 1024 := by omega
     have IQ : I64 (q + 1) := I64.mk (by omega) (by omega)
     rw [hq] at HG HCN
     rw [if_pos hxu] at HGS
     rw [if_neg (by simp [hxu]), List.append_nil] at HFS
     clear hq hq0
     go_wp2_with fail
     have hS0 : Chg [] wr wr.drew := (Chg.refl [] wr).drew
     refine wp_region_way (Chg [] wr) [0, 1, 2, 3, 4, 5, 6] (Way.line [0, 1, 2, 3, 4, 5, 6, 7, 8, 9] .done) (by kernel_rfl) (by kernel_rfl) ?_
     simp only [Way.line]
     repeat
      first
       | (refine along_off rfl (by rfl) (by rfl) (fun _ _ _ h => h) hS0 ?_; simp only [Act.put, Z1, Z2, Z3, Z4, Z5, Z6])
       | (refine along_read (v := ?_) rfl (by rfl) (by rfl) (fun _ _ _ h => h) hS0 (fun w' hS' => ?_) ?_; rotate_left; (focus (have rd0 := hS'.cell n8 (by simp); have rd1 := hS'.cell x1 (by simp); have rd2 := hS'.cell c0 (by simp); have rd3 := hS'.cell c1 (by simp); clear hS'; go_simp; try with_reducible rfl)); simp only [Act.put, Z1, Z2, Z3, Z4, Z5, Z6])
       | (refine along_skip rfl (by rfl) (by rfl) hS0 ?_; simp only [Act.put, Z1, Z2, Z3, Z4, Z5, Z6])
     refine along_op rfl (by rfl) (by rfl) (fun K hK => ?_)
     simp only [List.getElem_toArray, List.getElem_cons_zero, List.getElem_cons_succ]
     refine op_look _ _ rfl (HM8.out.chg hS0 (by simp)) rfl hi2 rfl HG ?_
     refine hK.out _ _ (fun _ => hS0) ?_
     clear hK K
     try simp only [Act.put, List.setIfInBounds_toArray, List.set_cons_zero, List.set_cons_succ]
     refine along_op rfl (by rfl) (by rfl) (fun K hK => ?_)
     go_simp
     refine hK.out _ _ (fun _ => hS0) ?_
     clear hK K
     try simp only [Act.put, Z1, Z2, Z3, Z4, Z5, Z6]
     refine along_op rfl (by rfl) (by rfl) (fun K hK => ?_)
     simp only [List.getElem_toArray, List.getElem_cons_zero, List.getElem_cons_succ]
     refine op_store _ _ _ rfl (HM8.out.chg hS0 (by simp)) hmx rfl hi2 IQ rfl (by show Value.int .i64 (IntKind.i64.wrap (q + 1)) = _; rw [IntKind.wrap_i64]; congr 1; omega) (fun w6 m6 g6 => ?_)
     rw [HCN.out] at m6
     have M6 := Lib.hid m6
     have C6 := Lib.hid (((Chg.refl [mb] wr).drew).trans ((Chg.refl [mb] _).grown g6 (fun j hj => by cases hj; exact Or.inl (by simp))) (fun j hj => Or.inl hj))
     clear m6 g6
     refine hK.out _ _ (fun h => absurd h (Bool.eq_false_iff.1 (by kernel_rfl))) ?_
     clear hK K
     try simp only [Act.put]
     refine along_done ?_
     go_wp2
     go_roundw
     case rel => exact ⟨k + 1, by omega, by go_num, eo2, _, ec2, C6.out.heap HL8.out (by have := HEQ.out; simp; omega), by rw [HFS.out]; exact HR2.out.chg C6.out (fun b hb e => by have := (HR2.out.low b hb).1; have := HSZ.out; have := HEQ.out; simp at e; omega), by rw [HGS.out]; exact M6.out, HC8.out.trans C6.out (fun j hj => Or.inl (by simp at hj; simp [hj]))⟩
     case measure => simp [intOf]; omega
    have hxb : (u == x) = false := beq_eq_false_iff_ne.2 (Ne.symm hxu)
    by_cases hyu : y = u
    ·have hyb : (u == y) = true := by simp [hyu]
     have HG := Lib.hid (Plain.cntF_get M x)
     have HCN := Lib.hid (Plain.cntF_snoc M x)
     rw [HG.out] at HCN
     have hq0 : M.count x ≤ 1024 := Nat.le_trans List.count_le_length HGLN.out
     obtain ⟨q, hq⟩ : ∃ q : Int, (M.count x : Int) = q := ⟨_, rfl⟩
     have hq1 : 0 ≤ q := by omega
     have hq2 : q ≤ 1024 := by omega
     have IQ : I64 (q + 1) := I64.mk (by omega) (by omega)
     rw [hq] at HG HCN
     rw [if_neg hxu, if_pos hyu] at HGS
     rw [if_neg (by simp [hyu]), List.append_nil] at HFS
     clear hq hq0
     go_wp2_with fail
     have hS0 : Chg [] wr wr.drew := (Chg.refl [] wr).drew
     refine wp_region_way (Chg [] wr) [0, 1, 2, 3, 4, 5, 6] (Way.line [0, 1, 2, 3, 4, 5, 6, 7, 8, 9] .done) (by kernel_rfl) (by kernel_rfl) ?_
     simp only [Way.line]
     repeat
      first
       | (refine along_off rfl (by rfl) (by rfl) (fun _ _ _ h => h) hS0 ?_; simp only [Act.put, Z1, Z2, Z3, Z4, Z5, Z6])
       | (refine along_read (v := ?_) rfl (by rfl) (by rfl) (fun _ _ _ h => h) hS0 (fun w' hS' => ?_) ?_; rotate_left; (focus (have rd0 := hS'.cell n8 (by simp); have rd1 := hS'.cell x1 (by simp); have rd2 := hS'.cell c0 (by simp); have rd3 := hS'.cell c1 (by simp); clear hS'; go_simp; try with_reducible rfl)); simp only [Act.put, Z1, Z2, Z3, Z4, Z5, Z6])
       | (refine along_skip rfl (by rfl) (by rfl) hS0 ?_; simp only [Act.put, Z1, Z2, Z3, Z4, Z5, Z6])
     refine along_op rfl (by rfl) (by rfl) (fun K hK => ?_)
     simp only [List.getElem_toArray, List.getElem_cons_zero, List.getElem_cons_succ]
     refine op_look _ _ rfl (HM8.out.chg hS0 (by simp)) rfl hi1 rfl HG ?_
     refine hK.out _ _ (fun _ => hS0) ?_
     clear hK K
     try simp only [Act.put, List.setIfInBounds_toArray, List.set_cons_zero, List.set_cons_succ]
     refine along_op rfl (by rfl) (by rfl) (fun K hK => ?_)
     go_simp
     refine hK.out _ _ (fun _ => hS0) ?_
     clear hK K
     try simp only [Act.put, Z1, Z2, Z3, Z4, Z5, Z6]
     refine along_op rfl (by rfl) (by rfl) (fun K hK => ?_)
     simp only [List.getElem_toArray, List.getElem_cons_zero, List.getElem_cons_succ]
     refine op_store _ _ _ rfl (HM8.out.chg hS0 (by simp)) hmx rfl hi1 IQ rfl (by show Value.int .i64 (IntKind.i64.wrap (q + 1)) = _; rw [IntKind.wrap_i64]; congr 1; omega) (fun w6 m6 g6 => ?_)
     rw [HCN.out] at m6
     have M6 := Lib.hid m6
     have C6 := Lib.hid (((Chg.refl [mb] wr).drew).trans ((Chg.refl [mb] _).grown g6 (fun j hj => by cases hj; exact Or.inl (by simp))) (fun j hj => Or.inl hj))
     clear m6 g6
     refine hK.out _ _ (fun h => absurd h (Bool.eq_false_iff.1 (by kernel_rfl))) ?_
     clear hK K
     try simp only [Act.put]
     refine along_done ?_
     go_wp2
     go_roundw
     case rel => exact ⟨k + 1, by omega, by go_num, eo2, _, ec2, C6.out.heap HL8.out (by have := HEQ.out; simp; omega), by rw [HFS.out]; exact HR2.out.chg C6.out (fun b hb e => by have := (HR2.out.low b hb).1; have := HSZ.out; have := HEQ.out; simp at e; omega), by rw [HGS.out]; exact M6.out, HC8.out.trans C6.out (fun j hj => Or.inl (by simp at hj; simp [hj]))⟩
     case measure => simp [intOf]; omega
    have hyb : (u == y) = false := beq_eq_false_iff_ne.2 (Ne.symm hyu)
    rw [if_neg hxu, if_neg hyu, List.append_nil] at HGS
    rw [if_pos (by simp [hxu, hyu])] at HFS
    have IE : I64 (ei : Int) := I64.mk (by omega) (by omega)
    have l0 := (cell_of_row _ _ 1 _ _ _ HL8.out).trans (show _ = some (Value.slice eo2 E.length ec2) from rfl)
    have fl0 := free_at HL8.out 1
    have HFB := Lib.hid (show ∀ b ∈ foot (.slice eo2 E.length ec2), B3 ≤ b from fun b hb => (HR2.out.low b (by rw [← HR2.out.foot]; exact hb)).1)
    have HNF := Lib.hid (show lb ∉ foot (.slice eo2 E.length ec2) from fun e => by have := HFB.out _ e; have := HSZ.out; have := HEQ.out; omega)
    have HNM := Lib.hid (show mb ∉ foot (.slice eo2 E.length ec2) from fun e => by have := HFB.out _ e; have := HSZ.out; have := HEQ.out; omega)
    have hAl : E.length < 4294967290 := by have := HFL.out; omega
    have HS8 := Lib.hid (show B3 ≤ wr.heap.size by rw [← HB3.out]; exact HC8.out.size)
    go_wp2_with (at_builtin; refine wl_push rfl _ _ rfl (w0 := wr) (B := B3) (v := .slice eo2 E.length ec2) (l := E) (k := (ei : Int)) rfl rfl HR2.out IE HS8.out hAl rfl ?_; intro v7 w7 r7 c7 f7; have R7 := Lib.hid r7; have C7 := Lib.hid c7; have L7 := Lib.hid (c7.heap HL8.out HNF.out); have l1 := (cell_of_row _ _ 1 _ _ _ L7.out).trans (show _ = some (Value.slice eo2 E.length ec2) from rfl); have fl1 := free_at L7.out 1; obtain ⟨qo, qc, rfl⟩ := r7.shape; clear r7 c7 f7)
    have hal : (E ++ [(ei : Int)]).length = E.length + 1 := by simp
    rw [hal] at R7
    have hset : Chg [lb] w7 (w7.setCell ⟨lb, 1, none⟩ (.slice qo (E.length + 1) qc)) := (Chg.refl _ _).setCell (Or.inl (by simp)) _
    go_roundw
    case rel => exact ⟨k + 1, by omega, by go_num, qo, _, qc, heap_setCell_same L7.out 1 _, by rw [HFS.out]; exact R7.out.chg hset (fun b hb e => by have := (R7.out.low b hb).1; have := HSZ.out; have := HEQ.out; simp at e; omega), by rw [HGS.out]; exact ((HM8.out.chg C7.out HNM.out).chg hset (by have := HEQ.out; simp; omega)).mono (by omega), (HC8.out.trans C7.out (fun j hj => Or.inr (by have := HFB.out j hj; have := HB3.out; omega))).trans hset (fun j hj => Or.inl (by simp at hj; simp [hj]))⟩
    case measure => simp [intOf]; omega
   have e : k = p.e.length := by omega
   subst e
   rw [List.take_length] at HR2 HM8 HFL HL8
   have HEE := Lib.hid (show (Plain.restU g p u).e = p.e.filter fun e => decide ((g.at e).1 ≠ u ∧ (g.at e).2 ≠ u) from rfl)
   rw [← HEE.out] at HR2 HFL HL8
   have HP8 := Lib.hid (show PtAt wr (.agg #[.slice so A.length sc, .slice eo2 (Plain.restU g p u).e.length ec2]) (Plain.restU g p u) from ⟨_, _, rfl, by rw [HAE.out]; exact (HR.out.chg HC8.out (fun b hb e => by have := (HR.out.low b hb).1; have := HEQ.out; simp at e; omega)).ints, HR2.out.ints⟩)
   have HA8 := Lib.hid (show RowAt wr (nb + 1) (.slice so A.length sc) A from HR.out.chg HC8.out (fun b hb e => by have := (HR.out.low b hb).1; have := HEQ.out; simp at e; omega))
   have HBK := Lib.hid (show Plain.besideK g p u = A.filter fun v => !besideQ u (Plain.goU g p.e u) (Plain.cutsB g (Plain.restU g p u)) v by
    unfold Plain.besideK
    rw [HAE.out]
    refine List.filter_congr fun v _ => ?_
    unfold besideQ
    congr 2
    congr 1
    rw [Bool.eq_iff_iff]; simp; omega)
   have hAne : 0 < A.length := List.length_pos_iff.2 (by rw [← HAE.out]; exact hne)
   obtain ⟨vb, rfl, -⟩ := HA8.out.some hAne
   have HAP := Lib.hid (HA8.out.low vb (by simp [Value.ownBlock]))
   have hal : A.length ≤ 100000 := by have := HNL.out; omega
   have HCUT := Lib.hid (show (Plain.cutsB g (Plain.restU g p u)).Pairwise (· < ·) ∧ (Plain.cutsB g (Plain.restU g p u)).length ≤ 100000 from Plain.cuts_rise HGE.out.2.1)
   obtain ⟨E, hE⟩ : ∃ E, (Plain.restU g p u).e = E := ⟨_, rfl⟩
   rw [hE] at HL8 HP8
   have l0 := (cell_of_row _ _ 0 _ _ _ HL8.out).trans (show _ = some (Value.slice (some ⟨vb, 0, none⟩) A.length sc) from rfl)
   have l1 := (cell_of_row _ _ 1 _ _ _ HL8.out).trans (show _ = some (Value.slice eo2 E.length ec2) from rfl)
   obtain ⟨M, hM⟩ : ∃ M, Plain.goU g p.e u = M := ⟨_, rfl⟩
   rw [hM] at HBK HM8
   clear hlt hk hE hM hne
   go_wp2_with fail
   refine (cuts_any _ _ g (Plain.restU g p u) _ (by rw [HAE.out]; exact hal) (HG.out.fresh HWX.out) HP8.out).mono ?_
   rintro e w5 ⟨cv, rfl, hrc, hc5⟩
   obtain ⟨co, cc, rfl⟩ := hrc.shape
   obtain ⟨C, hC⟩ : ∃ C, Plain.cutsB g (Plain.restU g p u) = C := ⟨_, rfl⟩
   rw [hC] at hrc HBK HCUT ⊢
   have HRC := Lib.hid hrc
   have HC5 := Lib.hid hc5
   have l0 := hc5.cel l0
   clear hrc hc5 hC
   have HXB := Lib.hid (heap_alloc_new w5 (.cells #[.slice co C.length cc] 31))
   have HXC5 := Lib.hid ((Chg.refl [] w5).alloc (.cells #[.slice co C.length cc] 31))
   have l0 := HXC5.out.cel l0
   go_wp2_with fail
   obtain ⟨cb, hcb⟩ : ∃ cb, w5.heap.size = cb := ⟨_, rfl⟩
   have HCB5 := Lib.hid hcb
   rw [hcb] at HXB ⊢
   have HT := Lib.hid (HC5.out.tr HXC5.out)
   obtain ⟨x1, x0, y0, y1, u0, n8⟩ := HFX.out _ (HCM2.out.tr HT.out)
   have hq := HEQ.out
   have hap := HAP.out
   refine (delB_any vb sc (nb + 1) ub nb cb mb _ u A M C _ _ (HA8.out.chg HT.out (by simp)) hal HCUT.out.1 (by have := HCUT.out.2; omega) u0 n8 ((cell_of_row _ _ 0 _ _ _ HXB.out).trans rfl) (HM8.out.chg HT.out (by simp)) (HRC.out.ints.fresh HXC5.out) (by omega) (by omega) (by have := HC5.out.size; omega) (by omega) (fun b n c e => ?_)).mono ?_
   ·have e2 : Value.slice co C.length cc = .slice (some b) n c := e
    rcases HRC.out.1.2 with ⟨q, -⟩ | ⟨g', cap', cur', q, hb, -⟩
    ·rw [e2] at q; cases q
    rw [e2] at q
    cases q
    show g' ≠ vb
    omega
   rintro e w6 ⟨rfl, hr6, hc6⟩
   rw [← HBK.out] at hr6 ⊢
   have HR6 := Lib.hid hr6
   have HC6 := Lib.hid hc6
   clear hr6 hc6
   go_wp2
   go_ret
   exact ⟨_, rfl, HR6.out.base (by omega), ((HWX.out.tr HT.out).trans HC6.out (fun j hj => Or.inr (by simp at hj; omega)))⟩
end Go.Proofs.YtpcgklagmcnhaaaGreat
