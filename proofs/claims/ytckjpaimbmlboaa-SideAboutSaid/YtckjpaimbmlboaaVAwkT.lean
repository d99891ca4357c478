/- law 10's awake: true. -/
import Derived.Test.YtckjpaimbmlboaaVAllS
namespace Go.Proofs.Ytckjpaimbmlboaa
open Go.RowKit Go.Maps
namespace Plain
theorem regs1 {k : Int} (hk : k = 0 ∨ k = 1) : regionsOf g1 p1 t1 [[-4, k]] = [[-4, k], [1 - k]] := by
 have hpt := parted (plan1w hk) (by rw [walksOf1]; exact walks1)
 refine (IsRegs.eq hpt ⟨?_, ?_⟩).symm
 ·unfold allRegs
  rw [walksOf1]
  rcases hk with rfl | rfl <;> decide
 rcases hk with rfl | rfl <;> decide
theorem cyc1a : cycOk g1 p1 [0, 2, 4] = true := by decide
theorem cyc1b : cycOk g1 p1 [5, 3, 1] = true := by decide
theorem sideIs1 {cy : List Int} (h : cycOk g1 p1 cy = true) : sideIs g1 p1 t1 [[-4, 0]] cy = true := by
 unfold sideIs
 rw [h, plan1w (Or.inl rfl)]
 rfl
theorem allV1 (cy : List Int) : allV g1 p1 t1 [[-4, 0]] cy = von g1 (vside (sideOf (leftOf [[-4, 0], [1 - 0]] w1) p1 cy) t1 p1 p1.v.length) cy cy.length := by
 unfold allV sideAt
 rw [regs1 (Or.inl rfl), walksOf1]
theorem vert1a : vertV g1 p1 t1 [[-4, 0]] [0, 2, 4] 3 = 1 ∧ vertOk g1 p1 t1 [[-4, 0]] [0, 2, 4] 3 = true := by
 unfold vertV vertOk
 rw [if_pos (sideIs1 cyc1a), sideIs1 cyc1a, allV1]
 decide
theorem vert1b : vertV g1 p1 t1 [[-4, 0]] [5, 3, 1] 3 = 2 ∧ vertOk g1 p1 t1 [[-4, 0]] [5, 3, 1] 3 = true := by
 unfold vertV vertOk
 rw [if_pos (sideIs1 cyc1b), sideIs1 cyc1b, allV1]
 decide
theorem same1_len (k : Int) (i : Nat) : (([[-4, k]] : List (List Int)).getD i []).length ≤ 10000 := by
 rcases i with _ | i
 ·simp
 simp [List.getD]
end Plain
theorem vtri_a (vg vp vx vc : Value) (w : World) (hg : GrAt w vg Plain.g1) (hp : PtAt w vp Plain.p1) (hx : PlAt w vx Plain.t1 [[-4, 0]]) (hc : IntsAt w vc [0, 2, 4]) :
  Calls Try.prog 19 #[vg, vp, vx, vc, .int .i64 3] w fun e w' => e = .returned (.tuple #[.int .i64 1, .bool true]) ∧ Chg [] w w' := by
 have h := vertex_any vg vp vx vc Plain.g1 Plain.p1 Plain.t1 [[-4, 0]] [0, 2, 4] 3 w (by decide) (by decide) (by decide) (by decide) (by decide) (Plain.same1_len 0) (by decide) (I64.mk (by decide) (by decide)) hg hp hx hc
 rwa [Plain.vert1a.1, Plain.vert1a.2] at h
theorem vtri_b (vg vp vx vc : Value) (w : World) (hg : GrAt w vg Plain.g1) (hp : PtAt w vp Plain.p1) (hx : PlAt w vx Plain.t1 [[-4, 0]]) (hc : IntsAt w vc [5, 3, 1]) :
  Calls Try.prog 19 #[vg, vp, vx, vc, .int .i64 3] w fun e w' => e = .returned (.tuple #[.int .i64 2, .bool true]) ∧ Chg [] w w' := by
 have h := vertex_any vg vp vx vc Plain.g1 Plain.p1 Plain.t1 [[-4, 0]] [5, 3, 1] 3 w (by decide) (by decide) (by decide) (by decide) (by decide) (Plain.same1_len 0) (by decide) (I64.mk (by decide) (by decide)) hg hp hx hc
 rwa [Plain.vert1b.1, Plain.vert1b.2] at h
set_option maxRecDepth 100000 in
set_option maxHeartbeats 4000000 in
theorem awake10_any (w : World) : Calls Try.prog 16 #[] w fun e w' => e = .returned (.bool true) ∧ Chg [] w w' := by
 go_enter Try.func16, Try.ntmps16
 go_wp2
 obtain ⟨a0, s0, -⟩ := alloc_at w (.cells #[.int .i64 0, .int .i64 1, .int .i64 1, .int .i64 2, .int .i64 2, .int .i64 0] 79) w.heap.size rfl
 obtain ⟨a1, s1, k1⟩ := alloc_at _ (.cells #[.int .i64 4, .slice (some ⟨w.heap.size, 0, none⟩) 3 3] 24) _ s0
 obtain ⟨a2, s2, k2⟩ := alloc_at _ (.cells #[.int .i64 0, .int .i64 5] 3) _ s1
 obtain ⟨a3, s3, k3⟩ := alloc_at _ (.cells #[.int .i64 1, .int .i64 2] 3) _ s2
 obtain ⟨a4, s4, k4⟩ := alloc_at _ (.cells #[.int .i64 3, .int .i64 4] 3) _ s3
 obtain ⟨a5, s5, k5⟩ := alloc_at _ (.cells #[.slice (some ⟨w.heap.size + 1 + 1, 0, none⟩) 2 2, .slice (some ⟨w.heap.size + 1 + 1 + 1, 0, none⟩) 2 2, .slice (some ⟨w.heap.size + 1 + 1 + 1 + 1, 0, none⟩) 2 2, .slice none 0 0] 25) _ s4
 obtain ⟨a6, s6, k6⟩ := alloc_at _ (.cells #[.int .i64 (-4), .int .i64 0] 3) _ s5
 obtain ⟨a7, s7, k7⟩ := alloc_at _ (.cells #[.slice (some ⟨w.heap.size + 1 + 1 + 1 + 1 + 1 + 1, 0, none⟩) 2 2] 25) _ s6
 obtain ⟨a8, s8, k8⟩ := alloc_at _ (.cells #[.slice (some ⟨w.heap.size + 1 + 1 + 1 + 1 + 1, 0, none⟩) 4 4, .slice (some ⟨w.heap.size + 1 + 1 + 1 + 1 + 1 + 1 + 1, 0, none⟩) 1 1] 30) _ s7
 have k28 : ∀ {b : Nat} {o' : Obj}, _ → _ := fun {b o'} h => k8 b o' (k7 b o' (k6 b o' (k5 b o' (k4 b o' (k3 b o' h)))))
 have hg9 := gr_tri (k28 (k2 _ _ (k1 _ _ a0)))
 have hb1 := k28 (k2 _ _ a1)
 have x0 := (cell_of_row _ _ 0 _ _ _ hb1).trans (show _ = some (Value.int .i64 4) from rfl)
 have x1 := (cell_of_row _ _ 1 _ _ _ hb1).trans (show _ = some (Value.slice (some ⟨w.heap.size, 0, none⟩) 3 3) from rfl)
 have d0 := (cell_of_row _ _ 0 _ _ _ a8).trans (show _ = some (Value.slice (some ⟨w.heap.size + 1 + 1 + 1 + 1 + 1, 0, none⟩) 4 4) from rfl)
 have d1 := (cell_of_row _ _ 1 _ _ _ a8).trans (show _ = some (Value.slice (some ⟨w.heap.size + 1 + 1 + 1 + 1 + 1 + 1 + 1, 0, none⟩) 1 1) from rfl)
 have hpl := pl_tri (I64.mk (by decide) (by decide) : I64 0) (k28 a2) (k8 _ _ (k7 _ _ (k6 _ _ (k5 _ _ (k4 _ _ a3))))) (k8 _ _ (k7 _ _ (k6 _ _ (k5 _ _ a4)))) (k8 _ _ (k7 _ _ (k6 _ _ a5))) (k8 _ _ (k7 _ _ a6)) (k8 _ _ a7)
 have hc9 := (((((((((Chg.refl [] w).alloc (.cells #[.int .i64 0, .int .i64 1, .int .i64 1, .int .i64 2, .int .i64 2, .int .i64 0] 79)).alloc (.cells #[.int .i64 4, .slice (some ⟨w.heap.size, 0, none⟩) 3 3] 24)).alloc (.cells #[.int .i64 0, .int .i64 5] 3)).alloc (.cells #[.int .i64 1, .int .i64 2] 3)).alloc (.cells #[.int .i64 3, .int .i64 4] 3)).alloc (.cells #[.slice (some ⟨w.heap.size + 1 + 1, 0, none⟩) 2 2, .slice (some ⟨w.heap.size + 1 + 1 + 1, 0, none⟩) 2 2, .slice (some ⟨w.heap.size + 1 + 1 + 1 + 1, 0, none⟩) 2 2, .slice none 0 0] 25)).alloc (.cells #[.int .i64 (-4), .int .i64 0] 3)).alloc (.cells #[.slice (some ⟨w.heap.size + 1 + 1 + 1 + 1 + 1 + 1, 0, none⟩) 2 2] 25)).alloc (.cells #[.slice (some ⟨w.heap.size + 1 + 1 + 1 + 1 + 1, 0, none⟩) 4 4, .slice (some ⟨w.heap.size + 1 + 1 + 1 + 1 + 1 + 1 + 1, 0, none⟩) 1 1] 30)
 clear k28 k1 k2 k3 k4 k5 k6 k7 k8 a0 a1 a2 a3 a4 a5 a6 a7 a8 s0 s1 s2 s3 s4 s5 s6 s7 s8 hb1
 generalize ((((((((w.alloc (.cells #[.int .i64 0, .int .i64 1, .int .i64 1, .int .i64 2, .int .i64 2, .int .i64 0] 79)).alloc (.cells #[.int .i64 4, .slice (some ⟨w.heap.size, 0, none⟩) 3 3] 24)).alloc (.cells #[.int .i64 0, .int .i64 5] 3)).alloc (.cells #[.int .i64 1, .int .i64 2] 3)).alloc (.cells #[.int .i64 3, .int .i64 4] 3)).alloc (.cells #[.slice (some ⟨w.heap.size + 1 + 1, 0, none⟩) 2 2, .slice (some ⟨w.heap.size + 1 + 1 + 1, 0, none⟩) 2 2, .slice (some ⟨w.heap.size + 1 + 1 + 1 + 1, 0, none⟩) 2 2, .slice none 0 0] 25)).alloc (.cells #[.int .i64 (-4), .int .i64 0] 3)).alloc (.cells #[.slice (some ⟨w.heap.size + 1 + 1 + 1 + 1 + 1 + 1, 0, none⟩) 2 2] 25)).alloc (.cells #[.slice (some ⟨w.heap.size + 1 + 1 + 1 + 1 + 1, 0, none⟩) 4 4, .slice (some ⟨w.heap.size + 1 + 1 + 1 + 1 + 1 + 1 + 1, 0, none⟩) 1 1] 30) = w9 at *
 generalize w.heap.size + 1 + 1 + 1 + 1 + 1 + 1 + 1 + 1 = bp at *
 generalize w.heap.size + 1 + 1 + 1 + 1 + 1 + 1 + 1 = b7 at *
 generalize w.heap.size + 1 + 1 + 1 + 1 + 1 + 1 = b6 at *
 generalize w.heap.size + 1 + 1 + 1 + 1 + 1 = b5 at *
 generalize w.heap.size + 1 + 1 + 1 + 1 = b4 at *
 generalize w.heap.size + 1 + 1 + 1 = b3 at *
 generalize w.heap.size + 1 + 1 = b2 at *
 generalize w.heap.size + 1 = bg at *
 generalize w.heap.size = be at *
 have HG := Lib.hid hg9
 have HPL := Lib.hid hpl
 have HC9 := Lib.hid hc9
 have E4 := Lib.hid (show Plain.upTo 4 = Plain.p1.v by decide)
 have E3 := Lib.hid (show Plain.upTo Plain.g1.e.length = Plain.p1.e by decide)
 have J0 : ∀ x : Int, -100 ≤ x → x ≤ 100 → I64 x := fun x a b => I64.mk (by omega) (by omega)
 have HJ := Lib.hid J0
 clear hg9 hpl hc9 J0
 have hS0 : Chg [] w9 w9.drew := (Chg.refl [] w9).drew
 refine wp_region_way (Chg [] w9) [0, 1, 3, 6, 7, 8, 9, 10] (.then_ 0 (.then_ 1 (.then_ 3 (.fork 2 4 (.then_ 4 (.then_ 5 (Way.line [6, 7, 8, 9, 10] .done))) (.then_ 2 (.then_ 5 (Way.line [6, 7, 8, 9, 10] .done))))))) (by kernel_rfl) (by kernel_rfl) ?_
 simp only [Way.line]
 repeat
  first
   | (refine along_off rfl (by rfl) (by rfl) (fun _ _ _ h => h) hS0 ?_; simp only [Act.put, Z1, Z2, Z3, Z4, Z5, Z6])
   | (refine along_read (v := ?_) rfl (by rfl) (by rfl) (fun _ _ _ h => h) hS0 (fun w' hS' => ?_) ?_; rotate_left; (focus (have rd0 := hS'.cell x0 (by simp); have rd1 := hS'.cell x1 (by simp); have rd2 := hS'.cell d0 (by simp); have rd3 := hS'.cell d1 (by simp); clear hS'; go_simp; try with_reducible rfl)); simp only [Act.put, Z1, Z2, Z3, Z4, Z5, Z6])
   | (refine along_skip rfl (by rfl) (by rfl) hS0 ?_; simp only [Act.put, Z1, Z2, Z3, Z4, Z5, Z6])
 refine along_fork (by rfl) (by rfl) ?_ ?_
 ·skip
  refine along_op rfl (by rfl) (by rfl) (fun K hK => ?_)
  go_simp
  refine (whole_any _ Plain.g1 4 _ rfl (by decide) (by decide) (HG.out.fresh hS0)).mono ?_
  rintro e wA ⟨v1, v2, rfl, r1, r2, hcx⟩
  have hS1 := hS0.trans hcx (by simp)
  clear hS0 hcx
  have hS0 := hS1
  clear hS1
  refine hK.out _ _ (fun _ => hS0) ?_
  clear hK K
  try simp only [Act.put, Z1, Z2, Z3, Z4, Z5, Z6]
  have HR1 := Lib.hid r1.ints
  have HR2 := Lib.hid r2.ints
  rw [E4.out] at HR1
  rw [E3.out] at HR2
  clear r1 r2
  refine along_op rfl (by rfl) (by rfl) (fun K hK => ?_)
  go_simp
  have HI := Lib.hid (lit_three wA (HJ.out 0 (by decide) (by decide)) (HJ.out 2 (by decide) (by decide)) (HJ.out 4 (by decide) (by decide)))
  have hc1 := (Chg.refl [] wA).alloc (.cells #[.int .i64 0, .int .i64 2, .int .i64 4] 3)
  have hS1 := hS0.alloc (.cells #[.int .i64 0, .int .i64 2, .int .i64 4] 3)
  refine hK.out _ _ (fun _ => hS1) ?_
  clear hK K hS0
  have hS0 := hS1
  clear hS1
  try simp only [Act.put, Z1, Z2, Z3, Z4, Z5, Z6]
  have HP := Lib.hid (show PtAt (wA.alloc (.cells #[.int .i64 0, .int .i64 2, .int .i64 4] 3)) (.agg #[v1, v2]) Plain.p1 from ⟨_, _, rfl, HR1.out.fresh hc1, HR2.out.fresh hc1⟩)
  clear hc1
  refine along_op rfl (by rfl) (by rfl) (fun K hK => ?_)
  go_simp
  refine (vtri_a _ _ _ _ _ (HG.out.fresh hS0) HP.out (HPL.out.fresh hS0) HI.out).mono ?_
  rintro e wB ⟨rfl, hcx⟩
  have hS1 := hS0.trans hcx (by simp)
  clear hS0 hcx
  have hS0 := hS1
  clear hS1
  refine hK.out _ _ (fun _ => hS0) ?_
  clear hK K
  try simp only [Act.put, Z1, Z2, Z3, Z4, Z5, Z6]
  repeat
   first
    | (refine along_off rfl (by rfl) (by rfl) (fun _ _ _ h => h) hS0 ?_; simp only [Act.put, Z1, Z2, Z3, Z4, Z5, Z6])
    | (refine along_read (v := ?_) rfl (by rfl) (by rfl) (fun _ _ _ h => h) hS0 (fun w' hS' => ?_) ?_; rotate_left; (focus (skip; clear hS'; go_simp; try with_reducible rfl)); simp only [Act.put, Z1, Z2, Z3, Z4, Z5, Z6])
    | (refine along_skip rfl (by rfl) (by rfl) hS0 ?_; simp only [Act.put, Z1, Z2, Z3, Z4, Z5, Z6])
  refine along_done ?_
  have HCX := Lib.hid hS0
  clear hS0
  generalize wB = wq at *
  go_wp2
  have hS0 : Chg [] w9 wq.drew := HCX.out.drew
  refine wp_region_way (Chg [] w9) [0, 1, 3, 6, 7, 8, 9, 10] (.then_ 0 (.then_ 1 (.then_ 3 (.fork 2 4 (.then_ 4 (.then_ 5 (Way.line [6, 7, 8, 9, 10] .done))) (.then_ 2 (.then_ 5 (Way.line [6, 7, 8, 9, 10] .done))))))) (by kernel_rfl) (by kernel_rfl) ?_
  simp only [Way.line]
  repeat
   first
    | (refine along_off rfl (by rfl) (by rfl) (fun _ _ _ h => h) hS0 ?_; simp only [Act.put, Z1, Z2, Z3, Z4, Z5, Z6])
    | (refine along_read (v := ?_) rfl (by rfl) (by rfl) (fun _ _ _ h => h) hS0 (fun w' hS' => ?_) ?_; rotate_left; (focus (have rd0 := hS'.cell x0 (by simp); have rd1 := hS'.cell x1 (by simp); have rd2 := hS'.cell d0 (by simp); have rd3 := hS'.cell d1 (by simp); clear hS'; go_simp; try with_reducible rfl)); simp only [Act.put, Z1, Z2, Z3, Z4, Z5, Z6])
    | (refine along_skip rfl (by rfl) (by rfl) hS0 ?_; simp only [Act.put, Z1, Z2, Z3, Z4, Z5, Z6])
  refine along_fork (by rfl) (by rfl) ?_ ?_
  ·skip
   refine along_op rfl (by rfl) (by rfl) (fun K hK => ?_)
   go_simp
   refine (whole_any _ Plain.g1 4 _ rfl (by decide) (by decide) (HG.out.fresh hS0)).mono ?_
   rintro e wA ⟨v1, v2, rfl, r1, r2, hcx⟩
   have hS1 := hS0.trans hcx (by simp)
   clear hS0 hcx
   have hS0 := hS1
   clear hS1
   refine hK.out _ _ (fun _ => hS0) ?_
   clear hK K
   try simp only [Act.put, Z1, Z2, Z3, Z4, Z5, Z6]
   have HR1 := Lib.hid r1.ints
   have HR2 := Lib.hid r2.ints
   rw [E4.out] at HR1
   rw [E3.out] at HR2
   clear r1 r2
   refine along_op rfl (by rfl) (by rfl) (fun K hK => ?_)
   go_simp
   have HI := Lib.hid (lit_three wA (HJ.out 5 (by decide) (by decide)) (HJ.out 3 (by decide) (by decide)) (HJ.out 1 (by decide) (by decide)))
   have hc1 := (Chg.refl [] wA).alloc (.cells #[.int .i64 5, .int .i64 3, .int .i64 1] 3)
   have hS1 := hS0.alloc (.cells #[.int .i64 5, .int .i64 3, .int .i64 1] 3)
   refine hK.out _ _ (fun _ => hS1) ?_
   clear hK K hS0
   have hS0 := hS1
   clear hS1
   try simp only [Act.put, Z1, Z2, Z3, Z4, Z5, Z6]
   have HP := Lib.hid (show PtAt (wA.alloc (.cells #[.int .i64 5, .int .i64 3, .int .i64 1] 3)) (.agg #[v1, v2]) Plain.p1 from ⟨_, _, rfl, HR1.out.fresh hc1, HR2.out.fresh hc1⟩)
   clear hc1
   refine along_op rfl (by rfl) (by rfl) (fun K hK => ?_)
   go_simp
   refine (vtri_b _ _ _ _ _ (HG.out.fresh hS0) HP.out (HPL.out.fresh hS0) HI.out).mono ?_
   rintro e wB ⟨rfl, hcx⟩
   have hS1 := hS0.trans hcx (by simp)
   clear hS0 hcx
   have hS0 := hS1
   clear hS1
   refine hK.out _ _ (fun _ => hS0) ?_
   clear hK K
   try simp only [Act.put, Z1, Z2, Z3, Z4, Z5, Z6]
   repeat
    first
     | (refine along_off rfl (by rfl) (by rfl) (fun _ _ _ h => h) hS0 ?_; simp only [Act.put, Z1, Z2, Z3, Z4, Z5, Z6])
     | (refine along_read (v := ?_) rfl (by rfl) (by rfl) (fun _ _ _ h => h) hS0 (fun w' hS' => ?_) ?_; rotate_left; (focus (skip; clear hS'; go_simp; try with_reducible rfl)); simp only [Act.put, Z1, Z2, Z3, Z4, Z5, Z6])
     | (refine along_skip rfl (by rfl) (by rfl) hS0 ?_; simp only [Act.put, Z1, Z2, Z3, Z4, Z5, Z6])
   refine along_done ?_
   have HCX := Lib.hid hS0
   clear hS0
   clear x0 x1 d0 d1
   have HCF := Lib.hid (HC9.out.trans HCX.out (by simp))
   go_wp2
   go_ret
   exact ⟨rfl, HCF.out⟩
  refine along_op rfl (by rfl) (by rfl) (fun K hK => ?_)
  go_simp
  have HI := Lib.hid ((lit_three wq (HJ.out 5 (by decide) (by decide)) (HJ.out 3 (by decide) (by decide)) (HJ.out 1 (by decide) (by decide))).fresh (Chg.refl [] _).drew)
  have hS1 := (HCX.out.alloc (.cells #[.int .i64 5, .int .i64 3, .int .i64 1] 3)).drew
  refine hK.out _ _ (fun _ => hS1) ?_
  clear hK K hS0
  have hS0 := hS1
  clear hS1
  try simp only [Act.put, Z1, Z2, Z3, Z4, Z5, Z6]
  generalize (wq.alloc (.cells #[.int .i64 5, .int .i64 3, .int .i64 1] 3)).drew = wA at *
  have hIc := HI.out
  refine along_op rfl (by rfl) (by rfl) (fun K hK => ?_)
  go_simp
  refine (whole_any _ Plain.g1 4 _ rfl (by decide) (by decide) (HG.out.fresh hS0)).mono ?_
  rintro e wC ⟨v1, v2, rfl, r1, r2, hcx⟩
  have HI2 := Lib.hid (hIc.fresh hcx)
  have hS1 := hS0.trans hcx (by simp)
  clear hS0 hcx hIc HI
  have hS0 := hS1
  clear hS1
  refine hK.out _ _ (fun _ => hS0) ?_
  clear hK K
  try simp only [Act.put, Z1, Z2, Z3, Z4, Z5, Z6]
  have HR1 := Lib.hid r1.ints
  have HR2 := Lib.hid r2.ints
  rw [E4.out] at HR1
  rw [E3.out] at HR2
  clear r1 r2
  have HP := Lib.hid (show PtAt wC (.agg #[v1, v2]) Plain.p1 from ⟨_, _, rfl, HR1.out, HR2.out⟩)
  refine along_op rfl (by rfl) (by rfl) (fun K hK => ?_)
  go_simp
  refine (vtri_b _ _ _ _ _ (HG.out.fresh hS0) HP.out (HPL.out.fresh hS0) HI2.out).mono ?_
  rintro e wB ⟨rfl, hcx⟩
  have hS1 := hS0.trans hcx (by simp)
  clear hS0 hcx
  have hS0 := hS1
  clear hS1
  refine hK.out _ _ (fun _ => hS0) ?_
  clear hK K
  try simp only [Act.put, Z1, Z2, Z3, Z4, Z5, Z6]
  repeat
   first
    | (refine along_off rfl (by rfl) (by rfl) (fun _ _ _ h => h) hS0 ?_; simp only [Act.put, Z1, Z2, Z3, Z4, Z5, Z6])
    | (refine along_read (v := ?_) rfl (by rfl) (by rfl) (fun _ _ _ h => h) hS0 (fun w' hS' => ?_) ?_; rotate_left; (focus (skip; clear hS'; go_simp; try with_reducible rfl)); simp only [Act.put, Z1, Z2, Z3, Z4, Z5, Z6])
    | (refine along_skip rfl (by rfl) (by rfl) hS0 ?_; simp only [Act.put, Z1, Z2, Z3, Z4, Z5, Z6])
  refine along_done ?_
  have HCX := Lib.hid hS0
  clear hS0
  clear x0 x1 d0 d1
  have HCF := Lib.hid (HC9.out.trans HCX.out (by simp))
  go_wp2
  go_ret
  exact ⟨rfl, HCF.out⟩
 refine along_op rfl (by rfl) (by rfl) (fun K hK => ?_)
 go_simp
 have HI := Lib.hid ((lit_three w9 (HJ.out 0 (by decide) (by decide)) (HJ.out 2 (by decide) (by decide)) (HJ.out 4 (by decide) (by decide))).fresh (Chg.refl [] _).drew)
 have hS1 := ((Chg.refl [] w9).alloc (.cells #[.int .i64 0, .int .i64 2, .int .i64 4] 3)).drew
 refine hK.out _ _ (fun _ => hS1) ?_
 clear hK K hS0
 have hS0 := hS1
 clear hS1
 try simp only [Act.put, Z1, Z2, Z3, Z4, Z5, Z6]
 generalize (w9.alloc (.cells #[.int .i64 0, .int .i64 2, .int .i64 4] 3)).drew = wA at *
 have hIc := HI.out
 refine along_op rfl (by rfl) (by rfl) (fun K hK => ?_)
 go_simp
 refine (whole_any _ Plain.g1 4 _ rfl (by decide) (by decide) (HG.out.fresh hS0)).mono ?_
 rintro e wC ⟨v1, v2, rfl, r1, r2, hcx⟩
 have HI2 := Lib.hid (hIc.fresh hcx)
 have hS1 := hS0.trans hcx (by simp)
 clear hS0 hcx hIc HI
 have hS0 := hS1
 clear hS1
 refine hK.out _ _ (fun _ => hS0) ?_
 clear hK K
 try simp only [Act.put, Z1, Z2, Z3, Z4, Z5, Z6]
 have HR1 := Lib.hid r1.ints
 have HR2 := Lib.hid r2.ints
 rw [E4.out] at HR1
 rw [E3.out] at HR2
 clear r1 r2
 have HP := Lib.hid (show PtAt wC (.agg #[v1, v2]) Plain.p1 from ⟨_, _, rfl, HR1.out, HR2.out⟩)
 refine along_op rfl (by rfl) (by rfl) (fun K hK => ?_)
 go_simp
 refine (vtri_a _ _ _ _ _ (HG.out.fresh hS0) HP.out (HPL.out.fresh hS0) HI2.out).mono ?_
 rintro e wB ⟨rfl, hcx⟩
 have hS1 := hS0.trans hcx (by simp)
 clear hS0 hcx
 have hS0 := hS1
 clear hS1
 refine hK.out _ _ (fun _ => hS0) ?_
 clear hK K
 try simp only [Act.put, Z1, Z2, Z3, Z4, Z5, Z6]
 repeat
  first
   | (refine along_off rfl (by rfl) (by rfl) (fun _ _ _ h => h) hS0 ?_; simp only [Act.put, Z1, Z2, Z3, Z4, Z5, Z6])
   | (refine along_read (v := ?_) rfl (by rfl) (by rfl) (fun _ _ _ h => h) hS0 (fun w' hS' => ?_) ?_; rotate_left; (focus (skip; clear hS'; go_simp; try with_reducible rfl)); simp only [Act.put, Z1, Z2, Z3, Z4, Z5, Z6])
   | (refine along_skip rfl (by rfl) (by rfl) hS0 ?_; simp only [Act.put, Z1, Z2, Z3, Z4, Z5, Z6])
 refine along_done ?_
 have HCX := Lib.hid hS0
 clear hS0
 generalize wB = wq at *
 go_wp2
 have hS0 : Chg [] w9 wq.drew := HCX.out.drew
 refine wp_region_way (Chg [] w9) [0, 1, 3, 6, 7, 8, 9, 10] (.then_ 0 (.then_ 1 (.then_ 3 (.fork 2 4 (.then_ 4 (.then_ 5 (Way.line [6, 7, 8, 9, 10] .done))) (.then_ 2 (.then_ 5 (Way.line [6, 7, 8, 9, 10] .done))))))) (by kernel_rfl) (by kernel_rfl) ?_
 simp only [Way.line]
 repeat
  first
   | (refine along_off rfl (by rfl) (by rfl) (fun _ _ _ h => h) hS0 ?_; simp only [Act.put, Z1, Z2, Z3, Z4, Z5, Z6])
   | (refine along_read (v := ?_) rfl (by rfl) (by rfl) (fun _ _ _ h => h) hS0 (fun w' hS' => ?_) ?_; rotate_left; (focus (have rd0 := hS'.cell x0 (by simp); have rd1 := hS'.cell x1 (by simp); have rd2 := hS'.cell d0 (by simp); have rd3 := hS'.cell d1 (by simp); clear hS'; go_simp; try with_reducible rfl)); simp only [Act.put, Z1, Z2, Z3, Z4, Z5, Z6])
   | (refine along_skip rfl (by rfl) (by rfl) hS0 ?_; simp only [Act.put, Z1, Z2, Z3, Z4, Z5, Z6])
 refine along_fork (by rfl) (by rfl) ?_ ?_
 ·skip
  refine along_op rfl (by rfl) (by rfl) (fun K hK => ?_)
  go_simp
  refine (whole_any _ Plain.g1 4 _ rfl (by decide) (by decide) (HG.out.fresh hS0)).mono ?_
  rintro e wA ⟨v1, v2, rfl, r1, r2, hcx⟩
  have hS1 := hS0.trans hcx (by simp)
  clear hS0 hcx
  have hS0 := hS1
  clear hS1
  refine hK.out _ _ (fun _ => hS0) ?_
  clear hK K
  try simp only [Act.put, Z1, Z2, Z3, Z4, Z5, Z6]
  have HR1 := Lib.hid r1.ints
  have HR2 := Lib.hid r2.ints
  rw [E4.out] at HR1
  rw [E3.out] at HR2
  clear r1 r2
  refine along_op rfl (by rfl) (by rfl) (fun K hK => ?_)
  go_simp
  have HI := Lib.hid (lit_three wA (HJ.out 5 (by decide) (by decide)) (HJ.out 3 (by decide) (by decide)) (HJ.out 1 (by decide) (by decide)))
  have hc1 := (Chg.refl [] wA).alloc (.cells #[.int .i64 5, .int .i64 3, .int .i64 1] 3)
  have hS1 := hS0.alloc (.cells #[.int .i64 5, .int .i64 3, .int .i64 1] 3)
  refine hK.out _ _ (fun _ => hS1) ?_
  clear hK K hS0
  have hS0 := hS1
  clear hS1
  try simp only [Act.put, Z1, Z2, Z3, Z4, Z5, Z6]
  have HP := Lib.hid (show PtAt (wA.alloc (.cells #[.int .i64 5, .int .i64 3, .int .i64 1] 3)) (.agg #[v1, v2]) Plain.p1 from ⟨_, _, rfl, HR1.out.fresh hc1, HR2.out.fresh hc1⟩)
  clear hc1
  refine along_op rfl (by rfl) (by rfl) (fun K hK => ?_)
  go_simp
  refine (vtri_b _ _ _ _ _ (HG.out.fresh hS0) HP.out (HPL.out.fresh hS0) HI.out).mono ?_
  rintro e wB ⟨rfl, hcx⟩
  have hS1 := hS0.trans hcx (by simp)
  clear hS0 hcx
  have hS0 := hS1
  clear hS1
  refine hK.out _ _ (fun _ => hS0) ?_
  clear hK K
  try simp only [Act.put, Z1, Z2, Z3, Z4, Z5, Z6]
  repeat
   first
    | (refine along_off rfl (by rfl) (by rfl) (fun _ _ _ h => h) hS0 ?_; simp only [Act.put, Z1, Z2, Z3, Z4, Z5, Z6])
    | (refine along_read (v := ?_) rfl (by rfl) (by rfl) (fun _ _ _ h => h) hS0 (fun w' hS' => ?_) ?_; rotate_left; (focus (skip; clear hS'; go_simp; try with_reducible rfl)); simp only [Act.put, Z1, Z2, Z3, Z4, Z5, Z6])
    | (refine along_skip rfl (by rfl) (by rfl) hS0 ?_; simp only [Act.put, Z1, Z2, Z3, Z4, Z5, Z6])
  refine along_done ?_
  have HCX := Lib.hid hS0
  clear hS0
  clear x0 x1 d0 d1
  have HCF := Lib.hid (HC9.out.trans HCX.out (by simp))
  go_wp2
  go_ret
  exact ⟨rfl, HCF.out⟩
 refine along_op rfl (by rfl) (by rfl) (fun K hK => ?_)
 go_simp
 have HI := Lib.hid ((lit_three wq (HJ.out 5 (by decide) (by decide)) (HJ.out 3 (by decide) (by decide)) (HJ.out 1 (by decide) (by decide))).fresh (Chg.refl [] _).drew)
 have hS1 := (HCX.out.alloc (.cells #[.int .i64 5, .int .i64 3, .int .i64 1] 3)).drew
 refine hK.out _ _ (fun _ => hS1) ?_
 clear hK K hS0
 have hS0 := hS1
 clear hS1
 try simp only [Act.put, Z1, Z2, Z3, Z4, Z5, Z6]
 generalize (wq.alloc (.cells #[.int .i64 5, .int .i64 3, .int .i64 1] 3)).drew = wA at *
 have hIc := HI.out
 refine along_op rfl (by rfl) (by rfl) (fun K hK => ?_)
 go_simp
 refine (whole_any _ Plain.g1 4 _ rfl (by decide) (by decide) (HG.out.fresh hS0)).mono ?_
 rintro e wC ⟨v1, v2, rfl, r1, r2, hcx⟩
 have HI2 := Lib.hid (hIc.fresh hcx)
 have hS1 := hS0.trans hcx (by simp)
 clear hS0 hcx hIc HI
 have hS0 := hS1
 clear hS1
 refine hK.out _ _ (fun _ => hS0) ?_
 clear hK K
 try simp only [Act.put, Z1, Z2, Z3, Z4, Z5, Z6]
 have HR1 := Lib.hid r1.ints
 have HR2 := Lib.hid r2.ints
 rw [E4.out] at HR1
 rw [E3.out] at HR2
 clear r1 r2
 have HP := Lib.hid (show PtAt wC (.agg #[v1, v2]) Plain.p1 from ⟨_, _, rfl, HR1.out, HR2.out⟩)
 refine along_op rfl (by rfl) (by rfl) (fun K hK => ?_)
 go_simp
 refine (vtri_b _ _ _ _ _ (HG.out.fresh hS0) HP.out (HPL.out.fresh hS0) HI2.out).mono ?_
 rintro e wB ⟨rfl, hcx⟩
 have hS1 := hS0.trans hcx (by simp)
 clear hS0 hcx
 have hS0 := hS1
 clear hS1
 refine hK.out _ _ (fun _ => hS0) ?_
 clear hK K
 try simp only [Act.put, Z1, Z2, Z3, Z4, Z5, Z6]
 repeat
  first
   | (refine along_off rfl (by rfl) (by rfl) (fun _ _ _ h => h) hS0 ?_; simp only [Act.put, Z1, Z2, Z3, Z4, Z5, Z6])
   | (refine along_read (v := ?_) rfl (by rfl) (by rfl) (fun _ _ _ h => h) hS0 (fun w' hS' => ?_) ?_; rotate_left; (focus (skip; clear hS'; go_simp; try with_reducible rfl)); simp only [Act.put, Z1, Z2, Z3, Z4, Z5, Z6])
   | (refine along_skip rfl (by rfl) (by rfl) hS0 ?_; simp only [Act.put, Z1, Z2, Z3, Z4, Z5, Z6])
 refine along_done ?_
 have HCX := Lib.hid hS0
 clear hS0
 clear x0 x1 d0 d1
 have HCF := Lib.hid (HC9.out.trans HCX.out (by simp))
 go_wp2
 go_ret
 exact ⟨rfl, HCF.out⟩
set_option maxRecDepth 100000 in
set_option maxHeartbeats 4000000 in
theorem small10_any (vg vp vx vc : Value) (g : Plain.Gr) (p : Plain.Pt) (turn same : List (List Int)) (cy : List Int) (w : World) (hg : GrAt w vg g) (hp : PtAt w vp p) (hx : PlAt w vx turn same) (hcy : IntsAt w vc cy) :
  Calls Try.prog 17 #[vg, vp, vx, vc] w fun e w' => e = .returned (.bool (Plain.small8 g p turn same && decide (cy.length ≤ 60))) ∧ Chg [] w w' := by
 obtain ⟨co, cc, rfl, hci, hcm, -⟩ := hcy
 clear hci
 have HG := Lib.hid hg
 have HP := Lib.hid hp
 have HX := Lib.hid hx
 obtain ⟨eo, cap, rfl, hn, hm, hsm, hcell⟩ := hg
 obtain ⟨v1, v2, rfl, hv, he⟩ := hp
 obtain ⟨ao, ac, rfl, has, ham, hacell⟩ := hv
 obtain ⟨bo, bc, rfl, hbs, hbm, hbcell⟩ := he
 have HAC := Lib.hid hacell
 have HBC := Lib.hid hbcell
 obtain ⟨t1, t2, rfl, ht, hs⟩ := hx
 have HT := Lib.hid ht
 have HS := Lib.hid hs
 obtain ⟨tno, tc, rfl, htm, -⟩ := ht
 obtain ⟨so, sc, rfl, hsm2, hsc⟩ := hs
 obtain ⟨-, -, hc1⟩ := box_two w #[.int .i64 g.n, .slice eo g.e.length cap] #[.slice ao p.v.length ac, .slice bo p.e.length bc] 24 27
 obtain ⟨-, hc3⟩ := box_three w #[.int .i64 g.n, .slice eo g.e.length cap] #[.slice ao p.v.length ac, .slice bo p.e.length bc] #[.slice tno turn.length tc, .slice so same.length sc] 24 27 30
 have HC1 := Lib.hid (hc1.trans hc3 (by simp))
 have HBXS := Lib.hid (fun w2 h => three_boxes w (g := g) (p := p) (turn := turn) (same := same) (eo := eo) (ao := ao) (bo := bo) (tno := tno) (so := so) (cap := cap) (ac := ac) (bc := bc) (tc := tc) (sc := sc) (w2 := w2) h)
 clear hcell hacell hbcell hsm hbs has hn hc1 hc3 hsc
 obtain ⟨x0, x1, y0, y1, z0, z1, hsz⟩ := HBXS.out _ (Chg.refl _ _)
 go_enter Try.func17, Try.ntmps17
 go_wp2_with fail
 refine (small8_any _ _ _ g p turn same _ (HG.out.fresh HC1.out) (HP.out.fresh HC1.out) (HX.out.fresh HC1.out)).mono ?_
 rintro e w2 ⟨rfl, hc2⟩
 have HC2 := Lib.hid (HC1.out.trans hc2 (by simp))
 clear x0 x1 y0 y1 z0 z1 hsz hc2
 cases hb : Plain.small8 g p turn same with
 | false =>
  rw [show bit false = 0 from rfl]
  have HB := Lib.hid hb
  clear hb
  go_wp2
  go_ret
  exact ⟨ret_bool (show false = _ by rw [HB.out]; rfl), HC2.out⟩
 | true =>
  rw [show bit true = 1 from rfl]
  have HB := Lib.hid hb
  clear hb
  by_cases hl : cy.length ≤ 60
  ·have bl : decide ((cy.length : Int) ≤ 60) = true := decide_eq_true (by omega)
   have HE := Lib.hid (show decide (cy.length ≤ 60) = true from decide_eq_true hl)
   clear hl
   go_wp2
   go_ret
   exact ⟨ret_bool (show true = _ by rw [HB.out, HE.out]; rfl), HC2.out⟩
  have bl : decide ((cy.length : Int) ≤ 60) = false := decide_eq_false (by omega)
  have HE := Lib.hid (show decide (cy.length ≤ 60) = false from decide_eq_false hl)
  clear hl
  go_wp2
  go_ret
  exact ⟨ret_bool (show false = _ by rw [HB.out, HE.out]; rfl), HC2.out⟩
namespace Plain
end Plain
end Go.Proofs.Ytckjpaimbmlboaa
