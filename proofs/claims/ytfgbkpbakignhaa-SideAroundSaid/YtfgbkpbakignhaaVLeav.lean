/- package walk: the contract of leaving: of each vertex the darts that leave it. Conditions: a right part that lies in memory and reads so. -/
import Derived.Test.YtfgbkpbakignhaaVQueue
import Derived.Test.YtfgbkpbakignhaaVBase
import Derived.Test.YtfgbkpbakignhaaVGraphB
namespace Go.Proofs.Ytfgbkpbakignhaa
open Go.RowKit Go.Maps

namespace Plain
/-- The darts of the first k edges that leave v. -/
def outs (g : Gr) (p : Pt) (k : Nat) (v : Int) : List Int := (Pt.darts ⟨[], p.e.take k⟩).filter fun d => decide (g.tail d = v)

theorem outs_zero (g : Gr) (p : Pt) : outs g p 0 = fun _ => [] := by funext v; simp [outs, Pt.darts]

theorem outs_succ {g : Gr} {p : Pt} {k e : Nat} (hk : k < p.e.length) (he : p.e.getD k 0 = (e : Int)) :
    outs g p (k + 1) = fun v => outs g p k v ++ ((if (g.ends e).1 = v then [2 * (e : Int)] else []) ++ (if (g.ends e).2 = v then [2 * (e : Int) + 1] else [])) := by
  funext v
  have e1 : p.e.take (k + 1) = p.e.take k ++ [(e : Int)] := by
    rw [List.take_succ_eq_append_getElem hk, ← he]
    simp [List.getD, hk]
  unfold outs Pt.darts
  rw [e1, List.flatMap_append, List.filter_append]
  congr 1
  have h1 : g.tail (2 * (e : Int)) = (g.ends e).1 := by have := (dart_even g e).1; simpa using this
  have h2 : g.tail (2 * (e : Int) + 1) = (g.ends e).2 := by have := (dart_odd g e).1; simpa using this
  simp only [List.flatMap_cons, List.flatMap_nil, List.append_nil, List.filter_cons, List.filter_nil, h1, h2, decide_eq_true_eq]
  split <;> split <;> rfl

theorem outs_all (g : Gr) (p : Pt) (v : Int) : outs g p p.e.length v = p.darts.filter fun d => decide (g.tail d = v) := by
  unfold outs
  rw [List.take_length]
  rfl
end Plain

theorem outs_len (g : Plain.Gr) (p : Plain.Pt) (k : Nat) (v : Int) : (Plain.outs g p k v).length ≤ 2 * k := by
  unfold Plain.outs
  refine Nat.le_trans (List.length_filter_le _ _) ?_
  rw [Plain.darts_length]
  simp only [List.length_take]
  omega

theorem upd_two (f : Int → List Int) (a z s t : Int) : (fun y => if y = z then (if z = a then f a ++ [s] else f z) ++ [t] else (if y = a then f a ++ [s] else f y)) = fun v => f v ++ ((if a = v then [s] else []) ++ (if z = v then [t] else [])) := by
  funext y
  by_cases h1 : y = z
  · subst h1
    by_cases h2 : y = a
    · subst h2; simp
    · simp [h2, Ne.symm h2]
  · by_cases h2 : y = a
    · subst h2; simp [h1, Ne.symm h1]
    · simp [h1, h2, Ne.symm h1, Ne.symm h2]

theorem lit_ints (w : World) {x : Int} (hx : I64 x) : IntsAt (w.alloc (.cells #[.int .i64 x] 3)) (.slice (some ⟨w.heap.size, 0, none⟩) 1 1) [x] := by
  refine ⟨_, 1, rfl, by simpa using hx, by simp, fun _ => ⟨w.heap.size, 0, rfl, fun i hi => ?_⟩⟩
  have : i = 0 := by simpa using hi
  subst this
  rw [cell_of_row _ _ _ _ _ _ (heap_alloc_new w _)]
  rfl

set_option maxHeartbeats 2000000 in
theorem leaving_any (vg vp : Value) (g : Plain.Gr) (p : Plain.Pt) (w : World) (hpl : p.e.length ≤ 1000000) (hr : p.err g = 0) (hg : GrAt w vg g) (hp : PtAt w vp p) :
    Calls Try.prog 56 #[vg, vp] w fun e w' => ∃ b, e = .returned (.map (some b)) ∧ SMap w' b (2 * p.e.length) (fun v => p.darts.filter fun d => decide (g.tail d = v)) ∧ Chg [] w w' ∧ w.heap.size ≤ b := by
  obtain ⟨hge, hrv, hre, -⟩ := Plain.Pt.err_ok hr
  obtain ⟨hn0, hn1, hel, hends⟩ := Plain.Gr.err_ok hge
  have HRE := Lib.hid hre
  obtain ⟨eo, cap, rfl, hn, hm, hsm, hcell⟩ := hg
  obtain ⟨v1, v2, rfl, hv, he⟩ := hp
  obtain ⟨ao, ac, rfl, -, -, -⟩ := hv
  obtain ⟨bo, bc, rfl, hbs, hbm, hbcell⟩ := he
  have HCE := Lib.hid hcell
  have HBC := Lib.hid hbcell
  have HSM := Lib.hid hsm
  have hmm := @run_makeMap Try.prog
  obtain ⟨hb1, hb2, hc1⟩ := box_two w #[.int .i64 g.n, .slice eo g.e.length cap] #[.slice ao p.v.length ac, .slice bo p.e.length bc] 24 27
  have x1 := (cell_of_row _ _ 1 _ _ _ hb1).trans (show _ = some (Value.slice eo g.e.length cap) from rfl)
  have y1 := (cell_of_row _ _ 1 _ _ _ hb2).trans (show _ = some (Value.slice bo p.e.length bc) from rfl)
  have X1 := Lib.hid x1
  have Y1 := Lib.hid y1
  have HC1 := Lib.hid hc1
  clear hcell hbcell hsm hends hre hrv hge hr hbs hn hb1 hb2 hc1 x1
  have HM := Lib.hid (SMap.made ((w.alloc (.cells #[.int .i64 g.n, .slice eo g.e.length cap] 24)).alloc (.cells #[.slice ao p.v.length ac, .slice bo p.e.length bc] 27)))
  have y1n := fun o => cellNew y1 o
  go_enter Try.func56, Try.ntmps56
  go_wp2
  clear hmm y1 y1n
  have hsz : ((w.alloc (.cells #[.int .i64 g.n, .slice eo g.e.length cap] 24)).alloc (.cells #[.slice ao p.v.length ac, .slice bo p.e.length bc] 27)).heap.size = w.heap.size + 1 + 1 := by simp
  rw [hsz] at HM
  generalize hw1 : ((w.alloc (.cells #[.int .i64 g.n, .slice eo g.e.length cap] 24)).alloc (.cells #[.slice ao p.v.length ac, .slice bo p.e.length bc] 27)) = w1 at *
  clear hw1
  obtain ⟨mb, hmb⟩ : ∃ mb, w.heap.size + 1 + 1 = mb := ⟨_, rfl⟩
  rw [hmb] at HM hsz ⊢
  have hwb : w.heap.size ≤ mb := by omega
  generalize w.heap.size + 1 = pb at *
  generalize hgb : w.heap.size = gb at *
  go_loopw [14] (fun c wr => ∃ k : Nat, k ≤ p.e.length ∧ c = .int .i64 k ∧ Chg [] w1 wr ∧ SMap wr mb (2 * k) (Plain.outs g p k)) (fun c _ => p.e.length - (intOf c).toNat)
  case atStart => exact ⟨0, Nat.zero_le _, rfl, (Chg.refl [] w1).alloc _, by rw [Plain.outs_zero]; exact HM.out⟩
  case round =>
    obtain ⟨k, hk, rfl, hc, hsm⟩ := hrel
    have HC := Lib.hid hc
    have HS := Lib.hid hsm
    by_cases hlt : k < p.e.length
    · obtain ⟨bb, boff, rfl, hbc⟩ := HBC.out (by intro e; rw [e] at hlt; simp at hlt)
      have ce := hc.cell (HC1.out.cell (hbc k hlt) (by simp)) (by simp)
      have hre := Plain.rises_at HRE.out hlt
      obtain ⟨ei, hei⟩ : ∃ ei : Nat, p.e.getD k 0 = (ei : Int) := ⟨(p.e.getD k 0).toNat, by omega⟩
      have HO := Lib.hid (Plain.outs_succ (g := g) hlt hei)
      rw [hei] at ce hre
      have hei2 : ei < g.e.length := by omega
      have hei3 : (ei : Int) ≤ 1024 := by omega
      obtain ⟨eb, eoff, rfl, hc0, hc1⟩ := HCE.out ei hei2
      obtain ⟨z1, z2⟩ := HSM.out ei hei2
      have C0 := Lib.hid (HC1.out.cell hc0 (by simp))
      have C1 := Lib.hid (HC1.out.cell hc1 (by simp))
      clear hbc hc hre hei hc0 hc1 hsm
      generalize (g.ends ei).1 = x at *
      generalize (g.ends ei).2 = y at *
      go_wp2
      clear ce
      have hS0 : (fun w' : World => w'.cell? ⟨gb, 1, none⟩ = some (.slice (some ⟨eb, eoff, none⟩) g.e.length cap) ∧ w'.cell? ⟨eb, eoff + ei * 2, none⟩ = some (.int .i64 x) ∧ w'.cell? ⟨eb, eoff + ei * 2 + 1, none⟩ = some (.int .i64 y)) wr.drew := ⟨HC.out.drew.cell X1.out (by simp), HC.out.drew.cell C0.out (by simp), HC.out.drew.cell C1.out (by simp)⟩
      refine wp_region_way (fun w' : World => w'.cell? ⟨gb, 1, none⟩ = some (.slice (some ⟨eb, eoff, none⟩) g.e.length cap) ∧ w'.cell? ⟨eb, eoff + ei * 2, none⟩ = some (.int .i64 x) ∧ w'.cell? ⟨eb, eoff + ei * 2 + 1, none⟩ = some (.int .i64 y)) [0, 1, 2, 3, 4, 5, 6, 7, 8, 9, 10, 11, 12, 13] (Way.line [0, 1, 2, 3, 4, 5, 6, 7, 8, 9, 10, 11, 12, 13] .done) (by kernel_rfl) (by kernel_rfl) ?_
      simp only [Way.line]
      repeat
        first
          | (refine along_off rfl (by rfl) (by rfl) (fun _ _ _ h => h) hS0 ?_; simp only [Act.put, List.getElem_toArray, List.getElem_cons_zero, List.getElem_cons_succ, List.setIfInBounds_toArray, List.set_cons_zero, List.set_cons_succ])
          | (refine along_read (v := ?_) rfl (by rfl) (by rfl) (fun _ _ _ h => h) hS0 (fun w' hS' => ?_) ?_; rotate_left; (focus ((try dsimp only at hS'); go_simp; try with_reducible rfl)); simp only [Act.put, List.getElem_toArray, List.getElem_cons_zero, List.getElem_cons_succ, List.setIfInBounds_toArray, List.set_cons_zero, List.set_cons_succ])
          | (refine along_skip rfl (by rfl) (by rfl) hS0 ?_; simp only [Act.put, List.getElem_toArray, List.getElem_cons_zero, List.getElem_cons_succ, List.setIfInBounds_toArray, List.set_cons_zero, List.set_cons_succ])
      refine along_done ?_
      clear hS0
      have HS2 := Lib.hid (show SMap wr.drew mb (2 * k) (Plain.outs g p k) from HS.out)
      have HC2 := Lib.hid HC.out.drew
      have I1 : I64 (2 * (ei : Int)) := I64.mk (by omega) (by omega)
      have I2 : I64 (2 * (ei : Int) + 1) := I64.mk (by omega) (by omega)
      generalize wr.drew = wd at *
      have HFL := Lib.hid (fun v => outs_len g p k v)
      generalize Plain.outs g p k = f0 at *
      have HSZ := Lib.hid hsz
      have tok1 : True := trivial
      have tok2 : True := trivial
      have tok3 : True := trivial
      clear HS HC hsz
      go_wp2_with (first
        | (at_lookup; have _t := tok1; refine wl_slook rfl _ _ rfl HS2.out (by omega) rfl z1 rfl ?_; intro v1 r1 l1 b1; clear tok1; have R1 := Lib.hid r1; have B1 := Lib.hid b1; clear r1 l1 b1)
        | (at_builtin; have _t := tok2; refine wl_app_read rfl _ _ rfl (B := mb + 1) rfl rfl (R1.out.chg ((Chg.refl [] _).alloc _) (by simp)) (lit_ints _ I1) (by have := HS2.out.lt; simp; omega) (by have := HFL.out x; simp; omega) ?_; intro u1 w2 q1 c1 f1; clear tok2; have Q1 := Lib.hid q1; have D1 := Lib.hid (((Chg.refl (foot v1) wd).alloc (.cells #[.int .i64 (2 * (ei : Int))] 3)).trans c1 (fun j hj => Or.inl hj)); have F1 := Lib.hid (fun j hj => (f1 j hj).imp id (fun h => Nat.le_trans ((Chg.refl [] wd).alloc (.cells #[.int .i64 (2 * (ei : Int))] 3)).size h)); clear q1 c1 f1)
        | (at_mapUpdate; have _t := tok3; refine wl_sback rfl _ _ _ rfl B1.out rfl rfl rfl Q1.out D1.out F1.out ?_; intro w3 s3 d3; clear tok3; have S3 := Lib.hid s3; have D3 := Lib.hid d3; clear s3 d3)
        | (at_lookup; refine wl_slook rfl _ _ rfl S3.out (by omega) rfl z2 rfl ?_; intro v4 r4 l4 b4; have R4 := Lib.hid r4; have L4 := Lib.hid l4; have B4 := Lib.hid b4; clear r4 l4 b4)
        | (at_builtin; refine wl_app_read rfl _ _ rfl (B := mb + 1) rfl rfl (R4.out.chg ((Chg.refl [] _).alloc _) (by simp)) (lit_ints _ I2) (by have := S3.out.lt; simp; omega) (by have := L4.out; simp; omega) ?_; intro u5 w5 q5 c5 f5; have Q5 := Lib.hid q5; have D5 := Lib.hid (((Chg.refl (foot v4) w3).alloc (.cells #[.int .i64 (2 * (ei : Int) + 1)] 3)).trans c5 (fun j hj => Or.inl hj)); have F5 := Lib.hid (fun j hj => (f5 j hj).imp id (fun h => Nat.le_trans ((Chg.refl [] w3).alloc (.cells #[.int .i64 (2 * (ei : Int) + 1)] 3)).size h)); clear q5 c5 f5)
        | (at_mapUpdate; refine wl_sback rfl _ _ _ rfl B4.out rfl rfl rfl Q5.out D5.out F5.out ?_; intro w6 s6 d6; have S6 := Lib.hid s6; have D6 := Lib.hid d6; clear s6 d6))
      have low1 : ∀ j ∈ foot v1, w1.heap.size ≤ j := fun j hj => by have := (R1.out.low j (by rw [← R1.out.foot]; exact hj)).1; have := HSZ.out; omega
      have low4 : ∀ j ∈ foot v4, w1.heap.size ≤ j := fun j hj => by have := (R4.out.low j (by rw [← R4.out.foot]; exact hj)).1; have := HSZ.out; omega
      have lowm : ∀ j ∈ [mb], j ∈ ([] : List Nat) ∨ w1.heap.size ≤ j := fun j hj => Or.inr (by have := HSZ.out; simp at hj; omega)
      have HC6 := Lib.hid ((((HC2.out.trans D1.out (fun j hj => Or.inr (low1 j hj))).trans D3.out lowm).trans D5.out (fun j hj => Or.inr (low4 j hj))).trans D6.out lowm)
      have HS6 := Lib.hid (show SMap w6 mb (2 * (k + 1)) (Plain.outs g p (k + 1)) by rw [HO.out, ← upd_two f0 x y]; exact S6.out)
      clear low1 low4 lowm
      go_wp2
      go_roundw
      case rel => exact ⟨k + 1, by omega, by go_num, HC6.out, HS6.out⟩
      case measure => simp [intOf]; omega
    · have e : k = p.e.length := by omega
      subst e
      have HF := Lib.hid (show SMap wr mb (2 * p.e.length) (fun v => p.darts.filter fun d => decide (g.tail d = v)) by have := HS.out; rwa [show Plain.outs g p p.e.length = fun v => p.darts.filter fun d => decide (g.tail d = v) from funext (Plain.outs_all g p)] at this)
      clear hsm hc
      go_wp2
      go_ret
      exact ⟨mb, rfl, HF.out, HC1.out.trans HC.out (by simp), by rw [hgb]; exact hwb⟩

end Go.Proofs.Ytfgbkpbakignhaa
