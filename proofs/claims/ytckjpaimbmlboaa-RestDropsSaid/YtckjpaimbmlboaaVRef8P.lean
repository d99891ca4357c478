/- The document's way to a plan's error: keys first, then groups that are told anew; it is plan.Right's. No program here. -/
import Derived.Test.YtckjpaimbmlboaaVFlat
import Derived.Test.YtckjpaimbmlboaaVRows2
import Derived.Test.YtckjpaimbmlboaaVAwake8
import Derived.Test.YtckjpaimbmlboaaVSpread
namespace Go.Proofs.Ytckjpaimbmlboaa

namespace Plain
def keysOk (ow : Int → Option Int) (l : List Int) (met : List Int) (k : Nat) : Prop :=
 ∀ i, i < k → (ow (l.getD i 0)).isSome = true ∧ l.getD i 0 ∉ met ++ l.take i ∧ (0 < i → l.getD (i - 1) 0 < l.getD i 0)
instance (ow : Int → Option Int) (l met : List Int) (k : Nat) : Decidable (keysOk ow l met k) := by unfold keysOk; infer_instance
structure Alike (n : Nat) (s : St) (grp : List Nat) : Prop where
 ok : s.Ok
 all : s.all = upTo n
 len : grp.length = n
 same : ∀ i j, i < n → j < n → (grp.getD i 0 = grp.getD j 0 ↔ s.hd i = s.hd j)

end Plain
end Go.Proofs.Ytckjpaimbmlboaa
/- Laws at operations, in short words: a number appended to a row of the call's own. Conditions: what each law says. -/
namespace Go.Proofs.Ytckjpaimbmlboaa
open Go.RowKit Go.Maps

theorem row_lit1 {w : World} {B : Nat} (hB : B ≤ w.heap.size) {k : Int} (hk : I64 k) : RowAt (w.alloc (.cells #[.int .i64 k] 3)) B (.slice (some ⟨w.heap.size, 0, none⟩) 1 1) [k] :=
 ⟨World.ownsRow_lit w #[.int .i64 k] 1 hB (by decide) rfl, by simpa using hk, by simp⟩

theorem wl_push {ops : Array Oper} {rest : List Oper} {o : Oper} {a : Act} {Q : Exit → Act → World → Prop} {w w0 : World} (hg : o.guard = none) (s x : Operand) (ho : o.op = .call { callee := .builtin .append, args := #[s, x], argTypes := #[25, 25] })
  {B : Nat} {v : Value} {l : List Int} {k : Int} (hs : a.eval s = v) (hx : a.eval x = .slice (some ⟨w0.heap.size, 0, none⟩) 1 1) (h : RowAt w0 B v l) (hk : I64 k) (hB : B ≤ w0.heap.size) (hn : l.length < 4294967290) (hw : w = w0.alloc (.cells #[.int .i64 k] 3))
  (hK : ∀ v' w', RowAt w' B v' (l ++ [k]) → Chg (foot v) w0 w' → (∀ b ∈ foot v', b ∈ foot v ∨ w0.heap.size ≤ b) → wpList Try.prog ops Q rest (a.put o.dst v') w') : wpList Try.prog ops Q (o :: rest) a w := by
 subst hw
 have hc := (Chg.refl [] w0).alloc (.cells #[.int .i64 k] 3)
 refine wl_cat hg s x ho hs hx (h.chg hc (by simp)) (row_lit1 (B := w0.heap.size) (Nat.le_refl _) hk) (Nat.le_trans hB hc.size) (by simp; omega) fun v' w' r1 r2 r3 => hK v' w' r1 ((hc.mono (by simp)).trans r2 fun j hj => Or.inl hj) fun b hb => (r3 b hb).imp id fun q => Nat.le_trans hc.size q

theorem IntsAt.cellAt {w : World} {ao : Option Addr} {n c : Nat} {l : List Int} (h : IntsAt w (.slice ao n c) l) {i : Nat} (hi : i < l.length) : ∃ b off, ao = some ⟨b, off, none⟩ ∧ w.cell? ⟨b, off + i, none⟩ = some (.int .i64 (l.getD i 0)) := by
 obtain ⟨ao', c', e', -, -, h⟩ := h
 simp only [Value.slice.injEq] at e'
 obtain ⟨rfl, -, rfl⟩ := e'
 obtain ⟨b, off, rfl, h2⟩ := h (by intro q; rw [q] at hi; simp at hi)
 exact ⟨b, off, rfl, h2 i hi⟩

theorem RowsAt.row {w : World} {tno : Option Addr} {n tc : Nat} {ll : List (List Int)} (h : RowsAt w (.slice tno n tc) ll) {k : Nat} (hk : k < ll.length) : ∃ b off uo uc, tno = some ⟨b, off, none⟩ ∧ w.cell? ⟨b, off + k, none⟩ = some (.slice uo (ll.getD k []).length uc) ∧ IntsAt w (.slice uo (ll.getD k []).length uc) (ll.getD k []) := by
 obtain ⟨ao, cap, e, -, h2⟩ := h
 simp only [Value.slice.injEq] at e
 obtain ⟨rfl, rfl, rfl⟩ := e
 obtain ⟨b, off, u, rfl, h3, -, h5⟩ := h2 k hk
 have h6 := h5
 obtain ⟨uo, uc, rfl, -⟩ := h5
 exact ⟨b, off, uo, uc, rfl, h3, h6⟩

theorem rowNil' (w : World) (B : Nat) : RowAt w B (.slice none 0 0) [] := ⟨World.ownsRow_nil _ _ _ _, by simp, by simp⟩
end Go.Proofs.Ytckjpaimbmlboaa
/- ref04: the contract of Darts. Conditions: a right part that lies in memory and reads so, of a bounded size. -/
namespace Go.Proofs.Ytckjpaimbmlboaa
open Go.RowKit Go.Maps

end Go.Proofs.Ytckjpaimbmlboaa
/- ref06: the contract of Right. Conditions: a graph, a part, turns that lie in memory and read so, of a bounded size. -/
namespace Go.Proofs.Ytckjpaimbmlboaa
open Go.RowKit Go.Maps

end Go.Proofs.Ytckjpaimbmlboaa
/- ref04.Twin, ref06.Step, ref06.Next: contracts. Conditions: a right part, right turns that lie in memory and read so; a dart of the part. -/
namespace Go.Proofs.Ytckjpaimbmlboaa
open Go.RowKit Go.Maps

theorem twin_any (d : Nat) (w : World) (hd : d < 4611686018427387904) :
  Calls Try.prog 52 #[.int .i64 d] w fun e w' => e = .returned (.int .i64 (Plain.twin d)) ∧ w' = w := by
 rcases (show (∃ e, d = 2 * e) ∨ ∃ e, d = 2 * e + 1 from by rcases Nat.mod_two_eq_zero_or_one d with h | h; exact Or.inl ⟨d / 2, by omega⟩; exact Or.inr ⟨d / 2, by omega⟩) with ⟨e, rfl⟩ | ⟨e, rfl⟩
 ·obtain ⟨q1, q2⟩ := quo_even e
  have HE := Lib.hid (show Plain.twin ((2 * e : Nat) : Int) = ((2 * e : Nat) : Int) + 1 by unfold Plain.twin; rw [if_pos (by omega)])
  have w1 : IntKind.i64.wrap (((2 * e : Nat) : Int) + 1) = ((2 * e : Nat) : Int) + 1 := IntWalk.i64_in _ (by omega)
  generalize ((2 * e : Nat) : Int) = dd at *
  go_enter Try.func52, Try.ntmps52
  go_wp2
  go_ret
  exact ⟨ret_int HE.out.symm, rfl⟩
 ·obtain ⟨q1, q2⟩ := quo_odd e
  have HE := Lib.hid (show Plain.twin ((2 * e + 1 : Nat) : Int) = ((2 * e + 1 : Nat) : Int) - 1 by unfold Plain.twin; rw [if_neg (by omega)])
  have w1 : IntKind.i64.wrap (((2 * e + 1 : Nat) : Int) - 1) = ((2 * e + 1 : Nat) : Int) - 1 := IntWalk.i64_in _ (by omega)
  generalize ((2 * e + 1 : Nat) : Int) = dd at *
  go_enter Try.func52, Try.ntmps52
  go_wp2
  go_ret
  exact ⟨ret_int HE.out.symm, rfl⟩

set_option maxRecDepth 100000 in
set_option maxHeartbeats 2000000 in
theorem refStep_any (vg vt : Value) (g : Plain.Gr) (p : Plain.Pt) (turn : List (List Int)) (d : Nat) (w : World) (hd : (d : Int) ∈ p.darts) (hpe : p.err g = 0) (hto : Plain.TurnsOk g p turn) (hrl : ∀ v, (Plain.turnAt turn v).length < 4294967296) (hg : GrAt w vg g) (ht : RowsAt w vt turn) :
  Calls Try.prog 116 #[vg, vt, .int .i64 d, .int .i64 (-1)] w fun e w' => e = .returned (.int .i64 (Plain.before g turn d)) ∧ Chg [] w w' := by
 have hpo := Plain.Pt.ok_of_err hpe
 have hge := Plain.Gr.err_ok (Plain.Pt.err_ok hpe).1
 have htl := hpo.vr _ (hpo.tail_mem hd).1
 have hde := Plain.Pt.edge_in hpe (Plain.mem_darts.1 hd)
 have hd2 : d / 2 < g.e.length := by omega
 have hglen : g.e.length < 4294967296 := by omega
 have hin := (hto.mem _ htl.1 htl.2 d).2 ⟨hd, rfl⟩
 have hlen := hto.len
 have hbe : Plain.before g turn d = Plain.ahead (Plain.turnAt turn (g.tail d)) d := rfl
 have HG := Lib.hid hg
 have HT := Lib.hid ht
 obtain ⟨tno, tc, rfl, htm, -⟩ := ht
 obtain ⟨tv, htv⟩ : ∃ tv : Nat, g.tail d = tv := ⟨(g.tail d).toNat, by omega⟩
 rw [htv] at htl hin hbe
 have htvl : tv < turn.length := by omega
 obtain ⟨tb, toff, uo, uc, rfl, tcell, hrow⟩ := HT.out.row htvl
 have hta : Plain.turnAt turn (tv : Int) = turn.getD tv [] := by unfold Plain.turnAt; rw [Int.toNat_natCast]
 rw [hta] at hin hbe
 have hTl := hrl (tv : Int)
 rw [hta] at hTl
 have HROW := Lib.hid hrow
 generalize turn.getD tv [] = T at *
 have hix := List.idxOf_lt_length_iff.2 hin
 have HFI := Lib.hid (show Plain.findIx T d = (T.idxOf (d : Int) : Nat) from if_pos hin)
 have hBE := Lib.hid (show Plain.before g turn d = T.getD ((T.idxOf (d : Int) + T.length - 1) % T.length) 0 from hbe)
 generalize T.idxOf (d : Int) = ix at *
 have w1 : IntKind.i64.wrap ((ix : Int) + -1) = (ix : Int) + -1 := IntWalk.i64_in _ (by omega)
 have w2 : IntKind.i64.wrap ((ix : Int) + -1 + (T.length : Int)) = ((ix + T.length - 1 : Nat) : Int) := by rw [IntWalk.i64_in _ (by omega)]; omega
 obtain ⟨j, hj⟩ : ∃ j, (ix + T.length - 1) % T.length = j := ⟨_, rfl⟩
 have w3 : Int.tmod ((ix + T.length - 1 : Nat) : Int) (T.length : Int) = (j : Int) := by rw [Int.tmod_eq_emod_of_nonneg (by omega), ← hj]; omega
 have hjl : j < T.length := by rw [← hj]; exact Nat.mod_lt _ (by omega)
 have hl0 : ((T.length : Int) == 0) = false := by rw [beq_eq_false_iff_ne]; omega
 rw [hj] at hBE
 obtain ⟨eo, cap, rfl, -, -, -, -⟩ := hg
 have HC1 := Lib.hid ((Chg.refl [] w).alloc (.cells #[.int .i64 g.n, .slice eo g.e.length cap] 24))
 have tc1 := fun o => cellNew tcell o
 have HTV := Lib.hid htv
 clear hpo hge hin hlen hbe hta hrow htv hj hde hd hto hrl hpe
 go_enter Try.func116, Try.ntmps116
 go_wp2_with fail
 refine (tail_any _ g d _ hd2 hglen (HG.out.fresh HC1.out)).mono ?_
 rintro e w2' ⟨rfl, hc2⟩
 rw [HTV.out]
 have HC2 := Lib.hid (HC1.out.trans hc2 (by simp))
 have tcell2 := HC2.out.cell tcell (by simp)
 clear hc2 tc1 tcell
 go_wp2_with fail
 refine (find02_any _ T (d : Int) _ (HROW.out.fresh HC2.out)).mono ?_
 rintro e w3' ⟨rfl, hc3⟩
 rw [HFI.out]
 obtain ⟨rb, roff, rfl, hrc⟩ := IntsAt.cellAt HROW.out hjl
 have HC3 := Lib.hid (HC2.out.trans hc3 (by simp))
 have c3 := HC3.out.cell hrc (by simp)
 clear hc3 hrc tcell2
 go_wp2
 go_ret
 exact ⟨ret_int (by rw [hBE.out]; simp [List.getD, hjl]), HC3.out⟩

set_option maxRecDepth 100000 in
theorem refNext_any (vg vt : Value) (g : Plain.Gr) (p : Plain.Pt) (turn : List (List Int)) (d : Nat) (w : World) (hd : (d : Int) ∈ p.darts) (hpe : p.err g = 0) (hto : Plain.TurnsOk g p turn) (hrl : ∀ v, (Plain.turnAt turn v).length < 4294967296) (hg : GrAt w vg g) (ht : RowsAt w vt turn) :
  Calls Try.prog 86 #[vg, vt, .int .i64 d] w fun e w' => e = .returned (.int .i64 (Plain.nextDart g turn d)) ∧ Chg [] w w' := by
 have hpo := Plain.Pt.ok_of_err hpe
 have hge := Plain.Gr.err_ok (Plain.Pt.err_ok hpe).1
 have hde := Plain.Pt.edge_in hpe (Plain.mem_darts.1 hd)
 have hdb : d < 4611686018427387904 := by omega
 have htw := Plain.twin_mem hd
 have hte := Plain.Pt.edge_in hpe (Plain.mem_darts.1 htw)
 obtain ⟨td, htd⟩ : ∃ td : Nat, Plain.twin d = td := ⟨(Plain.twin d).toNat, by omega⟩
 have HND := Lib.hid (show Plain.nextDart g turn d = Plain.before g turn td by unfold Plain.nextDart; rw [htd])
 have HG := Lib.hid hg
 have HT := Lib.hid ht
 rw [htd] at htw
 have HTD := Lib.hid htd
 have HTW := Lib.hid htw
 have HTO := Lib.hid hto
 have HPE := Lib.hid hpe
 have HRL := Lib.hid hrl
 obtain ⟨eo, cap, rfl, -, -, -, -⟩ := hg
 obtain ⟨tno, tc, rfl, htm, -⟩ := ht
 have hb := heap_alloc_new w (.cells #[.int .i64 g.n, .slice eo g.e.length cap] 24)
 have x0 := (cell_of_row _ _ 0 _ _ _ hb).trans (show _ = some (Value.int .i64 g.n) from rfl)
 have x1 := (cell_of_row _ _ 1 _ _ _ hb).trans (show _ = some (Value.slice eo g.e.length cap) from rfl)
 have HC1 := Lib.hid ((Chg.refl [] w).alloc (.cells #[.int .i64 g.n, .slice eo g.e.length cap] 24))
 clear hpo hge hde hte htw htd hto hpe hrl hb
 go_enter Try.func86, Try.ntmps86
 go_wp2
 generalize (w.alloc (.cells #[.int .i64 g.n, .slice eo g.e.length cap] 24)) = w1 at *
 have hS0 : Chg [] w1 w1.drew := (Chg.refl [] w1).drew
 refine wp_region_way (Chg [] w1) [0, 1, 2] (Way.line [0, 1, 2, 3, 4, 5] .done) (by kernel_rfl) (by kernel_rfl) ?_
 simp only [Way.line]
 repeat
  first
   | (refine along_off rfl (by rfl) (by rfl) (fun _ _ _ h => h) hS0 ?_; simp only [Act.put, lz1, lz2, lz3, lz4, lz5, lz6])
   | (refine along_read (v := ?_) rfl (by rfl) (by rfl) (fun _ _ _ h => h) hS0 (fun w' hS' => ?_) ?_; rotate_left; (focus (have rd0 := hS'.cell x0 (by simp); have rd1 := hS'.cell x1 (by simp); clear hS'; go_simp; try with_reducible rfl)); simp only [Act.put, lz1, lz2, lz3, lz4, lz5, lz6])
   | (refine along_skip rfl (by rfl) (by rfl) hS0 ?_; simp only [Act.put, lz1, lz2, lz3, lz4, lz5, lz6])
 refine along_op rfl (by rfl) (by rfl) (fun K hK => ?_)
 go_simp
 refine (twin_any d _ hdb).mono ?_
 rintro e w2 ⟨rfl, rfl⟩
 refine hK.out _ _ (fun _ => hS0) ?_
 clear hK K
 rw [HTD.out]
 try simp only [Act.put, lz1, lz2, lz3, lz4, lz5, lz6]
 refine along_op rfl (by rfl) (by rfl) (fun K hK => ?_)
 go_simp
 refine (refStep_any _ _ g p turn td _ HTW.out HPE.out HTO.out HRL.out ((HG.out.fresh HC1.out).fresh hS0) ((HT.out.fresh HC1.out).fresh hS0)).mono ?_
 rintro e w3 ⟨rfl, hcx⟩
 have hS1 := hS0.trans hcx (by simp)
 clear hS0 hcx
 have hS0 := hS1
 clear hS1
 refine hK.out _ _ (fun _ => hS0) ?_
 clear hK K
 try simp only [Act.put, lz1, lz2, lz3, lz4, lz5, lz6]
 refine along_op rfl (by rfl) (by rfl) (fun K hK => ?_)
 go_simp
 refine hK.out _ _ (fun _ => hS0) ?_
 clear hK K
 try simp only [Act.put, lz1, lz2, lz3, lz4, lz5, lz6]
 refine along_done ?_
 have HCF := Lib.hid (HC1.out.trans hS0 (by simp))
 clear x0 x1 hS0
 go_wp2
 go_ret
 exact ⟨ret_int HND.out.symm, HCF.out⟩
end Go.Proofs.Ytckjpaimbmlboaa
