/- package sets: contract of Groups. Condition: an object with fewer than 2^32 things. -/
import Derived.Test.YtpcgklagmcnhaaaGreatT7SetsB
import Derived.Test.YtpcgklagmcnhaaaGreatT7Rows2
import Derived.Deep.DeepCutAuto
import Derived.Deep.RegionLaw
namespace Go.Proofs.YtpcgklagmcnhaaaGreat
open Go.RowKit Go.Maps
def GrpRel (w : World) (pb mb : Nat) (tv uv : Value) (s : St) (k : Nat) (ov : Value) (wr : World) : Prop :=
 ∃ vs ats up', RowsOwn wr w.heap.size ov vs (s.gr k) ∧ wr.ownsRow w.heap.size 3 1 (.slice (some ⟨w.heap.size, 0, none⟩) s.all.length s.all.length) s.all.length (ints ats) ∧
  (∀ h, h < k → s.hd h = h → ats.getD h 0 = ((s.heads k).idxOf h : Nat)) ∧ (∀ j, j < vs.length → (vs.getD j undef).ownBlock ≠ some w.heap.size) ∧ SetsAt wr pb mb tv uv up' s ∧ Chg uv.ownBlock.toList w wr
def MidRel (w : World) (pb mb : Nat) (tv uv : Value) (s : St) (k : Nat) (ov : Value) (wr : World) : Prop :=
 ∃ go cap vs ats up', ov = .slice (some ⟨go, 0, none⟩) vs.length cap ∧ RowsOwn wr w.heap.size ov vs (s.mid k) ∧ wr.ownsRow w.heap.size 3 1 (.slice (some ⟨w.heap.size, 0, none⟩) s.all.length s.all.length) s.all.length (ints ats) ∧
  (∀ h, h < k + 1 → s.hd h = h → ats.getD h 0 = ((s.heads (k + 1)).idxOf h : Nat)) ∧ (∀ j, j < vs.length → (vs.getD j undef).ownBlock ≠ some w.heap.size) ∧ SetsAt wr pb mb tv uv up' s ∧ Chg uv.ownBlock.toList w wr
theorem mid_old {w wr : World} {pb mb : Nat} {tv uv ov : Value} {s : St} {k : Nat} (hok : s.Ok) (hlt : k < s.all.length) (hkk : s.hd k ≠ k) (h : GrpRel w pb mb tv uv s k ov wr) : MidRel w pb mb tv uv s k ov wr := by
 obtain ⟨vs, ats, up', hro, hats, hidx, hne, hat, hch⟩ := h
 have hr : s.hd k ≤ k := hok.le k (by rw [← hok.len]; exact hlt)
 have hrr : s.hd (s.hd k) = s.hd k := hok.own k (by rw [← hok.len]; exact hlt)
 have hvl : vs.length = (s.heads k).length := by rw [hro.len]; simp [St.gr]
 have hq2 := List.idxOf_lt_length_iff.2 (St.mem_heads.2 ⟨by omega, hrr⟩ : s.hd k ∈ s.heads k)
 obtain ⟨go, cap, rfl⟩ := owns_some hro.out (by omega)
 refine ⟨go, cap, vs, ats, up', rfl, ?_, hats, fun j hj e => ?_, hne, hat, hch⟩
 ·have : s.mid k = s.gr k := if_neg hkk
  rw [this]; exact hro
 have hjk : j < k := by
  rcases Nat.lt_or_ge j k with q | q
  ·exact q
  have : j = k := by omega
  subst this
  exact absurd e hkk
 rw [hidx j hjk e, St.idx_heads hjk e]
theorem mid_new {w wr w3 : World} {pb mb : Nat} {tv uv ov : Value} {s : St} {k g cap : Nat} {vs : List Value} {ats : List Int} {up' : List Nat} (hk : s.hd k = k) (hlt : k < s.all.length)
  (hro : RowsOwn wr w.heap.size ov vs (s.gr k)) (hats : wr.ownsRow w.heap.size 3 1 (.slice (some ⟨w.heap.size, 0, none⟩) s.all.length s.all.length) s.all.length (ints ats))
  (hidx : ∀ h, h < k → s.hd h = h → ats.getD h 0 = ((s.heads k).idxOf h : Nat)) (hne : ∀ j, j < vs.length → (vs.getD j undef).ownBlock ≠ some w.heap.size) (hat : SetsAt wr pb mb tv uv up' s) (hch : Chg uv.ownBlock.toList w wr)
  (hbl : ∀ b ∈ SetsAt.blocks pb mb tv uv, b < w.heap.size)
  (hown : w3.ownsRow w.heap.size 31 1 (.slice (some ⟨g, 0, none⟩) (vs.length + 1) cap) (vs.length + 1) (vs ++ [.slice none 0 0]))
  (hc3 : Chg ov.ownBlock.toList (wr.setCell ⟨w.heap.size, k, none⟩ (.int .i64 (vs.length : Int))) w3) : MidRel w pb mb tv uv s k (.slice (some ⟨g, 0, none⟩) (vs.length + 1) cap) w3 := by
 have hst := hats.stored k (.int .i64 (vs.length : Int))
 have hob : ∀ j ∈ ov.ownBlock.toList, w.heap.size ≤ j ∧ j ≠ w.heap.size := by
  intro j hj
  have e : ov.ownBlock = some j := by simpa using hj
  refine ⟨(hro.out.lt j e).1, fun q => ?_⟩
  rcases owns_two hro.out hats (by decide) with t | t
  ·rw [t] at e; cases e
  exact t (by rw [e, q]; rfl)
 have hc2 : Chg [w.heap.size] wr (wr.setCell ⟨w.heap.size, k, none⟩ (.int .i64 (vs.length : Int))) := (Chg.refl _ _).setCell (by simp) _
 have hro2 := hro.chg hc2 (fun b hb e => by simp at e; exact (hob b (by simpa using hb)).2 e) (fun j b hj hb e => by simp at e; subst e; exact hne j hj hb)
 have hvl : vs.length = (s.heads k).length := by rw [hro.len]; simp [St.gr]
 have hal : ats.length = s.all.length := by have := hats.1; simpa [ints] using this
 refine ⟨g, cap, vs ++ [.slice none 0 0], ats.set k (vs.length : Int), up', by simp, ?_, ?_, ?_, ?_, ?_, ?_⟩
 ·have : s.mid k = s.gr k ++ [[]] := if_pos hk
  rw [this]
  exact hro2.push hown hc3
 ·refine owns_chg ?_ hc3 (fun b hb e => ?_)
  ·have e1 : ints (ats.set k (vs.length : Int)) = (ints ats).set k (.int .i64 (vs.length : Int)) := by simp [ints, List.map_set]
   rw [e1]; exact hst.1
  have := hob b e
  simp [Value.ownBlock] at hb
  omega
 ·intro h hh e
  by_cases q : h = k
  ·subst q
   rw [St.idx_new e, ← hvl]
   simp [List.getD, show h < ats.length by omega]
  rw [St.idx_heads (by omega) e, ← hidx h (by omega) e]
  simp [List.getD, List.getElem?_set_ne (Ne.symm q)]
 ·intro j hj
  simp at hj
  by_cases q : j < vs.length
  ·have : (vs ++ [Value.slice none 0 0]).getD j undef = vs.getD j undef := by simp only [List.getD]; rw [List.getElem?_append_left q]
   rw [this]; exact hne j q
  have : j = vs.length := by omega
  subst this
  simp [Value.ownBlock]
 ·exact (hat.chg hc2 (fun b hb e => by have := hbl b hb; simp at e; omega)).chg hc3 (fun b hb e => by have := hbl b hb; have := (hob b e).1; omega)
 exact (hch.trans hc2 (fun j hj => Or.inr (by simp at hj; omega))).trans hc3 (fun j hj => Or.inr (hob j hj).1)
theorem mid_close {w w2 w5 : World} {pb mb : Nat} {tv uv : Value} {s : St} {k go cap g5 cap5 n l : Nat} {vs : List Value} {ats : List Int} {up' : List Nat} {v : Value} {x : Int} {q : Nat} {ll : List Int} (hok : s.Ok) (hlt : k < s.all.length)
  (hro : RowsOwn w2 w.heap.size (.slice (some ⟨go, 0, none⟩) n cap) vs (s.mid k)) (hn : n = vs.length) (hats : w2.ownsRow w.heap.size 3 1 (.slice (some ⟨w.heap.size, 0, none⟩) s.all.length s.all.length) s.all.length (ints ats))
  (hidx : ∀ h, h < k + 1 → s.hd h = h → ats.getD h 0 = ((s.heads (k + 1)).idxOf h : Nat)) (hne : ∀ j, j < vs.length → (vs.getD j undef).ownBlock ≠ some w.heap.size) (hat : SetsAt w2 pb mb tv uv up' s) (hch : Chg uv.ownBlock.toList w w2)
  (hbl : ∀ b ∈ SetsAt.blocks pb mb tv uv, b < w.heap.size) (hq : s.rank k = q) (hv : vs.getD q undef = v) (hll : (s.mid k).getD q [] = ll) (hl : l = ll.length) (hx : s.all.getD k 0 = x)
  (ho : w5.ownsRow w.heap.size 3 1 (.slice (some ⟨g5, 0, none⟩) (l + 1) cap5) (l + 1) (ints ll ++ [.int .i64 x])) (hc : Chg v.ownBlock.toList w2 w5) (hl5 : v.ownBlock = some g5 ∨ w2.heap.size ≤ g5) :
  GrpRel w pb mb tv uv s (k + 1) (.slice (some ⟨go, 0, none⟩) n cap) (w5.setCell ⟨go, q, none⟩ (.slice (some ⟨g5, 0, none⟩) (l + 1) cap5)) := by
 subst hl hll hv hx
 have hkg : k < s.grp.length := by rw [← hok.len]; exact hlt
 have hrl := St.rank_lt hok hkg
 rw [← s.mid_length, ← hro.len, hq] at hrl
 have hvb : ∀ j ∈ (vs.getD q undef).ownBlock.toList, w.heap.size ≤ j ∧ j ≠ w.heap.size := by
  intro j hj
  have e : (vs.getD q undef).ownBlock = some j := by simpa using hj
  exact ⟨((hro.rows q hrl).lt j e).1, fun t => hne q hrl (by rw [e, t])⟩
 have hgo : w.heap.size ≤ go ∧ go ≠ w.heap.size := by
  refine ⟨(hro.out.lt go rfl).1, fun t => ?_⟩
  rcases owns_two hro.out hats (by decide) with r | r
  ·simp [Value.ownBlock] at r
  exact r (by simp [Value.ownBlock, t])
 have hcs : Chg [go] w5 (w5.setCell ⟨go, q, none⟩ (.slice (some ⟨g5, 0, none⟩) (((s.mid k).getD q []).length + 1) cap5)) := (Chg.refl _ _).setCell (by simp) _
 refine ⟨vs.set q (.slice (some ⟨g5, 0, none⟩) (((s.mid k).getD q []).length + 1) cap5), ats, up', ?_, ?_, hidx, ?_, ?_, ?_⟩
 ·rw [St.gr_succ hok hkg, hq]
  exact hro.put hn hrl ho hc hl5
 ·exact owns_chg (owns_chg hats hc (fun b hb e => by have := hvb b e; simp [Value.ownBlock] at hb; omega)) hcs (fun b hb e => by simp [Value.ownBlock] at hb e; omega)
 ·intro j hj
  rw [List.length_set] at hj
  rw [getD_setV _ _ _ _ hrl]
  by_cases e : j = q
  ·rw [if_pos e]
   simp only [Value.ownBlock, ne_eq, Option.some.injEq]
   rcases hl5 with r | r
   ·exact (hvb g5 (by rw [r]; simp)).2
   have := (hats.lt w.heap.size rfl).2; omega
  rw [if_neg e]; exact hne j hj
 ·exact (hat.chg hc (fun b hb e => by have := hbl b hb; have := (hvb b e).1; omega)).chg hcs (fun b hb e => by have := hbl b hb; simp at e; omega)
 exact (hch.trans hc (fun j hj => Or.inr (hvb j hj).1)).trans hcs (fun j hj => Or.inr (by simp at hj; omega))
set_option maxHeartbeats 800000 in
theorem groups_keep (pb : Nat) (own : List Nat) (s : St) (w : World) (hn : s.all.length < 4294967296) (h : SetsObj w pb own s) :
  Calls Tryz.prog 126 #[.pointer (some ⟨pb, 0, none⟩)] w fun e w' => ∃ ov vs, e = .returned ov ∧ RowsOwn w' w.heap.size ov vs s.groups ∧ SetsObj w' pb own s ∧ Chg own w w' := by
 have hok := h.ok
 obtain ⟨mb, tv, uv, up, hat, rfl⟩ := h
 obtain ⟨ao, cap0, rfl⟩ := owns_shape hat.things
 have c1 := hat.c1
 have HA := Lib.hid hat
 have HUB : Hid (∀ j ∈ uv.ownBlock.toList, j < w.heap.size) := fun j hj => (hat.ups.lt j (by simpa using hj)).2
 have HBL : Hid (∀ b ∈ SetsAt.blocks pb mb (.slice ao s.all.length cap0) uv, b < w.heap.size) := by
  intro b hb
  simp only [SetsAt.blocks, List.mem_append, List.mem_cons, List.mem_nil_iff, or_false] at hb
  rcases hb with ((q | q) | q) | q
  ·subst q; exact lt_of_block hat.cells
  ·subst q; exact hat.map.lt
  ·exact (hat.things.lt b (by simpa using q)).2
  exact HUB b q
 clear hat
 go_enter Tryz.func126, Tryz.ntmps126
 go_wp2_with (at_make; refine wp_make elemInt rfl _ _ rfl (B := w.heap.size) (n := s.all.length) rfl rfl (Nat.le_refl _) (by omega) ?_; intro w1 ho1 hc1; have hat1 := HA.out.chg hc1 (by simp); clear c1; have c1 := hat1.c1; have HA1 := Lib.hid hat1; clear hat1)
 go_loopw [3, 21] (fun ov c wr => ∃ k : Nat, k ≤ s.all.length ∧ c = .int .i64 k ∧ GrpRel w pb mb (.slice ao s.all.length cap0) uv s k ov wr) (fun _ c _ => s.all.length - (intOf c).toNat)
 case atStart =>
  refine ⟨0, Nat.zero_le _, rfl, [], List.replicate s.all.length 0, up, RowsOwn.nil _ _, ?_, by intro h hh; omega, by simp, HA1.out, hc1.mono (by simp)⟩
  rw [Nat.mul_one] at ho1
  have e1 : (madeCells (Value.int .i64 0).cells s.all.length).toList = ints (List.replicate s.all.length 0) := by
   show (madeCells #[Value.int .i64 0] s.all.length).toList = _
   rw [toList_madeCells_one]
   simp [ints]
  rw [e1] at ho1
  exact ho1
 case round =>
  obtain ⟨k, hk, rfl, hrel⟩ := hrel
  by_cases hlt : k < s.all.length
  ·obtain ⟨vs, ats, up', hro, hats, hidx, hne, hatr, hchr⟩ := hrel
   obtain ⟨gt, cap', e⟩ := owns_some hatr.things (by omega)
   obtain ⟨rfl, rfl⟩ : ao = some ⟨gt, 0, none⟩ ∧ cap0 = cap' := by simpa using e
   have ck := hatr.thing rfl k hlt
   have c1r := hatr.c1
   go_wp2_with fail
   refine (root_at pb mb _ uv up' s k _ hlt hatr).mono ?_
   rintro e w2 ⟨rfl, up2, hat2, hch2⟩
   have hro2 := hro.below hch2 HUB.out
   have hats2 := owns_chg hats hch2 (fun b hb e => by simp [Value.ownBlock] at hb; have := HUB.out b e; omega)
   have hch2' := hchr.trans hch2 (fun j hj => Or.inl hj)
   have hrel : GrpRel w pb mb (.slice (some ⟨gt, 0, none⟩) s.all.length cap0) uv s k _ w2 := ⟨vs, ats, up2, hro2, hats2, hidx, hne, hat2, hch2'⟩
   have HR := Lib.hid hrel
   have hr : s.hd k ≤ k := hok.le k (by rw [← hok.len]; exact hlt)
   have hrr : s.hd (s.hd k) = s.hd k := hok.own k (by rw [← hok.len]; exact hlt)
   clear hro hats hatr hchr hch2 c1r ck c1 hrel hro2 hats2 hidx hne hat2 hch2'
   go_upto_if 31 with fail
   go_cut [3] (fun ov wc => MidRel w pb mb (.slice (some ⟨gt, 0, none⟩) s.all.length cap0) uv s k ov wc)
   case first =>
    by_cases hkk : s.hd k = k
    ·obtain ⟨vs, ats, up', hro, hats, hidx, hne, hat, hch⟩ := HR.out
     obtain ⟨ao2, cap2, rfl⟩ := owns_shape hro.out
     have hvl : vs.length = (s.heads k).length := by rw [hro.len]; simp [St.gr]
     have hhl := s.heads_le k
     have hvn : vs.length < 4294967296 := by omega
     have hal : ats.length = s.all.length := by have := hats.1; simpa [ints] using this
     have ek : (ints ats)[k]? = some (.int .i64 (ats.getD k 0)) := by simp [ints, List.getD, show k < ats.length by omega]
     have ck := hats.cellAt k (by omega)
     rw [ek] at ck
     have fk := hats.frozenAt k
     have hst := hro.chg ((Chg.refl [w.heap.size] w2).setCell (p := ⟨w.heap.size, k, none⟩) (by simp) (.int .i64 (vs.length : Int))) (fun b hb e => by
      simp at e; subst e
      rcases owns_two hro.out hats (by decide) with t | t
      ·rw [t] at hb; cases hb
      exact t (by rw [hb]; rfl)) (fun j b hj hb e => by simp at e; subst e; exact hne j hj hb)
     have HO := Lib.hid hst.out
     have hsz : w.heap.size ≤ (w2.setCell ⟨w.heap.size, k, none⟩ (.int .i64 (vs.length : Int))).heap.size := by simp [World.setCell]; exact hch.size
     have HSZ := Lib.hid hsz
     have HRO := Lib.hid hro
     have HATS := Lib.hid hats
     have HAT := Lib.hid hat
     have HCH := Lib.hid hch
     have HIDX := Lib.hid hidx
     have HNE := Lib.hid hne
     have HK := Lib.hid hkk
     have hkk2 : (((s.hd k : Nat) : Int) == ((k : Nat) : Int)) = true := by rw [hkk]; simp
     clear hro hats hat hch hidx hne hst hsz hvl hhl hal ek hkk
     go_wp2_with (at_builtin; refine wp_app elemRow rfl (.tmp 37) (.tmp 38) rfl rfl rfl (by simp) HO.out HSZ.out rfl (oneSlice _ _ _) (by omega) ?_; intro g3 cap3 w3 ho3 hc3 hl3)
     go_meet
     case rel => exact mid_new HK.out hlt HRO.out HATS.out HIDX.out HNE.out HAT.out HCH.out HBL.out ho3 hc3
    have hkk2 : (((s.hd k : Nat) : Int) == ((k : Nat) : Int)) = false := by rw [beq_eq_false_iff_ne]; omega
    go_wp2
    go_meet
    case rel => exact mid_old hok hlt hkk HR.out
   case rest =>
    obtain ⟨go, cap, vs, ats, up', rfl, hro, hats, hidx, hne, hat, hch⟩ := hcut
    have hkg : k < s.grp.length := by rw [← hok.len]; exact hlt
    have hrl := St.rank_lt hok hkg
    rw [← s.mid_length, ← hro.len] at hrl
    have hal : ats.length = s.all.length := by have := hats.1; simpa [ints] using this
    have a1 := hats.cellAt (s.hd k) (by omega)
    have ea : (ints ats)[s.hd k]? = some (.int .i64 ((s.rank k : Nat) : Int)) := by
     have e1 := hidx (s.hd k) (by omega) hrr
     rw [show (s.heads (k + 1)).idxOf (s.hd k) = s.rank k from rfl] at e1
     rw [← e1]
     simp [ints, List.getD, show s.hd k < ats.length by omega]
    rw [ea] at a1
    have a2 := hro.out.cellAt (s.rank k) (by omega)
    have a3 := hro.out.frozenAt (s.rank k)
    have hrow := hro.rows (s.rank k) (by omega)
    have ev : vs[s.rank k]? = some (vs.getD (s.rank k) undef) := by simp [List.getD, hrl]
    rw [ev] at a2
    have hll : ((s.mid k).getD (s.rank k) []).length < 4294967296 := by
     have := s.mid_len k (s.rank k); omega
    have HGA : Hid (w.heap.size ∉ (vs.getD (s.rank k) undef).ownBlock.toList) := by
     intro e
     exact hne (s.rank k) hrl (by simpa using e)
    have HGO : Hid (go ∉ (vs.getD (s.rank k) undef).ownBlock.toList) := by
     intro e
     rcases owns_two hrow hro.out (by decide) with t | t
     ·rw [t] at e; cases e
     exact t (by simpa [Value.ownBlock] using e)
    have HCL : Hid (∀ g5 cap5 w5, w5.ownsRow w.heap.size 3 1 (.slice (some ⟨g5, 0, none⟩) (((s.mid k).getD (s.rank k) []).length + 1) cap5) (((s.mid k).getD (s.rank k) []).length + 1) (ints ((s.mid k).getD (s.rank k) []) ++ [.int .i64 s.all[k]]) → Chg (vs.getD (s.rank k) undef).ownBlock.toList wc w5 → ((vs.getD (s.rank k) undef).ownBlock = some g5 ∨ wc.heap.size ≤ g5) →
      GrpRel w pb mb (.slice (some ⟨gt, 0, none⟩) s.all.length cap0) uv s (k + 1) (.slice (some ⟨go, 0, none⟩) vs.length cap) (w5.setCell ⟨go, s.rank k, none⟩ (.slice (some ⟨g5, 0, none⟩) (((s.mid k).getD (s.rank k) []).length + 1) cap5))) :=
     fun g5 cap5 w5 ho hc hl => mid_close hok hlt hro rfl hats hidx hne hat hch HBL.out rfl rfl rfl rfl (by simp [List.getD, hlt]) ho hc hl
    have HB : Hid (w.heap.size ≤ wc.heap.size) := hch.size
    have HROW := Lib.hid hrow
    clear hro hats hidx hne hat hch hrow ea ev hal hkg
    generalize hv : vs.getD (s.rank k) undef = v at *
    generalize (s.mid k).getD (s.rank k) [] = l at *
    generalize s.rank k = q at *
    generalize s.hd k = r at *
    obtain ⟨av, cv, rfl⟩ := owns_shape HROW.out
    clear hv
    have i1 : (0 : Int) ≤ (r : Int) := by omega
    have i2 : (r : Int) < (s.all.length : Int) := by omega
    have i3 : (0 : Int) ≤ (q : Int) := by omega
    have i4 : (q : Int) < (vs.length : Int) := by omega
    have a1n := fun o => cellNew a1 o
    have a2n := fun o => cellNew a2 o
    go_wp2
    go_region_law ((refine step_app elemInt rfl _ _ (by rfl) (by rfl) (by rfl) (by simp) HROW.out HB.out rfl (oneInt _) (by omega) (by first | exact Or.inl rfl | exact Or.inr rfl) ?_; intro g5 cap5 w5 ho5 hc5 hl5; have b1 := hc5.cell a2 HGO.out; have b2 := hc5.frozen a2 a3 HGO.out; have b3 := hc5.cell a1 HGA.out))
    all_goals
     have HG := Lib.hid (HCL.out g5 cap5 w5 ho5 hc5 hl5)
     clear ho5 hc5 hl5 b1 b2 b3 a1 a2 a3 a1n a2n
     go_wp2
     go_roundw
     case rel => exact ⟨k + 1, by omega, by go_num, HG.out⟩
     case measure => simp [intOf]; omega
  have e : k = s.all.length := by omega
  subst e
  obtain ⟨vs, ats, up', hro, hats, hidx, hne, hatr, hchr⟩ := hrel
  have HF : Hid (RowsOwn wr w.heap.size u3 vs s.groups) := hro
  have HT : Hid (SetsObj wr pb (SetsAt.blocks pb mb (.slice ao s.all.length cap0) uv) s ∧ Chg (SetsAt.blocks pb mb (.slice ao s.all.length cap0) uv) w wr) := ⟨⟨mb, _, uv, up', hatr, rfl⟩, hchr.mono (fun j hj => Or.inl (by simp only [SetsAt.blocks, List.mem_append]; exact Or.inr hj))⟩
  clear hro hats hidx hne hatr hchr hk hlt
  go_wp2
  go_ret
  exact ⟨_, vs, rfl, HF.out, HT.out⟩
theorem groups_any (pb : Nat) (own : List Nat) (s : St) (w : World) (hn : s.all.length < 4294967296) (h : SetsObj w pb own s) :
  Calls Tryz.prog 126 #[.pointer (some ⟨pb, 0, none⟩)] w fun e w' => ∃ ov vs, e = .returned ov ∧ RowsOwn w' w.heap.size ov vs s.groups ∧ Turn w pb own w' s :=
 (groups_keep pb own s w hn h).mono fun _e _w' ⟨ov, vs, h1, h2, h3, h4⟩ => ⟨ov, vs, h1, h2, own, h3, h4, fun _ hj => Or.inl hj⟩
end Go.Proofs.YtpcgklagmcnhaaaGreat
