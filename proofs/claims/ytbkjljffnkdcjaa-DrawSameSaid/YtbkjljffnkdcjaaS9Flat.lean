/- package plan: the contracts of flat, of corner. Conditions: lists that lie in memory and read so, of a bounded size. -/
import Derived.Test.YtbkjljffnkdcjaaS9Iter
namespace Go.Proofs.Ytbkjljffnkdcjaa
open Go.RowKit Go.Maps
theorem two_boxes (w:World) {g:Plain.Gr} {p:Plain.Pt} {eo ao bo:Option Addr} {cap ac bc:Nat} {w2:World} (h:Chg [] ((w.alloc (.cells #[.int .i64 g.n,.slice eo g.e.length cap] 24)).alloc (.cells #[.slice ao p.v.length ac,.slice bo p.e.length bc] 27)) w2) :
  w2.cell? ⟨w.heap.size,0,none⟩=some (.int .i64 g.n)∧w2.cell? ⟨w.heap.size,1,none⟩=some (.slice eo g.e.length cap)∧w2.cell? ⟨w.heap.size+1,0,none⟩=some (.slice ao p.v.length ac)∧w2.cell? ⟨w.heap.size+1,1,none⟩=some (.slice bo p.e.length bc)∧w.heap.size+2≤w2.heap.size:=by
 obtain⟨hb1,hb2,-⟩:=box_two w #[.int .i64 g.n,.slice eo g.e.length cap] #[.slice ao p.v.length ac,.slice bo p.e.length bc] 24 27
 have hs:=h.size
 exact⟨h.cell ((cell_of_row _ _ 0 _ _ _ hb1).trans rfl) (by simp),h.cell ((cell_of_row _ _ 1 _ _ _ hb1).trans rfl) (by simp),h.cell ((cell_of_row _ _ 0 _ _ _ hb2).trans rfl) (by simp),h.cell ((cell_of_row _ _ 1 _ _ _ hb2).trans rfl) (by simp),by simpa using hs⟩
namespace Plain
end Plain
theorem IMap.look_run {w:World} {b n:Nat} {f:Int→Option Int} (h:IMap w b n f) {k:Int} (hk:I64 k):(Instr.lookup 95 (.map (some b)) (.int .i64 k) false).run Try.prog w=.ok (.int .i64 ((f k).getD 0)) w:=by
 obtain⟨D,hown,hD⟩:=h
 obtain⟨c,hrun,hat,-⟩:=hown.lookup_int keyedInt Try.underlying95 Try.underlying3 (zeroInt _) (keyOf_int_mk Try.underlying3 hk)
 rw[(hD k hk).2] at hat
 cases hat
 exact hrun
theorem St.Ok.idx_lt {s:St} {x:Int} (h:x∈s.all):s.all.idxOf x<s.all.length:=List.idxOf_lt_length_iff.2 h
theorem St.Ok.hd_lt {s:St} (h:s.Ok) {x:Int} (hx:x∈s.all):s.hd (s.all.idxOf x)<s.all.length:=by
 have:=h.le (s.all.idxOf x) (by rw[←h.len];exact St.Ok.idx_lt hx)
 have:=St.Ok.idx_lt hx
 omega
theorem St.put_put_mem (s:St) (x y:Int):x∈((s.put x).put y).all∧y∈((s.put x).put y).all:=⟨St.mem_put_of y (s.mem_put x),St.mem_put _ _⟩
theorem St.join_in {s:St} {x y:Int} (hx:x∈s.all) (hy:y∈s.all):s.join x y=⟨s.all,relabel s.grp (s.hd (s.all.idxOf x)) (s.hd (s.all.idxOf y))⟩∧s.joins x y=(s.hd (s.all.idxOf x) != s.hd (s.all.idxOf y)):=by
 have e:(s.put x).put y=s:=by rw[St.put_in hx,St.put_in hy]
 exact⟨by unfold St.join;rw[e],by unfold St.joins;rw[e]⟩
theorem St.Ok.up {s:St} (h:s.Ok):Up s.grp s.grp:=⟨rfl,fun i hi=>⟨h.le i hi,by
 have:=h.own i hi
 simp only[St.hd] at this
 split
 ·assumption
 exact this.symm⟩⟩
theorem St.ok_nil:St.Ok ⟨[],[]⟩:=⟨rfl,List.nodup_nil,by simp,by simp⟩
theorem St.Ok.put {s:St} (h:s.Ok) (x:Int):(s.put x).Ok:=by
 by_cases hx:x∈s.all
 ·rwa[St.put_in hx]
 rw[St.put_new hx]
 have hu:=h.up.put
 have hl:=h.len
 refine⟨by simp[hl],by rw[List.nodup_append];exact⟨h.nodup,by simp,by intro a ha b hb;simp at hb;subst hb;rintro rfl;exact hx ha⟩,fun i hi=>?_,fun i hi=>?_⟩
 ·have:=hu.le i (by simpa using hi);simpa[St.hd,hl] using this.1
 have:=hu.own (i:=i) (by simpa using hi);simpa[St.hd,hl] using this
theorem St.Ok.join {s:St} (h:s.Ok) (x y:Int):(s.join x y).Ok:=by
 have ht:=(h.put x).put y
 have hm:=s.put_put_mem x y
 show St.Ok ⟨((s.put x).put y).all,relabel ((s.put x).put y).grp (((s.put x).put y).hd (((s.put x).put y).all.idxOf x)) (((s.put x).put y).hd (((s.put x).put y).all.idxOf y))⟩
 generalize (s.put x).put y=t at *
 have hi:=ht.hd_lt hm.1
 have hj:=ht.hd_lt hm.2
 have ei:=ht.own (t.all.idxOf x) (by rw[←ht.len];exact List.idxOf_lt_length_iff.2 hm.1)
 have ej:=ht.own (t.all.idxOf y) (by rw[←ht.len];exact List.idxOf_lt_length_iff.2 hm.2)
 generalize t.hd (t.all.idxOf x)=a at *
 generalize t.hd (t.all.idxOf y)=b at *
 by_cases hab:a=b
 ·subst hab
  rw[relabel_self]
  exact ht
 have hu:=ht.up.join (i:=a) (j:=b) (by rw[←ht.len];exact hi) (by rw[←ht.len];exact hj) ei ej hab
 have hl:(relabel t.grp a b).length=t.grp.length:=by simp[relabel]
 refine⟨by simp only[hl,ht.len],ht.nodup,fun i hi=>?_,fun i hi=>?_⟩
 ·exact (hu.le i (by simp only[hl] at hi;simpa using hi)).1
 exact hu.own (by simp only[hl] at hi;simpa using hi)
theorem St.new_ok (l:List Int):(St.new l).Ok:=by
 have:∀ (l:List Int) (s:St),s.Ok→(l.foldl St.put s).Ok:=by
  intro l
  induction l with
  | nil=>intro s h;exact h
  | cons x r ih=>intro s h;exact ih _ (h.put x)
 exact this l _ St.ok_nil
end Go.Proofs.Ytbkjljffnkdcjaa
namespace Go.Proofs.Ytbkjljffnkdcjaa
namespace Plain
def listBad (same:List (List Int)) (i:Nat):Prop:=(same.getD i []).length<2∨(0<i∧(same.getD i []).getD 0 0≤(same.getD (i - 1) []).getD 0 0)
instance (same:List (List Int)) (i:Nat):Decidable (listBad same i):=by unfold listBad;infer_instance
def upTo (n:Nat):List Int:=(List.range n).map fun (i:Nat)=>(i:Int)
structure PlanOk (ow:Int→Option Int) (n:Nat) (t:Nat) (c:St × List Int):Prop where
 ok:c.1.Ok
 all:c.1.all=upTo n
 num:c.1.count+c.2.length=n+t
 nodup:c.2.Nodup
 has:∀ k∈c.2,(ow k).isSome=true
end Plain
end Go.Proofs.Ytbkjljffnkdcjaa
