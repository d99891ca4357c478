/- package face: the contract of Genus. Conditions: lists that lie in memory and read so, of a bounded size. -/
import Derived.Test.YtmhcmnaecpagiaaGreatZIter
import Derived.Test.YtmhcmnaecpagiaaGreatZSmall
namespace Go.Proofs.YtmhcmnaecpagiaaGreat
open Go.RowKit Go.Maps
namespace Plain
theorem take_face {W:List Face} {k:Nat} (hk:k<W.length):W.take (k+1)=W.take k++[W.getD k (0,[])]:=by
 rw[List.take_succ_eq_append_getElem hk];simp[List.getD,hk]
theorem WalksOk.len {g:Gr} {p:Pt} {turn:List (List Int)} {W:List Face} (h:WalksOk g p turn W):W.length≤p.v.length+2*p.e.length:=by
 obtain⟨F,rfl,ht⟩:=h.split;have h1:(loneAt turn p.v).length≤p.v.length:=by
  unfold loneAt;rw[List.length_map];refine Nat.le_trans (List.length_filter_le _ _) ?_;rw[List.length_reverse];exact Nat.le_refl _
 have h2:=ht.keys.length_le;rw[List.length_map,darts_length] at h2;rw[List.length_append];omega
end Plain
theorem row_made {w:World} {B fb n c:Nat} (h:w.ownsRow B 3 1 (.slice (some ⟨fb,0,none⟩) n c) n (madeCells (Value.int .i64 0).cells (n*1)).toList) (hn:n<4294967296):RowAt w B (.slice (some ⟨fb,0,none⟩) n c) (List.replicate n 0):=by
 have e1:(madeCells (Value.int .i64 0).cells (n*1)).toList=ints (List.replicate n 0):=by
  show (madeCells #[Value.int .i64 0] (n*1)).toList=_;rw[Nat.mul_one,toList_madeCells_one];simp[ints]
 rw[e1] at h;refine⟨by rw[List.length_replicate];exact h,fun x hx=>?_,by rw[List.length_replicate];exact hn⟩;have:=List.eq_of_mem_replicate hx;subst this;exact I64.mk (by omega) (by omega)
theorem two_boxes (w:World) {g:Plain.Gr} {p:Plain.Pt} {eo ao bo:Option Addr} {cap ac bc:Nat} {w2:World} (h:Chg [] ((w.alloc (.cells #[.int .i64 g.n,.slice eo g.e.length cap] 24)).alloc (.cells #[.slice ao p.v.length ac,.slice bo p.e.length bc] 27)) w2) :
  w2.cell? ⟨w.heap.size,0,none⟩=some (.int .i64 g.n)∧w2.cell? ⟨w.heap.size,1,none⟩=some (.slice eo g.e.length cap)∧w2.cell? ⟨w.heap.size+1,0,none⟩=some (.slice ao p.v.length ac)∧w2.cell? ⟨w.heap.size+1,1,none⟩=some (.slice bo p.e.length bc)∧w.heap.size+2≤w2.heap.size:=by
 obtain⟨hb1,hb2,-⟩:=box_two w #[.int .i64 g.n,.slice eo g.e.length cap] #[.slice ao p.v.length ac,.slice bo p.e.length bc] 24 27;have hs:=h.size;exact⟨h.c ((cell_of_row _ _ 0 _ _ _ hb1).trans rfl),h.c ((cell_of_row _ _ 1 _ _ _ hb1).trans rfl),h.c ((cell_of_row _ _ 0 _ _ _ hb2).trans rfl),h.c ((cell_of_row _ _ 1 _ _ _ hb2).trans rfl),by simpa using hs⟩
namespace Plain
end Plain
theorem IMap.look_run {w:World} {b n:Nat} {f:Int→Option Int} (h:IMap w b n f) {k:Int} (hk:I64 k):(Instr.lookup 119 (.map (some b)) (.int .i64 k) false).run Tryz.prog w=.ok (.int .i64 ((f k).getD 0)) w:=by
 obtain⟨D,hown,hD⟩:=h;obtain⟨c,hrun,hat,-⟩:=hown.lookup_int keyedInt Tryz.underlying119 Tryz.underlying3 (zeroInt _) (keyOf_int_mk Tryz.underlying3 hk);rw[(hD k hk).2] at hat;cases hat;exact hrun
theorem St.Ok.idx_lt {s:St} {x:Int} (h:x∈s.all):s.all.idxOf x<s.all.length:=List.idxOf_lt_length_iff.2 h
theorem St.Ok.hd_lt {s:St} (h:s.Ok) {x:Int} (hx:x∈s.all):s.hd (s.all.idxOf x)<s.all.length:=by
 have:=h.le (s.all.idxOf x) (by rw[←h.len];exact St.Ok.idx_lt hx);have:=St.Ok.idx_lt hx;omega
theorem St.put_put_mem (s:St) (x y:Int):x∈((s.put x).put y).all∧y∈((s.put x).put y).all:=⟨St.mem_put_of y (s.mem_put x),St.mem_put _ _⟩
theorem St.join_in {s:St} {x y:Int} (hx:x∈s.all) (hy:y∈s.all):s.join x y=⟨s.all,relabel s.grp (s.hd (s.all.idxOf x)) (s.hd (s.all.idxOf y))⟩∧s.joins x y=(s.hd (s.all.idxOf x) != s.hd (s.all.idxOf y)):=by
 have e:(s.put x).put y=s:=by rw[St.put_in hx,St.put_in hy]
 exact⟨by unfold St.join;rw[e],by unfold St.joins;rw[e]⟩
theorem St.Ok.up {s:St} (h:s.Ok):Up s.grp s.grp:=⟨rfl,fun i hi=>⟨h.le i hi,by
 have:=h.own i hi;simp only[St.hd] at this;split
 ·assumption
 exact this.symm⟩⟩
theorem St.ok_nil:St.Ok ⟨[],[]⟩:=⟨rfl,List.nodup_nil,by simp,by simp⟩
theorem St.Ok.put {s:St} (h:s.Ok) (x:Int):(s.put x).Ok:=by
 by_cases hx:x∈s.all
 ·rwa[St.put_in hx]
 rw[St.put_new hx];have hu:=h.up.put;have hl:=h.len;refine⟨by simp[hl],by rw[List.nodup_append];exact⟨h.nodup,by simp,by intro a ha b hb;simp at hb;subst hb;rintro rfl;exact hx ha⟩,fun i hi=>?_,fun i hi=>?_⟩
 ·have:=hu.le i (by simpa using hi);simpa[St.hd,hl] using this.1
 have:=hu.own (i:=i) (by simpa using hi);simpa[St.hd,hl] using this
theorem St.Ok.join {s:St} (h:s.Ok) (x y:Int):(s.join x y).Ok:=by
 have ht:=(h.put x).put y;have hm:=s.put_put_mem x y;show St.Ok ⟨((s.put x).put y).all,relabel ((s.put x).put y).grp (((s.put x).put y).hd (((s.put x).put y).all.idxOf x)) (((s.put x).put y).hd (((s.put x).put y).all.idxOf y))⟩;generalize (s.put x).put y=t at *;have hi:=ht.hd_lt hm.1;have hj:=ht.hd_lt hm.2;have ei:=ht.own (t.all.idxOf x) (by rw[←ht.len];exact List.idxOf_lt_length_iff.2 hm.1);have ej:=ht.own (t.all.idxOf y) (by rw[←ht.len];exact List.idxOf_lt_length_iff.2 hm.2);generalize t.hd (t.all.idxOf x)=a at *;generalize t.hd (t.all.idxOf y)=b at *;by_cases hab:a=b
 ·subst hab
  rw[relabel_self];exact ht
 have hu:=ht.up.join (i:=a) (j:=b) (by rw[←ht.len];exact hi) (by rw[←ht.len];exact hj) ei ej hab;have hl:(relabel t.grp a b).length=t.grp.length:=by simp[relabel]
 refine⟨by simp only[hl,ht.len],ht.nodup,fun i hi=>?_,fun i hi=>?_⟩
 ·exact (hu.le i (by simp only[hl] at hi;simpa using hi)).1
 exact hu.own (by simp only[hl] at hi;simpa using hi)
theorem St.new_ok (l:List Int):(St.new l).Ok:=by
 have:∀ (l:List Int) (s:St),s.Ok→(l.foldl St.put s).Ok:=by
  intro l
  induction l with
  | nil=>intro s h;exact h
  | cons x r ih=>intro s h;exact ih _ (h.put x)
 exact this l _ St.ok_nil
end Go.Proofs.YtmhcmnaecpagiaaGreat
namespace Go.Proofs.YtmhcmnaecpagiaaGreat
namespace Plain
def listBad (same:List (List Int)) (i:Nat):Prop:=(same.getD i []).length<2∨(0<i∧(same.getD i []).getD 0 0≤(same.getD (i - 1) []).getD 0 0)
instance (same:List (List Int)) (i:Nat):Decidable (listBad same i):=by unfold listBad;infer_instance
def upTo (n:Nat):List Int:=(List.range n).map fun (i:Nat)=>(i:Int)
structure PlanOk (ow:Int→Option Int) (n:Nat) (t:Nat) (c:St × List Int):Prop where
 ok:c.1.Ok
 all:c.1.all=upTo n
 num:c.1.count+c.2.length=n+t
 nodup:c.2.Nodup
 has:∀ k∈c.2,(ow k).isSome=true
end Plain
end Go.Proofs.YtmhcmnaecpagiaaGreat
namespace Go.Proofs.YtmhcmnaecpagiaaGreat
open Go.RowKit Go.Maps
theorem heap_lt {w:World} {b:Nat} {o:Obj} (h:w.heap[b]?=some o):b<w.heap.size:=(Array.getElem?_eq_some_iff.1 h).1
theorem owns_lt {w:World} {v:Value} {n:Nat} {xs:List Value} {e:TypeId} {size base:Nat} (h:w.ownsRow base e size v n xs) {b:Nat} (hb:v.ownBlock=some b):b<w.heap.size:=by
 rcases h.2 with ⟨rfl,rfl⟩ | ⟨g,cap,cur,rfl,-,hh,-⟩
 ·cases hb
 cases hb;exact heap_lt hh
theorem SetsObj.lt {w:World} {own:List Nat} {pb:Nat} {s:St} (h:SetsObj w pb own s):∀ j∈own,j<w.heap.size:=by
 obtain⟨mb,tv,uv,up,h,rfl⟩:=h;intro j hj;simp only[SetsAt.blocks,List.mem_append,List.mem_cons,List.not_mem_nil,or_false,Option.mem_toList] at hj;rcases hj with ((rfl | rfl) | q) | q
 ·exact heap_lt h.cells
 ·exact h.map.lt
 ·exact owns_lt h.things q
 exact owns_lt h.ups q
end Go.Proofs.YtmhcmnaecpagiaaGreat
namespace Go.Proofs
open Go.Shelf
end Go.Proofs
namespace Go.Proofs.YtmhcmnaecpagiaaGreat
open Go.RowKit Go.Maps
section
open Go.Sort
variable {α : Type} [Inhabited α]
theorem sorted_heap {enc:α→Value} {w:World} {g n:Nat} {os:Array Obj} {cur:Array Value} {e:TypeId} {fr:Nat × Nat} (d:Array α) (hb:w.heap[g]?=some (.cells cur e fr)) :
  (sortWorld enc w g 0 n d os).heap[g]?=some (.cells (putCells enc 0 d cur) e fr):=by
 have hg:g<w.heap.size:=(Array.getElem?_eq_some_iff.1 hb).1;unfold sortWorld;rw[heap_grow_old _ _ (by simpa using hg)];simp[putRow,mapBlock,Sort.ahead,Array.getElem?_modify,hb,onCells]
theorem sorted_chg (enc:α→Value) (w:World) (g n:Nat) (os:Array Obj) (d:Array α):Chg [g] w (sortWorld enc w g 0 n d os):=by
 refine⟨rfl,rfl,rfl,by simp[sortWorld],fun k hk hne=>?_⟩;unfold sortWorld;rw[heap_grow_old _ _ (by simpa using hk)];have:g≠k:=fun e=>hne (by simp[e]);simp[putRow,mapBlock,Sort.ahead,Array.getElem?_modify,this]
theorem sorted_take (enc:α→Value) (cur:Array Value) (d:Array α) (h:d.size≤cur.size):(putCells enc 0 d cur).toList.take d.size=d.toList.map enc:=by
 apply List.ext_getElem?;intro j;by_cases hj:j<d.size
 ·rw[List.getElem?_take_of_lt hj,Array.getElem?_toList]
  simp[putCells,hj,show j<cur.size by omega]
 rw[List.getElem?_take_eq_none (by omega),List.getElem?_eq_none (by simp;omega)]
theorem sorted_owns {enc:α→Value} {w:World} {base g cap n:Nat} {e:TypeId} {os:Array Obj} {xs:List Value} {d:Array α} (h:w.ownsRow base e 1 (.slice (some ⟨g,0,none⟩) xs.length cap) xs.length xs) (hd:d.size=xs.length) :
  (sortWorld enc w g 0 n d os).ownsRow base e 1 (.slice (some ⟨g,0,none⟩) xs.length cap) xs.length (d.toList.map enc):=by
 rcases h.2 with ⟨h,-⟩ | ⟨g',cap',cur,hv,hg,hh,h1,h2,h3,h4⟩
 ·cases h
 cases hv;exact⟨by simp[hd],.inr ⟨g,cap,_,rfl,hg,sorted_heap d hh,h1,h2,by simp[putCells,h3],by rw[Nat.mul_one,←hd];exact sorted_take enc cur d (by omega)⟩⟩
theorem sorted_holds {enc:α→Value} {w:World} {base g cap:Nat} {e:TypeId} {xs:List Value} {d:Array α} (h:w.ownsRow base e 1 (.slice (some ⟨g,0,none⟩) xs.length cap) xs.length xs) (hd:d.toList.map enc=xs):Holds enc w g 0 d:=by
 have hs:d.size=xs.length:=by rw[←hd];simp
 rcases h.2 with ⟨h,-⟩ | ⟨g',cap',cur,hv,hg,hh,h1,h2,h3,h4⟩
 ·cases h
 cases hv;intro j hj;refine⟨?_,by simp[World.frozen?,hh]⟩;have e1:(cur.toList.take (xs.length*1))[j]?=xs[j]?:=by rw[h4]
 rw[List.getElem?_take_of_lt (by omega)] at e1;simp only[World.cell?,hh,Nat.zero_add,Option.isSome_none,Bool.false_eq_true,if_false];rw[←Array.getElem?_toList,e1,←hd];simp[hj]
end
namespace Plain
def singles (W:List Face) (met:List Int):List (List Int):=(W.filter fun f=>decide (f.1 ∉ met)).map fun f=>[f.1]
end Plain
end Go.Proofs.YtmhcmnaecpagiaaGreat
