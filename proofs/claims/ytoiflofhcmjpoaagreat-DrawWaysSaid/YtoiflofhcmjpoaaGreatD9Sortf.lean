/- slices.SortFunc at this program, laid by the kit's own tools in plain words. Condition: what the structure says. -/
import Derived.Test.YtoiflofhcmjpoaaGreatD9PlanR
open List renaming getElem?_take_of_lt→Qa
open Array renaming getElem?_modify→Qb,getElem?_toList→Qc
namespace Go.Proofs
open Go.Shelf
end Go.Proofs
-- READS ONLY
namespace Go.Proofs.YtoiflofhcmjpoaaGreat
open Go.RowKit Go.Maps
section
open Go.Sort
variable {α : Type} [Inhabited α]
theorem Dk {enc:α->Value} {w:World} {g n:Nat} {os:Array Obj} {cur:Array Value} {e:TypeId} {fr:Nat × Nat} (d:Array α) (hb:w.heap[g]?=some (.cells cur e fr)) :
  (sortWorld enc w g 0 n d os).heap[g]?=some (.cells (putCells enc 0 d cur) e fr):=by
 have hg:g<w.heap.size:=(Array.getElem?_eq_some_iff.1 hb).1;unfold sortWorld;rw[heap_grow_old _ _ (by simpa using hg)];simp[putRow,mapBlock,Sort.ahead,Qb,hb,onCells]
theorem lp (enc:α->Value) (w:World) (g n:Nat) (os:Array Obj) (d:Array α):ag [g] w (sortWorld enc w g 0 n d os):=by
 refine⟨rfl,rfl,rfl,by simp[sortWorld],fun k hk bh=>?_⟩;unfold sortWorld;rw[heap_grow_old _ _ (by simpa using hk)];have:g≠k:=fun e=>bh (by simp[e]);simp[putRow,mapBlock,Sort.ahead,Qb,this]
theorem AV (enc:α->Value) (cur:Array Value) (d:Array α) (h:d.size<=cur.size):(putCells enc 0 d cur).toList.take d.size=d.toList.map enc:=by
 apply List.ext_getElem?;intro j;by_cases hj:j<d.size
 ·rw[Qa hj,Qc]
  simp[putCells,hj,show j<cur.size by omega]
 all_goals grind
theorem j6 {enc:α->Value} {w:World} {base g cap n:Nat} {e:TypeId} {os:Array Obj} {xs:List Value} {d:Array α} (h:w.ownsRow base e 1 (.slice (some ⟨g,0,none⟩) xs.length cap) xs.length xs) (hd:d.size=xs.length) :
  (sortWorld enc w g 0 n d os).ownsRow base e 1 (.slice (some ⟨g,0,none⟩) xs.length cap) xs.length (d.toList.map enc):=by
 rcases h.2 with ⟨h,-⟩ | ⟨g',eP,cur,hv,hg,hh,h1,h2,h3,h4⟩
 ·cases h
 cases hv;exact⟨by simp[hd],.inr ⟨g,cap,_,rfl,hg,Dk d hh,h1,h2,by simp[putCells,h3],by rw[Nat.mul_one,<-hd];exact AV enc cur d (by omega)⟩⟩
theorem je {enc:α->Value} {w:World} {base g cap:Nat} {e:TypeId} {xs:List Value} {d:Array α} (h:w.ownsRow base e 1 (.slice (some ⟨g,0,none⟩) xs.length cap) xs.length xs) (hd:d.toList.map enc=xs):Holds enc w g 0 d:=by
 have hs:d.size=xs.length:=by rw[<-hd];simp
 rcases h.2 with ⟨h,-⟩ | ⟨g',eP,cur,hv,hg,hh,h1,h2,h3,h4⟩
 ·cases h
 cases hv;intro j hj;refine⟨?_,by simp[World.frozen?,hh]⟩;have e1:(cur.toList.take (xs.length*1))[j]?=xs[j]?:=by rw[h4]
 rw[Qa (by omega)] at e1;simp only[World.cell?,hh,Nat.zero_add,Option.isSome_none,Bool.false_eq_true,if_false];rw[<-Qc,e1,<-hd];simp[hj]
end
namespace Plain
def Rs (W:List bn) (met:List Int):List (List Int):=(W.filter fun f=>decide (f.1 ∉ met)).map fun f=>[f.1]
end Plain
end Go.Proofs.YtoiflofhcmjpoaaGreat
