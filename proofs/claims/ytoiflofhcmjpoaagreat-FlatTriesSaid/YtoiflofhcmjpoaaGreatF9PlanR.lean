/- package plan: the contract of Right. Conditions: lists that lie in memory and read so, of a bounded size. -/
import Derived.Test.YtoiflofhcmjpoaaGreatF9Genus
import Derived.Test.YtoiflofhcmjpoaaGreatF9Small
namespace Go.Proofs.YtoiflofhcmjpoaaGreat
open Go.RowKit Go.Maps
variable {w:World} {b n pb:Nat}
theorem Mx {o:Obj} (h:w.heap[b]?=some o):b<w.heap.size:=(Array.getElem?_eq_some_iff.1 h).1
theorem jR {v:Value} {xs:List Value} {e:TypeId} {size base:Nat} (h:w.ownsRow base e size v n xs) (hb:v.ownBlock=some b):b<w.heap.size:=by
 rcases h.2 with ⟨rfl,rfl⟩ | ⟨g,cap,cur,rfl,-,hh,-⟩
 ·cases hb
 cases hb;exact Mx hh
theorem cI.lt {own:List Nat} {s:St} (h:cI w pb own s):∀ j∈own,j<w.heap.size:=by
 obtain⟨mb,tv,uv,up,h,rfl⟩:=h;intro j hj;simp only[aZ.blocks,List.mem_append,List.mem_cons,List.not_mem_nil,or_false,Option.mem_toList] at hj;rcases hj with ((rfl | rfl) | q) | q
 ·exact Mx h.cells
 ·exact h.map.lt
 ·exact jR h.fJ q
 exact jR h.Hn q
