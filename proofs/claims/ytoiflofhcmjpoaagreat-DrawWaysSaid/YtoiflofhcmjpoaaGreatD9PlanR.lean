/- package plan: the contract of Right. Conditions: lists that lie in memory and read so, of a bounded size. -/
import Derived.Test.YtoiflofhcmjpoaaGreatD9Genus
import Derived.Test.YtoiflofhcmjpoaaGreatD9Small
namespace Go.Proofs.YtoiflofhcmjpoaaGreat
open Go.RowKit Go.Maps
theorem GB {w:World} {b:Nat} {o:Obj} (h:w.heap[b]?=some o):b<w.heap.size:=(Array.getElem?_eq_some_iff.1 h).1
theorem nB {w:World} {v:Value} {n:Nat} {xs:List Value} {e:TypeId} {size base:Nat} (h:w.ownsRow base e size v n xs) {b:Nat} (hb:v.ownBlock=some b):b<w.heap.size:=by
 rcases h.2 with ⟨rfl,rfl⟩ | ⟨g,cap,cur,rfl,-,hh,-⟩
 ·cases hb
 cases hb;exact GB hh
theorem cw.lt {w:World} {own:List Nat} {pb:Nat} {s:St} (h:cw w pb own s):∀ j∈own,j<w.heap.size:=by
 obtain⟨mb,tv,uv,up,h,rfl⟩:=h;intro j hj;simp only[aM.blocks,List.mem_append,List.mem_cons,List.not_mem_nil,or_false,Option.mem_toList] at hj;rcases hj with ((rfl | rfl) | q) | q
 ·exact GB h.cells
 ·exact h.map.lt
 ·exact nB h.eM q
 exact nB h.CV q
end Go.Proofs.YtoiflofhcmjpoaaGreat
