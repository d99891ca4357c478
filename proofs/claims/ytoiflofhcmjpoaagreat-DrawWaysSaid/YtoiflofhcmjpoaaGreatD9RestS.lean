/- rest.To: its contract. Conditions: a graph, two parts, a plan that lie in memory and read so, of a bounded size. -/
import Derived.Test.YtoiflofhcmjpoaaGreatD9CycP
-- READS ONLY
namespace Go.Proofs.YtoiflofhcmjpoaaGreat
open Go.RowKit Go.Maps
structure LK (L:Int->Option Int) (left:Lit->Bool) (s:St):Prop where
 ok:s.Ok
 rel:∀ x y,s.rel x y↔x=y
 small:∀ x∈s.all,0<=x/\x<1000000000
 met:∀ y,aU y->(L y).isSome=true->left (.int .i64 y)=false->Plain.lf L y∈s.all
theorem j7 {l:List Int} {N:Nat} (hn:l.Nodup) (h:∀ x∈l,0<=x/\x<N):l.length<=N:=by
 have:=Plain.bS (m:=(List.range N).map fun (k:Nat)=>(k:Int)) hn fun x hx=>List.mem_map.2 ⟨x.toNat,List.mem_range.2 (by have:=h x hx;omega),by have:=h x hx;omega⟩;simpa using this
end Go.Proofs.YtoiflofhcmjpoaaGreat
