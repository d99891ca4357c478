/- the document's answer for package walk: the contract of Spread, from one vertex. Conditions: a right part that lies in memory and reads so; a vertex of it. -/
import Derived.Test.YtkacjmoamgjfpaaGreatHxRow
namespace Go.Proofs.YtkacjmoamgjfpaaGreat
open Go.RowKit Go.Maps
namespace Plain
structure Met (g:Gr) (p:Pt) (but a:Int) (M:List Int):Prop where
 base:a∈M
 come:∀ u∈M,Come g p but a u
 inV:∀ u∈M,u∈p.v
 nodup:M.Nodup
end Plain
end Go.Proofs.YtkacjmoamgjfpaaGreat
