/- ref04.Or (its things), ref09.Around (its things): contracts. Conditions: lists, a drawing that lie in memory and read so, of a bounded size. -/
import Derived.Test.YtbkjljffnkdcjaaS9VertS
namespace Go.Proofs.Ytbkjljffnkdcjaa
open Go.RowKit Go.Maps
namespace Plain
end Plain
namespace Plain
end Plain
namespace Plain
end Plain
end Go.Proofs.Ytbkjljffnkdcjaa
namespace Go.Proofs.Ytbkjljffnkdcjaa
namespace Plain
def keysAt (c:Face→Int) (W:List Face) (h:Int):List Int:=(W.filter fun x=>decide (c x=h)).map (·.1)
def place (turn:List (List Int)) (f:Face):Int:=if f.2=[] then seat turn (-1 - f.1) else f.1
end Plain
end Go.Proofs.Ytbkjljffnkdcjaa
namespace Go.Proofs.Ytbkjljffnkdcjaa
open Go.RowKit Go.Maps Go.WideElems
namespace Plain
end Plain
end Go.Proofs.Ytbkjljffnkdcjaa
namespace Go.Proofs.Ytbkjljffnkdcjaa
open Go.RowKit Go.Maps
namespace Plain
structure Got (c:Face→Int) (W:List Face) (left:Int→Bool) (C:List (List Int)):Prop where
 nodup:C.Nodup
 mem:∀ l,l∈C↔∃ h,I64 h∧left h=false∧l=keysAt c W h∧1<l.length
end Plain
end Go.Proofs.Ytbkjljffnkdcjaa
