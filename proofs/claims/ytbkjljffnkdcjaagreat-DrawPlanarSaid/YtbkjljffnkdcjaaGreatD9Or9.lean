/- ref04.Or (its eD), ref09.Around (its eD): contracts. Conditions: lists, a drawing that lie in memory and read so, of a bounded size. -/
import Derived.Test.YtbkjljffnkdcjaaGreatD9VertS
namespace Go.Proofs.YtbkjljffnkdcjaaGreat
open Go.RowKit Go.Maps
namespace Plain
def YY:List Int->List Int->List Int
 | [],b=>b
 | x :: a,[]=>x :: a
 | x :: a,y :: b=>if x<=y then (if x=y then x :: YY a b else x :: YY a (y :: b)) else y :: YY (x :: a) b
termination_by a b=>a.length+b.length
end Plain
namespace Plain
end Plain
namespace Plain
end Plain
end Go.Proofs.YtbkjljffnkdcjaaGreat
namespace Go.Proofs.YtbkjljffnkdcjaaGreat
namespace Plain
def Z7 (c:bR->Int) (W:List bR) (h:Int):List Int:=(W.filter fun x=>decide (c x=h)).map (·.1)
def place (aa:List (List Int)) (f:bR):Int:=if f.2=[] then aiQ aa (-1 - f.1) else f.1
end Plain
end Go.Proofs.YtbkjljffnkdcjaaGreat
namespace Go.Proofs.YtbkjljffnkdcjaaGreat
open Go.RowKit Go.Maps Go.WideElems
namespace Plain
end Plain
end Go.Proofs.YtbkjljffnkdcjaaGreat
namespace Go.Proofs.YtbkjljffnkdcjaaGreat
open Go.RowKit Go.Maps
theorem Bf {α:Type} [DecidableEq α]:∀ {l m:List α},l.Nodup->(∀ x∈l,x∈m)->l.length<=m.length
 | [],_,_,_=>Nat.zero_le _
 | a :: l,m,hn,hs=>by
  have h1:=Bf (l:=l) (m:=m.erase a) (List.nodup_cons.1 hn).2 (fun x hx=>(List.mem_erase_of_ne (show x≠a from fun e=>(List.nodup_cons.1 hn).1 (by rw[<-e];exact hx))).2 (hs x (by simp[hx])));rw[List.length_erase_of_mem (hs a (by simp))] at h1;have:=List.length_pos_of_mem (hs a (by simp));rw[List.length_cons];omega
namespace Plain
structure Got (c:bR->Int) (W:List bR) (left:Int->Bool) (C:List (List Int)):Prop where
 nodup:C.Nodup
 mem:∀ l,l∈C↔∃ h,bn h/\left h=false/\l=Z7 c W h/\1<l.length
end Plain
end Go.Proofs.YtbkjljffnkdcjaaGreat
namespace Go.Proofs.YtbkjljffnkdcjaaGreat
open Go.RowKit Go.Maps
structure JE (L:Int->Option Int) (left:Lit->Bool) (s:St):Prop where
 ok:s.Ok
 rel:∀ x y,s.rel x y↔x=y
 small:∀ x∈s.all,0<=x/\x<1000000000
 met:∀ y,bn y->(L y).isSome=true->left (.int .i64 y)=false->Plain.lf L y∈s.all
theorem kX {l:List Int} {N:Nat} (hn:l.Nodup) (h:∀ x∈l,0<=x/\x<N):l.length<=N:=by
 have:=Plain.bQ (m:=(List.range N).map fun (k:Nat)=>(k:Int)) hn fun x hx=>List.mem_map.2 ⟨x.toNat,List.mem_range.2 (by have:=h x hx;omega),by have:=h x hx;omega⟩;simpa using this
end Go.Proofs.YtbkjljffnkdcjaaGreat
