/- the document's answer for package walk: the contract of Spread, from one vertex. Conditions: a right part that lies in memory and reads so; a vertex of it. -/
import Derived.Test.YtoiflofhcmjpoaaGreatD9Row
import Derived.Deep.DeepCutAuto
namespace Go.Proofs.YtoiflofhcmjpoaaGreat
open Go.RowKit Go.Maps
namespace Plain
theorem AI:∀ {l m:List Int},l.Nodup->(∀ x∈l,x∈m)->l.length<=m.length
 | [],_,_,_=>Nat.zero_le _
 | x :: l,m,hn,hs=>by
  rw[List.nodup_cons] at hn;have hx:=hs x (by simp);have:=AI (l:=l) (m:=m.erase x) hn.2 (fun y hy=>by
   refine (List.mem_erase_of_ne (fun e=>hn.1 (by rw[<-e];exact hy))).2 (hs y (by simp[hy])))
  rw[List.length_erase_of_mem hx] at this;have:=List.length_pos_of_mem hx;simp;omega
structure Met (g:Gr) (p:Pt) (but a:Int) (M:List Int):Prop where
 base:a∈M
 OC:∀ u∈M,b9 g p but a u
 Oo:∀ u∈M,u∈p.v
 nodup:M.Nodup
end Plain
end Go.Proofs.YtoiflofhcmjpoaaGreat
