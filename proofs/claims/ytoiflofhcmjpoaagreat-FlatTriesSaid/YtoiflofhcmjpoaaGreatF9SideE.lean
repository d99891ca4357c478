/- The sides of vertices and of ag, plainly: an oO with an end on a side is on it. No program here. -/
import Derived.Test.YtoiflofhcmjpoaaGreatF9Ref1
namespace Go.Proofs.YtoiflofhcmjpoaaGreat.Plain
def V5 (L:Int->Option Int) (p:Pt) (cy:List Int) (x y:Int):Prop:=(y5 L p cy p.e.length).rel x y
theorem yE (d:Int):(d=2*(d / 2)/\aH d=2*(d / 2)+1)\/(d=2*(d / 2)+1/\aH d=2*(d / 2)):=by unfold aH;split <;> omega
end Go.Proofs.YtoiflofhcmjpoaaGreat.Plain
namespace Go.Proofs.YtoiflofhcmjpoaaGreat
open Go.RowKit Go.Maps
namespace Plain
end Plain
namespace Plain
end Plain
end Go.Proofs.YtoiflofhcmjpoaaGreat
namespace Go.Proofs.YtoiflofhcmjpoaaGreat
open Go.RowKit Go.Maps
namespace Plain
end Plain
namespace Plain
end Plain
namespace Plain
def Se (L:Int->Option Int) (M:List Int) (j:Nat) (e:Int):Prop:=(lf L (2*e)=M.getD j 0->lf L (2*e+1)∈M)/\(lf L (2*e+1)=M.getD j 0->lf L (2*e)∈M)
structure ajP (L:Int->Option Int) (p:Pt) (cy:List Int) (M:List Int) (i k:Nat):Prop where
 head:Gk L cy∈M
 nodup:M.Nodup
 low:∀ r∈M,0<=r/\r<=10000
 rel:∀ r∈M,V5 L p cy r (Gk L cy)
 done:∀ j,j<i->∀ e∈p.e,e ∉ cy.map (· / 2)->Se L M j e
 now:∀ q,q<k->p.e.getD q 0 ∉ cy.map (· / 2)->Se L M i (p.e.getD q 0)
end Plain
end Go.Proofs.YtoiflofhcmjpoaaGreat
namespace Go.Proofs.YtoiflofhcmjpoaaGreat
open Go.RowKit Go.Maps
namespace Plain
end Plain
namespace Plain
end Plain
namespace Plain
end Plain
end Go.Proofs.YtoiflofhcmjpoaaGreat
namespace Go.Proofs.YtoiflofhcmjpoaaGreat
namespace Plain
def aaZ (c:bP->Int) (W:List bP) (h:Int):List Int:=(W.filter λx=>decide (c x=h)).map (·.1)
def place (aa:List (List Int)) (f:bP):Int:=if f.2=[] then aoC aa (-1 - f.1) else f.1
end Plain
end Go.Proofs.YtoiflofhcmjpoaaGreat
namespace Go.Proofs.YtoiflofhcmjpoaaGreat
open Go.RowKit Go.Maps Go.WideElems
namespace Plain
end Plain
end Go.Proofs.YtoiflofhcmjpoaaGreat
namespace Go.Proofs.YtoiflofhcmjpoaaGreat
open Go.RowKit Go.Maps
theorem xE {α:Type} [DecidableEq α]:∀ {l m:List α},l.Nodup->(∀ x∈l,x∈m)->l.length<=m.length
 | [],_,_,_=>Nat.zero_le _
 | a :: l,m,hn,hs=>by
  have h1:=xE (l:=l) (m:=m.erase a) (List.nodup_cons.1 hn).2 (λx hx=>(List.mem_erase_of_ne (show x≠a from λe=>(List.nodup_cons.1 hn).1 (by rw[<-e];exact hx))).2 (hs x (by simp[hx])));rw[List.length_erase_of_mem (hs a (by simp))] at h1;have:=List.length_pos_of_mem (hs a (by simp));rw[List.length_cons];omega
namespace Plain
structure Got (c:bP->Int) (W:List bP) (left:Int->Bool) (C:List (List Int)):Prop where
 nodup:C.Nodup
 mem:∀ l,l∈C↔∃ h,bF h/\left h=false/\l=aaZ c W h/\1<l.length
end Plain
end Go.Proofs.YtoiflofhcmjpoaaGreat
-- READS ONLY
namespace Go.Proofs.YtoiflofhcmjpoaaGreat
open Go.RowKit Go.Maps
