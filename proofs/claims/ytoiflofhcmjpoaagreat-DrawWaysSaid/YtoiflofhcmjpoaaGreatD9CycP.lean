/- What a cycle of ah is, plainly; the contract of side.leaves. Conditions: a graph that lies in memory and reads so; a Bc of it. -/
import Derived.Test.YtoiflofhcmjpoaaGreatD9Ref1
open Or renaming inr→Qa,inl→Qb
namespace Go.Proofs.YtoiflofhcmjpoaaGreat
open Go.RowKit Go.Maps
namespace Plain
end Plain
end Go.Proofs.YtoiflofhcmjpoaaGreat
namespace Go.Proofs.YtoiflofhcmjpoaaGreat.Plain
def lf (L:Int->Option Int) (d:Int):Int:=(L d).getD 0
def vj (L:Int->Option Int) (p:Pt) (cy:List Int):Nat->St
 | 0=>⟨[],[]⟩
 | k+1=>if p.e.getD k 0∈cy.map (· / 2) then vj L p cy k else (vj L p cy k).join (lf L (2*p.e.getD k 0)) (lf L (2*p.e.getD k 0+1))
def Bw (L:Int->Option Int) (cy:List Int):Int:=lf L (cy.getD 0 0)
end Go.Proofs.YtoiflofhcmjpoaaGreat.Plain
namespace Go.Proofs.YtoiflofhcmjpoaaGreat
open Go.RowKit Go.Maps
end Go.Proofs.YtoiflofhcmjpoaaGreat
namespace Go.Proofs.YtoiflofhcmjpoaaGreat.Plain
def akD (aa:List (List Int)) (v:Int):Int:=if 0<(az aa v).length then (az aa v).getD 0 0 else -1 - v
end Go.Proofs.YtoiflofhcmjpoaaGreat.Plain
namespace Go.Proofs.YtoiflofhcmjpoaaGreat
open Go.RowKit Go.Maps
end Go.Proofs.YtoiflofhcmjpoaaGreat
namespace Go.Proofs.YtoiflofhcmjpoaaGreat
def St.rel (s:St) (x y:Int):Prop:=x=y\/s.same x y=true
theorem St.cM {s:St} {x y:Int}:s.same x y=true↔x∈s.all/\y∈s.all/\s.hd (s.all.idxOf x)=s.hd (s.all.idxOf y):=by
 grind [St.same]
theorem St.rel_refl (s:St) (x:Int):s.rel x x:=Qb rfl
theorem St.BY {s:St} {x y:Int} (h:s.rel x y):s.rel y x:=by
 rcases h with h | h
 ·exact Qb h.symm
 obtain⟨h1,h2,h3⟩:=St.cM.1 h;exact Qa (St.cM.2 ⟨h2,h1,h3.symm⟩)
theorem St.rel_trans {s:St} {x y z:Int} (h:s.rel x y) (k:s.rel y z):s.rel x z:=by
 rcases h with rfl | h
 ·exact k
 rcases k with rfl | k
 ·exact Qa h
 obtain⟨h1,h2,h3⟩:=St.cM.1 h;obtain⟨k1,k2,k3⟩:=St.cM.1 k;exact Qa (St.cM.2 ⟨h1,k2,h3.trans k3⟩)
theorem St.RW {x y:Int}:St.rel ⟨[],[]⟩ x y↔x=y:=by simp[St.rel,St.same]
theorem St.ju {s:St} (hs:s.Ok) {a x:Int} (hx:x∈s.all):(s.put a).hd ((s.put a).all.idxOf x)=s.hd (s.all.idxOf x):=by
 rw[St.lU a hx];by_cases h:a∈s.all
 ·rw[St.iU h]
 rw[St.dX h];have h1:=St.Ok.Eh hx;have h2:=hs.len;unfold St.hd List.getD;rw[List.getElem?_append_left (by omega)]
theorem St.uz {s:St} (hs:s.Ok) {a:Int} (h:a ∉ s.all):(s.put a).hd ((s.put a).all.idxOf a)=s.all.length:=by
 rw[St.dX h];simp[St.hd,List.getD,List.idxOf_append,h,hs.len]
theorem St.zo {s:St} (hs:s.Ok) (a x y:Int):(s.put a).rel x y↔s.rel x y:=by
 by_cases h:a∈s.all
 ·rw[St.iU h]
 constructor
 ·rintro (rfl | qI)
  ·exact Qb rfl
  obtain⟨m1,m2,h3⟩:=St.cM.1 qI;have n1:x∈s.all\/x=a:=by rw[St.dX h] at m1;simpa using m1
  have n2:y∈s.all\/y=a:=by rw[St.dX h] at m2;simpa using m2
  clear m1 m2 qI;rcases n1 with h1 | rfl
  ·rcases n2 with h2 | rfl
   ·rw[St.ju hs h1,St.ju hs h2] at h3
    exact Qa (St.cM.2 ⟨h1,h2,h3⟩)
   all_goals grind [St.ju,St.uz,St.Ok.GV]
  rcases n2 with h2 | rfl
  ·rw[St.uz hs h,St.ju hs h2] at h3
   have:=hs.GV h2;omega
  exact Qb rfl
 rintro (rfl | qI)
 ·exact Qb rfl
 obtain⟨h1,h2,h3⟩:=St.cM.1 qI;exact Qa (St.cM.2 ⟨St.jJ a h1,St.jJ a h2,by grind [St.ju]⟩)
theorem St.Xa {s:St} {x y:Int} (h:s.rel x y) (hy:y∈s.all):x∈s.all/\s.hd (s.all.idxOf x)=s.hd (s.all.idxOf y):=by
 rcases h with rfl | h
 ·exact⟨hy,rfl⟩
 obtain⟨h1,-,h3⟩:=St.cM.1 h;exact⟨h1,h3⟩
theorem St.tA {s:St} (hs:s.Ok) (a b x y:Int):(s.join a b).rel x y↔s.rel x y\/(s.rel x a/\s.rel b y)\/(s.rel x b/\s.rel a y):=by
 have ht:=(hs.put a).put b;have hm:=s.sD a b;have hr:∀ u v,s.rel u v↔((s.put a).put b).rel u v:=fun u v=>by rw[St.zo (hs.put a),St.zo hs]
 rw[hr x y,hr x a,hr b y,hr x b,hr a y];have hj:s.join a b=⟨((s.put a).put b).all,relabel ((s.put a).put b).dx (((s.put a).put b).hd (((s.put a).put b).all.idxOf a)) (((s.put a).put b).hd (((s.put a).put b).all.idxOf b))⟩:=rfl;rw[hj];clear hj hr;generalize (s.put a).put b=t at *;obtain⟨ha,hb⟩:=hm;obtain⟨A,hA⟩:∃ A,t.hd (t.all.idxOf a)=A:=⟨_,rfl⟩;obtain⟨B,hB⟩:∃ B,t.hd (t.all.idxOf b)=B:=⟨_,rfl⟩;rw[hA,hB];have hh:∀ {u:Int},u∈t.all->St.hd ⟨t.all,relabel t.dx A B⟩ (t.all.idxOf u)=if t.hd (t.all.idxOf u)=max A B then min A B else t.hd (t.all.idxOf u):=by
  grind [relabel,St.hd,getD_map,St.Ok.Eh]
 constructor
 ·rintro (rfl | h)
  ·exact Qb (Qb rfl)
  obtain⟨h1,h2,h3⟩:=St.cM.1 h;have h1:x∈t.all:=h1;have h2:y∈t.all:=h2;replace h3:St.hd ⟨t.all,relabel t.dx A B⟩ (t.all.idxOf x)=St.hd ⟨t.all,relabel t.dx A B⟩ (t.all.idxOf y):=h3;rw[hh h1,hh h2] at h3;by_cases e:t.hd (t.all.idxOf x)=t.hd (t.all.idxOf y)
  ·exact Qb (Qa (St.cM.2 ⟨h1,h2,e⟩))
  have h4:(t.hd (t.all.idxOf x)=A/\t.hd (t.all.idxOf y)=B)\/(t.hd (t.all.idxOf x)=B/\t.hd (t.all.idxOf y)=A):=by
   grind
  rcases h4 with ⟨e1,e2⟩ | ⟨e1,e2⟩
  ·exact Qa (Qb ⟨Or.inr (St.cM.2 ⟨h1,ha,e1.trans hA.symm⟩),Qa (St.cM.2 ⟨hb,h2,hB.trans e2.symm⟩)⟩)
  exact Qa (Qa ⟨Or.inr (St.cM.2 ⟨h1,hb,e1.trans hB.symm⟩),Qa (St.cM.2 ⟨ha,h2,hA.trans e2.symm⟩)⟩)
 have mk:∀ {u v:Int},u∈t.all->v∈t.all->(if t.hd (t.all.idxOf u)=max A B then min A B else t.hd (t.all.idxOf u))=(if t.hd (t.all.idxOf v)=max A B then min A B else t.hd (t.all.idxOf v))->St.rel ⟨t.all,relabel t.dx A B⟩ u v:=fun {u v} h1 h2 h3 =>
  Qa (St.cM.2 ⟨h1,h2,by grind⟩)
 rintro (h | ⟨h1,h2⟩ | ⟨h1,h2⟩)
 ·rcases h with rfl | h
  ·exact Qb rfl
  all_goals grind [St.cM]
 all_goals grind [St.Xa,St.BY]
theorem St.Em {s:St} (hs:s.Ok) (a b:Int):(s.join a b).rel a b:=by grind [St.tA,St.rel_refl]
end Go.Proofs.YtoiflofhcmjpoaaGreat
namespace Go.Proofs.YtoiflofhcmjpoaaGreat.Plain
def g1:Gr:=⟨4,[(0,1),(1,2),(2,0)]⟩
def p1:Pt:=⟨[0,1,2,3],[0,1,2]⟩
def t1:List (List Int):=[[0,5],[1,2],[3,4],[]]
def w1:List bn:=[(-4,[]),(0,[0,2,4]),(1,[1,5,3])]
def Rk (L:Int->Option Int) (p:Pt) (cy:List Int) (x y:Int):Prop:=(vj L p cy p.e.length).rel x y
theorem E5 (d:Int):(d=2*(d / 2)/\aT d=2*(d / 2)+1)\/(d=2*(d / 2)+1/\aT d=2*(d / 2)):=by unfold aT;split <;> omega
end Go.Proofs.YtoiflofhcmjpoaaGreat.Plain
namespace Go.Proofs.YtoiflofhcmjpoaaGreat
open Go.RowKit Go.Maps
namespace Plain
end Plain
namespace Plain
end Plain
end Go.Proofs.YtoiflofhcmjpoaaGreat
namespace Go.Proofs.YtoiflofhcmjpoaaGreat
open Go.RowKit Go.Maps
namespace Plain
end Plain
namespace Plain
end Plain
namespace Plain
def Nq (L:Int->Option Int) (M:List Int) (j:Nat) (e:Int):Prop:=(lf L (2*e)=M.getD j 0->lf L (2*e+1)∈M)/\(lf L (2*e+1)=M.getD j 0->lf L (2*e)∈M)
structure afn (L:Int->Option Int) (p:Pt) (cy:List Int) (M:List Int) (i k:Nat):Prop where
 head:Bw L cy∈M
 nodup:M.Nodup
 low:∀ r∈M,0<=r/\r<=10000
 rel:∀ r∈M,Rk L p cy r (Bw L cy)
 done:∀ j,j<i->∀ e∈p.e,e ∉ cy.map (· / 2)->Nq L M j e
 now:∀ q,q<k->p.e.getD q 0 ∉ cy.map (· / 2)->Nq L M i (p.e.getD q 0)
end Plain
end Go.Proofs.YtoiflofhcmjpoaaGreat
namespace Go.Proofs.YtoiflofhcmjpoaaGreat
open Go.RowKit Go.Maps
namespace Plain
end Plain
namespace Plain
end Plain
namespace Plain
end Plain
end Go.Proofs.YtoiflofhcmjpoaaGreat
namespace Go.Proofs.YtoiflofhcmjpoaaGreat
namespace Plain
def V6 (c:bn->Int) (W:List bn) (h:Int):List Int:=(W.filter fun x=>decide (c x=h)).map (·.1)
def place (aa:List (List Int)) (f:bn):Int:=if f.2=[] then akD aa (-1 - f.1) else f.1
end Plain
end Go.Proofs.YtoiflofhcmjpoaaGreat
namespace Go.Proofs.YtoiflofhcmjpoaaGreat
open Go.RowKit Go.Maps Go.WideElems
namespace Plain
end Plain
end Go.Proofs.YtoiflofhcmjpoaaGreat
namespace Go.Proofs.YtoiflofhcmjpoaaGreat
open Go.RowKit Go.Maps
namespace Plain
structure Got (c:bn->Int) (W:List bn) (left:Int->Bool) (C:List (List Int)):Prop where
 nodup:C.Nodup
 mem:∀ l,l∈C↔∃ h,aU h/\left h=false/\l=V6 c W h/\1<l.length
end Plain
end Go.Proofs.YtoiflofhcmjpoaaGreat
-- READS ONLY
namespace Go.Proofs.YtoiflofhcmjpoaaGreat
open Go.RowKit Go.Maps
end Go.Proofs.YtoiflofhcmjpoaaGreat
