/- On which side of a ui a drawing's places are, plainly. No program here. -/
import Derived.Test.YtbkjljffnkdcjaaGreatD9FirstP
open Or renaming inr→Qa,inl→Qb
open Bool renaming and_eq_true→Qc
namespace Go.Proofs.YtbkjljffnkdcjaaGreat.Plain
def lf (L:Int->Option Int) (d:Int):Int:=(L d).getD 0
def xG (L:Int->Option Int) (p:Pt) (cy:List Int):Nat->St
 | 0=>⟨[],[]⟩
 | k+1=>if p.e.getD k 0∈cy.map (· / 2) then xG L p cy k else (xG L p cy k).join (lf L (2*p.e.getD k 0)) (lf L (2*p.e.getD k 0+1))
def EI (L:Int->Option Int) (cy:List Int):Int:=lf L (cy.getD 0 0)
end Go.Proofs.YtbkjljffnkdcjaaGreat.Plain
namespace Go.Proofs.YtbkjljffnkdcjaaGreat
open Go.RowKit Go.Maps
end Go.Proofs.YtbkjljffnkdcjaaGreat
namespace Go.Proofs.YtbkjljffnkdcjaaGreat.Plain
def aiQ (aa:List (List Int)) (v:Int):Int:=if 0<(aI aa v).length then (aI aa v).getD 0 0 else -1 - v
end Go.Proofs.YtbkjljffnkdcjaaGreat.Plain
namespace Go.Proofs.YtbkjljffnkdcjaaGreat
open Go.RowKit Go.Maps
end Go.Proofs.YtbkjljffnkdcjaaGreat
namespace Go.Proofs.YtbkjljffnkdcjaaGreat
def St.rel (s:St) (x y:Int):Prop:=x=y\/s.same x y=true
theorem St.df {s:St} {x y:Int}:s.same x y=true↔x∈s.all/\y∈s.all/\s.hd (s.all.idxOf x)=s.hd (s.all.idxOf y):=by
 unfold St.same;rw[Qc,Qc,decide_eq_true_iff,decide_eq_true_iff,beq_iff_eq,and_assoc]
theorem St.rel_refl (s:St) (x:Int):s.rel x x:=Qb rfl
theorem St.yq {s:St} {x y:Int} (h:s.rel x y):s.rel y x:=by
 rcases h with h | h
 ·exact Qb h.symm
 obtain⟨h1,h2,h3⟩:=St.df.1 h;exact Qa (St.df.2 ⟨h2,h1,h3.symm⟩)
theorem St.rel_trans {s:St} {x y z:Int} (h:s.rel x y) (k:s.rel y z):s.rel x z:=by
 rcases h with rfl | h
 ·exact k
 rcases k with rfl | k
 ·exact Qa h
 obtain⟨h1,h2,h3⟩:=St.df.1 h;obtain⟨k1,k2,k3⟩:=St.df.1 k;exact Qa (St.df.2 ⟨h1,k2,h3.trans k3⟩)
theorem St.Td {x y:Int}:St.rel ⟨[],[]⟩ x y↔x=y:=by simp[St.rel,St.same]
theorem St.jn {s:St} (hs:s.Ok) {a x:Int} (hx:x∈s.all):(s.put a).hd ((s.put a).all.idxOf x)=s.hd (s.all.idxOf x):=by
 rw[St.mS a hx];by_cases h:a∈s.all
 ·rw[St.jo h]
 rw[St.eH h];have h1:=St.Ok.Bh hx;have h2:=hs.len;unfold St.hd List.getD;rw[List.getElem?_append_left (by omega)]
theorem St.vW {s:St} (hs:s.Ok) {a:Int} (h:a ∉ s.all):(s.put a).hd ((s.put a).all.idxOf a)=s.all.length:=by
 rw[St.eH h];simp[St.hd,List.getD,List.idxOf_append,h,hs.len]
theorem St.BH {s:St} (hs:s.Ok) (a x y:Int):(s.put a).rel x y↔s.rel x y:=by
 by_cases h:a∈s.all
 ·rw[St.jo h]
 constructor
 ·rintro (rfl | fW)
  ·exact Qb rfl
  obtain⟨m1,m2,h3⟩:=St.df.1 fW;have n1:x∈s.all\/x=a:=by rw[St.eH h] at m1;simpa using m1
  have n2:y∈s.all\/y=a:=by rw[St.eH h] at m2;simpa using m2
  clear m1 m2 fW;rcases n1 with h1 | rfl
  ·rcases n2 with h2 | rfl
   ·rw[St.jn hs h1,St.jn hs h2] at h3
    exact Qa (St.df.2 ⟨h1,h2,h3⟩)
   rw[St.jn hs h1,St.vW hs h] at h3;have:=hs.JF h1;omega
  rcases n2 with h2 | rfl
  ·rw[St.vW hs h,St.jn hs h2] at h3
   have:=hs.JF h2;omega
  exact Qb rfl
 rintro (rfl | fW)
 ·exact Qb rfl
 obtain⟨h1,h2,h3⟩:=St.df.1 fW;exact Qa (St.df.2 ⟨St.ku a h1,St.ku a h2,by rw[St.jn hs h1,St.jn hs h2];exact h3⟩)
theorem St.Bx {s:St} {x y:Int} (h:s.rel x y) (hy:y∈s.all):x∈s.all/\s.hd (s.all.idxOf x)=s.hd (s.all.idxOf y):=by
 rcases h with rfl | h
 ·exact⟨hy,rfl⟩
 obtain⟨h1,-,h3⟩:=St.df.1 h;exact⟨h1,h3⟩
theorem St.wX {s:St} (hs:s.Ok) (a b x y:Int):(s.join a b).rel x y↔s.rel x y\/(s.rel x a/\s.rel b y)\/(s.rel x b/\s.rel a y):=by
 have ht:=(hs.put a).put b;have hm:=s.tM a b;have hr:∀ u v,s.rel u v↔((s.put a).put b).rel u v:=fun u v=>by rw[St.BH (hs.put a),St.BH hs]
 rw[hr x y,hr x a,hr b y,hr x b,hr a y];have hj:s.join a b=⟨((s.put a).put b).all,relabel ((s.put a).put b).dp (((s.put a).put b).hd (((s.put a).put b).all.idxOf a)) (((s.put a).put b).hd (((s.put a).put b).all.idxOf b))⟩:=rfl;rw[hj];clear hj hr;generalize (s.put a).put b=t at *;obtain⟨ha,hb⟩:=hm;obtain⟨A,hA⟩:∃ A,t.hd (t.all.idxOf a)=A:=⟨_,rfl⟩;obtain⟨B,hB⟩:∃ B,t.hd (t.all.idxOf b)=B:=⟨_,rfl⟩;rw[hA,hB];have hh:∀ {u:Int},u∈t.all->St.hd ⟨t.all,relabel t.dp A B⟩ (t.all.idxOf u)=if t.hd (t.all.idxOf u)=max A B then min A B else t.hd (t.all.idxOf u):=by
  intro u hu;unfold relabel St.hd;exact getD_map _ _ _ (by rw[<-ht.len];exact St.Ok.Bh hu)
 constructor
 ·rintro (rfl | h)
  ·exact Qb (Qb rfl)
  obtain⟨h1,h2,h3⟩:=St.df.1 h;have h1:x∈t.all:=h1;have h2:y∈t.all:=h2;replace h3:St.hd ⟨t.all,relabel t.dp A B⟩ (t.all.idxOf x)=St.hd ⟨t.all,relabel t.dp A B⟩ (t.all.idxOf y):=h3;rw[hh h1,hh h2] at h3;by_cases e:t.hd (t.all.idxOf x)=t.hd (t.all.idxOf y)
  ·exact Qb (Qa (St.df.2 ⟨h1,h2,e⟩))
  have h4:(t.hd (t.all.idxOf x)=A/\t.hd (t.all.idxOf y)=B)\/(t.hd (t.all.idxOf x)=B/\t.hd (t.all.idxOf y)=A):=by
   split at h3 <;> split at h3 <;> omega
  rcases h4 with ⟨e1,e2⟩ | ⟨e1,e2⟩
  ·exact Qa (Qb ⟨Or.inr (St.df.2 ⟨h1,ha,e1.trans hA.symm⟩),Qa (St.df.2 ⟨hb,h2,hB.trans e2.symm⟩)⟩)
  exact Qa (Qa ⟨Or.inr (St.df.2 ⟨h1,hb,e1.trans hB.symm⟩),Qa (St.df.2 ⟨ha,h2,hA.trans e2.symm⟩)⟩)
 have mk:∀ {u v:Int},u∈t.all->v∈t.all->(if t.hd (t.all.idxOf u)=max A B then min A B else t.hd (t.all.idxOf u))=(if t.hd (t.all.idxOf v)=max A B then min A B else t.hd (t.all.idxOf v))->St.rel ⟨t.all,relabel t.dp A B⟩ u v:=fun {u v} h1 h2 h3 =>
  Qa (St.df.2 ⟨h1,h2,by show St.hd ⟨t.all,relabel t.dp A B⟩ (t.all.idxOf u)=St.hd ⟨t.all,relabel t.dp A B⟩ (t.all.idxOf v);rw[hh h1,hh h2];exact h3⟩)
 rintro (h | ⟨h1,h2⟩ | ⟨h1,h2⟩)
 ·rcases h with rfl | h
  ·exact Qb rfl
  obtain⟨h1,h2,h3⟩:=St.df.1 h;exact mk h1 h2 (by rw[h3])
 ·obtain⟨k1,k2⟩:=St.Bx h1 ha
  obtain⟨k3,k4⟩:=St.Bx (St.yq h2) hb;refine mk k1 k3 ?_;rw[k2,k4,hA,hB];split <;> split <;> omega
 obtain⟨k1,k2⟩:=St.Bx h1 hb;obtain⟨k3,k4⟩:=St.Bx (St.yq h2) ha;refine mk k1 k3 ?_;rw[k2,k4,hA,hB];split <;> split <;> omega
theorem St.Ix {s:St} (hs:s.Ok) (a b:Int):(s.join a b).rel a b:=(St.wX hs a b a b).2 (Qa (Qb ⟨s.rel_refl a,s.rel_refl b⟩))
end Go.Proofs.YtbkjljffnkdcjaaGreat
namespace Go.Proofs.YtbkjljffnkdcjaaGreat.Plain
def g1:Gr:=⟨4,[(0,1),(1,2),(2,0)]⟩
def p1:Pt:=⟨[0,1,2,3],[0,1,2]⟩
def t1:List (List Int):=[[0,5],[1,2],[3,4],[]]
def w1:List bR:=[(-4,[]),(0,[0,2,4]),(1,[1,5,3])]
def UP (L:Int->Option Int) (p:Pt) (cy:List Int) (x y:Int):Prop:=(xG L p cy p.e.length).rel x y
theorem G0 (d:Int):(d=2*(d / 2)/\aE d=2*(d / 2)+1)\/(d=2*(d / 2)+1/\aE d=2*(d / 2)):=by unfold aE;split <;> omega
end Go.Proofs.YtbkjljffnkdcjaaGreat.Plain
namespace Go.Proofs.YtbkjljffnkdcjaaGreat
open Go.RowKit Go.Maps
namespace Plain
end Plain
end Go.Proofs.YtbkjljffnkdcjaaGreat
