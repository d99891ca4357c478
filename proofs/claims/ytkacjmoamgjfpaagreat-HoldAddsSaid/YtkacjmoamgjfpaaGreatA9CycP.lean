/- What a cycle of aK is, plainly; the contract of side.leaves. Conditions: a graph that lies in memory and reads so; a dart of it. -/
import Derived.Test.YtkacjmoamgjfpaaGreatA9Regs8
namespace Go.Proofs.YtkacjmoamgjfpaaGreat
open Go.RowKit Go.Maps
namespace aA
end aA
end Go.Proofs.YtkacjmoamgjfpaaGreat
namespace Go.Proofs.YtkacjmoamgjfpaaGreat.aA
def lf (L:Int→Option Int) (d:Int):Int:=(L d).getD 0
def iI (L:Int→Option Int) (p:Pt) (cy:List Int):Nat→St
 | 0=>⟨[],[]⟩
 | k+1=>if p.e.getD k 0∈cy.map (· / 2) then iI L p cy k else (iI L p cy k).join (lf L (2*p.e.getD k 0)) (lf L (2*p.e.getD k 0+1))
def aCt (L:Int→Option Int) (cy:List Int):Int:=lf L (cy.getD 0 0)
theorem tM {L:Int→Option Int} {p:Pt} {cy:List Int} {k:Nat} (h:p.e.getD k 0∈cy.map (· / 2)):iI L p cy (k+1)=iI L p cy k:=if_pos h
theorem rD {L:Int→Option Int} {p:Pt} {cy:List Int} {k:Nat} (h:p.e.getD k 0 ∉ cy.map (· / 2)):iI L p cy (k+1)=(iI L p cy k).join (lf L (2*p.e.getD k 0)) (lf L (2*p.e.getD k 0+1)):=if_neg h
theorem aFR (s:St) (x y:Int):(s.join x y).all.length≤s.all.length+2:=by
 rw[St.join_eq];have h1:=(s.rV x).2;have h2:=((s.put x).rV y).2;show ((s.put x).put y).all.length≤_;omega
theorem pP {L:Int→Option Int} (h:∀ y v,L y=some v→0≤v∧v<1000000000) (y:Int):0≤lf L y∧lf L y<1000000000:=by
 unfold lf;cases e:L y with
 | none=>exact⟨by simp,by simp⟩
 | some v=>exact h y v e
theorem aAr {ll:List (List Int)} (W:List aO) (hl:ll.length≤30000) (y v:Int) (h:leftOf ll W y=some v):0≤v∧v<1000000000:=by
 unfold leftOf at h;cases e:cY (dK W) y with
 | none=>rw[e] at h;cases h
 | some k =>
  rw[e] at h;simp only[Option.map_some,Option.some.injEq] at h;have:=tE ll (W.getD k (0,[])).1;omega
end Go.Proofs.YtkacjmoamgjfpaaGreat.aA
namespace Go.Proofs.YtkacjmoamgjfpaaGreat
open Go.RowKit Go.Maps
theorem Own.aIm {w wr:World} {pb:Nat} {s:St} (h:Own w pb s wr):Chg [] w wr:=by obtain⟨own,-,h2,-⟩:=h;exact h2
theorem aFD {w wr:World} {pb:Nat} {s:St} {x y:Int} (hx:I64 x) (hy:I64 y) (hn:s.all.length<17179869184) (h:Own w pb s wr) :
  Calls Tryz.prog 69 #[.pointer (some ⟨pb,0,none⟩),.int .i64 x,.int .i64 y] wr fun e w'=>e=.returned (.bool (s.jB x y))∧Own w pb (s.join x y) w':=by
 obtain⟨own,h1,h2,h3⟩:=h;exact (aBo pb own s x y wr hx hy hn h1).mono fun e w' q=>⟨q.1,Own.aB h2 h3 q.2⟩
def aB4 (a:World) (pb sb r:Nat) (s:St) (w:World):Prop:=∃ own,cP w pb own s∧(∀ j∈own,a.heap.size≤j∧j≠sb∧j≠r)∧a.heap.size≤sb∧sb<w.heap.size∧r<w.heap.size
theorem aB4.chg {a w w':World} {pb sb r:Nat} {s:St} {l:List Nat} (h:aB4 a pb sb r s w) (hc:Chg l w w') (hl:∀ j∈l,j=sb∨j=r):aB4 a pb sb r s w':=by
 obtain⟨own,h1,h2,h5,h3,h4⟩:=h;have:=hc.size;exact⟨own,h1.chg hc (fun b hb q=>(hl b q).elim (h2 b hb).2.1 (h2 b hb).2.2),h2,h5,by omega,by omega⟩
theorem aC9 {w w':World} {b r n:Nat} {D:DataW Unit} {left:Lit→Bool} {cnt:Nat} {l:List Nat} (h:w.ranges Tryz.prog 3 (plainElem Tryz.prog 3) b r n D left cnt) (hc:Chg l w w') (hb:b ∉ l) (hr:r ∉ l):w'.ranges Tryz.prog 3 (plainElem Tryz.prog 3) b r n D left cnt:=by
 obtain⟨es,clock,since,seen,c0,h1,F,hs,hD,h2,rest⟩:=h;exact⟨es,clock,since,seen,c0,hc.heap h1 hb,F,hs,hD,hc.heap h2 hr,rest⟩
end Go.Proofs.YtkacjmoamgjfpaaGreat
namespace Go.Proofs.YtkacjmoamgjfpaaGreat.aA
def aDn (aB:List (List Int)) (v:Int):Int:=if 0<(aX aB v).length then (aX aB v).getD 0 0 else -1 - v
end Go.Proofs.YtkacjmoamgjfpaaGreat.aA
namespace Go.Proofs.YtkacjmoamgjfpaaGreat
open Go.RowKit Go.Maps
end Go.Proofs.YtkacjmoamgjfpaaGreat
namespace Go.Proofs.YtkacjmoamgjfpaaGreat
def St.rel (s:St) (x y:Int):Prop:=x=y∨s.same x y=true
theorem St.cT {s:St} {x y:Int}:s.same x y=true↔x∈s.all∧y∈s.all∧s.hd (s.all.idxOf x)=s.hd (s.all.idxOf y):=by
 unfold St.same;rw[Bool.and_eq_true,Bool.and_eq_true,decide_eq_true_iff,decide_eq_true_iff,beq_iff_eq,and_assoc]
theorem St.aBJ {s:St} {x y:Int} (h:s.rel x y):s.rel y x:=by
 rcases h with h | h
 ·exact Or.inl h.symm
 obtain⟨h1,h2,h3⟩:=St.cT.1 h;exact Or.inr (St.cT.2 ⟨h2,h1,h3.symm⟩)
theorem St.aD0 {x y:Int}:St.rel ⟨[],[]⟩ x y↔x=y:=by simp[St.rel,St.same]
theorem St.jR {s:St} (hs:s.Ok) {a x:Int} (hx:x∈s.all):(s.put a).hd ((s.put a).all.idxOf x)=s.hd (s.all.idxOf x):=by
 rw[St.mW a hx];by_cases h:a∈s.all
 ·rw[St.gM h]
 rw[St.fA h];have h1:=St.Ok.oE hx;have h2:=hs.len;unfold St.hd List.getD;rw[List.getElem?_append_left (by omega)]
theorem St.wB {s:St} (hs:s.Ok) {a:Int} (h:a ∉ s.all):(s.put a).hd ((s.put a).all.idxOf a)=s.all.length:=by
 rw[St.fA h];simp[St.hd,List.getD,List.idxOf_append,h,hs.len]
theorem St.zU {s:St} (hs:s.Ok) (a x y:Int):(s.put a).rel x y↔s.rel x y:=by
 by_cases h:a∈s.all
 ·rw[St.gM h]
 constructor
 ·rintro (rfl | hxy)
  ·exact Or.inl rfl
  obtain⟨m1,m2,h3⟩:=St.cT.1 hxy;have n1:x∈s.all∨x=a:=by rw[St.fA h] at m1;simpa using m1
  have n2:y∈s.all∨y=a:=by rw[St.fA h] at m2;simpa using m2
  clear m1 m2 hxy;rcases n1 with h1 | rfl
  ·rcases n2 with h2 | rfl
   ·rw[St.jR hs h1,St.jR hs h2] at h3
    exact Or.inr (St.cT.2 ⟨h1,h2,h3⟩)
   rw[St.jR hs h1,St.wB hs h] at h3;have:=hs.xS h1;omega
  rcases n2 with h2 | rfl
  ·rw[St.wB hs h,St.jR hs h2] at h3
   have:=hs.xS h2;omega
  exact Or.inl rfl
 rintro (rfl | hxy)
 ·exact Or.inl rfl
 obtain⟨h1,h2,h3⟩:=St.cT.1 hxy;exact Or.inr (St.cT.2 ⟨St.iT a h1,St.iT a h2,by rw[St.jR hs h1,St.jR hs h2];exact h3⟩)
theorem St.aAc {s:St} {x y:Int} (h:s.rel x y) (hy:y∈s.all):x∈s.all∧s.hd (s.all.idxOf x)=s.hd (s.all.idxOf y):=by
 rcases h with rfl | h
 ·exact⟨hy,rfl⟩
 obtain⟨h1,-,h3⟩:=St.cT.1 h;exact⟨h1,h3⟩
theorem St.sA {s:St} (hs:s.Ok) (a b x y:Int):(s.join a b).rel x y↔s.rel x y∨(s.rel x a∧s.rel b y)∨(s.rel x b∧s.rel a y):=by
 have ht:=(hs.put a).put b;have hm:=s.uG a b;have hr:∀ u v,s.rel u v↔((s.put a).put b).rel u v:=fun u v=>by rw[St.zU (hs.put a),St.zU hs]
 rw[hr x y,hr x a,hr b y,hr x b,hr a y];have hj:s.join a b=⟨((s.put a).put b).all,relabel ((s.put a).put b).grp (((s.put a).put b).hd (((s.put a).put b).all.idxOf a)) (((s.put a).put b).hd (((s.put a).put b).all.idxOf b))⟩:=rfl;rw[hj];clear hj hr;generalize (s.put a).put b=t at *;obtain⟨ha,hb⟩:=hm;obtain⟨A,hA⟩:∃ A,t.hd (t.all.idxOf a)=A:=⟨_,rfl⟩;obtain⟨B,hB⟩:∃ B,t.hd (t.all.idxOf b)=B:=⟨_,rfl⟩;rw[hA,hB];have hh:∀ {u:Int},u∈t.all→St.hd ⟨t.all,relabel t.grp A B⟩ (t.all.idxOf u)=if t.hd (t.all.idxOf u)=max A B then min A B else t.hd (t.all.idxOf u):=by
  intro u hu;unfold relabel St.hd;exact getD_map _ _ _ (by rw[←ht.len];exact St.Ok.oE hu)
 constructor
 ·rintro (rfl | h)
  ·exact Or.inl (Or.inl rfl)
  obtain⟨h1,h2,h3⟩:=St.cT.1 h;have h1:x∈t.all:=h1;have h2:y∈t.all:=h2;replace h3:St.hd ⟨t.all,relabel t.grp A B⟩ (t.all.idxOf x)=St.hd ⟨t.all,relabel t.grp A B⟩ (t.all.idxOf y):=h3;rw[hh h1,hh h2] at h3;by_cases e:t.hd (t.all.idxOf x)=t.hd (t.all.idxOf y)
  ·exact Or.inl (Or.inr (St.cT.2 ⟨h1,h2,e⟩))
  have h4:(t.hd (t.all.idxOf x)=A∧t.hd (t.all.idxOf y)=B)∨(t.hd (t.all.idxOf x)=B∧t.hd (t.all.idxOf y)=A):=by
   split at h3 <;> split at h3 <;> omega
  rcases h4 with ⟨e1,e2⟩ | ⟨e1,e2⟩
  ·exact Or.inr (Or.inl ⟨Or.inr (St.cT.2 ⟨h1,ha,e1.trans hA.symm⟩),Or.inr (St.cT.2 ⟨hb,h2,hB.trans e2.symm⟩)⟩)
  exact Or.inr (Or.inr ⟨Or.inr (St.cT.2 ⟨h1,hb,e1.trans hB.symm⟩),Or.inr (St.cT.2 ⟨ha,h2,hA.trans e2.symm⟩)⟩)
 have mk:∀ {u v:Int},u∈t.all→v∈t.all→(if t.hd (t.all.idxOf u)=max A B then min A B else t.hd (t.all.idxOf u))=(if t.hd (t.all.idxOf v)=max A B then min A B else t.hd (t.all.idxOf v))→St.rel ⟨t.all,relabel t.grp A B⟩ u v:=fun {u v} h1 h2 h3 =>
  Or.inr (St.cT.2 ⟨h1,h2,by show St.hd ⟨t.all,relabel t.grp A B⟩ (t.all.idxOf u)=St.hd ⟨t.all,relabel t.grp A B⟩ (t.all.idxOf v);rw[hh h1,hh h2];exact h3⟩)
 rintro (h | ⟨h1,h2⟩ | ⟨h1,h2⟩)
 ·rcases h with rfl | h
  ·exact Or.inl rfl
  obtain⟨h1,h2,h3⟩:=St.cT.1 h;exact mk h1 h2 (by rw[h3])
 ·obtain⟨k1,k2⟩:=St.aAc h1 ha
  obtain⟨k3,k4⟩:=St.aAc (St.aBJ h2) hb;refine mk k1 k3 ?_;rw[k2,k4,hA,hB];split <;> split <;> omega
 obtain⟨k1,k2⟩:=St.aAc h1 hb;obtain⟨k3,k4⟩:=St.aAc (St.aBJ h2) ha;refine mk k1 k3 ?_;rw[k2,k4,hA,hB];split <;> split <;> omega
end Go.Proofs.YtkacjmoamgjfpaaGreat
namespace Go.Proofs.YtkacjmoamgjfpaaGreat.aA
def g1:Gr:=⟨4,[(0,1),(1,2),(2,0)]⟩
def p1:Pt:=⟨[0,1,2,3],[0,1,2]⟩
def t1:List (List Int):=[[0,5],[1,2],[3,4],[]]
def w1:List aO:=[(-4,[]),(0,[0,2,4]),(1,[1,5,3])]
theorem aH9:p1.err g1=0:=by decide
theorem aBa:bB g1 p1:=Pt.aQ aH9
theorem aHT {u w:Int} (h:pW g1 p1 u w):(u=0∧w=1)∨(u=1∧w=2)∨(u=2∧w=0)∨(u=1∧w=0)∨(u=2∧w=1)∨(u=0∧w=2):=by
 obtain⟨e,he,h⟩:=h;simp only[p1,List.mem_cons,List.not_mem_nil,or_false] at he;have q0:g1.at 0=(0,1):=rfl;have q1:g1.at 1=(1,2):=rfl;have q2:g1.at 2=(2,0):=rfl;rcases he with rfl | rfl | rfl
 ·rw[q0] at h;simp only[Prod.mk.injEq] at h;omega
 ·rw[q1] at h;simp only[Prod.mk.injEq] at h;omega
 rw[q2] at h;simp only[Prod.mk.injEq] at h;omega
theorem aH7:pW g1 p1 0 1:=⟨0,by decide,Or.inl rfl⟩
theorem aIg:pW g1 p1 0 2:=⟨2,by decide,Or.inr rfl⟩
theorem aDO (u:Int):u∈([0,1,2]:List Int)↔dT g1 p1 (-1) 0 u:=by
 refine xH (by decide) (fun u hu=>?_) (fun u hu w hw _=>?_) u
 ·simp only[List.mem_cons,List.not_mem_nil,or_false] at hu
  rcases hu with rfl | rfl | rfl
  ·exact .here
  ·exact dT.step .here aH7 (by decide)
  exact dT.step .here aIg (by decide)
 have:=aHT hw;simp only[List.mem_cons,List.not_mem_nil,or_false];omega
theorem aHP (u:Int):u∈([3]:List Int)↔dT g1 p1 (-1) 3 u:=by
 refine xH (by decide) (fun u hu=>?_) (fun u hu w hw _=>?_) u
 ·rw[List.mem_singleton.1 hu];exact .here
 have:=aHT hw;rw[List.mem_singleton.1 hu] at this;omega
theorem aF2:comp g1 p1 0=[0,1,2]:=by
 have:comp g1 p1 0=p1.v.filter fun u=>decide (u∈([0,1,2]:List Int)):=by
  unfold comp;exact List.filter_congr fun u _=>by rw[decide_eq_decide];exact (aDO u).symm
 rw[this];decide
theorem aHS:comp g1 p1 3=[3]:=by
 have:comp g1 p1 3=p1.v.filter fun u=>decide (u∈([3]:List Int)):=by
  unfold comp;exact List.filter_congr fun u _=>by rw[decide_eq_decide];exact (aHP u).symm
 rw[this];decide
theorem oR:roots g1 p1=[0,3]:=by
 have h1:∀ v:Int,v∈p1.v→((∀ u∈p1.v,dT g1 p1 (-1) v u→v≤u)↔v=0∨v=3):=by
  intro v hv;constructor
  ·intro h
   simp only[p1,List.mem_cons,List.not_mem_nil,or_false] at hv;rcases hv with rfl | rfl | rfl | rfl
   ·exact Or.inl rfl
   ·have:=h 0 (by decide) (((aDO 1).1 (by decide)).symm (by decide)).2;omega
   ·have:=h 0 (by decide) (((aDO 2).1 (by decide)).symm (by decide)).2;omega
   exact Or.inr rfl
  rintro (rfl | rfl)
  ·intro u hu _
   simp only[p1,List.mem_cons,List.not_mem_nil,or_false] at hu;omega
  intro u _ hc;have:=(aHP u).2 hc;simp only[List.mem_cons,List.not_mem_nil,or_false] at this;omega
 have:roots g1 p1=p1.v.filter fun v=>decide (v=0∨v=3):=by
  unfold roots;exact List.filter_congr fun u hu=>by rw[decide_eq_decide];exact h1 u hu
 rw[this];decide
theorem aIc:aW g1 p1 t1:=by
 refine lV aBa rfl fun v hv=>?_;have hv:(v:Int)<4:=hv;rcases (show v=0∨v=1∨v=2∨v=3 by omega) with rfl | rfl | rfl | rfl <;> (unfold nN;decide)
theorem aIE:Trk g1 p1 t1 [(0,[0,2,4]),(1,[1,5,3])] p1.aK:=by
 refine⟨⟨fun c hc=>?_,by decide⟩,by decide,fun f hf=>?_,by decide,fun f hf=>?_,by decide⟩
 ·simp only[List.map_cons,List.map_nil,List.mem_cons,List.not_mem_nil,or_false] at hc
  rcases hc with rfl | rfl
  ·exact⟨by decide,by decide,show bT g1 t1 4=0 by decide⟩
  exact⟨by decide,by decide,show bT g1 t1 3=1 by decide⟩
 ·simp only[List.mem_cons,List.not_mem_nil,or_false] at hf
  rcases hf with rfl | rfl
  ·exact⟨_,rfl⟩
  exact⟨_,rfl⟩
 simp only[List.mem_cons,List.not_mem_nil,or_false] at hf;rcases hf with rfl | rfl
 ·exact⟨[],[1,2,3,4,5],by decide,by decide⟩
 exact⟨[0],[2,3,4,5],by decide,by decide⟩
theorem aGv:bV g1 p1 t1 w1:=aIE.walks aBa
theorem kZ:aH g1 p1 t1=w1:=(aGv.eq aH9).symm
theorem aGj:bE g1 p1 t1=0:=fV aH9 aIc
theorem aIu:Flat g1 p1 t1:=by
 intro r hr;rw[kZ];rw[oR] at hr;unfold cC;simp only[List.mem_cons,List.not_mem_nil,or_false] at hr;rcases hr with rfl | rfl
 ·rw[aF2];decide
 rw[aHS];decide
theorem aGb:cD g1 p1 t1=0:=gR aGj aIu
theorem aEk:bO g1 p1 0=0:=gJ aBa (by rw[oR];decide) (by rw[oR];show (0:Int)∈comp g1 p1 0;rw[aF2];decide)
theorem aFB:bO g1 p1 1=0:=gJ aBa (by rw[oR];decide) (by rw[oR];show (1:Int)∈comp g1 p1 0;rw[aF2];decide)
theorem aEq:bO g1 p1 3=1:=gJ aBa (by rw[oR];decide) (by rw[oR];show (3:Int)∈comp g1 p1 3;rw[aHS];decide)
theorem aD2:bH g1 p1 w1 (-4)=some 1:=by
 have:bH g1 p1 w1 (-4)=some ((bO g1 p1 3:Nat):Int):=rfl;rw[this,aEq];rfl
theorem aHs:bH g1 p1 w1 0=some 0:=by
 have:bH g1 p1 w1 0=some ((bO g1 p1 0:Nat):Int):=rfl;rw[this,aEk];rfl
theorem aG9:bH g1 p1 w1 1=some 0:=by
 have:bH g1 p1 w1 1=some ((bO g1 p1 1:Nat):Int):=rfl;rw[this,aFB];rfl
theorem aID {k:Int} (hk:k=0∨k=1):cB (bH g1 p1 w1) [[-4,k]] (St.new (bJ 2),[]) 1=some ((St.new (bJ 2)).join 1 0,[-4,k]):=by
 have ho:bH g1 p1 w1 k=some 0:=by rcases hk with rfl | rfl;exact aHs;exact aG9
 refine nK (c:=(St.new (bJ 2),[])) rfl ?_ ?_
 ·rcases hk with rfl | rfl <;> decide
 refine jE (c:=(St.new (bJ 2),[-4])) (k:=1) ?_ ?_
 ·refine jE (c:=(St.new (bJ 2),[])) (k:=0) rfl ?_
  exact jU (a:=1) aD2 (by simp)
 refine kQ (a:=0) (b:=1) (by decide) ho ?_ ?_ ?_ (by decide)
 ·rcases hk with rfl | rfl <;> decide
 ·rcases hk with rfl | rfl <;> decide
 show (bH g1 p1 w1 (-4)).getD 0=1;rw[aD2];rfl
theorem aAx {k:Int} (hk:k=0∨k=1):aN g1 p1 t1 [[-4,k]]=0:=by
 rw[fM aGb,oR,kZ];show (match cB (bH g1 p1 w1) [[-4,k]] (St.new (bJ 2),[]) 1 with | none=>(7:Int) | some c=>if 1<c.1.count then 7 else 0)=0;rw[aID hk];show (if 1<((St.new (bJ 2)).join 1 0).count then (7:Int) else 0)=0;decide
theorem tZ (L:Int→Option Int) (p:Pt) (cy:List Int) (k:Nat):(iI L p cy k).Ok:=by
 induction k with
 | zero=>exact St.aF5
 | succ k ih =>
  by_cases h:p.e.getD k 0∈cy.map (· / 2)
  ·rw[tM h];exact ih
  rw[rD h];exact ih.join _ _
def aD5 (L:Int→Option Int) (p:Pt) (cy:List Int) (x y:Int):Prop:=(iI L p cy p.e.length).rel x y
theorem aGC {q:Int→Int} {c:List Int} {x:Int} (h:Ring q c) (hx:x∈c):q x∈c:=by
 obtain⟨l,hr,hl⟩:=h.from hx;refine hl.mem_iff.1 ?_;cases l with
 | nil=>have e:q x=x:=hr;rw[e];simp
 | cons y m=>have e:q x=y:=hr.1;rw[e];simp
theorem aE1 {g:Gr} {p:Pt} {aB:List (List Int)} {W:List aO} (ll:List (List Int)) (hpe:p.err g=0) (hW:bV g p aB W) {x:Int} (hx:x∈p.aK):leftOf ll W (bT g aB x)=leftOf ll W x∧(leftOf ll W x).isSome=true:=by
 obtain⟨F,e,hT⟩:=hW.split;obtain⟨l,hl,hxl⟩:=List.mem_flatten.1 (hT.cover x hx);obtain⟨f,hf,rfl⟩:=List.mem_map.1 hl;have hn:=aGC (hT.rings.ring f.2 hl) hxl;have hfW:f∈W:=by rw[e];exact List.mem_append.2 (Or.inr hf)
 obtain⟨i,hi,hfi⟩:=List.getElem_of_mem hfW;have hm:marks f=f.2:=fU (by intro q;rw[q] at hxl;simp at hxl);have hp8:=nI hi;rw[show W.getD i (0,[])=f by simp[List.getD,hi,hfi],hm] at hp8;have hnd:=kU hpe hW;have hi8:i<(dK W).length:=by rw[oH];exact hi
 unfold leftOf;rw[hZ hnd hi8 (by rw[hp8];exact hn),hZ hnd hi8 (by rw[hp8];exact hxl)];exact⟨rfl,rfl⟩
theorem aDM (d:Int):(d=2*(d / 2)∧dE d=2*(d / 2)+1)∨(d=2*(d / 2)+1∧dE d=2*(d / 2)):=by unfold dE;split <;> omega
end Go.Proofs.YtkacjmoamgjfpaaGreat.aA
namespace Go.Proofs.YtkacjmoamgjfpaaGreat
open Go.RowKit Go.Maps
namespace aA
end aA
namespace aA
end aA
theorem aBY (w:World) (o:Obj) (n:Nat) (h:w.heap.size=n):(w.alloc o).heap[n]?=some o∧(w.alloc o).heap.size=n+1∧∀ (b:Nat) (o':Obj),w.heap[b]?=some o'→(w.alloc o).heap[b]?=some o':=by
 subst h;exact⟨heap_alloc_new w o,by simp,fun b o' hb=>((Chg.refl [] w).alloc o).heap hb (by simp)⟩
theorem rW {w:World} {b:Nat} {x y:Int} (h:w.heap[b]?=some (.cells #[.int .i64 x,.int .i64 y] 3)) (hx:I64 x) (hy:I64 y):aL w (.slice (some ⟨b,0,none⟩) 2 2) [x,y]:=by
 refine⟨_,2,rfl,by simp[hx,hy],by simp,fun _=>⟨b,0,rfl,fun i hi=>?_⟩⟩;simp at hi;rw[cell_of_row _ _ _ _ _ _ h];rcases i with _ | _ | i
 ·rfl
 ·rfl
 omega
theorem aDd {w:World} {b:Nat} {x y z:Int} (h:w.heap[b]?=some (.cells #[.int .i64 x,.int .i64 y,.int .i64 z] 3)) (hx:I64 x) (hy:I64 y) (hz:I64 z):aL w (.slice (some ⟨b,0,none⟩) 3 3) [x,y,z]:=by
 refine⟨_,3,rfl,by simp[hx,hy,hz],by simp,fun _=>⟨b,0,rfl,fun i hi=>?_⟩⟩;simp at hi;rw[cell_of_row _ _ _ _ _ _ h];rcases i with _ | _ | _ | i
 ·rfl
 ·rfl
 ·rfl
 omega
theorem aEj (w:World) {x y z:Int} (hx:I64 x) (hy:I64 y) (hz:I64 z):aL (w.alloc (.cells #[.int .i64 x,.int .i64 y,.int .i64 z] 3)) (.slice (some ⟨w.heap.size,0,none⟩) 3 3) [x,y,z]:=aDd (heap_alloc_new w _) hx hy hz
theorem aD3 (b n:Nat) (h:n≤100):gI (.slice (some ⟨b,0,none⟩) n n):=⟨_,n,n,rfl,Nat.le_refl _,by omega⟩
theorem aGi {w:World} {b:Nat} (h:w.heap[b]?=some (.cells #[.int .i64 0,.int .i64 1,.int .i64 1,.int .i64 2,.int .i64 2,.int .i64 0] 82)):dW w (.agg #[.int .i64 4,.slice (some ⟨b,0,none⟩) 3 3]) aA.g1:=by
 have hc:=fun i=>cell_of_row w b i _ _ _ h;refine⟨_,3,rfl,I64.mk (by decide) (by decide),by decide,fun i hi=>?_,fun i hi=>⟨b,0,rfl,?_⟩⟩
 ·have hi:i<3:=hi
  rcases (show i=0∨i=1∨i=2 by omega) with rfl | rfl | rfl
  ·exact⟨I64.mk (by decide) (by decide),I64.mk (by decide) (by decide)⟩
  ·exact⟨I64.mk (by decide) (by decide),I64.mk (by decide) (by decide)⟩
  exact⟨I64.mk (by decide) (by decide),I64.mk (by decide) (by decide)⟩
 have hi:i<3:=hi;rcases (show i=0∨i=1∨i=2 by omega) with rfl | rfl | rfl
 ·exact⟨(hc 0).trans rfl,(hc 1).trans rfl⟩
 ·exact⟨(hc 2).trans rfl,(hc 3).trans rfl⟩
 exact⟨(hc 4).trans rfl,(hc 5).trans rfl⟩
theorem aId {w:World} {b0 b1 b2 b3 b4 b5:Nat} {k:Int} (hk:I64 k) (h0:w.heap[b0]?=some (.cells #[.int .i64 0,.int .i64 5] 3)) (h1:w.heap[b1]?=some (.cells #[.int .i64 1,.int .i64 2] 3)) (h2:w.heap[b2]?=some (.cells #[.int .i64 3,.int .i64 4] 3))
  (h3:w.heap[b3]?=some (.cells #[.slice (some ⟨b0,0,none⟩) 2 2,.slice (some ⟨b1,0,none⟩) 2 2,.slice (some ⟨b2,0,none⟩) 2 2,.slice none 0 0] 27)) (h4:w.heap[b4]?=some (.cells #[.int .i64 (-4),.int .i64 k] 3)) (h5:w.heap[b5]?=some (.cells #[.slice (some ⟨b4,0,none⟩) 2 2] 27)) :
  jX w (.agg #[.slice (some ⟨b3,0,none⟩) 4 4,.slice (some ⟨b5,0,none⟩) 1 1]) aA.t1 [[-4,k]]:=by
 have i0:∀ x:Int,-100≤x→x≤100→I64 x:=fun x a b=>I64.mk (by omega) (by omega);have hc3:=fun i=>cell_of_row w b3 i _ _ _ h3;have hc5:=fun i=>cell_of_row w b5 i _ _ _ h5;refine⟨_,_,rfl,⟨_,4,rfl,by decide,fun i hi=>?_⟩,⟨_,1,rfl,by simp,fun i hi=>?_⟩⟩
 ·have hi:i<4:=hi
  rcases (show i=0∨i=1∨i=2∨i=3 by omega) with rfl | rfl | rfl | rfl
  ·exact⟨b3,0,_,rfl,(hc3 0).trans rfl,aD3 _ _ (by decide),rW h0 (i0 _ (by decide) (by decide)) (i0 _ (by decide) (by decide))⟩
  ·exact⟨b3,0,_,rfl,(hc3 1).trans rfl,aD3 _ _ (by decide),rW h1 (i0 _ (by decide) (by decide)) (i0 _ (by decide) (by decide))⟩
  ·exact⟨b3,0,_,rfl,(hc3 2).trans rfl,aD3 _ _ (by decide),rW h2 (i0 _ (by decide) (by decide)) (i0 _ (by decide) (by decide))⟩
  exact⟨b3,0,_,rfl,(hc3 3).trans rfl,⟨none,0,0,rfl,by decide,by decide⟩,aL.nil _⟩
 have hi:i<1:=by simpa using hi
 obtain rfl:i=0:=by omega
 exact⟨b5,0,_,rfl,(hc5 0).trans rfl,aD3 _ _ (by decide),rW h4 (i0 _ (by decide) (by decide)) hk⟩
end Go.Proofs.YtkacjmoamgjfpaaGreat
namespace Go.Proofs.YtkacjmoamgjfpaaGreat
open Go.RowKit Go.Maps
namespace aA
end aA
namespace aA
end aA
namespace aA
def aGx (L:Int→Option Int) (M:List Int) (j:Nat) (e:Int):Prop:=(lf L (2*e)=M.getD j 0→lf L (2*e+1)∈M)∧(lf L (2*e+1)=M.getD j 0→lf L (2*e)∈M)
structure aIz (L:Int→Option Int) (p:Pt) (cy:List Int) (M:List Int) (i k:Nat):Prop where
 head:aCt L cy∈M
 nodup:M.Nodup
 low:∀ r∈M,0≤r∧r≤10000
 rel:∀ r∈M,aD5 L p cy r (aCt L cy)
 done:∀ j,j<i→∀ e∈p.e,e ∉ cy.map (· / 2)→aGx L M j e
 now:∀ q,q<k→p.e.getD q 0 ∉ cy.map (· / 2)→aGx L M i (p.e.getD q 0)
theorem aEC {g:Gr} {p:Pt} {aB same:List (List Int)} (hz:aN g p aB same=0) {d:Int} (hd:d∈p.aK):(leftOf (aJ g p aB same) (aH g p aB) d).isSome=true:=by
 obtain⟨hpe,hto⟩:=bC (bY (cX hz).1).1;exact (aE1 _ hpe (bS hpe hto) hd).2
end aA
end Go.Proofs.YtkacjmoamgjfpaaGreat
