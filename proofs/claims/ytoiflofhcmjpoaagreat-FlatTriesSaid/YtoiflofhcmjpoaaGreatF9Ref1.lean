/- ref02.Turned, First; ref06.First, Equal: contracts. Conditions: lists that lie in memory and read so, of a bounded size. -/
import Derived.Test.YtoiflofhcmjpoaaGreatF9RefS
open List renaming mem_map→Qa,mem_append→Qb,exists_cons_of_ne_nil→Qd,pairwise_map→Qf,mem_reverse→Qg,length_map→Qh,getD→Qi
open Or renaming inr→Qc,inl→Qe
-- READS ONLY
namespace Go.Proofs.YtoiflofhcmjpoaaGreat
open Go.RowKit Go.Maps
namespace Plain
end Plain
end Go.Proofs.YtoiflofhcmjpoaaGreat
namespace Go.Proofs.YtoiflofhcmjpoaaGreat.Plain
variable {p:Pt} {a b l pre:List Int} {g:Gr} {F W:List bP}
theorem Kz {p q:Int->Int} {c:List Int} (h:Ring p c) (k:Ring q c):∀ x∈c,p x=q x:=by
 cases c with
 | nil=>simp
 | cons a l =>
  have e:=(Trail.map (show Trail p a l a from h)).trans (Trail.map (show Trail q a l a from k)).symm;exact λx hx=>List.map_inj_left.1 e x hx
theorem Jj (hn:(a++b).Nodup):∀ x∈a++b,ahead (b++a) x=ahead (a++b) x:=by
 intro x hx;have kr:(b++a).Nodup:=(List.perm_append_comm).nodup_iff.1 hn;by_cases ha:a=[]
 ·subst ha;simp
 by_cases hb:b=[]
 ·subst hb;simp
 have h1:=js hn (by simp[ha]);have h2:=js kr (by simp[ha]);rw[List.reverse_append] at h1 h2;obtain⟨u,r,hr⟩:=Qd (show a.reverse≠[] by simpa using ha);obtain⟨v,s,hs⟩:=Qd (show b.reverse≠[] by simpa using hb);rw[hr,hs] at h1 h2;have h3:=Ring.aa (p:=ahead (a++b)) (l:=s) (m:=r) (x:=v) (y:=u) h1;have:=Kz h2 h3 x (by
  rw[<-hr,<-hs,Qb,Qg,Qg];exact Qb.1 hx)
 exact this
theorem wR (l:List Int):∃ a b,l=a++b/\first l=b++a:=⟨l.take (LC l l.length),l.drop (LC l l.length),(List.take_append_drop _ _).symm,rfl⟩
theorem di (l:List Int):(first l).Perm l:=by
 obtain⟨a,b,e1,e2⟩:=wR l
 grind
theorem MZ:first []=[]:=rfl
theorem Gp (l:List Int):(first l).isEmpty=l.isEmpty:=by
 have:=(di l).length_eq;cases h:first l <;> cases h2:l <;> simp_all
theorem wZ (hn:l.Nodup):∀ x∈l,ahead (first l) x=ahead l x:=by
 obtain⟨a,b,e1,e2⟩:=wR l
 grind [Jj]
theorem jF (aa:List (List Int)) (v:Int):ay (aa.map first) v=first (ay aa v):=by
 unfold ay Qi;rw[List.getElem?_map];cases aa[v.toNat]? <;> rfl
theorem aK.first {aa:List (List Int)} (h:aK g p aa):aK g p (aa.map Plain.first):=by
 refine⟨by rw[Qh];exact h.len,λv=>?_,λv h0 hn d=>?_⟩
 ·rw[jF];exact (di _).nodup_iff.2 (h.nodup v)
 rw[jF,(di _).mem_iff];exact h.mem v h0 hn d
theorem Bq {aa:List (List Int)}:aK g p (aa.map Plain.first)↔aK g p aa:=by
 refine⟨λh=>⟨by rw[<-Qh (f:=Plain.first)];exact h.len,λv=>?_,λv h0 hn d=>?_⟩,λh=>h.first⟩
 ·have:=h.nodup v
  grind [jF,di]
 have:=h.mem v h0 hn d
 grind [jF,di]
theorem Kk {aa:List (List Int)} (hp:aD g p) (h:aK g p aa) {d:Int} (hd:d∈p.ah):aA g (aa.map Plain.first) d=aA g aa d:=by
 unfold aA before;rw[jF];have ht:=bD hd;have hv:=hp.vr _ (hp.aP ht).1;exact wZ (h.nodup _) _ ((h.mem _ hv.1 hv.2 _).2 ⟨ht,rfl⟩)
theorem Dm (aa:List (List Int)) (l:List Int):cK (aa.map Plain.first) l=cK aa l:=by
 grind [cK,jF,Gp]
theorem Lb.first {aa:List (List Int)} (hp:aD g p) (ht:aK g p aa) (h:Lb g p aa F pre):Lb g p (aa.map Plain.first) F pre :=
 ⟨h.rings.congr λx hx=>(Kk hp ht (h.sub x hx)).symm,h.sub,h.key,h.keys,h.least,h.cover⟩
theorem cN.first {aa:List (List Int)} (hp:aD g p) (ht:aK g p aa) (h:cN g p aa W):cN g p (aa.map Plain.first) W:=by
 obtain⟨F,e,k⟩:=h.split;rw[e,<-Dm aa];exact (k.first hp ht).walks hp
theorem sR {aa:List (List Int)} (dk:p.err g=0) (kq:aK g p aa):cN g p aa (bZ g p aa):=by
 rw[<-sE dk kq];exact (zw (Pt.ax dk) (bK (Pt.aF dk).2.2.1) kq).walks (Pt.ax dk)
theorem FB {aa:List (List Int)} (dk:p.err g=0) (kq:aK g p aa):bZ g p (aa.map Plain.first)=bZ g p aa :=
 (((sR dk kq).first (Pt.ax dk) kq).eq dk).symm
theorem rC (g:Gr) (p:Pt) (aa:List (List Int)):cJ g p (aa.map Plain.first)=cJ g p aa:=by
 all_goals grind [yL,lQ,Bq,nK]
theorem AV (g:Gr) (p:Pt) (aa:List (List Int)):dA g p (aa.map Plain.first)=dA g p aa:=by
 by_cases h:cJ g p aa=0
 ·obtain⟨dk,kq⟩:=nq h
  have h2:cJ g p (aa.map Plain.first)=0:=(rC g p aa).trans h
  all_goals grind [FB,Flat,sB,xe]
 all_goals grind [tR,rC]
end Go.Proofs.YtoiflofhcmjpoaaGreat.Plain
namespace Go.Proofs.YtoiflofhcmjpoaaGreat
open Go.RowKit Go.Maps
namespace Plain
end Plain
def Safe (w:World) (B:Nat) (v:Value):Prop:=∀ a n c,v=.slice (some a) n c->a.block<B\/∃ cs r,w.heap[a.block]?=some (.cells cs 3 r)
structure ajV (w:World) (B:Nat) (ov:Value) (vs:List Value) (ll:List (List Int)):Prop where
 out:w.ownsRow B 25 1 ov vs.length vs
 len:vs.length=ll.length
 rows:∀ k,k<vs.length->aI w (vs.getD k undef) (ll.getD k [])/\rE (vs.getD k undef)/\Safe w B (vs.getD k undef)
end Go.Proofs.YtoiflofhcmjpoaaGreat
namespace Go.Proofs.YtoiflofhcmjpoaaGreat.Plain
variable {f:bP} {g:Gr} {p:Pt} {W:List bP}
def marks (f:bP):List Int:=if f.2=[] then [f.1] else f.2
def Db (W:List bP):List (List Int):=W.map marks
def numOf (ll:List (List Int)) (key:Int):Int:=((Ug ll key).map λ(k:Nat)=>(k:Int)).getD 0
theorem mQ (h:f.2=[]):marks f=[f.1]:=if_pos h
theorem k8 (h:f.2≠[]):marks f=f.2:=if_neg h
theorem vj {aa:List (List Int)} (dk:p.err g=0) (hW:cN g p aa W) (hf:f∈W) {y:Int} (hy:y∈marks f):(y<0/\f.2=[]/\f.1=y)\/(0<=y/\y∈p.ah/\y∈f.2):=by
 rcases zZ dk hW hf with ⟨h1,h2,h3,-⟩ | ⟨d,l,h1,h2,h3,-⟩
 ·rw[mQ h1] at hy
  simp at hy;exact Qe ⟨by omega,h1,hy.symm⟩
 rw[k8 (by rw[h2];simp)] at hy;right;obtain⟨F,e,hT⟩:=hW.split;have hm:f∈F:=by
  rw[e] at hf;rcases Qb.1 hf with q | q
  ·obtain⟨v,-,rfl⟩:=Qa.1 q
   cases h2
  exact q
 have hyd:=hT.sub y (List.mem_flatten.2 ⟨f.2,Qa.2 ⟨f,hm,rfl⟩,hy⟩);have:=Pt.gS dk (au.1 hyd);exact⟨by omega,hyd,hy⟩
theorem DC {aa:List (List Int)} (dk:p.err g=0) (hW:cN g p aa W):(Db W).flatten.Nodup:=by
 have hk:=KT dk hW;rw[iD];obtain⟨F,e,hT⟩:=hW.split;have hFn:=iD.1 hT.rings.nodup;refine⟨λl hl=>?_,?_⟩
 ·obtain⟨f,hf,rfl⟩:=Qa.1 hl
  by_cases h:f.2=[]
  ·rw[mQ h];simp
  rw[k8 h];rw[e] at hf;rcases Qb.1 hf with q | q
  ·obtain⟨v,-,rfl⟩:=Qa.1 q
   exact absurd rfl h
  exact hFn.1 _ (Qa.2 ⟨f,q,rfl⟩)
 unfold Db;rw[Qf];rw[Qf] at hk;refine hk.imp_of_mem ?_;intro a b ha hb qD x hx y hy exy;subst exy;rcases vj dk hW ha hx with ⟨h1,-,h2⟩ | ⟨h1,-,h2⟩
 ·all_goals grind [vj]
 rcases vj dk hW hb hy with ⟨k1,-,-⟩ | ⟨-,-,k2⟩
 ·omega
 have hma:a∈F:=by
  rw[e] at ha;rcases Qb.1 ha with q | q
  ·obtain⟨v,-,rfl⟩:=Qa.1 q;simp at h2
  exact q
 have EN:b∈F:=by
  all_goals grind
 have:=Sf hT.rings.nodup (Qa.2 ⟨a,hma,rfl⟩) (Qa.2 ⟨b,EN,rfl⟩) h2 k2;obtain⟨la,ea⟩:=hT.key a hma;obtain⟨lb,eb⟩:=hT.key b EN
 grind
end Go.Proofs.YtoiflofhcmjpoaaGreat.Plain
namespace Go.Proofs.YtoiflofhcmjpoaaGreat
open Go.RowKit Go.Maps
namespace Plain
end Plain
end Go.Proofs.YtoiflofhcmjpoaaGreat
namespace Go.Proofs.YtoiflofhcmjpoaaGreat.Plain
def lf (L:Int->Option Int) (d:Int):Int:=(L d).getD 0
def y5 (L:Int->Option Int) (p:Pt) (cy:List Int):Nat->St
 | 0=>⟨[],[]⟩
 | k+1=>if p.e.getD k 0∈cy.map (· / 2) then y5 L p cy k else (y5 L p cy k).join (lf L (2*p.e.getD k 0)) (lf L (2*p.e.getD k 0+1))
def Gk (L:Int->Option Int) (cy:List Int):Int:=lf L (cy.getD 0 0)
end Go.Proofs.YtoiflofhcmjpoaaGreat.Plain
namespace Go.Proofs.YtoiflofhcmjpoaaGreat
open Go.RowKit Go.Maps
end Go.Proofs.YtoiflofhcmjpoaaGreat
namespace Go.Proofs.YtoiflofhcmjpoaaGreat.Plain
def aoC (aa:List (List Int)) (v:Int):Int:=if 0<(ay aa v).length then (ay aa v).getD 0 0 else -1 - v
end Go.Proofs.YtoiflofhcmjpoaaGreat.Plain
namespace Go.Proofs.YtoiflofhcmjpoaaGreat
open Go.RowKit Go.Maps
variable {s:St} {x y a:Int}
def St.rel (s:St) (x y:Int):Prop:=x=y\/s.same x y=true
theorem St.de:s.same x y=true↔x∈s.all/\y∈s.all/\s.hd (s.all.idxOf x)=s.hd (s.all.idxOf y):=by
 grind [St.same]
theorem St.rel_refl (s:St) (x:Int):s.rel x x:=Qe rfl
theorem St.Hx (h:s.rel x y):s.rel y x:=by
 rcases h with h | h
 ·exact Qe h.symm
 obtain⟨h1,h2,h3⟩:=St.de.1 h;exact Qc (St.de.2 ⟨h2,h1,h3.symm⟩)
theorem St.rel_trans {z:Int} (h:s.rel x y) (k:s.rel y z):s.rel x z:=by
 rcases h with rfl | h
 ·exact k
 rcases k with rfl | k
 ·exact Qc h
 obtain⟨h1,h2,h3⟩:=St.de.1 h;obtain⟨k1,k2,k3⟩:=St.de.1 k;exact Qc (St.de.2 ⟨h1,k2,h3.trans k3⟩)
theorem St.Xl:St.rel ⟨[],[]⟩ x y↔x=y:=by simp[St.rel,St.same]
theorem St.kU (hs:s.Ok) (hx:x∈s.all):(s.put a).hd ((s.put a).all.idxOf x)=s.hd (s.all.idxOf x):=by
 rw[St.nU a hx];by_cases h:a∈s.all
 ·rw[St.kn h]
 rw[St.e8 h];have h1:=St.Ok.IU hx;have h2:=hs.len;unfold St.hd Qi;rw[List.getElem?_append_left (by omega)]
theorem St.yK (hs:s.Ok) (h:a ∉ s.all):(s.put a).hd ((s.put a).all.idxOf a)=s.all.length:=by
 rw[St.e8 h];simp[St.hd,Qi,List.idxOf_append,h,hs.len]
theorem St.DK (hs:s.Ok) (a x y:Int):(s.put a).rel x y↔s.rel x y:=by
 by_cases h:a∈s.all
 ·rw[St.kn h]
 constructor
 ·rintro (rfl | jj)
  ·exact Qe rfl
  obtain⟨m1,m2,h3⟩:=St.de.1 jj;have n1:x∈s.all\/x=a:=by rw[St.e8 h] at m1;simpa using m1
  have n2:y∈s.all\/y=a:=by rw[St.e8 h] at m2;simpa using m2
  clear m1 m2 jj;rcases n1 with h1 | rfl
  ·rcases n2 with h2 | rfl
   ·rw[St.kU hs h1,St.kU hs h2] at h3
    exact Qc (St.de.2 ⟨h1,h2,h3⟩)
   all_goals grind [St.kU,St.yK,St.Ok.Mu]
  rcases n2 with h2 | rfl
  ·rw[St.yK hs h,St.kU hs h2] at h3
   have:=hs.Mu h2;omega
  exact Qe rfl
 rintro (rfl | jj)
 ·exact Qe rfl
 obtain⟨h1,h2,h3⟩:=St.de.1 jj;exact Qc (St.de.2 ⟨St.lF a h1,St.lF a h2,by grind [St.kU]⟩)
theorem St.abX (h:s.rel x y) (hy:y∈s.all):x∈s.all/\s.hd (s.all.idxOf x)=s.hd (s.all.idxOf y):=by
 rcases h with rfl | h
 ·exact⟨hy,rfl⟩
 obtain⟨h1,-,h3⟩:=St.de.1 h;exact⟨h1,h3⟩
theorem St.yl (hs:s.Ok) (a b x y:Int):(s.join a b).rel x y↔s.rel x y\/(s.rel x a/\s.rel b y)\/(s.rel x b/\s.rel a y):=by
 have ht:=(hs.put a).put b;have hm:=s.wM a b;have hr:∀ u v,s.rel u v↔((s.put a).put b).rel u v:=λu v=>by rw[St.DK (hs.put a),St.DK hs]
 rw[hr x y,hr x a,hr b y,hr x b,hr a y];have hj:s.join a b=⟨((s.put a).put b).all,relabel ((s.put a).put b).dY (((s.put a).put b).hd (((s.put a).put b).all.idxOf a)) (((s.put a).put b).hd (((s.put a).put b).all.idxOf b))⟩:=rfl;rw[hj];clear hj hr;generalize (s.put a).put b=t at *;obtain⟨ha,hb⟩:=hm;obtain⟨A,hA⟩:∃ A,t.hd (t.all.idxOf a)=A:=⟨_,rfl⟩;obtain⟨B,hB⟩:∃ B,t.hd (t.all.idxOf b)=B:=⟨_,rfl⟩;rw[hA,hB];have hh:∀ {u:Int},u∈t.all->St.hd ⟨t.all,relabel t.dY A B⟩ (t.all.idxOf u)=if t.hd (t.all.idxOf u)=max A B then min A B else t.hd (t.all.idxOf u):=by
  grind [relabel,St.hd,getD_map,St.Ok.IU]
 constructor
 ·rintro (rfl | h)
  ·exact Qe (Qe rfl)
  obtain⟨h1,h2,h3⟩:=St.de.1 h;have h1:x∈t.all:=h1;have h2:y∈t.all:=h2;replace h3:St.hd ⟨t.all,relabel t.dY A B⟩ (t.all.idxOf x)=St.hd ⟨t.all,relabel t.dY A B⟩ (t.all.idxOf y):=h3;rw[hh h1,hh h2] at h3;by_cases e:t.hd (t.all.idxOf x)=t.hd (t.all.idxOf y)
  ·exact Qe (Qc (St.de.2 ⟨h1,h2,e⟩))
  have h4:(t.hd (t.all.idxOf x)=A/\t.hd (t.all.idxOf y)=B)\/(t.hd (t.all.idxOf x)=B/\t.hd (t.all.idxOf y)=A):=by
   grind
  rcases h4 with ⟨e1,e2⟩ | ⟨e1,e2⟩
  ·exact Qc (Qe ⟨Or.inr (St.de.2 ⟨h1,ha,e1.trans hA.symm⟩),Qc (St.de.2 ⟨hb,h2,hB.trans e2.symm⟩)⟩)
  exact Qc (Qc ⟨Or.inr (St.de.2 ⟨h1,hb,e1.trans hB.symm⟩),Qc (St.de.2 ⟨ha,h2,hA.trans e2.symm⟩)⟩)
 have mk:∀ {u v:Int},u∈t.all->v∈t.all->(if t.hd (t.all.idxOf u)=max A B then min A B else t.hd (t.all.idxOf u))=(if t.hd (t.all.idxOf v)=max A B then min A B else t.hd (t.all.idxOf v))->St.rel ⟨t.all,relabel t.dY A B⟩ u v:=λ{u v} h1 h2 h3 =>
  Qc (St.de.2 ⟨h1,h2,by grind⟩)
 rintro (h | ⟨h1,h2⟩ | ⟨h1,h2⟩)
 ·rcases h with rfl | h
  ·exact Qe rfl
  all_goals grind [St.de]
 all_goals grind [St.abX,St.Hx]
theorem St.Ku (hs:s.Ok) (a b:Int):(s.join a b).rel a b:=by grind [St.yl,St.rel_refl]
end Go.Proofs.YtoiflofhcmjpoaaGreat
namespace Go.Proofs.YtoiflofhcmjpoaaGreat.Plain
def g1:Gr:=⟨4,[(0,1),(1,2),(2,0)]⟩
def p1:Pt:=⟨[0,1,2,3],[0,1,2]⟩
def t1:List (List Int):=[[0,5],[1,2],[3,4],[]]
def w1:List bP:=[(-4,[]),(0,[0,2,4]),(1,[1,5,3])]
