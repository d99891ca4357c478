/- Permutations in rings: swapping two fJ makes one ring more or less; the parity of a product. No program here. -/
import Derived.WalkKit
import Derived.Test.YtoiflofhcmjpoaaGreatRows
import Derived.WalkLawsBesides
import Derived.WalkSpells
import Derived.Maps.OwnSet
import Derived.Maps.RangeWalk
import Derived.Maps.AppendAt
import Derived.Defers
import Derived.Recover
import Derived.Lib.Hide
open List renaming flatten_cons→Qa,mem_flatten→Qb,mem_cons→Qc,map_cons→Qd,length_cons→Qe,filter_cons_of_pos→Qf,filter_cons_of_neg→Qg,mem_map→Qh,nodup_append→Qi,nodup_cons→Qj,range→Qk,mem_filter→Ql,cons_append→Qm,length_append→Qn,Perm→Qo,perm_ext_iff_of_nodup→Qp,mem_reverse→Qq,getElem?_append_left→Qr,map_congr_left→Qs,sum_cons→Qt,mem_range→Qu,Pairwise→Qv,mem_cons_of_mem→Qw,range_succ→Qx,append_of_mem→Qy,filter_append→Qz,countP_append→QA,append_assoc→QB,all_eq_true→QC,filter_eq_nil_iff→QE,mem_append→QF,getD→QH,mem_cons_self→QI,filter_congr→QM,countP_congr→QN,perm_middle→QO,map_toArray→QQ,getElem_map→QR,length_nil→QS,map_nil→QV
open Go.World renaming block_lt_of_cell?→QD
open Or renaming inl→QG,inr→QT
open Nat renaming le_trans→QJ,mod_eq_of_lt→QP,zero_add→QU
open Bool renaming not_eq_true'→QK,eq_false_iff→QL
namespace Go.Proofs.YtoiflofhcmjpoaaGreat.Plain
variable {p q:Int->Int} {y z x a b n u w s v r d:Int} {l m D U:List Int} {C R:List (List Int)} {k i j:Nat} {f:Int->Bool}
def Trail (p:Int->Int):Int->List Int->Int->Prop
 | x,[],z=>p x=z
 | x,y :: l,z=>p x=y/\Trail p y l z
theorem Trail.append:∀ {l m:List Int} {x:Int},Trail p x (l++y :: m) z↔Trail p x l y/\Trail p y m z
 | [],_,_=>Iff.rfl
 | a :: l,m,x=>by
  show p x=a/\Trail p a (l++y :: m) z↔(p x=a/\Trail p a l y)/\Trail p y m z;rw[Trail.append (l:=l)];exact and_assoc.symm
theorem Trail.congr:∀ {l:List Int} {x:Int},(∀ y,y=x\/y∈l->p y=q y)->Trail p x l z->Trail q x l z
 | [],x,h,t=>by show q x=z;rw[<-h x (QG rfl)];exact t
 | a :: l,x,h,t=>⟨by rw[<-h x (QG rfl)];exact t.1,Trail.congr (λy hy=>h y (QT (by rcases hy with rfl | hy <;> simp[*]))) t.2⟩
def Ring (p:Int->Int):List Int->Prop
 | []=>False
 | x :: l=>Trail p x l x
structure bw (p:Int->Int) (C:List (List Int)):Prop where
 ring:∀ c∈C,Ring p c
 nodup:C.flatten.Nodup
theorem Ring.aa (h:Ring p (x :: l++y :: m)):Ring p (y :: m++x :: l):=by
 have h':Trail p x (l++y :: m) x:=h;rw[Trail.append] at h';show Trail p y (m++x :: l) y
 grind [Trail.append]
theorem Ring.from {c:List Int} (h:Ring p c) (hx:x∈c):∃ l,Ring p (x :: l)/\(x :: l).Perm c:=by
 obtain⟨a,b,rfl⟩:=Qy hx;cases a with
 | nil=>exact⟨b,h,Qo.refl _⟩
 | cons y a =>
  grind [Ring.aa]
theorem bw.perm {D:List (List Int)} (h:bw p C) (hp:C.Perm D):bw p D :=
 ⟨λc hc=>h.ring c (hp.mem_iff.2 hc),(hp.flatten).nodup_iff.1 h.nodup⟩
theorem bw.front (h:bw p C) (hx:x∈C.flatten):∃ l D,bw p ((x :: l) :: D)/\((x :: l) :: D).length=C.length/\((x :: l) :: D).flatten.Perm C.flatten:=by
 obtain⟨c,hc,AS⟩:=Qb.1 hx;obtain⟨a,b,rfl⟩:=Qy hc;obtain⟨l,hr,hl⟩:=(h.ring c hc).from AS;have hp:(a++c :: b).Perm (c :: (a++b)):=QO;have h2:=h.perm hp;have hf:((x :: l) :: (a++b)).flatten.Perm (c :: (a++b)).flatten:=by
  grind
 refine⟨l,a++b,⟨λd hd=>?_,hf.nodup_iff.2 h2.nodup⟩,by simp;omega,hf.trans hp.symm.flatten⟩;rcases Qc.1 hd with rfl | hd
 ·exact hr
 exact h2.ring d (Qw _ hd)
def swp (a b x:Int):Int:=if x=a then b else if x=b then a else x
theorem swp_left (a b:Int):swp a b a=b:=if_pos rfl
theorem swp_right (a b:Int):swp a b b=a:=by grind [swp]
theorem fe (h1:x≠a) (h2:x≠b):swp a b x=x:=by grind [swp]
theorem Ring.fe {c:List Int} (h:Ring p c) (ha:a ∉ c) (hb:b ∉ c):Ring (λx=>p (swp a b x)) c:=by
 cases c with
 | nil=>exact h
 | cons x l =>
  refine Trail.congr (λy hy=>?_) (show Trail p x l x from h);have hy:y∈x :: l:=by rcases hy with rfl | hy <;> simp[*]
  show p y=p (swp a b y);rw[Plain.fe (a:=a) (b:=b) (x:=y) (λe=>ha (by grind)) (λe=>hb (by grind))]
theorem bw.X3 (h:bw p C) (ha:a∈C.flatten) (hb:b∈C.flatten) (qD:a≠b) :
  ∃ D,bw (λx=>p (swp a b x)) D/\D.flatten.Perm C.flatten/\((D.length=C.length+1/\∃ E,bw p E/\E.flatten.Perm C.flatten/\∃ c∈E,a∈c/\b∈c)\/(D.length+1=C.length/\∃ c∈D,a∈c/\b∈c)):=by
 obtain⟨l,E,hE,hlen,dm⟩:=h.front ha;have hbE:b∈((a :: l) :: E).flatten:=dm.mem_iff.2 hb;have gp:=hE.nodup;simp only[Qa] at hbE gp;have hra:=hE.ring (a :: l) (by simp);by_cases gZ:b∈l
 ·obtain⟨u,v,rfl⟩:=Qy gZ
  have JC:Trail p a (u++b :: v) a:=hra;rw[Trail.append] at JC;have amd:=gp;rw[Qi] at gp;have Bz:=gp.1;simp only[Qj,QF,Qc,not_or,Qi] at Bz;refine⟨(a :: v) :: (b :: u) :: E,⟨λc hc=>?_,?_⟩,?_,QG ⟨by grind,(a :: (u++b :: v)) :: E,hE,dm,_,QI,by simp,by simp⟩⟩
  ·rcases Qc.1 hc with rfl | hc
   ·show Trail _ a v a
    cases v with
    | nil=>show p (swp a b a)=a;rw[swp_left];exact JC.2
    | cons y v =>
     refine⟨?_,Trail.congr (λz hz=>?_) JC.2.2⟩
     ·show p (swp a b a)=y
      rw[swp_left];exact JC.2.1
     have T5:z∈y :: v:=by rcases hz with rfl | hz <;> simp[*]
     show p z=p (swp a b z);rw[Plain.fe (λe=>by grind) (λe=>by grind)]
   rcases Qc.1 hc with rfl | hc
   ·show Trail _ b u b
    cases u with
    | nil=>show p (swp a b b)=b;rw[swp_right];exact JC.1
    | cons y u =>
     refine⟨?_,Trail.congr (λz hz=>?_) JC.1.2⟩
     ·show p (swp a b b)=y
      rw[swp_right];exact JC.1.1
     have T5:z∈y :: u:=by rcases hz with rfl | hz <;> simp[*]
     show p z=p (swp a b z);rw[Plain.fe (λe=>by grind) (λe=>Bz.2.2.2 z T5 b (QG rfl) e)]
   refine (hE.ring c (by simp[hc])).fe (λq=>?_) (λq=>?_)
   ·exact gp.2.2 a (by simp) a (Qb.2 ⟨c,hc,q⟩) rfl
   exact gp.2.2 b (by simp) b (Qb.2 ⟨c,hc,q⟩) rfl
  ·refine Qo.nodup_iff ?_ |>.1 amd
   simp only[Qa,Qm,QB];refine Qo.cons a ?_;have:(u++b :: v).Perm (v++b :: u):=by
    grind
   grind
  refine Qo.trans ?_ dm;simp only[Qa,Qm,QB];refine Qo.cons a ?_;have:(v++b :: u).Perm (u++b :: v):=by
   grind
  grind
 have anA:b∈E.flatten:=by
  all_goals grind
 rw[Qi] at gp;have hEE:bw p E:=⟨λc hc=>hE.ring c (by simp[hc]),gp.2.1⟩;obtain⟨u,F,hF,ahX,Sj⟩:=hEE.front anA;have I8:=hF.ring (b :: u) (by simp);have hbu:∀ z∈b :: u,z∈E.flatten:=λz hz=>Sj.mem_iff.1 (by grind);have VV:=hF.nodup;simp only[Qa] at VV;rw[Qi] at VV;have Bz:=gp.1;simp only[Qj] at Bz;have hbn:=VV.1;simp only[Qj] at hbn;have hpp:((a :: u++b :: l) :: F).flatten.Perm ((a :: l) :: E).flatten:=by
  simp only[Qa,Qm,QB];refine Qo.cons a ?_
  grind
 refine⟨(a :: u++b :: l) :: F,⟨λc hc=>?_,hpp.nodup_iff.2 hE.nodup⟩,hpp.trans dm,QT ⟨by grind,_,QI,by simp,by simp⟩⟩;rcases Qc.1 hc with rfl | hc
 ·show Trail _ a (u++b :: l) a
  rw[Trail.append];constructor
  ·cases u with
   | nil=>show p (swp a b a)=b;rw[swp_left];exact I8
   | cons y u =>
    have ahZ:p b=y/\Trail p y u b:=I8;refine⟨?_,Trail.congr (λz hz=>?_) ahZ.2⟩
    ·show p (swp a b a)=y
     rw[swp_left];exact ahZ.1
    have T5:z∈y :: u:=by rcases hz with rfl | hz <;> simp[*]
    show p z=p (swp a b z);rw[Plain.fe (λe=>by subst e;exact gp.2.2 z (by simp) z (hbu z (by simp[T5])) rfl) (λe=>by grind)]
  cases l with
  | nil=>show p (swp a b b)=a;rw[swp_right];exact hra
  | cons y l =>
   have ag9:p a=y/\Trail p y l a:=hra;refine⟨?_,Trail.congr (λz hz=>?_) ag9.2⟩
   ·show p (swp a b b)=y
    rw[swp_right];exact ag9.1
   have T5:z∈y :: l:=by rcases hz with rfl | hz <;> simp[*]
   show p z=p (swp a b z);rw[Plain.fe (λe=>by grind) (λe=>by grind)]
 have hcE:∀ z∈c,z∈E.flatten:=λz hz=>Sj.mem_iff.1 (by simp only[Qa,QF,Qb];exact QT ⟨c,hc,hz⟩);refine (hF.ring c (by simp[hc])).fe (λq=>?_) (λq=>?_)
 ·exact gp.2.2 a (by simp) a (hcE a q) rfl
 exact VV.2.2 b (by simp) b (Qb.2 ⟨c,hc,q⟩) rfl
theorem bw.swap (h:bw p C) (ha:a∈C.flatten) (hb:b∈C.flatten) (qD:a≠b) :
  ∃ D,bw (λx=>p (swp a b x)) D/\D.flatten.Perm C.flatten/\(D.length=C.length+1\/D.length+1=C.length):=by
 grind [bw.X3]
theorem Trail.det:∀ {l m:List Int} {a:Int},Trail p a l x->Trail p a m x->x ∉ l->x ∉ m->l=m
 | [],[],_,_,_,_,_=>rfl
 | [],y :: m,a,h,k,_,h2=>absurd (k.1.symm.trans h) (λe=>h2 (by rw[e];simp))
 | y :: l,[],a,h,k,h1,_=>absurd (h.1.symm.trans k) (λe=>h1 (by rw[e];simp))
 | y :: l,z :: m,a,h,k,h1,h2=>by
  have e:y=z:=h.1.symm.trans k.1;subst e;rw[Trail.det h.2 k.2 (λq=>h1 (by simp[q])) (λq=>h2 (by simp[q]))]
theorem bw.count:∀ {C D:List (List Int)},bw p C->bw p D->C.flatten.Perm D.flatten->C.length=D.length
 | [],D,_,hD,hp=>by
  cases D with
  | nil=>rfl
  | cons d D =>
   have hd:=hD.ring d (by simp);cases d with
   | nil=>exact absurd hd (by simp[Ring])
   | cons x l=>have:=hp.length_eq;simp at this
 | [] :: C,D,hC,_,_=>absurd (hC.ring [] (by simp)) (by simp[Ring])
 | (x :: l) :: C,D,hC,hD,hp=>by
  obtain⟨m,E,hE,hlen,dm⟩:=hD.front (x:=x) (hp.mem_iff.1 (by simp));have n1:=hC.nodup;have n2:=hE.nodup;simp only[Qa,Qm,Qj,QF,not_or] at n1 n2;have e:l=m:=Trail.det (hC.ring (x :: l) (by simp)) (hE.ring (x :: m) (by simp)) n1.1.1 n2.1.1;subst e;have Pq:=hp.trans dm.symm;simp only[Qa] at Pq;have hp3:=(List.perm_append_left_iff _).1 Pq;have WB:bw p C:=⟨λc hc=>hC.ring c (by simp[hc]),((Qi.1 n1.2).2).1⟩;have Cn:bw p E:=⟨λc hc=>hE.ring c (by simp[hc]),((Qi.1 n2.2).2).1⟩;have:=bw.count WB Cn hp3;simp at hlen ⊢;omega
theorem Trail.map:∀ {l:List Int} {x:Int},Trail p x l z->(x :: l).map p=l++[z]
 | [],x,h=>by show [p x]=[z];rw[show p x=z from h]
 | y :: l,x,h=>by
  rw[Qd,Trail.map h.2,h.1];rfl
theorem Ring.mI {c:List Int} (h:Ring p c):(c.map p).Perm c:=by
 cases c with
 | nil=>exact absurd h (by simp[Ring])
 | cons x l =>
  rw[Trail.map (show Trail p x l x from h)]
  grind
theorem qN {p:Int->Int}:∀ {C:List (List Int)},(∀ c∈C,Ring p c)->(C.flatten.map p).Perm C.flatten
 | [],_=>Qo.refl _
 | c :: C,h=>by
  rw[Qa,List.map_append];exact (h c (by simp)).mI.append (qN λd hd=>h d (by simp[hd]))
theorem dT {p:Int->Int}:∀ {l:List Int},(l.map p).Nodup->∀ x∈l,∀ y∈l,p x=p y->x=y
 | [],_,x,hx,_,_,_=>by simp at hx
 | a :: l,h,x,hx,y,hy,e=>by
  rw[Qd,Qj] at h;rcases Qc.1 hx with e1 | hx <;> rcases Qc.1 hy with e2 | hy
  ·rw[e1,e2]
  ·exact absurd (Qh.2 ⟨y,hy,by rw[<-e,e1]⟩) h.1
  ·exact absurd (Qh.2 ⟨x,hx,by rw[e,e2]⟩) h.1
  exact dT h.2 x hx y hy e
theorem bw.inj (h:bw p C):∀ x∈C.flatten,∀ y∈C.flatten,p x=p y->x=y :=
 dT ((qN h.ring).nodup_iff.2 h.nodup)
theorem bw.pred (h:bw p C) (hx:x∈C.flatten):∃ y∈C.flatten,p y=x :=
 Qh.1 ((qN h.ring).mem_iff.2 hx)
theorem bw.next (h:bw p C) (hx:x∈C.flatten):p x∈C.flatten :=
 (qN h.ring).mem_iff.1 (Qh.2 ⟨x,hx,rfl⟩)
theorem Ring.congr {c:List Int} (h:Ring p c) (e:∀ x∈c,p x=q x):Ring q c:=by
 cases c with
 | nil=>exact h
 | cons x l=>exact Trail.congr (λy hy=>e y (by grind)) (show Trail p x l x from h)
theorem bw.congr (h:bw p C) (e:∀ x∈C.flatten,p x=q x):bw q C :=
 ⟨λc hc=>(h.ring c hc).congr λx hx=>e x (Qb.2 ⟨c,hc,hx⟩),h.nodup⟩
theorem LN (a b x:Int):swp a b (swp a b x)=x:=by
 grind [swp]
theorem bw.swap' (h:bw p C) (ha:a∈C.flatten) (hb:b∈C.flatten) (qD:a≠b) :
  ∃ D,bw (λx=>swp a b (p x)) D/\D.flatten.Perm C.flatten/\(D.length=C.length+1\/D.length+1=C.length):=by
 obtain⟨a',ha',rfl⟩:=h.pred ha;obtain⟨b',PE,rfl⟩:=h.pred hb;obtain⟨D,h1,h2,h3⟩:=h.swap ha' PE (λe=>qD (by rw[e]));refine⟨D,h1.congr λx hx=>?_,h2,h3⟩;have hx':=h2.mem_iff.1 hx;by_cases e1:x=a'
 ·subst e1;rw[swp_left,swp_left]
 by_cases e2:x=b'
 ·subst e2;rw[swp_right,swp_right]
 rw[Plain.fe e1 e2,Plain.fe (λe=>e1 (h.inj x hx' a' ha' e)) (λe=>e2 (h.inj x hx' b' PE e))]
theorem bw.cut (h:bw p ((x :: y :: l) :: R)):bw (λz=>p (swp y x z)) ([y] :: (x :: l) :: R):=by
 have gp:=h.nodup;have hr:p x=y/\Trail p y l x:=h.ring (x :: y :: l) (by simp);have hp:([y] :: (x :: l) :: R).flatten.Perm ((x :: y :: l) :: R).flatten:=by
  grind
 simp only[Qa] at gp;rw[Qi] at gp;have Bz:=gp.1;simp only[Qj,Qc,not_or] at Bz;refine⟨λc hc=>?_,hp.nodup_iff.2 h.nodup⟩;rcases Qc.1 hc with rfl | hc
 ·show p (swp y x y)=y
  rw[swp_left];exact hr.1
 rcases Qc.1 hc with rfl | hc
 ·show Trail _ x l x
  cases l with
  | nil=>show p (swp y x x)=x;rw[swp_right];exact hr.2
  | cons z l =>
   refine⟨?_,Trail.congr (λu hu=>?_) hr.2.2⟩
   ·show p (swp y x x)=z
    rw[swp_right];exact hr.2.1
   have hum:u∈z :: l:=by rcases hu with rfl | hu <;> simp[*]
   show p u=p (swp y x u);rw[Plain.fe (λe=>by grind) (λe=>by grind)]
 refine (h.ring c (by simp[hc])).fe (λq=>?_) (λq=>?_)
 ·exact gp.2.2 y (by simp) y (Qb.2 ⟨c,hc,q⟩) rfl
 exact gp.2.2 x (by simp) x (Qb.2 ⟨c,hc,q⟩) rfl
theorem Az {p:Int->Int}:∀ {C:List (List Int)},(∀ c∈C,Ring p c)->C.length<=C.flatten.length
 | [],_=>by simp
 | c :: C,h=>by
  have h1:=Az (C:=C) λd hd=>h d (by simp[hd]);have h2:=h c (by simp);cases c with
  | nil=>exact absurd h2 (by simp[Ring])
  | cons x l=>simp only[Qa,Qn,Qe];omega
theorem DM:∀ (C:List (List Int)),(∀ c∈C,c≠[])->(∀ c∈C,c.length=1)\/∃ a b x y l,C=a++(x :: y :: l) :: b
 | [],_=>QG (by simp)
 | c :: C,h=>by
  rcases DM C (λd hd=>h d (by simp[hd])) with h1 | ⟨a,b,x,y,l,rfl⟩
  ·match c,h c (by simp) with
   | [x],_=>exact QG (by simpa using h1)
   | x :: y :: l,_=>exact QT ⟨[],C,x,y,l,rfl⟩
  exact QT ⟨c :: a,b,x,y,l,rfl⟩
theorem xj:∀ {C:List (List Int)},(∀ c∈C,c.length=1)->C.flatten.length=C.length
 | [],_=>rfl
 | c :: C,h=>by
  rw[Qa,Qn,h c (by simp),xj λd hd=>h d (by simp[hd]),Qe];omega
theorem bw.mul (n:Nat):∀ {r a:Int->Int} {R A:List (List Int)},R.flatten.length - R.length=n->bw r R->bw a A->A.flatten.Perm R.flatten ->
  ∃ C,bw (λx=>r (a x)) C/\C.flatten.Perm A.flatten/\(C.length+R.length+A.length) % 2=A.flatten.length % 2:=by
 induction n with
 | zero =>
  intro r a R A hn hR hA hp;have hle:=Az hR.ring;rcases DM R (λc hc e=>by have:=hR.ring c hc;rw[e] at this;exact this) with h1 | ⟨u,v,x,y,l,rfl⟩
  ·refine⟨A,hA.congr λx hx=>?_,Qo.refl _,?_⟩
   ·have hx2:=hp.mem_iff.1 (hA.next hx)
    obtain⟨c,hc,AS⟩:=Qb.1 hx2;have hr:=hR.ring c hc
    match c,h1 c hc with
    | [z],_ =>
     have:a x=z:=by simpa using AS
     rw[this];exact (show r z=z from hr).symm
   have:=hp.length_eq;omega
  have h2:(u++v).length<=(u++v).flatten.length:=Az (p:=r) λc hc=>hR.ring c (by grind)
  grind
 | succ n ih =>
  intro r a R A hn hR hA hp;rcases DM R (λc hc e=>by have:=hR.ring c hc;rw[e] at this;exact this) with h1 | ⟨u,v,x,y,l,rfl⟩
  ·grind [xj]
  have Xr:(u++(x :: y :: l) :: v).Perm ((x :: y :: l) :: (u++v)):=QO;have Zy:=hR.perm Xr;have hcut:=Zy.cut;have Vu:=Xr.flatten;have jj:y≠x:=by
   have:=Zy.nodup;simp only[Qa,Qm,Qj,Qc,not_or] at this
   grind
  obtain⟨A',hA',hpA,hlA⟩:=hA.swap' (a:=y) (b:=x) (hp.mem_iff.2 (Vu.mem_iff.2 (by simp))) (hp.mem_iff.2 (Vu.mem_iff.2 (by simp))) jj;have Pq:A'.flatten.Perm ([y] :: (x :: l) :: (u++v)).flatten:=by
   refine (hpA.trans (hp.trans Vu)).trans ?_;simp only[Qa,Qm,List.nil_append]
   grind
  have arM:=hp.length_eq;have arE:=hpA.length_eq;have atY:=Pq.length_eq;obtain⟨C,hC,hpC,ES⟩:=ih (R:=[y] :: (x :: l) :: (u++v)) (A:=A') (by
   simp only[Qn,List.flatten_append,Qa,Qe,QS] at hn ⊢;omega) hcut hA' Pq
  refine⟨C,hC.congr λz _=>?_,hpC.trans hpA,?_⟩
  ·show r (swp y x (swp y x (a z)))=r (a z)
   rw[LN]
  all_goals grind
structure Gr where
 n:Int
 e:List (Int × Int)
structure Pt where
 v:List Int
 e:List Int
def Gr.ends (g:Gr) (i:Nat):Int × Int:=g.e.getD i (0,0)
def Gr.at (g:Gr) (i:Int):Int × Int:=g.ends i.toNat
def Gr.cL (g:Gr) (i:Nat):Bool:=!(decide ((g.ends i).1<0) || decide (g.n<=(g.ends i).1) || decide ((g.ends i).2<0) || decide (g.n<=(g.ends i).2))
def Gr.err (g:Gr):Int:=if g.n<0 then 3 else if 1024<g.n\/1024 - g.n<(g.e.length:Int) then 2 else if (Qk g.e.length).all g.cL then 0 else 3
def eH (l:List Int) (n:Int) (i:Nat):Bool:=!(decide (l.getD i 0<0) || decide (n<=l.getD i 0) || (decide (0<i)&&decide (l.getD i 0<=l.getD (i - 1) 0)))
def dG (l:List Int) (n:Int):Bool:=(Qk l.length).all (eH l n)
def Pt.cL (g:Gr) (p:Pt) (i:Nat):Bool:=decide ((g.ends (p.e.getD i 0).toNat).1∈p.v)&&decide ((g.ends (p.e.getD i 0).toNat).2∈p.v)
def Pt.err (g:Gr) (p:Pt):Int:=if g.err≠0 then g.err else if !(dG p.v g.n&&dG p.e g.e.length) then 4 else if (Qk p.e.length).all (p.cL g) then 0 else 4
theorem eE (p:Nat->Bool) (k:Nat):(Qk (k+1)).all p=((Qk k).all p&&p k):=by
 grind
theorem dU {p:Nat->Bool} {n:Nat} (hk:k<n) (h:p k=false):(Qk n).all p=false:=by
 grind
theorem Gr.aF {g:Gr} (h:g.err=0):0<=g.n/\g.n<=1024/\(g.e.length:Int)<=1024 - g.n/\∀ i,i<g.e.length->0<=(g.ends i).1/\(g.ends i).1<g.n/\0<=(g.ends i).2/\(g.ends i).2<g.n:=by
 unfold Gr.err at h;split at h
 ·simp at h
 split at h
 ·simp at h
 split at h
 ·rename_i h1 h2 h3
  refine⟨by omega,by omega,by omega,λi hi=>?_⟩;have:=QC.1 h3 i (Qu.2 hi);simp only[Gr.cL,QK,Bool.or_eq_false_iff,decide_eq_false_iff_not] at this;omega
 simp at h
theorem cG (h:dG l n=true) (hi:i<l.length):0<=l.getD i 0/\l.getD i 0<n/\(0<i->l.getD (i - 1) 0<l.getD i 0):=by
 have:=QC.1 h i (Qu.2 hi)
 grind [eH]
theorem T0 (h:dG l n=true) (Uw:i<j) (hj:j<l.length):l.getD i 0<l.getD j 0:=by
 induction j with
 | zero=>omega
 | succ j ih =>
  have h1:=(cG h hj).2.2 (by omega)
  all_goals grind
theorem bK (h:dG l n=true):l.Pairwise (·<·):=by
 rw[List.pairwise_iff_getElem];intro i j hi hj Uw;have:=T0 h Uw hj
 grind
theorem lS (h:dG l n=true):l.Nodup:=by
 refine (bK h).imp ?_
 grind
theorem Pt.aF {g:Gr} {p:Pt} (h:p.err g=0):g.err=0/\dG p.v g.n=true/\dG p.e g.e.length=true/\∀ i,i<p.e.length->(g.ends (p.e.getD i 0).toNat).1∈p.v/\(g.ends (p.e.getD i 0).toNat).2∈p.v:=by
 unfold Pt.err at h;split at h
 ·rename_i h1;exact absurd h h1
 rename_i h1;split at h
 ·simp at h
 rename_i h2;split at h
 ·rename_i h3
  simp only[QK,Bool.and_eq_false_iff,not_or,Bool.not_eq_false] at h2;refine⟨by simpa using h1,h2.1,h2.2,λi hi=>?_⟩;have:=QC.1 h3 i (Qu.2 hi);simpa[Pt.cL] using this
 simp at h
def om (g:Gr) (p:Pt) (u w:Int):Prop:=∃ e∈p.e,(g.at e=(u,w)\/g.at e=(w,u))
theorem om.symm {g:Gr} {p:Pt} (h:om g p u w):om g p w u:=by
 obtain⟨e,he,h⟩:=h;exact⟨e,he,h.symm⟩
inductive bS (g:Gr) (p:Pt) (shut:Int) (a:Int):Int->Prop
 | here:bS g p shut a a
 | step {u w:Int}:bS g p shut a u->om g p u w->w≠shut->bS g p shut a w
theorem bS.trans {g:Gr} {p:Pt} {c:Int} (h:bS g p s a b) (k:bS g p s b c):bS g p s a c:=by
 induction k with
 | here=>exact h
 | step _ hn hs ih=>exact ih.step hn hs
theorem bS.symm {g:Gr} {p:Pt} (ha:a≠s) (h:bS g p s a b):b≠s/\bS g p s b a:=by
 induction h with
 | here=>exact⟨ha,.here⟩
 | step h1 hn hs ih=>exact⟨hs,bS.trans (bS.step .here hn.symm ih.1) ih.2⟩
theorem RZ {g:Gr} {p:Pt} (h0:a∈l) (h1:∀ u∈l,bS g p s a u) (h2:∀ u∈l,∀ w,om g p u w->w≠s->w∈l) (u:Int):u∈l↔bS g p s a u:=by
 refine⟨h1 u,λh=>?_⟩
 induction h with
 | here=>exact h0
 | step _ hn hs ih=>exact h2 _ ih _ hn hs
noncomputable def comp (g:Gr) (p:Pt) (a:Int):List Int:=by
 classical
 exact p.v.filter λu=>decide (bS g p (-1) a u)
open Classical in
theorem eQ {g:Gr} {p:Pt} :u∈comp g p a↔u∈p.v/\bS g p (-1) a u:=by
 grind [comp]
def Pt.sub (g:Gr) (p:Pt) (l:List Int):Pt:=⟨p.v.filter λv=>decide (v∈l),p.e.filter λe=>decide ((g.at e).1∈l)&&decide ((g.at e).2∈l)⟩
noncomputable def roots (g:Gr) (p:Pt):List Int:=by
 classical
 exact p.v.filter λv=>decide (∀ u∈p.v,bS g p (-1) v u->v<=u)
open Classical in
theorem fw {g:Gr} {p:Pt} :v∈roots g p↔v∈p.v/\∀ u∈p.v,bS g p (-1) v u->v<=u:=by
 grind [roots]
theorem exists_least:∀ {l:List Int},l≠[]->∃ a∈l,∀ b∈l,a<=b
 | [],h=>absurd rfl h
 | [x],_=>⟨x,by simp,by simp⟩
 | x :: y :: l,_=>by
  obtain⟨a,ha,hl⟩:=exists_least (l:=y :: l) (by simp);by_cases q:x<=a
  ·exact⟨x,by simp,λb hb=>by rcases Qc.1 hb with rfl | hb;omega;have:=hl b hb;omega⟩
  exact⟨a,Qw _ ha,λb hb=>by rcases Qc.1 hb with rfl | hb;omega;exact hl b hb⟩
theorem DL {g:Gr} {p:Pt} (hv:∀ v∈p.v,0<=v) (hu:u∈p.v):∃ r∈roots g p,bS g p (-1) r u:=by
 obtain⟨r,hr,hl⟩:=exists_least (l:=comp g p u) (λe=>by have:u∈comp g p u:=eQ.2 ⟨hu,.here⟩;rw[e] at this;simp at this);obtain⟨fD,cD⟩:=eQ.1 hr;have hsy:=(cD.symm (by grind)).2;exact⟨r,fw.2 ⟨fD,λx hx hc=>hl x (eQ.2 ⟨hx,cD.trans hc⟩)⟩,hsy⟩
theorem zf {g:Gr} {p:Pt} (hv:∀ v∈p.v,0<=v) {r':Int} (hr:r∈roots g p) (hr':r'∈roots g p) (h:bS g p (-1) r u) (h':bS g p (-1) r' u):r=r':=by
 obtain⟨h1,h2⟩:=fw.1 hr;obtain⟨k1,k2⟩:=fw.1 hr';have e1:=h2 r' k1 (h.trans (h'.symm (by grind)).2);have e2:=k2 r h1 (h'.trans (h.symm (by grind)).2);omega
theorem Me {β:Type} (f:β->Bool):∀ {R:List β},R.Nodup->(∃ r∈R,f r=true)->(∀ r∈R,∀ s∈R,f r=true->f s=true->r=s)->(R.map λr=>if f r then 1 else 0).sum=1
 | [],_,h,_=>by obtain⟨r,hr,_⟩:=h;simp at hr
 | a :: R,hn,h,hu=>by
  rw[Qj] at hn;rw[Qd,Qt];by_cases ha:f a=true
  ·rw[if_pos ha]
   have:(R.map λr=>if f r then 1 else 0).sum=0:=by
    have hz:∀ r∈R,f r=false:=λr hr=>by
     grind
    have e:(R.map λr=>if f r then 1 else 0)=R.map λ_=>0:=Qs λr hr=>by rw[hz r hr];rfl
    rw[e];clear e hz hu h hn
    induction R with
    | nil=>rfl
    | cons _ _ ih=>rw[Qd,Qt,ih]
   rw[this]
  rw[if_neg ha,QU];obtain⟨r,hr,hf⟩:=h;refine Me f hn.2 ⟨r,?_,hf⟩ (λr hr s hs=>hu r (by simp[hr]) s (by simp[hs]));rcases Qc.1 hr with rfl | q
  ·exact absurd hf ha
  exact q
theorem sum_add {β:Type} (f g:β->Nat):∀ R:List β,(R.map λr=>f r+g r).sum=(R.map f).sum+(R.map g).sum
 | []=>rfl
 | a :: R=>by simp only[Qd,Qt,sum_add f g R];omega
theorem xd {α β:Type} (f:α->β->Bool) {R:List β} (hn:R.Nodup):∀ {L:List α},(∀ x∈L,(∃ r∈R,f x r=true)/\∀ r∈R,∀ s∈R,f x r=true->f x s=true->r=s)->(R.map λr=>(L.filter λx=>f x r).length).sum=L.length
 | [],_=>by
  clear hn
  induction R with
  | nil=>rfl
  | cons _ _ ih=>simpa using ih
 | x :: L,h=>by
  have e:(R.map λr=>((x :: L).filter λx=>f x r).length)=R.map λr=>(if f x r then 1 else 0)+(L.filter λx=>f x r).length:=by
   refine Qs λr _=>?_;rw[List.filter_cons];split <;> simp <;> omega
  rw[e,sum_add,Me (f x) hn (h x (by simp)).1 (h x (by simp)).2,xd f hn λy hy=>h y (by simp[hy])];simp;omega
def aH (d:Int):Int:=if d % 2=0 then d+1 else d - 1
def Gr.tail (g:Gr) (d:Int):Int:=if d % 2=0 then (g.at (d / 2)).1 else (g.at (d / 2)).2
def Gr.head (g:Gr) (d:Int):Int:=if d % 2=0 then (g.at (d / 2)).2 else (g.at (d / 2)).1
def Pt.ah (p:Pt):List Int:=p.e.flatMap λe=>[2*e,2*e+1]
theorem bg (d:Int):aH (aH d)=d:=by grind [aH]
theorem bJ (d:Int):aH d / 2=d / 2:=by grind [aH]
theorem az (g:Gr) (d:Int):g.tail (aH d)=g.head d:=by
 all_goals grind [Gr.tail,Gr.head,bJ,aH]
theorem au {p:Pt} :d∈p.ah↔d / 2∈p.e:=by
 all_goals grind [Pt.ah]
theorem bD {p:Pt} (h:d∈p.ah):aH d∈p.ah:=by grind [au,bJ]
theorem cV {p:Pt} (h:p.e.Nodup):p.ah.Nodup:=by
 grind [Pt.ah,au]
theorem ct (p:Pt):p.ah.length=2*p.e.length:=by
 unfold Pt.ah;generalize p.e=l
 induction l with
 | nil=>rfl
 | cons e l ih=>rw[List.flatMap_cons,Qn,ih];simp;omega
theorem zr {p:Pt} (h:p.e.Nodup):bw aH (p.e.map λe=>[2*e,2*e+1]):=by
 refine⟨λc hc=>?_,?_⟩
 ·obtain⟨e,_,rfl⟩:=Qh.1 hc
  show aH (2*e)=2*e+1/\aH (2*e+1)=2*e
  grind [aH]
 all_goals grind
def ahead (l:List Int) (x:Int):Int:=l.getD ((l.idxOf x+l.length - 1) % l.length) 0
def behind (l:List Int) (x:Int):Int:=l.getD ((l.idxOf x+1) % l.length) 0
theorem GC {p:Int->Int} {z:Int}:∀ {l:List Int} {x:Int},(∀ i,i<l.length->p ((x :: l).getD i 0)=(x :: l).getD (i+1) 0)->p ((x :: l).getD l.length 0)=z->Trail p x l z
 | [],x,_,h=>by show p x=z;simpa using h
 | y :: l,x,h,hz=>by
  refine⟨by simpa using h 0 (by simp),GC (λi hi=>?_) (by simpa using hz)⟩;have:=h (i+1) (by simpa using hi);simpa using this
theorem iR (hn:l.Nodup) (hi:i<l.length):l.idxOf (l.getD i 0)=i:=by
 grind
theorem nW (l:List Int) (i:Nat) (hi:i<l.length):l.reverse.getD i 0=l.getD (l.length - 1 - i) 0:=by
 grind
theorem js (hn:l.Nodup) (h0:l≠[]):Ring (ahead l) l.reverse:=by
 have hl:0<l.length:=List.length_pos_iff.2 h0;have key:∀ i,i<l.length->ahead l (l.reverse.getD i 0)=l.reverse.getD (if i+1=l.length then 0 else i+1) 0:=by
  intro i hi;have e1:ahead l (l.reverse.getD i 0)=l.getD ((l.length - 1 - i+l.length - 1) % l.length) 0:=by
   grind [nW,ahead,iR]
  rw[e1];split
  ·rename_i h
   rw[nW l 0 hl];congr 1;rw[show l.length - 1 - i+l.length - 1=l.length - 1 by omega,QP (by omega)];omega
  rename_i h;rw[nW l (i+1) (by omega)];congr 1;rw[show l.length - 1 - i+l.length - 1=(l.length - 1 - (i+1))+l.length by omega,Nat.add_mod_right,QP (by omega)]
 have hlen:l.reverse.length=l.length:=by simp
 generalize l.reverse=r at *;cases r with
 | nil=>simp at hlen;omega
 | cons x r =>
  simp only[Qe] at hlen;refine GC (λi hi=>?_) ?_
  all_goals grind
def ay (aa:List (List Int)) (v:Int):List Int:=aa.getD v.toNat []
structure aK (g:Gr) (p:Pt) (aa:List (List Int)):Prop where
 len:(aa.length:Int)=g.n
 nodup:∀ v,(ay aa v).Nodup
 mem:∀ v,0<=v->v<g.n->∀ d,d∈ay aa v↔d∈p.ah/\g.tail d=v
def before (g:Gr) (aa:List (List Int)) (d:Int):Int:=ahead (ay aa (g.tail d)) d
def aA (g:Gr) (aa:List (List Int)) (d:Int):Int:=before g aa (aH d)
def leaving (g:Gr) (p:Pt) (U:List Int):List Int:=p.ah.filter λd=>decide (g.tail d∈U)
def busy (aa:List (List Int)) (U:List Int):List Int:=U.filter λv=>!(ay aa v).isEmpty
theorem kH {g:Gr} {p:Pt} {aa:List (List Int)} (h:aK g p aa) (hp:p.e.Nodup) (hU:U.Nodup) (hn:∀ v∈U,0<=v/\v<g.n) :
  bw (before g aa) ((busy aa U).map λv=>(ay aa v).reverse)/\((busy aa U).map λv=>(ay aa v).reverse).flatten.Perm (leaving g p U):=by
 have hB:(busy aa U).Nodup:=Qv.filter _ hU;have hBU:∀ v∈busy aa U,v∈U/\ay aa v≠[]:=by
  intro v hv;have:=Ql.1 hv
  grind
 have gp:∀ {B:List Int},B.Nodup->(∀ v∈B,v∈U)->(B.map λv=>(ay aa v).reverse).flatten.Nodup:=by
  intro B
  induction B with
  | nil=>intro _ _;simp
  | cons v B ih =>
   intro hB hs;rw[Qj] at hB;rw[Qd,Qa,Qi];refine⟨(List.reverse_perm _).nodup_iff.2 (h.nodup v),ih hB.2 (λu hu=>hs u (by simp[hu])),λa ha b hb=>?_⟩;rintro rfl;have ha:=Qq.1 ha;obtain⟨l,hl,gZ⟩:=Qb.1 hb;obtain⟨u,hu,rfl⟩:=Qh.1 hl;have hv:=hn v (hs v (by simp));have hu':=hn u (hs u (by simp[hu]));have e1:=((h.mem v hv.1 hv.2 a).1 ha).2;have e2:=((h.mem u hu'.1 hu'.2 a).1 (Qq.1 gZ)).2
   grind
 have TE:=gp hB (λv hv=>(hBU v hv).1);refine⟨⟨λc hc=>?_,TE⟩,?_⟩
 ·obtain⟨v,hv,rfl⟩:=Qh.1 hc
  have Og:=hn v (hBU v hv).1;refine (js (h.nodup v) (hBU v hv).2).congr λx hx=>?_;have:=((h.mem v Og.1 Og.2 x).1 (Qq.1 hx)).2;show ahead (ay aa v) x=ahead (ay aa (g.tail x)) x;rw[this]
 refine (Qp TE ((cV hp).filter _)).2 λd=>?_;constructor
 ·intro hd
  obtain⟨l,hl,E6⟩:=Qb.1 hd;obtain⟨v,hv,rfl⟩:=Qh.1 hl;have Og:=hn v (hBU v hv).1;obtain⟨h1,h2⟩:=(h.mem v Og.1 Og.2 d).1 (Qq.1 E6)
  grind
 intro hd;obtain⟨h1,h2⟩:=Ql.1 hd;have h2:g.tail d∈U:=by simpa using h2
 have Og:=hn _ h2;have Ms:=(h.mem _ Og.1 Og.2 d).2 ⟨h1,rfl⟩;refine Qb.2 ⟨_,Qh.2 ⟨g.tail d,Ql.2 ⟨h2,?_⟩,rfl⟩,Qq.2 Ms⟩
 grind
abbrev bP:=Int × List Int
structure kE (g:Gr) (p:Pt) (aa:List (List Int)) (W:List bP):Prop where
 rings:bw (aA g aa) ((W.filter λf=>!f.2.isEmpty).map (·.2))
 all:((W.filter λf=>!f.2.isEmpty).map (·.2)).flatten.Perm p.ah
 key:∀ f∈W,∀ d l,f.2=d :: l->f.1=d
 lone:((W.filter λf=>f.2.isEmpty).map (·.1)).Perm ((p.v.filter λv=>(ay aa v).isEmpty).map λv=>-1 - v)
def bP.cu (g:Gr) (f:bP):Int:=match f.2 with | []=>-1 - f.1 | _ :: _=>g.tail f.1
def yw (g:Gr) (p:Pt) (U:List Int):Prop:=∀ d∈p.ah,g.tail d∈U->g.head d∈U
theorem mG {g:Gr} {p:Pt} {aa:List (List Int)} (h:aK g p aa) (rH:∀ d∈p.ah,0<=g.tail d/\g.tail d<g.n) (hd:d∈p.ah):aA g aa d∈p.ah/\g.tail (aA g aa d)=g.head d:=by
 have ht:=bD hd;have hv:=rH _ ht;have hm:=(h.mem _ hv.1 hv.2 (aH d)).2 ⟨ht,rfl⟩;have hlen:0<(ay aa (g.tail (aH d))).length:=by
  grind
 have dE:aA g aa d∈ay aa (g.tail (aH d)):=by
  unfold aA before ahead;have:=Nat.mod_lt ((ay aa (g.tail (aH d))).idxOf (aH d)+(ay aa (g.tail (aH d))).length - 1) hlen
  grind
 obtain⟨h1,h2⟩:=(h.mem _ hv.1 hv.2 _).1 dE
 grind [az]
theorem qR (hp:C.flatten.Perm D) (hf:∀ c∈C,∀ x∈c,∀ y∈c,f x=f y) (bn:∀ c∈C,c≠[]) :
  ((C.filter λc=>f (c.headD 0)).flatten).Perm (D.filter f):=by
 refine Qo.trans (Qo.of_eq ?_) (hp.filter f);clear hp
 induction C with
 | nil=>rfl
 | cons c C ih =>
  have ih:=ih (λd hd=>hf d (by simp[hd])) (λd hd=>bn d (by simp[hd]));rw[Qa (L:=C),Qz,<-ih];have hc:=hf c (by simp);have hn:=bn c (by simp);cases c with
  | nil=>exact absurd rfl hn
  | cons x l =>
   by_cases hx:f x=true
   ·rw[Qf (p:=λc:List Int=>f (c.headD 0)) (a:=x :: l) (l:=C) (show (λc:List Int=>f (c.headD 0)) (x :: l)=true from hx),Qa,(List.filter_eq_self (p:=f) (l:=x :: l)).2 (λy hy=>by rw[hc y hy x (by simp)];exact hx)]
   rw[Qg (p:=λc:List Int=>f (c.headD 0)) (a:=x :: l) (l:=C) (show ¬ (λc:List Int=>f (c.headD 0)) (x :: l)=true from hx),(QE (p:=f) (l:=x :: l)).2 (λy hy=>by rw[hc y hy x (by simp)];exact hx)];rfl
theorem lL {p:Int->Int} {f:Int->Bool} {z:Int}:∀ {l:List Int} {x:Int},Trail p x l z->(∀ y∈x :: l,f (p y)=f y)->∀ y∈x :: l,f y=f x
 | [],x,_,_,y,hy=>by simp at hy;rw[hy]
 | a :: l,x,h,hf,y,hy=>by
  have e:f a=f x:=by rw[<-h.1];exact hf x (by simp)
  rcases Qc.1 hy with rfl | hy
  ·rfl
  rw[<-e];exact lL h.2 (λu hu=>hf u (Qw _ hu)) y hy
theorem sl {c:List Int} (h:Ring p c) (hf:∀ y∈c,f (p y)=f y):∀ x∈c,∀ y∈c,f x=f y:=by
 cases c with
 | nil=>simp
 | cons a l=>exact λx hx y hy=>(lL (show Trail p a l a from h) hf x hx).trans (lL (show Trail p a l a from h) hf y hy).symm
theorem j8 {g:Gr} {p:Pt} (hC:yw g p U) (hd:d∈p.ah):g.head d∈U↔g.tail d∈U:=by
 refine⟨λh=>?_,hC d hd⟩;have h2:=hC (aH d) (bD hd) (by grind [az])
 grind [az,bg]
theorem pC {g:Gr}:∀ {W:List bP},(∀ f∈W,∀ d l,f.2=d :: l->f.1=d)->∀ U:List Int,
  (W.filter λf=>decide (f.cu g∈U)).length=(((W.filter λf=>!f.2.isEmpty).map (·.2)).filter λc=>decide (g.tail (c.headD 0)∈U)).length+((W.filter λf=>f.2.isEmpty).map (·.1)).countP λk=>decide (-1 - k∈U)
 | [],_,_=>rfl
 | (k,[]) :: W,hk,U=>by
  have ih:=pC (g:=g) (W:=W) (λf hf=>hk f (by simp[hf])) U;rw[Qg (p:=λf:bP=>!f.2.isEmpty) (by simp),Qf (p:=λf:bP=>f.2.isEmpty) (by simp),Qd,List.countP_cons];by_cases q:-1 - k∈U
  ·rw[Qf (p:=λf:bP=>decide (f.cu g∈U)) (show decide (bP.cu g (k,[])∈U)=true from decide_eq_true q),Qe,ih]
   simp only[q,decide_true,if_true];omega
  rw[Qg (p:=λf:bP=>decide (f.cu g∈U)) (QL.1 (show decide (bP.cu g (k,[])∈U)=false from decide_eq_false q)),ih];simp only[q,decide_false,if_false,Bool.false_eq_true];omega
 | (k,d :: l) :: W,hk,U=>by
  have ih:=pC (g:=g) (W:=W) (λf hf=>hk f (by simp[hf])) U;have e:k=d:=hk (k,d :: l) (by simp) d l rfl;subst e;rw[Qf (p:=λf:bP=>!f.2.isEmpty) (by simp),Qg (p:=λf:bP=>f.2.isEmpty) (by simp),Qd];by_cases q:g.tail k∈U
  ·rw[Qf (p:=λf:bP=>decide (f.cu g∈U)) (show decide (bP.cu g (k,k :: l)∈U)=true from decide_eq_true q),Qf (p:=λc:List Int=>decide (g.tail (c.headD 0)∈U)) (by simpa using q),Qe,Qe,ih]
   omega
  rw[Qg (p:=λf:bP=>decide (f.cu g∈U)) (QL.1 (show decide (bP.cu g (k,k :: l)∈U)=false from decide_eq_false q)),Qg (p:=λc:List Int=>decide (g.tail (c.headD 0)∈U)) (by simpa using q),ih]
theorem K7 {g:Gr} {p:Pt} {aa:List (List Int)} {W:List bP} (h:aK g p aa) (hp:p.e.Nodup) (hv:p.v.Nodup) (rH:∀ d∈p.ah,0<=g.tail d/\g.tail d<g.n) (hW:kE g p aa W)
  (hU:U.Nodup) (hUV:∀ v∈U,v∈p.v/\0<=v/\v<g.n) (hC:yw g p U) :
  (U.length+(p.e.filter λe=>decide (g.tail (2*e)∈U)).length+(W.filter λf=>decide (f.cu g∈U)).length) % 2=0:=by
 obtain⟨hR,hRp⟩:=kH h hp hU (λv hv=>(hUV v hv).2);have hEn:(p.e.filter λe=>decide (g.tail (2*e)∈U)).Nodup:=Qv.filter _ hp;have hA:=zr (p:=⟨U,p.e.filter λe=>decide (g.tail (2*e)∈U)⟩) hEn;have hAd:((p.e.filter λe=>decide (g.tail (2*e)∈U)).map λe=>[2*e,2*e+1]).flatten=Pt.ah ⟨U,p.e.filter λe=>decide (g.tail (2*e)∈U)⟩:=by rw[Pt.ah,List.flatMap_def]
 have hAp:Pt.ah ⟨U,p.e.filter λe=>decide (g.tail (2*e)∈U)⟩ |>.Perm (leaving g p U):=by
  refine (Qp (cV hEn) ((cV hp).filter _)).2 λd=>?_;show _↔d∈p.ah.filter λd=>decide (g.tail d∈U);rw[au];simp only[Ql,decide_eq_true_eq,au];refine and_congr_right λhd=>?_;by_cases hm:d % 2=0
  ·rw[show 2*(d / 2)=d by omega]
  have e:2*(d / 2)=aH d:=by unfold aH;rw[if_neg hm];omega
  rw[e,az];exact j8 hC (au.2 hd)
 obtain⟨C,hCr,hCp,ES⟩:=bw.mul _ rfl hR hA (by grind);have agy:C.flatten.Perm (leaving g p U):=by rw[hAd] at hCp;exact hCp.trans hAp
 -- the walks of U
 have hWr:=hW.rings;have jA:∀ c∈(W.filter λf=>!f.2.isEmpty).map (·.2),∀ x∈c,x∈p.ah:=λc hc x hx=>hW.all.mem_iff.1 (Qb.2 ⟨c,hc,hx⟩);have hconst:∀ c∈(W.filter λf=>!f.2.isEmpty).map (·.2),∀ x∈c,∀ y∈c,decide (g.tail x∈U)=decide (g.tail y∈U):=by
  intro c hc;refine sl (f:=λd=>decide (g.tail d∈U)) (hWr.ring c hc) λy hy=>?_
  grind [mG,j8]
 have bn:∀ c∈(W.filter λf=>!f.2.isEmpty).map (·.2),c≠[]:=by
  intro c hc e;have:=hWr.ring c hc;rw[e] at this;exact this
 have hWp:=qR (f:=λd=>decide (g.tail d∈U)) hW.all hconst bn;have hWU:bw (aA g aa) (((W.filter λf=>!f.2.isEmpty).map (·.2)).filter λc=>decide (g.tail (c.headD 0)∈U)) :=
  ⟨λc hc=>hWr.ring c (Ql.1 hc).1,hWp.nodup_iff.2 ((cV hp).filter _)⟩
 have ot:=bw.count hWU (hCr.congr λ_ _=>rfl) (hWp.trans agy.symm)
 -- the lone ones
 have E4:=hW.lone.countP_eq λk=>decide (-1 - k∈U);have uP:(W.filter λf=>decide (f.cu g∈U)).length=(((W.filter λf=>!f.2.isEmpty).map (·.2)).filter λc=>decide (g.tail (c.headD 0)∈U)).length+((W.filter λf=>f.2.isEmpty).map (·.1)).countP λk=>decide (-1 - k∈U):=by
  exact pC hW.key U
 have ape:((p.v.filter λv=>(ay aa v).isEmpty).map λv=>-1 - v).countP (λk=>decide (-1 - k∈U))=(U.filter λv=>(ay aa v).isEmpty).length:=by
  rw[List.countP_map,List.countP_eq_length_filter];refine Qo.length_eq ?_;refine (Qp ((hv.filter _).filter _) (hU.filter _)).2 λv=>?_
  grind
 have hUl:U.length=(busy aa U).length+(U.filter λv=>(ay aa v).isEmpty).length:=by
  unfold busy;clear hC hRp hR hAp hAd hA agy hCp ES hCr hWp hWU ot hconst uP E4 ape hEn hUV hU
  induction U with
  | nil=>rfl
  | cons v U ih =>
   grind
 grind [ct]
structure aD (g:Gr) (p:Pt):Prop where
 vn:p.v.Nodup
 en:p.e.Nodup
 vr:∀ v∈p.v,0<=v/\v<g.n
 er:∀ e∈p.e,0<=e
 ends:∀ e∈p.e,(g.at e).1∈p.v/\(g.at e).2∈p.v
theorem cr (h:x∈l):∃ i,i<l.length/\l.getD i 0=x:=by
 obtain⟨i,hi,rfl⟩:=List.getElem_of_mem h;exact⟨i,hi,by grind⟩
theorem Pt.ax {g:Gr} {p:Pt} (h:p.err g=0):aD g p:=by
 obtain⟨h1,h2,h3,h4⟩:=Pt.aF h;refine⟨lS h2,lS h3,λv hv=>?_,λe he=>?_,λe he=>?_⟩
 ·obtain⟨i,hi,rfl⟩:=cr hv
  have:=cG h2 hi
  grind
 ·obtain⟨i,hi,rfl⟩:=cr he
  exact (cG h3 hi).1
 obtain⟨i,hi,rfl⟩:=cr he;exact h4 i hi
theorem aD.aP {g:Gr} {p:Pt} (h:aD g p) (hd:d∈p.ah):g.tail d∈p.v/\g.head d∈p.v:=by
 have:=h.ends _ (au.1 hd)
 all_goals grind [Gr.tail,Gr.head]
theorem fW {g:Gr} {p:Pt} (hd:d∈p.ah):om g p (g.tail d) (g.head d):=by
 refine⟨d / 2,au.1 hd,?_⟩
 all_goals grind [Gr.tail,Gr.head]
theorem pQ {g:Gr} {p:Pt} (h:aD g p) (a:Int):yw g p (comp g p a):=by
 intro d hd ht;obtain⟨_,h2⟩:=eQ.1 ht;have hh:=(h.aP hd).2;exact eQ.2 ⟨hh,h2.step (fW hd) (by have:=h.vr _ hh;omega)⟩
theorem yk {g:Gr} {p:Pt} (h:aD g p) (a:Int):(comp g p a).Nodup:=by
 classical
 exact Qv.filter _ h.vn
theorem wh {g:Gr} {p:Pt} (h:aD g p):(roots g p).Nodup:=by
 classical
 exact Qv.filter _ h.vn
theorem dP (g:Gr) (e:Int):g.tail (2*e)=(g.at e).1/\g.head (2*e)=(g.at e).2:=by
 grind [Gr.tail,Gr.head]
theorem O6 {g:Gr} {p:Pt} (h:aD g p) (a:Int):(p.sub g (comp g p a)).e=p.e.filter λe=>decide (g.tail (2*e)∈comp g p a):=by
 unfold Pt.sub;refine QM λe he=>?_
 all_goals grind [au,dP,j8,pQ,comp]
theorem CS {g:Gr} {p:Pt} (a:Int):(p.sub g (comp g p a)).v.length=(comp g p a).length:=by
 unfold Pt.sub
 classical
 have:p.v.filter (λv=>decide (v∈comp g p a))=comp g p a:=by
  unfold comp;refine QM λv hv=>?_;simp[hv]
 rw[this]
theorem x6 {g:Gr} {p:Pt} {aa:List (List Int)} {W:List bP} (h:aD g p) (hW:kE g p aa W):∀ f∈W,f.cu g∈p.v:=by
 intro f hf;obtain⟨k,l⟩:=f;cases l with
 | nil =>
  have:k∈(W.filter λf=>f.2.isEmpty).map (·.1):=Qh.2 ⟨(k,[]),Ql.2 ⟨hf,rfl⟩,rfl⟩;obtain⟨v,hv,e⟩:=Qh.1 (hW.lone.mem_iff.1 this);show -1 - k∈p.v
  grind
 | cons d l =>
  have e:k=d:=hW.key (k,d :: l) hf d l rfl;subst e;have:k∈p.ah:=hW.all.mem_iff.1 (Qb.2 ⟨k :: l,Qh.2 ⟨(k,k :: l),Ql.2 ⟨hf,rfl⟩,rfl⟩,by simp⟩);exact (h.aP this).1
noncomputable def dC (g:Gr) (p:Pt) (W:List bP) (r:Int):Int :=
 (2 - ((comp g p r).length:Int)+((p.e.filter λe=>decide (g.tail (2*e)∈comp g p r)).length:Int) - ((W.filter λf=>decide (f.cu g∈comp g p r)).length:Int)).tdiv 2
theorem ID {g:Gr} {p:Pt} {aa:List (List Int)} {W:List bP} (h:aD g p) (ht:aK g p aa) (hW:kE g p aa W) (hz:dC g p W r=0) :
  (comp g p r).length+(W.filter λf=>decide (f.cu g∈comp g p r)).length=2+(p.e.filter λe=>decide (g.tail (2*e)∈comp g p r)).length:=by
 have qB:=K7 ht h.en h.vn (λd hd=>h.vr _ (h.aP hd).1) hW (yk h r) (λv hv=>⟨(eQ.1 hv).1,h.vr _ (eQ.1 hv).1⟩) (pQ h r)
 grind [dC,comp,bP.cu]
theorem kN {α:Type} {g:Gr} {p:Pt} (h:aD g p) (f:α->Int) (L:List α) (hf:∀ x∈L,f x∈p.v):((roots g p).map λr=>(L.filter λx=>decide (f x∈comp g p r)).length).sum=L.length:=by
 refine xd (λx r=>decide (f x∈comp g p r)) (wh h) λx hx=>⟨?_,λr hr s hs h1 h2=>?_⟩
 ·obtain⟨r,hr,hc⟩:=DL (g:=g) (λv hv=>(h.vr v hv).1) (hf x hx)
  grind [eQ]
 exact zf (λv hv=>(h.vr v hv).1) hr hs (eQ.1 (of_decide_eq_true h1)).2 (eQ.1 (of_decide_eq_true h2)).2
theorem Co {α:Type} {f g:α->Nat}:∀ {R:List α},(∀ r∈R,f r=g r)->(R.map f).sum=(R.map g).sum
 | [],_=>rfl
 | a :: R,h=>by rw[Qd,Qd,Qt,Qt,h a (by simp),Co λr hr=>h r (by simp[hr])]
theorem BD (c:Nat) {α:Type}:∀ R:List α,(R.map λ_=>c).sum=c*R.length
 | []=>rfl
 | a :: R=>by rw[Qd,Qt,BD c R,Qe,Nat.mul_succ];omega
theorem tZ {g:Gr} {p:Pt} {aa:List (List Int)} {W:List bP} (h:aD g p) (ht:aK g p aa) (hW:kE g p aa W) (hz:∀ r∈roots g p,dC g p W r=0) :
  p.v.length+W.length=2*(roots g p).length+p.e.length:=by
 have e1:=kN h (λv=>v) p.v (λ_ hv=>hv);have e2:=kN h (λe=>g.tail (2*e)) p.e (λe he=>(h.aP (au.2 (by rwa[show 2*e / 2=e by omega]))).1);have e3:=kN h (λf:bP=>f.cu g) W (x6 h hW);have e0:(roots g p).map (λr=>(p.v.filter λv=>decide (v∈comp g p r)).length)=(roots g p).map λr=>(comp g p r).length:=Qs λr _=>CS r;have e4:=Co (R:=roots g p) (f:=λr=>(comp g p r).length+(W.filter λf=>decide (f.cu g∈comp g p r)).length) (g:=λr=>2+(p.e.filter λe=>decide (g.tail (2*e)∈comp g p r)).length) (λr hr=>ID h ht hW (hz r hr))
 grind [sum_add,BD]
end Go.Proofs.YtoiflofhcmjpoaaGreat.Plain
namespace Go.Proofs.YtoiflofhcmjpoaaGreat
open Go.RowKit Go.Maps
variable {nh:List Nat} {a w w':World} {b B k n bytes i:Nat} {p:Addr} {v z:Value} {o:Obj} {cs:Array Value} {r:Nat × Nat} {x y:Int} {f:Int->Option Int} {l:List Int} {α:Type}
structure ai (own:List Nat) (w w':World):Prop where
 os:w'.os=w.os
 tape:w'.tape=w.tape
 output:w'.output=w.output
 size:w.heap.size<=w'.heap.size
 block:∀ k,k<w.heap.size->k ∉ own->w'.heap[k]?=w.heap[k]?
theorem ai.refl (own:List Nat) (w:World):ai own w w:=⟨rfl,rfl,rfl,Nat.le_refl _,λ_ _ _=>rfl⟩
theorem ai.trans {own:List Nat} {b c:World} (h:ai own a b) (k:ai nh b c) (hs:∀ j∈nh,j∈own\/a.heap.size<=j):ai own a c :=
 ⟨k.os.trans h.os,k.tape.trans h.tape,k.output.trans h.output,QJ h.size k.size,λi hi hn =>
  (k.block i (Nat.lt_of_lt_of_le hi h.size) (λe=>by rcases hs i e with h1 | h1;exact hn h1;omega)).trans (h.block i hi hn)⟩
theorem ai.mono {own:List Nat} {b:World} (h:ai own a b) (hs:∀ j∈own,j∈nh\/a.heap.size<=j):ai nh a b :=
 ⟨h.os,h.tape,h.output,h.size,λi hi hn=>h.block i hi (λe=>by rcases hs i e with h1 | h1;exact hn h1;omega)⟩
theorem ai.drew {own:List Nat} (h:ai own a w):ai own a w.drew:=⟨h.os,h.tape,h.output,h.size,h.block⟩
theorem ai.alloc {own:List Nat} (h:ai own a w) (o:Obj):ai own a (w.alloc o) :=
 h.trans (nh:=[]) ⟨rfl,rfl,rfl,by simp,λk hk _=>Below.heap_alloc _ _ _ hk⟩ (by simp)
theorem ai.setCell {own:List Nat} (h:ai own a w) (hp:p.block∈own\/a.heap.size<=p.block) (u:Value):ai own a (w.setCell p u) :=
 h.trans (nh:=[p.block]) ⟨rfl,rfl,rfl,by simp[World.setCell],λk _ hn=>Below.heap_setCell _ _ _ _ (by simpa using hn)⟩ (by simpa using hp)
theorem ai.grown {own:List Nat} {row:Option Nat} (h:ai own a w) (hg:w.grownBy w' row) (hr:∀ k,row=some k->k∈own\/a.heap.size<=k):ai own a w' :=
 h.trans (nh:=row.toList) ⟨hg.os,hg.tape,hg.output,hg.size,λk hk hn=>hg.block k hk (λe=>hn (by simp[<-e]))⟩ (λj hj=>hr j (by simpa using hj))
theorem ai.below (h:ai [] a w):Below a.heap.size a w:=⟨h.os,h.tape,h.output,h.size,λk hk=>h.block k hk (by simp)⟩
theorem ai.grownBy {own:List Nat} (h:ai own a w) {row:Option Nat} (hr:∀ k∈own,some k=row):a.grownBy w row :=
 ⟨h.os,h.tape,h.output,h.size,λk hk hn=>h.block k hk (λe=>hn (hr k e))⟩
theorem ai.tE (h:Below B a w) (hB:a.heap.size<=B):ai [] a w:=⟨h.os,h.tape,h.output,h.size,λk hk _=>h.block k (by omega)⟩
theorem ai.cell {own:List Nat} (h:ai own a w) (hc:a.cell? p=some v) (hn:p.block ∉ own):w.cell? p=some v :=
 (World.cell?_of_block (w:=a) (h.block p.block (QD a p hc) hn)).trans hc
theorem ai.frozen {own:List Nat} (h:ai own a w) (hc:a.cell? p=some v) (hf:a.frozen? p=false) (hn:p.block ∉ own):w.frozen? p=false :=
 (World.frozen?_of_block (w:=a) (h.block p.block (QD a p hc) hn)).trans hf
theorem fO (h:w.cell? p=some v) (o:Obj):(w.alloc o).cell? p=some v:=((ai.refl [] w).alloc o).cell h (by simp)
theorem Rp (x:Int):∀ u∈(#[Value.int .i64 x]).toList,u.oneCell'=true:=by intro u hu;simp at hu;subst hu;rfl
theorem zi (a:Option Addr) (n c:Nat):∀ u∈(#[Value.slice a n c]).toList,u.oneCell'=true:=by intro u hu;simp at hu;subst hu;rfl
theorem ai.heap {own:List Nat} (h:ai own a w) (hc:a.heap[k]?=some o) (hn:k ∉ own):w.heap[k]?=some o :=
 (h.block k (lt_of_block hc) hn).trans hc
theorem ai.tr {own:List Nat} {b c:World} (h:ai own a b) (k:ai [] b c):ai own a c:=h.trans k (by simp)
theorem ai.bO (h:ai [] a w) (hc:a.cell? p=some v):w.cell? p=some v:=h.cell hc (by simp)
theorem ai.hp (h:ai [] a w) (hc:a.heap[k]?=some o):w.heap[k]?=some o:=h.heap hc (by simp)
theorem heap_setCell_same {t:TypeId} (h:w.heap[b]?=some (.cells cs t r)) (i:Nat) (u:Value):(w.setCell ⟨b,i,none⟩ u).heap[b]?=some (.cells (cs.setIfInBounds i u) t r):=by
 have aW:=lt_of_block h;have h':w.heap[b]=.cells cs t r:=by simpa[Array.getElem?_eq_getElem aW] using h
 show (w.heap.modify b _)[b]?=_
 grind
theorem aM {a b:Bool} (h:a=b):Ending.returned (.bool a)=.returned (.bool b):=by rw[h]
theorem aR {a b:Int} (h:a=b):Ending.returned (.int .i64 a)=.returned (.int .i64 b):=by rw[h]
theorem four {a0 a1 a2 a3:Value} {t:TypeId} (h:w.heap[b]?=some (.cells #[a0,a1,a2,a3] t (0,0))) :
  w.cell? ⟨b,0,none⟩=some a0/\w.cell? ⟨b,1,none⟩=some a1/\w.cell? ⟨b,2,none⟩=some a2/\w.cell? ⟨b,3,none⟩=some a3/\w.frozen? ⟨b,1,none⟩=false/\w.frozen? ⟨b,2,none⟩=false/\w.frozen? ⟨b,3,none⟩=false:=by
 simp[World.cell?,World.frozen?,h]
theorem dX:Keyed Tryz.prog 3:=int_keyed Tryz.underlying3
theorem xG (w:World):(zeroValue 3).run Tryz.prog w=.ok (.int .i64 0) w:=by kernel_rfl
def bF (x:Int):Prop:=(Lit.int .i64 x).wf=true
theorem bF.mk (h1:-9223372036854775808<=x) (h2:x<=9223372036854775807):bF x:=WalkArith.wf_i64 (by omega)
def dx (w:World) (b n:Nat) (f:Int->Option Int):Prop :=
 ∃ D:DataW Unit,w.ownsMap Tryz.prog 3 (plainElem Tryz.prog 3) b n D /\
  ∀ x,bF x->Maps.has D (.int .i64 x)=(f x).isSome/\D.atKey (.int .i64 x) (.lit (.int .i64 0))=.lit (.int .i64 ((f x).getD 0))
theorem dx.made (w:World):dx (w.alloc (.map #[] 0)) w.heap.size 0 (λ_=>none) :=
 ⟨.map [],World.ownsMap_made _ _ _ _,λ_ _=>⟨rfl,rfl⟩⟩
theorem dx.lt (h:dx w b n f):b<w.heap.size:=by obtain⟨D,h,_⟩:=h;exact h.lt
theorem dx.mono {n':Nat} (h:dx w b n f) (hn:n<=n'):dx w b n' f:=by obtain⟨D,h,g⟩:=h;exact⟨D,h.mono hn,g⟩
theorem dx.aL {own:List Nat} (h:dx w b n f) (hc:ai own w w') (hb:b ∉ own):dx w' b n f:=by
 obtain⟨D,⟨es,clock,he,r⟩,g⟩:=h;exact⟨D,⟨es,clock,hc.heap he hb,r⟩,g⟩
theorem dx.kept {row:Option Nat} (h:dx w b n f) (hc:w.grownBy w' row) (hb:some b≠row):dx w' b n f:=by
 obtain⟨D,h,g⟩:=h;exact⟨D,h.kept hc hb,g⟩
theorem dx.alloc (h:dx w b n f) (o:Obj):dx (w.alloc o) b n f:=h.kept (World.grownBy_alloc w o none) (by simp)
theorem dx.ne (h:dx w b n f) {t:TypeId} (hk:w.heap[k]?=some (.cells cs t r)):k≠b:=by
 obtain⟨D,⟨es,clock,he,_⟩,_⟩:=h
 grind
theorem zA (h:x≠y):(Lit.int .i64 x)≠.int .i64 y:=by grind
section
variable {b n:Nat} {f:Int->Option Int} {k v:Int}
variable (w : World) {ops : Array Oper} {rest : List Oper} {o : Oper} {a : Act} {Q : Exit -> Act -> World -> Prop}
theorem jX (hg:o.guard=none) (m x:Operand) (sH:o.op=Op.lookup 124 m x true) (h:dx w b n f) (hm:a.eval m=.map (some b))
  (hk:bF k) (hx:a.eval x=.int .i64 k) (hf:Hid (f k=some v)) (hK:wpList Tryz.prog ops Q rest (a.put o.dst (.tuple #[.int .i64 v,.bool true])) w):wpList Tryz.prog ops Q (o :: rest) a w:=by
 obtain⟨D,b9,hv⟩:=h;refine wpList_lookup_own_ok_int w hg m x _ sH _ _ .i64 dX Tryz.underlying124 Tryz.underlying3 (xG _) b n D hm b9 _ _ hx (keyOf_int_mk Tryz.underlying3 hk) (λc eJ _=>?_);obtain⟨h1,h2⟩:=hv k hk;rw[hf.out] at h1 h2
 grind
theorem fP (hg:o.guard=none) (m x:Operand) (sH:o.op=Op.lookup 124 m x true) (h:dx w b n f) (hm:a.eval m=.map (some b))
  (hk:bF k) (hx:a.eval x=.int .i64 k) (hf:Hid (f k=none)) (hK:wpList Tryz.prog ops Q rest (a.put o.dst (.tuple #[.int .i64 0,.bool false])) w):wpList Tryz.prog ops Q (o :: rest) a w:=by
 obtain⟨D,b9,hv⟩:=h;refine wpList_lookup_own_ok_int w hg m x _ sH _ _ .i64 dX Tryz.underlying124 Tryz.underlying3 (xG _) b n D hm b9 _ _ hx (keyOf_int_mk Tryz.underlying3 hk) (λc eJ _=>?_);obtain⟨h1,h2⟩:=hv k hk;rw[hf.out] at h1 h2
 grind
theorem xV (hg:o.guard=none) (m x:Operand) (sH:o.op=Op.lookup 124 m x false) (h:dx w b n f) (hm:a.eval m=.map (some b))
  (hk:bF k) (hx:a.eval x=.int .i64 k) (hf:Hid ((f k).getD 0=v)) (hK:wpList Tryz.prog ops Q rest (a.put o.dst (.int .i64 v)) w):wpList Tryz.prog ops Q (o :: rest) a w:=by
 obtain⟨D,b9,hv⟩:=h;refine wpList_lookup_own_int w hg m x _ sH _ _ .i64 dX Tryz.underlying124 Tryz.underlying3 (xG _) b n D hm b9 _ _ hx (keyOf_int_mk Tryz.underlying3 hk) (λc eJ _=>?_);obtain⟨h1,h2⟩:=hv k hk;rw[h2,hf.out] at eJ
 grind
theorem ph (hg:o.guard=none) (m x u:Operand) (sH:o.op=Op.mapUpdate 124 m x u) (h:dx w b n f) (hn:n<maxLen) (hm:a.eval m=.map (some b))
  (hk:bF k) (hv:bF v) (hx:a.eval x=.int .i64 k) (hu:a.eval u=.int .i64 v)
  (hK:∀ w',dx w' b (n+1) (λy=>if y=k then some v else f y)->w.grownBy w' (some b)->wpList Tryz.prog ops Q rest (a.put o.dst undef) w'):wpList Tryz.prog ops Q (o :: rest) a w:=by
 obtain⟨D,b9,hD⟩:=h;refine wpList_mapUpdate_own w hg m x u _ sH _ _ dX Tryz.underlying124 _ b n D hm b9 hn _ _ _ hx hu (keyOf_int_mk Tryz.underlying3 hk) _ [] (plainElem_int Tryz.underlying3 hv) (λw' h1 h2=>hK w' ⟨_,h1,λy hy=>?_⟩ h2);by_cases e:y=k
 ·subst e
  have rI:=dX.key (keyOf_int_mk Tryz.underlying3 hk);rw[has_put_same b9.isMap rI,atKey_put_same b9.isMap rI];simp
 rw[has_put_other (zA e),atKey_put_other (zA e)]
 grind
end
def aI (w:World) (v:Value) (l:List Int):Prop :=
 ∃ ao cap,v=.slice ao l.length cap/\(∀ x∈l,bF x)/\l.length<=9223372036854775807/\(l≠[]->∃ b off,ao=some ⟨b,off,none⟩/\∀ i,i<l.length->w.cell? ⟨b,off+i,none⟩=some (.int .i64 (l.getD i 0)))
theorem aI.nil (w:World):aI w (.slice none 0 0) []:=⟨none,0,rfl,by simp,by simp,by simp⟩
theorem aI.aL {own:List Nat} (h:aI w v l) (hc:ai own w w') (hn:∀ b n c,v=.slice (some b) n c->b.block ∉ own):aI w' v l:=by
 obtain⟨ao,cap,rfl,h1,h2,h3⟩:=h;refine⟨ao,cap,rfl,h1,h2,λhl=>?_⟩;obtain⟨b,off,rfl,h4⟩:=h3 hl;exact⟨b,off,rfl,λi hi=>hc.cell (h4 i hi) (show b ∉ own from hn ⟨b,off,none⟩ _ _ rfl)⟩
theorem aI.fresh (h:aI w v l) (hc:ai [] w w'):aI w' v l:=h.aL hc (by simp)
structure qg (t e:TypeId) (z:Value) (size bytes:Nat):Prop where
 ht:Tryz.prog.underlying t=some (.slice e)
 hi:(Tryz.prog.info? e).map (λi=>(i.zero,i.size,i.bytes))=some (some z,size,bytes)
 hz:z.cells.size=size
 h0:0<size
 hb:bytes<=1024
theorem cM:qg 25 3 (.int .i64 0) 1 8:=⟨Tryz.underlying25,by kernel_rfl,rfl,by decide,by decide⟩
theorem qq:qg 48 25 (.slice none 0 0) 1 24:=⟨Tryz.underlying48,by kernel_rfl,rfl,by decide,by decide⟩
theorem qy {t e:TypeId} {size:Nat} (E:qg t e z size bytes) {w0:World} {xs:List Value} (b9:w0.ownsRow B e size v n xs) (hB:B<=w0.heap.size) (ja:cs.size=size) (h1:∀ u∈cs.toList,u.oneCell'=true) (hn:n<68719476736)
  (hw:w=w0.alloc (.cells cs e)\/w=(w0.alloc (.cells cs e)).drew) (ty:TypeId) :
  ∃ g cap w',(Builtin.append_ #[t,t] ty #[v,.slice (some ⟨w0.heap.size,0,none⟩) 1 1]).run Tryz.prog w=.ok (.slice (some ⟨g,0,none⟩) (n+1) cap) w' /\
   w'.ownsRow B e size (.slice (some ⟨g,0,none⟩) (n+1) cap) (n+1) (xs++cs.toList)/\ai v.ownBlock.toList w0 w'/\(v.ownBlock=some g\/w0.heap.size<=g):=by
 have aeY:w.ownsRow B e size v n xs:=by rcases hw with rfl | rfl;exact b9.alloc _;exact b9.alloc _
 have ij:ai [] w0 w:=by rcases hw with rfl | rfl;exact (ai.refl _ _).alloc _;exact ((ai.refl _ _).alloc _).drew
 have bs:w.heap.size=w0.heap.size+1:=by rcases hw with rfl | rfl <;> simp[World.drew]
 have vR:∀ j u,cs.toList[j]?=some u->w.cell? ((⟨w0.heap.size,0,none⟩:Addr).add j)=some u:=by
  intro j u hu;have mC:(⟨w0.heap.size,0,none⟩:Addr).add j=⟨w0.heap.size,j,none⟩:=by unfold Addr.add;split <;> simp_all
  have hblk:w.heap[w0.heap.size]?=some (.cells cs e (0,0)):=by rcases hw with rfl | rfl <;> exact heap_alloc_new _ _
  rw[mC,cell_of_row w _ j cs e (0,0) hblk];simpa using hu
 obtain⟨i0,hi,Er,kA,uC⟩:=info_parts E.hi;have hb:=E.hb;obtain⟨v',w',hr,h2,h3,h4,h5⟩:=run_append_own_at (P:=Tryz.prog) w B t ty e i0 z size bytes E.ht hi Er kA uC E.hz E.h0 v n xs aeY ⟨w0.heap.size,0,none⟩ 1 1 cs.toList (by grind) vR h1 (by unfold maxLen;omega) (QJ (Nat.mul_le_mul_left _ hb) (by omega)) (by omega);obtain⟨g,cap,rfl⟩:∃ g cap,v'=.slice (some ⟨g,0,none⟩) (n+1) cap:=by
  rcases h2.2 with ⟨_,e⟩ | ⟨g,cap,_,rfl,_⟩
  all_goals grind
 refine⟨g,cap,w',hr,h2,(ij.mono (by simp)).grown h3 (λj hj=>QG (by grind)),?_⟩;rcases h5 with h4 | h4
 ·exact QG h4.symm
 simp only[Value.ownBlock,Option.some.injEq] at h4
 grind
section
variable {e:TypeId} {z v:Value} {bytes B n m:Nat} {xs:List Value} {cs:Array Value} {w:World}
variable {ops : Array Oper} {rest : List Oper} {o : Oper} {a : Act} {Q : Exit -> Act -> World -> Prop}
theorem pj {t:TypeId} {size:Nat} (E:qg t e z size bytes) {w0:World} (hg:o.guard=none) (s x:Operand) (ho:o.op=.call { callee:=.builtin .append,args:=#[s,x],argTypes:=#[t,t] })
  (hs:a.eval s=v) (hx:a.eval x=.slice (some ⟨m,0,none⟩) 1 1) (hm:m=w0.heap.size) (b9:w0.ownsRow B e size v n xs) (hB:B<=w0.heap.size) (ja:cs.size=size) (h1:∀ u∈cs.toList,u.oneCell'=true) (hn:n<68719476736)
  (hK:∀ g cap w',w'.ownsRow B e size (.slice (some ⟨g,0,none⟩) (n+1) cap) (n+1) (xs++cs.toList)->ai v.ownBlock.toList w0 w'->(v.ownBlock=some g\/w0.heap.size<=g) ->
   wpList Tryz.prog ops Q rest (a.put o.dst (.slice (some ⟨g,0,none⟩) (n+1) cap)) w'):wpList Tryz.prog ops Q (o :: rest) a (w0.alloc (.cells cs e)):=by
 subst hm;refine wpList_plain hg λK Bm=>?_;obtain⟨g,cap,w',hr,r1,r2,r3⟩:=qy E b9 hB ja h1 hn (QG rfl) o.type;unfold Oper.wp execOp;simp only[ho,resolve,invoke,builtin,Sem.run_bind,Sem.run_pure,Result.andThen_ok,QQ,Qd,QV,hs,hx,hr];exact Bm _ _ (hK g cap w' r1 r2 r3)
theorem SB {t:TypeId} {size:Nat} (E:qg t e z size bytes) {w0:World} {K:Act->World->Prop} {F:Prop} (hg:o.guard=none) (s x:Operand) (ho:o.op=.call { callee:=.builtin .append,args:=#[s,x],argTypes:=#[t,t] })
  (hs:a.eval s=v) (hx:a.eval x=.slice (some ⟨m,0,none⟩) 1 1) (hm:m=w0.heap.size) (b9:w0.ownsRow B e size v n xs) (hB:B<=w0.heap.size) (ja:cs.size=size) (h1:∀ u∈cs.toList,u.oneCell'=true) (hn:n<68719476736)
  (hw:w=w0.alloc (.cells cs e)\/w=(w0.alloc (.cells cs e)).drew)
  (hK:∀ g cap w',w'.ownsRow B e size (.slice (some ⟨g,0,none⟩) (n+1) cap) (n+1) (xs++cs.toList)->ai v.ownBlock.toList w0 w'->(v.ownBlock=some g\/w0.heap.size<=g) ->
   K (a.put o.dst (.slice (some ⟨g,0,none⟩) (n+1) cap)) w'):if Region.wanted o (yielded ops a.tmps)=true then Oper.wp Tryz.prog o a w K Q else F:=by
 subst hm;have hw':Region.wanted o (yielded ops a.tmps)=true:=by simp[Region.wanted,hg]
 rw[if_pos hw'];obtain⟨g,cap,w',hr,r1,r2,r3⟩:=qy E b9 hB ja h1 hn hw o.type;unfold Oper.wp execOp;simp only[ho,resolve,invoke,builtin,Sem.run_bind,Sem.run_pure,Result.andThen_ok,QQ,Qd,QV,hs,hx,hr];exact hK g cap w' r1 r2 r3
theorem zE {w0:World} (hg:o.guard=none) (s x:Operand) (ho:o.op=.call { callee:=.builtin .append,args:=#[s,x],argTypes:=#[25,25] })
  {k:Int} (hs:a.eval s=v) (hx:a.eval x=.slice (some ⟨m,0,none⟩) 1 1) (hm:m=w0.heap.size) (b9:w0.ownsRow B 3 1 v n xs) (hB:B<=w0.heap.size) (hn:n<68719476736)
  (hK:∀ g cap w',w'.ownsRow B 3 1 (.slice (some ⟨g,0,none⟩) (n+1) cap) (n+1) (xs++[.int .i64 k])->ai v.ownBlock.toList w0 w'->(v.ownBlock=some g\/w0.heap.size<=g) ->
   wpList Tryz.prog ops Q rest (a.put o.dst (.slice (some ⟨g,0,none⟩) (n+1) cap)) w'):wpList Tryz.prog ops Q (o :: rest) a (w0.alloc (.cells #[.int .i64 k] 3)) :=
 pj cM hg s x ho hs hx hm b9 hB rfl (by intro u hu;simp at hu;subst hu;rfl) hn hK
theorem Ee {t:TypeId} {size:Nat} (E:qg t e z size bytes) (hg:o.guard=none) (l c:Operand) (sH:o.op=Op.makeSlice t l c) (hl:a.eval l=.int .i64 n) (hc:a.eval c=.int .i64 n) (hB:B<=w.heap.size) (hn:n<68719476736)
  (hK:∀ w',w'.ownsRow B e size (.slice (some ⟨w.heap.size,0,none⟩) n n) n (madeCells z.cells (n*size)).toList->ai [] w w'->wpList Tryz.prog ops Q rest (a.put o.dst (.slice (some ⟨w.heap.size,0,none⟩) n n)) w') :
  wpList Tryz.prog ops Q (o :: rest) a w:=by
 obtain⟨i0,hi,Er,kA,uC⟩:=info_parts E.hi;have hb:=E.hb;refine wpList_make_full w hg l c t sH B e i0 z size E.ht hi Er kA .i64 .i64 _ _ n hl hc rfl rfl ?_ (by unfold maxLen;omega) hB (λw' h1 h2=>hK w' h1 ((ai.refl _ _).grown h2 (by simp)));rw[uC];exact QJ (Nat.mul_le_mul_right _ hb) (by omega)
end
theorem Z1 {xs:List α} (h:i<xs.toArray.size):xs.toArray[i]'h=xs[i]'(by simpa using h):=rfl
theorem Z2 {a:α} {xs:List α} {h:0<(a :: xs).length}:(a :: xs)[0]'h=a:=rfl
theorem Z3 {a:α} {xs:List α} {h:i+1<(a :: xs).length}:(a :: xs)[i+1]'h=xs[i]'(Nat.lt_of_succ_lt_succ h):=rfl
theorem Z4 {l:List α} {a:α}:l.toArray.setIfInBounds i a=(l.set i a).toArray:=List.setIfInBounds_toArray ..
theorem Z5 {x:α} {xs:List α} {a:α}:(x :: xs).set 0 a=a :: xs:=rfl
theorem lh {p:Prop} (h:p):RowKit.Hid p:=h
theorem Z6 {x:α} {xs:List α} {a:α}:(x :: xs).set (n+1) a=x :: xs.set n a:=rfl
def cA (w:World) (v:Value) (g:Plain.Gr):Prop :=
 ∃ eo cap,v=.agg #[.int .i64 g.n,.slice eo g.e.length cap]/\bF g.n/\g.e.length<=9223372036854775807 /\
  (∀ i,i<g.e.length->bF (g.ends i).1/\bF (g.ends i).2) /\
  (∀ i,i<g.e.length->∃ b off,eo=some ⟨b,off,none⟩/\w.cell? ⟨b,off+i*2,none⟩=some (.int .i64 (g.ends i).1)/\w.cell? ⟨b,off+i*2+1,none⟩=some (.int .i64 (g.ends i).2))
def dt (w:World) (v:Value) (p:Plain.Pt):Prop:=∃ v1 v2,v=.agg #[v1,v2]/\aI w v1 p.v/\aI w v2 p.e
def rE (v:Value):Prop:=∃ ao n cap,v=.slice ao n cap/\n<=cap/\cap<=9223372036854775807
def fY (w:World) (v:Value) (ll:List (List Int)):Prop :=
 ∃ ao cap,v=.slice ao ll.length cap/\ll.length<=9223372036854775807 /\
  ∀ i,i<ll.length->∃ b off u,ao=some ⟨b,off,none⟩/\w.cell? ⟨b,off+i,none⟩=some u/\rE u/\aI w u (ll.getD i [])
theorem cA.fresh {g:Plain.Gr} (h:cA w v g) (hc:ai [] w w'):cA w' v g:=by
 obtain⟨eo,cap,e,h1,h2,h3,h4⟩:=h;refine⟨eo,cap,e,h1,h2,h3,λi hi=>?_⟩;obtain⟨b,off,e1,c1,c2⟩:=h4 i hi;exact⟨b,off,e1,hc.cell c1 (by simp),hc.cell c2 (by simp)⟩
theorem dt.fresh {p:Plain.Pt} (h:dt w v p) (hc:ai [] w w'):dt w' v p:=by
 obtain⟨v1,v2,e,h1,h2⟩:=h;exact⟨v1,v2,e,h1.fresh hc,h2.fresh hc⟩
theorem fY.fresh {ll:List (List Int)} (h:fY w v ll) (hc:ai [] w w'):fY w' v ll:=by
 obtain⟨ao,cap,e,h1,h2⟩:=h;refine⟨ao,cap,e,h1,λi hi=>?_⟩;obtain⟨b,off,u,e1,c1,c2,c3⟩:=h2 i hi;exact⟨b,off,u,e1,hc.cell c1 (by simp),c2,c3.fresh hc⟩
end Go.Proofs.YtoiflofhcmjpoaaGreat
namespace Go.Proofs.YtoiflofhcmjpoaaGreat
variable {l:List Int} {x:Int} {dY o o':List Nat} {i j k h:Nat} {a b w:World}
structure St where
 all:List Int
 dY:List Nat
def pos (l:List Int) (x:Int):Option Int:=if x∈l then some ((l.idxOf x:Nat):Int) else none
theorem Tx (h:x∈l):pos l x=some ((l.idxOf x:Nat):Int):=if_pos h
theorem S9 (h:x ∉ l):pos l x=none:=if_neg h
theorem SN (h:x ∉ l):(λy=>if y=x then some ((l.length:Nat):Int) else pos l y)=pos (l++[x]):=by
 all_goals grind [pos]
def St.put (s:St) (x:Int):St:=if x∈s.all then s else ⟨s.all++[x],s.dY++[s.all.length]⟩
def St.count (s:St):Nat:=(Qk s.dY.length).countP λi=>s.dY.getD i 0==i
def St.hd (s:St) (i:Nat):Nat:=s.dY.getD i 0
def Up (up dY:List Nat):Prop:=up.length=dY.length/\∀ i,i<up.length->up.getD i 0<=i/\dY.getD i 0=if up.getD i 0=i then i else dY.getD (up.getD i 0) 0
theorem Up.le {up:List Nat} (h:Up up dY):∀ i,i<up.length->dY.getD i 0<=i/\up.getD (dY.getD i 0) 0=dY.getD i 0:=by
 intro i
 induction i using Nat.strongRecOn with
 | _ i ih =>
  intro hi;obtain⟨h1,h2⟩:=h.2 i hi
  all_goals grind
theorem Up.fix {up:List Nat} (h:Up up dY) (hi:i<up.length) (e:up.getD i 0=i):dY.getD i 0=i:=by
 have:=(h.2 i hi).2
 grind
theorem Up.own {up:List Nat} (h:Up up dY) (hi:i<up.length):dY.getD (dY.getD i 0) 0=dY.getD i 0:=by
 grind [Up.le,Up.fix]
theorem Up.next {up:List Nat} (h:Up up dY) (hi:i<up.length):dY.getD (up.getD i 0) 0=dY.getD i 0:=by
 have:=(h.2 i hi).2
 all_goals grind
theorem x8 (l:List Nat) (i v j:Nat) (hi:i<l.length):(l.set i v).getD j 0=if j=i then v else l.getD j 0:=by
 all_goals grind
theorem Up.aey {up:List Nat} (h:Up up dY) (hi:i<up.length) (e:up.getD i 0≠i):Up (up.set i (up.getD (up.getD i 0) 0)) dY:=by
 have h1:=(h.2 i hi).1;have h2:=(h.2 (up.getD i 0) (by omega)).1;refine⟨by simpa using h.1,λj hj=>?_⟩;rw[x8 _ _ _ _ hi];by_cases ej:j=i
 ·subst ej
  simp only[if_true];rw[if_neg (by omega),h.next (by omega),h.next hi]
  grind
 rw[if_neg ej];exact h.2 j (by grind)
theorem Up.put {up:List Nat} (h:Up up dY):Up (up++[up.length]) (dY++[dY.length]):=by
 refine⟨by simp[h.1],λi hi=>?_⟩;by_cases e:i=up.length
 ·subst e
  simp[h.1]
 have H8:i<up.length:=by simp at hi;omega
 have h1:=h.2 i H8;have e1:(up++[up.length]).getD i 0=up.getD i 0:=by simp only[QH];rw[Qr H8]
 have e2:(dY++[dY.length]).getD i 0=dY.getD i 0:=by have:=h.1;simp only[QH];rw[Qr (by omega)]
 have e3:(dY++[dY.length]).getD (up.getD i 0) 0=dY.getD (up.getD i 0) 0:=by have:=h.1;simp only[QH];rw[Qr (by simpa[QH] using (by omega:up.getD i 0<dY.length))]
 grind
def relabel (dY:List Nat) (i j:Nat):List Nat:=dY.map λg=>if g=max i j then min i j else g
theorem getD_map (dY:List Nat) (f:Nat->Nat) (i:Nat) (hi:i<dY.length):(dY.map f).getD i 0=f (dY.getD i 0):=by grind
theorem Up.join {up:List Nat} (h:Up up dY) (hi:i<up.length) (hj:j<up.length) (ei:up.getD i 0=i) (ej:up.getD j 0=j) (ne:i≠j):Up (up.set (max i j) (min i j)) (relabel dY i j):=by
 have hl:=h.1;have hm:max i j<up.length:=by omega
 refine⟨by grind [relabel],λk hk=>?_⟩;have hk':k<up.length:=by simpa using hk
 obtain⟨h1,h2⟩:=h.2 k hk';unfold relabel;rw[x8 _ _ _ _ hm,getD_map _ _ _ (by omega)];have gi:=h.fix hi ei;have gj:=h.fix hj ej;by_cases e:k=max i j
 all_goals grind
def St.join (s:St) (x y:Int):St :=
 let t:=(s.put x).put y
 ⟨t.all,relabel t.dY (t.hd (t.all.idxOf x)) (t.hd (t.all.idxOf y))⟩
def St.same (s:St) (x y:Int):Bool:=decide (x∈s.all)&&decide (y∈s.all)&&s.hd (s.all.idxOf x)==s.hd (s.all.idxOf y)
theorem tj (dY:List Nat) (i:Nat):relabel dY i i=dY:=by
 unfold relabel;rw[Qs (g:=id)]
 ·simp
 all_goals grind
theorem St.kn {s:St} (h:x∈s.all):s.put x=s:=if_pos h
theorem St.e8 {s:St} (h:x ∉ s.all):s.put x=⟨s.all++[x],s.dY++[s.all.length]⟩:=if_neg h
theorem St.M0 {s:St} (h:x ∉ s.all) (hl:s.all.length=s.dY.length):(s.put x).count=s.count+1:=by
 rw[St.e8 h];unfold St.count;simp only[Qn,Qe,QS,QU];rw[Qx,QA];congr 1
 ·refine QN (λi hi=>?_)
  grind
 simp[hl]
theorem St.count_le (s:St):s.count<=s.dY.length:=by
 unfold St.count;have:=List.countP_le_length (p:=λi=>s.dY.getD i 0==i) (l:=Qk s.dY.length)
 grind
theorem pI (p q:Nat->Bool) (m:Nat) (hp:p m=true) (hq:q m=false) (h:∀ k,k≠m->p k=q k):∀ n,m<n->(Qk n).countP p=(Qk n).countP q+1
 | 0,hm=>by omega
 | n+1,hm=>by
  rw[Qx,QA,QA];by_cases e:m=n
  ·subst e
   have:(Qk m).countP p=(Qk m).countP q:=QN (λk hk=>by rw[h k (by have:=Qu.1 hk;omega)]);simp[this,hp,hq]
  have ih:=pI p q m hp hq h n (by omega);have:p n=q n:=h n (Ne.symm e);simp only[List.countP_singleton,this,ih];omega
theorem St.Bk {all:List Int} (hi:i<dY.length) (hj:j<dY.length) (ei:dY.getD i 0=i) (ej:dY.getD j 0=j) (ne:i≠j) :
  St.count ⟨all,dY⟩=St.count ⟨all,relabel dY i j⟩+1:=by
 have gm:dY.getD (max i j) 0=max i j:=by
  all_goals grind
 have gn:dY.getD (min i j) 0=min i j:=by
  all_goals grind
 unfold St.count;simp only[show (relabel dY i j).length=dY.length by simp[relabel]];refine pI _ _ (max i j) (by grind) ?_ ?_ _ (by omega)
 all_goals grind [relabel,getD_map]
def St.FV (s:St) (x y:Int):Bool :=
 let t:=(s.put x).put y
 t.hd (t.all.idxOf x) != t.hd (t.all.idxOf y)
theorem St.nD (s:St) (x:Int):x∈(s.put x).all:=by
 by_cases h:x∈s.all
 all_goals grind [St.kn,St.e8]
theorem St.lF {s:St} (y:Int) (h:x∈s.all):x∈(s.put y).all:=by
 by_cases hy:y∈s.all
 all_goals grind [St.kn,St.e8]
theorem St.nU {s:St} (y:Int) (h:x∈s.all):(s.put y).all.idxOf x=s.all.idxOf x:=by
 by_cases hy:y∈s.all
 all_goals grind [St.kn,St.e8]
theorem St.DX (s:St) (x:Int):s.all.length<=(s.put x).all.length/\(s.put x).all.length<=s.all.length+1:=by
 by_cases h:x∈s.all
 all_goals grind [St.kn,St.e8]
theorem St.UE (s:St) (x y:Int):s.FV x y=(((s.put x).put y).hd ((s.put x).all.idxOf x) != ((s.put x).put y).hd (((s.put x).put y).all.idxOf y)):=by
 grind [St.FV,St.nU,St.nD]
theorem St.join_eq (s:St) (x y:Int):s.join x y=⟨((s.put x).put y).all,relabel ((s.put x).put y).dY (((s.put x).put y).hd ((s.put x).all.idxOf x)) (((s.put x).put y).hd (((s.put x).put y).all.idxOf y))⟩:=by
 grind [St.join,St.nU,St.nD]
structure St.Ok (s:St):Prop where
 len:s.all.length=s.dY.length
 nodup:s.all.Nodup
 le:∀ i,i<s.dY.length->s.hd i<=i
 own:∀ i,i<s.dY.length->s.hd (s.hd i)=s.hd i
def St.dq (s:St) (k:Nat):List Nat:=(Qk k).filter λi=>s.hd i==i
def St.row (s:St) (k h:Nat):List Int:=((Qk k).filter λi=>s.hd i==h).map λi=>s.all.getD i 0
def St.gr (s:St) (k:Nat):List (List Int):=(s.dq k).map (s.row k)
def St.groups (s:St):List (List Int):=s.gr s.all.length
theorem St.oh (s:St) (k:Nat):s.dq (k+1)=if s.hd k=k then s.dq k++[k] else s.dq k:=by
 unfold St.dq;rw[Qx,Qz]
 grind
theorem St.Uv (s:St) (k h:Nat):s.row (k+1) h=if s.hd k=h then s.row k h++[s.all.getD k 0] else s.row k h:=by
 unfold St.row;rw[Qx,Qz]
 grind
theorem St.qC {s:St} :h∈s.dq k↔h<k/\s.hd h=h:=by simp[St.dq]
theorem St.j7 (s:St) (k:Nat):(s.dq k).Nodup:=Qv.filter _ List.nodup_range
def St.AY (s:St) (k:Nat):List (List Int):=if s.hd k=k then s.gr k++[[]] else s.gr k
def St.iP (s:St) (k:Nat):Nat:=(s.dq (k+1)).idxOf (s.hd k)
theorem St.Df {s:St} (hs:s.Ok) (hk:k<s.dY.length):s.iP k<(s.dq (k+1)).length :=
 List.idxOf_lt_length_iff.2 (St.qC.2 ⟨by have:=hs.le k hk;omega,hs.own k hk⟩)
theorem St.yd (s:St) (k:Nat):(s.AY k).length=(s.dq (k+1)).length:=by
 grind [St.AY,St.oh,St.hd,St.gr]
theorem St.PY {s:St} (hs:s.Ok) (hk:k<s.dY.length):s.row k k=[]:=by
 unfold St.row;rw[List.map_eq_nil_iff,QE];intro i hi;have H8:i<k:=Qu.1 hi;have:=hs.le i (by omega);simp;omega
theorem St.WT {s:St} (hs:s.Ok) (hk:k<s.dY.length):s.gr (k+1)=(s.AY k).set (s.iP k) ((s.AY k).getD (s.iP k) []++[s.all.getD k 0]):=by
 have hr:=St.Df hs hk;have ala:s.AY k=(s.dq (k+1)).map (s.row k):=by
  all_goals grind [St.AY,St.gr,St.oh,St.hd,St.PY]
 have gp:=s.j7 (k+1);have JI:(s.dq (k+1))[s.iP k]'hr=s.hd k:=List.getElem_idxOf hr;unfold St.gr;rw[ala];apply List.ext_getElem
 ·simp
 intro i h1 h2;simp only[List.length_map] at h1;rw[QR,s.Uv];by_cases e:i=s.iP k
 ·subst e
  rw[List.getElem_set_self,if_pos JI.symm,JI];simp[QH,hr,JI]
 rw[List.getElem_set_ne (Ne.symm e),QR,if_neg];intro e1;apply e;have:(s.dq (k+1))[i]=(s.dq (k+1))[s.iP k]'hr:=by rw[JI];exact e1.symm
 exact (List.getElem_inj gp).1 this
theorem St.Cv {s:St} (hh:h<k) (e:s.hd h=h):(s.dq (k+1)).idxOf h=(s.dq k).idxOf h:=by
 all_goals grind [St.oh,St.hd,St.qC]
theorem St.Ww {s:St} (e:s.hd k=k):(s.dq (k+1)).idxOf k=(s.dq k).length:=by
 grind [St.oh,St.qC]
theorem St.SY (s:St) (k:Nat):(s.dq k).length<=k:=by
 grind [St.hd,St.dq]
theorem St.aaJ (s:St) (k h:Nat):(s.row k h).length<=k:=by
 grind [St.hd,St.row]
theorem St.PQ (s:St) (k q:Nat):((s.gr k).getD q []).length<=k:=by
 grind [St.gr,St.aaJ]
theorem St.WG (s:St) (k q:Nat):((s.AY k).getD q []).length<=k:=by
 unfold St.AY;by_cases h:s.hd k=k
 ·rw[if_pos h]
  have:=s.PQ k q
  all_goals grind
 all_goals grind [St.PQ]
theorem ai.t{c:World}(h:ai o a b)(k:ai o' b c)(hs:∀j∈o',j∈o\/a.heap.size<=j:=by simp):ai o a c:=h.trans k hs
theorem ai.c(h:ai o a w){p:Addr}{v:Value}(hc:a.cell? p=some v)(hn:p.block∉o:=by simp):w.cell? p=some v:=h.cell hc hn
