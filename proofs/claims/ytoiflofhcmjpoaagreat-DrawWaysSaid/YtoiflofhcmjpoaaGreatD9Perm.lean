/- Permutations in rings: swapping two eM makes one ring more or less; the parity of a product. No program here. -/
import Derived.WalkKit
import Derived.Test.YtoiflofhcmjpoaaGreatRows
import Derived.WalkLawsBesides
import Derived.WalkSpells
import Derived.Maps.OwnSet
import Derived.Maps.RangeWalk
import Derived.Maps.AppendAt
import Derived.Defers
import Derived.Recover
import Derived.Lib.Hide
open List renaming flatten_cons→Qa,mem_flatten→Qb,mem_cons→Qc,map_cons→Qd,length_cons→Qe,filter_cons_of_pos→Qf,filter_cons_of_neg→Qg,mem_map→Qh,nodup_append→Qi,nodup_cons→Qj,range→Qk,mem_filter→Ql,cons_append→Qm,length_append→Qn,Perm→Qo,perm_ext_iff_of_nodup→Qp,mem_reverse→Qq,getElem?_append_left→Qr,map_congr_left→Qs,sum_cons→Qt,mem_range→Qu,Pairwise→Qv,mem_cons_of_mem→Qw,range_succ→Qx,append_of_mem→Qy,filter_append→Qz,countP_append→QA,append_assoc→QB,all_eq_true→QC,filter_eq_nil_iff→QE,mem_append→QF,getD→QH,mem_cons_self→QI,filter_congr→QM,countP_congr→QN,perm_middle→QO,map_toArray→QQ,getElem_map→QR,length_nil→QS,map_nil→QV
open Go.World renaming block_lt_of_cell?→QD
open Or renaming inl→QG,inr→QT
open Nat renaming le_trans→QJ,mod_eq_of_lt→QP,zero_add→QU
open Bool renaming not_eq_true'→QK,eq_false_iff→QL
namespace Go.Proofs.YtoiflofhcmjpoaaGreat.Plain
def Trail (p:Int->Int):Int->List Int->Int->Prop
 | x,[],z=>p x=z
 | x,y :: l,z=>p x=y/\Trail p y l z
theorem Trail.append {p:Int->Int} {y z:Int}:∀ {l m:List Int} {x:Int},Trail p x (l++y :: m) z↔Trail p x l y/\Trail p y m z
 | [],_,_=>Iff.rfl
 | a :: l,m,x=>by
  show p x=a/\Trail p a (l++y :: m) z↔(p x=a/\Trail p a l y)/\Trail p y m z;rw[Trail.append (l:=l)];exact and_assoc.symm
theorem Trail.congr {p q:Int->Int} {z:Int}:∀ {l:List Int} {x:Int},(∀ y,y=x\/y∈l->p y=q y)->Trail p x l z->Trail q x l z
 | [],x,h,t=>by show q x=z;rw[<-h x (QG rfl)];exact t
 | a :: l,x,h,t=>⟨by rw[<-h x (QG rfl)];exact t.1,Trail.congr (fun y hy=>h y (QT (by rcases hy with rfl | hy <;> simp[*]))) t.2⟩
def Ring (p:Int->Int):List Int->Prop
 | []=>False
 | x :: l=>Trail p x l x
structure bw (p:Int->Int) (C:List (List Int)):Prop where
 ring:∀ c∈C,Ring p c
 nodup:C.flatten.Nodup
theorem Ring.aa {p:Int->Int} {l m:List Int} {x y:Int} (h:Ring p (x :: l++y :: m)):Ring p (y :: m++x :: l):=by
 have h':Trail p x (l++y :: m) x:=h;rw[Trail.append] at h';show Trail p y (m++x :: l) y
 grind [Trail.append]
theorem Ring.from {p:Int->Int} {c:List Int} {x:Int} (h:Ring p c) (hx:x∈c):∃ l,Ring p (x :: l)/\(x :: l).Perm c:=by
 obtain⟨a,b,rfl⟩:=Qy hx;cases a with
 | nil=>exact⟨b,h,Qo.refl _⟩
 | cons y a =>
  grind [Ring.aa]
theorem bw.perm {p:Int->Int} {C D:List (List Int)} (h:bw p C) (hp:C.Perm D):bw p D :=
 ⟨fun c hc=>h.ring c (hp.mem_iff.2 hc),(hp.flatten).nodup_iff.1 h.nodup⟩
theorem bw.front {p:Int->Int} {C:List (List Int)} {x:Int} (h:bw p C) (hx:x∈C.flatten):∃ l D,bw p ((x :: l) :: D)/\((x :: l) :: D).length=C.length/\((x :: l) :: D).flatten.Perm C.flatten:=by
 obtain⟨c,hc,xv⟩:=Qb.1 hx;obtain⟨a,b,rfl⟩:=Qy hc;obtain⟨l,hr,hl⟩:=(h.ring c hc).from xv;have hp:(a++c :: b).Perm (c :: (a++b)):=QO;have h2:=h.perm hp;have hf:((x :: l) :: (a++b)).flatten.Perm (c :: (a++b)).flatten:=by
  grind
 refine⟨l,a++b,⟨fun d hd=>?_,hf.nodup_iff.2 h2.nodup⟩,by simp;omega,hf.trans hp.symm.flatten⟩;rcases Qc.1 hd with rfl | hd
 ·exact hr
 exact h2.ring d (Qw _ hd)
def swp (a b x:Int):Int:=if x=a then b else if x=b then a else x
theorem swp_left (a b:Int):swp a b a=b:=if_pos rfl
theorem swp_right (a b:Int):swp a b b=a:=by grind [swp]
theorem eC {a b x:Int} (h1:x≠a) (h2:x≠b):swp a b x=x:=by grind [swp]
theorem Ring.eC {p:Int->Int} {a b:Int} {c:List Int} (h:Ring p c) (ha:a ∉ c) (hb:b ∉ c):Ring (fun x=>p (swp a b x)) c:=by
 cases c with
 | nil=>exact h
 | cons x l =>
  refine Trail.congr (fun y hy=>?_) (show Trail p x l x from h);have hy:y∈x :: l:=by rcases hy with rfl | hy <;> simp[*]
  show p y=p (swp a b y);rw[Plain.eC (a:=a) (b:=b) (x:=y) (fun e=>ha (by grind)) (fun e=>hb (by grind))]
theorem bw.Zz {p:Int->Int} {C:List (List Int)} {a b:Int} (h:bw p C) (ha:a∈C.flatten) (hb:b∈C.flatten) (qi:a≠b) :
  ∃ D,bw (fun x=>p (swp a b x)) D/\D.flatten.Perm C.flatten/\((D.length=C.length+1/\∃ E,bw p E/\E.flatten.Perm C.flatten/\∃ c∈E,a∈c/\b∈c)\/(D.length+1=C.length/\∃ c∈D,a∈c/\b∈c)):=by
 obtain⟨l,E,hE,hlen,dW⟩:=h.front ha;have hbE:b∈((a :: l) :: E).flatten:=dW.mem_iff.2 hb;have gS:=hE.nodup;simp only[Qa] at hbE gS;have YS:=hE.ring (a :: l) (by simp);by_cases jj:b∈l
 ·obtain⟨u,v,rfl⟩:=Qy jj
  have GG:Trail p a (u++b :: v) a:=YS;rw[Trail.append] at GG;have ajf:=gS;rw[Qi] at gS;have CR:=gS.1;simp only[Qj,QF,Qc,not_or,Qi] at CR;refine⟨(a :: v) :: (b :: u) :: E,⟨fun c hc=>?_,?_⟩,?_,QG ⟨by grind,(a :: (u++b :: v)) :: E,hE,dW,_,QI,by simp,by simp⟩⟩
  ·rcases Qc.1 hc with rfl | hc
   ·show Trail _ a v a
    cases v with
    | nil=>show p (swp a b a)=a;rw[swp_left];exact GG.2
    | cons y v =>
     refine⟨?_,Trail.congr (fun z hz=>?_) GG.2.2⟩
     ·show p (swp a b a)=y
      rw[swp_left];exact GG.2.1
     have hzm:z∈y :: v:=by rcases hz with rfl | hz <;> simp[*]
     show p z=p (swp a b z);rw[Plain.eC (fun e=>by grind) (fun e=>by grind)]
   rcases Qc.1 hc with rfl | hc
   ·show Trail _ b u b
    cases u with
    | nil=>show p (swp a b b)=b;rw[swp_right];exact GG.1
    | cons y u =>
     refine⟨?_,Trail.congr (fun z hz=>?_) GG.1.2⟩
     ·show p (swp a b b)=y
      rw[swp_right];exact GG.1.1
     have hzm:z∈y :: u:=by rcases hz with rfl | hz <;> simp[*]
     show p z=p (swp a b z);rw[Plain.eC (fun e=>by grind) (fun e=>CR.2.2.2 z hzm b (QG rfl) e)]
   refine (hE.ring c (by simp[hc])).eC (fun q=>?_) (fun q=>?_)
   ·exact gS.2.2 a (by simp) a (Qb.2 ⟨c,hc,q⟩) rfl
   exact gS.2.2 b (by simp) b (Qb.2 ⟨c,hc,q⟩) rfl
  ·refine Qo.nodup_iff ?_ |>.1 ajf
   simp only[Qa,Qm,QB];refine Qo.cons a ?_;have:(u++b :: v).Perm (v++b :: u):=by
    grind
   grind
  refine Qo.trans ?_ dW;simp only[Qa,Qm,QB];refine Qo.cons a ?_;have:(v++b :: u).Perm (u++b :: v):=by
   grind
  grind
 have akV:b∈E.flatten:=by
  all_goals grind
 rw[Qi] at gS;have ZD:bw p E:=⟨fun c hc=>hE.ring c (by simp[hc]),gS.2.1⟩;obtain⟨u,F,hF,amJ,OG⟩:=ZD.front akV;have Kw:=hF.ring (b :: u) (by simp);have hbu:∀ z∈b :: u,z∈E.flatten:=fun z hz=>OG.mem_iff.1 (by grind);have Rz:=hF.nodup;simp only[Qa] at Rz;rw[Qi] at Rz;have CR:=gS.1;simp only[Qj] at CR;have Yl:=Rz.1;simp only[Qj] at Yl;have hpp:((a :: u++b :: l) :: F).flatten.Perm ((a :: l) :: E).flatten:=by
  simp only[Qa,Qm,QB];refine Qo.cons a ?_
  grind
 refine⟨(a :: u++b :: l) :: F,⟨fun c hc=>?_,hpp.nodup_iff.2 hE.nodup⟩,hpp.trans dW,QT ⟨by grind,_,QI,by simp,by simp⟩⟩;rcases Qc.1 hc with rfl | hc
 ·show Trail _ a (u++b :: l) a
  rw[Trail.append];constructor
  ·cases u with
   | nil=>show p (swp a b a)=b;rw[swp_left];exact Kw
   | cons y u =>
    have ack:p b=y/\Trail p y u b:=Kw;refine⟨?_,Trail.congr (fun z hz=>?_) ack.2⟩
    ·show p (swp a b a)=y
     rw[swp_left];exact ack.1
    have hzm:z∈y :: u:=by rcases hz with rfl | hz <;> simp[*]
    show p z=p (swp a b z);rw[Plain.eC (fun e=>by subst e;exact gS.2.2 z (by simp) z (hbu z (by simp[hzm])) rfl) (fun e=>by grind)]
  cases l with
  | nil=>show p (swp a b b)=a;rw[swp_right];exact YS
  | cons y l =>
   have aam:p a=y/\Trail p y l a:=YS;refine⟨?_,Trail.congr (fun z hz=>?_) aam.2⟩
   ·show p (swp a b b)=y
    rw[swp_right];exact aam.1
   have hzm:z∈y :: l:=by rcases hz with rfl | hz <;> simp[*]
   show p z=p (swp a b z);rw[Plain.eC (fun e=>by grind) (fun e=>by grind)]
 have hcE:∀ z∈c,z∈E.flatten:=fun z hz=>OG.mem_iff.1 (by simp only[Qa,QF,Qb];exact QT ⟨c,hc,hz⟩);refine (hF.ring c (by simp[hc])).eC (fun q=>?_) (fun q=>?_)
 ·exact gS.2.2 a (by simp) a (hcE a q) rfl
 exact Rz.2.2 b (by simp) b (Qb.2 ⟨c,hc,q⟩) rfl
theorem bw.swap {p:Int->Int} {C:List (List Int)} {a b:Int} (h:bw p C) (ha:a∈C.flatten) (hb:b∈C.flatten) (qi:a≠b) :
  ∃ D,bw (fun x=>p (swp a b x)) D/\D.flatten.Perm C.flatten/\(D.length=C.length+1\/D.length+1=C.length):=by
 grind [bw.Zz]
theorem Trail.det {p:Int->Int} {x:Int}:∀ {l m:List Int} {a:Int},Trail p a l x->Trail p a m x->x ∉ l->x ∉ m->l=m
 | [],[],_,_,_,_,_=>rfl
 | [],y :: m,a,h,k,_,h2=>absurd (k.1.symm.trans h) (fun e=>h2 (by rw[e];simp))
 | y :: l,[],a,h,k,h1,_=>absurd (h.1.symm.trans k) (fun e=>h1 (by rw[e];simp))
 | y :: l,z :: m,a,h,k,h1,h2=>by
  have e:y=z:=h.1.symm.trans k.1;subst e;rw[Trail.det h.2 k.2 (fun q=>h1 (by simp[q])) (fun q=>h2 (by simp[q]))]
theorem bw.count {p:Int->Int}:∀ {C D:List (List Int)},bw p C->bw p D->C.flatten.Perm D.flatten->C.length=D.length
 | [],D,_,hD,hp=>by
  cases D with
  | nil=>rfl
  | cons d D =>
   have hd:=hD.ring d (by simp);cases d with
   | nil=>exact absurd hd (by simp[Ring])
   | cons x l=>have:=hp.length_eq;simp at this
 | [] :: C,D,hC,_,_=>absurd (hC.ring [] (by simp)) (by simp[Ring])
 | (x :: l) :: C,D,hC,hD,hp=>by
  obtain⟨m,E,hE,hlen,dW⟩:=hD.front (x:=x) (hp.mem_iff.1 (by simp));have n1:=hC.nodup;have n2:=hE.nodup;simp only[Qa,Qm,Qj,QF,not_or] at n1 n2;have e:l=m:=Trail.det (hC.ring (x :: l) (by simp)) (hE.ring (x :: m) (by simp)) n1.1.1 n2.1.1;subst e;have Ae:=hp.trans dW.symm;simp only[Qa] at Ae;have hp3:=(List.perm_append_left_iff _).1 Ae;have hC2:bw p C:=⟨fun c hc=>hC.ring c (by simp[hc]),((Qi.1 n1.2).2).1⟩;have Wh:bw p E:=⟨fun c hc=>hE.ring c (by simp[hc]),((Qi.1 n2.2).2).1⟩;have:=bw.count hC2 Wh hp3;simp at hlen ⊢;omega
theorem Trail.map {p:Int->Int} {z:Int}:∀ {l:List Int} {x:Int},Trail p x l z->(x :: l).map p=l++[z]
 | [],x,h=>by show [p x]=[z];rw[show p x=z from h]
 | y :: l,x,h=>by
  rw[Qd,Trail.map h.2,h.1];rfl
theorem Ring.pT {p:Int->Int} {c:List Int} (h:Ring p c):(c.map p).Perm c:=by
 cases c with
 | nil=>exact absurd h (by simp[Ring])
 | cons x l =>
  rw[Trail.map (show Trail p x l x from h)]
  grind
theorem nG {p:Int->Int}:∀ {C:List (List Int)},(∀ c∈C,Ring p c)->(C.flatten.map p).Perm C.flatten
 | [],_=>Qo.refl _
 | c :: C,h=>by
  rw[Qa,List.map_append];exact (h c (by simp)).pT.append (nG fun d hd=>h d (by simp[hd]))
theorem fs {p:Int->Int}:∀ {l:List Int},(l.map p).Nodup->∀ x∈l,∀ y∈l,p x=p y->x=y
 | [],_,x,hx,_,_,_=>by simp at hx
 | a :: l,h,x,hx,y,hy,e=>by
  rw[Qd,Qj] at h;rcases Qc.1 hx with e1 | hx <;> rcases Qc.1 hy with e2 | hy
  ·rw[e1,e2]
  ·exact absurd (Qh.2 ⟨y,hy,by rw[<-e,e1]⟩) h.1
  ·exact absurd (Qh.2 ⟨x,hx,by rw[e,e2]⟩) h.1
  exact fs h.2 x hx y hy e
theorem bw.inj {p:Int->Int} {C:List (List Int)} (h:bw p C):∀ x∈C.flatten,∀ y∈C.flatten,p x=p y->x=y :=
 fs ((nG h.ring).nodup_iff.2 h.nodup)
theorem bw.pred {p:Int->Int} {C:List (List Int)} (h:bw p C) {x:Int} (hx:x∈C.flatten):∃ y∈C.flatten,p y=x :=
 Qh.1 ((nG h.ring).mem_iff.2 hx)
theorem bw.next {p:Int->Int} {C:List (List Int)} (h:bw p C) {x:Int} (hx:x∈C.flatten):p x∈C.flatten :=
 (nG h.ring).mem_iff.1 (Qh.2 ⟨x,hx,rfl⟩)
theorem Ring.congr {p q:Int->Int} {c:List Int} (h:Ring p c) (e:∀ x∈c,p x=q x):Ring q c:=by
 cases c with
 | nil=>exact h
 | cons x l=>exact Trail.congr (fun y hy=>e y (by grind)) (show Trail p x l x from h)
theorem bw.congr {p q:Int->Int} {C:List (List Int)} (h:bw p C) (e:∀ x∈C.flatten,p x=q x):bw q C :=
 ⟨fun c hc=>(h.ring c hc).congr fun x hx=>e x (Qb.2 ⟨c,hc,hx⟩),h.nodup⟩
theorem Rr (a b x:Int):swp a b (swp a b x)=x:=by
 grind [swp]
theorem bw.swap' {p:Int->Int} {C:List (List Int)} {a b:Int} (h:bw p C) (ha:a∈C.flatten) (hb:b∈C.flatten) (qi:a≠b) :
  ∃ D,bw (fun x=>swp a b (p x)) D/\D.flatten.Perm C.flatten/\(D.length=C.length+1\/D.length+1=C.length):=by
 obtain⟨a',ha',rfl⟩:=h.pred ha;obtain⟨b',AD,rfl⟩:=h.pred hb;obtain⟨D,h1,h2,h3⟩:=h.swap ha' AD (fun e=>qi (by rw[e]));refine⟨D,h1.congr fun x hx=>?_,h2,h3⟩;have OX:=h2.mem_iff.1 hx;by_cases e1:x=a'
 ·subst e1;rw[swp_left,swp_left]
 by_cases e2:x=b'
 ·subst e2;rw[swp_right,swp_right]
 rw[Plain.eC e1 e2,Plain.eC (fun e=>e1 (h.inj x OX a' ha' e)) (fun e=>e2 (h.inj x OX b' AD e))]
theorem bw.cut {p:Int->Int} {x y:Int} {l:List Int} {R:List (List Int)} (h:bw p ((x :: y :: l) :: R)):bw (fun z=>p (swp y x z)) ([y] :: (x :: l) :: R):=by
 have gS:=h.nodup;have hr:p x=y/\Trail p y l x:=h.ring (x :: y :: l) (by simp);have hp:([y] :: (x :: l) :: R).flatten.Perm ((x :: y :: l) :: R).flatten:=by
  grind
 simp only[Qa] at gS;rw[Qi] at gS;have CR:=gS.1;simp only[Qj,Qc,not_or] at CR;refine⟨fun c hc=>?_,hp.nodup_iff.2 h.nodup⟩;rcases Qc.1 hc with rfl | hc
 ·show p (swp y x y)=y
  rw[swp_left];exact hr.1
 rcases Qc.1 hc with rfl | hc
 ·show Trail _ x l x
  cases l with
  | nil=>show p (swp y x x)=x;rw[swp_right];exact hr.2
  | cons z l =>
   refine⟨?_,Trail.congr (fun u hu=>?_) hr.2.2⟩
   ·show p (swp y x x)=z
    rw[swp_right];exact hr.2.1
   have hum:u∈z :: l:=by rcases hu with rfl | hu <;> simp[*]
   show p u=p (swp y x u);rw[Plain.eC (fun e=>by grind) (fun e=>by grind)]
 refine (h.ring c (by simp[hc])).eC (fun q=>?_) (fun q=>?_)
 ·exact gS.2.2 y (by simp) y (Qb.2 ⟨c,hc,q⟩) rfl
 exact gS.2.2 x (by simp) x (Qb.2 ⟨c,hc,q⟩) rfl
theorem uB {p:Int->Int}:∀ {C:List (List Int)},(∀ c∈C,Ring p c)->C.length<=C.flatten.length
 | [],_=>by simp
 | c :: C,h=>by
  have h1:=uB (C:=C) fun d hd=>h d (by simp[hd]);have h2:=h c (by simp);cases c with
  | nil=>exact absurd h2 (by simp[Ring])
  | cons x l=>simp only[Qa,Qn,Qe];omega
theorem zg:∀ (C:List (List Int)),(∀ c∈C,c≠[])->(∀ c∈C,c.length=1)\/∃ a b x y l,C=a++(x :: y :: l) :: b
 | [],_=>QG (by simp)
 | c :: C,h=>by
  rcases zg C (fun d hd=>h d (by simp[hd])) with h1 | ⟨a,b,x,y,l,rfl⟩
  ·match c,h c (by simp) with
   | [x],_=>exact QG (by simpa using h1)
   | x :: y :: l,_=>exact QT ⟨[],C,x,y,l,rfl⟩
  exact QT ⟨c :: a,b,x,y,l,rfl⟩
theorem sv:∀ {C:List (List Int)},(∀ c∈C,c.length=1)->C.flatten.length=C.length
 | [],_=>rfl
 | c :: C,h=>by
  rw[Qa,Qn,h c (by simp),sv fun d hd=>h d (by simp[hd]),Qe];omega
theorem bw.mul (n:Nat):∀ {r a:Int->Int} {R A:List (List Int)},R.flatten.length - R.length=n->bw r R->bw a A->A.flatten.Perm R.flatten ->
  ∃ C,bw (fun x=>r (a x)) C/\C.flatten.Perm A.flatten/\(C.length+R.length+A.length) % 2=A.flatten.length % 2:=by
 induction n with
 | zero =>
  intro r a R A hn hR hA hp;have hle:=uB hR.ring;rcases zg R (fun c hc e=>by have:=hR.ring c hc;rw[e] at this;exact this) with h1 | ⟨u,v,x,y,l,rfl⟩
  ·refine⟨A,hA.congr fun x hx=>?_,Qo.refl _,?_⟩
   ·have hx2:=hp.mem_iff.1 (hA.next hx)
    obtain⟨c,hc,xv⟩:=Qb.1 hx2;have hr:=hR.ring c hc
    match c,h1 c hc with
    | [z],_ =>
     have:a x=z:=by simpa using xv
     rw[this];exact (show r z=z from hr).symm
   have:=hp.length_eq;omega
  have h2:(u++v).length<=(u++v).flatten.length:=uB (p:=r) fun c hc=>hR.ring c (by grind)
  grind
 | succ n ih =>
  intro r a R A hn hR hA hp;rcases zg R (fun c hc e=>by have:=hR.ring c hc;rw[e] at this;exact this) with h1 | ⟨u,v,x,y,l,rfl⟩
  ·grind [sv]
  have pF:(u++(x :: y :: l) :: v).Perm ((x :: y :: l) :: (u++v)):=QO;have hR':=hR.perm pF;have hcut:=hR'.cut;have KP:=pF.flatten;have qI:y≠x:=by
   have:=hR'.nodup;simp only[Qa,Qm,Qj,Qc,not_or] at this
   grind
  obtain⟨A',hA',hpA,hlA⟩:=hA.swap' (a:=y) (b:=x) (hp.mem_iff.2 (KP.mem_iff.2 (by simp))) (hp.mem_iff.2 (KP.mem_iff.2 (by simp))) qI;have Ae:A'.flatten.Perm ([y] :: (x :: l) :: (u++v)).flatten:=by
   refine (hpA.trans (hp.trans KP)).trans ?_;simp only[Qa,Qm,List.nil_append]
   grind
  have aln:=hp.length_eq;have LV:=hpA.length_eq;have alL:=Ae.length_eq;obtain⟨C,hC,hpC,xj⟩:=ih (R:=[y] :: (x :: l) :: (u++v)) (A:=A') (by
   simp only[Qn,List.flatten_append,Qa,Qe,QS] at hn ⊢;omega) hcut hA' Ae
  refine⟨C,hC.congr fun z _=>?_,hpC.trans hpA,?_⟩
  ·show r (swp y x (swp y x (a z)))=r (a z)
   rw[Rr]
  all_goals grind
structure Gr where
 n:Int
 e:List (Int × Int)
structure Pt where
 v:List Int
 e:List Int
def Gr.ends (g:Gr) (i:Nat):Int × Int:=g.e.getD i (0,0)
def Gr.at (g:Gr) (i:Int):Int × Int:=g.ends i.toNat
def Gr.eI (g:Gr) (i:Nat):Bool:=!(decide ((g.ends i).1<0) || decide (g.n<=(g.ends i).1) || decide ((g.ends i).2<0) || decide (g.n<=(g.ends i).2))
def Gr.err (g:Gr):Int:=if g.n<0 then 3 else if 1024<g.n\/1024 - g.n<(g.e.length:Int) then 2 else if (Qk g.e.length).all g.eI then 0 else 3
def iz (l:List Int) (n:Int) (i:Nat):Bool:=!(decide (l.getD i 0<0) || decide (n<=l.getD i 0) || (decide (0<i)&&decide (l.getD i 0<=l.getD (i - 1) 0)))
def gh (l:List Int) (n:Int):Bool:=(Qk l.length).all (iz l n)
def Pt.eI (g:Gr) (p:Pt) (i:Nat):Bool:=decide ((g.ends (p.e.getD i 0).toNat).1∈p.v)&&decide ((g.ends (p.e.getD i 0).toNat).2∈p.v)
def Pt.err (g:Gr) (p:Pt):Int:=if g.err≠0 then g.err else if !(gh p.v g.n&&gh p.e g.e.length) then 4 else if (Qk p.e.length).all (p.eI g) then 0 else 4
theorem eA (p:Nat->Bool) (k:Nat):(Qk (k+1)).all p=((Qk k).all p&&p k):=by
 grind
theorem dL {p:Nat->Bool} {k n:Nat} (hk:k<n) (h:p k=false):(Qk n).all p=false:=by
 grind
theorem Gr.aA {g:Gr} (h:g.err=0):0<=g.n/\g.n<=1024/\(g.e.length:Int)<=1024 - g.n/\∀ i,i<g.e.length->0<=(g.ends i).1/\(g.ends i).1<g.n/\0<=(g.ends i).2/\(g.ends i).2<g.n:=by
 unfold Gr.err at h;split at h
 ·simp at h
 split at h
 ·simp at h
 split at h
 ·rename_i h1 h2 h3
  refine⟨by omega,by omega,by omega,fun i hi=>?_⟩;have:=QC.1 h3 i (Qu.2 hi);simp only[Gr.eI,QK,Bool.or_eq_false_iff,decide_eq_false_iff_not] at this;omega
 simp at h
theorem bX {l:List Int} {n:Int} (h:gh l n=true) {i:Nat} (hi:i<l.length):0<=l.getD i 0/\l.getD i 0<n/\(0<i->l.getD (i - 1) 0<l.getD i 0):=by
 have:=QC.1 h i (Qu.2 hi)
 grind [iz]
theorem NJ {l:List Int} {n:Int} (h:gh l n=true) {i j:Nat} (DC:i<j) (hj:j<l.length):l.getD i 0<l.getD j 0:=by
 induction j with
 | zero=>omega
 | succ j ih =>
  have h1:=(bX h hj).2.2 (by omega)
  all_goals grind
theorem bM {l:List Int} {n:Int} (h:gh l n=true):l.Pairwise (·<·):=by
 rw[List.pairwise_iff_getElem];intro i j hi hj DC;have:=NJ h DC hj
 grind
theorem iK {l:List Int} {n:Int} (h:gh l n=true):l.Nodup:=by
 refine (bM h).imp ?_
 grind
theorem Pt.aA {g:Gr} {p:Pt} (h:p.err g=0):g.err=0/\gh p.v g.n=true/\gh p.e g.e.length=true/\∀ i,i<p.e.length->(g.ends (p.e.getD i 0).toNat).1∈p.v/\(g.ends (p.e.getD i 0).toNat).2∈p.v:=by
 unfold Pt.err at h;split at h
 ·rename_i h1;exact absurd h h1
 rename_i h1;split at h
 ·simp at h
 rename_i h2;split at h
 ·rename_i h3
  simp only[QK,Bool.and_eq_false_iff,not_or,Bool.not_eq_false] at h2;refine⟨by simpa using h1,h2.1,h2.2,fun i hi=>?_⟩;have:=QC.1 h3 i (Qu.2 hi);simpa[Pt.eI] using this
 simp at h
def oI (g:Gr) (p:Pt) (u w:Int):Prop:=∃ e∈p.e,(g.at e=(u,w)\/g.at e=(w,u))
theorem oI.symm {g:Gr} {p:Pt} {u w:Int} (h:oI g p u w):oI g p w u:=by
 obtain⟨e,he,h⟩:=h;exact⟨e,he,h.symm⟩
inductive b9 (g:Gr) (p:Pt) (shut:Int) (a:Int):Int->Prop
 | here:b9 g p shut a a
 | step {u w:Int}:b9 g p shut a u->oI g p u w->w≠shut->b9 g p shut a w
theorem b9.trans {g:Gr} {p:Pt} {s a b c:Int} (h:b9 g p s a b) (k:b9 g p s b c):b9 g p s a c:=by
 induction k with
 | here=>exact h
 | step _ hn hs ih=>exact ih.step hn hs
theorem b9.symm {g:Gr} {p:Pt} {s a b:Int} (ha:a≠s) (h:b9 g p s a b):b≠s/\b9 g p s b a:=by
 induction h with
 | here=>exact⟨ha,.here⟩
 | step h1 hn hs ih=>exact⟨hs,b9.trans (b9.step .here hn.symm ih.1) ih.2⟩
noncomputable def comp (g:Gr) (p:Pt) (a:Int):List Int:=by
 classical
 exact p.v.filter fun u=>decide (b9 g p (-1) a u)
open Classical in
theorem cE {g:Gr} {p:Pt} {a u:Int}:u∈comp g p a↔u∈p.v/\b9 g p (-1) a u:=by
 grind [comp]
def Pt.sub (g:Gr) (p:Pt) (l:List Int):Pt:=⟨p.v.filter fun v=>decide (v∈l),p.e.filter fun e=>decide ((g.at e).1∈l)&&decide ((g.at e).2∈l)⟩
noncomputable def roots (g:Gr) (p:Pt):List Int:=by
 classical
 exact p.v.filter fun v=>decide (∀ u∈p.v,b9 g p (-1) v u->v<=u)
open Classical in
theorem ep {g:Gr} {p:Pt} {v:Int}:v∈roots g p↔v∈p.v/\∀ u∈p.v,b9 g p (-1) v u->v<=u:=by
 grind [roots]
theorem exists_least:∀ {l:List Int},l≠[]->∃ a∈l,∀ b∈l,a<=b
 | [],h=>absurd rfl h
 | [x],_=>⟨x,by simp,by simp⟩
 | x :: y :: l,_=>by
  obtain⟨a,ha,hl⟩:=exists_least (l:=y :: l) (by simp);by_cases q:x<=a
  ·exact⟨x,by simp,fun b hb=>by rcases Qc.1 hb with rfl | hb;omega;have:=hl b hb;omega⟩
  exact⟨a,Qw _ ha,fun b hb=>by rcases Qc.1 hb with rfl | hb;omega;exact hl b hb⟩
theorem tg {g:Gr} {p:Pt} (hv:∀ v∈p.v,0<=v) {u:Int} (hu:u∈p.v):∃ r∈roots g p,b9 g p (-1) r u:=by
 obtain⟨r,hr,hl⟩:=exists_least (l:=comp g p u) (fun e=>by have:u∈comp g p u:=cE.2 ⟨hu,.here⟩;rw[e] at this;simp at this);obtain⟨fQ,fh⟩:=cE.1 hr;have hsy:=(fh.symm (by grind)).2;exact⟨r,ep.2 ⟨fQ,fun x hx hc=>hl x (cE.2 ⟨hx,fh.trans hc⟩)⟩,hsy⟩
theorem qm {g:Gr} {p:Pt} (hv:∀ v∈p.v,0<=v) {u r r':Int} (hr:r∈roots g p) (hr':r'∈roots g p) (h:b9 g p (-1) r u) (h':b9 g p (-1) r' u):r=r':=by
 obtain⟨h1,h2⟩:=ep.1 hr;obtain⟨k1,k2⟩:=ep.1 hr';have e1:=h2 r' k1 (h.trans (h'.symm (by grind)).2);have e2:=k2 r h1 (h'.trans (h.symm (by grind)).2);omega
theorem Hj {β:Type} (f:β->Bool):∀ {R:List β},R.Nodup->(∃ r∈R,f r=true)->(∀ r∈R,∀ s∈R,f r=true->f s=true->r=s)->(R.map fun r=>if f r then 1 else 0).sum=1
 | [],_,h,_=>by obtain⟨r,hr,_⟩:=h;simp at hr
 | a :: R,hn,h,hu=>by
  rw[Qj] at hn;rw[Qd,Qt];by_cases ha:f a=true
  ·rw[if_pos ha]
   have:(R.map fun r=>if f r then 1 else 0).sum=0:=by
    have hz:∀ r∈R,f r=false:=fun r hr=>by
     grind
    have e:(R.map fun r=>if f r then 1 else 0)=R.map fun _=>0:=Qs fun r hr=>by rw[hz r hr];rfl
    rw[e];clear e hz hu h hn
    induction R with
    | nil=>rfl
    | cons _ _ ih=>rw[Qd,Qt,ih]
   rw[this]
  rw[if_neg ha,QU];obtain⟨r,hr,hf⟩:=h;refine Hj f hn.2 ⟨r,?_,hf⟩ (fun r hr s hs=>hu r (by simp[hr]) s (by simp[hs]));rcases Qc.1 hr with rfl | q
  ·exact absurd hf ha
  exact q
theorem sum_add {β:Type} (f g:β->Nat):∀ R:List β,(R.map fun r=>f r+g r).sum=(R.map f).sum+(R.map g).sum
 | []=>rfl
 | a :: R=>by simp only[Qd,Qt,sum_add f g R];omega
theorem sG {α β:Type} (f:α->β->Bool) {R:List β} (hn:R.Nodup):∀ {L:List α},(∀ x∈L,(∃ r∈R,f x r=true)/\∀ r∈R,∀ s∈R,f x r=true->f x s=true->r=s)->(R.map fun r=>(L.filter fun x=>f x r).length).sum=L.length
 | [],_=>by
  clear hn
  induction R with
  | nil=>rfl
  | cons _ _ ih=>simpa using ih
 | x :: L,h=>by
  have e:(R.map fun r=>((x :: L).filter fun x=>f x r).length)=R.map fun r=>(if f x r then 1 else 0)+(L.filter fun x=>f x r).length:=by
   refine Qs fun r _=>?_;rw[List.filter_cons];split <;> simp <;> omega
  rw[e,sum_add,Hj (f x) hn (h x (by simp)).1 (h x (by simp)).2,sG f hn fun y hy=>h y (by simp[hy])];simp;omega
def aT (d:Int):Int:=if d % 2=0 then d+1 else d - 1
def Gr.tail (g:Gr) (d:Int):Int:=if d % 2=0 then (g.at (d / 2)).1 else (g.at (d / 2)).2
def Gr.head (g:Gr) (d:Int):Int:=if d % 2=0 then (g.at (d / 2)).2 else (g.at (d / 2)).1
def Pt.ah (p:Pt):List Int:=p.e.flatMap fun e=>[2*e,2*e+1]
theorem bC (d:Int):aT (aT d)=d:=by grind [aT]
theorem dP (d:Int):aT d / 2=d / 2:=by grind [aT]
theorem aS (g:Gr) (d:Int):g.tail (aT d)=g.head d:=by
 all_goals grind [Gr.tail,Gr.head,dP,aT]
theorem aw {p:Pt} {d:Int}:d∈p.ah↔d / 2∈p.e:=by
 all_goals grind [Pt.ah]
theorem bQ {p:Pt} {d:Int} (h:d∈p.ah):aT d∈p.ah:=by grind [aw,dP]
theorem dz {p:Pt} (h:p.e.Nodup):p.ah.Nodup:=by
 grind [Pt.ah,aw]
theorem bL (p:Pt):p.ah.length=2*p.e.length:=by
 unfold Pt.ah;generalize p.e=l
 induction l with
 | nil=>rfl
 | cons e l ih=>rw[List.flatMap_cons,Qn,ih];simp;omega
theorem tO {p:Pt} (h:p.e.Nodup):bw aT (p.e.map fun e=>[2*e,2*e+1]):=by
 refine⟨fun c hc=>?_,?_⟩
 ·obtain⟨e,_,rfl⟩:=Qh.1 hc
  show aT (2*e)=2*e+1/\aT (2*e+1)=2*e
  grind [aT]
 all_goals grind
def ahead (l:List Int) (x:Int):Int:=l.getD ((l.idxOf x+l.length - 1) % l.length) 0
def behind (l:List Int) (x:Int):Int:=l.getD ((l.idxOf x+1) % l.length) 0
theorem BP {p:Int->Int} {z:Int}:∀ {l:List Int} {x:Int},(∀ i,i<l.length->p ((x :: l).getD i 0)=(x :: l).getD (i+1) 0)->p ((x :: l).getD l.length 0)=z->Trail p x l z
 | [],x,_,h=>by show p x=z;simpa using h
 | y :: l,x,h,hz=>by
  refine⟨by simpa using h 0 (by simp),BP (fun i hi=>?_) (by simpa using hz)⟩;have:=h (i+1) (by simpa using hi);simpa using this
theorem fU {l:List Int} (hn:l.Nodup) {i:Nat} (hi:i<l.length):l.idxOf (l.getD i 0)=i:=by
 grind
theorem lL (l:List Int) (i:Nat) (hi:i<l.length):l.reverse.getD i 0=l.getD (l.length - 1 - i) 0:=by
 grind
theorem lK {l:List Int} (hn:l.Nodup) (h0:l≠[]):Ring (ahead l) l.reverse:=by
 have hl:0<l.length:=List.length_pos_iff.2 h0;have key:∀ i,i<l.length->ahead l (l.reverse.getD i 0)=l.reverse.getD (if i+1=l.length then 0 else i+1) 0:=by
  intro i hi;have e1:ahead l (l.reverse.getD i 0)=l.getD ((l.length - 1 - i+l.length - 1) % l.length) 0:=by
   grind [lL,ahead,fU]
  rw[e1];split
  ·rename_i h
   rw[lL l 0 hl]
   congr 1
   rw[show l.length - 1 - i+l.length - 1=l.length - 1 by omega,QP (by omega)];omega
  rename_i h;rw[lL l (i+1) (by omega)]
  congr 1
  rw[show l.length - 1 - i+l.length - 1=(l.length - 1 - (i+1))+l.length by omega,Nat.add_mod_right,QP (by omega)]
 have hlen:l.reverse.length=l.length:=by simp
 generalize l.reverse=r at *;cases r with
 | nil=>simp at hlen;omega
 | cons x r =>
  simp only[Qe] at hlen;refine BP (fun i hi=>?_) ?_
  all_goals grind
def az (aa:List (List Int)) (v:Int):List Int:=aa.getD v.toNat []
structure aR (g:Gr) (p:Pt) (aa:List (List Int)):Prop where
 len:(aa.length:Int)=g.n
 nodup:∀ v,(az aa v).Nodup
 mem:∀ v,0<=v->v<g.n->∀ d,d∈az aa v↔d∈p.ah/\g.tail d=v
def before (g:Gr) (aa:List (List Int)) (d:Int):Int:=ahead (az aa (g.tail d)) d
def aG (g:Gr) (aa:List (List Int)) (d:Int):Int:=before g aa (aT d)
def leaving (g:Gr) (p:Pt) (U:List Int):List Int:=p.ah.filter fun d=>decide (g.tail d∈U)
def busy (aa:List (List Int)) (U:List Int):List Int:=U.filter fun v=>!(az aa v).isEmpty
theorem lr {g:Gr} {p:Pt} {aa:List (List Int)} (h:aR g p aa) (hp:p.e.Nodup) {U:List Int} (hU:U.Nodup) (hn:∀ v∈U,0<=v/\v<g.n) :
  bw (before g aa) ((busy aa U).map fun v=>(az aa v).reverse)/\((busy aa U).map fun v=>(az aa v).reverse).flatten.Perm (leaving g p U):=by
 have hB:(busy aa U).Nodup:=Qv.filter _ hU;have hBU:∀ v∈busy aa U,v∈U/\az aa v≠[]:=by
  intro v hv;have:=Ql.1 hv
  grind
 have gS:∀ {B:List Int},B.Nodup->(∀ v∈B,v∈U)->(B.map fun v=>(az aa v).reverse).flatten.Nodup:=by
  intro B
  induction B with
  | nil=>intro _ _;simp
  | cons v B ih =>
   intro hB hs;rw[Qj] at hB;rw[Qd,Qa,Qi];refine⟨(List.reverse_perm _).nodup_iff.2 (h.nodup v),ih hB.2 (fun u hu=>hs u (by simp[hu])),fun a ha b hb=>?_⟩;rintro rfl;have ha:=Qq.1 ha;obtain⟨l,hl,jj⟩:=Qb.1 hb;obtain⟨u,hu,rfl⟩:=Qh.1 hl;have hv:=hn v (hs v (by simp));have hu':=hn u (hs u (by simp[hu]));have e1:=((h.mem v hv.1 hv.2 a).1 ha).2;have e2:=((h.mem u hu'.1 hu'.2 a).1 (Qq.1 jj)).2
   grind
 have MN:=gS hB (fun v hv=>(hBU v hv).1);refine⟨⟨fun c hc=>?_,MN⟩,?_⟩
 ·obtain⟨v,hv,rfl⟩:=Qh.1 hc
  have Ll:=hn v (hBU v hv).1;refine (lK (h.nodup v) (hBU v hv).2).congr fun x hx=>?_;have:=((h.mem v Ll.1 Ll.2 x).1 (Qq.1 hx)).2;show ahead (az aa v) x=ahead (az aa (g.tail x)) x;rw[this]
 refine (Qp MN ((dz hp).filter _)).2 fun d=>?_;constructor
 ·intro hd
  obtain⟨l,hl,zR⟩:=Qb.1 hd;obtain⟨v,hv,rfl⟩:=Qh.1 hl;have Ll:=hn v (hBU v hv).1;obtain⟨h1,h2⟩:=(h.mem v Ll.1 Ll.2 d).1 (Qq.1 zR)
  grind
 intro hd;obtain⟨h1,h2⟩:=Ql.1 hd;have h2:g.tail d∈U:=by simpa using h2
 have Ll:=hn _ h2;have Fp:=(h.mem _ Ll.1 Ll.2 d).2 ⟨h1,rfl⟩;refine Qb.2 ⟨_,Qh.2 ⟨g.tail d,Ql.2 ⟨h2,?_⟩,rfl⟩,Qq.2 Fp⟩
 grind
abbrev bn:=Int × List Int
structure ix (g:Gr) (p:Pt) (aa:List (List Int)) (W:List bn):Prop where
 rings:bw (aG g aa) ((W.filter fun f=>!f.2.isEmpty).map (·.2))
 all:((W.filter fun f=>!f.2.isEmpty).map (·.2)).flatten.Perm p.ah
 key:∀ f∈W,∀ d l,f.2=d :: l->f.1=d
 lone:((W.filter fun f=>f.2.isEmpty).map (·.1)).Perm ((p.v.filter fun v=>(az aa v).isEmpty).map fun v=>-1 - v)
def bn.bV (g:Gr) (f:bn):Int:=match f.2 with | []=>-1 - f.1 | _ :: _=>g.tail f.1
def vi (g:Gr) (p:Pt) (U:List Int):Prop:=∀ d∈p.ah,g.tail d∈U->g.head d∈U
theorem nu {g:Gr} {p:Pt} {aa:List (List Int)} (h:aR g p aa) (q8:∀ d∈p.ah,0<=g.tail d/\g.tail d<g.n) {d:Int} (hd:d∈p.ah):aG g aa d∈p.ah/\g.tail (aG g aa d)=g.head d:=by
 have ht:=bQ hd;have hv:=q8 _ ht;have hm:=(h.mem _ hv.1 hv.2 (aT d)).2 ⟨ht,rfl⟩;have hlen:0<(az aa (g.tail (aT d))).length:=by
  grind
 have fp:aG g aa d∈az aa (g.tail (aT d)):=by
  unfold aG before ahead;have:=Nat.mod_lt ((az aa (g.tail (aT d))).idxOf (aT d)+(az aa (g.tail (aT d))).length - 1) hlen
  grind
 obtain⟨h1,h2⟩:=(h.mem _ hv.1 hv.2 _).1 fp
 grind [aS]
theorem nM {C:List (List Int)} {D:List Int} {f:Int->Bool} (hp:C.flatten.Perm D) (hf:∀ c∈C,∀ x∈c,∀ y∈c,f x=f y) (bh:∀ c∈C,c≠[]) :
  ((C.filter fun c=>f (c.headD 0)).flatten).Perm (D.filter f):=by
 refine Qo.trans (Qo.of_eq ?_) (hp.filter f);clear hp
 induction C with
 | nil=>rfl
 | cons c C ih =>
  have ih:=ih (fun d hd=>hf d (by simp[hd])) (fun d hd=>bh d (by simp[hd]));rw[Qa (L:=C),Qz,<-ih];have hc:=hf c (by simp);have hn:=bh c (by simp);cases c with
  | nil=>exact absurd rfl hn
  | cons x l =>
   by_cases hx:f x=true
   ·rw[Qf (p:=fun c:List Int=>f (c.headD 0)) (a:=x :: l) (l:=C) (show (fun c:List Int=>f (c.headD 0)) (x :: l)=true from hx),Qa,(List.filter_eq_self (p:=f) (l:=x :: l)).2 (fun y hy=>by rw[hc y hy x (by simp)];exact hx)]
   rw[Qg (p:=fun c:List Int=>f (c.headD 0)) (a:=x :: l) (l:=C) (show ¬ (fun c:List Int=>f (c.headD 0)) (x :: l)=true from hx),(QE (p:=f) (l:=x :: l)).2 (fun y hy=>by rw[hc y hy x (by simp)];exact hx)];rfl
theorem mz {p:Int->Int} {f:Int->Bool} {z:Int}:∀ {l:List Int} {x:Int},Trail p x l z->(∀ y∈x :: l,f (p y)=f y)->∀ y∈x :: l,f y=f x
 | [],x,_,_,y,hy=>by simp at hy;rw[hy]
 | a :: l,x,h,hf,y,hy=>by
  have e:f a=f x:=by rw[<-h.1];exact hf x (by simp)
  rcases Qc.1 hy with rfl | hy
  ·rfl
  rw[<-e];exact mz h.2 (fun u hu=>hf u (Qw _ hu)) y hy
theorem vz {p:Int->Int} {f:Int->Bool} {c:List Int} (h:Ring p c) (hf:∀ y∈c,f (p y)=f y):∀ x∈c,∀ y∈c,f x=f y:=by
 cases c with
 | nil=>simp
 | cons a l=>exact fun x hx y hy=>(mz (show Trail p a l a from h) hf x hx).trans (mz (show Trail p a l a from h) hf y hy).symm
theorem jS {g:Gr} {p:Pt} {U:List Int} (hC:vi g p U) {d:Int} (hd:d∈p.ah):g.head d∈U↔g.tail d∈U:=by
 refine⟨fun h=>?_,hC d hd⟩;have h2:=hC (aT d) (bQ hd) (by grind [aS])
 grind [aS,bC]
theorem ng {g:Gr}:∀ {W:List bn},(∀ f∈W,∀ d l,f.2=d :: l->f.1=d)->∀ U:List Int,
  (W.filter fun f=>decide (f.bV g∈U)).length=(((W.filter fun f=>!f.2.isEmpty).map (·.2)).filter fun c=>decide (g.tail (c.headD 0)∈U)).length+((W.filter fun f=>f.2.isEmpty).map (·.1)).countP fun k=>decide (-1 - k∈U)
 | [],_,_=>rfl
 | (k,[]) :: W,hk,U=>by
  have ih:=ng (g:=g) (W:=W) (fun f hf=>hk f (by simp[hf])) U;rw[Qg (p:=fun f:bn=>!f.2.isEmpty) (by simp),Qf (p:=fun f:bn=>f.2.isEmpty) (by simp),Qd,List.countP_cons];by_cases q:-1 - k∈U
  ·rw[Qf (p:=fun f:bn=>decide (f.bV g∈U)) (show decide (bn.bV g (k,[])∈U)=true from decide_eq_true q),Qe,ih]
   simp only[q,decide_true,if_true];omega
  rw[Qg (p:=fun f:bn=>decide (f.bV g∈U)) (QL.1 (show decide (bn.bV g (k,[])∈U)=false from decide_eq_false q)),ih];simp only[q,decide_false,if_false,Bool.false_eq_true];omega
 | (k,d :: l) :: W,hk,U=>by
  have ih:=ng (g:=g) (W:=W) (fun f hf=>hk f (by simp[hf])) U;have e:k=d:=hk (k,d :: l) (by simp) d l rfl;subst e;rw[Qf (p:=fun f:bn=>!f.2.isEmpty) (by simp),Qg (p:=fun f:bn=>f.2.isEmpty) (by simp),Qd];by_cases q:g.tail k∈U
  ·rw[Qf (p:=fun f:bn=>decide (f.bV g∈U)) (show decide (bn.bV g (k,k :: l)∈U)=true from decide_eq_true q),Qf (p:=fun c:List Int=>decide (g.tail (c.headD 0)∈U)) (by simpa using q),Qe,Qe,ih]
   omega
  rw[Qg (p:=fun f:bn=>decide (f.bV g∈U)) (QL.1 (show decide (bn.bV g (k,k :: l)∈U)=false from decide_eq_false q)),Qg (p:=fun c:List Int=>decide (g.tail (c.headD 0)∈U)) (by simpa using q),ih]
theorem EU {g:Gr} {p:Pt} {aa:List (List Int)} {W:List bn} (h:aR g p aa) (hp:p.e.Nodup) (hv:p.v.Nodup) (q8:∀ d∈p.ah,0<=g.tail d/\g.tail d<g.n) (hW:ix g p aa W)
  {U:List Int} (hU:U.Nodup) (hUV:∀ v∈U,v∈p.v/\0<=v/\v<g.n) (hC:vi g p U) :
  (U.length+(p.e.filter fun e=>decide (g.tail (2*e)∈U)).length+(W.filter fun f=>decide (f.bV g∈U)).length) % 2=0:=by
 obtain⟨hR,Yc⟩:=lr h hp hU (fun v hv=>(hUV v hv).2);have Xk:(p.e.filter fun e=>decide (g.tail (2*e)∈U)).Nodup:=Qv.filter _ hp;have hA:=tO (p:=⟨U,p.e.filter fun e=>decide (g.tail (2*e)∈U)⟩) Xk;have hAd:((p.e.filter fun e=>decide (g.tail (2*e)∈U)).map fun e=>[2*e,2*e+1]).flatten=Pt.ah ⟨U,p.e.filter fun e=>decide (g.tail (2*e)∈U)⟩:=by rw[Pt.ah,List.flatMap_def]
 have hAp:Pt.ah ⟨U,p.e.filter fun e=>decide (g.tail (2*e)∈U)⟩ |>.Perm (leaving g p U):=by
  refine (Qp (dz Xk) ((dz hp).filter _)).2 fun d=>?_;show _↔d∈p.ah.filter fun d=>decide (g.tail d∈U);rw[aw];simp only[Ql,decide_eq_true_eq,aw];refine and_congr_right fun hd=>?_;by_cases hm:d % 2=0
  ·rw[show 2*(d / 2)=d by omega]
  have e:2*(d / 2)=aT d:=by unfold aT;rw[if_neg hm];omega
  rw[e,aS];exact jS hC (aw.2 hd)
 obtain⟨C,hCr,hCp,xj⟩:=bw.mul _ rfl hR hA (by grind);have aap:C.flatten.Perm (leaving g p U):=by rw[hAd] at hCp;exact hCp.trans hAp
 -- the walks of U
 have hWr:=hW.rings;have cL:∀ c∈(W.filter fun f=>!f.2.isEmpty).map (·.2),∀ x∈c,x∈p.ah:=fun c hc x hx=>hW.all.mem_iff.1 (Qb.2 ⟨c,hc,hx⟩);have hconst:∀ c∈(W.filter fun f=>!f.2.isEmpty).map (·.2),∀ x∈c,∀ y∈c,decide (g.tail x∈U)=decide (g.tail y∈U):=by
  intro c hc;refine vz (f:=fun d=>decide (g.tail d∈U)) (hWr.ring c hc) fun y hy=>?_
  grind [nu,jS]
 have bh:∀ c∈(W.filter fun f=>!f.2.isEmpty).map (·.2),c≠[]:=by
  intro c hc e;have:=hWr.ring c hc;rw[e] at this;exact this
 have hWp:=nM (f:=fun d=>decide (g.tail d∈U)) hW.all hconst bh;have hWU:bw (aG g aa) (((W.filter fun f=>!f.2.isEmpty).map (·.2)).filter fun c=>decide (g.tail (c.headD 0)∈U)) :=
  ⟨fun c hc=>hWr.ring c (Ql.1 hc).1,hWp.nodup_iff.2 ((dz hp).filter _)⟩
 have rA:=bw.count hWU (hCr.congr fun _ _=>rfl) (hWp.trans aap.symm)
 -- the lone ones
 have Y6:=hW.lone.countP_eq fun k=>decide (-1 - k∈U);have Gh:(W.filter fun f=>decide (f.bV g∈U)).length=(((W.filter fun f=>!f.2.isEmpty).map (·.2)).filter fun c=>decide (g.tail (c.headD 0)∈U)).length+((W.filter fun f=>f.2.isEmpty).map (·.1)).countP fun k=>decide (-1 - k∈U):=by
  exact ng hW.key U
 have aji:((p.v.filter fun v=>(az aa v).isEmpty).map fun v=>-1 - v).countP (fun k=>decide (-1 - k∈U))=(U.filter fun v=>(az aa v).isEmpty).length:=by
  rw[List.countP_map,List.countP_eq_length_filter];refine Qo.length_eq ?_;refine (Qp ((hv.filter _).filter _) (hU.filter _)).2 fun v=>?_
  grind
 have hUl:U.length=(busy aa U).length+(U.filter fun v=>(az aa v).isEmpty).length:=by
  unfold busy;clear hC Yc hR hAp hAd hA aap hCp xj hCr hWp hWU rA hconst Gh Y6 aji Xk hUV hU
  induction U with
  | nil=>rfl
  | cons v U ih =>
   grind
 grind [bL]
structure aB (g:Gr) (p:Pt):Prop where
 vn:p.v.Nodup
 en:p.e.Nodup
 vr:∀ v∈p.v,0<=v/\v<g.n
 er:∀ e∈p.e,0<=e
 ends:∀ e∈p.e,(g.at e).1∈p.v/\(g.at e).2∈p.v
theorem bN {l:List Int} {x:Int} (h:x∈l):∃ i,i<l.length/\l.getD i 0=x:=by
 obtain⟨i,hi,rfl⟩:=List.getElem_of_mem h;exact⟨i,hi,by grind⟩
theorem Pt.ay {g:Gr} {p:Pt} (h:p.err g=0):aB g p:=by
 obtain⟨h1,h2,h3,h4⟩:=Pt.aA h;refine⟨iK h2,iK h3,fun v hv=>?_,fun e he=>?_,fun e he=>?_⟩
 ·obtain⟨i,hi,rfl⟩:=bN hv
  have:=bX h2 hi
  grind
 ·obtain⟨i,hi,rfl⟩:=bN he
  exact (bX h3 hi).1
 obtain⟨i,hi,rfl⟩:=bN he;exact h4 i hi
theorem aB.aO {g:Gr} {p:Pt} (h:aB g p) {d:Int} (hd:d∈p.ah):g.tail d∈p.v/\g.head d∈p.v:=by
 have:=h.ends _ (aw.1 hd)
 all_goals grind [Gr.tail,Gr.head]
theorem eR {g:Gr} {p:Pt} {d:Int} (hd:d∈p.ah):oI g p (g.tail d) (g.head d):=by
 refine⟨d / 2,aw.1 hd,?_⟩
 all_goals grind [Gr.tail,Gr.head]
theorem rW {g:Gr} {p:Pt} (h:aB g p) (a:Int):vi g p (comp g p a):=by
 intro d hd ht;obtain⟨_,h2⟩:=cE.1 ht;have hh:=(h.aO hd).2;exact cE.2 ⟨hh,h2.step (eR hd) (by have:=h.vr _ hh;omega)⟩
theorem Gb {g:Gr} {p:Pt} (h:aB g p) (a:Int):(comp g p a).Nodup:=by
 classical
 exact Qv.filter _ h.vn
theorem nj {g:Gr} {p:Pt} (h:aB g p):(roots g p).Nodup:=by
 classical
 exact Qv.filter _ h.vn
theorem et (g:Gr) (e:Int):g.tail (2*e)=(g.at e).1/\g.head (2*e)=(g.at e).2:=by
 grind [Gr.tail,Gr.head]
theorem xV {g:Gr} {p:Pt} (h:aB g p) (a:Int):(p.sub g (comp g p a)).e=p.e.filter fun e=>decide (g.tail (2*e)∈comp g p a):=by
 unfold Pt.sub;refine QM fun e he=>?_
 all_goals grind [aw,et,jS,rW,comp]
theorem Ir {g:Gr} {p:Pt} (a:Int):(p.sub g (comp g p a)).v.length=(comp g p a).length:=by
 unfold Pt.sub
 classical
 have:p.v.filter (fun v=>decide (v∈comp g p a))=comp g p a:=by
  unfold comp;refine QM fun v hv=>?_;simp[hv]
 rw[this]
theorem ly {g:Gr} {p:Pt} {aa:List (List Int)} {W:List bn} (h:aB g p) (hW:ix g p aa W):∀ f∈W,f.bV g∈p.v:=by
 intro f hf;obtain⟨k,l⟩:=f;cases l with
 | nil =>
  have:k∈(W.filter fun f=>f.2.isEmpty).map (·.1):=Qh.2 ⟨(k,[]),Ql.2 ⟨hf,rfl⟩,rfl⟩;obtain⟨v,hv,e⟩:=Qh.1 (hW.lone.mem_iff.1 this);show -1 - k∈p.v
  grind
 | cons d l =>
  have e:k=d:=hW.key (k,d :: l) hf d l rfl;subst e;have:k∈p.ah:=hW.all.mem_iff.1 (Qb.2 ⟨k :: l,Qh.2 ⟨(k,k :: l),Ql.2 ⟨hf,rfl⟩,rfl⟩,by simp⟩);exact (h.aO this).1
noncomputable def de (g:Gr) (p:Pt) (W:List bn) (r:Int):Int :=
 (2 - ((comp g p r).length:Int)+((p.e.filter fun e=>decide (g.tail (2*e)∈comp g p r)).length:Int) - ((W.filter fun f=>decide (f.bV g∈comp g p r)).length:Int)).tdiv 2
theorem D8 {g:Gr} {p:Pt} {aa:List (List Int)} {W:List bn} (h:aB g p) (ht:aR g p aa) (hW:ix g p aa W) {r:Int} (hz:de g p W r=0) :
  (comp g p r).length+(W.filter fun f=>decide (f.bV g∈comp g p r)).length=2+(p.e.filter fun e=>decide (g.tail (2*e)∈comp g p r)).length:=by
 have YT:=EU ht h.en h.vn (fun d hd=>h.vr _ (h.aO hd).1) hW (Gb h r) (fun v hv=>⟨(cE.1 hv).1,h.vr _ (cE.1 hv).1⟩) (rW h r)
 grind [de,comp,bn.bV]
theorem rE {α:Type} {g:Gr} {p:Pt} (h:aB g p) (f:α->Int) (L:List α) (hf:∀ x∈L,f x∈p.v):((roots g p).map fun r=>(L.filter fun x=>decide (f x∈comp g p r)).length).sum=L.length:=by
 refine sG (fun x r=>decide (f x∈comp g p r)) (nj h) fun x hx=>⟨?_,fun r hr s hs h1 h2=>?_⟩
 ·obtain⟨r,hr,hc⟩:=tg (g:=g) (fun v hv=>(h.vr v hv).1) (hf x hx)
  grind [cE]
 exact qm (fun v hv=>(h.vr v hv).1) hr hs (cE.1 (of_decide_eq_true h1)).2 (cE.1 (of_decide_eq_true h2)).2
theorem y4 {α:Type} {f g:α->Nat}:∀ {R:List α},(∀ r∈R,f r=g r)->(R.map f).sum=(R.map g).sum
 | [],_=>rfl
 | a :: R,h=>by rw[Qd,Qd,Qt,Qt,h a (by simp),y4 fun r hr=>h r (by simp[hr])]
theorem yE (c:Nat) {α:Type}:∀ R:List α,(R.map fun _=>c).sum=c*R.length
 | []=>rfl
 | a :: R=>by rw[Qd,Qt,yE c R,Qe,Nat.mul_succ];omega
theorem sO {g:Gr} {p:Pt} {aa:List (List Int)} {W:List bn} (h:aB g p) (ht:aR g p aa) (hW:ix g p aa W) (hz:∀ r∈roots g p,de g p W r=0) :
  p.v.length+W.length=2*(roots g p).length+p.e.length:=by
 have e1:=rE h (fun v=>v) p.v (fun _ hv=>hv);have e2:=rE h (fun e=>g.tail (2*e)) p.e (fun e he=>(h.aO (aw.2 (by rwa[show 2*e / 2=e by omega]))).1);have e3:=rE h (fun f:bn=>f.bV g) W (ly h hW);have e0:(roots g p).map (fun r=>(p.v.filter fun v=>decide (v∈comp g p r)).length)=(roots g p).map fun r=>(comp g p r).length:=Qs fun r _=>Ir r;have e4:=y4 (R:=roots g p) (f:=fun r=>(comp g p r).length+(W.filter fun f=>decide (f.bV g∈comp g p r)).length) (g:=fun r=>2+(p.e.filter fun e=>decide (g.tail (2*e)∈comp g p r)).length) (fun r hr=>D8 h ht hW (hz r hr))
 grind [sum_add,yE]
end Go.Proofs.YtoiflofhcmjpoaaGreat.Plain
namespace Go.Proofs.YtoiflofhcmjpoaaGreat
open Go.RowKit Go.Maps
structure ag (own:List Nat) (w w':World):Prop where
 os:w'.os=w.os
 tape:w'.tape=w.tape
 output:w'.output=w.output
 size:w.heap.size<=w'.heap.size
 block:∀ k,k<w.heap.size->k ∉ own->w'.heap[k]?=w.heap[k]?
theorem ag.refl (own:List Nat) (w:World):ag own w w:=⟨rfl,rfl,rfl,Nat.le_refl _,fun _ _ _=>rfl⟩
theorem ag.trans {own gH:List Nat} {a b c:World} (h:ag own a b) (k:ag gH b c) (hs:∀ j∈gH,j∈own\/a.heap.size<=j):ag own a c :=
 ⟨k.os.trans h.os,k.tape.trans h.tape,k.output.trans h.output,QJ h.size k.size,fun i hi hn =>
  (k.block i (Nat.lt_of_lt_of_le hi h.size) (fun e=>by rcases hs i e with h1 | h1;exact hn h1;omega)).trans (h.block i hi hn)⟩
theorem ag.mono {own gH:List Nat} {a b:World} (h:ag own a b) (hs:∀ j∈own,j∈gH\/a.heap.size<=j):ag gH a b :=
 ⟨h.os,h.tape,h.output,h.size,fun i hi hn=>h.block i hi (fun e=>by rcases hs i e with h1 | h1;exact hn h1;omega)⟩
theorem ag.drew {own:List Nat} {a w:World} (h:ag own a w):ag own a w.drew:=⟨h.os,h.tape,h.output,h.size,h.block⟩
theorem ag.alloc {own:List Nat} {a w:World} (h:ag own a w) (o:Obj):ag own a (w.alloc o) :=
 h.trans (gH:=[]) ⟨rfl,rfl,rfl,by simp,fun k hk _=>Below.heap_alloc _ _ _ hk⟩ (by simp)
theorem ag.setCell {own:List Nat} {a w:World} (h:ag own a w) {p:Addr} (hp:p.block∈own\/a.heap.size<=p.block) (u:Value):ag own a (w.setCell p u) :=
 h.trans (gH:=[p.block]) ⟨rfl,rfl,rfl,by simp[World.setCell],fun k _ hn=>Below.heap_setCell _ _ _ _ (by simpa using hn)⟩ (by simpa using hp)
theorem ag.grown {own:List Nat} {a w w':World} {row:Option Nat} (h:ag own a w) (hg:w.grownBy w' row) (hr:∀ k,row=some k->k∈own\/a.heap.size<=k):ag own a w' :=
 h.trans (gH:=row.toList) ⟨hg.os,hg.tape,hg.output,hg.size,fun k hk hn=>hg.block k hk (fun e=>hn (by simp[<-e]))⟩ (fun j hj=>hr j (by simpa using hj))
theorem ag.below {a w:World} (h:ag [] a w):Below a.heap.size a w:=⟨h.os,h.tape,h.output,h.size,fun k hk=>h.block k hk (by simp)⟩
theorem ag.grownBy {a w:World} {own:List Nat} (h:ag own a w) {row:Option Nat} (hr:∀ k∈own,some k=row):a.grownBy w row :=
 ⟨h.os,h.tape,h.output,h.size,fun k hk hn=>h.block k hk (fun e=>hn (hr k e))⟩
theorem ag.mL {a w:World} {B:Nat} (h:Below B a w) (hB:a.heap.size<=B):ag [] a w:=⟨h.os,h.tape,h.output,h.size,fun k hk _=>h.block k (by omega)⟩
theorem ag.cell {own:List Nat} {a w:World} (h:ag own a w) {p:Addr} {v:Value} (hc:a.cell? p=some v) (hn:p.block ∉ own):w.cell? p=some v :=
 (World.cell?_of_block (w:=a) (h.block p.block (QD a p hc) hn)).trans hc
theorem ag.frozen {own:List Nat} {a w:World} (h:ag own a w) {p:Addr} {v:Value} (hc:a.cell? p=some v) (hf:a.frozen? p=false) (hn:p.block ∉ own):w.frozen? p=false :=
 (World.frozen?_of_block (w:=a) (h.block p.block (QD a p hc) hn)).trans hf
theorem bP {w:World} {p:Addr} {v:Value} (h:w.cell? p=some v) (o:Obj):(w.alloc o).cell? p=some v:=((ag.refl [] w).alloc o).cell h (by simp)
theorem Lv (x:Int):∀ u∈(#[Value.int .i64 x]).toList,u.oneCell'=true:=by intro u hu;simp at hu;subst hu;rfl
theorem pC (a:Option Addr) (n c:Nat):∀ u∈(#[Value.slice a n c]).toList,u.oneCell'=true:=by intro u hu;simp at hu;subst hu;rfl
theorem ag.heap {own:List Nat} {a w:World} (h:ag own a w) {k:Nat} {o:Obj} (hc:a.heap[k]?=some o) (hn:k ∉ own):w.heap[k]?=some o :=
 (h.block k (lt_of_block hc) hn).trans hc
theorem ag.tr {own:List Nat} {a b c:World} (h:ag own a b) (k:ag [] b c):ag own a c:=h.trans k (by simp)
theorem ag.dp {a w:World} (h:ag [] a w) {p:Addr} {v:Value} (hc:a.cell? p=some v):w.cell? p=some v:=h.cell hc (by simp)
theorem ag.hp {a w:World} (h:ag [] a w) {k:Nat} {o:Obj} (hc:a.heap[k]?=some o):w.heap[k]?=some o:=h.heap hc (by simp)
theorem heap_setCell_same {w:World} {b:Nat} {cs:Array Value} {t:TypeId} {r:Nat × Nat} (h:w.heap[b]?=some (.cells cs t r)) (i:Nat) (u:Value):(w.setCell ⟨b,i,none⟩ u).heap[b]?=some (.cells (cs.setIfInBounds i u) t r):=by
 have aL:=lt_of_block h;have h':w.heap[b]=.cells cs t r:=by simpa[Array.getElem?_eq_getElem aL] using h
 show (w.heap.modify b _)[b]?=_
 grind
theorem bm {a b:Bool} (h:a=b):Ending.returned (.bool a)=.returned (.bool b):=by rw[h]
theorem bO {a b:Int} (h:a=b):Ending.returned (.int .i64 a)=.returned (.int .i64 b):=by rw[h]
theorem four {w:World} {b:Nat} {a0 a1 a2 a3:Value} {t:TypeId} (h:w.heap[b]?=some (.cells #[a0,a1,a2,a3] t (0,0))) :
  w.cell? ⟨b,0,none⟩=some a0/\w.cell? ⟨b,1,none⟩=some a1/\w.cell? ⟨b,2,none⟩=some a2/\w.cell? ⟨b,3,none⟩=some a3/\w.frozen? ⟨b,1,none⟩=false/\w.frozen? ⟨b,2,none⟩=false/\w.frozen? ⟨b,3,none⟩=false:=by
 simp[World.cell?,World.frozen?,h]
theorem bI:Keyed Tryz.prog 3:=int_keyed Tryz.underlying3
theorem qf (w:World):(zeroValue 3).run Tryz.prog w=.ok (.int .i64 0) w:=by kernel_rfl
def aU (x:Int):Prop:=(Lit.int .i64 x).wf=true
theorem aU.mk {x:Int} (h1:-9223372036854775808<=x) (h2:x<=9223372036854775807):aU x:=WalkArith.wf_i64 (by omega)
def bK (w:World) (b n:Nat) (f:Int->Option Int):Prop :=
 ∃ D:DataW Unit,w.ownsMap Tryz.prog 3 (plainElem Tryz.prog 3) b n D /\
  ∀ x,aU x->Maps.has D (.int .i64 x)=(f x).isSome/\D.atKey (.int .i64 x) (.lit (.int .i64 0))=.lit (.int .i64 ((f x).getD 0))
theorem bK.made (w:World):bK (w.alloc (.map #[] 0)) w.heap.size 0 (fun _=>none) :=
 ⟨.map [],World.ownsMap_made _ _ _ _,fun _ _=>⟨rfl,rfl⟩⟩
theorem bK.lt {w:World} {b n:Nat} {f:Int->Option Int} (h:bK w b n f):b<w.heap.size:=by obtain⟨D,h,_⟩:=h;exact h.lt
theorem bK.mono {w:World} {b n n':Nat} {f:Int->Option Int} (h:bK w b n f) (hn:n<=n'):bK w b n' f:=by obtain⟨D,h,g⟩:=h;exact⟨D,h.mono hn,g⟩
theorem bK.aD {w w':World} {own:List Nat} {b n:Nat} {f:Int->Option Int} (h:bK w b n f) (hc:ag own w w') (hb:b ∉ own):bK w' b n f:=by
 obtain⟨D,⟨es,clock,he,r⟩,g⟩:=h;exact⟨D,⟨es,clock,hc.heap he hb,r⟩,g⟩
theorem bK.kept {w w':World} {row:Option Nat} {b n:Nat} {f:Int->Option Int} (h:bK w b n f) (hc:w.grownBy w' row) (hb:some b≠row):bK w' b n f:=by
 obtain⟨D,h,g⟩:=h;exact⟨D,h.kept hc hb,g⟩
theorem bK.alloc {w:World} {b n:Nat} {f:Int->Option Int} (h:bK w b n f) (o:Obj):bK (w.alloc o) b n f:=h.kept (World.grownBy_alloc w o none) (by simp)
theorem bK.ne {w:World} {b n:Nat} {f:Int->Option Int} (h:bK w b n f) {k:Nat} {cs:Array Value} {t:TypeId} {r:Nat × Nat} (hk:w.heap[k]?=some (.cells cs t r)):k≠b:=by
 obtain⟨D,⟨es,clock,he,_⟩,_⟩:=h
 grind
theorem kJ {x y:Int} (h:x≠y):(Lit.int .i64 x)≠.int .i64 y:=by grind
section
variable (w : World) {ops : Array Oper} {rest : List Oper} {o : Oper} {a : Act} {Q : Exit -> Act -> World -> Prop}
theorem eG (hg:o.guard=none) (m x:Operand) (jM:o.op=Op.lookup 124 m x true) {b n:Nat} {f:Int->Option Int} (h:bK w b n f) (hm:a.eval m=.map (some b))
  {k v:Int} (hk:aU k) (hx:a.eval x=.int .i64 k) (hf:Hid (f k=some v)) (hK:wpList Tryz.prog ops Q rest (a.put o.dst (.tuple #[.int .i64 v,.bool true])) w):wpList Tryz.prog ops Q (o :: rest) a w:=by
 obtain⟨D,bH,hv⟩:=h;refine wpList_lookup_own_ok_int w hg m x _ jM _ _ .i64 bI Tryz.underlying124 Tryz.underlying3 (qf _) b n D hm bH _ _ hx (keyOf_int_mk Tryz.underlying3 hk) (fun c dU _=>?_);obtain⟨h1,h2⟩:=hv k hk;rw[hf.out] at h1 h2
 grind
theorem di (hg:o.guard=none) (m x:Operand) (jM:o.op=Op.lookup 124 m x true) {b n:Nat} {f:Int->Option Int} (h:bK w b n f) (hm:a.eval m=.map (some b))
  {k:Int} (hk:aU k) (hx:a.eval x=.int .i64 k) (hf:Hid (f k=none)) (hK:wpList Tryz.prog ops Q rest (a.put o.dst (.tuple #[.int .i64 0,.bool false])) w):wpList Tryz.prog ops Q (o :: rest) a w:=by
 obtain⟨D,bH,hv⟩:=h;refine wpList_lookup_own_ok_int w hg m x _ jM _ _ .i64 bI Tryz.underlying124 Tryz.underlying3 (qf _) b n D hm bH _ _ hx (keyOf_int_mk Tryz.underlying3 hk) (fun c dU _=>?_);obtain⟨h1,h2⟩:=hv k hk;rw[hf.out] at h1 h2
 grind
theorem iZ (hg:o.guard=none) (m x:Operand) (jM:o.op=Op.lookup 124 m x false) {b n:Nat} {f:Int->Option Int} (h:bK w b n f) (hm:a.eval m=.map (some b))
  {k:Int} (hk:aU k) (hx:a.eval x=.int .i64 k) {v:Int} (hf:Hid ((f k).getD 0=v)) (hK:wpList Tryz.prog ops Q rest (a.put o.dst (.int .i64 v)) w):wpList Tryz.prog ops Q (o :: rest) a w:=by
 obtain⟨D,bH,hv⟩:=h;refine wpList_lookup_own_int w hg m x _ jM _ _ .i64 bI Tryz.underlying124 Tryz.underlying3 (qf _) b n D hm bH _ _ hx (keyOf_int_mk Tryz.underlying3 hk) (fun c dU _=>?_);obtain⟨h1,h2⟩:=hv k hk;rw[h2,hf.out] at dU
 grind
theorem gF (hg:o.guard=none) (m x u:Operand) (jM:o.op=Op.mapUpdate 124 m x u) {b n:Nat} {f:Int->Option Int} (h:bK w b n f) (hn:n<maxLen) (hm:a.eval m=.map (some b))
  {k v:Int} (hk:aU k) (hv:aU v) (hx:a.eval x=.int .i64 k) (hu:a.eval u=.int .i64 v)
  (hK:∀ w',bK w' b (n+1) (fun y=>if y=k then some v else f y)->w.grownBy w' (some b)->wpList Tryz.prog ops Q rest (a.put o.dst undef) w'):wpList Tryz.prog ops Q (o :: rest) a w:=by
 obtain⟨D,bH,hD⟩:=h;refine wpList_mapUpdate_own w hg m x u _ jM _ _ bI Tryz.underlying124 _ b n D hm bH hn _ _ _ hx hu (keyOf_int_mk Tryz.underlying3 hk) _ [] (plainElem_int Tryz.underlying3 hv) (fun w' h1 h2=>hK w' ⟨_,h1,fun y hy=>?_⟩ h2);by_cases e:y=k
 ·subst e
  have nS:=bI.key (keyOf_int_mk Tryz.underlying3 hk);rw[has_put_same bH.isMap nS,atKey_put_same bH.isMap nS];simp
 rw[has_put_other (kJ e),atKey_put_other (kJ e)]
 grind
end
def al (w:World) (v:Value) (l:List Int):Prop :=
 ∃ ao cap,v=.slice ao l.length cap/\(∀ x∈l,aU x)/\l.length<=9223372036854775807/\(l≠[]->∃ b off,ao=some ⟨b,off,none⟩/\∀ i,i<l.length->w.cell? ⟨b,off+i,none⟩=some (.int .i64 (l.getD i 0)))
theorem al.nil (w:World):al w (.slice none 0 0) []:=⟨none,0,rfl,by simp,by simp,by simp⟩
theorem al.aD {w w':World} {v:Value} {l:List Int} {own:List Nat} (h:al w v l) (hc:ag own w w') (hn:∀ b n c,v=.slice (some b) n c->b.block ∉ own):al w' v l:=by
 obtain⟨ao,cap,rfl,h1,h2,h3⟩:=h;refine⟨ao,cap,rfl,h1,h2,fun hl=>?_⟩;obtain⟨b,off,rfl,h4⟩:=h3 hl;exact⟨b,off,rfl,fun i hi=>hc.cell (h4 i hi) (show b ∉ own from hn ⟨b,off,none⟩ _ _ rfl)⟩
theorem al.fresh {w w':World} {v:Value} {l:List Int} (h:al w v l) (hc:ag [] w w'):al w' v l:=h.aD hc (by simp)
structure nh (t e:TypeId) (z:Value) (size bytes:Nat):Prop where
 ht:Tryz.prog.underlying t=some (.slice e)
 hi:(Tryz.prog.info? e).map (fun i=>(i.zero,i.size,i.bytes))=some (some z,size,bytes)
 hz:z.cells.size=size
 h0:0<size
 hb:bytes<=1024
theorem bW:nh 25 3 (.int .i64 0) 1 8:=⟨Tryz.underlying25,by kernel_rfl,rfl,by decide,by decide⟩
theorem ji:nh 48 25 (.slice none 0 0) 1 24:=⟨Tryz.underlying48,by kernel_rfl,rfl,by decide,by decide⟩
theorem kZ {t e:TypeId} {z:Value} {size bytes:Nat} (E:nh t e z size bytes) {w0 w:World} {B:Nat} {v:Value} {n:Nat} {xs:List Value} (bH:w0.ownsRow B e size v n xs) (hB:B<=w0.heap.size) {cs:Array Value} (ja:cs.size=size) (h1:∀ u∈cs.toList,u.oneCell'=true) (hn:n<68719476736)
  (hw:w=w0.alloc (.cells cs e)\/w=(w0.alloc (.cells cs e)).drew) (ty:TypeId) :
  ∃ g cap w',(Builtin.append_ #[t,t] ty #[v,.slice (some ⟨w0.heap.size,0,none⟩) 1 1]).run Tryz.prog w=.ok (.slice (some ⟨g,0,none⟩) (n+1) cap) w' /\
   w'.ownsRow B e size (.slice (some ⟨g,0,none⟩) (n+1) cap) (n+1) (xs++cs.toList)/\ag v.ownBlock.toList w0 w'/\(v.ownBlock=some g\/w0.heap.size<=g):=by
 have acb:w.ownsRow B e size v n xs:=by rcases hw with rfl | rfl;exact bH.alloc _;exact bH.alloc _
 have dV:ag [] w0 w:=by rcases hw with rfl | rfl;exact (ag.refl _ _).alloc _;exact ((ag.refl _ _).alloc _).drew
 have dj:w.heap.size=w0.heap.size+1:=by rcases hw with rfl | rfl <;> simp[World.drew]
 have sB:∀ j u,cs.toList[j]?=some u->w.cell? ((⟨w0.heap.size,0,none⟩:Addr).add j)=some u:=by
  intro j u hu;have iu:(⟨w0.heap.size,0,none⟩:Addr).add j=⟨w0.heap.size,j,none⟩:=by unfold Addr.add;split <;> simp_all
  have hblk:w.heap[w0.heap.size]?=some (.cells cs e (0,0)):=by rcases hw with rfl | rfl <;> exact heap_alloc_new _ _
  rw[iu,cell_of_row w _ j cs e (0,0) hblk];simpa using hu
 obtain⟨i0,hi,y9,jq,nO⟩:=info_parts E.hi;have hb:=E.hb;obtain⟨v',w',hr,h2,h3,h4,h5⟩:=run_append_own_at (P:=Tryz.prog) w B t ty e i0 z size bytes E.ht hi y9 jq nO E.hz E.h0 v n xs acb ⟨w0.heap.size,0,none⟩ 1 1 cs.toList (by grind) sB h1 (by unfold maxLen;omega) (QJ (Nat.mul_le_mul_left _ hb) (by omega)) (by omega);obtain⟨g,cap,rfl⟩:∃ g cap,v'=.slice (some ⟨g,0,none⟩) (n+1) cap:=by
  rcases h2.2 with ⟨_,e⟩ | ⟨g,cap,_,rfl,_⟩
  all_goals grind
 refine⟨g,cap,w',hr,h2,(dV.mono (by simp)).grown h3 (fun j hj=>QG (by grind)),?_⟩;rcases h5 with h4 | h4
 ·exact QG h4.symm
 simp only[Value.ownBlock,Option.some.injEq] at h4
 grind
section
variable {ops : Array Oper} {rest : List Oper} {o : Oper} {a : Act} {Q : Exit -> Act -> World -> Prop}
theorem oK {t e:TypeId} {z:Value} {size bytes:Nat} (E:nh t e z size bytes) {w0:World} (hg:o.guard=none) (s x:Operand) (ho:o.op=.call { callee:=.builtin .append,args:=#[s,x],argTypes:=#[t,t] })
  {B:Nat} {v:Value} {n m:Nat} {xs:List Value} {cs:Array Value} (hs:a.eval s=v) (hx:a.eval x=.slice (some ⟨m,0,none⟩) 1 1) (hm:m=w0.heap.size) (bH:w0.ownsRow B e size v n xs) (hB:B<=w0.heap.size) (ja:cs.size=size) (h1:∀ u∈cs.toList,u.oneCell'=true) (hn:n<68719476736)
  (hK:∀ g cap w',w'.ownsRow B e size (.slice (some ⟨g,0,none⟩) (n+1) cap) (n+1) (xs++cs.toList)->ag v.ownBlock.toList w0 w'->(v.ownBlock=some g\/w0.heap.size<=g) ->
   wpList Tryz.prog ops Q rest (a.put o.dst (.slice (some ⟨g,0,none⟩) (n+1) cap)) w'):wpList Tryz.prog ops Q (o :: rest) a (w0.alloc (.cells cs e)):=by
 subst hm;refine wpList_plain hg fun K ta=>?_;obtain⟨g,cap,w',hr,r1,r2,r3⟩:=kZ E bH hB ja h1 hn (QG rfl) o.type;unfold Oper.wp execOp;simp only[ho,resolve,invoke,builtin,Sem.run_bind,Sem.run_pure,Result.andThen_ok,QQ,Qd,QV,hs,hx,hr];exact ta _ _ (hK g cap w' r1 r2 r3)
theorem N4 {t e:TypeId} {z:Value} {size bytes:Nat} (E:nh t e z size bytes) {w0 w:World} {K:Act->World->Prop} {F:Prop} (hg:o.guard=none) (s x:Operand) (ho:o.op=.call { callee:=.builtin .append,args:=#[s,x],argTypes:=#[t,t] })
  {B:Nat} {v:Value} {n m:Nat} {xs:List Value} {cs:Array Value} (hs:a.eval s=v) (hx:a.eval x=.slice (some ⟨m,0,none⟩) 1 1) (hm:m=w0.heap.size) (bH:w0.ownsRow B e size v n xs) (hB:B<=w0.heap.size) (ja:cs.size=size) (h1:∀ u∈cs.toList,u.oneCell'=true) (hn:n<68719476736)
  (hw:w=w0.alloc (.cells cs e)\/w=(w0.alloc (.cells cs e)).drew)
  (hK:∀ g cap w',w'.ownsRow B e size (.slice (some ⟨g,0,none⟩) (n+1) cap) (n+1) (xs++cs.toList)->ag v.ownBlock.toList w0 w'->(v.ownBlock=some g\/w0.heap.size<=g) ->
   K (a.put o.dst (.slice (some ⟨g,0,none⟩) (n+1) cap)) w'):if Region.wanted o (yielded ops a.tmps)=true then Oper.wp Tryz.prog o a w K Q else F:=by
 subst hm;have hw':Region.wanted o (yielded ops a.tmps)=true:=by simp[Region.wanted,hg]
 rw[if_pos hw'];obtain⟨g,cap,w',hr,r1,r2,r3⟩:=kZ E bH hB ja h1 hn hw o.type;unfold Oper.wp execOp;simp only[ho,resolve,invoke,builtin,Sem.run_bind,Sem.run_pure,Result.andThen_ok,QQ,Qd,QV,hs,hx,hr];exact hK g cap w' r1 r2 r3
theorem vF {w0:World} (hg:o.guard=none) (s x:Operand) (ho:o.op=.call { callee:=.builtin .append,args:=#[s,x],argTypes:=#[25,25] })
  {v:Value} {n m:Nat} {xs:List Value} {k:Int} {B:Nat} (hs:a.eval s=v) (hx:a.eval x=.slice (some ⟨m,0,none⟩) 1 1) (hm:m=w0.heap.size) (bH:w0.ownsRow B 3 1 v n xs) (hB:B<=w0.heap.size) (hn:n<68719476736)
  (hK:∀ g cap w',w'.ownsRow B 3 1 (.slice (some ⟨g,0,none⟩) (n+1) cap) (n+1) (xs++[.int .i64 k])->ag v.ownBlock.toList w0 w'->(v.ownBlock=some g\/w0.heap.size<=g) ->
   wpList Tryz.prog ops Q rest (a.put o.dst (.slice (some ⟨g,0,none⟩) (n+1) cap)) w'):wpList Tryz.prog ops Q (o :: rest) a (w0.alloc (.cells #[.int .i64 k] 3)) :=
 oK bW hg s x ho hs hx hm bH hB rfl (by intro u hu;simp at hu;subst hu;rfl) hn hK
theorem Hq {t e:TypeId} {z:Value} {size bytes:Nat} (E:nh t e z size bytes) {w:World} (hg:o.guard=none) (l c:Operand) (jM:o.op=Op.makeSlice t l c) {B n:Nat} (hl:a.eval l=.int .i64 n) (hc:a.eval c=.int .i64 n) (hB:B<=w.heap.size) (hn:n<68719476736)
  (hK:∀ w',w'.ownsRow B e size (.slice (some ⟨w.heap.size,0,none⟩) n n) n (madeCells z.cells (n*size)).toList->ag [] w w'->wpList Tryz.prog ops Q rest (a.put o.dst (.slice (some ⟨w.heap.size,0,none⟩) n n)) w') :
  wpList Tryz.prog ops Q (o :: rest) a w:=by
 obtain⟨i0,hi,y9,jq,nO⟩:=info_parts E.hi;have hb:=E.hb;refine wpList_make_full w hg l c t jM B e i0 z size E.ht hi y9 jq .i64 .i64 _ _ n hl hc rfl rfl ?_ (by unfold maxLen;omega) hB (fun w' h1 h2=>hK w' h1 ((ag.refl _ _).grown h2 (by simp)));rw[nO];exact QJ (Nat.mul_le_mul_right _ hb) (by omega)
end
theorem Z1 {α:Type} {xs:List α} {i:Nat} (h:i<xs.toArray.size):xs.toArray[i]'h=xs[i]'(by simpa using h):=rfl
theorem Z2 {α:Type} {a:α} {xs:List α} {h:0<(a :: xs).length}:(a :: xs)[0]'h=a:=rfl
theorem Z3 {α:Type} {a:α} {xs:List α} {i:Nat} {h:i+1<(a :: xs).length}:(a :: xs)[i+1]'h=xs[i]'(Nat.lt_of_succ_lt_succ h):=rfl
theorem Z4 {α:Type} {l:List α} {i:Nat} {a:α}:l.toArray.setIfInBounds i a=(l.set i a).toArray:=List.setIfInBounds_toArray ..
theorem Z5 {α:Type} {x:α} {xs:List α} {a:α}:(x :: xs).set 0 a=a :: xs:=rfl
theorem lh {p:Prop} (h:p):RowKit.Hid p:=h
theorem Z6 {α:Type} {x:α} {xs:List α} {n:Nat} {a:α}:(x :: xs).set (n+1) a=x :: xs.set n a:=rfl
def dJ (w:World) (v:Value) (g:Plain.Gr):Prop :=
 ∃ eo cap,v=.agg #[.int .i64 g.n,.slice eo g.e.length cap]/\aU g.n/\g.e.length<=9223372036854775807 /\
  (∀ i,i<g.e.length->aU (g.ends i).1/\aU (g.ends i).2) /\
  (∀ i,i<g.e.length->∃ b off,eo=some ⟨b,off,none⟩/\w.cell? ⟨b,off+i*2,none⟩=some (.int .i64 (g.ends i).1)/\w.cell? ⟨b,off+i*2+1,none⟩=some (.int .i64 (g.ends i).2))
def fL (w:World) (v:Value) (p:Plain.Pt):Prop:=∃ v1 v2,v=.agg #[v1,v2]/\al w v1 p.v/\al w v2 p.e
def gV (v:Value):Prop:=∃ ao n cap,v=.slice ao n cap/\n<=cap/\cap<=9223372036854775807
def cf (w:World) (v:Value) (ll:List (List Int)):Prop :=
 ∃ ao cap,v=.slice ao ll.length cap/\ll.length<=9223372036854775807 /\
  ∀ i,i<ll.length->∃ b off u,ao=some ⟨b,off,none⟩/\w.cell? ⟨b,off+i,none⟩=some u/\gV u/\al w u (ll.getD i [])
theorem dJ.fresh {w w':World} {v:Value} {g:Plain.Gr} (h:dJ w v g) (hc:ag [] w w'):dJ w' v g:=by
 obtain⟨eo,cap,e,h1,h2,h3,h4⟩:=h;refine⟨eo,cap,e,h1,h2,h3,fun i hi=>?_⟩;obtain⟨b,off,e1,c1,c2⟩:=h4 i hi;exact⟨b,off,e1,hc.cell c1 (by simp),hc.cell c2 (by simp)⟩
theorem fL.fresh {w w':World} {v:Value} {p:Plain.Pt} (h:fL w v p) (hc:ag [] w w'):fL w' v p:=by
 obtain⟨v1,v2,e,h1,h2⟩:=h;exact⟨v1,v2,e,h1.fresh hc,h2.fresh hc⟩
theorem cf.fresh {w w':World} {v:Value} {ll:List (List Int)} (h:cf w v ll) (hc:ag [] w w'):cf w' v ll:=by
 obtain⟨ao,cap,e,h1,h2⟩:=h;refine⟨ao,cap,e,h1,fun i hi=>?_⟩;obtain⟨b,off,u,e1,c1,c2,c3⟩:=h2 i hi;exact⟨b,off,u,e1,hc.cell c1 (by simp),c2,c3.fresh hc⟩
end Go.Proofs.YtoiflofhcmjpoaaGreat
namespace Go.Proofs.YtoiflofhcmjpoaaGreat
structure St where
 all:List Int
 dx:List Nat
def pos (l:List Int) (x:Int):Option Int:=if x∈l then some ((l.idxOf x:Nat):Int) else none
theorem N8 {l:List Int} {x:Int} (h:x∈l):pos l x=some ((l.idxOf x:Nat):Int):=if_pos h
theorem Mb {l:List Int} {x:Int} (h:x ∉ l):pos l x=none:=if_neg h
theorem Na {l:List Int} {x:Int} (h:x ∉ l):(fun y=>if y=x then some ((l.length:Nat):Int) else pos l y)=pos (l++[x]):=by
 all_goals grind [pos]
def St.put (s:St) (x:Int):St:=if x∈s.all then s else ⟨s.all++[x],s.dx++[s.all.length]⟩
def St.count (s:St):Nat:=(Qk s.dx.length).countP fun i=>s.dx.getD i 0==i
def St.hd (s:St) (i:Nat):Nat:=s.dx.getD i 0
def Up (up dx:List Nat):Prop:=up.length=dx.length/\∀ i,i<up.length->up.getD i 0<=i/\dx.getD i 0=if up.getD i 0=i then i else dx.getD (up.getD i 0) 0
theorem Up.le {up dx:List Nat} (h:Up up dx):∀ i,i<up.length->dx.getD i 0<=i/\up.getD (dx.getD i 0) 0=dx.getD i 0:=by
 intro i
 induction i using Nat.strongRecOn with
 | _ i ih =>
  intro hi;obtain⟨h1,h2⟩:=h.2 i hi
  all_goals grind
theorem Up.fix {up dx:List Nat} (h:Up up dx) {i:Nat} (hi:i<up.length) (e:up.getD i 0=i):dx.getD i 0=i:=by
 have:=(h.2 i hi).2
 grind
theorem Up.own {up dx:List Nat} (h:Up up dx) {i:Nat} (hi:i<up.length):dx.getD (dx.getD i 0) 0=dx.getD i 0:=by
 grind [Up.le,Up.fix]
theorem Up.next {up dx:List Nat} (h:Up up dx) {i:Nat} (hi:i<up.length):dx.getD (up.getD i 0) 0=dx.getD i 0:=by
 have:=(h.2 i hi).2
 all_goals grind
theorem uH (l:List Nat) (i v j:Nat) (hi:i<l.length):(l.set i v).getD j 0=if j=i then v else l.getD j 0:=by
 all_goals grind
theorem Up.aa7 {up dx:List Nat} (h:Up up dx) {i:Nat} (hi:i<up.length) (e:up.getD i 0≠i):Up (up.set i (up.getD (up.getD i 0) 0)) dx:=by
 have h1:=(h.2 i hi).1;have h2:=(h.2 (up.getD i 0) (by omega)).1;refine⟨by simpa using h.1,fun j hj=>?_⟩;rw[uH _ _ _ _ hi];by_cases ej:j=i
 ·subst ej
  simp only[if_true];rw[if_neg (by omega),h.next (by omega),h.next hi]
  grind
 rw[if_neg ej];exact h.2 j (by grind)
theorem Up.put {up dx:List Nat} (h:Up up dx):Up (up++[up.length]) (dx++[dx.length]):=by
 refine⟨by simp[h.1],fun i hi=>?_⟩;by_cases e:i=up.length
 ·subst e
  simp[h.1]
 have xA:i<up.length:=by simp at hi;omega
 have h1:=h.2 i xA;have e1:(up++[up.length]).getD i 0=up.getD i 0:=by simp only[QH];rw[Qr xA]
 have e2:(dx++[dx.length]).getD i 0=dx.getD i 0:=by have:=h.1;simp only[QH];rw[Qr (by omega)]
 have e3:(dx++[dx.length]).getD (up.getD i 0) 0=dx.getD (up.getD i 0) 0:=by have:=h.1;simp only[QH];rw[Qr (by simpa[QH] using (by omega:up.getD i 0<dx.length))]
 grind
def relabel (dx:List Nat) (i j:Nat):List Nat:=dx.map fun g=>if g=max i j then min i j else g
theorem getD_map (dx:List Nat) (f:Nat->Nat) (i:Nat) (hi:i<dx.length):(dx.map f).getD i 0=f (dx.getD i 0):=by grind
theorem Up.join {up dx:List Nat} (h:Up up dx) {i j:Nat} (hi:i<up.length) (hj:j<up.length) (ei:up.getD i 0=i) (ej:up.getD j 0=j) (ne:i≠j):Up (up.set (max i j) (min i j)) (relabel dx i j):=by
 have hl:=h.1;have hm:max i j<up.length:=by omega
 refine⟨by grind [relabel],fun k hk=>?_⟩;have X9:k<up.length:=by simpa using hk
 obtain⟨h1,h2⟩:=h.2 k X9;unfold relabel;rw[uH _ _ _ _ hm,getD_map _ _ _ (by omega)];have gi:=h.fix hi ei;have gj:=h.fix hj ej;by_cases e:k=max i j
 all_goals grind
def St.join (s:St) (x y:Int):St :=
 let t:=(s.put x).put y
 ⟨t.all,relabel t.dx (t.hd (t.all.idxOf x)) (t.hd (t.all.idxOf y))⟩
def St.same (s:St) (x y:Int):Bool:=decide (x∈s.all)&&decide (y∈s.all)&&s.hd (s.all.idxOf x)==s.hd (s.all.idxOf y)
theorem pM (dx:List Nat) (i:Nat):relabel dx i i=dx:=by
 unfold relabel;rw[Qs (g:=id)]
 ·simp
 all_goals grind
theorem St.iU {s:St} {x:Int} (h:x∈s.all):s.put x=s:=if_pos h
theorem St.dX {s:St} {x:Int} (h:x ∉ s.all):s.put x=⟨s.all++[x],s.dx++[s.all.length]⟩:=if_neg h
theorem St.Iw {s:St} {x:Int} (h:x ∉ s.all) (hl:s.all.length=s.dx.length):(s.put x).count=s.count+1:=by
 rw[St.dX h];unfold St.count;simp only[Qn,Qe,QS,QU];rw[Qx,QA]
 congr 1
 ·refine QN (fun i hi=>?_)
  grind
 simp[hl]
theorem St.count_le (s:St):s.count<=s.dx.length:=by
 unfold St.count;have:=List.countP_le_length (p:=fun i=>s.dx.getD i 0==i) (l:=Qk s.dx.length)
 grind
theorem mC (p q:Nat->Bool) (m:Nat) (hp:p m=true) (hq:q m=false) (h:∀ k,k≠m->p k=q k):∀ n,m<n->(Qk n).countP p=(Qk n).countP q+1
 | 0,hm=>by omega
 | n+1,hm=>by
  rw[Qx,QA,QA];by_cases e:m=n
  ·subst e
   have:(Qk m).countP p=(Qk m).countP q:=QN (fun k hk=>by rw[h k (by have:=Qu.1 hk;omega)]);simp[this,hp,hq]
  have ih:=mC p q m hp hq h n (by omega);have:p n=q n:=h n (Ne.symm e);simp only[List.countP_singleton,this,ih];omega
theorem St.wP {all:List Int} {dx:List Nat} {i j:Nat} (hi:i<dx.length) (hj:j<dx.length) (ei:dx.getD i 0=i) (ej:dx.getD j 0=j) (ne:i≠j) :
  St.count ⟨all,dx⟩=St.count ⟨all,relabel dx i j⟩+1:=by
 have gm:dx.getD (max i j) 0=max i j:=by
  all_goals grind
 have gn:dx.getD (min i j) 0=min i j:=by
  all_goals grind
 unfold St.count;simp only[show (relabel dx i j).length=dx.length by simp[relabel]];refine mC _ _ (max i j) (by grind) ?_ ?_ _ (by omega)
 all_goals grind [relabel,getD_map]
def St.AW (s:St) (x y:Int):Bool :=
 let t:=(s.put x).put y
 t.hd (t.all.idxOf x) != t.hd (t.all.idxOf y)
theorem St.lD (s:St) (x:Int):x∈(s.put x).all:=by
 by_cases h:x∈s.all
 all_goals grind [St.iU,St.dX]
theorem St.jJ {s:St} {x:Int} (y:Int) (h:x∈s.all):x∈(s.put y).all:=by
 by_cases hy:y∈s.all
 all_goals grind [St.iU,St.dX]
theorem St.lU {s:St} {x:Int} (y:Int) (h:x∈s.all):(s.put y).all.idxOf x=s.all.idxOf x:=by
 by_cases hy:y∈s.all
 all_goals grind [St.iU,St.dX]
theorem St.zE (s:St) (x:Int):s.all.length<=(s.put x).all.length/\(s.put x).all.length<=s.all.length+1:=by
 by_cases h:x∈s.all
 all_goals grind [St.iU,St.dX]
theorem St.Lq (s:St) (x y:Int):s.AW x y=(((s.put x).put y).hd ((s.put x).all.idxOf x) != ((s.put x).put y).hd (((s.put x).put y).all.idxOf y)):=by
 grind [St.AW,St.lU,St.lD]
theorem St.join_eq (s:St) (x y:Int):s.join x y=⟨((s.put x).put y).all,relabel ((s.put x).put y).dx (((s.put x).put y).hd ((s.put x).all.idxOf x)) (((s.put x).put y).hd (((s.put x).put y).all.idxOf y))⟩:=by
 grind [St.join,St.lU,St.lD]
structure St.Ok (s:St):Prop where
 len:s.all.length=s.dx.length
 nodup:s.all.Nodup
 le:∀ i,i<s.dx.length->s.hd i<=i
 own:∀ i,i<s.dx.length->s.hd (s.hd i)=s.hd i
def St.cZ (s:St) (k:Nat):List Nat:=(Qk k).filter fun i=>s.hd i==i
def St.row (s:St) (k h:Nat):List Int:=((Qk k).filter fun i=>s.hd i==h).map fun i=>s.all.getD i 0
def St.gr (s:St) (k:Nat):List (List Int):=(s.cZ k).map (s.row k)
def St.groups (s:St):List (List Int):=s.gr s.all.length
theorem St.lS (s:St) (k:Nat):s.cZ (k+1)=if s.hd k=k then s.cZ k++[k] else s.cZ k:=by
 unfold St.cZ;rw[Qx,Qz]
 grind
theorem St.Nk (s:St) (k h:Nat):s.row (k+1) h=if s.hd k=h then s.row k h++[s.all.getD k 0] else s.row k h:=by
 unfold St.row;rw[Qx,Qz]
 grind
theorem St.nE {s:St} {k h:Nat}:h∈s.cZ k↔h<k/\s.hd h=h:=by simp[St.cZ]
theorem St.j' (s:St) (k:Nat):(s.cZ k).Nodup:=Qv.filter _ List.nodup_range
def St.wO (s:St) (k:Nat):List (List Int):=if s.hd k=k then s.gr k++[[]] else s.gr k
def St.gI (s:St) (k:Nat):Nat:=(s.cZ (k+1)).idxOf (s.hd k)
theorem St.Ap {s:St} (hs:s.Ok) {k:Nat} (hk:k<s.dx.length):s.gI k<(s.cZ (k+1)).length :=
 List.idxOf_lt_length_iff.2 (St.nE.2 ⟨by have:=hs.le k hk;omega,hs.own k hk⟩)
theorem St.tN (s:St) (k:Nat):(s.wO k).length=(s.cZ (k+1)).length:=by
 grind [St.wO,St.lS,St.hd,St.gr]
theorem St.N3 {s:St} (hs:s.Ok) {k:Nat} (hk:k<s.dx.length):s.row k k=[]:=by
 unfold St.row;rw[List.map_eq_nil_iff,QE];intro i hi;have xA:i<k:=Qu.1 hi;have:=hs.le i (by omega);simp;omega
theorem St.Rq {s:St} (hs:s.Ok) {k:Nat} (hk:k<s.dx.length):s.gr (k+1)=(s.wO k).set (s.gI k) ((s.wO k).getD (s.gI k) []++[s.all.getD k 0]):=by
 have hr:=St.Ap hs hk;have aim:s.wO k=(s.cZ (k+1)).map (s.row k):=by
  all_goals grind [St.wO,St.gr,St.lS,St.hd,St.N3]
 have gS:=s.j' (k+1);have Gy:(s.cZ (k+1))[s.gI k]'hr=s.hd k:=List.getElem_idxOf hr;unfold St.gr;rw[aim];apply List.ext_getElem
 ·simp
 intro i h1 h2;simp only[List.length_map] at h1;rw[QR,s.Nk];by_cases e:i=s.gI k
 ·subst e
  rw[List.getElem_set_self,if_pos Gy.symm,Gy];simp[QH,hr,Gy]
 rw[List.getElem_set_ne (Ne.symm e),QR,if_neg];intro e1;apply e;have:(s.cZ (k+1))[i]=(s.cZ (k+1))[s.gI k]'hr:=by rw[Gy];exact e1.symm
 exact (List.getElem_inj gS).1 this
theorem St.xM {s:St} {k h:Nat} (hh:h<k) (e:s.hd h=h):(s.cZ (k+1)).idxOf h=(s.cZ k).idxOf h:=by
 all_goals grind [St.lS,St.hd,St.nE]
theorem St.Sn {s:St} {k:Nat} (e:s.hd k=k):(s.cZ (k+1)).idxOf k=(s.cZ k).length:=by
 grind [St.lS,St.nE]
theorem St.Mo (s:St) (k:Nat):(s.cZ k).length<=k:=by
 grind [St.hd,St.cZ]
theorem St.VT (s:St) (k h:Nat):(s.row k h).length<=k:=by
 grind [St.hd,St.row]
theorem St.Me (s:St) (k q:Nat):((s.gr k).getD q []).length<=k:=by
 grind [St.gr,St.VT]
theorem St.RZ (s:St) (k q:Nat):((s.wO k).getD q []).length<=k:=by
 unfold St.wO;by_cases h:s.hd k=k
 ·rw[if_pos h]
  have:=s.Me k q
  all_goals grind
 all_goals grind [St.Me]
theorem ag.t{o o':List Nat}{a b c:World}(h:ag o a b)(k:ag o' b c)(hs:∀j∈o',j∈o\/a.heap.size<=j:=by simp):ag o a c:=h.trans k hs
theorem ag.c{o:List Nat}{a w:World}(h:ag o a w){p:Addr}{v:Value}(hc:a.cell? p=some v)(hn:p.block∉o:=by simp):w.cell? p=some v:=h.cell hc hn
end Go.Proofs.YtoiflofhcmjpoaaGreat
