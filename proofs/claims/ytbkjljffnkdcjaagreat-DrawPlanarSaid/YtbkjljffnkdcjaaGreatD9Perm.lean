/- Permutations in rings: swapping two eD makes one ring more or less; the parity of a product. No program here. -/
import Derived.WalkKit
open List renaming flatten_cons→Qa,mem_cons→Qb,mem_flatten→Qc,cons_append→Qd,length_cons→Qe,nodup_append→Qf,nodup_cons→Qg,filter_cons_of_pos→Qh,filter_cons_of_neg→Qi,Perm→Qj,length_append→Qk,perm_append_comm→Ql,mem_filter→Qm,mem_map→Qn,map_cons→Qo,mem_append→Qp,perm_ext_iff_of_nodup→Qq,perm_middle→Qr,mem_reverse→Qs,mem_cons_of_mem→Qt,range→Qu,mem_range→Qv,append_of_mem→Qw,append_assoc→Qx,all_eq_true→Qz,flatten_append→QC,map_congr_left→QD,sum_cons→QE,mem_cons_self→QF,flatMap_cons→QG,getD→QJ,filter_cons→QK,flatMap_def→QL,nil_append→QN,Pairwise→QO
open Bool renaming not_eq_true'→Qy,and_eq_false_iff→QA,or_eq_false_iff→QB,eq_false_iff→QH
open Or renaming inl→QI,inr→QP
open Nat renaming mod_eq_of_lt→QM
namespace Go.Proofs.YtbkjljffnkdcjaaGreat.Plain
def Trail (p:Int->Int):Int->List Int->Int->Prop
 | x,[],z=>p x=z
 | x,y :: l,z=>p x=y/\Trail p y l z
theorem Trail.append {p:Int->Int} {y z:Int}:∀ {l m:List Int} {x:Int},Trail p x (l++y :: m) z↔Trail p x l y/\Trail p y m z
 | [],_,_=>Iff.rfl
 | a :: l,m,x=>by
  show p x=a/\Trail p a (l++y :: m) z↔(p x=a/\Trail p a l y)/\Trail p y m z;rw[Trail.append (l:=l)];exact and_assoc.symm
theorem Trail.congr {p q:Int->Int} {z:Int}:∀ {l:List Int} {x:Int},(∀ y,y=x\/y∈l->p y=q y)->Trail p x l z->Trail q x l z
 | [],x,h,t=>by show q x=z;rw[<-h x (QI rfl)];exact t
 | a :: l,x,h,t=>⟨by rw[<-h x (QI rfl)];exact t.1,Trail.congr (fun y hy=>h y (QP (by rcases hy with rfl | hy <;> simp[*]))) t.2⟩
def Ring (p:Int->Int):List Int->Prop
 | []=>False
 | x :: l=>Trail p x l x
structure bC (p:Int->Int) (C:List (List Int)):Prop where
 ring:∀ c∈C,Ring p c
 nodup:C.flatten.Nodup
theorem Ring.aa {p:Int->Int} {l m:List Int} {x y:Int} (h:Ring p (x :: l++y :: m)):Ring p (y :: m++x :: l):=by
 have h':Trail p x (l++y :: m) x:=h;rw[Trail.append] at h';show Trail p y (m++x :: l) y;rw[Trail.append];exact h'.symm
theorem Ring.from {p:Int->Int} {c:List Int} {x:Int} (h:Ring p c) (hx:x∈c):∃ l,Ring p (x :: l)/\(x :: l).Perm c:=by
 obtain⟨a,b,rfl⟩:=Qw hx;cases a with
 | nil=>exact⟨b,h,Qj.refl _⟩
 | cons y a =>
  refine⟨b++y :: a,Ring.aa h,?_⟩;exact Ql (l₁:=x :: b) (l₂:=y :: a)
theorem bC.perm {p:Int->Int} {C D:List (List Int)} (h:bC p C) (hp:C.Perm D):bC p D :=
 ⟨fun c hc=>h.ring c (hp.mem_iff.2 hc),(hp.flatten).nodup_iff.1 h.nodup⟩
theorem bC.front {p:Int->Int} {C:List (List Int)} {x:Int} (h:bC p C) (hx:x∈C.flatten):∃ l D,bC p ((x :: l) :: D)/\((x :: l) :: D).length=C.length/\((x :: l) :: D).flatten.Perm C.flatten:=by
 obtain⟨c,hc,Fw⟩:=Qc.1 hx;obtain⟨a,b,rfl⟩:=Qw hc;obtain⟨l,hr,hl⟩:=(h.ring c hc).from Fw;have hp:(a++c :: b).Perm (c :: (a++b)):=Qr;have h2:=h.perm hp;have hf:((x :: l) :: (a++b)).flatten.Perm (c :: (a++b)).flatten:=by
  simp only[Qa];exact hl.append_right _
 refine⟨l,a++b,⟨fun d hd=>?_,hf.nodup_iff.2 h2.nodup⟩,by simp;omega,hf.trans hp.symm.flatten⟩;rcases Qb.1 hd with rfl | hd
 ·exact hr
 exact h2.ring d (Qt _ hd)
def swp (a b x:Int):Int:=if x=a then b else if x=b then a else x
theorem swp_left (a b:Int):swp a b a=b:=if_pos rfl
theorem swp_right (a b:Int):swp a b b=a:=by unfold swp;split <;> simp_all
theorem eM {a b x:Int} (h1:x≠a) (h2:x≠b):swp a b x=x:=by unfold swp;rw[if_neg h1,if_neg h2]
theorem Ring.eM {p:Int->Int} {a b:Int} {c:List Int} (h:Ring p c) (ha:a ∉ c) (hb:b ∉ c):Ring (fun x=>p (swp a b x)) c:=by
 cases c with
 | nil=>exact h
 | cons x l =>
  refine Trail.congr (fun y hy=>?_) (show Trail p x l x from h);have hy:y∈x :: l:=by rcases hy with rfl | hy <;> simp[*]
  show p y=p (swp a b y);rw[Plain.eM (a:=a) (b:=b) (x:=y) (fun e=>ha (by rw[<-e];exact hy)) (fun e=>hb (by rw[<-e];exact hy))]
theorem bC.VP {p:Int->Int} {C:List (List Int)} {a b:Int} (h:bC p C) (ha:a∈C.flatten) (hb:b∈C.flatten) (lT:a≠b) :
  ∃ D,bC (fun x=>p (swp a b x)) D/\D.flatten.Perm C.flatten/\((D.length=C.length+1/\∃ E,bC p E/\E.flatten.Perm C.flatten/\∃ c∈E,a∈c/\b∈c)\/(D.length+1=C.length/\∃ c∈D,a∈c/\b∈c)):=by
 obtain⟨l,E,hE,hlen,dA⟩:=h.front ha;have hbE:b∈((a :: l) :: E).flatten:=dA.mem_iff.2 hb;have fs:=hE.nodup;simp only[Qa] at hbE fs;have hra:=hE.ring (a :: l) (by simp);by_cases fT:b∈l
 ·obtain⟨u,v,rfl⟩:=Qw fT
  have Np:Trail p a (u++b :: v) a:=hra;rw[Trail.append] at Np;have akM:=fs;rw[Qf] at fs;have yJ:=fs.1;simp only[Qg,Qp,Qb,not_or,Qf] at yJ;refine⟨(a :: v) :: (b :: u) :: E,⟨fun c hc=>?_,?_⟩,?_,QI ⟨by simp at hlen ⊢;omega,(a :: (u++b :: v)) :: E,hE,dA,_,QF,by simp,by simp⟩⟩
  ·rcases Qb.1 hc with rfl | hc
   ·show Trail _ a v a
    cases v with
    | nil=>show p (swp a b a)=a;rw[swp_left];exact Np.2
    | cons y v =>
     refine⟨?_,Trail.congr (fun z hz=>?_) Np.2.2⟩
     ·show p (swp a b a)=y
      rw[swp_left];exact Np.2.1
     have Kw:z∈y :: v:=by rcases hz with rfl | hz <;> simp[*]
     show p z=p (swp a b z);rw[Plain.eM (fun e=>by subst e;exact yJ.1.2.2 Kw) (fun e=>by subst e;exact yJ.2.2.1.1 Kw)]
   rcases Qb.1 hc with rfl | hc
   ·show Trail _ b u b
    cases u with
    | nil=>show p (swp a b b)=b;rw[swp_right];exact Np.1
    | cons y u =>
     refine⟨?_,Trail.congr (fun z hz=>?_) Np.1.2⟩
     ·show p (swp a b b)=y
      rw[swp_right];exact Np.1.1
     have Kw:z∈y :: u:=by rcases hz with rfl | hz <;> simp[*]
     show p z=p (swp a b z);rw[Plain.eM (fun e=>by subst e;exact yJ.1.1 Kw) (fun e=>yJ.2.2.2 z Kw b (QI rfl) e)]
   refine (hE.ring c (by simp[hc])).eM (fun q=>?_) (fun q=>?_)
   ·exact fs.2.2 a (by simp) a (Qc.2 ⟨c,hc,q⟩) rfl
   exact fs.2.2 b (by simp) b (Qc.2 ⟨c,hc,q⟩) rfl
  ·refine Qj.nodup_iff ?_ |>.1 akM
   simp only[Qa,Qd,Qx];refine Qj.cons a ?_;have:(u++b :: v).Perm (v++b :: u):=by
    refine (Qr (l₁:=u) (a:=b) (l₂:=v)).trans ?_;rw[<-Qd];exact (Ql (l₁:=b :: u) (l₂:=v))
   have:=this.append_right E.flatten;simpa using this
  refine Qj.trans ?_ dA;simp only[Qa,Qd,Qx];refine Qj.cons a ?_;have:(v++b :: u).Perm (u++b :: v):=by
   refine (Qr (l₁:=v) (a:=b) (l₂:=u)).trans ?_;rw[<-Qd];exact (Ql (l₁:=b :: v) (l₂:=u))
  have:=this.append_right E.flatten;simpa using this
 have alJ:b∈E.flatten:=by
  simp only[Qd,Qb,Qp] at hbE;rcases hbE with q | q | q
  ·exact absurd q.symm lT
  ·exact absurd q fT
  exact q
 rw[Qf] at fs;have hEE:bC p E:=⟨fun c hc=>hE.ring c (by simp[hc]),fs.2.1⟩;obtain⟨u,F,hF,We,Hj⟩:=hEE.front alJ;have MC:=hF.ring (b :: u) (by simp);have hbu:∀ z∈b :: u,z∈E.flatten:=fun z hz=>Hj.mem_iff.1 (by simp only[Qa,Qp];exact QI hz);have UW:=hF.nodup;simp only[Qa] at UW;rw[Qf] at UW;have yJ:=fs.1;simp only[Qg] at yJ;have hbn:=UW.1;simp only[Qg] at hbn;have hpp:((a :: u++b :: l) :: F).flatten.Perm ((a :: l) :: E).flatten:=by
  simp only[Qa,Qd,Qx];refine Qj.cons a ?_;have h1:(u++b :: l).Perm (l++b :: u):=by
   refine (Qr (l₁:=u) (a:=b) (l₂:=l)).trans ?_;rw[<-Qd];exact Ql (l₁:=b :: u) (l₂:=l)
  have h2:=h1.append_right F.flatten;have h3:(l++((b :: u)++F.flatten)).Perm (l++E.flatten):=Qj.append_left l (by simpa using Hj);refine Qj.trans (by simpa using h2) (by simpa using h3)
 refine⟨(a :: u++b :: l) :: F,⟨fun c hc=>?_,hpp.nodup_iff.2 hE.nodup⟩,hpp.trans dA,QP ⟨by simp at hlen We ⊢;omega,_,QF,by simp,by simp⟩⟩;rcases Qb.1 hc with rfl | hc
 ·show Trail _ a (u++b :: l) a
  rw[Trail.append];constructor
  ·cases u with
   | nil=>show p (swp a b a)=b;rw[swp_left];exact MC
   | cons y u =>
    have afF:p b=y/\Trail p y u b:=MC;refine⟨?_,Trail.congr (fun z hz=>?_) afF.2⟩
    ·show p (swp a b a)=y
     rw[swp_left];exact afF.1
    have Kw:z∈y :: u:=by rcases hz with rfl | hz <;> simp[*]
    show p z=p (swp a b z);rw[Plain.eM (fun e=>by subst e;exact fs.2.2 z (by simp) z (hbu z (by simp[Kw])) rfl) (fun e=>by subst e;exact hbn.1 Kw)]
  cases l with
  | nil=>show p (swp a b b)=a;rw[swp_right];exact hra
  | cons y l =>
   have aew:p a=y/\Trail p y l a:=hra;refine⟨?_,Trail.congr (fun z hz=>?_) aew.2⟩
   ·show p (swp a b b)=y
    rw[swp_right];exact aew.1
   have Kw:z∈y :: l:=by rcases hz with rfl | hz <;> simp[*]
   show p z=p (swp a b z);rw[Plain.eM (fun e=>by subst e;exact yJ.1 Kw) (fun e=>by subst e;exact fT Kw)]
 have hcE:∀ z∈c,z∈E.flatten:=fun z hz=>Hj.mem_iff.1 (by simp only[Qa,Qp,Qc];exact QP ⟨c,hc,hz⟩);refine (hF.ring c (by simp[hc])).eM (fun q=>?_) (fun q=>?_)
 ·exact fs.2.2 a (by simp) a (hcE a q) rfl
 exact UW.2.2 b (by simp) b (Qc.2 ⟨c,hc,q⟩) rfl
theorem bC.swap {p:Int->Int} {C:List (List Int)} {a b:Int} (h:bC p C) (ha:a∈C.flatten) (hb:b∈C.flatten) (lT:a≠b) :
  ∃ D,bC (fun x=>p (swp a b x)) D/\D.flatten.Perm C.flatten/\(D.length=C.length+1\/D.length+1=C.length):=by
 obtain⟨D,h1,h2,h3⟩:=h.VP ha hb lT;exact⟨D,h1,h2,h3.imp And.left And.left⟩
theorem Trail.det {p:Int->Int} {x:Int}:∀ {l m:List Int} {a:Int},Trail p a l x->Trail p a m x->x ∉ l->x ∉ m->l=m
 | [],[],_,_,_,_,_=>rfl
 | [],y :: m,a,h,k,_,h2=>absurd (k.1.symm.trans h) (fun e=>h2 (by rw[e];simp))
 | y :: l,[],a,h,k,h1,_=>absurd (h.1.symm.trans k) (fun e=>h1 (by rw[e];simp))
 | y :: l,z :: m,a,h,k,h1,h2=>by
  have e:y=z:=h.1.symm.trans k.1;subst e;rw[Trail.det h.2 k.2 (fun q=>h1 (by simp[q])) (fun q=>h2 (by simp[q]))]
theorem bC.count {p:Int->Int}:∀ {C D:List (List Int)},bC p C->bC p D->C.flatten.Perm D.flatten->C.length=D.length
 | [],D,_,hD,hp=>by
  cases D with
  | nil=>rfl
  | cons d D =>
   have hd:=hD.ring d (by simp);cases d with
   | nil=>exact absurd hd (by simp[Ring])
   | cons x l=>have:=hp.length_eq;simp at this
 | [] :: C,D,hC,_,_=>absurd (hC.ring [] (by simp)) (by simp[Ring])
 | (x :: l) :: C,D,hC,hD,hp=>by
  obtain⟨m,E,hE,hlen,dA⟩:=hD.front (x:=x) (hp.mem_iff.1 (by simp));have n1:=hC.nodup;have n2:=hE.nodup;simp only[Qa,Qd,Qg,Qp,not_or] at n1 n2;have e:l=m:=Trail.det (hC.ring (x :: l) (by simp)) (hE.ring (x :: m) (by simp)) n1.1.1 n2.1.1;subst e;have yE:=hp.trans dA.symm;simp only[Qa] at yE;have hp3:=(List.perm_append_left_iff _).1 yE;have UZ:bC p C:=⟨fun c hc=>hC.ring c (by simp[hc]),((Qf.1 n1.2).2).1⟩;have Ac:bC p E:=⟨fun c hc=>hE.ring c (by simp[hc]),((Qf.1 n2.2).2).1⟩;have:=bC.count UZ Ac hp3;simp at hlen ⊢;omega
theorem Trail.map {p:Int->Int} {z:Int}:∀ {l:List Int} {x:Int},Trail p x l z->(x :: l).map p=l++[z]
 | [],x,h=>by show [p x]=[z];rw[show p x=z from h]
 | y :: l,x,h=>by
  rw[Qo,Trail.map h.2,h.1];rfl
theorem Ring.l8 {p:Int->Int} {c:List Int} (h:Ring p c):(c.map p).Perm c:=by
 cases c with
 | nil=>exact absurd h (by simp[Ring])
 | cons x l =>
  rw[Trail.map (show Trail p x l x from h)];exact Ql (l₁:=l) (l₂:=[x])
theorem oM {p:Int->Int}:∀ {C:List (List Int)},(∀ c∈C,Ring p c)->(C.flatten.map p).Perm C.flatten
 | [],_=>Qj.refl _
 | c :: C,h=>by
  rw[Qa,List.map_append];exact (h c (by simp)).l8.append (oM fun d hd=>h d (by simp[hd]))
theorem dE {p:Int->Int}:∀ {l:List Int},(l.map p).Nodup->∀ x∈l,∀ y∈l,p x=p y->x=y
 | [],_,x,hx,_,_,_=>by simp at hx
 | a :: l,h,x,hx,y,hy,e=>by
  rw[Qo,Qg] at h;rcases Qb.1 hx with e1 | hx <;> rcases Qb.1 hy with e2 | hy
  ·rw[e1,e2]
  ·exact absurd (Qn.2 ⟨y,hy,by rw[<-e,e1]⟩) h.1
  ·exact absurd (Qn.2 ⟨x,hx,by rw[e,e2]⟩) h.1
  exact dE h.2 x hx y hy e
theorem bC.inj {p:Int->Int} {C:List (List Int)} (h:bC p C):∀ x∈C.flatten,∀ y∈C.flatten,p x=p y->x=y :=
 dE ((oM h.ring).nodup_iff.2 h.nodup)
theorem bC.pred {p:Int->Int} {C:List (List Int)} (h:bC p C) {x:Int} (hx:x∈C.flatten):∃ y∈C.flatten,p y=x :=
 Qn.1 ((oM h.ring).mem_iff.2 hx)
theorem bC.next {p:Int->Int} {C:List (List Int)} (h:bC p C) {x:Int} (hx:x∈C.flatten):p x∈C.flatten :=
 (oM h.ring).mem_iff.1 (Qn.2 ⟨x,hx,rfl⟩)
theorem Ring.congr {p q:Int->Int} {c:List Int} (h:Ring p c) (e:∀ x∈c,p x=q x):Ring q c:=by
 cases c with
 | nil=>exact h
 | cons x l=>exact Trail.congr (fun y hy=>e y (by rcases hy with rfl | hy <;> simp[*])) (show Trail p x l x from h)
theorem bC.congr {p q:Int->Int} {C:List (List Int)} (h:bC p C) (e:∀ x∈C.flatten,p x=q x):bC q C :=
 ⟨fun c hc=>(h.ring c hc).congr fun x hx=>e x (Qc.2 ⟨c,hc,hx⟩),h.nodup⟩
theorem J1 (a b x:Int):swp a b (swp a b x)=x:=by
 unfold swp
 repeat' split
 all_goals simp_all
theorem bC.swap' {p:Int->Int} {C:List (List Int)} {a b:Int} (h:bC p C) (ha:a∈C.flatten) (hb:b∈C.flatten) (lT:a≠b) :
  ∃ D,bC (fun x=>swp a b (p x)) D/\D.flatten.Perm C.flatten/\(D.length=C.length+1\/D.length+1=C.length):=by
 obtain⟨a',ha',rfl⟩:=h.pred ha;obtain⟨b',Cc,rfl⟩:=h.pred hb;obtain⟨D,h1,h2,h3⟩:=h.swap ha' Cc (fun e=>lT (by rw[e]));refine⟨D,h1.congr fun x hx=>?_,h2,h3⟩;have hx':=h2.mem_iff.1 hx;by_cases e1:x=a'
 ·subst e1;rw[swp_left,swp_left]
 by_cases e2:x=b'
 ·subst e2;rw[swp_right,swp_right]
 rw[Plain.eM e1 e2,Plain.eM (fun e=>e1 (h.inj x hx' a' ha' e)) (fun e=>e2 (h.inj x hx' b' Cc e))]
theorem bC.cut {p:Int->Int} {x y:Int} {l:List Int} {R:List (List Int)} (h:bC p ((x :: y :: l) :: R)):bC (fun z=>p (swp y x z)) ([y] :: (x :: l) :: R):=by
 have fs:=h.nodup;have hr:p x=y/\Trail p y l x:=h.ring (x :: y :: l) (by simp);have hp:([y] :: (x :: l) :: R).flatten.Perm ((x :: y :: l) :: R).flatten:=by
  simp only[Qa,Qd,QN];exact Qj.swap _ _ _
 simp only[Qa] at fs;rw[Qf] at fs;have yJ:=fs.1;simp only[Qg,Qb,not_or] at yJ;refine⟨fun c hc=>?_,hp.nodup_iff.2 h.nodup⟩;rcases Qb.1 hc with rfl | hc
 ·show p (swp y x y)=y
  rw[swp_left];exact hr.1
 rcases Qb.1 hc with rfl | hc
 ·show Trail _ x l x
  cases l with
  | nil=>show p (swp y x x)=x;rw[swp_right];exact hr.2
  | cons z l =>
   refine⟨?_,Trail.congr (fun u hu=>?_) hr.2.2⟩
   ·show p (swp y x x)=z
    rw[swp_right];exact hr.2.1
   have hum:u∈z :: l:=by rcases hu with rfl | hu <;> simp[*]
   show p u=p (swp y x u);rw[Plain.eM (fun e=>by subst e;exact yJ.2.1 hum) (fun e=>by subst e;exact yJ.1.2 hum)]
 refine (h.ring c (by simp[hc])).eM (fun q=>?_) (fun q=>?_)
 ·exact fs.2.2 y (by simp) y (Qc.2 ⟨c,hc,q⟩) rfl
 exact fs.2.2 x (by simp) x (Qc.2 ⟨c,hc,q⟩) rfl
theorem xL {p:Int->Int}:∀ {C:List (List Int)},(∀ c∈C,Ring p c)->C.length<=C.flatten.length
 | [],_=>by simp
 | c :: C,h=>by
  have h1:=xL (C:=C) fun d hd=>h d (by simp[hd]);have h2:=h c (by simp);cases c with
  | nil=>exact absurd h2 (by simp[Ring])
  | cons x l=>simp only[Qa,Qk,Qe];omega
theorem Bz:∀ (C:List (List Int)),(∀ c∈C,c≠[])->(∀ c∈C,c.length=1)\/∃ a b x y l,C=a++(x :: y :: l) :: b
 | [],_=>QI (by simp)
 | c :: C,h=>by
  rcases Bz C (fun d hd=>h d (by simp[hd])) with h1 | ⟨a,b,x,y,l,rfl⟩
  ·match c,h c (by simp) with
   | [x],_=>exact QI (by simpa using h1)
   | x :: y :: l,_=>exact QP ⟨[],C,x,y,l,rfl⟩
  exact QP ⟨c :: a,b,x,y,l,rfl⟩
theorem uw:∀ {C:List (List Int)},(∀ c∈C,c.length=1)->C.flatten.length=C.length
 | [],_=>rfl
 | c :: C,h=>by
  rw[Qa,Qk,h c (by simp),uw fun d hd=>h d (by simp[hd]),Qe];omega
theorem bC.mul (n:Nat):∀ {r a:Int->Int} {R A:List (List Int)},R.flatten.length - R.length=n->bC r R->bC a A->A.flatten.Perm R.flatten ->
  ∃ C,bC (fun x=>r (a x)) C/\C.flatten.Perm A.flatten/\(C.length+R.length+A.length) % 2=A.flatten.length % 2:=by
 induction n with
 | zero =>
  intro r a R A hn hR hA hp;have hle:=xL hR.ring;rcases Bz R (fun c hc e=>by have:=hR.ring c hc;rw[e] at this;exact this) with h1 | ⟨u,v,x,y,l,rfl⟩
  ·refine⟨A,hA.congr fun x hx=>?_,Qj.refl _,?_⟩
   ·have hx2:=hp.mem_iff.1 (hA.next hx)
    obtain⟨c,hc,Fw⟩:=Qc.1 hx2;have hr:=hR.ring c hc
    match c,h1 c hc with
    | [z],_ =>
     have:a x=z:=by simpa using Fw
     rw[this];exact (show r z=z from hr).symm
   have:=hp.length_eq;omega
  have h2:(u++v).length<=(u++v).flatten.length:=xL (p:=r) fun c hc=>hR.ring c (by rcases Qp.1 hc with q | q <;> simp[q]);simp only[Qk,QC,Qa,Qe] at hn h2;omega
 | succ n ih =>
  intro r a R A hn hR hA hp;rcases Bz R (fun c hc e=>by have:=hR.ring c hc;rw[e] at this;exact this) with h1 | ⟨u,v,x,y,l,rfl⟩
  ·have:=uw h1
   omega
  have qM:(u++(x :: y :: l) :: v).Perm ((x :: y :: l) :: (u++v)):=Qr;have W9:=hR.perm qM;have hcut:=W9.cut;have Mf:=qM.flatten;have fW:y≠x:=by
   have:=W9.nodup;simp only[Qa,Qd,Qg,Qb,not_or] at this;exact fun e=>this.1.1 e.symm
  obtain⟨A',hA',hpA,hlA⟩:=hA.swap' (a:=y) (b:=x) (hp.mem_iff.2 (Mf.mem_iff.2 (by simp))) (hp.mem_iff.2 (Mf.mem_iff.2 (by simp))) fW;have yE:A'.flatten.Perm ([y] :: (x :: l) :: (u++v)).flatten:=by
   refine (hpA.trans (hp.trans Mf)).trans ?_;simp only[Qa,Qd,QN];exact Qj.swap _ _ _
  have arO:=hp.length_eq;have Pd:=hpA.length_eq;have api:=yE.length_eq;obtain⟨C,hC,hpC,sI⟩:=ih (R:=[y] :: (x :: l) :: (u++v)) (A:=A') (by
   simp only[Qk,QC,Qa,Qe,List.length_nil] at hn ⊢;omega) hcut hA' yE
  refine⟨C,hC.congr fun z _=>?_,hpC.trans hpA,?_⟩
  ·show r (swp y x (swp y x (a z)))=r (a z)
   rw[J1]
  simp only[Qk,Qe] at sI ⊢;omega
structure Gr where
 n:Int
 e:List (Int × Int)
structure Pt where
 v:List Int
 e:List Int
def Gr.ends (g:Gr) (i:Nat):Int × Int:=g.e.getD i (0,0)
def Gr.at (g:Gr) (i:Int):Int × Int:=g.ends i.toNat
def Gr.fe (g:Gr) (i:Nat):Bool:=!(decide ((g.ends i).1<0) || decide (g.n<=(g.ends i).1) || decide ((g.ends i).2<0) || decide (g.n<=(g.ends i).2))
def Gr.err (g:Gr):Int:=if g.n<0 then 3 else if 1024<g.n\/1024 - g.n<(g.e.length:Int) then 2 else if (Qu g.e.length).all g.fe then 0 else 3
def iK (l:List Int) (n:Int) (i:Nat):Bool:=!(decide (l.getD i 0<0) || decide (n<=l.getD i 0) || (decide (0<i)&&decide (l.getD i 0<=l.getD (i - 1) 0)))
def fI (l:List Int) (n:Int):Bool:=(Qu l.length).all (iK l n)
def Pt.fe (g:Gr) (p:Pt) (i:Nat):Bool:=decide ((g.ends (p.e.getD i 0).toNat).1∈p.v)&&decide ((g.ends (p.e.getD i 0).toNat).2∈p.v)
def Pt.err (g:Gr) (p:Pt):Int:=if g.err≠0 then g.err else if !(fI p.v g.n&&fI p.e g.e.length) then 4 else if (Qu p.e.length).all (p.fe g) then 0 else 4
theorem eI (p:Nat->Bool) (k:Nat):(Qu (k+1)).all p=((Qu k).all p&&p k):=by
 rw[List.range_succ,List.all_append];simp
theorem dY {p:Nat->Bool} {k n:Nat} (hk:k<n) (h:p k=false):(Qu n).all p=false:=by
 rw[List.all_eq_false];exact⟨k,Qv.2 hk,by rw[h];decide⟩
theorem Gr.aP {g:Gr} (h:g.err=0):0<=g.n/\g.n<=1024/\(g.e.length:Int)<=1024 - g.n/\∀ i,i<g.e.length->0<=(g.ends i).1/\(g.ends i).1<g.n/\0<=(g.ends i).2/\(g.ends i).2<g.n:=by
 unfold Gr.err at h;split at h
 ·simp at h
 split at h
 ·simp at h
 split at h
 ·rename_i h1 h2 h3
  refine⟨by omega,by omega,by omega,fun i hi=>?_⟩;have:=Qz.1 h3 i (Qv.2 hi);simp only[Gr.fe,Qy,QB,decide_eq_false_iff_not] at this;omega
 simp at h
theorem ct {l:List Int} {n:Int} (h:fI l n=true) {i:Nat} (hi:i<l.length):0<=l.getD i 0/\l.getD i 0<n/\(0<i->l.getD (i - 1) 0<l.getD i 0):=by
 have:=Qz.1 h i (Qv.2 hi);simp only[iK,Qy,QB,QA,decide_eq_false_iff_not] at this;omega
theorem P9 {l:List Int} {n:Int} (h:fI l n=true) {i j:Nat} (MR:i<j) (hj:j<l.length):l.getD i 0<l.getD j 0:=by
 induction j with
 | zero=>omega
 | succ j ih =>
  have h1:=(ct h hj).2.2 (by omega);simp only[Nat.add_sub_cancel] at h1;by_cases e:i=j
  ·subst e;exact h1
  have:=ih (by omega) (by omega);omega
theorem bY {l:List Int} {n:Int} (h:fI l n=true):l.Pairwise (·<·):=by
 rw[List.pairwise_iff_getElem];intro i j hi hj MR;have:=P9 h MR hj;simpa[QJ,hi,hj] using this
theorem jI {l:List Int} {n:Int} (h:fI l n=true):l.Nodup:=by
 refine (bY h).imp ?_;intro a b lT e;omega
theorem Pt.aP {g:Gr} {p:Pt} (h:p.err g=0):g.err=0/\fI p.v g.n=true/\fI p.e g.e.length=true/\∀ i,i<p.e.length->(g.ends (p.e.getD i 0).toNat).1∈p.v/\(g.ends (p.e.getD i 0).toNat).2∈p.v:=by
 unfold Pt.err at h;split at h
 ·rename_i h1;exact absurd h h1
 rename_i h1;split at h
 ·simp at h
 rename_i h2;split at h
 ·rename_i h3
  simp only[Qy,QA,not_or,Bool.not_eq_false] at h2;refine⟨by simpa using h1,h2.1,h2.2,fun i hi=>?_⟩;have:=Qz.1 h3 i (Qv.2 hi);simpa[Pt.fe] using this
 simp at h
def qF (g:Gr) (p:Pt) (u w:Int):Prop:=∃ e∈p.e,(g.at e=(u,w)\/g.at e=(w,u))
theorem qF.symm {g:Gr} {p:Pt} {u w:Int} (h:qF g p u w):qF g p w u:=by
 obtain⟨e,he,h⟩:=h;exact⟨e,he,h.symm⟩
inductive bP (g:Gr) (p:Pt) (shut:Int) (a:Int):Int->Prop
 | here:bP g p shut a a
 | step {u w:Int}:bP g p shut a u->qF g p u w->w≠shut->bP g p shut a w
theorem bP.trans {g:Gr} {p:Pt} {s a b c:Int} (h:bP g p s a b) (k:bP g p s b c):bP g p s a c:=by
 induction k with
 | here=>exact h
 | step _ hn hs ih=>exact ih.step hn hs
theorem bP.symm {g:Gr} {p:Pt} {s a b:Int} (ha:a≠s) (h:bP g p s a b):b≠s/\bP g p s b a:=by
 induction h with
 | here=>exact⟨ha,.here⟩
 | step h1 hn hs ih=>exact⟨hs,bP.trans (bP.step .here hn.symm ih.1) ih.2⟩
noncomputable def comp (g:Gr) (p:Pt) (a:Int):List Int:=by
 classical
 exact p.v.filter fun u=>decide (bP g p (-1) a u)
open Classical in
theorem cW {g:Gr} {p:Pt} {a u:Int}:u∈comp g p a↔u∈p.v/\bP g p (-1) a u:=by
 unfold comp;simp
def Pt.sub (g:Gr) (p:Pt) (l:List Int):Pt:=⟨p.v.filter fun v=>decide (v∈l),p.e.filter fun e=>decide ((g.at e).1∈l)&&decide ((g.at e).2∈l)⟩
noncomputable def roots (g:Gr) (p:Pt):List Int:=by
 classical
 exact p.v.filter fun v=>decide (∀ u∈p.v,bP g p (-1) v u->v<=u)
open Classical in
theorem dX {g:Gr} {p:Pt} {v:Int}:v∈roots g p↔v∈p.v/\∀ u∈p.v,bP g p (-1) v u->v<=u:=by
 unfold roots;simp
theorem exists_least:∀ {l:List Int},l≠[]->∃ a∈l,∀ b∈l,a<=b
 | [],h=>absurd rfl h
 | [x],_=>⟨x,by simp,by simp⟩
 | x :: y :: l,_=>by
  obtain⟨a,ha,hl⟩:=exists_least (l:=y :: l) (by simp);by_cases q:x<=a
  ·exact⟨x,by simp,fun b hb=>by rcases Qb.1 hb with rfl | hb;omega;have:=hl b hb;omega⟩
  exact⟨a,Qt _ ha,fun b hb=>by rcases Qb.1 hb with rfl | hb;omega;exact hl b hb⟩
theorem rK {g:Gr} {p:Pt} (hv:∀ v∈p.v,0<=v) {u:Int} (hu:u∈p.v):∃ r∈roots g p,bP g p (-1) r u:=by
 obtain⟨r,hr,hl⟩:=exists_least (l:=comp g p u) (fun e=>by have:u∈comp g p u:=cW.2 ⟨hu,.here⟩;rw[e] at this;simp at this);obtain⟨fz,cH⟩:=cW.1 hr;have hsy:=(cH.symm (by have:=hv u hu;omega)).2;exact⟨r,dX.2 ⟨fz,fun x hx hc=>hl x (cW.2 ⟨hx,cH.trans hc⟩)⟩,hsy⟩
theorem nZ {g:Gr} {p:Pt} (hv:∀ v∈p.v,0<=v) {u r r':Int} (hr:r∈roots g p) (hr':r'∈roots g p) (h:bP g p (-1) r u) (h':bP g p (-1) r' u):r=r':=by
 obtain⟨h1,h2⟩:=dX.1 hr;obtain⟨k1,k2⟩:=dX.1 hr';have e1:=h2 r' k1 (h.trans (h'.symm (by have:=hv r' k1;omega)).2);have e2:=k2 r h1 (h'.trans (h.symm (by have:=hv r h1;omega)).2);omega
theorem Jb {β:Type} (f:β->Bool):∀ {R:List β},R.Nodup->(∃ r∈R,f r=true)->(∀ r∈R,∀ s∈R,f r=true->f s=true->r=s)->(R.map fun r=>if f r then 1 else 0).sum=1
 | [],_,h,_=>by obtain⟨r,hr,_⟩:=h;simp at hr
 | a :: R,hn,h,hu=>by
  rw[Qg] at hn;rw[Qo,QE];by_cases ha:f a=true
  ·rw[if_pos ha]
   have:(R.map fun r=>if f r then 1 else 0).sum=0:=by
    have hz:∀ r∈R,f r=false:=fun r hr=>by
     cases q:f r with
     | false=>rfl
     | true=>exact absurd hr (fun hr=>hn.1 (by rw[hu a (by simp) r (by simp[hr]) ha q];exact hr))
    have e:(R.map fun r=>if f r then 1 else 0)=R.map fun _=>0:=QD fun r hr=>by rw[hz r hr];rfl
    rw[e];clear e hz hu h hn
    induction R with
    | nil=>rfl
    | cons _ _ ih=>rw[Qo,QE,ih]
   rw[this]
  rw[if_neg ha,Nat.zero_add];obtain⟨r,hr,hf⟩:=h;refine Jb f hn.2 ⟨r,?_,hf⟩ (fun r hr s hs=>hu r (by simp[hr]) s (by simp[hs]));rcases Qb.1 hr with rfl | q
  ·exact absurd hf ha
  exact q
theorem sum_add {β:Type} (f g:β->Nat):∀ R:List β,(R.map fun r=>f r+g r).sum=(R.map f).sum+(R.map g).sum
 | []=>rfl
 | a :: R=>by simp only[Qo,QE,sum_add f g R];omega
theorem tL {α β:Type} (f:α->β->Bool) {R:List β} (hn:R.Nodup):∀ {L:List α},(∀ x∈L,(∃ r∈R,f x r=true)/\∀ r∈R,∀ s∈R,f x r=true->f x s=true->r=s)->(R.map fun r=>(L.filter fun x=>f x r).length).sum=L.length
 | [],_=>by
  clear hn
  induction R with
  | nil=>rfl
  | cons _ _ ih=>simpa using ih
 | x :: L,h=>by
  have e:(R.map fun r=>((x :: L).filter fun x=>f x r).length)=R.map fun r=>(if f x r then 1 else 0)+(L.filter fun x=>f x r).length:=by
   refine QD fun r _=>?_;rw[QK];split <;> simp <;> omega
  rw[e,sum_add,Jb (f x) hn (h x (by simp)).1 (h x (by simp)).2,tL f hn fun y hy=>h y (by simp[hy])];simp;omega
def aE (d:Int):Int:=if d % 2=0 then d+1 else d - 1
def Gr.tail (g:Gr) (d:Int):Int:=if d % 2=0 then (g.at (d / 2)).1 else (g.at (d / 2)).2
def Gr.head (g:Gr) (d:Int):Int:=if d % 2=0 then (g.at (d / 2)).2 else (g.at (d / 2)).1
def Pt.ag (p:Pt):List Int:=p.e.flatMap fun e=>[2*e,2*e+1]
theorem aS (d:Int):aE (aE d)=d:=by unfold aE;split <;> split <;> omega
theorem bA (d:Int):aE d / 2=d / 2:=by unfold aE;split <;> omega
theorem aA (g:Gr) (d:Int):g.tail (aE d)=g.head d:=by
 unfold Gr.tail Gr.head;rw[bA];unfold aE;split
 ·rw[if_neg (by omega)]
 rw[if_pos (by omega)]
theorem aw {p:Pt} {d:Int}:d∈p.ag↔d / 2∈p.e:=by
 unfold Pt.ag;simp only[List.mem_flatMap,Qb,List.not_mem_nil,or_false];constructor
 ·rintro ⟨e,he,rfl | rfl⟩
  ·rwa[show 2*e / 2=e by omega]
  rwa[show (2*e+1) / 2=e by omega]
 intro h;exact⟨d / 2,h,by omega⟩
theorem bu {p:Pt} {d:Int} (h:d∈p.ag):aE d∈p.ag:=by rw[aw] at *;rwa[bA]
theorem cP {p:Pt} (h:p.e.Nodup):p.ag.Nodup:=by
 unfold Pt.ag;generalize p.e=l at *
 induction l with
 | nil=>simp
 | cons e l ih =>
  rw[Qg] at h;rw[QG,Qf];refine⟨by simp;omega,ih h.2,fun a ha b hb=>?_⟩;have Cc:b / 2∈l:=aw (p:=⟨[],l⟩).1 hb;rintro rfl;have:a / 2=e:=by simp at ha;omega
  exact h.1 (this ▸ Cc)
theorem cw (p:Pt):p.ag.length=2*p.e.length:=by
 unfold Pt.ag;generalize p.e=l
 induction l with
 | nil=>rfl
 | cons e l ih=>rw[QG,Qk,ih];simp;omega
theorem wF {p:Pt} (h:p.e.Nodup):bC aE (p.e.map fun e=>[2*e,2*e+1]):=by
 refine⟨fun c hc=>?_,?_⟩
 ·obtain⟨e,_,rfl⟩:=Qn.1 hc
  show aE (2*e)=2*e+1/\aE (2*e+1)=2*e;unfold aE;rw[if_pos (by omega),if_neg (by omega)];omega
 have:=cP h;rwa[Pt.ag,QL] at this
def ahead (l:List Int) (x:Int):Int:=l.getD ((l.idxOf x+l.length - 1) % l.length) 0
def behind (l:List Int) (x:Int):Int:=l.getD ((l.idxOf x+1) % l.length) 0
theorem Ek {p:Int->Int} {z:Int}:∀ {l:List Int} {x:Int},(∀ i,i<l.length->p ((x :: l).getD i 0)=(x :: l).getD (i+1) 0)->p ((x :: l).getD l.length 0)=z->Trail p x l z
 | [],x,_,h=>by show p x=z;simpa using h
 | y :: l,x,h,hz=>by
  refine⟨by simpa using h 0 (by simp),Ek (fun i hi=>?_) (by simpa using hz)⟩;have:=h (i+1) (by simpa using hi);simpa using this
theorem gT {l:List Int} (hn:l.Nodup) {i:Nat} (hi:i<l.length):l.idxOf (l.getD i 0)=i:=by
 have e:l.getD i 0=l[i]:=by simp[QJ,hi]
 rw[e];have h1:l.idxOf l[i]<l.length:=List.idxOf_lt_length_iff.2 (List.getElem_mem hi);have h2:l[l.idxOf l[i]]=l[i]:=List.getElem_idxOf h1;exact (List.getElem_inj hn).1 h2
theorem mL (l:List Int) (i:Nat) (hi:i<l.length):l.reverse.getD i 0=l.getD (l.length - 1 - i) 0:=by
 simp[QJ,hi,show l.length - 1 - i<l.length by omega]
theorem jl {l:List Int} (hn:l.Nodup) (h0:l≠[]):Ring (ahead l) l.reverse:=by
 have hl:0<l.length:=List.length_pos_iff.2 h0;have key:∀ i,i<l.length->ahead l (l.reverse.getD i 0)=l.reverse.getD (if i+1=l.length then 0 else i+1) 0:=by
  intro i hi;have e1:ahead l (l.reverse.getD i 0)=l.getD ((l.length - 1 - i+l.length - 1) % l.length) 0:=by
   rw[mL l i hi];unfold ahead;rw[gT hn (by omega)]
  rw[e1];split
  ·rename_i h
   rw[mL l 0 hl]
   congr 1
   rw[show l.length - 1 - i+l.length - 1=l.length - 1 by omega,QM (by omega)];omega
  rename_i h;rw[mL l (i+1) (by omega)]
  congr 1
  rw[show l.length - 1 - i+l.length - 1=(l.length - 1 - (i+1))+l.length by omega,Nat.add_mod_right,QM (by omega)]
 have hlen:l.reverse.length=l.length:=by simp
 generalize l.reverse=r at *;cases r with
 | nil=>simp at hlen;omega
 | cons x r =>
  simp only[Qe] at hlen;refine Ek (fun i hi=>?_) ?_
  ·rw[key i (by omega),if_neg (by omega)]
  rw[key r.length (by omega),if_pos (by omega)];rfl
def aI (aa:List (List Int)) (v:Int):List Int:=aa.getD v.toNat []
structure aT (g:Gr) (p:Pt) (aa:List (List Int)):Prop where
 len:(aa.length:Int)=g.n
 nodup:∀ v,(aI aa v).Nodup
 mem:∀ v,0<=v->v<g.n->∀ d,d∈aI aa v↔d∈p.ag/\g.tail d=v
def before (g:Gr) (aa:List (List Int)) (d:Int):Int:=ahead (aI aa (g.tail d)) d
def ay (g:Gr) (aa:List (List Int)) (d:Int):Int:=before g aa (aE d)
def leaving (g:Gr) (p:Pt) (U:List Int):List Int:=p.ag.filter fun d=>decide (g.tail d∈U)
def busy (aa:List (List Int)) (U:List Int):List Int:=U.filter fun v=>!(aI aa v).isEmpty
theorem ke {g:Gr} {p:Pt} {aa:List (List Int)} (h:aT g p aa) (hp:p.e.Nodup) {U:List Int} (hU:U.Nodup) (hn:∀ v∈U,0<=v/\v<g.n) :
  bC (before g aa) ((busy aa U).map fun v=>(aI aa v).reverse)/\((busy aa U).map fun v=>(aI aa v).reverse).flatten.Perm (leaving g p U):=by
 have hB:(busy aa U).Nodup:=QO.filter _ hU;have hBU:∀ v∈busy aa U,v∈U/\aI aa v≠[]:=by
  intro v hv;have:=Qm.1 hv;refine⟨this.1,fun e=>?_⟩;have h2:=this.2;rw[e] at h2;simp at h2
 have fs:∀ {B:List Int},B.Nodup->(∀ v∈B,v∈U)->(B.map fun v=>(aI aa v).reverse).flatten.Nodup:=by
  intro B
  induction B with
  | nil=>intro _ _;simp
  | cons v B ih =>
   intro hB hs;rw[Qg] at hB;rw[Qo,Qa,Qf];refine⟨(List.reverse_perm _).nodup_iff.2 (h.nodup v),ih hB.2 (fun u hu=>hs u (by simp[hu])),fun a ha b hb=>?_⟩;rintro rfl;have ha:=Qs.1 ha;obtain⟨l,hl,fT⟩:=Qc.1 hb;obtain⟨u,hu,rfl⟩:=Qn.1 hl;have hv:=hn v (hs v (by simp));have hu':=hn u (hs u (by simp[hu]));have e1:=((h.mem v hv.1 hv.2 a).1 ha).2;have e2:=((h.mem u hu'.1 hu'.2 a).1 (Qs.1 fT)).2;exact hB.1 (by rw[<-e1,e2];exact hu)
 have Po:=fs hB (fun v hv=>(hBU v hv).1);refine⟨⟨fun c hc=>?_,Po⟩,?_⟩
 ·obtain⟨v,hv,rfl⟩:=Qn.1 hc
  have Dd:=hn v (hBU v hv).1;refine (jl (h.nodup v) (hBU v hv).2).congr fun x hx=>?_;have:=((h.mem v Dd.1 Dd.2 x).1 (Qs.1 hx)).2;show ahead (aI aa v) x=ahead (aI aa (g.tail x)) x;rw[this]
 refine (Qq Po ((cP hp).filter _)).2 fun d=>?_;constructor
 ·intro hd
  obtain⟨l,hl,x9⟩:=Qc.1 hd;obtain⟨v,hv,rfl⟩:=Qn.1 hl;have Dd:=hn v (hBU v hv).1;obtain⟨h1,h2⟩:=(h.mem v Dd.1 Dd.2 d).1 (Qs.1 x9);exact Qm.2 ⟨h1,by rw[h2];simpa using (hBU v hv).1⟩
 intro hd;obtain⟨h1,h2⟩:=Qm.1 hd;have h2:g.tail d∈U:=by simpa using h2
 have Dd:=hn _ h2;have yN:=(h.mem _ Dd.1 Dd.2 d).2 ⟨h1,rfl⟩;refine Qc.2 ⟨_,Qn.2 ⟨g.tail d,Qm.2 ⟨h2,?_⟩,rfl⟩,Qs.2 yN⟩;cases hq:aI aa (g.tail d) with
 | nil=>rw[hq] at yN;simp at yN
 | cons _ _=>simp
abbrev bR:=Int × List Int
structure sk (g:Gr) (p:Pt) (aa:List (List Int)) (W:List bR):Prop where
 rings:bC (ay g aa) ((W.filter fun f=>!f.2.isEmpty).map (·.2))
 all:((W.filter fun f=>!f.2.isEmpty).map (·.2)).flatten.Perm p.ag
 key:∀ f∈W,∀ d l,f.2=d :: l->f.1=d
 lone:((W.filter fun f=>f.2.isEmpty).map (·.1)).Perm ((p.v.filter fun v=>(aI aa v).isEmpty).map fun v=>-1 - v)
def bR.de (g:Gr) (f:bR):Int:=match f.2 with | []=>-1 - f.1 | _ :: _=>g.tail f.1
def B6 (g:Gr) (p:Pt) (U:List Int):Prop:=∀ d∈p.ag,g.tail d∈U->g.head d∈U
theorem mc {g:Gr} {p:Pt} {aa:List (List Int)} (h:aT g p aa) (qL:∀ d∈p.ag,0<=g.tail d/\g.tail d<g.n) {d:Int} (hd:d∈p.ag):ay g aa d∈p.ag/\g.tail (ay g aa d)=g.head d:=by
 have ht:=bu hd;have hv:=qL _ ht;have hm:=(h.mem _ hv.1 hv.2 (aE d)).2 ⟨ht,rfl⟩;have hlen:0<(aI aa (g.tail (aE d))).length:=by
  cases hq:aI aa (g.tail (aE d)) with
  | nil=>rw[hq] at hm;simp at hm
  | cons _ _=>simp
 have dM:ay g aa d∈aI aa (g.tail (aE d)):=by
  unfold ay before ahead;have:=Nat.mod_lt ((aI aa (g.tail (aE d))).idxOf (aE d)+(aI aa (g.tail (aE d))).length - 1) hlen;simp[QJ,this]
 obtain⟨h1,h2⟩:=(h.mem _ hv.1 hv.2 _).1 dM;exact⟨h1,by rw[h2,aA]⟩
theorem pE {C:List (List Int)} {D:List Int} {f:Int->Bool} (hp:C.flatten.Perm D) (hf:∀ c∈C,∀ x∈c,∀ y∈c,f x=f y) (bh:∀ c∈C,c≠[]) :
  ((C.filter fun c=>f (c.headD 0)).flatten).Perm (D.filter f):=by
 refine Qj.trans (Qj.of_eq ?_) (hp.filter f);clear hp
 induction C with
 | nil=>rfl
 | cons c C ih =>
  have ih:=ih (fun d hd=>hf d (by simp[hd])) (fun d hd=>bh d (by simp[hd]));rw[Qa (L:=C),List.filter_append,<-ih];have hc:=hf c (by simp);have hn:=bh c (by simp);cases c with
  | nil=>exact absurd rfl hn
  | cons x l =>
   by_cases hx:f x=true
   ·rw[Qh (p:=fun c:List Int=>f (c.headD 0)) (a:=x :: l) (l:=C) (show (fun c:List Int=>f (c.headD 0)) (x :: l)=true from hx),Qa,(List.filter_eq_self (p:=f) (l:=x :: l)).2 (fun y hy=>by rw[hc y hy x (by simp)];exact hx)]
   rw[Qi (p:=fun c:List Int=>f (c.headD 0)) (a:=x :: l) (l:=C) (show ¬ (fun c:List Int=>f (c.headD 0)) (x :: l)=true from hx),(List.filter_eq_nil_iff (p:=f) (l:=x :: l)).2 (fun y hy=>by rw[hc y hy x (by simp)];exact hx)];rfl
theorem lg {p:Int->Int} {f:Int->Bool} {z:Int}:∀ {l:List Int} {x:Int},Trail p x l z->(∀ y∈x :: l,f (p y)=f y)->∀ y∈x :: l,f y=f x
 | [],x,_,_,y,hy=>by simp at hy;rw[hy]
 | a :: l,x,h,hf,y,hy=>by
  have e:f a=f x:=by rw[<-h.1];exact hf x (by simp)
  rcases Qb.1 hy with rfl | hy
  ·rfl
  rw[<-e];exact lg h.2 (fun u hu=>hf u (Qt _ hu)) y hy
theorem xk {p:Int->Int} {f:Int->Bool} {c:List Int} (h:Ring p c) (hf:∀ y∈c,f (p y)=f y):∀ x∈c,∀ y∈c,f x=f y:=by
 cases c with
 | nil=>simp
 | cons a l=>exact fun x hx y hy=>(lg (show Trail p a l a from h) hf x hx).trans (lg (show Trail p a l a from h) hf y hy).symm
theorem nD {g:Gr} {p:Pt} {U:List Int} (hC:B6 g p U) {d:Int} (hd:d∈p.ag):g.head d∈U↔g.tail d∈U:=by
 refine⟨fun h=>?_,hC d hd⟩;have h2:=hC (aE d) (bu hd) (by rw[aA];exact h);rwa[<-aA,aS] at h2
theorem nV {g:Gr}:∀ {W:List bR},(∀ f∈W,∀ d l,f.2=d :: l->f.1=d)->∀ U:List Int,
  (W.filter fun f=>decide (f.de g∈U)).length=(((W.filter fun f=>!f.2.isEmpty).map (·.2)).filter fun c=>decide (g.tail (c.headD 0)∈U)).length+((W.filter fun f=>f.2.isEmpty).map (·.1)).countP fun k=>decide (-1 - k∈U)
 | [],_,_=>rfl
 | (k,[]) :: W,hk,U=>by
  have ih:=nV (g:=g) (W:=W) (fun f hf=>hk f (by simp[hf])) U;rw[Qi (p:=fun f:bR=>!f.2.isEmpty) (by simp),Qh (p:=fun f:bR=>f.2.isEmpty) (by simp),Qo,List.countP_cons];by_cases q:-1 - k∈U
  ·rw[Qh (p:=fun f:bR=>decide (f.de g∈U)) (show decide (bR.de g (k,[])∈U)=true from decide_eq_true q),Qe,ih]
   simp only[q,decide_true,if_true];omega
  rw[Qi (p:=fun f:bR=>decide (f.de g∈U)) (QH.1 (show decide (bR.de g (k,[])∈U)=false from decide_eq_false q)),ih];simp only[q,decide_false,if_false,Bool.false_eq_true];omega
 | (k,d :: l) :: W,hk,U=>by
  have ih:=nV (g:=g) (W:=W) (fun f hf=>hk f (by simp[hf])) U;have e:k=d:=hk (k,d :: l) (by simp) d l rfl;subst e;rw[Qh (p:=fun f:bR=>!f.2.isEmpty) (by simp),Qi (p:=fun f:bR=>f.2.isEmpty) (by simp),Qo];by_cases q:g.tail k∈U
  ·rw[Qh (p:=fun f:bR=>decide (f.de g∈U)) (show decide (bR.de g (k,k :: l)∈U)=true from decide_eq_true q),Qh (p:=fun c:List Int=>decide (g.tail (c.headD 0)∈U)) (by simpa using q),Qe,Qe,ih]
   omega
  rw[Qi (p:=fun f:bR=>decide (f.de g∈U)) (QH.1 (show decide (bR.de g (k,k :: l)∈U)=false from decide_eq_false q)),Qi (p:=fun c:List Int=>decide (g.tail (c.headD 0)∈U)) (by simpa using q),ih]
theorem Iv {g:Gr} {p:Pt} {aa:List (List Int)} {W:List bR} (h:aT g p aa) (hp:p.e.Nodup) (hv:p.v.Nodup) (qL:∀ d∈p.ag,0<=g.tail d/\g.tail d<g.n) (hW:sk g p aa W)
  {U:List Int} (hU:U.Nodup) (hUV:∀ v∈U,v∈p.v/\0<=v/\v<g.n) (hC:B6 g p U) :
  (U.length+(p.e.filter fun e=>decide (g.tail (2*e)∈U)).length+(W.filter fun f=>decide (f.de g∈U)).length) % 2=0:=by
 obtain⟨hR,Zr⟩:=ke h hp hU (fun v hv=>(hUV v hv).2);have YG:(p.e.filter fun e=>decide (g.tail (2*e)∈U)).Nodup:=QO.filter _ hp;have hA:=wF (p:=⟨U,p.e.filter fun e=>decide (g.tail (2*e)∈U)⟩) YG;have hAd:((p.e.filter fun e=>decide (g.tail (2*e)∈U)).map fun e=>[2*e,2*e+1]).flatten=Pt.ag ⟨U,p.e.filter fun e=>decide (g.tail (2*e)∈U)⟩:=by rw[Pt.ag,QL]
 have Sy:Pt.ag ⟨U,p.e.filter fun e=>decide (g.tail (2*e)∈U)⟩ |>.Perm (leaving g p U):=by
  refine (Qq (cP YG) ((cP hp).filter _)).2 fun d=>?_;show _↔d∈p.ag.filter fun d=>decide (g.tail d∈U);rw[aw];simp only[Qm,decide_eq_true_eq,aw];refine and_congr_right fun hd=>?_;by_cases hm:d % 2=0
  ·rw[show 2*(d / 2)=d by omega]
  have e:2*(d / 2)=aE d:=by unfold aE;rw[if_neg hm];omega
  rw[e,aA];exact nD hC (aw.2 hd)
 obtain⟨C,hCr,hCp,sI⟩:=bC.mul _ rfl hR hA (by rw[hAd];exact Sy.trans Zr.symm);have afX:C.flatten.Perm (leaving g p U):=by rw[hAd] at hCp;exact hCp.trans Sy
 -- the walks of U
 have hWr:=hW.rings;have cV:∀ c∈(W.filter fun f=>!f.2.isEmpty).map (·.2),∀ x∈c,x∈p.ag:=fun c hc x hx=>hW.all.mem_iff.1 (Qc.2 ⟨c,hc,hx⟩);have hconst:∀ c∈(W.filter fun f=>!f.2.isEmpty).map (·.2),∀ x∈c,∀ y∈c,decide (g.tail x∈U)=decide (g.tail y∈U):=by
  intro c hc;refine xk (f:=fun d=>decide (g.tail d∈U)) (hWr.ring c hc) fun y hy=>?_;have WN:=cV c hc y hy;have h2:=(mc h qL WN).2;simp only[h2,nD hC WN]
 have bh:∀ c∈(W.filter fun f=>!f.2.isEmpty).map (·.2),c≠[]:=by
  intro c hc e;have:=hWr.ring c hc;rw[e] at this;exact this
 have hWp:=pE (f:=fun d=>decide (g.tail d∈U)) hW.all hconst bh;have hWU:bC (ay g aa) (((W.filter fun f=>!f.2.isEmpty).map (·.2)).filter fun c=>decide (g.tail (c.headD 0)∈U)) :=
  ⟨fun c hc=>hWr.ring c (Qm.1 hc).1,hWp.nodup_iff.2 ((cP hp).filter _)⟩
 have jd:=bC.count hWU (hCr.congr fun _ _=>rfl) (hWp.trans afX.symm)
 -- the lone ones
 have Jg:=hW.lone.countP_eq fun k=>decide (-1 - k∈U);have oB:(W.filter fun f=>decide (f.de g∈U)).length=(((W.filter fun f=>!f.2.isEmpty).map (·.2)).filter fun c=>decide (g.tail (c.headD 0)∈U)).length+((W.filter fun f=>f.2.isEmpty).map (·.1)).countP fun k=>decide (-1 - k∈U):=by
  exact nV hW.key U
 have aeD:((p.v.filter fun v=>(aI aa v).isEmpty).map fun v=>-1 - v).countP (fun k=>decide (-1 - k∈U))=(U.filter fun v=>(aI aa v).isEmpty).length:=by
  rw[List.countP_map,List.countP_eq_length_filter];refine Qj.length_eq ?_;refine (Qq ((hv.filter _).filter _) (hU.filter _)).2 fun v=>?_;simp only[Qm,Function.comp,decide_eq_true_eq];rw[show -1 - (-1 - v)=v by omega];exact⟨fun hh=>⟨hh.2,hh.1.2⟩,fun hh=>⟨⟨(hUV v hh.1).1,hh.2⟩,hh.1⟩⟩
 have hUl:U.length=(busy aa U).length+(U.filter fun v=>(aI aa v).isEmpty).length:=by
  unfold busy;clear hC Zr hR Sy hAd hA afX hCp sI hCr hWp hWU jd hconst oB Jg aeD YG hUV hU
  induction U with
  | nil=>rfl
  | cons v U ih =>
   simp only[QK,Qe];cases (aI aa v).isEmpty <;> simp <;> omega
 have x9:=cw ⟨U,p.e.filter fun e=>decide (g.tail (2*e)∈U)⟩;rw[hAd] at sI;simp only[List.length_map] at sI x9;rw[oB,Jg,aeD,jd];omega
end Go.Proofs.YtbkjljffnkdcjaaGreat.Plain
