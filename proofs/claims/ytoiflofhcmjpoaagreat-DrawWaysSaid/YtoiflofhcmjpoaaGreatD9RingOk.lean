/- draw.begin's ring in plain words: a closed qL through the least edge, no vertex twice. No program here. -/
import Derived.Test.YtoiflofhcmjpoaaGreatD9Begin
open List renaming mem_singleton→Qa,perm_ext_iff_of_nodup→Qb,length_append→Qc,length_cons→Qd,mem_map→Qe,mem_cons_of_mem→Qf,getElem?_eq_getElem→Qg,getD→Qh,length_drop→Qj,mem_cons→Ql,idxOf_lt_length_iff→Qm,mem_filter→Qn,nodup_append→Qq,length_take→Qs,exists_mem_of_length_pos→Qu,take_append_of_le_length→Qv,map_append→Qw,set_cons_zero→Qy,length_eraseIdx_of_lt→Qz,getElem?_eq_some_iff→QA,take_add_one→QC,map_cons→QD,range→QE,length_set→QG,eq_nil_or_concat→QH,concat_eq_append→QI,replicate→QJ,mem_iff_getElem→QK,perm_singleton→QL,length_pos_iff→QM,getElem_idxOf→QN,set_cons_succ→QO,append_assoc→QQ,Perm→QS,take_length→QT,mem_flatten→QU,nodup_cons→QV,length_map→QW,range_succ→QY,nil_append→QZ,take_take→Q0
open Nat renaming mod_eq_of_lt→Qi,le_refl→Qt,zero_add→QF,add_mod_right→QP,min_eq_left→QX,mod_self→Q3,le_of_lt→Q4
open Array renaming getElem?_eq_getElem→Qk
open Or renaming inl→Qo,inr→Qp
open Option renaming getD_some→Qr,some→Q6
open Go.Value renaming int→Qx
open Int renaming toNat_natCast→QB
open Bool renaming eq_false_iff→QR
open Go.Act renaming put→Q2
namespace Go.Proofs.YtoiflofhcmjpoaaGreat.Plain
theorem sF {g:Gr} {p:Pt} {b:Int} {f:Int->Option Int} (hp:aB g p) (h0:∀ v∈p.v,0<=v) (h:mO g p b f) (hc:∀ v,f v≠none↔b9 g p (-1) b v):∀ (n:Nat) (v:Int),f v=some (n:Int)->∀ d∈dg g p f n v,g.tail d≠b
 | 0,_,_=>by simp[dg]
 | n+1,v,hv=>by
  obtain⟨k,-,-,-,h4,h5,h6⟩:=vL h (v:=v) (n:=n) (by rw[hv];congr 1) (fun d hd ht=>by
   have h1:=(hc v).1 (by rw[hv];simp);have h2:=eR (g:=g) hd;rw[ht] at h2;have h3:=h0 _ (hp.aO hd).2;exact (hc _).2 (h1.step h2 (by omega)))
  intro d hd;rcases Ql.1 hd with r | r
  ·rw[r,h5]
   intro e;rw[e,h.base] at hv;simp at hv;omega
  exact sF hp h0 h hc n _ h6 d r
theorem Py {g:Gr} {p:Pt} (hp:p.err g=0) (_he:0<p.e.length)
  (h:mO g (eY p (p.e.getD 0 0)) (g.at (p.e.getD 0 0)).1 (dD g (eY p (p.e.getD 0 0)) (-1) (g.at (p.e.getD 0 0)).1))
  (hc:∀ v,dD g (eY p (p.e.getD 0 0)) (-1) (g.at (p.e.getD 0 0)).1 v≠none↔b9 g (eY p (p.e.getD 0 0)) (-1) (g.at (p.e.getD 0 0)).1 v)
  (hs:b9 g (eY p (p.e.getD 0 0)) (-1) (g.at (p.e.getD 0 0)).1 (g.at (p.e.getD 0 0)).2) :
  kg g (g.at (p.e.getD 0 0)).1 (eX g p) (g.at (p.e.getD 0 0)).1/\((eX g p).map g.tail).Nodup/\∀ d∈(eX g p).tail,d∈(eY p (p.e.getD 0 0)).ah:=by
 have hd:=Pt.ay (yI hp (p.e.getD 0 0));have ht:=et g (p.e.getD 0 0);have hn:=(hc _).2 hs;unfold eX gT;obtain⟨c,hq⟩:=Option.ne_none_iff_exists'.1 hn;have h0:=h.low _ c hq;have xI:dD g (eY p (p.e.getD 0 0)) (-1) (g.at (p.e.getD 0 0)).1 (g.at (p.e.getD 0 0)).2=some ((c.toNat:Nat):Int):=by rw[hq];congr 1;omega
 obtain⟨i1,i2,-,i4⟩:=lW hd (fun v hv=>(hd.vr v hv).1) h hc c.toNat _ xI;have i5:=sF hd (fun v hv=>(hd.vr v hv).1) h hc c.toNat _ xI;rw[hq];simp only[Option.map_some,Qr];refine⟨⟨ht.1,by grind⟩,?_,fun d sZ=>i2 d sZ⟩
 grind
theorem FD {g:Gr} {p:Pt} {s a u:Int} (h:b9 g p s a u):u=a\/∃ w,oI g p a w/\w≠s:=by
 induction h with
 | here=>exact Qo rfl
 | step h1 hn hs ih =>
  all_goals grind
theorem CE {g:Gr} {p:Pt} {u w:Int} (hp:aB g p) (h:oI g p u w):w∈p.v:=by
 obtain⟨e,he,r | r⟩:=h
 ·have:=(hp.ends e he).2;rw[r] at this;exact this
 have:=(hp.ends e he).1;rw[r] at this;exact this
theorem oG {g:Gr} {b:Pt} {e0 e1:Int} {l:List Int} (hb:aB g b) (hS:cQ g b) (rI:b.e=e0 :: e1 :: l):∀ e∈b.e,(g.at e).1≠(g.at e).2:=by
 intro e he q;have hn:=hb.en;rw[rI] at hn;have bh:e0≠e1:=fun r=>by rw[r] at hn;simp at hn
 obtain⟨f,hf,hef⟩:∃ f∈b.e,e≠f:=by
  by_cases r:e=e0
  ·exact⟨e1,by grind,by grind⟩
  exact⟨e0,by grind,r⟩
 exact nC hS e he f hf (g.at e).1 (hb.ends e he).1 ⟨hef,Qo ⟨rfl,q.symm⟩⟩
theorem JK {g:Gr} {b:Pt} {e0 e1:Int} {l:List Int} (hb:aB g b) (hS:cQ g b) (rI:b.e=e0 :: e1 :: l):b9 g (eY b e0) (-1) (g.at e0).1 (g.at e0).2:=by
 have hl:=oG hb hS rI;have h0:e0∈b.e:=by rw[rI];simp
 have h1:e1∈b.e:=by rw[rI];simp
 have hn:=hb.en;rw[rI] at hn;have bh:e0≠e1:=fun r=>by rw[r] at hn;simp at hn
 have iY:=nC hS;have Eg:=hb.ends e0 h0;have EG:=hl e0 h0;have qx:∀ f∈b.e,e0≠f->∀ v∈b.v,b9 g b v (off g v e0) (off g v f):=fun f hf hn v hv=>Classical.byContradiction fun r=>iY e0 h0 f hf v hv ⟨hn,Qp (Qp r)⟩;obtain⟨x,hx⟩:∃ x,(g.at e0).1=x:=⟨_,rfl⟩;obtain⟨z,hz⟩:∃ z,(g.at e0).2=z:=⟨_,rfl⟩;have sr:g.at e0=(x,z):=by rw[<-hx,<-hz]
 rw[hx,hz] at EG Eg ⊢;have Cy:off g x e0=z:=by unfold off;rw[if_pos hx,hz]
 have Ds:off g z e0=x:=by unfold off;rw[if_neg (by grind),hx]
 obtain⟨e2,h2,iI,nO⟩:∃ e2∈b.e,e0≠e2/\dG g e2 z:=by
  have h3:=qx e1 h1 bh x Eg.1;rw[Cy] at h3;rcases FD h3 with r | ⟨w,hw,hwx⟩
  ·exact⟨e1,h1,bh,by rw[<-r];exact pr⟩
  obtain⟨e,he,r⟩:=hw;refine⟨e,he,fun q=>?_,?_⟩
  ·rw[<-q,sr] at r
   rcases r with r | r
   ·exact EG (congrArg Prod.fst r)
   exact hwx (congrArg Prod.fst r).symm
  rcases r with r | r
  ·exact Qo (by rw[r])
  exact Qp (by rw[r])
 have h4:=qx e2 h2 iI z Eg.2;rw[Ds] at h4;have h5:∀ u,b9 g b z x u->u≠z/\b9 g (eY b e0) (-1) x u:=fun u hu=>by
  induction hu with
  | here=>exact⟨EG,.here⟩
  | step _ hn hs ih =>
   refine⟨hs,ih.2.step ?_ (by have:=(hb.vr _ (CE hb hn)).1;omega)⟩;obtain⟨e,he,r⟩:=hn;refine⟨e,Qn.2 ⟨he,?_⟩,r⟩
   all_goals grind
 have h6:=(h5 _ h4).2;refine h6.step ⟨e2,Qn.2 ⟨h2,by grind⟩,?_⟩ (by have:=(hb.vr _ Eg.2).1;omega);unfold off;split
 ·rename_i q;exact Qp (by rw[<-q])
 rename_i q;rcases nO with r | r
 ·exact absurd r q
 exact Qo (by rw[<-r])
def fa (g:Gr) (p:Pt):List (List Int):=(QE g.n.toNat).map fun v:Nat=>aF g p v
theorem ia {g:Gr} {p:Pt} {v:Int} (h0:0<=v) (hn:v<g.n):az (fa g p) v=aF g p v:=by
 obtain⟨n,rfl⟩:∃ n:Nat,v=n:=⟨v.toNat,by omega⟩;have aL:n<g.n.toNat:=by omega
 show ((QE g.n.toNat).map _).getD n []=_
 grind
theorem FQ {g:Gr} {p:Pt} (hp:aB g p) (hn:0<=g.n):aR g p (fa g p):=by
 refine⟨by grind [fa],fun v=>?_,fun v h0 h1 d=>by grind [ia,bg]⟩;by_cases hv:v.toNat<g.n.toNat
 ·have:=ia (g:=g) (p:=p) (v:=(v.toNat:Int)) (by omega) (by omega)
  unfold az at this ⊢;rw[QB] at this;rw[this];exact eS hp.en _
 all_goals grind [az,fa]
theorem xS (g:Gr) (e:Int):g.tail (2*e+1)=(g.at e).2/\g.head (2*e+1)=(g.at e).1:=by
 grind [Gr.tail,Gr.head]
theorem xZ (e:Int):aT (2*e)=2*e+1/\aT (2*e+1)=2*e:=by
 grind [aT]
theorem x9 (x:Int):ahead [x] x=x:=by simp[ahead]
theorem EV {x y:Int} (h:x≠y):ahead [x,y] x=y/\ahead [x,y] y=x:=by
 grind [ahead]
theorem tK {g:Gr} {p:Pt} {e:Int} (dm:p.err g=0) (he:p.e=[e]) (hv:∀ v,v∈p.v↔v=(g.at e).1\/v=(g.at e).2) :
  eE g p (fa g p) (if (g.at e).1=(g.at e).2 then [[2*e],[2*e+1]] else [[2*e,2*e+1]]):=by
 have hk:=Pt.ay dm;have hn:=(Gr.aA (Pt.aA dm).1).1;have hd:p.ah=[2*e,2*e+1]:=by unfold Pt.ah;rw[he];rfl
 have vx:=FQ hk hn;have rO:e∈p.e:=by rw[he];simp
 have kD:=hk.ends e rO;have fQ:=hk.vr _ kD.1;have fh:=hk.vr _ kD.2;obtain⟨t1,t2⟩:=et g e;obtain⟨t3,t4⟩:=xS g e;obtain⟨w1,w2⟩:=xZ e;have T0:∀ v∈p.v,∃ d∈p.ah,g.tail d=v:=fun v h=>by
  all_goals grind
 have jI:oI g p (g.at e).1 (g.at e).2:=⟨e,rO,Qo rfl⟩;have TD:∀ u∈p.v,∀ v∈p.v,b9 g p (-1) u v:=fun u hu v Xl=>by
  rcases (hv u).1 hu with r | r <;> rcases (hv v).1 Xl with s | s
  ·rw[r,s];exact .here
  ·rw[r,s];exact .step .here jI (by omega)
  ·rw[r,s];exact .step .here jI.symm (by omega)
  rw[r,s];exact .here
 by_cases hq:(g.at e).1=(g.at e).2
 ·rw[if_pos hq]
  have hda:aF g p (g.at e).1=[2*e,2*e+1]:=by
   grind [aF,t1]
  have sM:p.v.length=1:=by
   have:p.v.Perm [(g.at e).1]:=(Qb hk.vn (by simp)).2 fun u=>by rw[hv,<-hq];simp
   exact this.length_eq
  obtain⟨k1,k2⟩:=EV (x:=2*e) (y:=2*e+1) (by omega);refine⟨dm,vx,⟨fun c hc=>?_,?_⟩,?_,fun f hf=>?_,T0,?_,TD⟩
  ·rcases Ql.1 hc with r | r
   ·rw[r]
    show aG g (fa g p) (2*e)=2*e
    grind [aG,before,w1,ia]
   rw[Qa.1 r];show aG g (fa g p) (2*e+1)=2*e+1
   grind [aG,before,t1,ia]
  all_goals grind
 rw[if_neg hq];have hda:aF g p (g.at e).1=[2*e]:=by
  grind [aF,t1]
 have hdz:aF g p (g.at e).2=[2*e+1]:=by
  grind [aF,t1]
 have sM:p.v.length=2:=by
  have:p.v.Perm [(g.at e).1,(g.at e).2]:=(Qb hk.vn (by grind)).2 fun u=>by rw[hv];simp
  exact this.length_eq
 refine⟨dm,vx,⟨fun c hc=>?_,?_⟩,?_,fun f hf=>?_,T0,?_,TD⟩
 ·rw[Qa.1 hc]
  refine⟨?_,?_⟩
  ·unfold aG before
   rw[w1,t3,ia fh.1 fh.2,hdz];exact x9 _
  show aG g (fa g p) (2*e+1)=2*e;unfold aG before;rw[w2,t1,ia fQ.1 fQ.2,hda];exact x9 _
 all_goals grind
theorem Gi {g:Gr} {b:Pt} {e0:Int} {w:List Int} (rI:b.err g=0) (h0:e0∈b.e) (hl:(g.at e0).1≠(g.at e0).2)
  (hL:kg g (g.at e0).2 w (g.at e0).1) (hN:((2*e0 :: w).map g.tail).Nodup) (hD:∀ d∈w,d∈(eY b e0).ah) :
  ∃ p aa,eE g p aa [2*e0 :: w,twins (2*e0 :: w)]/\(∀ v,v∈p.v↔v∈(2*e0 :: w).map g.tail)/\(∀ v∈p.v,v∈b.v)/\∀ e,e∈p.e↔e∈b.e/\e∈(2*e0 :: w).map (· / 2):=by
 have nr:=Pt.ay rI;obtain⟨g1,g2,g3,-⟩:=Pt.aA rI;have Eg:=nr.ends e0 h0;obtain⟨t1,t2⟩:=et g e0;obtain⟨t3,t4⟩:=xS g e0;obtain⟨x,hx⟩:∃ x,(g.at e0).1=x:=⟨_,rfl⟩;obtain⟨z,hz⟩:∃ z,(g.at e0).2=z:=⟨_,rfl⟩;obtain⟨p,hpd⟩:∃ p:Pt,p=⟨b.v.filter fun v=>decide (v=x) || decide (v=z),b.e.filter fun e=>decide (e=e0)⟩:=⟨_,rfl⟩;have wB:∀ v,v∈p.v↔v=x\/v=z:=fun v=>by
  all_goals grind
 have dm:p.e=[e0]:=by
  refine QL.1 ((Qb (by rw[hpd];exact nr.en.filter _) (by simp)).2 fun u=>?_)
  grind
 have UF:p.err g=0:=by
  refine Pt.zu g1 (by grind [eN]) (by grind [eN]) fun e he=>?_;rw[dm,Qa] at he;subst he;show (g.at e).1∈p.v/\(g.at e).2∈p.v
  grind
 have hF:=tK UF dm (fun v=>by grind);rw[if_neg hl] at hF;rw[hx,hz] at hL hl;rw[hx] at t1 t4;rw[hz] at t2 t3;rw[QD,QV,t1] at hN;obtain⟨hNx,hNw⟩:=hN;obtain⟨c,l,rfl⟩:∃ c l,w=c :: l:=by
  cases w with
  | nil=>exact absurd hL.symm hl
  | cons c l=>exact⟨c,l,rfl⟩
 have hct:g.tail c=z:=hL.1;have hh:=fx hL;have hNl:(l.map g.tail).Nodup/\z ∉ l.map g.tail:=by
  grind
 have sW:x ∉ l.map g.tail:=fun k=>hNx (by grind);have Ln:mF g p (c :: l) z x:=by
  refine⟨hL,fun r=>hl r.symm,(wB _).2 (Qp rfl),(wB _).2 (Qo rfl),fun d hd=>?_,hNw,pa hL ?_ ?_,fun d hd=>?_⟩
  ·rw[wB]
   have PK:g.tail d∈l.map g.tail:=Qe.2 ⟨d,hd,rfl⟩;rintro (r | r)
   ·rw[r] at PK;exact sW PK
   rw[r] at PK;exact hNl.2 PK
  ·rw[hh,Qq]
   exact⟨hNl.1,by simp,fun u hu v hv e=>sW (by rw[<-Qa.1 hv,<-e];exact hu)⟩
  ·rw[hh,List.mem_append,Qa]
   rintro (r | r)
   ·exact hNl.2 r
   exact hl r.symm
  rw[dm,Qa];have:=(Qn.1 (aw.1 (hD d hd))).2;rw[bne_iff_ne] at this;exact this
 have hDb:∀ d∈c :: l,d∈b.ah:=fun d hd=>aw.2 (Qn.1 (aw.1 (hD d hd))).1;obtain⟨q,hqd⟩:∃ q:Pt,q=⟨b.v.filter fun v=>decide (v∈p.v) || decide (v∈(c :: l).map g.tail),b.e.filter fun e=>decide (e∈p.e) || decide (e∈(c :: l).map (· / 2))⟩:=⟨_,rfl⟩;have Fw:∀ v,v∈q.v↔v∈p.v\/v∈(c :: l).map g.tail:=fun v=>by
  all_goals grind [aB.aO]
 have Vi:∀ e,e∈q.e↔e∈p.e\/e∈(c :: l).map (· / 2):=fun e=>by
  all_goals grind [aw]
 have Mc:∀ d∈c :: l,g.tail d∈q.v/\g.head d∈q.v:=fun d hd=>by
  refine⟨(Fw _).2 (Qp (Qe.2 ⟨d,hd,rfl⟩)),(Fw _).2 ?_⟩;have h3:g.head d∈(c :: l).map g.head:=Qe.2 ⟨d,hd,rfl⟩
  all_goals grind
 have iM:=Pt.ay UF;have G7:q.err g=0:=by
  refine Pt.zu g1 (by grind [eN]) (by grind [eN]) fun e he=>?_;show (g.at e).1∈q.v/\(g.at e).2∈q.v;rcases (Vi e).1 he with k | k
  ·exact⟨(Fw _).2 (Qo (iM.ends e k).1),(Fw _).2 (Qo (iM.ends e k).2)⟩
  obtain⟨d,hd,rfl⟩:=Qe.1 k;obtain⟨k1,k2⟩:=Mc d hd;rcases gM g d with ⟨j1,j2⟩ | ⟨j1,j2⟩
  ·rw[<-j1,<-j2];exact⟨k1,k2⟩
  rw[<-j1,<-j2];exact⟨k2,k1⟩
 have BS:Gw g p (c :: l) q:=⟨G7,Fw,Vi⟩;have yS:eE g p (fa g p) (((2*e0+1) :: []++(2*e0) :: []) :: []):=eE.P9 (A:=[2*e0]) (B:=[2*e0+1]) hF;have Kt:2*e0+1∈p.ah/\2*e0∈p.ah:=by unfold Pt.ah;rw[dm];simp
 obtain⟨r1,r2⟩:=si yS Ln BS Kt.1 t3 Kt.2 t1;have PD:=yS.put Ln BS r1 r2 (QS.refl _) (QS.refl _) t3 t1;refine⟨q,fA g p q (fa g p) (c :: l) z x (2*e0+1) (2*e0),?_,fun v=>?_,fun v hv=>?_,fun e=>?_⟩
 ·have hF3:=eE.P9 (A:=[2*e0+1]) (B:=twins (c :: l)) PD
  have hF4:=eE.P9 (A:=c :: l) (B:=[2*e0]) (hF3.perm (QS.swap _ _ _))
  grind [twins,xZ]
 ·all_goals grind
 all_goals grind
theorem Dj {g:Gr} {b p:Pt} {on:Int->Bool} {w:List Int} {F:List (List Int)} (hb:aB g b) (hS:cQ g b) (iM:aB g p) (dm:p.e≠[]) (nJ:∀ v,on v=true↔v∈p.v) (nK:∀ v∈p.v,v∈b.v) (VW:∀ e∈p.e,e∈b.e)
  (hw:∀ d∈w,on (g.tail d)=true/\on (g.head d)=true) (hEp:∀ e∈aX b.e w,e ∉ p.e) (hF:F.length=2) {c:a8} (hm:c∈dt g on F (aX b.e w) [0,1]):yO g b on F c:=by
 obtain⟨l,hl,rfl⟩:=Qe.1 hm;have Zm:=gw g on (aX b.e w);have Xk:(aX b.e w).Nodup:=hb.en.filter _;have dH:(fN g on (aX b.e w)).1.all=aX b.e w:=by rw[Zm.all,kf Xk]
 obtain⟨g1,g2,g3⟩:=lH Zm.ok hl;rw[dH] at g2;have lE:∀ e∈l,e∈b.e:=fun e he=>(cP.1 (g2 e he)).1;have sd:∀ e∈l,∀ f∈b.e,Lk g on e f->f∈l:=fun e he f' wR l6=>by
  obtain⟨v,hv,h1,h2⟩:=l6;have Xt:f'∈aX b.e w:=cP.2 ⟨wR,fun d hd r=>by
   all_goals grind [uj]⟩
  exact (g3 e he f').2 (gY (g2 e he) Xt ⟨v,hv,h1,h2⟩)
 refine⟨fun Q hQ hh e he f' wR=>?_,sd,lE,rfl,xP hS iM dm nJ nK VW g1 lE (fun e he=>hEp e (g2 e he)) sd,?_,fun i=>?_⟩
 ·have:=sA (g:=g) (on:=on) (E:=aX b.e w) (Q:=fun x y=>(x∈l/\y∈l/\Q x y)\/(x ∉ l/\y ∉ l)) ⟨fun x=>by
    by_cases q:x∈l
    ·exact Qo ⟨q,q,hQ.refl x⟩
    ·exact Qp ⟨q,q⟩,fun {x y} q=>by
    rcases q with ⟨q1,q2,q3⟩ | ⟨q1,q2⟩
    ·exact Qo ⟨q2,q1,hQ.symm q3⟩
    ·exact Qp ⟨q2,q1⟩,fun {x y z} q r=>by
    rcases q with ⟨q1,q2,q3⟩ | ⟨q1,q2⟩ <;> rcases r with ⟨r1,r2,r3⟩ | ⟨r1,r2⟩
    ·exact Qo ⟨q1,r2,hQ.trans q3 r3⟩
    ·exact absurd q2 r1
    ·exact absurd r1 q2
    ·exact Qp ⟨q1,r2⟩⟩ (fun x hx y hy l6=>by
    by_cases q:x∈l
    ·have Hv:=(g3 x q y).2 (gY hx hy l6)
     exact Qo ⟨q,Hv,hh x q y Hv l6⟩
    refine Qp ⟨q,fun r=>q ((g3 y r x).2 (gY hy hx ?_))⟩;obtain⟨v,hv,h1,h2⟩:=l6;exact⟨v,hv,h2,h1⟩) ((g3 e he f').1 wR)
  all_goals grind
 all_goals grind [iq,cg,pV]
theorem OE {g:Gr} {b:Pt} (rI:b.err g=0) (hS:cQ g b) (h2:2<=b.e.length)
  (La:um g b):∃ p aa,zQ g b (mS g b) p aa/\(mS g b).left+2<=b.e.length:=by
 have nr:=Pt.ay rI;obtain⟨e0,e1,l,hl⟩:∃ e0 e1 l,b.e=e0 :: e1 :: l:=by
  match hb:b.e with
  | []=>rw[hb] at h2;simp at h2
  | [_]=>rw[hb] at h2;simp at h2
  | e0 :: e1 :: l=>exact⟨e0,e1,l,rfl⟩
 have Pf:b.e.getD 0 0=e0:=by rw[hl];rfl
 obtain⟨k1,k2,k3⟩:=Py rI (by omega) La.1 La.2 (by grind [JK]);have Va:eX g b=2*e0 :: (gT g (eY b e0) (g.at e0).2 (g.at e0).1).getD []:=by unfold eX;rw[Pf]
 have h0:e0∈b.e:=by rw[hl];simp
 obtain⟨t1,t2⟩:=et g e0;rw[Pf,Va] at k1 k3;rw[Va] at k2;unfold mS;rw[Va];generalize (gT g (eY b e0) (g.at e0).2 (g.at e0).1).getD []=w at *;obtain⟨p,aa,f1,f2,f3,f4⟩:=Gi rI h0 (oG nr hS hl e0 h0) (by have:=k1.2;rw[t2] at this;exact this) k2 k3;have iM:=Pt.ay f1.pe;have nJ:∀ v,du g (2*e0 :: w) v=true↔v∈p.v:=fun v=>by
  grind [eQ]
 have dm:p.e≠[]:=List.ne_nil_of_mem ((f4 e0).2 ⟨h0,by rw[QD,show 2*e0 / 2=e0 by omega];simp⟩);have hwn:∀ e∈aX b.e (2*e0 :: w),e ∉ p.e:=fun e he hp=>by
  grind [cP]
 have hse:=lV (g:=g) (on:=du g (2*e0 :: w)) (F:=[2*e0 :: w,twins (2*e0 :: w)]) (ks:=[0,1]) (E:=aX b.e (2*e0 :: w)) (nr.en.filter _);have Hy:∀ d∈2*e0 :: w,d∈p.ah:=fun d hd=>f1.all.mem_iff.1 (by grind);have jQ:(p.e++(dt g (du g (2*e0 :: w)) [2*e0 :: w,twins (2*e0 :: w)] (aX b.e (2*e0 :: w)) [0,1]).flatMap (·.aq)).Perm b.e:=by
  refine (hse.append_left p.e).trans ((Qb ?_ nr.en).2 fun e=>?_)
  ·rw[Qq]
   exact⟨iM.en,nr.en.filter _,fun u hu v hv r=>hwn v hv (r ▸ hu)⟩
  all_goals grind [cP]
 refine⟨p,aa,⟨f1,nJ,f3,dm,jQ,fun c hc=>?_⟩,?_⟩
 ·exact Dj nr hS iM dm nJ f3 (fun e he=>((f4 e).1 he).1) (fun d hd=>⟨(nJ _).2 (iM.aO (Hy d hd)).1,(nJ _).2 (iM.aO (Hy d hd)).2⟩) hwn rfl hc
 have h0p:e0∈p.e:=(f4 e0).2 ⟨h0,by rw[QD,show 2*e0 / 2=e0 by omega];simp⟩;have fR:=iM.ends e0 h0p;have Tj:=oG nr hS hl e0 h0;have OQ:2<=p.v.length:=by
  have:[(g.at e0).1,(g.at e0).2].length<=p.v.length:=bS (by grind) fun x hx=>by
   all_goals grind
  grind
 have heu:=f1.sO;have qM:=jQ.length_eq
 grind [Sk.left,dt,du,twins,aX]
def qt (g:Gr) (V:List Int):Nat->Sk->Option Sk
 | 0,s=>some s
 | n+1,s=>if s.rest.isEmpty then some s else match choose s.rest with
  | none=>none
  | some i=>qt g V n (s.put g V i)
theorem I4 {g:Gr} {V:List Int} {n:Nat} {s:Sk} (h:s.rest=[]):qt g V n s=some s:=by
 cases n with
 | zero=>rfl
 | succ n=>show (if s.rest.isEmpty then _ else _)=_;rw[h];rfl
theorem EI {g:Gr} {V:List Int} {n:Nat} {s:Sk} (h:s.rest≠[]) (hc:choose s.rest=none):qt g V (n+1) s=none:=by
 show (if s.rest.isEmpty then _ else _)=_
 grind
theorem Fy {g:Gr} {V:List Int} {n i:Nat} {s:Sk} (h:s.rest≠[]) (hc:choose s.rest=some i):qt g V (n+1) s=qt g V n (s.put g V i):=by
 show (if s.rest.isEmpty then _ else _)=_
 grind
theorem Mz {g:Gr} {b p:Pt} {s:Sk} {aa:List (List Int)} (h:zQ g b s p aa) (hr:s.rest≠[]):0<s.left:=by
 obtain⟨c,hc⟩:=List.exists_mem_of_ne_nil _ hr;have hk:=h.KU c hc;have h2:=hk.two;obtain⟨v,hv⟩:=Qu (l:=c.ends) (by omega);rw[hk.ends] at hv;obtain⟨-,e,he,-⟩:=cC.1 hv;unfold Sk.left;exact List.length_pos_of_mem (List.mem_flatMap.2 ⟨c,hc,he⟩)
theorem BC {g:Gr} {b p:Pt} {s:Sk} {aa:List (List Int)} (rI:b.err g=0) (hS:cQ g b) (h:zQ g b s p aa) (hr:s.rest=[]):eE g b aa s.ak:=by
 have nr:=Pt.ay rI;have jQ:=h.part;rw[hr,List.flatMap_nil,List.append_nil] at jQ;obtain⟨-,b2,b3,-⟩:=Pt.aA rI;obtain⟨-,p2,p3,-⟩:=Pt.aA h.ak.pe;have he:p.e=b.e:=mB (bM p3) (bM b3) fun x=>jQ.mem_iff;have hd:p.ah=b.ah:=by unfold Pt.ah;rw[he]
 have hv:p.v=b.v:=mB (bM p2) (bM b2) fun x=>⟨h.sub x,fun hx=>by
  obtain⟨d,h1,h2⟩:=hS.2 x hx;rw[<-hd] at h1;rw[<-h2];exact ((Pt.ay h.ak.pe).aO h1).1⟩
 have ph:p=b:=by
  cases p;cases b
  grind
 rw[<-ph];exact h.ak
def mA (f:List Int):Nat->List Int->List Int
 | 0,L=>L
 | i+1,L=>(mA f i L).set (f.getD ((i+1) % f.length) 0).toNat (aT (f.getD i 0))
def lu (F:List (List Int)):Nat->List Int->List Int
 | 0,L=>L
 | k+1,L=>mA (F.getD k []) (F.getD k []).length (lu F k L)
def OU (W:List (Int × Int)) (L:List Int):List Int:=W.foldl (fun L p=>L.set p.1.toNat p.2) L
theorem Hz:∀ {W:List (Int × Int)} {L:List Int} {n:Nat},(∀ p∈W,p.1.toNat≠n)->(OU W L).getD n 0=L.getD n 0
 | [],_,_,_=>rfl
 | p :: W,L,n,h=>by
  show (OU W (L.set p.1.toNat p.2)).getD n 0=_;rw[Hz fun q hq=>h q (Qf _ hq)];simp[Qh,List.getElem?_set_ne (h p (by simp))]
theorem GC:∀ {W:List (Int × Int)} {L:List Int} {x y:Int},(W.map (·.1)).Nodup->(∀ p∈W,0<=p.1)->(x,y)∈W->x.toNat<L.length->(OU W L).getD x.toNat 0=y
 | [],_,_,_,_,_,h,_=>by cases h
 | p :: W,L,x,y,hn,h0,hm,hl=>by
  rw[QD,QV] at hn;show (OU W (L.set p.1.toNat p.2)).getD x.toNat 0=_;rcases Ql.1 hm with r | r
  ·subst r
   rw[Hz fun q hq e=>hn.1 (Qe.2 ⟨q,hq,by
    have h1:=h0 q (Qf _ hq);have h2:=h0 _ (List.mem_cons_self (a:=(x,y)) (l:=W));simp only at h2 e;omega⟩)]
   simp[Qh,hl]
  exact GC hn.2 (fun q hq=>h0 q (Qf _ hq)) r (by rwa[QG])
theorem uW (V W:List (Int × Int)) (L:List Int):OU (V++W) L=OU W (OU V L):=by grind [OU]
theorem LC {p:Int->Int} {f:List Int} (h:Ring p f) {i:Nat} (hi:i<f.length):f.getD ((i+1) % f.length) 0=p (f.getD i 0):=by
 cases f with
 | nil=>simp at hi
 | cons x l =>
  have hm:=Trail.map (show Trail p x l x from h);have h1:p ((x :: l).getD i 0)=((x :: l).map p).getD i 0:=by
   grind
  rw[h1,hm];rw[Qd] at hi;by_cases e:i=l.length
  ·subst e
   rw[Qd,Q3]
   grind
  rw[Qd,Qi (by omega)]
  grind
theorem yf {p:Int->Int} {f:List Int} (h:Ring p f) (L:List Int):∀ i,i<=f.length->mA f i L=OU ((f.take i).map fun d=>(p d,aT d)) L
 | 0,_=>rfl
 | i+1,hi=>by
  rw[mA,yf h L i (by omega),LC h (by omega)];have e:f.take (i+1)=f.take i++[f.getD i 0]:=by
   rw[QC];simp[Qh,show i<f.length by omega]
  rw[e,Qw,uW];rfl
theorem tZ {p:Int->Int} {F:List (List Int)} (h:∀ f∈F,Ring p f) (L:List Int):∀ k,k<=F.length->lu F k L=OU ((F.take k).flatten.map fun d=>(p d,aT d)) L
 | 0,_=>rfl
 | k+1,hk=>by
  have hm:F.getD k []∈F:=by simp[Qh,show k<F.length by omega]
  rw[lu,tZ h L k (by omega),yf (h _ hm) _ _ (Qt _),QT];have e:F.take (k+1)=F.take k++[F.getD k []]:=by
   rw[QC];simp[Qh,show k<F.length by omega]
  rw[e,List.flatten_append,Qw,uW];simp
def uD (m:Nat) (F:List (List Int)):List Int:=lu F F.length (QJ m 0)
theorem I6 {g:Gr} {b:Pt} {aa F:List (List Int)} {m:Nat} (h:eE g b aa F) (hm:∀ d∈b.ah,0<=d/\d.toNat<m) {d:Int} (hd:d∈b.ah):(uD m F).getD (aG g aa d).toNat 0=aT d:=by
 have fp:∀ x,x∈F.flatten↔x∈b.ah:=fun x=>h.all.mem_iff;have aoY:∀ x∈F.flatten,aG g aa x∈b.ah:=fun x hx=>(fp _).1 (h.rings.next hx);unfold uD;rw[tZ h.rings.ring _ _ (Qt _),QT];refine GC ?_ (fun p hp=>?_) (Qe.2 ⟨d,(fp d).2 hd,rfl⟩) ?_
 ·rw[List.map_map]
  show (F.flatten.map (aG g aa)).Nodup;exact List.pairwise_map.2 (h.rings.nodup.imp_of_mem fun {x y} hx hy bh e=>bh (h.rings.inj x hx y hy e))
 all_goals grind
theorem Kq {g:Gr} {b:Pt} {aa F:List (List Int)} {m:Nat} (h:eE g b aa F) (hm:∀ d∈b.ah,0<=d/\d.toNat<m) {v:Int} (hv:0<=v/\v<g.n) {k:Nat} (hk:k<(first (az aa v)).length) :
  (uD m F).getD ((first (az aa v)).getD k 0).toNat 0=(first (az aa v)).getD ((k+1) % (first (az aa v)).length) 0:=by
 have nr:=Pt.ay h.pe;have qG:=h.nQ.nodup v;obtain⟨R,hR⟩:∃ R,first (az aa v)=R:=⟨_,rfl⟩;have X':R.Nodup:=by rw[<-hR];exact (cI _).nodup_iff.2 qG
 have hRm:∀ x,x∈R↔x∈az aa v:=fun x=>by rw[<-hR];exact (cI _).mem_iff
 have hah:∀ x∈R,ahead R x=ahead (az aa v) x:=fun x hx=>by rw[<-hR];exact sx qG x ((hRm x).1 hx)
 rw[hR] at hk ⊢;have aL:(k+1) % R.length<R.length:=Nat.mod_lt _ (by omega);have xz:R.getD ((k+1) % R.length) 0∈R:=aQ aL;obtain⟨Kt,Pv⟩:=(h.nQ.mem v hv.1 hv.2 _).1 ((hRm _).1 xz);have h1:=I6 h hm (bQ Kt);rw[bC] at h1;have h2:aG g aa (aT (R.getD ((k+1) % R.length) 0))=R.getD k 0:=by
  unfold aG before;rw[bC,Pv,<-hah _ xz];unfold ahead;rw[fU X' aL]
  congr 1
  by_cases e:k+1=R.length
  ·rw[e,Q3,QF,Qi (by omega)]
   omega
  rw[Qi (show k+1<R.length by omega),show k+1+R.length - 1=k+R.length by omega,QP,Qi hk]
 grind
theorem CT {g:Gr} {b:Pt} {aa:List (List Int)} (ht:aR g b aa) (_hb:aB g b) (hr:b.e.Pairwise (·<·)) {v:Int} (hv:0<=v/\v<g.n) {j:Nat} (hj:j<b.ah.length) (wu:g.tail (b.ah.getD j 0)=v) (h0:bG g b v j=[]) :
  ∃ l,first (az aa v)=b.ah.getD j 0 :: l:=by
 have hd:b.ah.getD j 0∈az aa v:=(ht.mem v hv.1 hv.2 _).2 ⟨aQ hj,wu⟩;obtain⟨x,m,h1,h2⟩:=oU (l:=az aa v) fun e=>by rw[e] at hd;cases hd
 refine⟨m,?_⟩;rw[h1];have h3:=h2 _ hd;have hx:x∈az aa v:=by
  grind [first,az,cI]
 obtain⟨Kt,Pv⟩:=(ht.mem v hv.1 hv.2 _).1 hx;obtain⟨i,hi,hxi⟩:=bN Kt;have lA:j<=i:=by
  refine Nat.le_of_not_lt fun q=>?_;have:x∈bG g b v j:=by
   unfold bG;rw[Qn];refine⟨?_,decide_eq_true Pv⟩;rw[<-hxi];simp only[Qh,Qg hi,Qr];rw[QK]
   grind
  grind
 have hle:b.ah.getD j 0<=x:=by
  rw[<-hxi];by_cases e:j=i
  ·rw[e];exact Int.le_refl _
  have hp:=ig hr;have:=(List.pairwise_iff_getElem.1 hp) j i hj hi (by omega);simp only[Qh,Qg hi,Qg hj,Qr];omega
 grind
def gK:Gr:=⟨5,[(0,1),(0,2),(0,3),(0,4),(1,2),(1,3),(1,4),(2,3),(2,4),(3,4)]⟩
def pK:Pt:=⟨[0,1,2,3,4],[0,1,2,3,4,5,6,7,8,9]⟩
def gW:Gr:=⟨2,[(0,1),(0,1)]⟩
def pW:Pt:=⟨[0,1],[0,1]⟩
def tW:List (List Int):=[[0,2],[1,3]]
theorem WM:pK.err gK=0:=by decide
theorem ZE:pW.err gW=0:=by decide
theorem vD:∀ {F:List (List Int)},(∀ f∈F,3<=f.length)->3*F.length<=F.flatten.length
 | [],_=>by simp
 | f :: F,h=>by
  have ih:=vD (F:=F) fun x hx=>h x (Qf _ hx);have:=h f (by simp);rw[List.flatten_cons,Qc,Qd];omega
theorem Ff {l:List Int} {x:Int} (hn:l.Nodup) (hx:x∈l) (h:ahead l x=x):l.length<=1:=by
 have h1:l.idxOf x<l.length:=Qm.2 hx;have h2:l[l.idxOf x]=x:=QN h1;unfold ahead at h;have h3:(l.idxOf x+l.length - 1) % l.length<l.length:=Nat.mod_lt _ (by omega);rw[show l.getD ((l.idxOf x+l.length - 1) % l.length) 0=l[(l.idxOf x+l.length - 1) % l.length] by grind] at h;have h4:=(List.getElem_inj hn).1 (h.trans h2.symm);rcases Nat.eq_zero_or_pos (l.idxOf x) with r | r
 ·rw[r] at h4
  rw[Qi (by omega)] at h4;omega
 rw[show l.idxOf x+l.length - 1=(l.idxOf x - 1)+l.length by omega,QP,Qi (by omega)] at h4;omega
theorem pd {g:Gr} {p:Pt} {aa:List (List Int)} (hp:aB g p) (ht:aR g p aa) {d:Int} (hd:d∈p.ah):g.tail (aG g aa d)=g.head d/\aT d∈az aa (g.head d):=by
 have h1:=hp.aO hd;have h2:=hp.vr _ h1.2;have hm:aT d∈az aa (g.head d):=(ht.mem _ h2.1 h2.2 _).2 ⟨bQ hd,aS g d⟩;refine⟨?_,hm⟩;unfold aG before;rw[aS];exact ((ht.mem _ h2.1 h2.2 _).1 (rp (ht.nodup _) hm)).2
theorem Nu {aa F:List (List Int)}:¬ eE gK pK aa F:=by
 intro h;have iM:=Pt.ay WM;have hlen:F.flatten.length=20:=h.all.length_eq.trans (by decide);have hF:=h.sO;have hv:pK.v.length=5:=rfl;have he:pK.e.length=10:=rfl;have h3:∀ f∈F,3<=f.length:=fun f hf=>by
  have hr:=h.rings.ring f hf;have hm:∀ d∈f,d∈pK.ah:=fun d hd=>h.all.mem_iff.1 (QU.2 ⟨f,hf,hd⟩)
  match f,hr,hm with
  | [d],hr,hm =>
   have hd:=hm d (by simp);have h1:=(pd iM h.nQ hd).1;have hr':aG gK aa d=d:=hr;rw[hr'] at h1;exact absurd h1 ((show ∀ d∈pK.ah,gK.tail d≠gK.head d by decide) d hd)
  | [d,e],hr,hm =>
   have hd:=hm d (by simp);have he:=hm e (by simp);obtain⟨r1,r2⟩:aG gK aa d=e/\aG gK aa e=d:=hr;have h1:=pd iM h.nQ hd;have h2:=(pd iM h.nQ he).1;rw[r1] at h1;rw[r2] at h2;have h4:=(show ∀ d∈pK.ah,∀ e∈pK.ah,gK.tail e=gK.head d->gK.tail d=gK.head e->e=aT d by decide) d hd e he h1.1 h2;have h5:ahead (az aa (gK.head d)) (aT d)=aT d:=by
    have h6:aG gK aa d=aT d:=r1.trans h4;unfold aG before at h6;rwa[aS] at h6
   have h7:=Ff (h.nQ.nodup _) h1.2 h5;have Fb:=iM.vr _ (iM.aO hd).2;have h8:(az aa (gK.head d)).Perm (aF gK pK (gK.head d)):=(Qb (h.nQ.nodup _) (eS iM.en _)).2 fun x=>by
    rw[h.nQ.mem _ Fb.1 Fb.2,bg]
   have h9:=(show ∀ d∈pK.ah,(aF gK pK (gK.head d)).length=4 by decide) d hd;have:=h8.length_eq;omega
  | _ :: _ :: _ :: l,_,_=>simp
 have:=vD h3;omega
theorem Hh {l:List Int} {a b:Int} (qi:a<b) (hn:l.Nodup) (hm:∀ d,d∈l↔d=a\/d=b):first l=[a,b]:=by
 have hp:l.Perm [a,b]:=(Qb hn (by simp;omega)).2 fun d=>by rw[hm];simp
 have hf:(first l).Perm [a,b]:=(cI l).trans hp;have hl:=hf.length_eq;have bh:l≠[]:=fun e=>by rw[e] at hp;have:=hp.length_eq;simp at this
 obtain⟨x,m,h1,h2⟩:=oU bh;rw[h1] at hf hl;have ha:=h2 a ((hm a).2 (Qo rfl));have hx:x=a:=by
  have:=hf.mem_iff.1 (show x∈x :: m by simp);rcases Ql.1 this with r | r
  ·exact r
  have:=Qa.1 r;omega
 rw[hx] at hf h1;rw[h1,(QL.1 (QS.cons_inv hf))]
theorem Ku {aa:List (List Int)} (h:aR gW pW aa):aa.map first=tW:=by
 have hl:=h.len;have h0:=Hh (a:=0) (b:=2) (by decide) (h.nodup 0) (fun d=>by
  rw[h.mem 0 (by decide) (by decide)];constructor
  ·rintro ⟨h1,h2⟩
   exact (show ∀ d∈pW.ah,gW.tail d=0->d=0\/d=2 by decide) d h1 h2
  rintro (r | r) <;> rw[r] <;> exact⟨by decide,by decide⟩)
 have h1:=Hh (a:=1) (b:=3) (by decide) (h.nodup 1) (fun d=>by
  rw[h.mem 1 (by decide) (by decide)];constructor
  ·rintro ⟨h1,h2⟩
   exact (show ∀ d∈pW.ah,gW.tail d=1->d=1\/d=3 by decide) d h1 h2
  rintro (r | r) <;> rw[r] <;> exact⟨by decide,by decide⟩)
 match aa,hl,h0,h1 with
 | [x,y],_,h0,h1 =>
  have h0:first x=[0,2]:=h0;have h1:first y=[1,3]:=h1;show [first x,first y]=tW;rw[h0,h1];rfl
 | [],hl,_,_=>cases hl
 | [_],hl,_,_=>cases hl
 | _ :: _ :: _ :: l,hl,_,_=>simp[gW] at hl;omega
theorem vw {g:Gr} {p:Pt} {e0:Int} {l:List Int} (_hp:aB g p) (he:p.e=e0 :: l) (h1:∀ e∈p.e,¬ (g.at e).1=(g.at e).2) (h2:∀ e∈p.e,∀ v∈p.v,off g v e0=off g v e\/oI g p (off g v e0) (off g v e)) (h3:∀ v∈p.v,∃ d∈p.ah,g.tail d=v):cQ g p:=by
 refine⟨⟨e0,l,he,fun e rO v hv=>?_⟩,h3⟩;rintro ⟨bh,q | q | q⟩
 ·exact h1 e0 (by rw[he];simp) (q.1.trans q.2.symm)
 ·exact h1 e rO (q.1.trans q.2.symm)
 refine q ?_;rcases h2 e rO v hv with r | r
 ·rw[r];exact .here
 exact .step .here r (oN fun s=>h1 e rO (s.1.trans s.2.symm))
theorem U1:cQ gK pK:=vw (Pt.ay WM) rfl (by decide) (show ∀ e∈pK.e,∀ v∈pK.v,off gK v 0=off gK v e\/∃ x∈pK.e,(gK.at x=(off gK v 0,off gK v e)\/gK.at x=(off gK v e,off gK v 0)) by decide) (by decide)
theorem Xx:cQ gW pW:=vw (Pt.ay ZE) rfl (by decide) (show ∀ e∈pW.e,∀ v∈pW.v,off gW v 0=off gW v e\/∃ x∈pW.e,(gW.at x=(off gW v 0,off gW v e)\/gW.at x=(off gW v e,off gW v 0)) by decide) (by decide)
structure acO (g:Gr) (b:Pt) (s:Sk) (c:a8) (N a z f:Nat) (w old:List Int):Prop where
 a0:c.ends.getD 0 0=a
 aN:a<N
 aV:(a:Int)∈b.v
 el:2<=c.ends.length/\c.ends.length<=1024
 part:aB g ⟨b.v,c.aq⟩
 aq:∀ e∈c.aq,0<=e/\e<g.e.length
 Hk:c.aq.length<=1024
 qL:lY g s.on ⟨b.v,c.aq⟩ a=w
 wne:w≠[]
 wd:∀ d∈w,0<=d/\d / 2<g.e.length
 wl:w.length<=1024
 z0:g.head (w.getLastD 0)=z
 zN:z<N
 f0:c.ak.getD 0 0=f
 fF:f<s.ak.length
 fl:0<c.ak.length/\c.ak.length<=2050
 Ti:s.ak.getD f []=old
 oa:∃ x∈old,g.tail x=a
 oz:∃ x∈old,g.tail x=z
 od:∀ d∈old,0<=d/\d / 2<g.e.length
 ol:old.length<=2048
 Fl:s.ak.length<=2050
 rest:∀ r∈s.rest,(∀ v∈r.ends,0<=v/\v<N)/\r.ends.length<=1024/\r.ak.length<=2050
 rl:s.rest.length<=1024
theorem kW {α β:Type} {f:α->List β}:∀ {l:List α},(∀ x∈l,f x≠[])->l.length<=(l.flatMap f).length
 | [],_=>by simp
 | x :: l,h=>by
  have ih:=kW (f:=f) (l:=l) fun y hy=>h y (Qf _ hy);have:=QM.2 (h x (by simp));rw[List.flatMap_cons,Qc,Qd];omega
theorem gy {l:List Int} {N:Nat} (hn:l.Nodup) (h:∀ u∈l,0<=u/\u<N):l.length<=N:=by
 have:=bS (l:=l) (m:=(QE N).map fun n:Nat=>(n:Int)) hn fun x hx=>by
  have:=h x hx;exact Qe.2 ⟨x.toNat,List.mem_range.2 (by omega),by omega⟩
 grind
theorem JD {g:Gr} {b:Pt} {s:Sk} {p:Pt} {aa:List (List Int)} {i N:Nat} (rI:b.err g=0) (hN:g.n=N) (h:zQ g b s p aa) (hi:i<s.rest.length) (hf:(s.rest.getD i ⟨[],[],[]⟩).ak≠[]) :
  ∃ a z f w old,acO g b s (s.rest.getD i ⟨[],[],[]⟩) N a z f w old:=by
 have nr:=Pt.ay rI;have iM:=Pt.ay h.ak.pe;obtain⟨yk,-,Vt,-⟩:=Pt.aA rI;obtain⟨N5,xC,iI,-⟩:=Gr.aA yk;have jQ:=h.part;have MO:∀ e∈p.e,e∈b.e:=fun e he=>jQ.mem_iff.1 (List.mem_append_left _ he);have hbd:∀ e∈b.e,0<=e/\e<g.e.length:=fun e he=>by
  obtain⟨i,hi,rfl⟩:=bN he;have:=bX Vt hi
  grind
 have jj:b.e.length<=1024:=by
  have:=gy nr.en hbd;omega
 have qM:=bS iM.en MO;have heu:=h.ak.sO;have T8:s.ak.length<=1026:=by omega
 have oP:s.rest.getD i ⟨[],[],[]⟩∈s.rest:=by simp[Qh,hi]
 have GK:∀ r∈s.rest,∀ e∈r.aq,0<=e/\e<g.e.length:=fun r hr e he=>hbd e ((h.KU r hr).sub e he);have nJ:∀ v,s.on v=true->0<=v/\v<N:=fun v hv=>by
  have:=nr.vr v (h.sub v ((h.on v).1 hv));omega
 have fR:∀ r∈s.rest,∀ v∈r.ends,0<=v/\v<N:=fun r hr v hv=>by
  rw[(h.KU r hr).ends] at hv
  grind [cC]
 have Tg:∀ r∈s.rest,r.ends.length<=1024:=fun r hr=>by
  have h1:r.ends.Nodup:=by rw[(h.KU r hr).ends];exact jc _ _ _
  have:=gy h1 (fR r hr);omega
 have adS:∀ r∈s.rest,r.ak.length<=2050:=fun r hr=>by
  have h1:=h.KU r hr;have:=gy (N:=s.ak.length) h1.fnd fun u hu=>by
   have:=(h1.Sf u).1 hu
   grind
  omega
 have yP:s.rest.length<=1024:=by
  have h1:=kW (f:=fun c:a8=>c.aq) (l:=s.rest) fun r hr=>by
   have h2:=(h.KU r hr).two;obtain⟨v,hv⟩:=Qu (l:=r.ends) (by omega);rw[(h.KU r hr).ends] at hv
   grind [cC]
  have h2:=jQ.length_eq
  grind
 obtain⟨hsp,-⟩:=oO hi (⟨[],[],[]⟩:a8);generalize s.rest.getD i ⟨[],[],[]⟩=c at *;have hc:=h.KU c oP;have Uo:c.aq.Sublist (s.rest.flatMap (·.aq)):=by
  grind
 have gS:=(jQ.nodup_iff).2 nr.en;have nt:c.aq.Nodup:=Uo.nodup (Qq.1 gS).2.1;have hcp:∀ e∈c.aq,e ∉ p.e:=fun e h1 h2=>(Qq.1 gS).2.2 e h2 e (Uo.subset h1) rfl;have Sg:aB g ⟨b.v,c.aq⟩:=⟨nr.vn,nt,nr.vr,fun e he=>nr.er e (hc.sub e he),fun e he=>nr.ends e (hc.sub e he)⟩;obtain⟨a,z0,m,lI⟩:∃ a z0 m,c.ends=a :: z0 :: m:=by
  have:=hc.two
  match hL:c.ends with
  | []=>rw[hL] at this;simp at this
  | [_]=>rw[hL] at this;simp at this
  | a :: z0 :: m=>exact⟨a,z0,m,rfl⟩
 have kD:(a :: z0 :: m).Nodup:=by rw[<-lI,hc.ends];exact jc g s.on c.aq
 have Yr:a∈c.ends:=by rw[lI];simp
 have YB:z0∈c.ends:=by rw[lI];simp
 have WJ:=Yr;have jq:=YB;rw[hc.ends] at WJ jq;obtain⟨hoa,e0,sr,KV⟩:=cC.1 WJ;obtain⟨Ro,e1,A7,I0⟩:=cC.1 jq;have Re:z0≠a:=fun q=>by rw[q] at kD;simp at kD
 have q8:∀ d∈(⟨b.v,c.aq⟩:Pt).ah,0<=d:=fun d hd=>by have:=nr.er _ (hc.sub _ (aw.1 hd));omega
 obtain⟨z,zr⟩:=AJ (g:=g) (on:=s.on) Sg q8 hc.LH sr KV A7 I0 Ro Re;have XJ:c.ends.getD 0 0=a:=by rw[lI];rfl
 have haN:=fR c oP a Yr;obtain⟨w,hw0⟩:∃ w,lY g s.on ⟨b.v,c.aq⟩ a=w:=⟨_,rfl⟩;rw[hw0] at zr;have Ln:=zr.qL h.on hoa hcp;have D9:w≠[]:=fun q=>zr.ne (by have:=zr.link;rw[q] at this;exact this);have Zs:g.head (w.getLastD 0)=z:=by
  rcases QH w with r | ⟨m,e,r⟩
  ·exact absurd r D9
  rw[QI] at r;have:=zr.link;rw[r] at this ⊢;rw[List.getLastD_eq_getLast?];simpa using gp this
 have Jh:∀ d∈w,d / 2∈c.aq:=fun d hd=>aw.1 (zr.sub d hd);have Rg:z∈c.ends:=by
  rcases QH w with r | ⟨m,e,r⟩
  ·exact absurd r D9
  rw[QI] at r;have h1:=zr.link;rw[r] at h1;rw[hc.ends];have h2:=jL g e;rw[gp h1] at h2;exact cC.2 ⟨zr.oz,e / 2,Jh e (by rw[r];simp),h2.2⟩
 have hzN:=fR c oP z Rg;obtain⟨f,fl,Rh⟩:∃ f fl,c.ak=f :: fl:=by
  cases hL:c.ak with
  | nil=>exact absurd hL hf
  | cons f fl=>exact⟨f,fl,rfl⟩
 obtain⟨Vx,Jw,hfh⟩:=(hc.Sf f).1 (by grind);have hom:s.ak.getD f.toNat []∈s.ak:=by simp[Qh,Jw]
 have hod:∀ d∈s.ak.getD f.toNat [],d∈p.ah:=fun d hd=>h.ak.all.mem_iff.1 (QU.2 ⟨_,hom,hd⟩);have lC:∀ d∈p.ah,0<=d/\d / 2<g.e.length:=fun d hd=>by
  grind [aw]
 have hol:(s.ak.getD f.toNat []).length<=2048:=by
  have h1:=jd (h.ak.simple _ hom);have:=gy (N:=2048) h1 fun u hu=>by
   grind
  exact this
 refine⟨a.toNat,z.toNat,f.toNat,w,s.ak.getD f.toNat [],?_⟩;have ea:((a.toNat:Nat):Int)=a:=by omega
 have ez:((z.toNat:Nat):Int)=z:=by omega
 have ef:((f.toNat:Nat):Int)=f:=by omega
 refine⟨by grind,by omega,by rw[ea];exact h.sub a ((h.on a).1 hoa),⟨hc.two,Tg c oP⟩,Sg,GK c oP,?_,by grind,D9,fun d hd=>?_,?_,by grind,by omega,by rw[ef,Rh];rfl,Jw,⟨by grind,adS c oP⟩,rfl,?_,?_,fun d hd=>lC d (hod d hd),hol,by omega,fun r hr=>⟨fR r hr,Tg r hr,adS r hr⟩,yP⟩
 ·have:=gy nt (GK c oP)
  omega
 ·have:=GK c oP _ (Jh d hd)
  exact⟨by omega,by omega⟩
 ·have h1:=gy Ln.en fun u hu=>by
   obtain⟨d,hd,rfl⟩:=Qe.1 hu;exact GK c oP _ (Jh d hd)
  rw[QW] at h1;omega
 ·rw[ea];exact eQ.1 (hfh a Yr)
 rw[ez];exact eQ.1 (hfh z Rg)
theorem BE {P:Int->Bool} {l:List Int} (h:∃ x∈l,P x=true):Ay P l=(l.findIdx P:Nat)/\l.findIdx P<l.length:=by
 all_goals grind [tk]
theorem Wb {g:Gr} {b:Pt} {s:Sk} {i N a z f:Nat} {w old:List Int} (h:acO g b s (s.rest.getD i ⟨[],[],[]⟩) N a z f w old) {k j:Nat} {o:List Int} (hk:old.findIdx (fun d=>decide (g.tail d=(a:Int)))=k) (ho:old.drop k++old.take k=o) (hj:o.findIdx (fun d=>decide (g.tail d=(z:Int)))=j) :
  s.put g b.v i=⟨jO g s.on w,s.ak.set f (o.take j++twins w)++[w++o.drop j],
   (s.rest.eraseIdx i).map (jx g (s.ak.set f (o.take j++twins w)++[w++o.drop j]) f (s.ak.length:Int))++dt g (jO g s.on w) (s.ak.set f (o.take j++twins w)++[w++o.drop j]) (aX (s.rest.getD i ⟨[],[],[]⟩).aq w) [(f:Int),(s.ak.length:Int)]⟩:=by
 unfold Sk.put;simp only[h.a0,h.qL,h.z0,h.f0];have e:qD g (cr s.ak (f:Int)) w a z=(o.take j++twins w,w++o.drop j):=by
  unfold qD cr;rw[QB,h.Ti]
  grind
 rw[e,QB]
end Go.Proofs.YtoiflofhcmjpoaaGreat.Plain
namespace Go.Proofs.YtoiflofhcmjpoaaGreat
open Go.RowKit Go.Maps
section
variable {w w' : World} {B n m sz : Nat} {e : TypeId} {v u v' : Value} {xs ys : List Value} {cs ds : List Cell}
theorem bu.An {own:List Nat} {c:Cell} {x:Value} (h:c.At w B x) (hc:ag own w w') (ho:∀ j∈own,∃ t,bp w j t/\t≠3):c.At w' B x :=
 h.aD hc fun b hb hm=>by
  obtain⟨-,-,AM,r,hh⟩:=h.low b (by simpa using hb);obtain⟨t,h1,h2⟩:=ho b hm;exact h2 (h1.one ⟨_,_,hh⟩)
theorem bu.abY (h:bu w B e sz v n xs cs) (he:e≠3):∀ j∈v.ownBlock.toList,∃ t,bp w j t/\t≠3:=fun j hj=>⟨e,bE h.out (by simpa using hj),he⟩
theorem bu.cat (h1:bu w B e sz v n xs cs) (h2:bu w B e sz u m ys ds) (he:e≠3) (iY:∀ k l b,k<xs.length->l<ys.length->(xs.getD k undef).ownBlock=Q6 b->(ys.getD l undef).ownBlock≠Q6 b)
  (r1:w'.ownsRow B e sz v' (n+m) (xs++ys)) (r2:ag v.ownBlock.toList w w'):bu w' B e sz v' (n+m) (xs++ys) (cs++ds):=by
 have l1:=h1.len;have l2:=h2.len;have hk:=h1.abY he;refine⟨r1,by grind,by rw[Qc,h1.cells,h2.cells,Nat.add_mul],fun k c Xi=>?_,fun k l hk hl bh=>?_⟩
 ·by_cases e1:k<xs.length
  ·rw[cN e1]
   rw[List.getElem?_append_left (by omega)] at Xi;exact bu.An (h1.fits k c Xi) r2 hk
  rw[dE (by omega)];rw[List.getElem?_append_right (by omega)] at Xi;rw[l1];exact bu.An (h2.fits _ c Xi) r2 hk
 rw[Qc] at hk hl;by_cases e1:k<xs.length
 ·rw[cN e1]
  by_cases e2:l<xs.length
  ·rw[cN e2];exact h1.apart k l e1 e2 bh
  rw[dE (by omega)];cases hq:(xs.getD k undef).ownBlock with
  | none=>exact Qo rfl
  | some b=>exact Qp fun q=>iY k _ b e1 (by omega) hq q.symm
 rw[dE (by omega)];by_cases e2:l<xs.length
 ·rw[cN e2]
  cases hq:(ys.getD (k - xs.length) undef).ownBlock with
  | none=>exact Qo rfl
  | some b=>exact Qp fun q=>iY l _ b e2 (by omega) q.symm hq
 rw[dE (by omega)];exact h2.apart _ _ (by omega) (by omega) (by omega)
theorem pD {α:Type} {xs:List α} {d:α} {a b k:Nat} (ha:a<=xs.length):(xs.take a++xs.drop b).getD k d=if k<a then xs.getD k d else xs.getD (k - a+b) d:=by
 all_goals grind
theorem Og {α:Type} {xs:List α} {a b k:Nat} (ha:a<=xs.length):(xs.take a++xs.drop b)[k]?=if k<a then xs[k]? else xs[k - a+b]?:=by
 all_goals grind
theorem bu.cut {own:List Nat} {n' a b:Nat} (h:bu w B e sz v n xs cs) (qi:a<=b) (hb:b<=xs.length) (bH:w'.ownsRow B e sz v' n' (xs.take a++xs.drop b)) (hc:ag own w w') (ho:∀ j∈own,∃ t,bp w j t/\t≠3) :
  bu w' B e sz v' n' (xs.take a++xs.drop b) (cs.take a++cs.drop b):=by
 have hl:=h.len;have hlen:(xs.take a++xs.drop b).length=xs.length - (b - a):=by rw[Qc,Qs,Qj];omega
 refine⟨bH,by grind,bH.1,fun k c hk=>?_,fun k l hk Nd bh=>?_⟩
 ·rw[Og (by omega)] at hk
  rw[pD (by omega)];split
  ·rename_i q;rw[if_pos q] at hk;exact bu.An (h.fits _ c hk) hc ho
  rename_i q;rw[if_neg q] at hk;exact bu.An (h.fits _ c hk) hc ho
 rw[hlen] at hk Nd;rw[pD (by omega),pD (by omega)];split <;> split
 ·exact h.apart _ _ (by omega) (by omega) bh
 ·exact h.apart _ _ (by omega) (by omega) (by omega)
 ·exact h.apart _ _ (by omega) (by omega) (by omega)
 exact h.apart _ _ (by omega) (by omega) (by omega)
end
theorem Nz (R:List Plain.a8) (i:Nat):dF (R.eraseIdx i)=(dF R).take (3*i)++(dF R).drop (3*i+3):=by
 have ht:∀ (R:List Plain.a8) (i:Nat),dF (R.take i)=(dF R).take (3*i)/\dF (R.drop i)=(dF R).drop (3*i):=by
  intro R
  induction R with
  | nil=>intro i;simp[dF]
  | cons c l ih =>
   intro i;have hs:dF (c :: l)=.row c.aq :: .row c.ends :: .row c.ak :: dF l:=by simp[dF]
   cases i with
   | zero=>simp[dF]
   | succ i =>
    have h:=ih i;have Dg:dF (c :: l.take i)=.row c.aq :: .row c.ends :: .row c.ak :: dF (l.take i):=by simp[dF]
    rw[List.take_succ_cons,List.drop_succ_cons,hs,Dg,h.1,h.2,show 3*(i+1)=3*i+1+1+1 by omega];exact⟨rfl,rfl⟩
 grind [dF]
theorem Kb {w:World} {B:Nat} {e:TypeId} {sz g n m c:Nat} {xs:List Value} (h:w.ownsRow B e sz (.slice (some ⟨g,0,none⟩) n c) n xs) (hm:m<=n):w.ownsRow B e sz (.slice (some ⟨g,0,none⟩) m c) m (xs.take (m*sz)):=by
 obtain⟨h0,h | ⟨g',cap,cur,e1,h1,h2,h3,h4,h5,h6⟩⟩:=h
 ·cases h.1
 cases e1;have hle:m*sz<=n*sz:=Nat.mul_le_mul_right _ hm;refine⟨by rw[Qs,h0];exact QX hle,Qp ⟨g,c,cur,rfl,h1,h2,by omega,h4,h5,?_⟩⟩;rw[<-h6,Q0,QX hle]
theorem NP (g c k B:Nat) (l:List Int) (w:World) (h:aj w B (.slice (some ⟨g,0,none⟩) l.length c) l) (hk:k<l.length) :
  Calls Tryz.prog 137 #[.slice (some ⟨g,0,none⟩) l.length c,.int .i64 (k:Nat),.int .i64 ((k:Int)+1)] w fun e w'=>e=.returned (.slice (some ⟨g,0,none⟩) (l.eraseIdx k).length c)/\aj w' B (.slice (some ⟨g,0,none⟩) (l.eraseIdx k).length c) (l.eraseIdx k)/\ag [g] w w':=by
 have hl:(ints l).length=l.length:=by simp[ints]
 have lR:(l.eraseIdx k).length=l.length - 1:=Qz hk;have bH:=h.1;obtain⟨iD,agi⟩:l.length<=c/\c<=9223372036854775807:=by
  rcases bH.2 with ⟨q,-⟩ | ⟨g',c',cur,q,-,-,h3,h4,-⟩
  ·cases q
  cases q;exact⟨h3,by simpa[maxLen] using h4⟩
 rw[<-hl] at bH;have hH:Go.Sort.Holds (Qx .i64) w g 0 l.toArray:=je bH (by simp[ints]);refine (Tryz.slices_Delete_int g 0 c k (k+1) l w hH iD agi (by omega) (by omega)).mono ?_;rintro e w' ⟨rfl,n,rfl⟩;obtain⟨d,hd⟩:∃ d,(l.take k++l.drop (k+1)++QJ (k+1 - k) (0:Int))=d:=⟨_,rfl⟩;have zR:d.length=l.length:=by
  grind
 rw[hd];have he:Go.Sort.putRow (Qx .i64) (Go.Sort.ahead w n) g 0 d.toArray=sortWorld (Qx .i64) w g 0 n d.toArray #[]:=by
  unfold sortWorld;simp[Go.Sort.grow];rfl
 rw[he];have wH:=j6 (enc:=Qx .i64) (n:=n) (os:=#[]) (d:=d.toArray) bH (by grind);have hle:=Kb wH (m:=l.length - 1) (by grind);have A5:(d.toArray.toList.map (Qx .i64)).take ((l.length - 1)*1)=ints (l.eraseIdx k):=by
  rw[Nat.mul_one,<-List.map_take];show List.map _ (d.take (l.length - 1))=List.map _ (l.eraseIdx k)
  grind
 rw[A5] at hle;refine⟨by rw[lR,show k+1 - k=1 by omega],⟨by grind,fun x hx=>h.2.1 x (List.mem_of_mem_eraseIdx hx),by have:=h.2.2;omega⟩,?_⟩
 grind [lp]
namespace Plain
def Zy (l:List Int) (x:Int):Int:=if x∈l then (l.idxOf x:Nat) else -1
theorem JT (l:List Int) (x:Int):Go.Lib.idxOf l x=Zy l x:=by
 unfold Zy;by_cases h:x∈l
 ·rw[if_pos h]
  have h1:l.idxOf x<l.length:=Qm.2 h;have h2:l[l.idxOf x]=x:=QN h1;have:=Go.Lib.idxOf_hit l l.length (l.idxOf x) x h1 (Qt _) (by grind) (fun j hj e=>by
   have rj:j<l.length:=by omega
   simp only[Qh,Qg rj,Qr] at e;have h3:=List.not_of_lt_findIdx (p:=(·==x)) (xs:=l) (i:=j) hj
   grind)
  grind
 rw[if_neg h];have:=Go.Lib.idxOf_miss l l.length x (fun j hj e=>h (by grind))
 grind
theorem SD {l:List Int} {x:Int} (h:x∈l):Zy l x=(l.idxOf x:Nat)/\l.idxOf x<l.length/\l.eraseIdx (l.idxOf x)=l.erase x :=
 ⟨if_pos h,Qm.2 h,(List.erase_eq_eraseIdx_of_idxOf rfl).symm⟩
end Plain
theorem Lr (v:Value) (l:List Int) (x:Int) (B:Nat) (w:World) (hn:l.length<1000000000) (h:aj w B v l) :
  Calls Tryz.prog 136 #[v,.int .i64 x] w fun e w'=>e=.returned (.int .i64 (Plain.Zy l x))/\ag [] w w':=by
 obtain⟨ao,c,rfl⟩:=h.shape;by_cases h0:l=[]
 ·subst h0
  refine (Tryz.slices_Index_int_empty ao c x w).mono ?_;rintro e w' ⟨rfl,rfl⟩;exact⟨rfl,ag.refl _ _⟩
 obtain⟨g,hg,hc⟩:=h.some (QM.2 h0);subst hg;refine (Tryz.slices_Index_int g 0 l.length c l x w (Qt _) (by omega) (fun j hj=>by grind)).mono ?_
 grind [bO,Plain.JT,ag.refl]
namespace Plain
def qu (g:Gr) (e j:Nat) (v:Int):List Int:=((QE j).map fun i=>((2*e+i:Nat):Int)).filter fun d=>decide (g.tail d=v)
theorem Kl (g:Gr) (e j:Nat) (v:Int):qu g e (j+1) v=if v=g.tail ((2*e+j:Nat):Int) then qu g e j v++[((2*e+j:Nat):Int)] else qu g e j v:=by
 unfold qu;rw[QY,Qw,List.filter_append]
 all_goals grind
theorem AZ (g:Gr) (e j:Nat) (v:Int):(qu g e j v).length<=j:=by
 grind [qu]
end Plain
def jV (g:Plain.Gr) (e j N:Nat):List Cell:=(QE N).map fun v:Nat=>Cell.row (Plain.qu g e j v)
theorem F4 (g:Plain.Gr) (e N:Nat):jV g e 0 N=QJ N (Cell.row []):=by
 unfold jV;have:(fun v:Nat=>Cell.row (Plain.qu g e 0 v))=fun _=>Cell.row []:=by funext v;simp[Plain.qu]
 rw[this,List.map_const',List.length_range]
theorem Im {g:Plain.Gr} {e j N v:Nat} (_hv:v<N) (ht:g.tail ((2*e+j:Nat):Int)=v):(jV g e j N).set v (.row (Plain.qu g e j v++[((2*e+j:Nat):Int)]))=jV g e (j+1) N:=by
 refine List.ext_getElem (by simp[jV]) fun i h1 h2=>?_
 all_goals grind [jV,Plain.Kl]
theorem NC {g:Plain.Gr} {e j N v:Nat} (hv:v<N):(jV g e j N)[v]?=some (.row (Plain.qu g e j v)):=by
 grind [jV]
theorem mw {g:Plain.Gr} {N d:Nat} (hr:g.err=0) (hN:g.n=N) (hd:d / 2<g.e.length):∃ v:Nat,g.tail (d:Int)=v/\v<N:=by
 obtain⟨h1,h2,h3,h4⟩:=Plain.Gr.aA hr;have he:=h4 _ hd;have ht:g.tail (d:Int)=(g.ends (d / 2)).1\/g.tail (d:Int)=(g.ends (d / 2)).2:=by
  all_goals grind [Plain.Gr.tail,Plain.Gr.at]
 refine⟨(g.tail (d:Int)).toNat,?_,?_⟩
 all_goals grind
namespace Plain
theorem Nh {g:Gr} {p:Pt} {e:Nat} (he:p.e=[(e:Int)]) (v:Int):qu g e 2 v=aF g p v:=by
 unfold qu aF Pt.ah;rw[he];simp[QY]
end Plain
set_option maxRecDepth 100000 in
set_option maxHeartbeats 4000000 in
theorem Gv (vg:Value) (g:Plain.Gr) (e0 N:Nat) (w:World) (hr:g.err=0) (hN:g.n=N) (he:e0<g.e.length) (hg:dJ w vg g) :
  Calls Tryz.prog 81 #[vg,.int .i64 e0] w fun e w'=>∃ ob xs,e=.returned (.slice (some ⟨ob,0,none⟩) N N)/\bu w' w.heap.size 25 1 (.slice (some ⟨ob,0,none⟩) N N) N xs (jV g e0 2 N)/\ag [] w w':=by
 have HN:=lh hN;have HG:=lh hg;have iE:=lh (Plain.Gr.aA hr);have HR:=lh hr;obtain⟨eo,cap,rfl,-,-,-,-⟩:=hg;have iQ:=lh (show ag [] w (w.alloc (.cells #[.int .i64 g.n,.slice eo g.e.length cap] 24)) from (show ag [] w (w.alloc (.cells #[.int .i64 g.n,.slice eo g.e.length cap] 24)) from ((ag.refl [] w).alloc _)));have dk:=heap_alloc_new w (.cells #[.int .i64 g.n,.slice eo g.e.length cap] 24);have HX:=lh (fun (w2:World) (eh:ag [] (w.alloc (.cells #[.int .i64 g.n,.slice eo g.e.length cap] 24)) w2)=>(⟨eh.c ((cell_of_row _ _ 0 _ _ _ dk).trans rfl),eh.c ((cell_of_row _ _ 1 _ _ _ dk).trans rfl),by have hz:=eh.size;simpa using hz⟩:w2.cell? ⟨w.heap.size,0,none⟩=some (.int .i64 g.n)/\w2.cell? ⟨w.heap.size,1,none⟩=some (.slice eo g.e.length cap)/\w.heap.size+1<=w2.heap.size));clear dk;have Gc:=lh (show (w.alloc (.cells #[.int .i64 g.n,.slice eo g.e.length cap] 24)).heap.size=w.heap.size+1 by simp);obtain⟨x0,x1,-⟩:=HX.out _ (ag.refl _ _);have hNN:N<=1024:=by have:=iE.out.2.1;omega
 have tx:(e0:Int)<=1024:=by have:=iE.out.2.2.1;have:=iE.out.1;omega
 have ED:g.e.length<=1024:=by have:=iE.out.2.2.1;have:=iE.out.1;omega
 clear hr hN
 go_enter Tryz.func81,Tryz.ntmps81
 go_wp2_with (at_make;refine vG ji rfl _ _ rfl (B:=(w.alloc (.cells #[.int .i64 g.n,.slice eo g.e.length cap] 24)).heap.size) (n:=N) (by show Qx .i64 g.n=_;rw[HN.out]) (by show Qx .i64 g.n=_;rw[HN.out]) (Qt _) (by omega) ?_;intro w2 h2 c2;have H2:=lh (nD h2);have C2:=lh c2;clear h2 c2)
 clear x0 x1;have jq:(w.alloc (.cells #[.int .i64 g.n,.slice eo g.e.length cap] 24)).heap.size=w.heap.size+1:=by simp
 generalize w.alloc (.cells #[.int .i64 g.n,.slice eo g.e.length cap] 24)=w1 at *;obtain⟨ob,qz⟩:∃ n,w.heap.size+1=n:=⟨_,rfl⟩;have Ew:=lh (jq.trans qz);rw[jq,qz] at H2;rw[qz];clear qz jq
 go_loopw [6,7] (fun c _ wr=>∃ j:Nat,j<=2/\c=.int .i64 ((2*e0+j:Nat):Int)/\∃ xs,bu wr ob 25 1 (.slice (some ⟨ob,0,none⟩) N N) N xs (jV g e0 j N)/\ag [] w1 wr) (fun c _ _=>2*e0+2 - (intOf c).toNat)
 case atStart=>exact⟨0,by omega,by go_num,_,by rw[F4];exact H2.out,C2.out⟩
 case round =>
  obtain⟨j,hj,rfl,xs,bh,hc⟩:=hrel;have jg:=lh bh;have HC:=lh hc;clear bh hc H2 C2;by_cases EO:j<2
  ·obtain⟨d,hd⟩:∃ d:Nat,2*e0+j=d:=⟨_,rfl⟩
   have sZ:d / 2<g.e.length:=by omega
   obtain⟨v,hv,tq⟩:=mw HR.out HN.out sZ;have HV:=lh hv;have HD:=lh hd;have zR:(d:Int)<=2*(e0:Int)+1:=by omega
   have mj:d<4096:=by omega
   have OR:(v:Int)<(N:Int):=by omega
   rw[hd];clear hv;obtain⟨x0,x1,-⟩:=HX.out wr HC.out
   go_wp2_with fail
   refine (cO _ g d _ sZ (by omega) (HG.out.fresh (iQ.out.t HC.out))).mono ?_;rw[HV.out];rintro e w3 ⟨rfl,cT⟩;have KK:=jg.out.fresh cT;have sW:=KK.cells;obtain⟨va,vc,mg,l8,w4,p1,p2,p3,p4,p5,p6,p7,p8,p9,F9,PT⟩:=kI (q:=v) (x:=(d:Int)) KK (by decide) (Nat.le_trans (KK.out.lt ob rfl).1 (Q4 (KK.out.lt ob rfl).2)) (by grind) (NC tq) (aU.mk (by omega) (by omega)) (by grind [Plain.AZ]);have rj:=Plain.AZ g e0 j (v:Int);obtain⟨ln,qG⟩:∃ ln,(Plain.qu g e0 j (v:Int)).length=ln:=⟨_,rfl⟩;have RY:=lh (show bu _ ob 25 1 (.slice (some ⟨ob,0,none⟩) N N) N _ (jV g e0 (j+1) N) from by
    have h1:=Im (g:=g) (e:=e0) (j:=j) tq (by rw[HD.out];exact HV.out);rw[<-h1,HD.out];exact p5)
   have iO:=lh (show ag [] w1 _ from (HC.out.t cT).trans p8 (fun b hb=>by
    refine Qp ?_;rw[Ew.out];rcases Ql.1 hb with q | q
    ·rw[q];exact Qt _
    exact (KK.kind (k:=v) (by rw[sW];omega) (by rw[p7];simpa[aE] using q)).1))
   rw[qG] at p1 p2 p3 p9 F9 RY iO;have pZ:=lh p2;clear p2 p5 p6 p7 p8 p9 F9 PT KK qG
   go_wp2_with (at_builtin;refine eU rfl _ _ 25 rfl rfl rfl pZ.out ?_)
   exact⟨⟨j+1,by omega,by grind,_,RY.out,iO.out⟩,by simp[intOf];omega⟩
  have e2:j=2:=by omega
  subst e2;have lC:¬ ((2*e0+2:Nat):Int)<=2*(e0:Int)+1:=by omega
  go_wp2;go_ret;exact⟨ob,rfl,⟨xs,jg.out.base (by rw[<-Ew.out];exact iQ.out.size)⟩,iQ.out.t HC.out⟩
end Go.Proofs.YtoiflofhcmjpoaaGreat
-- READS ONLY
namespace Go.Proofs.YtoiflofhcmjpoaaGreat
open Go.RowKit Go.Maps
theorem kA {g:Nat} {t:TypeId}:∀ (vs:List Value) (o:Nat) (w:World) (cs:Array Value),w.heap[g]?=some (.cells cs t (0,0))->o+vs.length<=cs.size ->
  ∃ AM:Array Value,(w.setCells g o vs).heap[g]?=some (.cells AM t (0,0))/\AM.size=cs.size/\AM.toList=cs.toList.take o++(vs++cs.toList.drop (o+vs.length))
 | [],o,w,cs,h,_=>⟨cs,h,rfl,by simp⟩
 | v :: r,o,w,cs,h,hl=>by
  rw[Qd] at hl;obtain⟨AM,h1,h2,h3⟩:=kA r (o+1) (w.setCell ⟨g,o,none⟩ v) (cs.setIfInBounds o v) (heap_setCell_same h o v) (by rw[Array.size_setIfInBounds];omega);refine⟨AM,h1,by simpa using h2,?_⟩;have e:(cs.setIfInBounds o v).toList=cs.toList.take o++v :: cs.toList.drop (o+1):=by
   rw[Array.toList_setIfInBounds,List.set_eq_take_append_cons_drop,if_pos (by grind)]
  rw[h3,e];have hA:(cs.toList.take o).length=o:=by grind
  generalize cs.toList.take o=A at *;subst hA;rw[show A++v :: cs.toList.drop (A.length+1)=(A++[v])++cs.toList.drop (A.length+1) by simp];have hd:(A++[v]).drop (A.length+1+r.length)=[]:=List.drop_eq_nil_of_le (by simp);have ht:((A++[v])++cs.toList.drop (A.length+1)).take (A.length+1)=A++[v]:=by
   rw[show A.length+1=(A++[v]).length by simp,List.take_left]
  rw[ht,List.drop_append,hd,QZ,List.drop_drop,QQ];simp only[Qc,Qd,List.length_nil,QZ,List.cons_append,QF];rw[show A.length+1+(A.length+1+r.length - (A.length+1))=A.length+(r.length+1) by omega]
theorem lG {own:List Nat} {a:World} {g:Nat} (hg:g∈own):∀ (vs:List Value) (o:Nat) {w:World},ag own a w->ag own a (w.setCells g o vs)
 | [],_,_,h=>h
 | v :: r,o,_w,h=>lG hg r (o+1) (h.setCell (Qo hg) v)
theorem uf (w:World) (t e ty:TypeId) (z:Value) (ht:Tryz.prog.underlying t=some (.slice e)) (hv:∀ w,(zeroValue e).run Tryz.prog w=.ok z w) (b o n c:Nat) (hn:0<n) (L:List Value) (hL:(Builtin.zeroCells z.cells n).toList=L)
  (h1:∀ v∈L,v.oneCell'=true) (hc:∀ j,j<L.length->(w.cell? ⟨b,o+j,none⟩).isSome=true) (hf:∀ j,j<L.length->w.frozen? ⟨b,o+j,none⟩=false) :
  (Builtin.clear_ #[t] ty #[.slice (some ⟨b,o,none⟩) n c]).run Tryz.prog w=.ok (.tuple #[]) (w.setCells b o L):=by
 have BK:=run_storeCells_cells (P:=Tryz.prog) b o L 0 w (by grind) (by grind) h1;simp only[Nat.add_zero] at BK;obtain⟨m,rfl⟩:∃ m,n=m+1:=⟨n - 1,by omega⟩;simp[Builtin.clear_,run_underlying ht,hv,hL,BK]
set_option maxRecDepth 100000 in
set_option maxHeartbeats 4000000 in
theorem Ms (g c i B:Nat) (R:List Plain.a8) (xs:List Value) (w:World) (h:bu w B 162 3 (.slice (some ⟨g,0,none⟩) R.length c) R.length xs (dF R)) (hi:i<R.length) (hn:R.length<=2000) :
  Calls Tryz.prog 132 #[.slice (some ⟨g,0,none⟩) R.length c,.int .i64 i,.int .i64 ((i:Int)+1)] w fun e w'=>e=.returned (.slice (some ⟨g,0,none⟩) (R.eraseIdx i).length c)/\bu w' B 162 3 (.slice (some ⟨g,0,none⟩) (R.eraseIdx i).length c) (R.eraseIdx i).length (xs.take (3*i)++xs.drop (3*i+3)) (dF (R.eraseIdx i))/\ag [g] w w':=by
 have lR:(R.eraseIdx i).length=R.length - 1:=Qz hi;have oF:=lh lR;have HN:=lh h;obtain⟨cur,hB,hg,sU,oP,ja,qU⟩:∃ cur,B<=g/\w.heap[g]?=some (.cells cur 162 (0,0))/\R.length<=c/\c<=maxLen/\cur.size=c*3/\cur.toList.take (R.length*3)=xs:=by
  rcases h.out.2 with ⟨q,-⟩ | ⟨g',c',cur,q,k1,k2,k3,k4,k5,k6⟩
  all_goals grind
 have sW:=h.cells;have hm:c<=9223372036854775807:=by simpa[maxLen] using oP
 have Ab:∀ u∈xs,u.oneCell'=true:=fun u hu=>by
  obtain⟨k,hk,rfl⟩:=QK.1 hu;obtain⟨cc,-,ka⟩:=h.fit hk;have:=ka.one
  grind
 have zh:∀ k,k<R.length*3->w.cell? ⟨g,k,none⟩=some (xs.getD k undef):=fun k hk=>h.cell (by omega);obtain⟨n,X'⟩:∃ n,R.length=n:=⟨_,rfl⟩;rw[X'] at hi hn lR sU qU sW zh oF ⊢;rw[lR]
 -- the append
 obtain⟨i0,hi0,y9,jq,nO⟩:=info_parts kL.hi;have BX:(xs.drop (3*i+3)).length=(n - (i+1))*i0.size:=by rw[Qj,sW,jq];omega
 have CX:∀ k,w.drew.frozen? ⟨g,k,none⟩=false:=fun k=>by
  have:=bJ hg k;exact this
 have fS:∀ A:Addr,(∀ j u,(xs.drop (3*i+3))[j]?=some u->w.drew.cell? (A.add j)=some u)->(Builtin.append_ #[111,111] 111 #[.slice (some ⟨g,0,none⟩) i c,.slice (some A) (n - (i+1)) (c - (i+1))]).run Tryz.prog w.drew=.ok (.slice (some ⟨g,0,none⟩) (i+(n - (i+1))) c) (w.drew.setCells g (0+i*i0.size) (xs.drop (3*i+3))):=fun A hA =>
  run_append_room_cells w.drew 111 111 162 i0 kL.ht hi0 g 0 i c A (n - (i+1)) (c - (i+1)) (xs.drop (3*i+3)) BX hA (fun u hu=>Ab u (List.mem_of_mem_drop hu)) (by omega) (fun j hj=>by
   rw[BX,jq] at hj;rw[QF,jq];have h1:=zh (i*3+j) (by omega);exact Option.isSome_iff_exists.2 ⟨_,h1⟩) (fun j hj=>CX _)
 rw[jq,QF] at fS;have Zx:=lh fS;have hiN:(i:Int)<(n:Int):=by omega
 have asE:(0:Int)<=(i:Int)+1:=by omega
 have arh:(i:Int)+1<=(n:Int):=by omega
 obtain⟨A,hA,CB⟩:∃ A:Addr,(if c=i+1 then some (⟨g,0,none⟩:Addr) else some ⟨g,(i+1)*3,none⟩)=some A/\∀ (j:Nat) (u:Value),(xs.drop (3*i+3))[j]?=some u->w.drew.cell? (A.add j)=some u:=by
  have iu:∀ o j:Nat,(⟨g,o,none⟩:Addr).add j=⟨g,o+j,none⟩:=fun o j=>by unfold Addr.add;split <;> simp_all
  by_cases q:c=i+1
  ·refine⟨⟨g,0,none⟩,by rw[if_pos q],fun j u hu=>?_⟩
   have:=(QA.1 hu).1;rw[Qj] at this;omega
  refine⟨⟨g,(i+1)*3,none⟩,by rw[if_neg q],fun j u hu=>?_⟩;have hj:=(QA.1 hu).1;rw[Qj] at hj;rw[List.getElem?_drop] at hu;rw[iu,show (i+1)*3+j=3*i+3+j by omega];have h1:=zh (3*i+3+j) (by omega);rw[show xs.getD (3*i+3+j) undef=u by simp[Qh,hu]] at h1;exact h1
 have ad2:=lh CB;have Wr:i<=c:=by omega
 have ap8:i+1<=c:=by omega
 clear fS Ab zh CX BX h CB
 go_enter Tryz.func132,Tryz.ntmps132
 go_wp2_with fail
 have aW:ag [] w w.drew:=(ag.refl [] w).drew;refine ar (ag [] w) [0,1,2,3,4] (Way.line [0,1,2,3,4,5,6,7] .done) (by kernel_rfl) (by kernel_rfl) ?_;simp only[Way.line]
 repeat (refine ai (v:=?_) rfl (by rfl) (by rfl) (fun _ _ _ h=>h) aW (fun w' aI=>?_) ?_;rotate_left;(focus (skip;clear aI;go_simp;try with_reducible rfl));simp only[Q2,Z1,Z2,Z3,Z4,Z5,Z6])
 refine au rfl (by rfl) (by rfl) (fun K hK=>?_);go_simp;refine hK.out _ _ (fun _=>aW) ?_;clear hK K
 try simp only[Q2,Z1,Z2,Z3,Z4,Z5,Z6]
 refine au rfl (by rfl) (by rfl) (fun K hK=>?_);simp only[List.getElem_toArray,List.getElem_cons_zero,List.getElem_cons_succ];refine kS (.tmp 22) (.tmp 25) 111 rfl rfl rfl (Zx.out A ad2.out) ?_;refine hK.out _ _ (fun h=>absurd h (QR.1 (by kernel_rfl))) ?_;clear hK K
 try simp only[Q2,List.setIfInBounds_toArray,Qy,QO]
 refine au rfl (by rfl) (by rfl) (fun K hK=>?_);go_simp;refine hK.out _ _ (fun h=>absurd h (QR.1 (by kernel_rfl))) ?_;clear hK K
 try simp only[Q2,Z1,Z2,Z3,Z4,Z5,Z6]
 refine aC ?_;obtain⟨m,rfl⟩:∃ m,n=m+1:=⟨n - 1,by omega⟩;rw[show i+(m+1 - (i+1))=m by omega];obtain⟨cs1,k1,k2,k3⟩:=kA (xs.drop (3*i+3)) (i*3) w.drew cur hg (by grind);have BW:ag [g] w (w.drew.setCells g (i*3) (xs.drop (3*i+3))):=lG (by simp) _ _ (ag.refl [g] w).drew;have ai9:=lh BW;generalize w.drew.setCells g (i*3) (xs.drop (3*i+3))=w1 at *;have HK1:=lh k1;have HK3:=lh k3;have hmc:m<=c:=by omega
 have aqf:m+1<=c:=by omega
 have mm:∀ ty,(Builtin.clear_ #[111] ty #[.slice (some ⟨g,m*3,none⟩) 1 (c - m)]).run Tryz.prog w1=.ok (.tuple #[]) (w1.setCells g (m*3) [.slice none 0 0,.slice none 0 0,.slice none 0 0]):=fun ty =>
  uf w1 111 162 ty (.agg #[.slice none 0 0,.slice none 0 0,.slice none 0 0]) kL.ht (fun w=>by simp[zeroValue,typeInfo,hi0,y9]) g (m*3) 1 (c - m) (by omega) [.slice none 0 0,.slice none 0 0,.slice none 0 0] (by kernel_rfl) (fun u hu=>by
   simp at hu;subst hu;rfl) (fun j hj=>by
   have hj:j<3:=hj;rw[cell_of_row _ _ _ _ _ _ k1,Qk (by omega)];rfl) (fun j _=>bJ k1 _)
 obtain⟨cs2,l1,l2,l3⟩:=kA [.slice none 0 0,.slice none 0 0,.slice none 0 0] (m*3) w1 cs1 k1 (by simp;omega);have abh:=lh (lG (g:=g) (own:=[g]) (by simp) [.slice none 0 0,.slice none 0 0,.slice none 0 0] (m*3) ai9.out);have Pa:=lh l1;have HL3:=lh l3;clear Zx ad2 hA aW BW k1 k3 l1 l3;go_wp2;go_ret;clear mm;generalize w1.setCells g (m*3) [.slice none 0 0,.slice none 0 0,.slice none 0 0]=w2 at *;have Um:m+1 - 1=m:=by omega
 refine⟨rfl,?_,abh.out⟩;rw[Um];have hlx:=HN.out.cells;have Nb:cs2.toList.take (m*3)=xs.take (3*i)++xs.drop (3*i+3):=by
  have e1:cs2.toList.take (m*3)=cs1.toList.take (m*3):=by
   rw[HL3.out,Qv (by grind),Q0,Nat.min_self]
  have hA:(cur.toList.take (i*3)).length=i*3:=by rw[Qs,Array.length_toList];omega
  have hB:(xs.drop (3*i+3)).length=m*3 - i*3:=by rw[Qj];omega
  rw[e1,HK3.out,<-QQ,Qv (by grind),List.take_of_length_le (by grind)]
  grind
 have bH:w2.ownsRow B 162 3 (.slice (some ⟨g,0,none⟩) m c) m (xs.take (3*i)++xs.drop (3*i+3)):=by
  refine⟨?_,Qp ⟨g,c,cs2,rfl,hB,Pa.out,by omega,oP,by omega,Nb⟩⟩
  grind
 rw[Nz];exact HN.out.cut (by omega) (by omega) bH abh.out (fun j hj=>⟨162,by rw[Qa.1 hj];exact⟨_,_,hg⟩,by decide⟩)
theorem JA {o:Oper} {a:Act} {K:Act->World->Prop} {Q:Exit->Act->World->Prop} {w:World} (p x:Operand) (ho:o.op=.store 158 p x) {b i n c m d:Nat} {fo go:Option Addr} {cs:Array Value} (hp:a.eval p=.pointer (some ⟨b,i,none⟩)) (hx:a.eval x=.agg #[.slice fo n c,.slice go m d])
  (hb:w.heap[b]?=some (.cells cs 158 (0,0))) (hi:i+1<cs.size)
  (hK:K (a.put o.dst undef) ((w.setCell ⟨b,i,none⟩ (.slice fo n c)).setCell ⟨b,i+1,none⟩ (.slice go m d))):o.wp Tryz.prog a w K Q:=by
 obtain⟨u0,YM⟩:∃ u,cs[i]?=some u:=⟨_,Qk (by omega)⟩;obtain⟨u1,Ex⟩:∃ u,cs[i+1]?=some u:=⟨_,Qk (by omega)⟩;have c0:w.cell? ⟨b,i,none⟩=some u0:=by rw[cell_of_row _ _ _ _ _ _ hb];exact YM
 have c1:w.cell? ⟨b,i+1,none⟩=some u1:=by rw[cell_of_row _ _ _ _ _ _ hb];exact Ex
 have z0:w.frozen? ⟨b,i,none⟩=false:=bJ hb _;have z1:w.frozen? ⟨b,i+1,none⟩=false:=bJ hb _;unfold Oper.wp execOp;simp only[ho,hp,hx];clear hp hx hb;go_simp;exact hK
theorem ns {w:World} {B n c:Nat} {a:Addr} {l:List Int} (h:aj w B (.slice (some a) n c) l):n=l.length/\n<=c:=by
 rcases h.1.2 with ⟨q,-⟩ | ⟨g',c',cur,q,-,-,h3,-⟩
 all_goals grind
theorem Bk {w:World} {B n m c sz g:Nat} {e:TypeId} {xs:List Value} (h:w.ownsRow B e sz (.slice (some ⟨g,0,none⟩) n c) m xs):∃ cs,w.heap[g]?=some (.cells cs e (0,0)):=by
 rcases h.2 with ⟨q,-⟩ | ⟨g',c',cur,q,-,hh,-⟩
 all_goals grind
theorem Er:nh 110 158 (.agg #[.slice none 0 0,.slice none 0 0]) 2 48:=⟨Tryz.underlying110,by kernel_rfl,rfl,by decide,by decide⟩
theorem mR.put {ob q:Nat} {xs ys:List Value} {v:Value} (h:mR ob xs ys) (hq:q<xs.length) (hv:∀ b,v.ownBlock=some b->b≠ob/\∀ l,l<ys.length->(ys.getD l undef).ownBlock≠some b):mR ob (xs.set q v) ys:=by
 refine⟨fun k hk e=>?_,fun k l b hk hl hb=>?_⟩
 ·rw[QG] at hk
  rw[dM _ _ _ _ _ hq] at e;by_cases r:k=q
  ·rw[if_pos r] at e;exact (hv ob e).1 rfl
  rw[if_neg r] at e;exact h.o k hk e
 rw[QG] at hk;rw[dM _ _ _ _ _ hq] at hb;by_cases r:k=q
 ·rw[if_pos r] at hb;exact (hv b hb).2 l hl
 rw[if_neg r] at hb;exact h.y k l b hk hl hb
theorem mR.add {ob:Nat} {xs ys us:List Value} (h:mR ob xs ys) (hv:∀ k b,k<us.length->(us.getD k undef).ownBlock=some b->b≠ob/\∀ l,l<ys.length->(ys.getD l undef).ownBlock≠some b):mR ob (xs++us) ys:=by
 refine⟨fun k hk e=>?_,fun k l b hk hl hb=>?_⟩
 ·rw[Qc] at hk
  by_cases r:k<xs.length
  ·rw[cN r] at e;exact h.o k r e
  all_goals grind
 rw[Qc] at hk;by_cases r:k<xs.length
 ·rw[cN r] at hb;exact h.y k l b r hl hb
 all_goals grind
def gJ (t:Plain.a8->Plain.a8) (R:List Plain.a8) (j:Nat):List Plain.a8:=(R.take j).map t++R.drop j
theorem Ik (t:Plain.a8->Plain.a8) (R:List Plain.a8):gJ t R 0=R:=by simp[gJ]
theorem Oe (t:Plain.a8->Plain.a8) (R:List Plain.a8):gJ t R R.length=R.map t:=by simp[gJ]
theorem Bd {t:Plain.a8->Plain.a8} {R:List Plain.a8} {j:Nat} (hj:j<=R.length):(gJ t R j).length=R.length:=by
 grind [gJ]
theorem zA {t:Plain.a8->Plain.a8} {R:List Plain.a8} {j:Nat} (hj:j<R.length) (d:Plain.a8):(gJ t R j).getD j d=R.getD j d:=by
 grind [gJ,dE]
theorem yr {t:Plain.a8->Plain.a8} {R:List Plain.a8} {j:Nat} (hj:j<R.length) (d:Plain.a8):gJ t R (j+1)=(gJ t R j).set j (t (R.getD j d)):=by
 unfold gJ;have hl:((R.take j).map t).length=j:=by rw[QW,Qs];omega
 have e1:R.take (j+1)=R.take j++[R.getD j d]:=by
  rw[QC]
  grind
 have e2:R.drop j=R.getD j d :: R.drop (j+1):=by
  rw[List.drop_eq_getElem_cons hj]
  grind
 rw[e1,e2,Qw,List.set_append_right _ _ (by omega),hl,Nat.sub_self,Qy];simp
theorem Ci:∀ {L:List Plain.a8} {j:Nat} {c:Plain.a8},j<L.length->c.aq=(L.getD j ⟨[],[],[]⟩).aq->c.ends=(L.getD j ⟨[],[],[]⟩).ends->(dF L).set (j*3+2) (.row c.ak)=dF (L.set j c)
 | [],j,_,h,_,_=>by simp at h
 | d :: l,0,c,_,h1,h2=>by
  have hs:∀ d:Plain.a8,dF (d :: l)=.row d.aq :: .row d.ends :: .row d.ak :: dF l:=fun d=>by simp[dF]
  rw[Qy,hs,hs];have h1:c.aq=d.aq:=h1;have h2:c.ends=d.ends:=h2;rw[h1,h2];rfl
 | d :: l,j+1,c,h,h1,h2=>by
  have hs:∀ l:List Plain.a8,dF (d :: l)=.row d.aq :: .row d.ends :: .row d.ak :: dF l:=fun l=>by simp[dF]
  have ih:=Ci (L:=l) (j:=j) (c:=c) (by simpa using h) h1 h2;rw[QO,hs,hs,<-ih,show (j+1)*3+2=j*3+2+1+1+1 by omega];rfl
theorem Kh {g:Plain.Gr} {F:List (List Int)} {f k:Int} {r:Plain.a8} (h:f∈r.ak):Plain.jx g F f k r=⟨r.aq,r.ends,r.ak.erase f++Plain.iq g F r.ends [f,k]⟩:=if_pos h
theorem FP {g:Plain.Gr} {F:List (List Int)} {f k:Int} {r:Plain.a8} (h:f ∉ r.ak):Plain.jx g F f k r=r:=if_neg h
theorem Jk {t:Plain.a8->Plain.a8} {R:List Plain.a8} {j:Nat} (hj:j<R.length) (d:Plain.a8) (h:t (R.getD j d)=R.getD j d):gJ t R (j+1)=gJ t R j:=by
 rw[yr hj d,h];have h1:=zA (t:=t) hj d;have hl:=Bd (t:=t) (Q4 hj);have rj:j<(gJ t R j).length:=by omega
 have h2:R.getD j d=(gJ t R j)[j]:=by rw[<-h1];simp[Qh,rj]
 rw[h2,List.set_getElem_self]
theorem Ie {w:World} {b:Nat} {x y:Int} {r:Nat × Nat} (h:w.heap[b]?=some (.cells #[.int .i64 x,.int .i64 y] 3 r)) (hx:aU x) (hy:aU y):al w (.slice (some ⟨b,0,none⟩) 2 2) [x,y]:=by
 refine⟨_,2,rfl,fun z hz=>?_,by simp,fun _=>⟨b,0,rfl,fun i hi=>?_⟩⟩
 ·rcases Ql.1 hz with q | q
  ·rw[q];exact hx
  rw[Qa.1 q];exact hy
 rcases (show i=0\/i=1 by simp at hi;omega) with q | q
 ·subst q;exact (cell_of_row _ _ 0 _ _ _ h).trans rfl
 subst q;exact (cell_of_row _ _ 1 _ _ _ h).trans rfl
end Go.Proofs.YtoiflofhcmjpoaaGreat
