/- draw.begin's ring in plain words: a closed AJ through the least oO, no iq twice. No program here. -/
import Derived.Test.YtoiflofhcmjpoaaGreatF9Begin
set_option maxRecDepth 100000
set_option maxHeartbeats 4000000
open List renaming mem_singleton→Qa,length_append→Qb,length_cons→Qc,perm_ext_iff_of_nodup→Qd,mem_map→Qe,mem_cons_of_mem→Qf,getElem?_eq_getElem→Qg,getD→Qh,length_drop→Qj,idxOf_lt_length_iff→Ql,mem_filter→Qm,nodup_append→Qp,length_take→Qr,mem_cons→Qs,exists_mem_of_length_pos→Qu,take_append_of_le_length→Qv,map_append→Qw,set_cons_zero→Qy,length_eraseIdx_of_lt→Qz,getElem?_eq_some_iff→QA,take_add_one→QC,map_cons→QD,range→QE,length_set→QG,eq_nil_or_concat→QH,concat_eq_append→QI,replicate→QJ,mem_iff_getElem→QK,length_pos_iff→QL,getElem_idxOf→QM,set_cons_succ→QN,append_assoc→QP,take_length→QR,nodup_cons→QS,length_map→QT,range_succ→QV,nil_append→QW,take_take→QX,Perm→QY
open Nat renaming mod_eq_of_lt→Qi,le_refl→Qt,zero_add→QF,add_mod_right→QO,min_eq_left→QU,mod_self→Q4,le_of_lt→Q6
open Array renaming getElem?_eq_getElem→Qk
open Or renaming inl→Qn,inr→Qo
open Option renaming getD_some→Qq,some→Q7
open Go.Value renaming int→Qx
open Int renaming toNat_natCast→QB
open Bool renaming eq_false_iff→QQ
open Go.Act renaming put→QZ
namespace Go.Proofs.YtoiflofhcmjpoaaGreat.Plain
variable {g:Gr} {p b:Pt} {s:Sk} {u e0 e1 v x y e d:Int} {w l V f old o:List Int} {on P:Int->Bool} {F:List (List Int)} {n i m k j N:Nat}
theorem wU {g:Gr} {p:Pt} {b:Int} {f:Int->Option Int} (hp:aD g p) (h0:∀ v∈p.v,0<=v) (h:pX g p b f) (hc:∀ v,f v≠none↔bS g p (-1) b v):∀ (n:Nat) (v:Int),f v=some (n:Int)->∀ d∈dz g p f n v,g.tail d≠b
 | 0,_,_=>by simp[dz]
 | n+1,v,hv=>by
  obtain⟨k,-,-,-,h4,h5,h6⟩:=y8 h (v:=v) (n:=n) (by rw[hv];congr 1) (λd hd ht=>by
   have h1:=(hc v).1 (by rw[hv];simp);have h2:=fW (g:=g) hd;rw[ht] at h2;have h3:=h0 _ (hp.aP hd).2;exact (hc _).2 (h1.step h2 (by omega)))
  intro d hd;rcases Qs.1 hd with r | r
  ·rw[r,h5]
   intro e;rw[e,h.base] at hv;simp at hv;omega
  exact wU hp h0 h hc n _ h6 d r
theorem Le (hp:p.err g=0) (_he:0<p.e.length)
  (h:pX g (dR p (p.e.getD 0 0)) (g.at (p.e.getD 0 0)).1 (eB g (dR p (p.e.getD 0 0)) (-1) (g.at (p.e.getD 0 0)).1))
  (hc:∀ v,eB g (dR p (p.e.getD 0 0)) (-1) (g.at (p.e.getD 0 0)).1 v≠none↔bS g (dR p (p.e.getD 0 0)) (-1) (g.at (p.e.getD 0 0)).1 v)
  (hs:bS g (dR p (p.e.getD 0 0)) (-1) (g.at (p.e.getD 0 0)).1 (g.at (p.e.getD 0 0)).2) :
  fz g (g.at (p.e.getD 0 0)).1 (fN g p) (g.at (p.e.getD 0 0)).1/\((fN g p).map g.tail).Nodup/\∀ d∈(fN g p).tail,d∈(dR p (p.e.getD 0 0)).ah:=by
 have hd:=Pt.ax (vm hp (p.e.getD 0 0));have ht:=dP g (p.e.getD 0 0);have hn:=(hc _).2 hs;unfold fN jm;obtain⟨c,hq⟩:=Option.ne_none_iff_exists'.1 hn;have h0:=h.low _ c hq;have tX:eB g (dR p (p.e.getD 0 0)) (-1) (g.at (p.e.getD 0 0)).1 (g.at (p.e.getD 0 0)).2=some ((c.toNat:Nat):Int):=by rw[hq];congr 1;omega
 obtain⟨i1,i2,-,i4⟩:=nY hd (λv hv=>(hd.vr v hv).1) h hc c.toNat _ tX;have i5:=wU hd (λv hv=>(hd.vr v hv).1) h hc c.toNat _ tX;rw[hq];simp only[Option.map_some,Qq];refine⟨⟨ht.1,by grind⟩,?_,λd oF=>i2 d oF⟩
 grind
theorem Kg {s a:Int} (h:bS g p s a u):u=a\/∃ w,om g p a w/\w≠s:=by
 induction h with
 | here=>exact Qn rfl
 | step h1 hn hs ih =>
  all_goals grind
theorem Gg {w:Int} (hp:aD g p) (h:om g p u w):w∈p.v:=by
 obtain⟨e,he,r | r⟩:=h
 ·have:=(hp.ends e he).2;rw[r] at this;exact this
 have:=(hp.ends e he).1;rw[r] at this;exact this
theorem oB (hb:aD g b) (hS:cg g b) (nr:b.e=e0 :: e1 :: l):∀ e∈b.e,(g.at e).1≠(g.at e).2:=by
 intro e he q;have hn:=hb.en;rw[nr] at hn;have bn:e0≠e1:=λr=>by rw[r] at hn;simp at hn
 obtain⟨f,hf,hef⟩:∃ f∈b.e,e≠f:=by
  by_cases r:e=e0
  ·exact⟨e1,by grind,by grind⟩
  exact⟨e0,by grind,r⟩
 exact qv hS e he f hf (g.at e).1 (hb.ends e he).1 ⟨hef,Qn ⟨rfl,q.symm⟩⟩
theorem BG (hb:aD g b) (hS:cg g b) (nr:b.e=e0 :: e1 :: l):bS g (dR b e0) (-1) (g.at e0).1 (g.at e0).2:=by
 have hl:=oB hb hS nr;have h0:e0∈b.e:=by rw[nr];simp
 have h1:e1∈b.e:=by rw[nr];simp
 have hn:=hb.en;rw[nr] at hn;have bn:e0≠e1:=λr=>by rw[r] at hn;simp at hn
 have fy:=qv hS;have qQ:=hb.ends e0 h0;have Da:=hl e0 h0;have BW:∀ f∈b.e,e0≠f->∀ v∈b.v,bS g b v (off g v e0) (off g v f):=λf hf hn v hv=>Classical.byContradiction λr=>fy e0 h0 f hf v hv ⟨hn,Qo (Qo r)⟩;obtain⟨x,hx⟩:∃ x,(g.at e0).1=x:=⟨_,rfl⟩;obtain⟨z,hz⟩:∃ z,(g.at e0).2=z:=⟨_,rfl⟩;have lZ:g.at e0=(x,z):=by rw[<-hx,<-hz]
 rw[hx,hz] at Da qQ ⊢;have Pb:off g x e0=z:=by unfold off;rw[if_pos hx,hz]
 have FU:off g z e0=x:=by unfold off;rw[if_neg (by grind),hx]
 obtain⟨e2,h2,kr,uC⟩:∃ e2∈b.e,e0≠e2/\cE g e2 z:=by
  have h3:=BW e1 h1 bn x qQ.1;rw[Pb] at h3;rcases Kg h3 with r | ⟨w,hw,hwx⟩
  ·exact⟨e1,h1,bn,by rw[<-r];exact kF⟩
  obtain⟨e,he,r⟩:=hw;refine⟨e,he,λq=>?_,?_⟩
  ·rw[<-q,lZ] at r
   rcases r with r | r
   ·exact Da (congrArg Prod.fst r)
   exact hwx (congrArg Prod.fst r).symm
  rcases r with r | r
  ·exact Qn (by rw[r])
  exact Qo (by rw[r])
 have h4:=BW e2 h2 kr z qQ.2;rw[FU] at h4;have h5:∀ u,bS g b z x u->u≠z/\bS g (dR b e0) (-1) x u:=λu hu=>by
  induction hu with
  | here=>exact⟨Da,.here⟩
  | step _ hn hs ih =>
   refine⟨hs,ih.2.step ?_ (by have:=(hb.vr _ (Gg hb hn)).1;omega)⟩;obtain⟨e,he,r⟩:=hn;refine⟨e,Qm.2 ⟨he,?_⟩,r⟩
   all_goals grind
 have h6:=(h5 _ h4).2;refine h6.step ⟨e2,Qm.2 ⟨h2,by grind⟩,?_⟩ (by have:=(hb.vr _ qQ.2).1;omega);unfold off;split
 ·rename_i q;exact Qo (by rw[<-q])
 rename_i q;rcases uC with r | r
 ·exact absurd r q
 exact Qn (by rw[<-r])
def gq (g:Gr) (p:Pt):List (List Int):=(QE g.n.toNat).map λv:Nat=>aE g p v
theorem jL (h0:0<=v) (hn:v<g.n):ay (gq g p) v=aE g p v:=by
 obtain⟨n,rfl⟩:∃ n:Nat,v=n:=⟨v.toNat,by omega⟩;have aW:n<g.n.toNat:=by omega
 show ((QE g.n.toNat).map _).getD n []=_
 grind
theorem JN (hp:aD g p) (hn:0<=g.n):aK g p (gq g p):=by
 refine⟨by grind [gq],λv=>?_,λv h0 h1 d=>by grind [jL,aX]⟩;by_cases hv:v.toNat<g.n.toNat
 ·have:=jL (g:=g) (p:=p) (v:=(v.toNat:Int)) (by omega) (by omega)
  unfold ay at this ⊢;rw[QB] at this;rw[this];exact dZ hp.en _
 all_goals grind [ay,gq]
theorem vC (g:Gr) (e:Int):g.tail (2*e+1)=(g.at e).2/\g.head (2*e+1)=(g.at e).1:=by
 grind [Gr.tail,Gr.head]
theorem mH (e:Int):aH (2*e)=2*e+1/\aH (2*e+1)=2*e:=by
 grind [aH]
theorem CD (x:Int):ahead [x] x=x:=by simp[ahead]
theorem JJ (h:x≠y):ahead [x,y] x=y/\ahead [x,y] y=x:=by
 grind [ahead]
theorem zS (dk:p.err g=0) (he:p.e=[e]) (hv:∀ v,v∈p.v↔v=(g.at e).1\/v=(g.at e).2) :
  cQ g p (gq g p) (if (g.at e).1=(g.at e).2 then [[2*e],[2*e+1]] else [[2*e,2*e+1]]):=by
 have hk:=Pt.ax dk;have hn:=(Gr.aF (Pt.aF dk).1).1;have hd:p.ah=[2*e,2*e+1]:=by unfold Pt.ah;rw[he];rfl
 have kq:=JN hk hn;have rA:e∈p.e:=by rw[he];simp
 have lJ:=hk.ends e rA;have fD:=hk.vr _ lJ.1;have cD:=hk.vr _ lJ.2;obtain⟨t1,t2⟩:=dP g e;obtain⟨t3,t4⟩:=vC g e;obtain⟨w1,w2⟩:=mH e;have Zd:∀ v∈p.v,∃ d∈p.ah,g.tail d=v:=λv h=>by
  all_goals grind
 have pY:om g p (g.at e).1 (g.at e).2:=⟨e,rA,Qn rfl⟩;have Yg:∀ u∈p.v,∀ v∈p.v,bS g p (-1) u v:=λu hu v hvv=>by
  rcases (hv u).1 hu with r | r <;> rcases (hv v).1 hvv with s | s
  ·rw[r,s];exact .here
  ·rw[r,s];exact .step .here pY (by omega)
  ·rw[r,s];exact .step .here pY.symm (by omega)
  rw[r,s];exact .here
 by_cases hq:(g.at e).1=(g.at e).2
 ·rw[if_pos hq]
  have hda:aE g p (g.at e).1=[2*e,2*e+1]:=by
   grind [aE,t1]
  have Cl:p.v.length=1:=by
   have:p.v.Perm [(g.at e).1]:=(Qd hk.vn (by simp)).2 λu=>by rw[hv,<-hq];simp
   exact this.length_eq
  obtain⟨k1,k2⟩:=JJ (x:=2*e) (y:=2*e+1) (by omega);refine⟨dk,kq,⟨λc hc=>?_,?_⟩,?_,λf hf=>?_,Zd,?_,Yg⟩
  ·rcases Qs.1 hc with r | r
   ·rw[r]
    show aA g (gq g p) (2*e)=2*e
    grind [aA,before,w1,jL]
   rw[Qa.1 r];show aA g (gq g p) (2*e+1)=2*e+1
   grind [aA,before,t1,jL]
  all_goals grind
 rw[if_neg hq];have hda:aE g p (g.at e).1=[2*e]:=by
  grind [aE,t1]
 have hdz:aE g p (g.at e).2=[2*e+1]:=by
  grind [aE,t1]
 have Cl:p.v.length=2:=by
  have:p.v.Perm [(g.at e).1,(g.at e).2]:=(Qd hk.vn (by grind)).2 λu=>by rw[hv];simp
  exact this.length_eq
 refine⟨dk,kq,⟨λc hc=>?_,?_⟩,?_,λf hf=>?_,Zd,?_,Yg⟩
 ·rw[Qa.1 hc]
  refine⟨?_,?_⟩
  ·unfold aA before
   rw[w1,t3,jL cD.1 cD.2,hdz];exact CD _
  show aA g (gq g p) (2*e+1)=2*e;unfold aA before;rw[w2,t1,jL fD.1 fD.2,hda];exact CD _
 all_goals grind
theorem IC (nr:b.err g=0) (h0:e0∈b.e) (hl:(g.at e0).1≠(g.at e0).2)
  (hL:fz g (g.at e0).2 w (g.at e0).1) (hN:((2*e0 :: w).map g.tail).Nodup) (hD:∀ d∈w,d∈(dR b e0).ah) :
  ∃ p aa,cQ g p aa [2*e0 :: w,twins (2*e0 :: w)]/\(∀ v,v∈p.v↔v∈(2*e0 :: w).map g.tail)/\(∀ v∈p.v,v∈b.v)/\∀ e,e∈p.e↔e∈b.e/\e∈(2*e0 :: w).map (· / 2):=by
 have jQ:=Pt.ax nr;obtain⟨g1,g2,g3,-⟩:=Pt.aF nr;have qQ:=jQ.ends e0 h0;obtain⟨t1,t2⟩:=dP g e0;obtain⟨t3,t4⟩:=vC g e0;obtain⟨x,hx⟩:∃ x,(g.at e0).1=x:=⟨_,rfl⟩;obtain⟨z,hz⟩:∃ z,(g.at e0).2=z:=⟨_,rfl⟩;obtain⟨p,hpd⟩:∃ p:Pt,p=⟨b.v.filter λv=>decide (v=x) || decide (v=z),b.e.filter λe=>decide (e=e0)⟩:=⟨_,rfl⟩;have Dl:∀ v,v∈p.v↔v=x\/v=z:=λv=>by
  all_goals grind
 have dk:p.e=[e0]:=by
  refine List.perm_singleton.1 ((Qd (by rw[hpd];exact jQ.en.filter _) (by simp)).2 λu=>?_)
  grind
 have YM:p.err g=0:=by
  refine Pt.zb g1 (by grind [fI]) (by grind [fI]) λe he=>?_;rw[dk,Qa] at he;subst he;show (g.at e).1∈p.v/\(g.at e).2∈p.v
  grind
 have hF:=zS YM dk (λv=>by grind);rw[if_neg hl] at hF;rw[hx,hz] at hL hl;rw[hx] at t1 t4;rw[hz] at t2 t3;rw[QD,QS,t1] at hN;obtain⟨hNx,hNw⟩:=hN;obtain⟨c,l,rfl⟩:∃ c l,w=c :: l:=by
  cases w with
  | nil=>exact absurd hL.symm hl
  | cons c l=>exact⟨c,l,rfl⟩
 have hct:g.tail c=z:=hL.1;have hh:=eh hL;have hNl:(l.map g.tail).Nodup/\z ∉ l.map g.tail:=by
  grind
 have AI:x ∉ l.map g.tail:=λk=>hNx (by grind);have Ix:pK g p (c :: l) z x:=by
  refine⟨hL,λr=>hl r.symm,(Dl _).2 (Qo rfl),(Dl _).2 (Qn rfl),λd hd=>?_,hNw,rS hL ?_ ?_,λd hd=>?_⟩
  ·rw[Dl]
   have OP:g.tail d∈l.map g.tail:=Qe.2 ⟨d,hd,rfl⟩;rintro (r | r)
   ·rw[r] at OP;exact AI OP
   rw[r] at OP;exact hNl.2 OP
  ·rw[hh,Qp]
   exact⟨hNl.1,by simp,λu hu v hv e=>AI (by rw[<-Qa.1 hv,<-e];exact hu)⟩
  ·rw[hh,List.mem_append,Qa]
   rintro (r | r)
   ·exact hNl.2 r
   exact hl r.symm
  rw[dk,Qa];have:=(Qm.1 (au.1 (hD d hd))).2;rw[bne_iff_ne] at this;exact this
 have hDb:∀ d∈c :: l,d∈b.ah:=λd hd=>au.2 (Qm.1 (au.1 (hD d hd))).1;obtain⟨q,hqd⟩:∃ q:Pt,q=⟨b.v.filter λv=>decide (v∈p.v) || decide (v∈(c :: l).map g.tail),b.e.filter λe=>decide (e∈p.e) || decide (e∈(c :: l).map (· / 2))⟩:=⟨_,rfl⟩;have DH:∀ v,v∈q.v↔v∈p.v\/v∈(c :: l).map g.tail:=λv=>by
  all_goals grind [aD.aP]
 have Ut:∀ e,e∈q.e↔e∈p.e\/e∈(c :: l).map (· / 2):=λe=>by
  all_goals grind [au]
 have Tj:∀ d∈c :: l,g.tail d∈q.v/\g.head d∈q.v:=λd hd=>by
  refine⟨(DH _).2 (Qo (Qe.2 ⟨d,hd,rfl⟩)),(DH _).2 ?_⟩;have h3:g.head d∈(c :: l).map g.head:=Qe.2 ⟨d,hd,rfl⟩
  all_goals grind
 have fR:=Pt.ax YM;have Lx:q.err g=0:=by
  refine Pt.zb g1 (by grind [fI]) (by grind [fI]) λe he=>?_;show (g.at e).1∈q.v/\(g.at e).2∈q.v;rcases (Ut e).1 he with k | k
  ·exact⟨(DH _).2 (Qn (fR.ends e k).1),(DH _).2 (Qn (fR.ends e k).2)⟩
  obtain⟨d,hd,rfl⟩:=Qe.1 k;obtain⟨k1,k2⟩:=Tj d hd;rcases iO g d with ⟨j1,j2⟩ | ⟨j1,j2⟩
  ·rw[<-j1,<-j2];exact⟨k1,k2⟩
  rw[<-j1,<-j2];exact⟨k2,k1⟩
 have Hw:Jd g p (c :: l) q:=⟨Lx,DH,Ut⟩;have CU:cQ g p (gq g p) (((2*e0+1) :: []++(2*e0) :: []) :: []):=cQ.yA (A:=[2*e0]) (B:=[2*e0+1]) hF;have J0:2*e0+1∈p.ah/\2*e0∈p.ah:=by unfold Pt.ah;rw[dk];simp
 obtain⟨r1,r2⟩:=xf CU Ix Hw J0.1 t3 J0.2 t1;have Vw:=CU.put Ix Hw r1 r2 (QY.refl _) (QY.refl _) t3 t1;refine⟨q,gC g p q (gq g p) (c :: l) z x (2*e0+1) (2*e0),?_,λv=>?_,λv hv=>?_,λe=>?_⟩
 ·have hF3:=cQ.yA (A:=[2*e0+1]) (B:=twins (c :: l)) Vw
  have hF4:=cQ.yA (A:=c :: l) (B:=[2*e0]) (hF3.perm (QY.swap _ _ _))
  grind [twins,mH]
 ·all_goals grind
 all_goals grind
theorem FC (hb:aD g b) (hS:cg g b) (fR:aD g p) (dk:p.e≠[]) (kP:∀ v,on v=true↔v∈p.v) (iU:∀ v∈p.v,v∈b.v) (hps:∀ e∈p.e,e∈b.e)
  (hw:∀ d∈w,on (g.tail d)=true/\on (g.head d)=true) (hEp:∀ e∈a8 b.e w,e ∉ p.e) (hF:F.length=2) {c:bh} (hm:c∈cw g on F (a8 b.e w) [0,1]):y6 g b on F c:=by
 obtain⟨l,hl,rfl⟩:=Qe.1 hm;have hsc:=gP g on (a8 b.e w);have hEn:(a8 b.e w).Nodup:=hb.en.filter _;have cX:(gW g on (a8 b.e w)).1.all=a8 b.e w:=by rw[hsc.all,jU hEn]
 obtain⟨g1,g2,g3⟩:=lk hsc.ok hl;rw[cX] at g2;have lE:∀ e∈l,e∈b.e:=λe he=>(cU.1 (g2 e he)).1;have xi:∀ e∈l,∀ f∈b.e,Lk g on e f->f∈l:=λe he f' xX nn=>by
  obtain⟨v,hv,h1,h2⟩:=nn;have hfE:f'∈a8 b.e w:=cU.2 ⟨xX,λd hd r=>by
   all_goals grind [fu]⟩
  exact (g3 e he f').2 (jE (g2 e he) hfE ⟨v,hv,h1,h2⟩)
 refine⟨λQ hQ hh e he f' xX=>?_,xi,lE,rfl,Cm hS fR dk kP iU hps g1 lE (λe he=>hEp e (g2 e he)) xi,?_,λi=>?_⟩
 ·have:=wI (g:=g) (on:=on) (E:=a8 b.e w) (Q:=λx y=>(x∈l/\y∈l/\Q x y)\/(x ∉ l/\y ∉ l)) ⟨λx=>by
    by_cases q:x∈l
    ·exact Qn ⟨q,q,hQ.refl x⟩
    ·exact Qo ⟨q,q⟩,λ{x y} q=>by
    rcases q with ⟨q1,q2,q3⟩ | ⟨q1,q2⟩
    ·exact Qn ⟨q2,q1,hQ.symm q3⟩
    ·exact Qo ⟨q2,q1⟩,λ{x y z} q r=>by
    rcases q with ⟨q1,q2,q3⟩ | ⟨q1,q2⟩ <;> rcases r with ⟨r1,r2,r3⟩ | ⟨r1,r2⟩
    ·exact Qn ⟨q1,r2,hQ.trans q3 r3⟩
    ·exact absurd q2 r1
    ·exact absurd r1 q2
    ·exact Qo ⟨q1,r2⟩⟩ (λx hx y hy nn=>by
    by_cases q:x∈l
    ·have LP:=(g3 x q y).2 (jE hx hy nn)
     exact Qn ⟨q,LP,hh x q y LP nn⟩
    refine Qo ⟨q,λr=>q ((g3 y r x).2 (jE hy hx ?_))⟩;obtain⟨v,hv,h1,h2⟩:=nn;exact⟨v,hv,h2,h1⟩) ((g3 e he f').1 xX)
  all_goals grind
 all_goals grind [jD,bC,uh]
theorem EO (nr:b.err g=0) (hS:cg g b) (h2:2<=b.e.length)
  (zR:rT g b):∃ p aa,tV g b (gI g b) p aa/\(gI g b).left+2<=b.e.length:=by
 have jQ:=Pt.ax nr;obtain⟨e0,e1,l,hl⟩:∃ e0 e1 l,b.e=e0 :: e1 :: l:=by
  match hb:b.e with
  | []=>rw[hb] at h2;simp at h2
  | [_]=>rw[hb] at h2;simp at h2
  | e0 :: e1 :: l=>exact⟨e0,e1,l,rfl⟩
 have Yv:b.e.getD 0 0=e0:=by rw[hl];rfl
 obtain⟨k1,k2,k3⟩:=Le nr (by omega) zR.1 zR.2 (by grind [BG]);have hrg:fN g b=2*e0 :: (jm g (dR b e0) (g.at e0).2 (g.at e0).1).getD []:=by unfold fN;rw[Yv]
 have h0:e0∈b.e:=by rw[hl];simp
 obtain⟨t1,t2⟩:=dP g e0;rw[Yv,hrg] at k1 k3;rw[hrg] at k2;unfold gI;rw[hrg];generalize (jm g (dR b e0) (g.at e0).2 (g.at e0).1).getD []=w at *;obtain⟨p,aa,f1,f2,f3,f4⟩:=IC nr h0 (oB jQ hS hl e0 h0) (by have:=k1.2;rw[t2] at this;exact this) k2 k3;have fR:=Pt.ax f1.pe;have kP:∀ v,dM g (2*e0 :: w) v=true↔v∈p.v:=λv=>by
  grind [df]
 have dk:p.e≠[]:=List.ne_nil_of_mem ((f4 e0).2 ⟨h0,by rw[QD,show 2*e0 / 2=e0 by omega];simp⟩);have Zc:∀ e∈a8 b.e (2*e0 :: w),e ∉ p.e:=λe he hp=>by
  grind [cU]
 have Sg:=ns (g:=g) (on:=dM g (2*e0 :: w)) (F:=[2*e0 :: w,twins (2*e0 :: w)]) (ks:=[0,1]) (E:=a8 b.e (2*e0 :: w)) (jQ.en.filter _);have Y6:∀ d∈2*e0 :: w,d∈p.ah:=λd hd=>f1.all.mem_iff.1 (by grind);have jl:(p.e++(cw g (dM g (2*e0 :: w)) [2*e0 :: w,twins (2*e0 :: w)] (a8 b.e (2*e0 :: w)) [0,1]).flatMap (·.ag)).Perm b.e:=by
  refine (Sg.append_left p.e).trans ((Qd ?_ jQ.en).2 λe=>?_)
  ·rw[Qp]
   exact⟨fR.en,jQ.en.filter _,λu hu v hv r=>Zc v hv (r ▸ hu)⟩
  all_goals grind [cU]
 refine⟨p,aa,⟨f1,kP,f3,dk,jl,λc hc=>?_⟩,?_⟩
 ·exact FC jQ hS fR dk kP f3 (λe he=>((f4 e).1 he).1) (λd hd=>⟨(kP _).2 (fR.aP (Y6 d hd)).1,(kP _).2 (fR.aP (Y6 d hd)).2⟩) Zc rfl hc
 have h0p:e0∈p.e:=(f4 e0).2 ⟨h0,by rw[QD,show 2*e0 / 2=e0 by omega];simp⟩;have dp:=fR.ends e0 h0p;have PA:=oB jQ hS hl e0 h0;have UT:2<=p.v.length:=by
  have:[(g.at e0).1,(g.at e0).2].length<=p.v.length:=bY (by grind) λx hx=>by
   all_goals grind
  grind
 have heu:=f1.tZ;have mE:=jl.length_eq
 grind [Sk.left,cw,dM,twins,a8]
def oI (g:Gr) (V:List Int):Nat->Sk->Option Sk
 | 0,s=>some s
 | n+1,s=>if s.rest.isEmpty then some s else match choose s.rest with
  | none=>none
  | some i=>oI g V n (s.put g V i)
theorem BU (h:s.rest=[]):oI g V n s=some s:=by
 cases n with
 | zero=>rfl
 | succ n=>show (if s.rest.isEmpty then _ else _)=_;rw[h];rfl
theorem KI (h:s.rest≠[]) (hc:choose s.rest=none):oI g V (n+1) s=none:=by
 show (if s.rest.isEmpty then _ else _)=_
 grind
theorem Ai (h:s.rest≠[]) (hc:choose s.rest=some i):oI g V (n+1) s=oI g V n (s.put g V i):=by
 show (if s.rest.isEmpty then _ else _)=_
 grind
theorem S0 {aa:List (List Int)} (h:tV g b s p aa) (hr:s.rest≠[]):0<s.left:=by
 obtain⟨c,hc⟩:=List.exists_mem_of_ne_nil _ hr;have hk:=h.mL c hc;have h2:=hk.two;obtain⟨v,hv⟩:=Qu (l:=c.ends) (by omega);rw[hk.ends] at hv;obtain⟨-,e,he,-⟩:=bB.1 hv;unfold Sk.left;exact List.length_pos_of_mem (List.mem_flatMap.2 ⟨c,hc,he⟩)
theorem Hu {aa:List (List Int)} (nr:b.err g=0) (hS:cg g b) (h:tV g b s p aa) (hr:s.rest=[]):cQ g b aa s.ak:=by
 have jQ:=Pt.ax nr;have jl:=h.part;rw[hr,List.flatMap_nil,List.append_nil] at jl;obtain⟨-,b2,b3,-⟩:=Pt.aF nr;obtain⟨-,p2,p3,-⟩:=Pt.aF h.ak.pe;have he:p.e=b.e:=jZ (bK p3) (bK b3) λx=>jl.mem_iff;have hd:p.ah=b.ah:=by unfold Pt.ah;rw[he]
 have hv:p.v=b.v:=jZ (bK p2) (bK b2) λx=>⟨h.sub x,λhx=>by
  obtain⟨d,h1,h2⟩:=hS.2 x hx;rw[<-hd] at h1;rw[<-h2];exact ((Pt.ax h.ak.pe).aP h1).1⟩
 have tO:p=b:=by
  cases p;cases b
  grind
 rw[<-tO];exact h.ak
def qh (f:List Int):Nat->List Int->List Int
 | 0,L=>L
 | i+1,L=>(qh f i L).set (f.getD ((i+1) % f.length) 0).toNat (aH (f.getD i 0))
def nO (F:List (List Int)):Nat->List Int->List Int
 | 0,L=>L
 | k+1,L=>qh (F.getD k []) (F.getD k []).length (nO F k L)
def U5 (W:List (Int × Int)) (L:List Int):List Int:=W.foldl (λL p=>L.set p.1.toNat p.2) L
theorem Mw:∀ {W:List (Int × Int)} {L:List Int} {n:Nat},(∀ p∈W,p.1.toNat≠n)->(U5 W L).getD n 0=L.getD n 0
 | [],_,_,_=>rfl
 | p :: W,L,n,h=>by
  show (U5 W (L.set p.1.toNat p.2)).getD n 0=_;rw[Mw λq hq=>h q (Qf _ hq)];simp[Qh,List.getElem?_set_ne (h p (by simp))]
theorem Mb:∀ {W:List (Int × Int)} {L:List Int} {x y:Int},(W.map (·.1)).Nodup->(∀ p∈W,0<=p.1)->(x,y)∈W->x.toNat<L.length->(U5 W L).getD x.toNat 0=y
 | [],_,_,_,_,_,h,_=>by cases h
 | p :: W,L,x,y,hn,h0,hm,hl=>by
  rw[QD,QS] at hn;show (U5 W (L.set p.1.toNat p.2)).getD x.toNat 0=_;rcases Qs.1 hm with r | r
  ·subst r
   rw[Mw λq hq e=>hn.1 (Qe.2 ⟨q,hq,by
    have h1:=h0 q (Qf _ hq);have h2:=h0 _ (List.mem_cons_self (a:=(x,y)) (l:=W));simp only at h2 e;omega⟩)]
   simp[Qh,hl]
  exact Mb hn.2 (λq hq=>h0 q (Qf _ hq)) r (by rwa[QG])
theorem zl (V W:List (Int × Int)) (L:List Int):U5 (V++W) L=U5 W (U5 V L):=by grind [U5]
theorem Tq {p:Int->Int} (h:Ring p f) (hi:i<f.length):f.getD ((i+1) % f.length) 0=p (f.getD i 0):=by
 cases f with
 | nil=>simp at hi
 | cons x l =>
  have hm:=Trail.map (show Trail p x l x from h);have h1:p ((x :: l).getD i 0)=((x :: l).map p).getD i 0:=by
   grind
  rw[h1,hm];rw[Qc] at hi;by_cases e:i=l.length
  ·subst e
   rw[Qc,Q4]
   grind
  rw[Qc,Qi (by omega)]
  grind
theorem CY {p:Int->Int} {f:List Int} (h:Ring p f) (L:List Int):∀ i,i<=f.length->qh f i L=U5 ((f.take i).map λd=>(p d,aH d)) L
 | 0,_=>rfl
 | i+1,hi=>by
  rw[qh,CY h L i (by omega),Tq h (by omega)];have e:f.take (i+1)=f.take i++[f.getD i 0]:=by
   rw[QC];simp[Qh,show i<f.length by omega]
  rw[e,Qw,zl];rfl
theorem zO {p:Int->Int} {F:List (List Int)} (h:∀ f∈F,Ring p f) (L:List Int):∀ k,k<=F.length->nO F k L=U5 ((F.take k).flatten.map λd=>(p d,aH d)) L
 | 0,_=>rfl
 | k+1,hk=>by
  have hm:F.getD k []∈F:=by simp[Qh,show k<F.length by omega]
  rw[nO,zO h L k (by omega),CY (h _ hm) _ _ (Qt _),QR];have e:F.take (k+1)=F.take k++[F.getD k []]:=by
   rw[QC];simp[Qh,show k<F.length by omega]
  rw[e,List.flatten_append,Qw,zl];simp
def zW (m:Nat) (F:List (List Int)):List Int:=nO F F.length (QJ m 0)
theorem O3 {aa:List (List Int)} (h:cQ g b aa F) (hm:∀ d∈b.ah,0<=d/\d.toNat<m) (hd:d∈b.ah):(zW m F).getD (aA g aa d).toNat 0=aH d:=by
 have dE:∀ x,x∈F.flatten↔x∈b.ah:=λx=>h.all.mem_iff;have asK:∀ x∈F.flatten,aA g aa x∈b.ah:=λx hx=>(dE _).1 (h.rings.next hx);unfold zW;rw[zO h.rings.ring _ _ (Qt _),QR];refine Mb ?_ (λp hp=>?_) (Qe.2 ⟨d,(dE d).2 hd,rfl⟩) ?_
 ·rw[List.map_map]
  show (F.flatten.map (aA g aa)).Nodup;exact List.pairwise_map.2 (h.rings.nodup.imp_of_mem λ{x y} hx hy bn e=>bn (h.rings.inj x hx y hy e))
 all_goals grind
theorem NK {aa:List (List Int)} (h:cQ g b aa F) (hm:∀ d∈b.ah,0<=d/\d.toNat<m) (hv:0<=v/\v<g.n) (hk:k<(first (ay aa v)).length) :
  (zW m F).getD ((first (ay aa v)).getD k 0).toNat 0=(first (ay aa v)).getD ((k+1) % (first (ay aa v)).length) 0:=by
 have jQ:=Pt.ax h.pe;have Aa:=h.iX.nodup v;obtain⟨R,hR⟩:∃ R,first (ay aa v)=R:=⟨_,rfl⟩;have hRn:R.Nodup:=by rw[<-hR];exact (di _).nodup_iff.2 Aa
 have hRm:∀ x,x∈R↔x∈ay aa v:=λx=>by rw[<-hR];exact (di _).mem_iff
 have hah:∀ x∈R,ahead R x=ahead (ay aa v) x:=λx hx=>by rw[<-hR];exact wZ Aa x ((hRm x).1 hx)
 rw[hR] at hk ⊢;have aW:(k+1) % R.length<R.length:=Nat.mod_lt _ (by omega);have NZ:R.getD ((k+1) % R.length) 0∈R:=aQ aW;obtain⟨J0,Yp⟩:=(h.iX.mem v hv.1 hv.2 _).1 ((hRm _).1 NZ);have h1:=O3 h hm (bD J0);rw[bg] at h1;have h2:aA g aa (aH (R.getD ((k+1) % R.length) 0))=R.getD k 0:=by
  unfold aA before;rw[bg,Yp,<-hah _ NZ];unfold ahead;rw[iR hRn aW];congr 1;by_cases e:k+1=R.length
  ·rw[e,Q4,QF,Qi (by omega)]
   omega
  rw[Qi (show k+1<R.length by omega),show k+1+R.length - 1=k+R.length by omega,QO,Qi hk]
 grind
theorem Ga {aa:List (List Int)} (ht:aK g b aa) (_hb:aD g b) (hr:b.e.Pairwise (·<·)) (hv:0<=v/\v<g.n) (hj:j<b.ah.length) (Hq:g.tail (b.ah.getD j 0)=v) (h0:bQ g b v j=[]) :
  ∃ l,first (ay aa v)=b.ah.getD j 0 :: l:=by
 have hd:b.ah.getD j 0∈ay aa v:=(ht.mem v hv.1 hv.2 _).2 ⟨aQ hj,Hq⟩;obtain⟨x,m,h1,h2⟩:=An (l:=ay aa v) λe=>by rw[e] at hd;cases hd
 refine⟨m,?_⟩;rw[h1];have h3:=h2 _ hd;have hx:x∈ay aa v:=by
  grind [first,ay,di]
 obtain⟨J0,Yp⟩:=(ht.mem v hv.1 hv.2 _).1 hx;obtain⟨i,hi,hxi⟩:=cr J0;have nC:j<=i:=by
  refine Nat.le_of_not_lt λq=>?_;have:x∈bQ g b v j:=by
   unfold bQ;rw[Qm];refine⟨?_,decide_eq_true Yp⟩;rw[<-hxi];simp only[Qh,Qg hi,Qq];rw[QK]
   grind
  grind
 have hle:b.ah.getD j 0<=x:=by
  rw[<-hxi];by_cases e:j=i
  ·rw[e];exact Int.le_refl _
  have hp:=jH hr;have:=(List.pairwise_iff_getElem.1 hp) j i hj hi (by omega);simp only[Qh,Qg hi,Qg hj,Qq];omega
 grind
theorem Am:∀ {F:List (List Int)},(∀ f∈F,3<=f.length)->3*F.length<=F.flatten.length
 | [],_=>by simp
 | f :: F,h=>by
  have ih:=Am (F:=F) λx hx=>h x (Qf _ hx);have:=h f (by simp);rw[List.flatten_cons,Qb,Qc];omega
theorem KM (hn:l.Nodup) (hx:x∈l) (h:ahead l x=x):l.length<=1:=by
 have h1:l.idxOf x<l.length:=Ql.2 hx;have h2:l[l.idxOf x]=x:=QM h1;unfold ahead at h;have h3:(l.idxOf x+l.length - 1) % l.length<l.length:=Nat.mod_lt _ (by omega);rw[show l.getD ((l.idxOf x+l.length - 1) % l.length) 0=l[(l.idxOf x+l.length - 1) % l.length] by grind] at h;have h4:=(List.getElem_inj hn).1 (h.trans h2.symm);rcases Nat.eq_zero_or_pos (l.idxOf x) with r | r
 ·rw[r] at h4
  rw[Qi (by omega)] at h4;omega
 rw[show l.idxOf x+l.length - 1=(l.idxOf x - 1)+l.length by omega,QO,Qi (by omega)] at h4;omega
theorem sw {aa:List (List Int)} (hp:aD g p) (ht:aK g p aa) (hd:d∈p.ah):g.tail (aA g aa d)=g.head d/\aH d∈ay aa (g.head d):=by
 have h1:=hp.aP hd;have h2:=hp.vr _ h1.2;have hm:aH d∈ay aa (g.head d):=(ht.mem _ h2.1 h2.2 _).2 ⟨bD hd,az g d⟩;refine⟨?_,hm⟩;unfold aA before;rw[az];exact ((ht.mem _ h2.1 h2.2 _).1 (qm (ht.nodup _) hm)).2
theorem JA (_hp:aD g p) (he:p.e=e0 :: l) (h1:∀ e∈p.e,¬ (g.at e).1=(g.at e).2) (h2:∀ e∈p.e,∀ v∈p.v,off g v e0=off g v e\/om g p (off g v e0) (off g v e)) (h3:∀ v∈p.v,∃ d∈p.ah,g.tail d=v):cg g p:=by
 refine⟨⟨e0,l,he,λe rA v hv=>?_⟩,h3⟩;rintro ⟨bn,q | q | q⟩
 ·exact h1 e0 (by rw[he];simp) (q.1.trans q.2.symm)
 ·exact h1 e rA (q.1.trans q.2.symm)
 refine q ?_;rcases h2 e rA v hv with r | r
 ·rw[r];exact .here
 exact .step .here r (lg λs=>h1 e rA (s.1.trans s.2.symm))
structure ahe (g:Gr) (b:Pt) (s:Sk) (c:bh) (N a z f:Nat) (w old:List Int):Prop where
 a0:c.ends.getD 0 0=a
 aN:a<N
 aV:(a:Int)∈b.v
 el:2<=c.ends.length/\c.ends.length<=1024
 part:aD g ⟨b.v,c.ag⟩
 ag:∀ e∈c.ag,0<=e/\e<g.e.length
 LU:c.ag.length<=1024
 AJ:mU g s.on ⟨b.v,c.ag⟩ a=w
 wne:w≠[]
 wd:∀ d∈w,0<=d/\d / 2<g.e.length
 wl:w.length<=1024
 z0:g.head (w.getLastD 0)=z
 zN:z<N
 f0:c.ak.getD 0 0=f
 fF:f<s.ak.length
 fl:0<c.ak.length/\c.ak.length<=2050
 Yd:s.ak.getD f []=old
 oa:∃ x∈old,g.tail x=a
 oz:∃ x∈old,g.tail x=z
 od:∀ d∈old,0<=d/\d / 2<g.e.length
 ol:old.length<=2048
 Fl:s.ak.length<=2050
 rest:∀ r∈s.rest,(∀ v∈r.ends,0<=v/\v<N)/\r.ends.length<=1024/\r.ak.length<=2050
 rl:s.rest.length<=1024
theorem nP {α β:Type} {f:α->List β}:∀ {l:List α},(∀ x∈l,f x≠[])->l.length<=(l.flatMap f).length
 | [],_=>by simp
 | x :: l,h=>by
  have ih:=nP (f:=f) (l:=l) λy hy=>h y (Qf _ hy);have:=QL.2 (h x (by simp));rw[List.flatMap_cons,Qb,Qc];omega
theorem iI (hn:l.Nodup) (h:∀ u∈l,0<=u/\u<N):l.length<=N:=by
 have:=bY (l:=l) (m:=(QE N).map λn:Nat=>(n:Int)) hn λx hx=>by
  have:=h x hx;exact Qe.2 ⟨x.toNat,List.mem_range.2 (by omega),by omega⟩
 grind
theorem MV {aa:List (List Int)} (nr:b.err g=0) (hN:g.n=N) (h:tV g b s p aa) (hi:i<s.rest.length) (hf:(s.rest.getD i ⟨[],[],[]⟩).ak≠[]) :
  ∃ a z f w old,ahe g b s (s.rest.getD i ⟨[],[],[]⟩) N a z f w old:=by
 have jQ:=Pt.ax nr;have fR:=Pt.ax h.ak.pe;obtain⟨jw,-,hbr,-⟩:=Pt.aF nr;obtain⟨hn0,J8,kr,-⟩:=Gr.aF jw;have jl:=h.part;have Sv:∀ e∈p.e,e∈b.e:=λe he=>jl.mem_iff.1 (List.mem_append_left _ he);have hbd:∀ e∈b.e,0<=e/\e<g.e.length:=λe he=>by
  obtain⟨i,hi,rfl⟩:=cr he;have:=cG hbr hi
  grind
 have gZ:b.e.length<=1024:=by
  have:=iI jQ.en hbd;omega
 have mE:=bY fR.en Sv;have heu:=h.ak.tZ;have hFl:s.ak.length<=1026:=by omega
 have kB:s.rest.getD i ⟨[],[],[]⟩∈s.rest:=by simp[Qh,hi]
 have Ma:∀ r∈s.rest,∀ e∈r.ag,0<=e/\e<g.e.length:=λr hr e he=>hbd e ((h.mL r hr).sub e he);have kP:∀ v,s.on v=true->0<=v/\v<N:=λv hv=>by
  have:=jQ.vr v (h.sub v ((h.on v).1 hv));omega
 have dp:∀ r∈s.rest,∀ v∈r.ends,0<=v/\v<N:=λr hr v hv=>by
  rw[(h.mL r hr).ends] at hv
  grind [bB]
 have YN:∀ r∈s.rest,r.ends.length<=1024:=λr hr=>by
  have h1:r.ends.Nodup:=by rw[(h.mL r hr).ends];exact gR _ _ _
  have:=iI h1 (dp r hr);omega
 have afh:∀ r∈s.rest,r.ak.length<=2050:=λr hr=>by
  have h1:=h.mL r hr;have:=iI (N:=s.ak.length) h1.fnd λu hu=>by
   have:=(h1.PJ u).1 hu
   grind
  omega
 have qX:s.rest.length<=1024:=by
  have h1:=nP (f:=λc:bh=>c.ag) (l:=s.rest) λr hr=>by
   have h2:=(h.mL r hr).two;obtain⟨v,hv⟩:=Qu (l:=r.ends) (by omega);rw[(h.mL r hr).ends] at hv
   grind [bB]
  have h2:=jl.length_eq
  grind
 obtain⟨hsp,-⟩:=kR hi (⟨[],[],[]⟩:bh);generalize s.rest.getD i ⟨[],[],[]⟩=c at *;have hc:=h.mL c kB;have Yc:c.ag.Sublist (s.rest.flatMap (·.ag)):=by
  grind
 have gp:=(jl.nodup_iff).2 jQ.en;have qw:c.ag.Nodup:=Yc.nodup (Qp.1 gp).2.1;have TY:∀ e∈c.ag,e ∉ p.e:=λe h1 h2=>(Qp.1 gp).2.2 e h2 e (Yc.subset h1) rfl;have Wm:aD g ⟨b.v,c.ag⟩:=⟨jQ.vn,qw,jQ.vr,λe he=>jQ.er e (hc.sub e he),λe he=>jQ.ends e (hc.sub e he)⟩;obtain⟨a,z0,m,jc⟩:∃ a z0 m,c.ends=a :: z0 :: m:=by
  have:=hc.two
  match hL:c.ends with
  | []=>rw[hL] at this;simp at this
  | [_]=>rw[hL] at this;simp at this
  | a :: z0 :: m=>exact⟨a,z0,m,rfl⟩
 have lJ:(a :: z0 :: m).Nodup:=by rw[<-jc,hc.ends];exact gR g s.on c.ag
 have Pn:a∈c.ends:=by rw[jc];simp
 have PM:z0∈c.ends:=by rw[jc];simp
 have UP:=Pn;have kA:=PM;rw[hc.ends] at UP kA;obtain⟨YX,e0,lZ,AM⟩:=bB.1 UP;obtain⟨Ur,e1,AO,Dx⟩:=bB.1 kA;have KS:z0≠a:=λq=>by rw[q] at lJ;simp at lJ
 have rH:∀ d∈(⟨b.v,c.ag⟩:Pt).ah,0<=d:=λd hd=>by have:=jQ.er _ (hc.sub _ (au.1 hd));omega
 obtain⟨z,qu⟩:=Ar (g:=g) (on:=s.on) Wm rH hc.sT lZ AM AO Dx Ur KS;have XX:c.ends.getD 0 0=a:=by rw[jc];rfl
 have haN:=dp c kB a Pn;obtain⟨w,hw0⟩:∃ w,mU g s.on ⟨b.v,c.ag⟩ a=w:=⟨_,rfl⟩;rw[hw0] at qu;have Ix:=qu.AJ h.on YX TY;have Du:w≠[]:=λq=>qu.ne (by have:=qu.link;rw[q] at this;exact this);have Uy:g.head (w.getLastD 0)=z:=by
  rcases QH w with r | ⟨m,e,r⟩
  ·exact absurd r Du
  rw[QI] at r;have:=qu.link;rw[r] at this ⊢;rw[List.getLastD_eq_getLast?];simpa using gO this
 have Ih:∀ d∈w,d / 2∈c.ag:=λd hd=>au.1 (qu.sub d hd);have DA:z∈c.ends:=by
  rcases QH w with r | ⟨m,e,r⟩
  ·exact absurd r Du
  rw[QI] at r;have h1:=qu.link;rw[r] at h1;rw[hc.ends];have h2:=eM g e;rw[gO h1] at h2;exact bB.2 ⟨qu.oz,e / 2,Ih e (by rw[r];simp),h2.2⟩
 have hzN:=dp c kB z DA;obtain⟨f,fl,uB⟩:∃ f fl,c.ak=f :: fl:=by
  cases hL:c.ak with
  | nil=>exact absurd hL hf
  | cons f fl=>exact⟨f,fl,rfl⟩
 obtain⟨Ry,yg,VN⟩:=(hc.PJ f).1 (by grind);have hom:s.ak.getD f.toNat []∈s.ak:=by simp[Qh,yg]
 have hod:∀ d∈s.ak.getD f.toNat [],d∈p.ah:=λd hd=>h.ak.all.mem_iff.1 (List.mem_flatten.2 ⟨_,hom,hd⟩);have xA:∀ d∈p.ah,0<=d/\d / 2<g.e.length:=λd hd=>by
  grind [au]
 have hol:(s.ak.getD f.toNat []).length<=2048:=by
  have h1:=dB (h.ak.simple _ hom);have:=iI (N:=2048) h1 λu hu=>by
   grind
  exact this
 refine⟨a.toNat,z.toNat,f.toNat,w,s.ak.getD f.toNat [],?_⟩;have ea:((a.toNat:Nat):Int)=a:=by omega
 have ez:((z.toNat:Nat):Int)=z:=by omega
 have ef:((f.toNat:Nat):Int)=f:=by omega
 refine⟨by grind,by omega,by rw[ea];exact h.sub a ((h.on a).1 YX),⟨hc.two,YN c kB⟩,Wm,Ma c kB,?_,by grind,Du,λd hd=>?_,?_,by grind,by omega,by rw[ef,uB];rfl,yg,⟨by grind,afh c kB⟩,rfl,?_,?_,λd hd=>xA d (hod d hd),hol,by omega,λr hr=>⟨dp r hr,YN r hr,afh r hr⟩,qX⟩
 ·have:=iI qw (Ma c kB)
  omega
 ·have:=Ma c kB _ (Ih d hd)
  exact⟨by omega,by omega⟩
 ·have h1:=iI Ix.en λu hu=>by
   obtain⟨d,hd,rfl⟩:=Qe.1 hu;exact Ma c kB _ (Ih d hd)
  rw[QT] at h1;omega
 ·rw[ea];exact df.1 (VN a Pn)
 rw[ez];exact df.1 (VN z DA)
theorem Hb (h:∃ x∈l,P x=true):Ey P l=(l.findIdx P:Nat)/\l.findIdx P<l.length:=by
 all_goals grind [xT]
theorem abt {a z f:Nat} (h:ahe g b s (s.rest.getD i ⟨[],[],[]⟩) N a z f w old) (hk:old.findIdx (λd=>decide (g.tail d=(a:Int)))=k) (ho:old.drop k++old.take k=o) (hj:o.findIdx (λd=>decide (g.tail d=(z:Int)))=j) :
  s.put g b.v i=⟨eX g s.on w,s.ak.set f (o.take j++twins w)++[w++o.drop j],
   (s.rest.eraseIdx i).map (fH g (s.ak.set f (o.take j++twins w)++[w++o.drop j]) f (s.ak.length:Int))++cw g (eX g s.on w) (s.ak.set f (o.take j++twins w)++[w++o.drop j]) (a8 (s.rest.getD i ⟨[],[],[]⟩).ag w) [(f:Int),(s.ak.length:Int)]⟩:=by
 unfold Sk.put;simp only[h.a0,h.AJ,h.z0,h.f0];have e:tG g (bp s.ak (f:Int)) w a z=(o.take j++twins w,w++o.drop j):=by
  unfold tG bp;rw[QB,h.Yd]
  grind
 rw[e,QB]
end Go.Proofs.YtoiflofhcmjpoaaGreat.Plain
namespace Go.Proofs.YtoiflofhcmjpoaaGreat
open Plain
open Go.RowKit Go.Maps
variable {B j N v d:Nat} {g:Plain.Gr}
section
variable {α:Type} {a b k:Nat}
variable {w w' : World} {B n m sz : Nat} {e : TypeId} {v u v' : Value} {xs ys : List Value} {cs ds : List Cell}
theorem bN.D4 {own:List Nat} {c:Cell} {x:Value} (h:c.At w B x) (hc:ai own w w') (ho:∀ j∈own,∃ t,bL w j t/\t≠3):c.At w' B x :=
 h.aL hc λb hb hm=>by
  obtain⟨-,-,JD,r,hh⟩:=h.low b (by simpa using hb);obtain⟨t,h1,h2⟩:=ho b hm;exact h2 (h1.one ⟨_,_,hh⟩)
theorem bN.afR (h:bN w B e sz v n xs cs) (he:e≠3):∀ j∈v.ownBlock.toList,∃ t,bL w j t/\t≠3:=λj hj=>⟨e,bM h.out (by simpa using hj),he⟩
theorem bN.cat (h1:bN w B e sz v n xs cs) (h2:bN w B e sz u m ys ds) (he:e≠3) (fy:∀ k l b,k<xs.length->l<ys.length->(xs.getD k undef).ownBlock=Q7 b->(ys.getD l undef).ownBlock≠Q7 b)
  (r1:w'.ownsRow B e sz v' (n+m) (xs++ys)) (r2:ai v.ownBlock.toList w w'):bN w' B e sz v' (n+m) (xs++ys) (cs++ds):=by
 have l1:=h1.len;have l2:=h2.len;have hk:=h1.afR he;refine⟨r1,by grind,by rw[Qb,h1.cells,h2.cells,Nat.add_mul],λk c Xi=>?_,λk l hk hl bn=>?_⟩
 ·by_cases e1:k<xs.length
  ·rw[cP e1]
   rw[List.getElem?_append_left (by omega)] at Xi;exact bN.D4 (h1.fits k c Xi) r2 hk
  rw[dS (by omega)];rw[List.getElem?_append_right (by omega)] at Xi;rw[l1];exact bN.D4 (h2.fits _ c Xi) r2 hk
 rw[Qb] at hk hl;by_cases e1:k<xs.length
 ·rw[cP e1]
  by_cases e2:l<xs.length
  ·rw[cP e2];exact h1.apart k l e1 e2 bn
  rw[dS (by omega)];cases hq:(xs.getD k undef).ownBlock with
  | none=>exact Qn rfl
  | some b=>exact Qo λq=>fy k _ b e1 (by omega) hq q.symm
 rw[dS (by omega)];by_cases e2:l<xs.length
 ·rw[cP e2]
  cases hq:(ys.getD (k - xs.length) undef).ownBlock with
  | none=>exact Qn rfl
  | some b=>exact Qo λq=>fy l _ b e2 (by omega) q.symm hq
 rw[dS (by omega)];exact h2.apart _ _ (by omega) (by omega) (by omega)
theorem tp {xs:List α} {d:α} (ha:a<=xs.length):(xs.take a++xs.drop b).getD k d=if k<a then xs.getD k d else xs.getD (k - a+b) d:=by
 all_goals grind
theorem UD {xs:List α} (ha:a<=xs.length):(xs.take a++xs.drop b)[k]?=if k<a then xs[k]? else xs[k - a+b]?:=by
 all_goals grind
theorem bN.cut {own:List Nat} {n':Nat} (h:bN w B e sz v n xs cs) (qD:a<=b) (hb:b<=xs.length) (b9:w'.ownsRow B e sz v' n' (xs.take a++xs.drop b)) (hc:ai own w w') (ho:∀ j∈own,∃ t,bL w j t/\t≠3) :
  bN w' B e sz v' n' (xs.take a++xs.drop b) (cs.take a++cs.drop b):=by
 have hl:=h.len;have hlen:(xs.take a++xs.drop b).length=xs.length - (b - a):=by rw[Qb,Qr,Qj];omega
 refine⟨b9,by grind,b9.1,λk c hk=>?_,λk l hk TP bn=>?_⟩
 ·rw[UD (by omega)] at hk
  rw[tp (by omega)];split
  ·rename_i q;rw[if_pos q] at hk;exact bN.D4 (h.fits _ c hk) hc ho
  rename_i q;rw[if_neg q] at hk;exact bN.D4 (h.fits _ c hk) hc ho
 rw[hlen] at hk TP;rw[tp (by omega),tp (by omega)];split <;> split
 ·exact h.apart _ _ (by omega) (by omega) bn
 ·exact h.apart _ _ (by omega) (by omega) (by omega)
 ·exact h.apart _ _ (by omega) (by omega) (by omega)
 exact h.apart _ _ (by omega) (by omega) (by omega)
end
theorem RL (R:List Plain.bh) (i:Nat):eG (R.eraseIdx i)=(eG R).take (3*i)++(eG R).drop (3*i+3):=by
 have ht:∀ (R:List Plain.bh) (i:Nat),eG (R.take i)=(eG R).take (3*i)/\eG (R.drop i)=(eG R).drop (3*i):=by
  intro R
  induction R with
  | nil=>intro i;simp[eG]
  | cons c l ih =>
   intro i;have hs:eG (c :: l)=.row c.ag :: .row c.ends :: .row c.ak :: eG l:=by simp[eG]
   cases i with
   | zero=>simp[eG]
   | succ i =>
    have h:=ih i;have Pd:eG (c :: l.take i)=.row c.ag :: .row c.ends :: .row c.ak :: eG (l.take i):=by simp[eG]
    rw[List.take_succ_cons,List.drop_succ_cons,hs,Pd,h.1,h.2,show 3*(i+1)=3*i+1+1+1 by omega];exact⟨rfl,rfl⟩
 grind [eG]
theorem MA {w:World} {e:TypeId} {sz g n m c:Nat} {xs:List Value} (h:w.ownsRow B e sz (.slice (some ⟨g,0,none⟩) n c) n xs) (hm:m<=n):w.ownsRow B e sz (.slice (some ⟨g,0,none⟩) m c) m (xs.take (m*sz)):=by
 obtain⟨h0,h | ⟨g',cap,cur,e1,h1,h2,h3,h4,h5,h6⟩⟩:=h
 ·cases h.1
 cases e1;have hle:m*sz<=n*sz:=Nat.mul_le_mul_right _ hm;refine⟨by rw[Qr,h0];exact QU hle,Qo ⟨g,c,cur,rfl,h1,h2,by omega,h4,h5,?_⟩⟩;rw[<-h6,QX,QU hle]
theorem SD (g c k B:Nat) (l:List Int) (w:World) (h:aw w B (.slice (some ⟨g,0,none⟩) l.length c) l) (hk:k<l.length) :
  Calls Tryz.prog 137 #[.slice (some ⟨g,0,none⟩) l.length c,.int .i64 (k:Nat),.int .i64 ((k:Int)+1)] w λe w'=>e=.returned (.slice (some ⟨g,0,none⟩) (l.eraseIdx k).length c)/\aw w' B (.slice (some ⟨g,0,none⟩) (l.eraseIdx k).length c) (l.eraseIdx k)/\ai [g] w w':=by
 have hl:(ints l).length=l.length:=by simp[ints]
 have iM:(l.eraseIdx k).length=l.length - 1:=Qz hk;have b9:=h.1;obtain⟨oK,alD⟩:l.length<=c/\c<=9223372036854775807:=by
  rcases b9.2 with ⟨q,-⟩ | ⟨g',c',cur,q,-,-,h3,h4,-⟩
  ·cases q
  cases q;exact⟨h3,by simpa[maxLen] using h4⟩
 rw[<-hl] at b9;have hH:Go.Sort.Holds (Qx .i64) w g 0 l.toArray:=kI b9 (by simp[ints]);refine (Tryz.slices_Delete_int g 0 c k (k+1) l w hH oK alD (by omega) (by omega)).mono ?_;rintro e w' ⟨rfl,n,rfl⟩;obtain⟨d,hd⟩:∃ d,(l.take k++l.drop (k+1)++QJ (k+1 - k) (0:Int))=d:=⟨_,rfl⟩;have E6:d.length=l.length:=by
  grind
 rw[hd];have he:Go.Sort.putRow (Qx .i64) (Go.Sort.ahead w n) g 0 d.toArray=sortWorld (Qx .i64) w g 0 n d.toArray #[]:=by
  unfold sortWorld;simp[Go.Sort.grow];rfl
 rw[he];have qU:=mf (enc:=Qx .i64) (n:=n) (os:=#[]) (d:=d.toArray) b9 (by grind);have hle:=MA qU (m:=l.length - 1) (by grind);have Ay:(d.toArray.toList.map (Qx .i64)).take ((l.length - 1)*1)=ints (l.eraseIdx k):=by
  rw[Nat.mul_one,<-List.map_take];show List.map _ (d.take (l.length - 1))=List.map _ (l.eraseIdx k)
  grind
 rw[Ay] at hle;refine⟨by rw[iM,show k+1 - k=1 by omega],⟨by grind,λx hx=>h.2.1 x (List.mem_of_mem_eraseIdx hx),by have:=h.2.2;omega⟩,?_⟩
 grind [np]
namespace Plain
def ixI (l:List Int) (x:Int):Int:=if x∈l then (l.idxOf x:Nat) else -1
theorem MM (l:List Int) (x:Int):Go.Lib.idxOf l x=ixI l x:=by
 unfold ixI;by_cases h:x∈l
 ·rw[if_pos h]
  have h1:l.idxOf x<l.length:=Ql.2 h;have h2:l[l.idxOf x]=x:=QM h1;have:=Go.Lib.idxOf_hit l l.length (l.idxOf x) x h1 (Qt _) (by grind) (λj hj e=>by
   have pr:j<l.length:=by omega
   simp only[Qh,Qg pr,Qq] at e;have h3:=List.not_of_lt_findIdx (p:=(·==x)) (xs:=l) (i:=j) hj
   grind)
  grind
 rw[if_neg h];have:=Go.Lib.idxOf_miss l l.length x (λj hj e=>h (by grind))
 grind
theorem Wo {l:List Int} {x:Int} (h:x∈l):ixI l x=(l.idxOf x:Nat)/\l.idxOf x<l.length/\l.eraseIdx (l.idxOf x)=l.erase x :=
 ⟨if_pos h,Ql.2 h,(List.erase_eq_eraseIdx_of_idxOf rfl).symm⟩
end Plain
theorem RF (v:Value) (l:List Int) (x:Int) (B:Nat) (w:World) (hn:l.length<1000000000) (h:aw w B v l) :
  Calls Tryz.prog 136 #[v,.int .i64 x] w λe w'=>e=.returned (.int .i64 (ixI l x))/\ai [] w w':=by
 obtain⟨ao,c,rfl⟩:=h.shape;by_cases h0:l=[]
 ·subst h0
  refine (Tryz.slices_Index_int_empty ao c x w).mono ?_;rintro e w' ⟨rfl,rfl⟩;exact⟨rfl,ai.refl _ _⟩
 obtain⟨g,hg,hc⟩:=h.some (QL.2 h0);subst hg;refine (Tryz.slices_Index_int g 0 l.length c l x w (Qt _) (by omega) (λj hj=>by grind)).mono ?_
 grind [aR,MM,ai.refl]
namespace Plain
def sM (g:Gr) (e j:Nat) (v:Int):List Int:=((QE j).map λi=>((2*e+i:Nat):Int)).filter λd=>decide (g.tail d=v)
theorem Np (g:Gr) (e j:Nat) (v:Int):sM g e (j+1) v=if v=g.tail ((2*e+j:Nat):Int) then sM g e j v++[((2*e+j:Nat):Int)] else sM g e j v:=by
 unfold sM;rw[QV,Qw,List.filter_append]
 all_goals grind
theorem Gw (g:Gr) (e j:Nat) (v:Int):(sM g e j v).length<=j:=by
 grind [sM]
end Plain
def mg (g:Plain.Gr) (e j N:Nat):List Cell:=(QE N).map λv:Nat=>Cell.row (sM g e j v)
theorem Jo (g:Plain.Gr) (e N:Nat):mg g e 0 N=QJ N (Cell.row []):=by
 unfold mg;have:(λv:Nat=>Cell.row (sM g e 0 v))=λ_=>Cell.row []:=by funext v;simp[sM]
 rw[this,List.map_const',List.length_range]
theorem MG {e:Nat} (_hv:v<N) (ht:g.tail ((2*e+j:Nat):Int)=v):(mg g e j N).set v (.row (sM g e j v++[((2*e+j:Nat):Int)]))=mg g e (j+1) N:=by
 refine List.ext_getElem (by simp[mg]) λi h1 h2=>?_
 all_goals grind [mg,Np]
theorem Rj {e:Nat} (hv:v<N):(mg g e j N)[v]?=some (.row (sM g e j v)):=by
 grind [mg]
theorem pd (hr:g.err=0) (hN:g.n=N) (hd:d / 2<g.e.length):∃ v:Nat,g.tail (d:Int)=v/\v<N:=by
 obtain⟨h1,h2,h3,h4⟩:=Plain.Gr.aF hr;have he:=h4 _ hd;have ht:g.tail (d:Int)=(g.ends (d / 2)).1\/g.tail (d:Int)=(g.ends (d / 2)).2:=by
  all_goals grind [Plain.Gr.tail,Plain.Gr.at]
 refine⟨(g.tail (d:Int)).toNat,?_,?_⟩
 all_goals grind
namespace Plain
theorem Uj {g:Gr} {p:Pt} {e:Nat} (he:p.e=[(e:Int)]) (v:Int):sM g e 2 v=aE g p v:=by
 unfold sM aE Pt.ah;rw[he];simp[QV]
end Plain
theorem Jt (vg:Value) (g:Plain.Gr) (e0 N:Nat) (w:World) (hr:g.err=0) (hN:g.n=N) (he:e0<g.e.length) (hg:cA w vg g) :
  Calls Tryz.prog 81 #[vg,.int .i64 e0] w λe w'=>∃ ob xs,e=.returned (.slice (some ⟨ob,0,none⟩) N N)/\bN w' w.heap.size 25 1 (.slice (some ⟨ob,0,none⟩) N N) N xs (mg g e0 2 N)/\ai [] w w':=by
 have HN:=lh hN;have HG:=lh hg;have fB:=lh (Plain.Gr.aF hr);have HR:=lh hr;obtain⟨eo,cap,rfl,-,-,-,-⟩:=hg;have gJ:=lh (show ai [] w (w.alloc (.cells #[.int .i64 g.n,.slice eo g.e.length cap] 24)) from (show ai [] w (w.alloc (.cells #[.int .i64 g.n,.slice eo g.e.length cap] 24)) from ((ai.refl [] w).alloc _)));have cf:=heap_alloc_new w (.cells #[.int .i64 g.n,.slice eo g.e.length cap] 24);have HX:=lh (λ(w2:World) (dN:ai [] (w.alloc (.cells #[.int .i64 g.n,.slice eo g.e.length cap] 24)) w2)=>(⟨dN.c ((cell_of_row _ _ 0 _ _ _ cf).trans rfl),dN.c ((cell_of_row _ _ 1 _ _ _ cf).trans rfl),by have hz:=dN.size;simpa using hz⟩:w2.cell? ⟨w.heap.size,0,none⟩=some (.int .i64 g.n)/\w2.cell? ⟨w.heap.size,1,none⟩=some (.slice eo g.e.length cap)/\w.heap.size+1<=w2.heap.size));clear cf;have xJ:=lh (show (w.alloc (.cells #[.int .i64 g.n,.slice eo g.e.length cap] 24)).heap.size=w.heap.size+1 by simp);obtain⟨x0,x1,-⟩:=HX.out _ (ai.refl _ _);have hNN:N<=1024:=by have:=fB.out.2.1;omega
 have mN:(e0:Int)<=1024:=by have:=fB.out.2.2.1;have:=fB.out.1;omega
 have EX:g.e.length<=1024:=by have:=fB.out.2.2.1;have:=fB.out.1;omega
 clear hr hN;go_enter Tryz.func81,Tryz.ntmps81;go_wp2_with (at_make;refine Lf qq rfl _ _ rfl (B:=(w.alloc (.cells #[.int .i64 g.n,.slice eo g.e.length cap] 24)).heap.size) (n:=N) (by show Qx .i64 g.n=_;rw[HN.out]) (by show Qx .i64 g.n=_;rw[HN.out]) (Qt _) (by omega) ?_;intro w2 h2 c2;have H2:=lh (uM h2);have C2:=lh c2;clear h2 c2);clear x0 x1;have kA:(w.alloc (.cells #[.int .i64 g.n,.slice eo g.e.length cap] 24)).heap.size=w.heap.size+1:=by simp
 generalize w.alloc (.cells #[.int .i64 g.n,.slice eo g.e.length cap] 24)=w1 at *;obtain⟨ob,Et⟩:∃ n,w.heap.size+1=n:=⟨_,rfl⟩;have GN:=lh (kA.trans Et);rw[kA,Et] at H2;rw[Et];clear Et kA;go_loopw [6,7] (λc _ wr=>∃ j:Nat,j<=2/\c=.int .i64 ((2*e0+j:Nat):Int)/\∃ xs,bN wr ob 25 1 (.slice (some ⟨ob,0,none⟩) N N) N xs (mg g e0 j N)/\ai [] w1 wr) (λc _ _=>2*e0+2 - (intOf c).toNat);case atStart=>exact⟨0,by omega,by go_num,_,by rw[Jo];exact H2.out,C2.out⟩
 case round =>
  obtain⟨j,hj,rfl,xs,bn,hc⟩:=hrel;have jq:=lh bn;have HC:=lh hc;clear bn hc H2 C2;by_cases Nr:j<2
  ·obtain⟨d,hd⟩:∃ d:Nat,2*e0+j=d:=⟨_,rfl⟩
   have oF:d / 2<g.e.length:=by omega
   obtain⟨v,hv,AL⟩:=pd HR.out HN.out oF;have HV:=lh hv;have HD:=lh hd;have E6:(d:Int)<=2*(e0:Int)+1:=by omega
   have lU:d<4096:=by omega
   have Pf:(v:Int)<(N:Int):=by omega
   rw[hd];clear hv;obtain⟨x0,x1,-⟩:=HX.out wr HC.out;go_wp2_with fail;refine (dH _ g d _ oF (by omega) (HG.out.fresh (gJ.out.t HC.out))).mono ?_;rw[HV.out];rintro e w3 ⟨rfl,dK⟩;have Pa:=jq.out.fresh dK;have AI:=Pa.cells;obtain⟨va,vc,zz,yR,w4,p1,p2,p3,p4,p5,p6,p7,p8,p9,PF,p11⟩:=qi (q:=v) (x:=(d:Int)) Pa (by decide) (Nat.le_trans (Pa.out.lt ob rfl).1 (Q6 (Pa.out.lt ob rfl).2)) (by grind) (Rj AL) (bF.mk (by omega) (by omega)) (by grind [Gw]);have pr:=Gw g e0 j (v:Int);obtain⟨ln,Aa⟩:∃ ln,(sM g e0 j (v:Int)).length=ln:=⟨_,rfl⟩;have HP5:=lh (show bN _ ob 25 1 (.slice (some ⟨ob,0,none⟩) N N) N _ (mg g e0 (j+1) N) from by
    have h1:=MG (g:=g) (e:=e0) (j:=j) AL (by rw[HD.out];exact HV.out);rw[<-h1,HD.out];exact p5)
   have eW:=lh (show ai [] w1 _ from (HC.out.t dK).trans p8 (λb hb=>by
    refine Qo ?_;rw[GN.out];rcases Qs.1 hb with q | q
    ·rw[q];exact Qt _
    exact (Pa.kind (k:=v) (by rw[AI];omega) (by rw[p7];simpa[aC] using q)).1))
   rw[Aa] at p1 p2 p3 p9 PF HP5 eW;have Ik:=lh p2;clear p2 p5 p6 p7 p8 p9 PF p11 Pa Aa;go_wp2_with (at_builtin;refine mK rfl _ _ 25 rfl rfl rfl Ik.out ?_);exact⟨⟨j+1,by omega,by grind,_,HP5.out,eW.out⟩,by simp[intOf];omega⟩
  have e2:j=2:=by omega
  subst e2;have xA:¬ ((2*e0+2:Nat):Int)<=2*(e0:Int)+1:=by omega
  go_wp2;go_ret;exact⟨ob,rfl,⟨xs,jq.out.base (by rw[<-GN.out];exact gJ.out.size)⟩,gJ.out.t HC.out⟩
end Go.Proofs.YtoiflofhcmjpoaaGreat
-- READS ONLY
namespace Go.Proofs.YtoiflofhcmjpoaaGreat
open Plain
open Go.RowKit Go.Maps
variable {w:World} {b n m B ob q j:Nat} {g:Plain.Gr} {xs ys us:List Value} {R:List Plain.bh} {F:List (List Int)} {f k x y:Int} {r:Plain.bh}
theorem mw {g:Nat} {t:TypeId}:∀ (vs:List Value) (o:Nat) (w:World) (cs:Array Value),w.heap[g]?=some (.cells cs t (0,0))->o+vs.length<=cs.size ->
  ∃ JD:Array Value,(w.setCells g o vs).heap[g]?=some (.cells JD t (0,0))/\JD.size=cs.size/\JD.toList=cs.toList.take o++(vs++cs.toList.drop (o+vs.length))
 | [],o,w,cs,h,_=>⟨cs,h,rfl,by simp⟩
 | v :: r,o,w,cs,h,hl=>by
  rw[Qc] at hl;obtain⟨JD,h1,h2,h3⟩:=mw r (o+1) (w.setCell ⟨g,o,none⟩ v) (cs.setIfInBounds o v) (heap_setCell_same h o v) (by rw[Array.size_setIfInBounds];omega);refine⟨JD,h1,by simpa using h2,?_⟩;have e:(cs.setIfInBounds o v).toList=cs.toList.take o++v :: cs.toList.drop (o+1):=by
   rw[Array.toList_setIfInBounds,List.set_eq_take_append_cons_drop,if_pos (by grind)]
  rw[h3,e];have hA:(cs.toList.take o).length=o:=by grind
  generalize cs.toList.take o=A at *;subst hA;rw[show A++v :: cs.toList.drop (A.length+1)=(A++[v])++cs.toList.drop (A.length+1) by simp];have hd:(A++[v]).drop (A.length+1+r.length)=[]:=List.drop_eq_nil_of_le (by simp);have ht:((A++[v])++cs.toList.drop (A.length+1)).take (A.length+1)=A++[v]:=by
   rw[show A.length+1=(A++[v]).length by simp,List.take_left]
  rw[ht,List.drop_append,hd,QW,List.drop_drop,QP];simp only[Qb,Qc,List.length_nil,QW,List.cons_append,QF];rw[show A.length+1+(A.length+1+r.length - (A.length+1))=A.length+(r.length+1) by omega]
theorem nw {own:List Nat} {a:World} {g:Nat} (hg:g∈own):∀ (vs:List Value) (o:Nat) {w:World},ai own a w->ai own a (w.setCells g o vs)
 | [],_,_,h=>h
 | v :: r,o,_w,h=>nw hg r (o+1) (h.setCell (Qn hg) v)
theorem yD (w:World) (t e ty:TypeId) (z:Value) (ht:Tryz.prog.underlying t=some (.slice e)) (hv:∀ w,(zeroValue e).run Tryz.prog w=.ok z w) (b o n c:Nat) (hn:0<n) (L:List Value) (hL:(Builtin.zeroCells z.cells n).toList=L)
  (h1:∀ v∈L,v.oneCell'=true) (hc:∀ j,j<L.length->(w.cell? ⟨b,o+j,none⟩).isSome=true) (hf:∀ j,j<L.length->w.frozen? ⟨b,o+j,none⟩=false) :
  (Builtin.clear_ #[t] ty #[.slice (some ⟨b,o,none⟩) n c]).run Tryz.prog w=.ok (.tuple #[]) (w.setCells b o L):=by
 have xC:=run_storeCells_cells (P:=Tryz.prog) b o L 0 w (by grind) (by grind) h1;simp only[Nat.add_zero] at xC;obtain⟨m,rfl⟩:∃ m,n=m+1:=⟨n - 1,by omega⟩;simp[Builtin.clear_,run_underlying ht,hv,hL,xC]
theorem RR (g c i B:Nat) (R:List Plain.bh) (xs:List Value) (w:World) (h:bN w B 162 3 (.slice (some ⟨g,0,none⟩) R.length c) R.length xs (eG R)) (hi:i<R.length) (hn:R.length<=2000) :
  Calls Tryz.prog 132 #[.slice (some ⟨g,0,none⟩) R.length c,.int .i64 i,.int .i64 ((i:Int)+1)] w λe w'=>e=.returned (.slice (some ⟨g,0,none⟩) (R.eraseIdx i).length c)/\bN w' B 162 3 (.slice (some ⟨g,0,none⟩) (R.eraseIdx i).length c) (R.eraseIdx i).length (xs.take (3*i)++xs.drop (3*i+3)) (eG (R.eraseIdx i))/\ai [g] w w':=by
 have iM:(R.eraseIdx i).length=R.length - 1:=Qz hi;have AK:=lh iM;have HN:=lh h;obtain⟨cur,hB,hg,Dc,kB,ja,eV⟩:∃ cur,B<=g/\w.heap[g]?=some (.cells cur 162 (0,0))/\R.length<=c/\c<=maxLen/\cur.size=c*3/\cur.toList.take (R.length*3)=xs:=by
  rcases h.out.2 with ⟨q,-⟩ | ⟨g',c',cur,q,k1,k2,k3,k4,k5,k6⟩
  all_goals grind
 have AI:=h.cells;have hm:c<=9223372036854775807:=by simpa[maxLen] using kB
 have nJ:∀ u∈xs,u.oneCell'=true:=λu hu=>by
  obtain⟨k,hk,rfl⟩:=QK.1 hu;obtain⟨cc,-,xQ⟩:=h.fit hk;have:=xQ.one
  grind
 have DB:∀ k,k<R.length*3->w.cell? ⟨g,k,none⟩=some (xs.getD k undef):=λk hk=>h.cell (by omega);obtain⟨n,hRn⟩:∃ n,R.length=n:=⟨_,rfl⟩;rw[hRn] at hi hn iM Dc eV AI DB AK ⊢;rw[iM]
 -- the append
 obtain⟨i0,hi0,Er,kA,uC⟩:=info_parts mR.hi;have hnl:(xs.drop (3*i+3)).length=(n - (i+1))*i0.size:=by rw[Qj,AI,kA];omega
 have Gm:∀ k,w.drew.frozen? ⟨g,k,none⟩=false:=λk=>by
  have:=bE hg k;exact this
 have ke:∀ A:Addr,(∀ j u,(xs.drop (3*i+3))[j]?=some u->w.drew.cell? (A.add j)=some u)->(Builtin.append_ #[111,111] 111 #[.slice (some ⟨g,0,none⟩) i c,.slice (some A) (n - (i+1)) (c - (i+1))]).run Tryz.prog w.drew=.ok (.slice (some ⟨g,0,none⟩) (i+(n - (i+1))) c) (w.drew.setCells g (0+i*i0.size) (xs.drop (3*i+3))):=λA hA =>
  run_append_room_cells w.drew 111 111 162 i0 mR.ht hi0 g 0 i c A (n - (i+1)) (c - (i+1)) (xs.drop (3*i+3)) hnl hA (λu hu=>nJ u (List.mem_of_mem_drop hu)) (by omega) (λj hj=>by
   rw[hnl,kA] at hj;rw[QF,kA];have h1:=DB (i*3+j) (by omega);exact Option.isSome_iff_exists.2 ⟨_,h1⟩) (λj hj=>Gm _)
 rw[kA,QF] at ke;have aeN:=lh ke;have hiN:(i:Int)<(n:Int):=by omega
 have awM:(0:Int)<=(i:Int)+1:=by omega
 have ayu:(i:Int)+1<=(n:Int):=by omega
 obtain⟨A,hA,FW⟩:∃ A:Addr,(if c=i+1 then some (⟨g,0,none⟩:Addr) else some ⟨g,(i+1)*3,none⟩)=some A/\∀ (j:Nat) (u:Value),(xs.drop (3*i+3))[j]?=some u->w.drew.cell? (A.add j)=some u:=by
  have mC:∀ o j:Nat,(⟨g,o,none⟩:Addr).add j=⟨g,o+j,none⟩:=λo j=>by unfold Addr.add;split <;> simp_all
  by_cases q:c=i+1
  ·refine⟨⟨g,0,none⟩,by rw[if_pos q],λj u hu=>?_⟩
   have:=(QA.1 hu).1;rw[Qj] at this;omega
  refine⟨⟨g,(i+1)*3,none⟩,by rw[if_neg q],λj u hu=>?_⟩;have hj:=(QA.1 hu).1;rw[Qj] at hj;rw[List.getElem?_drop] at hu;rw[mC,show (i+1)*3+j=3*i+3+j by omega];have h1:=DB (3*i+3+j) (by omega);rw[show xs.getD (3*i+3+j) undef=u by simp[Qh,hu]] at h1;exact h1
 have ag0:=lh FW;have hic:i<=c:=by omega
 have auh:i+1<=c:=by omega
 clear ke nJ DB Gm hnl h FW;go_enter Tryz.func132,Tryz.ntmps132;go_wp2_with fail;have aG:ai [] w w.drew:=(ai.refl [] w).drew;refine al (ai [] w) [0,1,2,3,4] (Way.line [0,1,2,3,4,5,6,7] .done) (by kernel_rfl) (by kernel_rfl) ?_;simp only[Way.line]
 repeat (refine aj (v:=?_) rfl (by rfl) (by rfl) (λ_ _ _ h=>h) aG (λw' aB=>?_) ?_;rotate_left;(focus (skip;clear aB;go_simp;try with_reducible rfl));simp only[QZ,Z1,Z2,Z3,Z4,Z5,Z6])
 refine aq rfl (by rfl) (by rfl) (λK hK=>?_);go_simp;refine hK.out _ _ (λ_=>aG) ?_;clear hK K;try simp only[QZ,Z1,Z2,Z3,Z4,Z5,Z6]
 refine aq rfl (by rfl) (by rfl) (λK hK=>?_);simp only[List.getElem_toArray,List.getElem_cons_zero,List.getElem_cons_succ];refine mZ (.tmp 22) (.tmp 25) 111 rfl rfl rfl (aeN.out A ag0.out) ?_;refine hK.out _ _ (λh=>absurd h (QQ.1 (by kernel_rfl))) ?_;clear hK K;try simp only[QZ,List.setIfInBounds_toArray,Qy,QN]
 refine aq rfl (by rfl) (by rfl) (λK hK=>?_);go_simp;refine hK.out _ _ (λh=>absurd h (QQ.1 (by kernel_rfl))) ?_;clear hK K;try simp only[QZ,Z1,Z2,Z3,Z4,Z5,Z6]
 refine ar ?_;obtain⟨m,rfl⟩:∃ m,n=m+1:=⟨n - 1,by omega⟩;rw[show i+(m+1 - (i+1))=m by omega];obtain⟨cs1,k1,k2,k3⟩:=mw (xs.drop (3*i+3)) (i*3) w.drew cur hg (by grind);have FZ:ai [g] w (w.drew.setCells g (i*3) (xs.drop (3*i+3))):=nw (by simp) _ _ (ai.refl [g] w).drew;have ang:=lh FZ;generalize w.drew.setCells g (i*3) (xs.drop (3*i+3))=w1 at *;have HK1:=lh k1;have HK3:=lh k3;have hmc:m<=c:=by omega
 have ayn:m+1<=c:=by omega
 have lu:∀ ty,(Builtin.clear_ #[111] ty #[.slice (some ⟨g,m*3,none⟩) 1 (c - m)]).run Tryz.prog w1=.ok (.tuple #[]) (w1.setCells g (m*3) [.slice none 0 0,.slice none 0 0,.slice none 0 0]):=λty =>
  yD w1 111 162 ty (.agg #[.slice none 0 0,.slice none 0 0,.slice none 0 0]) mR.ht (λw=>by simp[zeroValue,typeInfo,hi0,Er]) g (m*3) 1 (c - m) (by omega) [.slice none 0 0,.slice none 0 0,.slice none 0 0] (by kernel_rfl) (λu hu=>by
   simp at hu;subst hu;rfl) (λj hj=>by
   have hj:j<3:=hj;rw[cell_of_row _ _ _ _ _ _ k1,Qk (by omega)];rfl) (λj _=>bE k1 _)
 obtain⟨cs2,l1,l2,l3⟩:=mw [.slice none 0 0,.slice none 0 0,.slice none 0 0] (m*3) w1 cs1 k1 (by simp;omega);have afj:=lh (nw (g:=g) (own:=[g]) (by simp) [.slice none 0 0,.slice none 0 0,.slice none 0 0] (m*3) ang.out);have It:=lh l1;have HL3:=lh l3;clear aeN ag0 hA aG FZ k1 k3 l1 l3;go_wp2;go_ret;clear lu;generalize w1.setCells g (m*3) [.slice none 0 0,.slice none 0 0,.slice none 0 0]=w2 at *;have Za:m+1 - 1=m:=by omega
 refine⟨rfl,?_,afj.out⟩;rw[Za];have hlx:=HN.out.cells;have Gb:cs2.toList.take (m*3)=xs.take (3*i)++xs.drop (3*i+3):=by
  have e1:cs2.toList.take (m*3)=cs1.toList.take (m*3):=by
   rw[HL3.out,Qv (by grind),QX,Nat.min_self]
  have hA:(cur.toList.take (i*3)).length=i*3:=by rw[Qr,Array.length_toList];omega
  have hB:(xs.drop (3*i+3)).length=m*3 - i*3:=by rw[Qj];omega
  rw[e1,HK3.out,<-QP,Qv (by grind),List.take_of_length_le (by grind)]
  grind
 have b9:w2.ownsRow B 162 3 (.slice (some ⟨g,0,none⟩) m c) m (xs.take (3*i)++xs.drop (3*i+3)):=by
  refine⟨?_,Qo ⟨g,c,cs2,rfl,hB,It.out,by omega,kB,by omega,Gb⟩⟩
  grind
 rw[RL];exact HN.out.cut (by omega) (by omega) b9 afj.out (λj hj=>⟨162,by rw[Qa.1 hj];exact⟨_,_,hg⟩,by decide⟩)
theorem MP {o:Oper} {a:Act} {K:Act->World->Prop} {Q:Exit->Act->World->Prop} (p x:Operand) (ho:o.op=.store 158 p x) {i c d:Nat} {fo go:Option Addr} {cs:Array Value} (hp:a.eval p=.pointer (some ⟨b,i,none⟩)) (hx:a.eval x=.agg #[.slice fo n c,.slice go m d])
  (hb:w.heap[b]?=some (.cells cs 158 (0,0))) (hi:i+1<cs.size)
  (hK:K (a.put o.dst undef) ((w.setCell ⟨b,i,none⟩ (.slice fo n c)).setCell ⟨b,i+1,none⟩ (.slice go m d))):o.wp Tryz.prog a w K Q:=by
 obtain⟨u0,hu0⟩:∃ u,cs[i]?=some u:=⟨_,Qk (by omega)⟩;obtain⟨u1,PO⟩:∃ u,cs[i+1]?=some u:=⟨_,Qk (by omega)⟩;have c0:w.cell? ⟨b,i,none⟩=some u0:=by rw[cell_of_row _ _ _ _ _ _ hb];exact hu0
 have c1:w.cell? ⟨b,i+1,none⟩=some u1:=by rw[cell_of_row _ _ _ _ _ _ hb];exact PO
 have z0:w.frozen? ⟨b,i,none⟩=false:=bE hb _;have z1:w.frozen? ⟨b,i+1,none⟩=false:=bE hb _;unfold Oper.wp execOp;simp only[ho,hp,hx];clear hp hx hb;go_simp;exact hK
theorem qt {c:Nat} {a:Addr} {l:List Int} (h:aw w B (.slice (some a) n c) l):n=l.length/\n<=c:=by
 rcases h.1.2 with ⟨q,-⟩ | ⟨g',c',cur,q,-,-,h3,-⟩
 all_goals grind
theorem GG {c sz g:Nat} {e:TypeId} (h:w.ownsRow B e sz (.slice (some ⟨g,0,none⟩) n c) m xs):∃ cs,w.heap[g]?=some (.cells cs e (0,0)):=by
 rcases h.2 with ⟨q,-⟩ | ⟨g',c',cur,q,-,hh,-⟩
 all_goals grind
theorem IA:qg 110 158 (.agg #[.slice none 0 0,.slice none 0 0]) 2 48:=⟨Tryz.underlying110,by kernel_rfl,rfl,by decide,by decide⟩
theorem oV.put {v:Value} (h:oV ob xs ys) (hq:q<xs.length) (hv:∀ b,v.ownBlock=some b->b≠ob/\∀ l,l<ys.length->(ys.getD l undef).ownBlock≠some b):oV ob (xs.set q v) ys:=by
 refine⟨λk hk e=>?_,λk l b hk hl hb=>?_⟩
 ·rw[QG] at hk
  rw[eK _ _ _ _ _ hq] at e;by_cases r:k=q
  ·rw[if_pos r] at e;exact (hv ob e).1 rfl
  rw[if_neg r] at e;exact h.o k hk e
 rw[QG] at hk;rw[eK _ _ _ _ _ hq] at hb;by_cases r:k=q
 ·rw[if_pos r] at hb;exact (hv b hb).2 l hl
 rw[if_neg r] at hb;exact h.y k l b hk hl hb
theorem oV.add (h:oV ob xs ys) (hv:∀ k b,k<us.length->(us.getD k undef).ownBlock=some b->b≠ob/\∀ l,l<ys.length->(ys.getD l undef).ownBlock≠some b):oV ob (xs++us) ys:=by
 refine⟨λk hk e=>?_,λk l b hk hl hb=>?_⟩
 ·rw[Qb] at hk
  by_cases r:k<xs.length
  ·rw[cP r] at e;exact h.o k r e
  all_goals grind
 rw[Qb] at hk;by_cases r:k<xs.length
 ·rw[cP r] at hb;exact h.y k l b r hl hb
 all_goals grind
def iT (t:Plain.bh->Plain.bh) (R:List Plain.bh) (j:Nat):List Plain.bh:=(R.take j).map t++R.drop j
theorem NP (t:Plain.bh->Plain.bh) (R:List Plain.bh):iT t R 0=R:=by simp[iT]
theorem Uk (t:Plain.bh->Plain.bh) (R:List Plain.bh):iT t R R.length=R.map t:=by simp[iT]
theorem E3 {t:Plain.bh->Plain.bh} (hj:j<=R.length):(iT t R j).length=R.length:=by
 grind [iT]
theorem Ef {t:Plain.bh->Plain.bh} (hj:j<R.length) (d:Plain.bh):(iT t R j).getD j d=R.getD j d:=by
 grind [iT,dS]
theorem Cy {t:Plain.bh->Plain.bh} (hj:j<R.length) (d:Plain.bh):iT t R (j+1)=(iT t R j).set j (t (R.getD j d)):=by
 unfold iT;have hl:((R.take j).map t).length=j:=by rw[QT,Qr];omega
 have e1:R.take (j+1)=R.take j++[R.getD j d]:=by
  rw[QC]
  grind
 have e2:R.drop j=R.getD j d :: R.drop (j+1):=by
  rw[List.drop_eq_getElem_cons hj]
  grind
 rw[e1,e2,Qw,List.set_append_right _ _ (by omega),hl,Nat.sub_self,Qy];simp
theorem Hc:∀ {L:List Plain.bh} {j:Nat} {c:Plain.bh},j<L.length->c.ag=(L.getD j ⟨[],[],[]⟩).ag->c.ends=(L.getD j ⟨[],[],[]⟩).ends->(eG L).set (j*3+2) (.row c.ak)=eG (L.set j c)
 | [],j,_,h,_,_=>by simp at h
 | d :: l,0,c,_,h1,h2=>by
  have hs:∀ d:Plain.bh,eG (d :: l)=.row d.ag :: .row d.ends :: .row d.ak :: eG l:=λd=>by simp[eG]
  rw[Qy,hs,hs];have h1:c.ag=d.ag:=h1;have h2:c.ends=d.ends:=h2;rw[h1,h2];rfl
 | d :: l,j+1,c,h,h1,h2=>by
  have hs:∀ l:List Plain.bh,eG (d :: l)=.row d.ag :: .row d.ends :: .row d.ak :: eG l:=λl=>by simp[eG]
  have ih:=Hc (L:=l) (j:=j) (c:=c) (by simpa using h) h1 h2;rw[QN,hs,hs,<-ih,show (j+1)*3+2=j*3+2+1+1+1 by omega];rfl
theorem Oh (h:f∈r.ak):Plain.fH g F f k r=⟨r.ag,r.ends,r.ak.erase f++Plain.jD g F r.ends [f,k]⟩:=if_pos h
theorem Km (h:f ∉ r.ak):Plain.fH g F f k r=r:=if_neg h
theorem Nw {t:Plain.bh->Plain.bh} (hj:j<R.length) (d:Plain.bh) (h:t (R.getD j d)=R.getD j d):iT t R (j+1)=iT t R j:=by
 rw[Cy hj d,h];have h1:=Ef (t:=t) hj d;have hl:=E3 (t:=t) (Q6 hj);have pr:j<(iT t R j).length:=by omega
 have h2:R.getD j d=(iT t R j)[j]:=by rw[<-h1];simp[Qh,pr]
 rw[h2,List.set_getElem_self]
theorem L6 {r:Nat × Nat} (h:w.heap[b]?=some (.cells #[.int .i64 x,.int .i64 y] 3 r)) (hx:bF x) (hy:bF y):aI w (.slice (some ⟨b,0,none⟩) 2 2) [x,y]:=by
 refine⟨_,2,rfl,λz hz=>?_,by simp,λ_=>⟨b,0,rfl,λi hi=>?_⟩⟩
 ·rcases Qs.1 hz with q | q
  ·rw[q];exact hx
  rw[Qa.1 q];exact hy
 rcases (show i=0\/i=1 by simp at hi;omega) with q | q
 ·subst q;exact (cell_of_row _ _ 0 _ _ _ h).trans rfl
 subst q;exact (cell_of_row _ _ 1 _ _ _ h).trans rfl
