/- draw.begin's ring in plain words: a closed uG through the least BU, no iD twice. No program here. -/
import Derived.Test.YtbkjljffnkdcjaaGreatD9Begin
open List renaming mem_singleton→Qa,mem_filter→Qb,perm_ext_iff_of_nodup→Qc,mem_map→Qd,map_cons→Qe,mem_cons→Qf,mem_cons_of_mem→Qg,getD→Qh,getElem?_eq_getElem→Qi,filter_cons_of_pos→Qk,length_cons→Qo,nodup_cons→Qp,Perm→Qr,filter_cons_of_neg→Qs,mem_append→Qu,perm_singleton→Qv,length_append→Qw,getElem?_map→Qx,nodup_append→Qy,flatten_cons→Qz,take_add_one→QA,take_length→QC,map_append→QD,range→QG
open Nat renaming mod_eq_of_lt→Qj,add_mod_right→QB,mod_self→QE,le_refl→QF
open Or renaming inl→Ql,inr→Qm
open Option renaming getD_some→Qn,map_some→Qt
open Bool renaming or_eq_true→Qq
namespace Go.Proofs.YtbkjljffnkdcjaaGreat.Plain
theorem tX {g:Gr} {p:Pt} {b:Int} {f:Int->Option Int} (hp:aH g p) (h0:∀ v∈p.v,0<=v) (h:nY g p b f) (hc:∀ v,f v≠none↔bP g p (-1) b v):∀ (n:Nat) (v:Int),f v=some (n:Int)->∀ d∈dx g p f n v,g.tail d≠b
 | 0,_,_=>by simp[dx]
 | n+1,v,hv=>by
  obtain⟨k,-,-,-,h4,h5,h6⟩:=xW h (v:=v) (n:=n) (by rw[hv];congr 1) (fun d hd ht=>by
   have h1:=(hc v).1 (by rw[hv];simp);have h2:=eK (g:=g) hd;rw[ht] at h2;have h3:=h0 _ (hp.aQ hd).2;exact (hc _).2 (h1.step h2 (by omega)))
  intro d hd;rcases Qf.1 hd with r | r
  ·rw[r,h5]
   intro e;rw[e,h.base] at hv;simp at hv;omega
  exact tX hp h0 h hc n _ h6 d r
theorem JV {g:Gr} {p:Pt} (hp:p.err g=0) (_he:0<p.e.length)
  (h:nY g (fB p (p.e.getD 0 0)) (g.at (p.e.getD 0 0)).1 (dR g (fB p (p.e.getD 0 0)) (-1) (g.at (p.e.getD 0 0)).1))
  (hc:∀ v,dR g (fB p (p.e.getD 0 0)) (-1) (g.at (p.e.getD 0 0)).1 v≠none↔bP g (fB p (p.e.getD 0 0)) (-1) (g.at (p.e.getD 0 0)).1 v)
  (hs:bP g (fB p (p.e.getD 0 0)) (-1) (g.at (p.e.getD 0 0)).1 (g.at (p.e.getD 0 0)).2) :
  eR g (g.at (p.e.getD 0 0)).1 (eY g p) (g.at (p.e.getD 0 0)).1/\((eY g p).map g.tail).Nodup/\∀ d∈(eY g p).tail,d∈(fB p (p.e.getD 0 0)).ag:=by
 have hd:=Pt.aF (zT hp (p.e.getD 0 0));have ht:=dV g (p.e.getD 0 0);have hn:=(hc _).2 hs;unfold eY iR;obtain⟨c,hq⟩:=Option.ne_none_iff_exists'.1 hn;have h0:=h.low _ c hq;have zb:dR g (fB p (p.e.getD 0 0)) (-1) (g.at (p.e.getD 0 0)).1 (g.at (p.e.getD 0 0)).2=some ((c.toNat:Nat):Int):=by rw[hq];congr 1;omega
 obtain⟨i1,i2,-,i4⟩:=mI hd (fun v hv=>(hd.vr v hv).1) h hc c.toNat _ zb;have i5:=tX hd (fun v hv=>(hd.vr v hv).1) h hc c.toNat _ zb;rw[hq];simp only[Qt,Qn];refine⟨⟨ht.1,by rw[ht.2];exact i1⟩,?_,fun d pG=>i2 d pG⟩;rw[Qe,Qp,ht.1];refine⟨fun q=>?_,i4⟩;obtain⟨d,h1,h2⟩:=Qd.1 q;exact i5 d h1 h2
theorem GC {g:Gr} {p:Pt} {s a u:Int} (h:bP g p s a u):u=a\/∃ w,qF g p a w/\w≠s:=by
 induction h with
 | here=>exact Ql rfl
 | step h1 hn hs ih =>
  rcases ih with r | r
  ·subst r;exact Qm ⟨_,hn,hs⟩
  exact Qm r
theorem Dy {g:Gr} {p:Pt} {u w:Int} (hp:aH g p) (h:qF g p u w):w∈p.v:=by
 obtain⟨e,he,r | r⟩:=h
 ·have:=(hp.ends e he).2;rw[r] at this;exact this
 have:=(hp.ends e he).1;rw[r] at this;exact this
theorem mP {g:Gr} {b:Pt} {e0 e1:Int} {l:List Int} (hb:aH g b) (hS:cg g b) (lM:b.e=e0 :: e1 :: l):∀ e∈b.e,(g.at e).1≠(g.at e).2:=by
 intro e he q;have hn:=hb.en;rw[lM] at hn;have bh:e0≠e1:=fun r=>by rw[r] at hn;simp at hn
 obtain⟨f,hf,hef⟩:∃ f∈b.e,e≠f:=by
  by_cases r:e=e0
  ·exact⟨e1,by rw[lM];simp,by rw[r];exact bh⟩
  exact⟨e0,by rw[lM];simp,r⟩
 exact oV hS e he f hf (g.at e).1 (hb.ends e he).1 ⟨hef,Ql ⟨rfl,q.symm⟩⟩
theorem Ah {g:Gr} {b:Pt} {e0 e1:Int} {l:List Int} (hb:aH g b) (hS:cg g b) (lM:b.e=e0 :: e1 :: l):bP g (fB b e0) (-1) (g.at e0).1 (g.at e0).2:=by
 have hl:=mP hb hS lM;have h0:e0∈b.e:=by rw[lM];simp
 have h1:e1∈b.e:=by rw[lM];simp
 have hn:=hb.en;rw[lM] at hn;have bh:e0≠e1:=fun r=>by rw[r] at hn;simp at hn
 have jE:=oV hS;have mV:=hb.ends e0 h0;have FD:=hl e0 h0;have rm:∀ f∈b.e,e0≠f->∀ v∈b.v,bP g b v (off g v e0) (off g v f):=fun f hf hn v hv=>Classical.byContradiction fun r=>jE e0 h0 f hf v hv ⟨hn,Qm (Qm r)⟩;obtain⟨x,hx⟩:∃ x,(g.at e0).1=x:=⟨_,rfl⟩;obtain⟨z,hz⟩:∃ z,(g.at e0).2=z:=⟨_,rfl⟩;have mn:g.at e0=(x,z):=by rw[<-hx,<-hz]
 rw[hx,hz] at FD mV ⊢;have MX:off g x e0=z:=by unfold off;rw[if_pos hx,hz]
 have Es:off g z e0=x:=by unfold off;rw[if_neg (by rw[hx];exact FD),hx]
 obtain⟨e2,h2,gL,pF⟩:∃ e2∈b.e,e0≠e2/\cI g e2 z:=by
  have h3:=rm e1 h1 bh x mV.1;rw[MX] at h3;rcases GC h3 with r | ⟨w,hw,hwx⟩
  ·exact⟨e1,h1,bh,by rw[<-r];exact mQ⟩
  obtain⟨e,he,r⟩:=hw;refine⟨e,he,fun q=>?_,?_⟩
  ·rw[<-q,mn] at r
   rcases r with r | r
   ·exact FD (congrArg Prod.fst r)
   exact hwx (congrArg Prod.fst r).symm
  rcases r with r | r
  ·exact Ql (by rw[r])
  exact Qm (by rw[r])
 have h4:=rm e2 h2 gL z mV.2;rw[Es] at h4;have h5:∀ u,bP g b z x u->u≠z/\bP g (fB b e0) (-1) x u:=fun u hu=>by
  induction hu with
  | here=>exact⟨FD,.here⟩
  | step _ hn hs ih =>
   refine⟨hs,ih.2.step ?_ (by have:=(hb.vr _ (Dy hb hn)).1;omega)⟩;obtain⟨e,he,r⟩:=hn;refine⟨e,Qb.2 ⟨he,?_⟩,r⟩;rw[bne_iff_ne];intro q;rw[q,mn] at r;rcases r with r | r
   ·exact hs (congrArg Prod.snd r).symm
   exact ih.1 (congrArg Prod.snd r).symm
 have h6:=(h5 _ h4).2;refine h6.step ⟨e2,Qb.2 ⟨h2,by rw[bne_iff_ne];exact fun q=>gL q.symm⟩,?_⟩ (by have:=(hb.vr _ mV.2).1;omega);unfold off;split
 ·rename_i q;exact Qm (by rw[<-q])
 rename_i q;rcases pF with r | r
 ·exact absurd r q
 exact Ql (by rw[<-r])
def eZ (g:Gr) (p:Pt):List (List Int):=(QG g.n.toNat).map fun v:Nat=>a8 g p v
theorem iX {g:Gr} {p:Pt} {v:Int} (h0:0<=v) (hn:v<g.n):aI (eZ g p) v=a8 g p v:=by
 obtain⟨n,rfl⟩:∃ n:Nat,v=n:=⟨v.toNat,by omega⟩;have aU:n<g.n.toNat:=by omega
 show ((QG g.n.toNat).map _).getD n []=_;simp only[Qh,Qx,List.getElem?_range aU,Qt,Qn]
theorem GY {g:Gr} {p:Pt} (hp:aH g p) (hn:0<=g.n):aT g p (eZ g p):=by
 refine⟨by simp[eZ];omega,fun v=>?_,fun v h0 h1 d=>by rw[iX h0 h1];exact bk⟩;by_cases hv:v.toNat<g.n.toNat
 ·have:=iX (g:=g) (p:=p) (v:=(v.toNat:Int)) (by omega) (by omega)
  unfold aI at this ⊢;rw[Int.toNat_natCast] at this;rw[this];exact jr hp.en _
 have:aI (eZ g p) v=[]:=by
  unfold aI;rw[Qh,List.getElem?_eq_none (by simp[eZ];omega)];rfl
 rw[this];simp
theorem zG (g:Gr) (e:Int):g.tail (2*e+1)=(g.at e).2/\g.head (2*e+1)=(g.at e).1:=by
 unfold Gr.tail Gr.head;rw[if_neg (by omega),if_neg (by omega),show (2*e+1) / 2=e by omega];exact⟨rfl,rfl⟩
theorem Av (e:Int):aE (2*e)=2*e+1/\aE (2*e+1)=2*e:=by
 unfold aE;rw[if_pos (by omega),if_neg (by omega)];exact⟨rfl,by omega⟩
theorem Ay (x:Int):ahead [x] x=x:=by simp[ahead]
theorem FU {x y:Int} (h:x≠y):ahead [x,y] x=y/\ahead [x,y] y=x:=by
 have h':¬ (x==y)=true:=by simpa using h
 simp[ahead,List.idxOf,List.findIdx_cons,h']
theorem xi {g:Gr} {p:Pt} {e:Int} (gJ:p.err g=0) (he:p.e=[e]) (hv:∀ v,v∈p.v↔v=(g.at e).1\/v=(g.at e).2) :
  cL g p (eZ g p) (if (g.at e).1=(g.at e).2 then [[2*e],[2*e+1]] else [[2*e,2*e+1]]):=by
 have hk:=Pt.aF gJ;have hn:=(Gr.aP (Pt.aP gJ).1).1;have hd:p.ag=[2*e,2*e+1]:=by unfold Pt.ag;rw[he];rfl
 have uE:=GY hk hn;have ry:e∈p.e:=by rw[he];simp
 have kQ:=hk.ends e ry;have fz:=hk.vr _ kQ.1;have cH:=hk.vr _ kQ.2;obtain⟨t1,t2⟩:=dV g e;obtain⟨t3,t4⟩:=zG g e;obtain⟨w1,w2⟩:=Av e;have VD:∀ v∈p.v,∃ d∈p.ag,g.tail d=v:=fun v h=>by
  rw[hd];rcases (hv v).1 h with r | r
  ·exact⟨2*e,by simp,t1.trans r.symm⟩
  exact⟨2*e+1,by simp,t3.trans r.symm⟩
 have kM:qF g p (g.at e).1 (g.at e).2:=⟨e,ry,Ql rfl⟩;have Vs:∀ u∈p.v,∀ v∈p.v,bP g p (-1) u v:=fun u hu v Ys=>by
  rcases (hv u).1 hu with r | r <;> rcases (hv v).1 Ys with s | s
  ·rw[r,s];exact .here
  ·rw[r,s];exact .step .here kM (by omega)
  ·rw[r,s];exact .step .here kM.symm (by omega)
  rw[r,s];exact .here
 by_cases hq:(g.at e).1=(g.at e).2
 ·rw[if_pos hq]
  have ZD:a8 g p (g.at e).1=[2*e,2*e+1]:=by
   unfold a8;rw[hd,Qk (by simpa using t1),Qk (by simpa using t3.trans hq.symm)];rfl
  have EF:p.v.length=1:=by
   have:p.v.Perm [(g.at e).1]:=(Qc hk.vn (by simp)).2 fun u=>by rw[hv,<-hq];simp
   exact this.length_eq
  obtain⟨k1,k2⟩:=FU (x:=2*e) (y:=2*e+1) (by omega);refine⟨gJ,uE,⟨fun c hc=>?_,?_⟩,?_,fun f hf=>?_,VD,?_,Vs⟩
  ·rcases Qf.1 hc with r | r
   ·rw[r]
    show ay g (eZ g p) (2*e)=2*e;unfold ay before;rw[w1,t3,<-hq,iX fz.1 fz.2,ZD];exact k2
   rw[Qa.1 r];show ay g (eZ g p) (2*e+1)=2*e+1;unfold ay before;rw[w2,t1,iX fz.1 fz.2,ZD];exact k1
  ·show [2*e,2*e+1].Nodup
   simp;omega
  ·rw[hd];exact Qr.refl _
  ·rcases Qf.1 hf with r | r
   ·rw[r];simp
   rw[Qa.1 r];simp
  rw[EF,he];rfl
 rw[if_neg hq];have ZD:a8 g p (g.at e).1=[2*e]:=by
  unfold a8;rw[hd,Qk (by simpa using t1),Qs (by simpa[t3] using fun r=>hq r.symm)];rfl
 have hdz:a8 g p (g.at e).2=[2*e+1]:=by
  unfold a8;rw[hd,Qs (by simpa[t1] using hq),Qk (by simpa using t3)];rfl
 have EF:p.v.length=2:=by
  have:p.v.Perm [(g.at e).1,(g.at e).2]:=(Qc hk.vn (by simpa using hq)).2 fun u=>by rw[hv];simp
  exact this.length_eq
 refine⟨gJ,uE,⟨fun c hc=>?_,?_⟩,?_,fun f hf=>?_,VD,?_,Vs⟩
 ·rw[Qa.1 hc]
  refine⟨?_,?_⟩
  ·unfold ay before
   rw[w1,t3,iX cH.1 cH.2,hdz];exact Ay _
  show ay g (eZ g p) (2*e+1)=2*e;unfold ay before;rw[w2,t1,iX fz.1 fz.2,ZD];exact Ay _
 ·show [2*e,2*e+1].Nodup
  simp;omega
 ·rw[hd];exact Qr.refl _
 ·rw[Qa.1 hf]
  simp[t1,t3,hq]
 rw[EF,he];rfl
theorem GX {g:Gr} {b:Pt} {e0:Int} {w:List Int} (lM:b.err g=0) (h0:e0∈b.e) (hl:(g.at e0).1≠(g.at e0).2)
  (hL:eR g (g.at e0).2 w (g.at e0).1) (hN:((2*e0 :: w).map g.tail).Nodup) (hD:∀ d∈w,d∈(fB b e0).ag) :
  ∃ p aa,cL g p aa [2*e0 :: w,twins (2*e0 :: w)]/\(∀ v,v∈p.v↔v∈(2*e0 :: w).map g.tail)/\(∀ v∈p.v,v∈b.v)/\∀ e,e∈p.e↔e∈b.e/\e∈(2*e0 :: w).map (· / 2):=by
 have iM:=Pt.aF lM;obtain⟨g1,g2,g3,-⟩:=Pt.aP lM;have mV:=iM.ends e0 h0;obtain⟨t1,t2⟩:=dV g e0;obtain⟨t3,t4⟩:=zG g e0;obtain⟨x,hx⟩:∃ x,(g.at e0).1=x:=⟨_,rfl⟩;obtain⟨z,hz⟩:∃ z,(g.at e0).2=z:=⟨_,rfl⟩;obtain⟨p,TR⟩:∃ p:Pt,p=⟨b.v.filter fun v=>decide (v=x) || decide (v=z),b.e.filter fun e=>decide (e=e0)⟩:=⟨_,rfl⟩;have vF:∀ v,v∈p.v↔v=x\/v=z:=fun v=>by
  rw[TR,Qb,Qq,decide_eq_true_iff,decide_eq_true_iff];refine⟨fun k=>k.2,fun k=>⟨?_,k⟩⟩;rcases k with r | r
  ·rw[r,<-hx];exact mV.1
  rw[r,<-hz];exact mV.2
 have gJ:p.e=[e0]:=by
  refine Qv.1 ((Qc (by rw[TR];exact iM.en.filter _) (by simp)).2 fun u=>?_);rw[TR,Qb,decide_eq_true_iff,Qa];exact⟨fun k=>k.2,fun k=>⟨by rw[k];exact h0,k⟩⟩
 have VW:p.err g=0:=by
  refine Pt.sJ g1 (by rw[TR];exact dH g2 _) (by rw[TR];exact dH g3 _) fun e he=>?_;rw[gJ,Qa] at he;subst he;show (g.at e).1∈p.v/\(g.at e).2∈p.v;rw[hx,hz];exact⟨(vF _).2 (Ql rfl),(vF _).2 (Qm rfl)⟩
 have hF:=xi VW gJ (fun v=>by rw[hx,hz];exact vF v);rw[if_neg hl] at hF;rw[hx,hz] at hL hl;rw[hx] at t1 t4;rw[hz] at t2 t3;rw[Qe,Qp,t1] at hN;obtain⟨hNx,hNw⟩:=hN;obtain⟨c,l,rfl⟩:∃ c l,w=c :: l:=by
  cases w with
  | nil=>exact absurd hL.symm hl
  | cons c l=>exact⟨c,l,rfl⟩
 have hct:g.tail c=z:=hL.1;have hh:=dJ hL;have hNl:(l.map g.tail).Nodup/\z ∉ l.map g.tail:=by
  rw[Qe,Qp,hct] at hNw;exact⟨hNw.2,hNw.1⟩
 have xp:x ∉ l.map g.tail:=fun k=>hNx (by rw[Qe];exact Qg _ k);have Di:pT g p (c :: l) z x:=by
  refine⟨hL,fun r=>hl r.symm,(vF _).2 (Qm rfl),(vF _).2 (Ql rfl),fun d hd=>?_,hNw,qH hL ?_ ?_,fun d hd=>?_⟩
  ·rw[vF]
   have Cf:g.tail d∈l.map g.tail:=Qd.2 ⟨d,hd,rfl⟩;rintro (r | r)
   ·rw[r] at Cf;exact xp Cf
   rw[r] at Cf;exact hNl.2 Cf
  ·rw[hh,Qy]
   exact⟨hNl.1,by simp,fun u hu v hv e=>xp (by rw[<-Qa.1 hv,<-e];exact hu)⟩
  ·rw[hh,Qu,Qa]
   rintro (r | r)
   ·exact hNl.2 r
   exact hl r.symm
  rw[gJ,Qa];have:=(Qb.1 (aw.1 (hD d hd))).2;rw[bne_iff_ne] at this;exact this
 have hDb:∀ d∈c :: l,d∈b.ag:=fun d hd=>aw.2 (Qb.1 (aw.1 (hD d hd))).1;obtain⟨q,Hl⟩:∃ q:Pt,q=⟨b.v.filter fun v=>decide (v∈p.v) || decide (v∈(c :: l).map g.tail),b.e.filter fun e=>decide (e∈p.e) || decide (e∈(c :: l).map (· / 2))⟩:=⟨_,rfl⟩;have FG:∀ v,v∈q.v↔v∈p.v\/v∈(c :: l).map g.tail:=fun v=>by
  rw[Hl,Qb,Qq,decide_eq_true_iff,decide_eq_true_iff];refine⟨fun k=>k.2,fun k=>⟨?_,k⟩⟩;rcases k with r | r
  ·rw[TR] at r;exact (Qb.1 r).1
  obtain⟨d,hd,rfl⟩:=Qd.1 r;exact (iM.aQ (hDb d hd)).1
 have IW:∀ e,e∈q.e↔e∈p.e\/e∈(c :: l).map (· / 2):=fun e=>by
  rw[Hl,Qb,Qq,decide_eq_true_iff,decide_eq_true_iff];refine⟨fun k=>k.2,fun k=>⟨?_,k⟩⟩;rcases k with r | r
  ·rw[gJ,Qa] at r;rw[r];exact h0
  obtain⟨d,hd,rfl⟩:=Qd.1 r;exact aw.1 (hDb d hd)
 have OD:∀ d∈c :: l,g.tail d∈q.v/\g.head d∈q.v:=fun d hd=>by
  refine⟨(FG _).2 (Qm (Qd.2 ⟨d,hd,rfl⟩)),(FG _).2 ?_⟩;have h3:g.head d∈(c :: l).map g.head:=Qd.2 ⟨d,hd,rfl⟩;rw[hh] at h3;rcases Qu.1 h3 with k | k
  ·exact Qm (by rw[Qe];exact Qg _ k)
  exact Ql (by rw[Qa.1 k];exact Di.zv)
 have ig:=Pt.aF VW;have J2:q.err g=0:=by
  refine Pt.sJ g1 (by rw[Hl];exact dH g2 _) (by rw[Hl];exact dH g3 _) fun e he=>?_;show (g.at e).1∈q.v/\(g.at e).2∈q.v;rcases (IW e).1 he with k | k
  ·exact⟨(FG _).2 (Ql (ig.ends e k).1),(FG _).2 (Ql (ig.ends e k).2)⟩
  obtain⟨d,hd,rfl⟩:=Qd.1 k;obtain⟨k1,k2⟩:=OD d hd;rcases iC g d with ⟨j1,j2⟩ | ⟨j1,j2⟩
  ·rw[<-j1,<-j2];exact⟨k1,k2⟩
  rw[<-j1,<-j2];exact⟨k2,k1⟩
 have De:Hi g p (c :: l) q:=⟨J2,FG,IW⟩;have z':cL g p (eZ g p) (((2*e0+1) :: []++(2*e0) :: []) :: []):=cL.wA (A:=[2*e0]) (B:=[2*e0+1]) hF;have Vn:2*e0+1∈p.ag/\2*e0∈p.ag:=by unfold Pt.ag;rw[gJ];simp
 obtain⟨r1,r2⟩:=tS z' Di De Vn.1 t3 Vn.2 t1;have SP:=z'.put Di De r1 r2 (Qr.refl _) (Qr.refl _) t3 t1;refine⟨q,fR g p q (eZ g p) (c :: l) z x (2*e0+1) (2*e0),?_,fun v=>?_,fun v hv=>?_,fun e=>?_⟩
 ·have hF3:=cL.wA (A:=[2*e0+1]) (B:=twins (c :: l)) SP
  have hF4:=cL.wA (A:=c :: l) (B:=[2*e0]) (hF3.perm (Qr.swap _ _ _));have e1:twins (2*e0 :: c :: l)=twins (c :: l)++[2*e0+1]:=by
   unfold twins;rw[Qe,List.reverse_cons,(Av e0).1]
  rw[e1];exact hF4
 ·have e1:(2*e0 :: c :: l).map g.tail=x :: (c :: l).map g.tail:=by rw[Qe,t1]
  rw[FG,vF,e1,Qf];constructor
  ·rintro ((r | r) | r)
   ·exact Ql r
   ·exact Qm (by rw[r,<-hct];simp)
   exact Qm r
  rintro (r | r)
  ·exact Ql (Ql r)
  exact Qm r
 ·rw[Hl] at hv;exact (Qb.1 hv).1
 rw[Hl,Qb,Qq,decide_eq_true_iff,decide_eq_true_iff,gJ,Qa];refine and_congr Iff.rfl ?_;have e1:(2*e0 :: c :: l).map (· / 2)=e0 :: (c :: l).map (· / 2):=by
  rw[Qe]
  congr 1
  omega
 rw[e1,Qf]
theorem CF {g:Gr} {b p:Pt} {on:Int->Bool} {w:List Int} {F:List (List Int)} (hb:aH g b) (hS:cg g b) (ig:aH g p) (gJ:p.e≠[]) (jW:∀ v,on v=true↔v∈p.v) (gB:∀ v∈p.v,v∈b.v) (XU:∀ e∈p.e,e∈b.e)
  (hw:∀ d∈w,on (g.tail d)=true/\on (g.head d)=true) (hEp:∀ e∈aY b.e w,e ∉ p.e) (hF:F.length=2) {c:bj} (hm:c∈cr g on F (aY b.e w) [0,1]):wj g b on F c:=by
 obtain⟨l,hl,rfl⟩:=Qd.1 hm;have hsc:=gu g on (aY b.e w);have YG:(aY b.e w).Nodup:=hb.en.filter _;have cU:(gG g on (aY b.e w)).1.all=aY b.e w:=by rw[hsc.all,jt YG]
 obtain⟨g1,g2,g3⟩:=kB hsc.ok hl;rw[cU] at g2;have lE:∀ e∈l,e∈b.e:=fun e he=>(cE.1 (g2 e he)).1;have tR:∀ e∈l,∀ f∈b.e,Lk g on e f->f∈l:=fun e he f' uU oW=>by
  obtain⟨v,hv,h1,h2⟩:=oW;have Vg:f'∈aY b.e w:=cE.2 ⟨uU,fun d hd r=>by
   rw[<-r] at h2;obtain⟨k1,k2⟩:=hw d hd;rcases fM h2 with q | q
   ·rw[q,k1] at hv;cases hv
   rw[q,k2] at hv;cases hv⟩
  exact (g3 e he f').2 (ja (g2 e he) Vg ⟨v,hv,h1,h2⟩)
 refine⟨fun Q hQ hh e he f' uU=>?_,tR,lE,rfl,AX hS ig gJ jW gB XU g1 lE (fun e he=>hEp e (g2 e he)) tR,?_,fun i=>?_⟩
 ·have:=ur (g:=g) (on:=on) (E:=aY b.e w) (Q:=fun x y=>(x∈l/\y∈l/\Q x y)\/(x ∉ l/\y ∉ l)) ⟨fun x=>by
    by_cases q:x∈l
    ·exact Ql ⟨q,q,hQ.refl x⟩
    ·exact Qm ⟨q,q⟩,fun {x y} q=>by
    rcases q with ⟨q1,q2,q3⟩ | ⟨q1,q2⟩
    ·exact Ql ⟨q2,q1,hQ.symm q3⟩
    ·exact Qm ⟨q2,q1⟩,fun {x y z} q r=>by
    rcases q with ⟨q1,q2,q3⟩ | ⟨q1,q2⟩ <;> rcases r with ⟨r1,r2,r3⟩ | ⟨r1,r2⟩
    ·exact Ql ⟨q1,r2,hQ.trans q3 r3⟩
    ·exact absurd q2 r1
    ·exact absurd r1 q2
    ·exact Qm ⟨q1,r2⟩⟩ (fun x hx y hy oW=>by
    by_cases q:x∈l
    ·have J5:=(g3 x q y).2 (ja hx hy oW)
     exact Ql ⟨q,J5,hh x q y J5 oW⟩
    refine Qm ⟨q,fun r=>q ((g3 y r x).2 (ja hy hx ?_))⟩;obtain⟨v,hv,h1,h2⟩:=oW;exact⟨v,hv,h2,h1⟩) ((g3 e he f').1 uU)
  rcases this with r | r
  ·exact r.2.2
  exact absurd he r.1
 ·show (ic g F (br g on l) [0,1]).Nodup
  unfold ic;exact (show [(0:Int),1].Nodup by simp).filter _
 show i∈ic g F (br g on l) [0,1]↔_;rw[sa];constructor
 ·rintro ⟨h1,h2⟩
  rcases Qf.1 h1 with r | r
  ·exact⟨by omega,by omega,h2⟩
  have:=Qa.1 r;exact⟨by omega,by omega,h2⟩
 rintro ⟨h1,h2,h3⟩;refine⟨?_,h3⟩;rw[Qf,Qa];omega
theorem EL {g:Gr} {b:Pt} (lM:b.err g=0) (hS:cg g b) (h2:2<=b.e.length)
  (Ef:qJ g b):∃ p aa,rD g b (fJ g b) p aa/\(fJ g b).left+2<=b.e.length:=by
 have iM:=Pt.aF lM;obtain⟨e0,e1,l,hl⟩:∃ e0 e1 l,b.e=e0 :: e1 :: l:=by
  match hb:b.e with
  | []=>rw[hb] at h2;simp at h2
  | [_]=>rw[hb] at h2;simp at h2
  | e0 :: e1 :: l=>exact⟨e0,e1,l,rfl⟩
 have Pb:b.e.getD 0 0=e0:=by rw[hl];rfl
 obtain⟨k1,k2,k3⟩:=JV lM (by omega) Ef.1 Ef.2 (by rw[Pb];exact Ah iM hS hl);have Zs:eY g b=2*e0 :: (iR g (fB b e0) (g.at e0).2 (g.at e0).1).getD []:=by unfold eY;rw[Pb]
 have h0:e0∈b.e:=by rw[hl];simp
 obtain⟨t1,t2⟩:=dV g e0;rw[Pb,Zs] at k1 k3;rw[Zs] at k2;unfold fJ;rw[Zs];generalize (iR g (fB b e0) (g.at e0).2 (g.at e0).1).getD []=w at *;obtain⟨p,aa,f1,f2,f3,f4⟩:=GX lM h0 (mP iM hS hl e0 h0) (by have:=k1.2;rw[t2] at this;exact this) k2 k3;have ig:=Pt.aF f1.pe;have jW:∀ v,dt g (2*e0 :: w) v=true↔v∈p.v:=fun v=>by
  rw[cX,f2,Qd]
 have gJ:p.e≠[]:=List.ne_nil_of_mem ((f4 e0).2 ⟨h0,by rw[Qe,show 2*e0 / 2=e0 by omega];simp⟩);have LZ:∀ e∈aY b.e (2*e0 :: w),e ∉ p.e:=fun e he hp=>by
  obtain⟨d,hd,r⟩:=Qd.1 ((f4 e).1 hp).2;exact (cE.1 he).2 d hd r
 have Yn:=mN (g:=g) (on:=dt g (2*e0 :: w)) (F:=[2*e0 :: w,twins (2*e0 :: w)]) (ks:=[0,1]) (E:=aY b.e (2*e0 :: w)) (iM.en.filter _);have Jl:∀ d∈2*e0 :: w,d∈p.ag:=fun d hd=>f1.all.mem_iff.1 (by rw[Qz];exact List.mem_append_left _ hd);have iQ:(p.e++(cr g (dt g (2*e0 :: w)) [2*e0 :: w,twins (2*e0 :: w)] (aY b.e (2*e0 :: w)) [0,1]).flatMap (·.ah)).Perm b.e:=by
  refine (Yn.append_left p.e).trans ((Qc ?_ iM.en).2 fun e=>?_)
  ·rw[Qy]
   exact⟨ig.en,iM.en.filter _,fun u hu v hv r=>LZ v hv (r ▸ hu)⟩
  rw[Qu,cE,f4];constructor
  ·rintro (r | r)
   ·exact r.1
   exact r.1
  intro r;by_cases q:e∈(2*e0 :: w).map (· / 2)
  ·exact Ql ⟨r,q⟩
  exact Qm ⟨r,fun d hd s=>q (Qd.2 ⟨d,hd,s⟩)⟩
 refine⟨p,aa,⟨f1,jW,f3,gJ,iQ,fun c hc=>?_⟩,?_⟩
 ·exact CF iM hS ig gJ jW f3 (fun e he=>((f4 e).1 he).1) (fun d hd=>⟨(jW _).2 (ig.aQ (Jl d hd)).1,(jW _).2 (ig.aQ (Jl d hd)).2⟩) LZ rfl hc
 have h0p:e0∈p.e:=(f4 e0).2 ⟨h0,by rw[Qe,show 2*e0 / 2=e0 by omega];simp⟩;have dm:=ig.ends e0 h0p;have LI:=mP iM hS hl e0 h0;have WT:2<=p.v.length:=by
  have:[(g.at e0).1,(g.at e0).2].length<=p.v.length:=bQ (by simpa using LI) fun x hx=>by
   rcases Qf.1 hx with r | r
   ·rw[r];exact dm.1
   rw[Qa.1 r];exact dm.2
  simpa using this
 have YS:=f1.pZ;have pO:=iQ.length_eq;rw[Qw] at pO;simp only[Qo,List.length_nil] at YS;unfold Sk.left;show ((cr g (dt g (2*e0 :: w)) [2*e0 :: w,twins (2*e0 :: w)] (aY b.e (2*e0 :: w)) [0,1]).flatMap (·.ah)).length+2<=b.e.length;omega
def nj (g:Gr) (V:List Int):Nat->Sk->Option Sk
 | 0,s=>some s
 | n+1,s=>if s.rest.isEmpty then some s else match choose s.rest with
  | none=>none
  | some i=>nj g V n (s.put g V i)
theorem Aq {g:Gr} {V:List Int} {n:Nat} {s:Sk} (h:s.rest=[]):nj g V n s=some s:=by
 cases n with
 | zero=>rfl
 | succ n=>show (if s.rest.isEmpty then _ else _)=_;rw[h];rfl
theorem Iu {g:Gr} {V:List Int} {n:Nat} {s:Sk} (h:s.rest≠[]) (hc:choose s.rest=none):nj g V (n+1) s=none:=by
 show (if s.rest.isEmpty then _ else _)=_;rw[if_neg (by simpa using h),hc]
theorem xd {g:Gr} {V:List Int} {n i:Nat} {s:Sk} (h:s.rest≠[]) (hc:choose s.rest=some i):nj g V (n+1) s=nj g V n (s.put g V i):=by
 show (if s.rest.isEmpty then _ else _)=_;rw[if_neg (by simpa using h),hc]
theorem OC {g:Gr} {b p:Pt} {s:Sk} {aa:List (List Int)} (h:rD g b s p aa) (hr:s.rest≠[]):0<s.left:=by
 obtain⟨c,hc⟩:=List.exists_mem_of_ne_nil _ hr;have hk:=h.lV c hc;have h2:=hk.two;obtain⟨v,hv⟩:=List.exists_mem_of_length_pos (l:=c.ends) (by omega);rw[hk.ends] at hv;obtain⟨-,e,he,-⟩:=bs.1 hv;unfold Sk.left;exact List.length_pos_of_mem (List.mem_flatMap.2 ⟨c,hc,he⟩)
theorem ET {g:Gr} {b p:Pt} {s:Sk} {aa:List (List Int)} (lM:b.err g=0) (hS:cg g b) (h:rD g b s p aa) (hr:s.rest=[]):cL g b aa s.aj:=by
 have iM:=Pt.aF lM;have iQ:=h.part;rw[hr,List.flatMap_nil,List.append_nil] at iQ;obtain⟨-,b2,b3,-⟩:=Pt.aP lM;obtain⟨-,p2,p3,-⟩:=Pt.aP h.aj.pe;have he:p.e=b.e:=nE (bY p3) (bY b3) fun x=>iQ.mem_iff;have hd:p.ag=b.ag:=by unfold Pt.ag;rw[he]
 have hv:p.v=b.v:=nE (bY p2) (bY b2) fun x=>⟨h.sub x,fun hx=>by
  obtain⟨d,h1,h2⟩:=hS.2 x hx;rw[<-hd] at h1;rw[<-h2];exact ((Pt.aF h.aj.pe).aQ h1).1⟩
 have pa:p=b:=by
  cases p;cases b;simp only at he hv;rw[he,hv]
 rw[<-pa];exact h.aj
def oC (f:List Int):Nat->List Int->List Int
 | 0,L=>L
 | i+1,L=>(oC f i L).set (f.getD ((i+1) % f.length) 0).toNat (aE (f.getD i 0))
def mC (F:List (List Int)):Nat->List Int->List Int
 | 0,L=>L
 | k+1,L=>oC (F.getD k []) (F.getD k []).length (mC F k L)
def SD (W:List (Int × Int)) (L:List Int):List Int:=W.foldl (fun L p=>L.set p.1.toNat p.2) L
theorem JP:∀ {W:List (Int × Int)} {L:List Int} {n:Nat},(∀ p∈W,p.1.toNat≠n)->(SD W L).getD n 0=L.getD n 0
 | [],_,_,_=>rfl
 | p :: W,L,n,h=>by
  show (SD W (L.set p.1.toNat p.2)).getD n 0=_;rw[JP fun q hq=>h q (Qg _ hq)];simp[Qh,List.getElem?_set_ne (h p (by simp))]
theorem JD:∀ {W:List (Int × Int)} {L:List Int} {x y:Int},(W.map (·.1)).Nodup->(∀ p∈W,0<=p.1)->(x,y)∈W->x.toNat<L.length->(SD W L).getD x.toNat 0=y
 | [],_,_,_,_,_,h,_=>by cases h
 | p :: W,L,x,y,hn,h0,hm,hl=>by
  rw[Qe,Qp] at hn;show (SD W (L.set p.1.toNat p.2)).getD x.toNat 0=_;rcases Qf.1 hm with r | r
  ·subst r
   rw[JP fun q hq e=>hn.1 (Qd.2 ⟨q,hq,by
    have h1:=h0 q (Qg _ hq);have h2:=h0 _ (List.mem_cons_self (a:=(x,y)) (l:=W));simp only at h2 e;omega⟩)]
   simp[Qh,hl]
  exact JD hn.2 (fun q hq=>h0 q (Qg _ hq)) r (by rwa[List.length_set])
theorem xv (V W:List (Int × Int)) (L:List Int):SD (V++W) L=SD W (SD V L):=by unfold SD;rw[List.foldl_append]
theorem Pk {p:Int->Int} {f:List Int} (h:Ring p f) {i:Nat} (hi:i<f.length):f.getD ((i+1) % f.length) 0=p (f.getD i 0):=by
 cases f with
 | nil=>simp at hi
 | cons x l =>
  have hm:=Trail.map (show Trail p x l x from h);have h1:p ((x :: l).getD i 0)=((x :: l).map p).getD i 0:=by
   simp only[Qh,Qx,Qi hi,Qt,Qn]
  rw[h1,hm];rw[Qo] at hi;by_cases e:i=l.length
  ·subst e
   rw[Qo,QE];simp[Qh]
  rw[Qo,Qj (by omega)];simp[Qh,List.getElem?_append_left (show i<l.length by omega)]
theorem AL {p:Int->Int} {f:List Int} (h:Ring p f) (L:List Int):∀ i,i<=f.length->oC f i L=SD ((f.take i).map fun d=>(p d,aE d)) L
 | 0,_=>rfl
 | i+1,hi=>by
  rw[oC,AL h L i (by omega),Pk h (by omega)];have e:f.take (i+1)=f.take i++[f.getD i 0]:=by
   rw[QA];simp[Qh,show i<f.length by omega]
  rw[e,QD,xv];rfl
theorem xB {p:Int->Int} {F:List (List Int)} (h:∀ f∈F,Ring p f) (L:List Int):∀ k,k<=F.length->mC F k L=SD ((F.take k).flatten.map fun d=>(p d,aE d)) L
 | 0,_=>rfl
 | k+1,hk=>by
  have hm:F.getD k []∈F:=by simp[Qh,show k<F.length by omega]
  rw[mC,xB h L k (by omega),AL (h _ hm) _ _ (QF _),QC];have e:F.take (k+1)=F.take k++[F.getD k []]:=by
   rw[QA];simp[Qh,show k<F.length by omega]
  rw[e,List.flatten_append,QD,xv];simp
def wW (m:Nat) (F:List (List Int)):List Int:=mC F F.length (List.replicate m 0)
theorem Ks {g:Gr} {b:Pt} {aa F:List (List Int)} {m:Nat} (h:cL g b aa F) (hm:∀ d∈b.ag,0<=d/\d.toNat<m) {d:Int} (hd:d∈b.ag):(wW m F).getD (ay g aa d).toNat 0=aE d:=by
 have dM:∀ x,x∈F.flatten↔x∈b.ag:=fun x=>h.all.mem_iff;have WR:∀ x∈F.flatten,ay g aa x∈b.ag:=fun x hx=>(dM _).1 (h.rings.next hx);unfold wW;rw[xB h.rings.ring _ _ (QF _),QC];refine JD ?_ (fun p hp=>?_) (Qd.2 ⟨d,(dM d).2 hd,rfl⟩) ?_
 ·rw[List.map_map]
  show (F.flatten.map (ay g aa)).Nodup;exact List.pairwise_map.2 (h.rings.nodup.imp_of_mem fun {x y} hx hy bh e=>bh (h.rings.inj x hx y hy e))
 ·obtain⟨x,hx,rfl⟩:=Qd.1 hp
  exact (hm _ (WR x hx)).1
 rw[List.length_replicate];exact (hm _ (WR d ((dM d).2 hd))).2
theorem Lb {g:Gr} {b:Pt} {aa F:List (List Int)} {m:Nat} (h:cL g b aa F) (hm:∀ d∈b.ag,0<=d/\d.toNat<m) {v:Int} (hv:0<=v/\v<g.n) {k:Nat} (hk:k<(first (aI aa v)).length) :
  (wW m F).getD ((first (aI aa v)).getD k 0).toNat 0=(first (aI aa v)).getD ((k+1) % (first (aI aa v)).length) 0:=by
 have iM:=Pt.aF h.pe;have yV:=h.js.nodup v;obtain⟨R,hR⟩:∃ R,first (aI aa v)=R:=⟨_,rfl⟩;have hRn:R.Nodup:=by rw[<-hR];exact (fO _).nodup_iff.2 yV
 have hRm:∀ x,x∈R↔x∈aI aa v:=fun x=>by rw[<-hR];exact (fO _).mem_iff
 have hah:∀ x∈R,ahead R x=ahead (aI aa v) x:=fun x hx=>by rw[<-hR];exact Dz yV x ((hRm x).1 hx)
 rw[hR] at hk ⊢;have aU:(k+1) % R.length<R.length:=Nat.mod_lt _ (by omega);have yQ:R.getD ((k+1) % R.length) 0∈R:=aZ aU;obtain⟨Vn,Xs⟩:=(h.js.mem v hv.1 hv.2 _).1 ((hRm _).1 yQ);have h1:=Ks h hm (bu Vn);rw[aS] at h1;have h2:ay g aa (aE (R.getD ((k+1) % R.length) 0))=R.getD k 0:=by
  unfold ay before;rw[aS,Xs,<-hah _ yQ];unfold ahead;rw[gT hRn aU]
  congr 1
  by_cases e:k+1=R.length
  ·rw[e,QE,Nat.zero_add,Qj (by omega)]
   omega
  rw[Qj (show k+1<R.length by omega),show k+1+R.length - 1=k+R.length by omega,QB,Qj hk]
 rw[h2] at h1;exact h1
theorem Eo {g:Gr} {b:Pt} {aa:List (List Int)} (ht:aT g b aa) (_hb:aH g b) (hr:b.e.Pairwise (·<·)) {v:Int} (hv:0<=v/\v<g.n) {j:Nat} (hj:j<b.ag.length) (yO:g.tail (b.ag.getD j 0)=v) (h0:bX g b v j=[]) :
  ∃ l,first (aI aa v)=b.ag.getD j 0 :: l:=by
 have hd:b.ag.getD j 0∈aI aa v:=(ht.mem v hv.1 hv.2 _).2 ⟨aZ hj,yO⟩;obtain⟨x,m,h1,h2⟩:=x4 (l:=aI aa v) fun e=>by rw[e] at hd;cases hd
 refine⟨m,?_⟩;rw[h1];have h3:=h2 _ hd;have hx:x∈aI aa v:=by
  have:x∈first (aI aa v):=by rw[h1];simp
  exact (fO _).mem_iff.1 this
 obtain⟨Vn,Xs⟩:=(ht.mem v hv.1 hv.2 _).1 hx;obtain⟨i,hi,hxi⟩:=bO Vn;have lp:j<=i:=by
  refine Nat.le_of_not_lt fun q=>?_;have:x∈bX g b v j:=by
   unfold bX;rw[Qb];refine⟨?_,decide_eq_true Xs⟩;rw[<-hxi];simp only[Qh,Qi hi,Qn];rw[List.mem_iff_getElem];exact⟨i,by rw[List.length_take];omega,by rw[List.getElem_take]⟩
  rw[h0] at this;cases this
 have hle:b.ag.getD j 0<=x:=by
  rw[<-hxi];by_cases e:j=i
  ·rw[e];exact Int.le_refl _
  have hp:=kL hr;have:=(List.pairwise_iff_getElem.1 hp) j i hj hi (by omega);simp only[Qh,Qi hi,Qi hj,Qn];omega
 rw[show x=b.ag.getD j 0 by omega]
def gK:Gr:=⟨5,[(0,1),(0,2),(0,3),(0,4),(1,2),(1,3),(1,4),(2,3),(2,4),(3,4)]⟩
def pK:Pt:=⟨[0,1,2,3,4],[0,1,2,3,4,5,6,7,8,9]⟩
def gW:Gr:=⟨2,[(0,1),(0,1)]⟩
def pW:Pt:=⟨[0,1],[0,1]⟩
def tW:List (List Int):=[[0,2],[1,3]]
theorem Ye:pK.err gK=0:=by decide
theorem aeK:pW.err gW=0:=by decide
theorem xF:∀ {F:List (List Int)},(∀ f∈F,3<=f.length)->3*F.length<=F.flatten.length
 | [],_=>by simp
 | f :: F,h=>by
  have ih:=xF (F:=F) fun x hx=>h x (Qg _ hx);have:=h f (by simp);rw[Qz,Qw,Qo];omega
theorem GN {l:List Int} {x:Int} (hn:l.Nodup) (hx:x∈l) (h:ahead l x=x):l.length<=1:=by
 have h1:l.idxOf x<l.length:=List.idxOf_lt_length_iff.2 hx;have h2:l[l.idxOf x]=x:=List.getElem_idxOf h1;unfold ahead at h;have h3:(l.idxOf x+l.length - 1) % l.length<l.length:=Nat.mod_lt _ (by omega);rw[show l.getD ((l.idxOf x+l.length - 1) % l.length) 0=l[(l.idxOf x+l.length - 1) % l.length] by simp[Qh,h3]] at h;have h4:=(List.getElem_inj hn).1 (h.trans h2.symm);rcases Nat.eq_zero_or_pos (l.idxOf x) with r | r
 ·rw[r] at h4
  rw[Qj (by omega)] at h4;omega
 rw[show l.idxOf x+l.length - 1=(l.idxOf x - 1)+l.length by omega,QB,Qj (by omega)] at h4;omega
theorem qD {g:Gr} {p:Pt} {aa:List (List Int)} (hp:aH g p) (ht:aT g p aa) {d:Int} (hd:d∈p.ag):g.tail (ay g aa d)=g.head d/\aE d∈aI aa (g.head d):=by
 have h1:=hp.aQ hd;have h2:=hp.vr _ h1.2;have hm:aE d∈aI aa (g.head d):=(ht.mem _ h2.1 h2.2 _).2 ⟨bu hd,aA g d⟩;refine⟨?_,hm⟩;unfold ay before;rw[aA];exact ((ht.mem _ h2.1 h2.2 _).1 (po (ht.nodup _) hm)).2
theorem OK {aa F:List (List Int)}:¬ cL gK pK aa F:=by
 intro h;have ig:=Pt.aF Ye;have hlen:F.flatten.length=20:=h.all.length_eq.trans (by decide);have hF:=h.pZ;have hv:pK.v.length=5:=rfl;have he:pK.e.length=10:=rfl;have h3:∀ f∈F,3<=f.length:=fun f hf=>by
  have hr:=h.rings.ring f hf;have hm:∀ d∈f,d∈pK.ag:=fun d hd=>h.all.mem_iff.1 (List.mem_flatten.2 ⟨f,hf,hd⟩)
  match f,hr,hm with
  | [d],hr,hm =>
   have hd:=hm d (by simp);have h1:=(qD ig h.js hd).1;have hr':ay gK aa d=d:=hr;rw[hr'] at h1;exact absurd h1 ((show ∀ d∈pK.ag,gK.tail d≠gK.head d by decide) d hd)
  | [d,e],hr,hm =>
   have hd:=hm d (by simp);have he:=hm e (by simp);obtain⟨r1,r2⟩:ay gK aa d=e/\ay gK aa e=d:=hr;have h1:=qD ig h.js hd;have h2:=(qD ig h.js he).1;rw[r1] at h1;rw[r2] at h2;have h4:=(show ∀ d∈pK.ag,∀ e∈pK.ag,gK.tail e=gK.head d->gK.tail d=gK.head e->e=aE d by decide) d hd e he h1.1 h2;have h5:ahead (aI aa (gK.head d)) (aE d)=aE d:=by
    have h6:ay gK aa d=aE d:=r1.trans h4;unfold ay before at h6;rwa[aA] at h6
   have h7:=GN (h.js.nodup _) h1.2 h5;have Sr:=ig.vr _ (ig.aQ hd).2;have h8:(aI aa (gK.head d)).Perm (a8 gK pK (gK.head d)):=(Qc (h.js.nodup _) (jr ig.en _)).2 fun x=>by
    rw[h.js.mem _ Sr.1 Sr.2,bk]
   have h9:=(show ∀ d∈pK.ag,(a8 gK pK (gK.head d)).length=4 by decide) d hd;have:=h8.length_eq;omega
  | _ :: _ :: _ :: l,_,_=>simp
 have:=xF h3;omega
theorem IU {l:List Int} {a b:Int} (lT:a<b) (hn:l.Nodup) (hm:∀ d,d∈l↔d=a\/d=b):first l=[a,b]:=by
 have hp:l.Perm [a,b]:=(Qc hn (by simp;omega)).2 fun d=>by rw[hm];simp
 have hf:(first l).Perm [a,b]:=(fO l).trans hp;have hl:=hf.length_eq;have bh:l≠[]:=fun e=>by rw[e] at hp;have:=hp.length_eq;simp at this
 obtain⟨x,m,h1,h2⟩:=x4 bh;rw[h1] at hf hl;have ha:=h2 a ((hm a).2 (Ql rfl));have hx:x=a:=by
  have:=hf.mem_iff.1 (show x∈x :: m by simp);rcases Qf.1 this with r | r
  ·exact r
  have:=Qa.1 r;omega
 rw[hx] at hf h1;rw[h1,(Qv.1 (Qr.cons_inv hf))]
theorem LQ {aa:List (List Int)} (h:aT gW pW aa):aa.map first=tW:=by
 have hl:=h.len;have h0:=IU (a:=0) (b:=2) (by decide) (h.nodup 0) (fun d=>by
  rw[h.mem 0 (by decide) (by decide)];constructor
  ·rintro ⟨h1,h2⟩
   exact (show ∀ d∈pW.ag,gW.tail d=0->d=0\/d=2 by decide) d h1 h2
  rintro (r | r) <;> rw[r] <;> exact⟨by decide,by decide⟩)
 have h1:=IU (a:=1) (b:=3) (by decide) (h.nodup 1) (fun d=>by
  rw[h.mem 1 (by decide) (by decide)];constructor
  ·rintro ⟨h1,h2⟩
   exact (show ∀ d∈pW.ag,gW.tail d=1->d=1\/d=3 by decide) d h1 h2
  rintro (r | r) <;> rw[r] <;> exact⟨by decide,by decide⟩)
 match aa,hl,h0,h1 with
 | [x,y],_,h0,h1 =>
  have h0:first x=[0,2]:=h0;have h1:first y=[1,3]:=h1;show [first x,first y]=tW;rw[h0,h1];rfl
 | [],hl,_,_=>cases hl
 | [_],hl,_,_=>cases hl
 | _ :: _ :: _ :: l,hl,_,_=>simp[gW] at hl;omega
theorem xT {g:Gr} {p:Pt} {e0:Int} {l:List Int} (_hp:aH g p) (he:p.e=e0 :: l) (h1:∀ e∈p.e,¬ (g.at e).1=(g.at e).2) (h2:∀ e∈p.e,∀ v∈p.v,off g v e0=off g v e\/qF g p (off g v e0) (off g v e)) (h3:∀ v∈p.v,∃ d∈p.ag,g.tail d=v):cg g p:=by
 refine⟨⟨e0,l,he,fun e ry v hv=>?_⟩,h3⟩;rintro ⟨bh,q | q | q⟩
 ·exact h1 e0 (by rw[he];simp) (q.1.trans q.2.symm)
 ·exact h1 e ry (q.1.trans q.2.symm)
 refine q ?_;rcases h2 e ry v hv with r | r
 ·rw[r];exact .here
 exact .step .here r (mA fun s=>h1 e ry (s.1.trans s.2.symm))
theorem YH:cg gK pK:=xT (Pt.aF Ye) rfl (by decide) (show ∀ e∈pK.e,∀ v∈pK.v,off gK v 0=off gK v e\/∃ x∈pK.e,(gK.at x=(off gK v 0,off gK v e)\/gK.at x=(off gK v e,off gK v 0)) by decide) (by decide)
theorem Yd:cg gW pW:=xT (Pt.aF aeK) rfl (by decide) (show ∀ e∈pW.e,∀ v∈pW.v,off gW v 0=off gW v e\/∃ x∈pW.e,(gW.at x=(off gW v 0,off gW v e)\/gW.at x=(off gW v e,off gW v 0)) by decide) (by decide)
end Go.Proofs.YtbkjljffnkdcjaaGreat.Plain
