/- A part gone through depth first: back from a iD. No program here. -/
import Derived.Test.YtbkjljffnkdcjaaGreatD9GSame
import Derived.Maps.Range
open List renaming mem_singleton→Qa,mem_append→Qb,mem_append_left→Qc,append_nil→Qf,flatten_cons→Qg,mem_cons→Qh,nodup_append→Qi,flatten_append→Qk,length_append→Qm,length_eq_zero_iff→Qn,mem_append_right→Qo,cons_append→Qp,nil_append→Qq,perm_iff_count→Qr,exists_mem_of_ne_nil→Qs,flatten_nil→Qt,append_cancel_left→Qu,append_eq_nil_iff→Qv,mem_cons_of_mem→Qw,length_pos_iff→Qx,count_append→Qz,append_assoc→QA,mem_flatten→QB,count_cons→QC,mem_filter→QD
open Or renaming inl→Qd,inr→Qe
open Classical renaming byContradiction→Qj,em→Qy
open Int renaming ofNat_inj→Ql
namespace Go.Proofs.YtbkjljffnkdcjaaGreat.Plain
variable {g : Gr} {p : Pt} {s t t2 : dG} {A pre : List Int} {v via : Int}
theorem cB.ent (hp:aH g p) (hE:vm g p s A v via) (h:cB g p s t A v via pre) {d:Int} (hd:d∈p.ag) (hv:g.tail d=v) (hm:t.met (g.head d)=0):vm g p (t.push (d / 2)) (A++[v]) (g.head d) (d / 2):=by
 have hG:=h.bV;have qj:=h.rH hE;refine⟨⟨hG.dK,hG.num,hG.inj,hG.act,hG.OT,hG.fin,hG.Ap,hG.OB,hG.nk⟩,(hp.aQ hd).2,hm,Qe ⟨d,hd,rfl,rfl,by rw[hv];simp⟩,fun e he=>?_,fun e he=>?_⟩
 ·rcases Qb.1 he with q | q
  ·exact Qe (h.M1 e q)
  exact Qd (Qa.1 q)
 rcases Qb.1 he with q | q
 ·exact⟨(h.M1 e q).1,h.Ji e q⟩
 rw[Qa.1 q];exact⟨aw.1 hd,fun r=>qj.2 (by have:=oI.1 r;rw[<-hv,this];exact hm)⟩
theorem cB.xH (h:cB g p s t A v via pre) {d:Int} (hm:t.met (g.head d)=0):d / 2 ∉ t.ed:=fun q=>(fu.1 (h.M1 _ q).2).2 hm
theorem cB.child (hp:aH g p) (hE:vm g p s A v via) (h:cB g p s t A v via pre) {d:Int} (hd:d∈p.ag) (hv:g.tail d=v) (zm:d ∉ pre) (GR:d / 2≠via) (hm:t.met (g.head d)=0)
  (hS:cB g p (t.push (d / 2)) t2 (A++[v]) (g.head d) (d / 2) (a8 g p (g.head d))):cB g p s (t2.back v (g.head d) (d / 2)) A v via (pre++[d]):=by
 have qj:=h.rH hE;have Ac:=h.ent hp hE hd hv hm;obtain⟨w,hw⟩:∃ w,g.head d=w:=⟨_,rfl⟩;obtain⟨e,he⟩:∃ e,d / 2=e:=⟨_,rfl⟩;have WU:=h.xH hm;have hdE:e∈p.e:=by rw[<-he];exact aw.1 hd
 have tI:¬ Uf g p s t v via pre e:=by
  rintro ⟨-,c,hc,h2,h3,h4⟩;rw[<-he] at h2;rcases ga h2.symm with q | q
  ·rcases h4 with r | r
   ·exact r (by rw[<-q];exact hv)
   exact zm (by rw[q];exact r)
  have:g.tail c=g.head d:=by rw[q,aA]
  rw[this] at h3;exact h3.2 hm
 rw[hw] at hm Ac hS ⊢;rw[he] at Ac hS GR WU ⊢;have B8:w≠v:=fun q=>qj.2 (q ▸ hm);have f1:∀ x,t.met x≠0->t2.met x=t.met x/\t2.low x=t.low x:=fun x hx=>hS.old x hx;have hX:∀ x,dO (t.push e) t2 x↔t.met x=0/\t2.met x≠0:=fun x=>Iff.rfl;have f2:∀ x,dO s t2 x↔dO s t x\/dO (t.push e) t2 x:=fun x=>by
  constructor
  ·rintro ⟨h1,h2⟩
   by_cases q:t.met x=0
   ·exact Qe ⟨q,h2⟩
   exact Qd ⟨h1,q⟩
  rintro (⟨h1,h2⟩ | ⟨h1,h2⟩)
  ·exact⟨h1,by rw[(f1 x h2).1];exact h2⟩
  exact⟨Classical.byContradiction fun q=>h.mono q h1,h2⟩
 have Ln:dO (t.push e) t2 w:=hS.rH Ac;have rz:¬ dO (t.push e) t2 v:=fun q=>qj.2 q.1;have mv:t2.met v=s.dK+1:=by rw[(f1 v qj.2).1,h.me]
 have lv:t2.low v=t.low v:=(f1 v qj.2).2;have kM:qF g p v w:=by rw[<-hv,<-hw];exact eK hd
 -- ah out of the new ones
 have eQ:∀ c∈p.ag,dO (t.push e) t2 (g.tail c)->t2.met (g.head c)≠0:=fun c hc hn=>by
  by_cases q:g.tail c=w
  ·exact hS.seen c (bk.2 ⟨hc,q⟩)
  refine hS.bV.fin c hc hn.2 fun r=>?_;rcases Qb.1 r with r | r
  ·exact Ac.bV.act _ r hn.1
  exact q (Qa.1 r)
 obtain⟨R1,N1,a1,a2,a3,a4⟩:=h.yk;obtain⟨R2,N2,b1,b2,b3,b4⟩:=hS.yk;have Hp:t2.ed=t.ed++e :: R2:=by rw[b1];show (t.ed++[e])++R2=_;simp
 have fT:t2.bl=t.bl++N2:=b2;have KT:∀ x∈e :: R2,¬ kT g t x:=by
  intro x hx hb;rcases Qh.1 hx with q | q
  ·rw[q,<-he,fu,hw] at hb;exact hb.2 hm
  obtain⟨-,c,hc,h2,h3,-⟩:=(b4 x).1 (Qc _ q);rw[<-h2,fu] at hb;exact hb.1 h3.1
 have S7:∀ x,Uf g p s t v via pre x->Uf g p (t.push e) t2 w e (a8 g p w) x->False:=by
  rintro x ⟨-,c',hc',h2',Y6,h4'⟩ ⟨-,c,hc,h2,h3,-⟩;rcases ga (h2.trans h2'.symm) with q | q
  ·rw[<-q] at Y6;exact Y6.2 h3.1
  have e1:g.head c'=g.tail c:=by rw[q,<-aA,aS]
  by_cases r:g.tail c'=v
  ·have:=h.seen c' (h4'.resolve_left fun u=>u r)
   rw[e1] at this;exact this h3.1
  have:=h.bV.fin c' hc' Y6.2 fun u=>by
   rcases Qb.1 u with u | u
   ·exact hE.bV.act _ u Y6.1
   exact r (Qa.1 u)
  rw[e1] at this;exact this h3.1
 have fs:(e :: (R1++N1.flatten)++(R2++N2.flatten)).Nodup:=by
  rw[Qi];refine⟨List.nodup_cons.2 ⟨fun q=>tI ((a4 _).1 q),a3⟩,b3,fun x hx y hy q=>?_⟩;subst q;have h2:=(b4 x).1 hy;rcases Qh.1 hx with r | r
  ·exact h2.1 r
  exact S7 x ((a4 x).1 r) h2
 have VJ:∀ c∈p.ag,dO (t.push e) t2 (g.tail c)->c / 2≠via:=fun c hc hn q=>by
  rcases hE.par with ⟨-,r⟩ | ⟨k,hk,Cg,TD,hk4⟩
  ·have:=hp.er _ (aw.1 hc);omega
  rcases ga (q.trans Cg.symm) with r | r
  ·rw[r] at hn;exact h.mono (hE.bV.act _ hk4) hn.1
  have:g.tail c=g.head k:=by rw[r,<-aA,aS]
  rw[this,TD] at hn;exact rz hn
 have cV:∀ t3:dG,t3.met=t2.met->∀ x,x∈e :: (R1++N1.flatten)++(R2++N2.flatten)↔Uf g p s t3 v via (pre++[d]) x:=by
  intro t3 h3 x;have f3:∀ y,dO s t3 y↔dO s t y\/dO (t.push e) t2 y:=fun y=>by unfold dO;rw[h3];exact f2 y
  rw[Qb,Qh,a4,b4];constructor
  ·rintro ((rfl | ⟨h1,c,hc,h2,h3,h4⟩) | ⟨h1,c,hc,h2,h3,-⟩)
   ·exact⟨GR,d,hd,he,(f3 _).2 (Qd (by rw[hv];exact qj)),Qe (by simp)⟩
   ·exact⟨h1,c,hc,h2,(f3 _).2 (Qd h3),h4.imp id fun q=>Qc _ q⟩
   exact⟨by rw[<-h2];exact VJ c hc h3,c,hc,h2,(f3 _).2 (Qe h3),Qd fun q=>rz (q ▸ h3)⟩
  rintro ⟨h1,c,hc,h2,h3,h4⟩;rcases (f3 _).1 h3 with q | q
  ·rcases h4 with r | r
   ·exact Qd (Qe ⟨h1,c,hc,h2,q,Qd r⟩)
   rcases Qb.1 r with r | r
   ·exact Qd (Qe ⟨h1,c,hc,h2,q,Qe r⟩)
   rw[Qa.1 r,he] at h2;exact Qd (Qd h2.symm)
  by_cases r:x=e
  ·exact Qd (Qd r)
  exact Qe ⟨r,c,hc,h2,q,(Qy (g.tail c=w)).elim (fun u=>Qe (bk.2 ⟨hc,u⟩)) Qd⟩
 -- what both ways have
 have all:∀ t3:dG,t3.met=t2.met->t3.dK=t2.dK->(∀ x,x≠v->t3.low x=t2.low x)->t3.low v=min (t.low v) (t2.low w)->(∀ x∈t3.ed,x∈t2.ed) ->
   (∀ l∈t3.bl,l≠[])->(∀ l∈t3.bl,∀ x∈l,x∈p.e/\kT g t2 x)->(∀ l∈t3.bl,∀ x∈l,(g.at x).1=(g.at x).2->l=[x]) ->
   (∃ R N,t3.ed=s.ed++R/\t3.bl=s.bl++N/\(R++N.flatten).Perm (e :: (R1++N1.flatten)++(R2++N2.flatten))) ->
   (t3.bl=s.bl->t.bl=s.bl/\t2.bl=t.bl/\t2.low w<t2.met v)->(s.bl=[]->∀ B l,t3.bl=B :: l->Fst g p B)->(A=[]->t3.ed=s.ed/\t3.bl.length=t2.bl.length+1)->cB g p s t3 A v via (pre++[d]):=by
  intro t3 m1 m4 m2 m6 PS hbn vD hbL XM hcut ajd Zv;have f3:∀ y,dO s t3 y↔dO s t y\/dO (t.push e) t2 y:=fun y=>by unfold dO;rw[m1];exact f2 y
  have hB:∀ x,kT g t3 x↔kT g t2 x:=fun x=>by unfold kT;rw[m1]
  have hG:=hS.bV;obtain⟨R,N,c1,c2,c3⟩:=XM;refine⟨⟨by rw[m4];exact hG.dK,by rw[m1,m4];exact hG.num,by rw[m1];exact hG.inj,fun a ha=>by rw[m1];exact hG.act a (Qc _ ha),by rw[m1];exact hG.OT,fun c hc ht hn=>?_,hbn,fun l hl x hx=>by rw[hB];exact vD l hl x hx,hbL⟩,fun x hx=>?_,by rw[m1];exact mv,fun x hx=>?_,fun x hx z hz=>?_,fun c hc=>?_,?_,fun q=>?_,fun c hc hn Bq hA yI=>?_,fun x hx=>?_,fun x hx=>?_,⟨R,N,c1,c2,(c3.nodup_iff).2 fs,fun x=>(c3.mem_iff).trans (cV t3 m1 x)⟩,fun q z x hz hx bh=>?_,ajd,fun q=>(Zv q).1,fun q r=>?_,fun q r z x y hz hx hy uK qn=>?_⟩
  ·rw[m1] at ht ⊢
   by_cases q:g.tail c=w
   ·exact hS.seen c (bk.2 ⟨hc,q⟩)
   exact hG.fin c hc ht fun r=>(Qb.1 r).elim hn fun r=>q (Qa.1 r)
  ·have hxv:x≠v:=fun q=>hx (by rw[q];exact hE.vn)
   rw[m1,m2 x hxv,(f1 x (h.mono hx)).1,(f1 x (h.mono hx)).2];exact h.old x hx
  ·rw[m1]
   rcases (f3 x).1 hx with q | q
   ·rw[(f1 x q.2).1];exact h.later x q
   have h1:=hS.later x q;have h2:(t.push e).dK=t.dK:=rfl;have h3:=(h.bV.num v).2;rw[h.me] at h3;omega
  ·have jZ:¬ dO s t z:=fun q=>hz ((f3 z).2 (Qd q))
   have pF:¬ dO (t.push e) t2 z:=fun q=>hz ((f3 z).2 (Qe q));rcases (f3 x).1 hx with q | q
   ·exact h.tree x q z jZ
   exact (bP.step .here kM (fun r:w=z=>pF (r ▸ Ln))).trans (hS.tree x q z pF)
  ·rw[m1]
   rcases Qb.1 hc with q | q
   ·rw[(f1 _ (h.seen c q)).1];exact h.seen c q
   rw[Qa.1 q,hw];exact Ln.2
  ·rw[m6,m1,mv]
   have:=h.Hm;rw[h.me] at this;omega
  ·rw[m6,m1,mv] at q
   by_cases r:t.low v<=t2.low w
   ·obtain⟨c,hc,k1,k2,k3,k4⟩:=h.E3 (by rw[h.me];omega)
    exact⟨c,hc,(f3 _).2 (Qd k1),k2,by rw[m6,k3];omega,k4⟩
   have XY:t2.low w<t2.met w:=by
    have h1:=hS.me;have h2:(t.push e).dK=t.dK:=rfl;have h3:=(h.bV.num v).2;rw[h.me] at h3;omega
   obtain⟨c,hc,k1,k2,k3,k4⟩:=hS.E3 XY;have Mm:g.head c∈A:=(Qb.1 k2).resolve_right fun u=>by
    rw[Qa.1 u] at k3;have:(t.push e).met v=s.dK+1:=h.me;omega
   refine⟨c,hc,(f3 _).2 (Qe k1),Mm,?_,VJ c hc k1⟩;rw[m6];have:(t.push e).met (g.head c)=s.met (g.head c):=(h.old _ (hE.bV.act _ Mm)).1;omega
  ·rw[m6]
   rcases (f3 _).1 hn with r | r
   ·by_cases u:c=d
    ·rw[u,hw] at hA
     exact absurd hm (h.mono (hE.bV.act _ hA))
    have:=h.Ii c hc r (fun k=>(Qb.1 (Bq k)).resolve_right fun y=>u (Qa.1 y)) hA yI;omega
   have NX:c / 2≠e:=fun k=>by
    rw[<-he] at k;rcases ga k with y | y
    ·rw[y,hv] at r;exact rz r
    have:g.head c=v:=by
     have h1:g.tail d=g.head c:=by rw[y,aA]
     rw[<-h1];exact hv
    rw[this] at hA;exact hE.vA hA
   have h1:=hS.Ii c hc r (fun k=>bk.2 ⟨hc,k⟩) (Qc _ hA) NX;have h2:(t.push e).met (g.head c)=s.met (g.head c):=(h.old _ (hE.bV.act _ hA)).1;omega
  ·rw[hB];exact hS.M1 x (PS x hx)
  ·exact hS.Ji x (PS x hx)
  ·obtain⟨k1,k2,k3⟩:=hcut q
   have hup:∃ c∈p.ag,dO (t.push e) t2 (g.tail c)/\g.head c∈A:=by
    have XY:t2.low w<t2.met w:=by
     have h1:=hS.me;have h2:(t.push e).dK=t.dK:=rfl;have h3:=(h.bV.num v).2;rw[h.me] at h3;omega
    obtain⟨c,hc,j1,j2,j3,-⟩:=hS.E3 XY;exact⟨c,hc,j1,(Qb.1 j2).resolve_right fun u=>by
     rw[Qa.1 u] at j3;have:(t.push e).met v=s.dK+1:=h.me;omega⟩
   have ai6:∀ y,dO (t.push e) t2 y->y≠v:=fun y hy q=>rz (q ▸ hy);have Yr:∀ y,dO s t y->¬ dO (t.push e) t2 y:=fun y hy q=>hy.2 q.1;by_cases nB:dO (t.push e) t2 z
   ·have pq:=ai6 z nB
    by_cases Pm:dO (t.push e) t2 x
    ·rcases hS.cut k2 z x nB Pm bh with ⟨j1,j2⟩ | ⟨y,hy,j2⟩
     ·exact Qd ⟨pq,j2.step kM.symm (Ne.symm pq)⟩
     rcases Qb.1 hy with r | r
     ·exact Qe ⟨y,r,j2⟩
     rw[Qa.1 r] at j2;exact Qd ⟨pq,j2⟩
    have tK:=((f3 x).1 hx).resolve_right Pm;exact Qd ⟨pq,((h.tree x tK z fun r=>Yr z r nB).symm (Ne.symm pq)).2⟩
   have VM:=((f3 z).1 hz).resolve_right nB;by_cases Pm:dO (t.push e) t2 x
   ·by_cases pq:z=v
    ·subst pq
     obtain⟨c,hc,j1,j2⟩:=hup;have h1:=hS.tree x Pm z nB;have h2:=hS.tree (g.tail c) j1 z nB;have qn:g.head c≠z:=fun r=>hE.vA (r ▸ j2);exact Qe ⟨g.head c,j2,((h1.symm B8).2.trans h2).step (eK hc) qn⟩
    have h1:=hS.tree x Pm z nB;have Fz:w≠z:=fun r=>nB (r ▸ Ln);exact Qd ⟨pq,(h1.symm Fz).2.step kM.symm (Ne.symm pq)⟩
   have tK:=((f3 x).1 hx).resolve_right Pm;exact h.cut k1 z x VM tK bh
  ·have h1:=(Zv q).2
   rw[r,fT,a2] at h1;simp only[Qm] at h1;omega
  have h1:=(Zv q).2;rw[h1,fT,a2] at r;simp only[Qm] at r;have Cd:t.bl=s.bl:=by rw[a2,Qn.1 (show N1.length=0 by omega),Qf]
  have fh:t2.bl=(t.push e).bl:=by
   show t2.bl=t.bl;rw[fT,Qn.1 (show N2.length=0 by omega),Qf]
  have lQ:∀ u,dO s t3 u->u=v\/dO (t.push e) t2 u:=fun u hu=>((f3 u).1 hu).imp (fun k=>h.U2 q Cd u k) id;by_cases nB:dO (t.push e) t2 z
  ·have pq:z≠v:=fun k=>rz (k ▸ nB)
   have VS:∀ u,dO s t3 u->u≠z->bP g p z u v:=fun u hu Wg=>by
    rcases lQ u hu with k | k
    ·rw[k];exact .here
    rcases hS.cut fh z u nB k Wg with ⟨j1,j2⟩ | ⟨y',WN,j2⟩
    ·exact j2.step kM.symm (Ne.symm pq)
    rw[q,Qq,Qa] at WN;rw[WN] at j2;exact j2
   exact (VS x hx uK).trans ((VS y hy qn).symm qn).2
  have pq:=(lQ z hz).resolve_right nB;have tow:∀ u,dO s t3 u->u≠z->dO (t.push e) t2 u:=fun u hu Wg=>(lQ u hu).resolve_left fun k=>Wg (k.trans pq.symm);have Fz:w≠z:=fun k=>nB (k ▸ Ln);exact ((hS.tree x (tow x hx uK) z nB).symm Fz).2.trans (hS.tree y (tow y hy qn) z nB)
 have Wi:∀ l∈t2.bl,∀ x∈l,x∈p.e/\kT g t2 x:=hS.bV.OB;unfold dG.back;by_cases Wq:t2.met v<=t2.low w
 ·rw[if_pos Wq]
  have ru:t2.ed.idxOf e=t.ed.length:=by
   rw[Hp,List.idxOf_append,if_neg WU];simp
  have Cu:t2.ed.take (t2.ed.idxOf e)=t.ed:=by rw[ru,Hp];exact List.take_left' rfl
  have RT:t2.ed.drop (t2.ed.idxOf e)=e :: R2:=by rw[ru,Hp];exact List.drop_left' rfl
  have Ex:lG (Ak (e :: R2)) t2.bl=t2.bl++[Ak (e :: R2)]:=rB fun m jS q=>by
   have h0:m.getD 0 0∈m:=iJ (Qx.2 (hS.bV.Ap m jS));have h1:(Ak (e :: R2)).getD 0 0∈e :: R2:=(eh _).mem_iff.1 (iJ (by rw[(eh _).length_eq];simp));rw[<-q] at h1;rw[fT] at jS;rcases Qb.1 jS with r | r
   ·exact KT _ h1 (h.bV.OB m r _ h0).2
   have h2:m.getD 0 0∈R2++N2.flatten:=Qo _ (QB.2 ⟨m,r,h0⟩);rcases Qh.1 h1 with u | u
   ·exact ((b4 _).1 h2).1 u
   exact (Qi.1 b3).2.2 _ u _ (QB.2 ⟨m,r,h0⟩) rfl
  have Fv:((t2.lower v (t2.low w)).take e).ed=t.ed/\((t2.lower v (t2.low w)).take e).bl=t2.bl++[Ak (e :: R2)]:=by
   refine⟨Cu,?_⟩;show lG (Ak (t2.ed.drop (t2.ed.idxOf e))) t2.bl=_;rw[RT,Ex]
  have heR:∀ x∈Ak (e :: R2),x∈t2.ed:=fun x hx=>by
   rw[Hp];exact Qo _ ((eh _).mem_iff.1 hx)
  refine all _ rfl rfl (fun x hx=>nT hx) (by show pS t2.low v _ v=_;rw[qd,lv]) (fun x hx=>by rw[Fv.1] at hx;rw[Hp];exact Qc _ hx) (fun l hl=>?_) (fun l hl x hx=>?_) (fun l hl x hx xp=>?_) ⟨R1,N1++N2++[Ak (e :: R2)],by rw[Fv.1];exact a1,by rw[Fv.2,fT,a2];simp,?_⟩ (fun q=>?_) (fun hs B l hB=>?_) (fun q=>⟨by rw[Fv.1];exact h.Tk q,by rw[Fv.2];simp⟩)
  ·rw[Fv.2] at hl
   rcases Qb.1 hl with r | r
   ·exact hS.bV.Ap l r
   rw[Qa.1 r];exact List.ne_nil_of_length_pos (by rw[(eh _).length_eq];simp)
  ·rw[Fv.2] at hl
   rcases Qb.1 hl with r | r
   ·exact Wi l r x hx
   rw[Qa.1 r] at hx;exact hS.M1 x (heR x hx)
  ·rw[Fv.2] at hl
   rcases Qb.1 hl with r | r
   ·exact hS.bV.nk l r x hx xp
   rw[Qa.1 r] at hx;exact absurd xp (hS.Ji x (heR x hx))
  ·rw[Qr]
   intro x;have:=Qr.1 (eh (e :: R2)) x;simp only[Qk,Qg,Qt,Qf,Qz,QC] at this ⊢;omega
  ·rw[Fv.2,fT,a2] at q
   have:=congrArg List.length q;simp at this
  rw[Fv.2] at hB;cases hq:t2.bl with
  | cons B' l' =>
   rw[hq,Qp] at hB;injection hB with k1 k2
   rw[<-k1];cases zb:t.bl with
   | nil=>exact hS.fst zb B' l' hq
   | cons B2 l2 =>
    rw[fT,zb,Qp] at hq;injection hq with k3 k4
    rw[<-k3];exact h.fst hs B2 l2 zb
  | nil =>
   rw[hq,Qq] at hB;injection hB with k1 k2
   have hN2:N2=[]:=by
    rw[fT] at hq;exact (Qv.1 hq).2
   rw[<-k1];refine Qe ⟨v,hE.vV,dO (t.push e) t2,rz,fun c hc hn=>?_,fun x=>?_⟩
   ·by_cases r:t.met (g.head c)=0
    ·exact Qd ⟨r,eQ c hc hn⟩
    refine Qe ?_;have Mm:=hS.inA Ac hc hn r;rcases Qb.1 Mm with u | u
    ·exfalso
     have NX:c / 2≠e:=fun k=>by
      rw[<-he] at k;rcases ga k with y | y
      ·rw[y,hv] at hn;exact rz hn
      have h1:g.tail d=g.head c:=by rw[y,aA]
      rw[<-h1,hv] at u;exact hE.vA u
     have h1:=hS.Ii c hc hn (fun k=>bk.2 ⟨hc,k⟩) Mm NX;have h2:(t.push e).met (g.head c)=s.met (g.head c):=(h.old _ (hE.bV.act _ u)).1;have h3:=(hE.bV.num (g.head c)).2;omega
    exact Qa.1 u
   rw[(eh _).mem_iff,Qh];have h4:=b4 x;rw[hN2,Qt,Qf] at h4;rw[h4];constructor
   ·rintro (r | ⟨-,c,hc,h2,h3,-⟩)
    ·exact⟨aE d,bu hd,by rw[bA,he,r],by rw[aA,hw];exact Ln⟩
    exact⟨c,hc,h2,h3⟩
   rintro ⟨c,hc,h2,h3⟩;by_cases r:x=e
   ·exact Qd r
   exact Qe ⟨r,c,hc,h2,h3,(Qy (g.tail c=w)).elim (fun u=>Qe (bk.2 ⟨hc,u⟩)) Qd⟩
 rw[if_neg Wq];refine all _ rfl rfl (fun x hx=>nT hx) (by show pS t2.low v _ v=_;rw[qd,lv]) (fun x hx=>hx) hS.bV.Ap Wi hS.bV.nk ⟨R1++e :: R2,N1++N2,by show t2.ed=_;rw[Hp,a1];simp,by show t2.bl=_;rw[fT,a2];simp,?_⟩ (fun q=>?_) (fun hs B l hB=>?_) (fun q=>absurd ?_ Wq)
 ·rw[Qr]
  intro x;simp only[Qk,Qz,QC];omega
 ·have q:t2.bl=s.bl:=q
  have h1:t.bl=s.bl/\N2=[]:=by
   rw[fT,a2,QA] at q;have h2:=Qu (show s.bl++(N1++N2)=s.bl++[] by rw[q];simp);obtain⟨h3,h4⟩:=Qv.1 h2;exact⟨by rw[a2,h3];simp,h4⟩
  exact⟨h1.1,by rw[fT,h1.2];simp,by omega⟩
 ·have hB:t2.bl=B :: l:=hB
  cases zb:t.bl with
  | nil=>exact hS.fst zb B l hB
  | cons B2 l2 =>
   rw[fT,zb,Qp] at hB;injection hB with k3 k4
   rw[<-k3];exact h.fst hs B2 l2 zb
 refine Qj fun k=>?_;have XY:t2.low w<t2.met w:=by
  have h1:=hS.me;have h2:(t.push e).dK=t.dK:=rfl;have h3:=(h.bV.num v).2;rw[h.me] at h3;omega
 obtain⟨c,hc,j1,j2,j3,-⟩:=hS.E3 XY;rw[q,Qq,Qa] at j2;rw[j2] at j3;have:(t.push e).met v=s.dK+1:=h.me;omega
variable {g : Gr} {p : Pt}
theorem qX (hp:aH g p):∀ (n:Nat) (s:dG) (A:List Int) (v via:Int),vm g p s A v via->BS p s<=n->cB g p s (visit g p n v via s) A v via (a8 g p v):=by
 intro n
 induction n with
 | zero =>
  intro s A v via hE hn;have:0<BS p s:=List.length_pos_of_mem (QD.2 ⟨hE.vV,decide_eq_true hE.vn⟩);omega
 | succ n ih =>
  intro s A v via hE hn;have fold:∀ (rest pre:List Int) (t:dG),pre++rest=a8 g p v->cB g p s t A v via pre->cB g p s (rest.foldl (fg (visit g p n) g v via) t) A v via (a8 g p v):=by
   intro rest
   induction rest with
   | nil=>intro pre t e h;rw[Qf] at e;rw[<-e];exact h
   | cons d rest ih2 =>
    intro pre t e h;refine ih2 (pre++[d]) _ (by rw[QA];exact e) ?_;have zD:d∈a8 g p v:=by rw[<-e];simp
    obtain⟨hd,hv⟩:=bk.1 zD;have zm:d ∉ pre:=fun q=>by
     have fs:(a8 g p v).Nodup:=List.Pairwise.filter _ (cP hp.en);rw[<-e,Qi] at fs;exact fs.2.2 d q d (by simp) rfl
    have qj:=h.rH hE;unfold fg;by_cases c1:g.head d=v
    ·rw[if_pos c1];exact h.loop hp hE hd hv c1
    rw[if_neg c1];by_cases c2:d / 2=via
    ·rw[if_pos c2]
     have hA:=hE.q8 hp hd hv c2;exact h.same (h.mono (hE.bV.act _ hA)) (fun _ q=>absurd c2 q) fun q=>absurd c2 q
    rw[if_neg c2];by_cases c3:t.met (g.head d)=0
    ·rw[if_pos c3]
     refine h.child hp hE hd hv zm c2 c3 (ih _ _ _ _ (h.ent hp hE hd hv c3) ?_);have:BS p (t.push (d / 2))<BS p s:=by
      refine fV (a:=v) (fun x _ hx=>?_) hE.vV ?_ (decide_eq_true hE.vn)
      ·have hx:t.met x=0:=of_decide_eq_true hx
       exact decide_eq_true (Qj fun q=>h.mono q hx)
      exact decide_eq_false qj.2
     omega
    rw[if_neg c3];by_cases c4:t.met (g.head d)<t.met v
    ·rw[if_pos c4];exact h.up hp hE hd hv zm c1 c2 c3 c4
    rw[if_neg c4];have Cm:s.met (g.head d)=0:=Qj fun q=>by
     have h1:=(hE.bV.num (g.head d)).2;rw[(h.old _ q).1,h.me] at c4;omega
    refine h.same c3 (fun q=>absurd Cm (hE.bV.act _ q)) fun q=>⟨q,aE d,bu hd,bA d,by rw[aA];exact⟨Cm,c3⟩,Qd (by rw[aA];exact c1)⟩
  exact fold _ [] _ rfl (cB.start hp hE)
def dG.zero:dG:=⟨fun _=>0,fun _=>0,0,[],[]⟩
def kp (g:Gr) (p:Pt) (n:Nat) (l:List Int) (s:dG):dG:=l.foldl (fun s v=>if s.met v=0 then visit g p n v (-1) s else s) s
def findAll (g:Gr) (p:Pt):dG:=kp g p p.v.length p.v dG.zero
structure Is (g:Gr) (p:Pt) (s:dG):Prop where
 bV:DOk g p s []
 ed:s.ed=[]
 nd:s.bl.flatten.Nodup
 yk:∀ e,e∈s.bl.flatten↔∃ d∈p.ag,d / 2=e/\s.met (g.tail d)≠0
 fst:∀ B l,s.bl=B :: l->Fst g p B
 one:s.bl.length<=1->∀ z x y,(∃ d∈p.ag,g.tail d=x)->(∃ d∈p.ag,g.tail d=y)->s.met x≠0->s.met y≠0->x≠z->y≠z->bP g p z x y
theorem Is.start:Is g p dG.zero:=by
 refine⟨⟨Int.le_refl _,fun x=>⟨Int.le_refl _,Int.le_refl _⟩,fun x y h=>absurd rfl h,by simp,fun x h=>absurd rfl h,fun d _ h=>absurd rfl h,?_,?_,?_⟩,rfl,?_,fun e=>?_,fun B l h=>?_,fun _ z x y _ _ h=>absurd rfl h⟩
 ·intro l h;cases h
 ·intro l h;cases h
 ·intro l h;cases h
 ·exact List.nodup_nil
 ·constructor
  ·intro h;simp[dG.zero] at h
  rintro ⟨d,-,-,h⟩;exact absurd rfl h
 cases h
theorem Is.step (hp:aH g p) {s:dG} (h:Is g p s) {v:Int} (hv:v∈p.v) (hm:s.met v=0) {n:Nat} (hn:BS p s<=n):Is g p (visit g p n v (-1) s)/\(visit g p n v (-1) s).met v≠0/\∀ x,s.met x≠0->(visit g p n v (-1) s).met x≠0:=by
 have hE:vm g p s [] v (-1):=⟨h.bV,hv,hm,Qd ⟨rfl,rfl⟩,by rw[h.ed];simp,by rw[h.ed];simp⟩;have hS:=qX hp n s [] v (-1) hE hn;obtain⟨t,ht⟩:∃ t,visit g p n v (-1) s=t:=⟨_,rfl⟩;rw[ht] at hS ⊢;have qj:=hS.rH hE;obtain⟨R,N,e1,e2,e3,e4⟩:=hS.yk;have hR:R=[]:=by
  have:=hS.Tk rfl;rw[e1] at this;exact Qu (this.trans (Qf _).symm)
 rw[hR,Qq] at e3 e4;have aeB:∀ d∈p.ag,d / 2≠-1:=fun d hd q=>by have:=hp.er _ (aw.1 hd);omega
 have yI:∀ e,Uf g p s t v (-1) (a8 g p v) e↔∃ d∈p.ag,d / 2=e/\dO s t (g.tail d):=fun e=>by
  constructor
  ·rintro ⟨-,d,hd,h2,h3,-⟩;exact⟨d,hd,h2,h3⟩
  rintro ⟨d,hd,h2,h3⟩;exact⟨by rw[<-h2];exact aeB d hd,d,hd,h2,h3,(Qy (g.tail d=v)).elim (fun q=>Qe (bk.2 ⟨hd,q⟩)) Qd⟩
 have hG:=hS.bV;refine⟨⟨⟨hG.dK,hG.num,hG.inj,by simp,hG.OT,fun d hd zD _=>?_,hG.Ap,hG.OB,hG.nk⟩,?_,?_,fun e=>?_,fun B l hB=>?_,fun hl z x y hx hy VF hmy uK qn=>?_⟩,qj.2,fun x hx=>hS.mono hx⟩
 ·by_cases q:g.tail d=v
  ·exact hS.seen d (bk.2 ⟨hd,q⟩)
  exact hG.fin d hd zD (by simpa using q)
 ·rw[e1,hR,h.ed];rfl
 ·rw[e2,Qk,Qi]
  refine⟨h.nd,e3,fun a ha b hb q=>?_⟩;subst q;obtain⟨d,hd,h2,h3⟩:=(yI a).1 ((e4 a).1 hb);obtain⟨c,hc,k2,k3⟩:=(h.yk a).1 ha;rcases ga (k2.trans h2.symm) with r | r
  ·rw[r] at k3;exact k3 h3.1
  have:=h.bV.fin c hc k3 (by simp);rw[<-aA,<-r] at this;exact this h3.1
 ·rw[e2,Qk,Qb,h.yk,e4,yI]
  constructor
  ·rintro (⟨d,hd,h2,h3⟩ | ⟨d,hd,h2,h3⟩)
   ·exact⟨d,hd,h2,hS.mono h3⟩
   exact⟨d,hd,h2,h3.2⟩
  rintro ⟨d,hd,h2,h3⟩;by_cases q:s.met (g.tail d)=0
  ·exact Qe ⟨d,hd,h2,q,h3⟩
  exact Qd ⟨d,hd,h2,q⟩
 ·cases hq:s.bl with
  | nil=>exact hS.fst hq B l hB
  | cons B' l' =>
   rw[e2,hq,Qp] at hB;injection hB with k1 k2
   rw[<-k1];exact h.fst B' l' hq
 rw[e2,Qm] at hl;by_cases hN:N=[]
 ·have hb:t.bl=s.bl:=by rw[e2,hN,Qf]
  have gM:∀ u,(∃ d∈p.ag,g.tail d=u)->t.met u≠0->s.met u≠0:=by
   rintro u ⟨d,hd,rfl⟩ hu q;have:=(e4 (d / 2)).2 ((yI _).2 ⟨d,hd,rfl,q,hu⟩);rw[hN] at this;simp at this
  exact h.one (by rw[hN] at hl;simpa using hl) z x y hx hy (gM x hx VF) (gM y hy hmy) uK qn
 have hNl:=Qx.2 hN;have Cd:s.bl=[]:=Qn.1 (by omega);have pw:∀ u,(∃ d∈p.ag,g.tail d=u)->t.met u≠0->dO s t u:=by
  rintro u ⟨d,hd,rfl⟩ hu;refine⟨Classical.byContradiction fun q=>?_,hu⟩;have:=(h.yk (d / 2)).2 ⟨d,hd,rfl,q⟩;rw[Cd] at this;simp at this
 have nx:=pw x hx VF;have ny:=pw y hy hmy;by_cases hz:dO s t z
 ·exact hS.abW rfl (by rw[e2,Qm];omega) z x y hz nx ny uK qn
 have hvz:v≠z:=fun q=>hz (q ▸ qj);exact ((hS.tree x nx z hz).symm hvz).2.trans (hS.tree y ny z hz)
theorem mY (hp:aH g p):Is g p (findAll g p)/\∀ v∈p.v,(findAll g p).met v≠0:=by
 have key:∀ (l:List Int) (s:dG),(∀ v∈l,v∈p.v)->Is g p s->Is g p (kp g p p.v.length l s)/\(∀ v∈l,(kp g p p.v.length l s).met v≠0)/\∀ x,s.met x≠0->(kp g p p.v.length l s).met x≠0:=by
  intro l
  induction l with
  | nil=>intro s _ h;exact⟨h,by simp,fun _ h=>h⟩
  | cons v l ih =>
   intro s hl h;have hu:BS p s<=p.v.length:=List.length_filter_le _ _;show Is g p (kp g p p.v.length l (if s.met v=0 then visit g p p.v.length v (-1) s else s))/\(∀ u∈v :: l,(kp g p p.v.length l (if s.met v=0 then visit g p p.v.length v (-1) s else s)).met u≠0)/\∀ x,s.met x≠0->(kp g p p.v.length l (if s.met v=0 then visit g p p.v.length v (-1) s else s)).met x≠0;by_cases q:s.met v=0
   ·rw[if_pos q]
    obtain⟨h1,h2,h3⟩:=h.step hp (hl v (by simp)) q hu;obtain⟨k1,k2,k3⟩:=ih _ (fun u hu=>hl u (Qw _ hu)) h1;exact⟨k1,fun u hu=>(Qh.1 hu).elim (fun e=>by rw[e];exact k3 _ h2) (k2 u),fun x hx=>k3 x (h3 x hx)⟩
   rw[if_neg q];obtain⟨k1,k2,k3⟩:=ih s (fun u hu=>hl u (Qw _ hu)) h;exact⟨k1,fun u hu=>(Qh.1 hu).elim (fun e=>by rw[e];exact k3 _ q) (k2 u),k3⟩
 obtain⟨h1,h2,-⟩:=key p.v dG.zero (fun _ h=>h) Is.start;exact⟨h1,h2⟩
theorem lj (hp:aH g p):(findAll g p).bl.flatten.Perm p.e:=by
 obtain⟨h1,h2⟩:=mY hp;refine (List.perm_ext_iff_of_nodup h1.nd hp.en).2 fun e=>?_;rw[h1.yk];constructor
 ·rintro ⟨d,hd,rfl,-⟩;exact aw.1 hd
 intro he;obtain⟨d,hd,h3,-⟩:=zP (g:=g) he;exact⟨d,hd,h3,h2 _ (hp.aQ hd).1⟩
def off (g:Gr) (v e:Int):Int:=if (g.at e).1=v then (g.at e).2 else (g.at e).1
def JE (g:Gr) (p:Pt) (v e f:Int):Prop:=e≠f/\(((g.at e).1=v/\(g.at e).2=v)\/((g.at f).1=v/\(g.at f).2=v)\/¬ bP g p v (off g v e) (off g v f))
def cg (g:Gr) (p:Pt):Prop:=(∃ e0 l,p.e=e0 :: l/\∀ e∈p.e,∀ v∈p.v,¬ JE g p v e0 e)/\∀ v∈p.v,∃ d∈p.ag,g.tail d=v
theorem mA {v e:Int} (h:¬ ((g.at e).1=v/\(g.at e).2=v)):off g v e≠v:=by
 unfold off;split
 ·rename_i q;exact fun r=>h ⟨q,r⟩
 rename_i q;exact q
theorem yD {v e:Int} (he:e∈p.e):∃ d∈p.ag,d / 2=e/\g.tail d=off g v e:=by
 obtain⟨d,hd,h1,h2,h3⟩:=zP (g:=g) he;unfold off;split
 ·exact⟨aE d,bu hd,by rw[bA];exact h1,by rw[aA];exact h3⟩
 exact⟨d,hd,h1,h2⟩
theorem KQ (hp:aH g p):((findAll g p).bl.length=1/\∀ v∈p.v,∃ d∈p.ag,g.tail d=v)↔cg g p:=by
 obtain⟨h1,h2⟩:=mY hp;have dA:=lj hp;constructor
 ·rintro ⟨hl,hV⟩
  refine⟨?_,hV⟩;obtain⟨l,hB⟩:=List.length_eq_one_iff.1 hl;have hlm:l∈(findAll g p).bl:=by rw[hB];simp
  rw[hB,Qg,Qt,Qf] at dA;cases he:p.e with
  | nil=>rw[he] at dA;exact absurd (List.perm_nil.1 dA) (h1.bV.Ap l hlm)
  | cons e0 r =>
   refine⟨e0,r,rfl,fun e ry v hv=>?_⟩;rw[<-he] at ry;rintro ⟨bh,jE⟩;have jB:∀ x∈p.e,¬ ((g.at x).1=v/\(g.at x).2=v):=fun x hx q=>by
    have h3:=h1.bV.nk l hlm x (dA.mem_iff.2 hx) (q.1.trans q.2.symm);have m1:=dA.mem_iff.2 (show e0∈p.e by rw[he];simp);have m2:=dA.mem_iff.2 ry;rw[h3,Qa] at m1 m2;exact bh (m1.trans m2.symm)
   have mn:e0∈p.e:=by rw[he];simp
   rcases jE with q | q | q
   ·exact jB e0 mn q
   ·exact jB e ry q
   obtain⟨d,hd,-,k1⟩:=yD (g:=g) (v:=v) mn;obtain⟨c,hc,-,k2⟩:=yD (g:=g) (v:=v) ry;exact q (h1.one (by omega) v _ _ ⟨d,hd,k1⟩ ⟨c,hc,k2⟩ (by rw[<-k1];exact h2 _ (hp.aQ hd).1) (by rw[<-k2];exact h2 _ (hp.aQ hc).1) (mA (jB e0 mn)) (mA (jB e ry)))
 rintro ⟨⟨e0,r,he,OY⟩,hV⟩;refine⟨?_,hV⟩;have mn:e0∈p.e:=by rw[he];simp
 match hq:(findAll g p).bl with
 | [] =>
  rw[hq] at dA;rw[he] at dA;exact absurd dA.length_eq (by simp)
 | [_]=>rfl
 | B1 :: B2 :: rest =>
  exfalso;have fs:=h1.nd;rw[hq,Qg,Qg] at fs;have eG:B1≠[]:=h1.bV.Ap B1 (by rw[hq];simp);have fh:B2≠[]:=h1.bV.Ap B2 (by rw[hq];simp);obtain⟨f,hf⟩:=Qs _ fh;obtain⟨e,sC⟩:=Qs _ eG;have Yq:f ∉ B1:=fun q=>(Qi.1 fs).2.2 f q f (Qc _ hf) rfl;have dM:∀ x,x∈B1\/x∈B2->x∈p.e:=fun x hx=>dA.mem_iff.1 (by
   rw[hq,Qg,Qg];rcases hx with q | q
   ·exact Qc _ q
   exact Qo _ (Qc _ q))
  have hep:=dM e (Qd sC);have ZG:=dM f (Qe hf);rcases h1.fst B1 _ hq with ⟨x,hx,hB,AJ⟩ | ⟨z,hz,Y,hzY,ma,hBY⟩
  .-- a loop
   have hu:(g.at x).1∈p.v:=(hp.ends x hx).1;by_cases q:e0=x
   ·refine OY f ZG _ hu ⟨fun r=>Yq (by rw[hB,<-r,q];simp),Qd ?_⟩
    rw[q];exact⟨rfl,AJ.symm⟩
   exact OY x hx _ hu ⟨q,Qe (Qd ⟨rfl,AJ.symm⟩)⟩
  have jR:∀ x∈B1,Y (off g z x):=fun x hx=>by
   obtain⟨c,hc,k1,k2⟩:=(hBY x).1 hx;have htz:g.tail c≠z:=fun q=>hzY (q ▸ k2);unfold off;rcases iC g c with ⟨j1,j2⟩ | ⟨j1,j2⟩
   ·rw[k1] at j1 j2
    rw[<-j1,if_neg htz];exact k2
   rw[k1] at j1 j2;by_cases q:(g.at x).1=z
   ·rw[if_pos q,<-j1];exact k2
   rw[if_neg q,<-j2];exact (ma c hc k2).resolve_right fun r=>q (by rw[<-j2];exact r)
  have ED:∀ x∈p.e,x ∉ B1->¬ Y (off g z x):=fun x hx hxB q=>by
   obtain⟨c,hc,k1,k2⟩:=yD (g:=g) (v:=z) hx;exact hxB ((hBY x).2 ⟨c,hc,k1,by rw[k2];exact q⟩)
  have rm:∀ a b,Y a->bP g p z a b->Y b:=fun a b ha hc=>by
   induction hc with
   | here=>exact ha
   | step _ hn hs ih2 =>
    obtain⟨d,hd,hh⟩:=(CT hp).1 hn;obtain⟨m1,m2⟩:=QD.1 hd;have m2:g.tail d=_:=of_decide_eq_true m2;have:=ma d m1 (by rw[m2];exact ih2);rw[hh] at this;exact this.resolve_right hs
  by_cases q:e0∈B1
  ·exact OY f ZG z hz ⟨fun r=>Yq (r ▸ q),Qe (Qe fun hc=>ED f ZG Yq (rm _ _ (jR e0 q) hc))⟩
  by_cases AJ:(g.at e0).1=z/\(g.at e0).2=z
  ·exact OY e hep z hz ⟨fun r=>q (r ▸ sC),Qd AJ⟩
  exact OY e hep z hz ⟨fun r=>q (r ▸ sC),Qe (Qe fun hc=>ED e0 mn q (rm _ _ (jR e sC) (hc.symm (mA AJ)).2))⟩
end Go.Proofs.YtbkjljffnkdcjaaGreat.Plain
namespace Go.Proofs.YtbkjljffnkdcjaaGreat
open Go.RowKit Go.Maps Go.ChangeShapes
def qB:Value->Option (DataW Unit × List MemPlace)
 | .slice none n c=>some (.slice (lits .i64 [(n:Int),(c:Int)]) [],[])
 | .slice (some ⟨b,off,none⟩) n c=>some (.slice (lits .i64 [(b:Int),(off:Int),(n:Int),(c:Int)]) [],[])
 | _=>none
theorem Ir {u v:Value} {d:DataW Unit} {ps qs:List MemPlace} (hu:qB u=some (d,ps)) (hv:qB v=some (d,qs)):u=v:=by
 unfold qB at hu hv;split at hu <;> split at hv <;> simp only[Option.some.injEq,Prod.mk.injEq,reduceCtorEq] at hu hv
 ·obtain⟨rfl,-⟩:=hu
  have h:=hv.1;simp only[DataW.slice.injEq,and_true] at h;have:=nI h;simp at this;obtain⟨h1,h2⟩:=this;have k1:=Ql.1 h1;have k2:=Ql.1 h2;rw[k1,k2]
 ·obtain⟨rfl,-⟩:=hu
  have h:=hv.1;simp only[DataW.slice.injEq,and_true] at h;have:=nI h;simp at this
 ·obtain⟨rfl,-⟩:=hu
  have h:=hv.1;simp only[DataW.slice.injEq,and_true] at h;have:=nI h;simp at this
 obtain⟨rfl,-⟩:=hu;have h:=hv.1;simp only[DataW.slice.injEq,and_true] at h;have:=nI h;simp at this;obtain⟨h1,h2,h3,h4⟩:=this;have k1:=Ql.1 h1;have k2:=Ql.1 h2;have k3:=Ql.1 h3;have k4:=Ql.1 h4;rw[k1,k2,k3,k4]
def vP:Value:=.slice none 0 0
def Uo (v:Value):DataW Unit:=match qB v with | some x=>x.1 | none=>.nil
def xu (v:Value):Prop:=∃ ps,qB v=some (Uo v,ps)
theorem xu.none (n c:Nat):xu (.slice none n c):=⟨[],rfl⟩
theorem xu.some (b off n c:Nat):xu (.slice (some ⟨b,off,.none⟩) n c):=⟨[],rfl⟩
def jq (w:World) (b n:Nat) (F:Int->Option Value):Prop :=
 ∃ D:DataW Unit,w.ownsMap Tryz.prog 3 qB b n D/\∀ x,bn x->Maps.has D (.int .i64 x)=(F x).isSome/\xu ((F x).getD vP)/\D.atKey (.int .i64 x) (Uo vP)=Uo ((F x).getD vP)
theorem jq.made (w:World):jq (w.alloc (.map #[] 0)) w.heap.size 0 (fun _=>none) :=
 ⟨.map [],World.ownsMap_made _ _ _ _,fun _ _=>⟨rfl,xu.none 0 0,rfl⟩⟩
theorem jq.lt {w:World} {b n:Nat} {F:Int->Option Value} (h:jq w b n F):b<w.heap.size:=by obtain⟨D,h,_⟩:=h;exact h.lt
theorem jq.aM {w w':World} {own:List Nat} {b n:Nat} {F:Int->Option Value} (h:jq w b n F) (hc:ai own w w') (hb:b ∉ own):jq w' b n F:=by
 obtain⟨D,⟨es,clock,he,r⟩,g⟩:=h;exact⟨D,⟨es,clock,hc.heap he hb,r⟩,g⟩
theorem jq.ne {w:World} {b n:Nat} {F:Int->Option Value} (h:jq w b n F) {k:Nat} {cs:Array Value} {t:TypeId} {r:Nat × Nat} (hk:w.heap[k]?=some (.cells cs t r)):k≠b:=by
 obtain⟨D,⟨es,clock,he,_⟩,_⟩:=h;intro e;rw[e,he] at hk;cases hk
theorem jq.xR {w:World} {b n:Nat} {F:Int->Option Value} (h:jq w b n F) {k:Int} (hk:bn k):(Instr.lookup 101 (.map (some b)) (.int .i64 k) false).run Tryz.prog w=.ok ((F k).getD vP) w:=by
 obtain⟨D,bL,hD⟩:=h;obtain⟨h1,⟨ps,h2⟩,h3⟩:=hD k hk;obtain⟨v,qs,gC,hv⟩:=bL.lookup bM Tryz.underlying101 (BL w) (zd:=Uo vP) (zp:=[]) rfl (keyOf_int_mk Tryz.underlying3 hk);rw[h3] at hv;rw[gC,Ir hv h2]
theorem jq.AK {w:World} {b n:Nat} {F:Int->Option Value} (h:jq w b n F) (hn:n<maxLen) {k:Int} (hk:bn k) {v:Value} (hv:xu v) :
  ∃ w',(Instr.mapUpdate 101 (.map (some b)) (.int .i64 k) v).run Tryz.prog w=.ok () w'/\jq w' b (n+1) (fun y=>if y=k then some v else F y)/\ai [b] w w':=by
 obtain⟨D,bL,hD⟩:=h;obtain⟨ps,WT⟩:=hv;have kK:=keyOf_int_mk Tryz.underlying3 hk;obtain⟨w',gC,h1,h2⟩:=bL.store bM Tryz.underlying101 hn kK WT;refine⟨w',gC,⟨_,h1,fun y hy=>?_⟩,(ai.refl _ _).grown h2.grown (fun j hj=>by cases hj;exact Qd (by simp))⟩;by_cases e:y=k
 ·subst e
  have qN:=bM.key kK;rw[has_put_same bL.isMap qN,atKey_put_same bL.isMap qN];simp only[if_true];exact⟨rfl,⟨ps,WT⟩,rfl⟩
 rw[has_put_other (lX e),atKey_put_other (lX e)];simp only[if_neg e];exact hD y hy
section
variable {ops : Array Oper} {rest : List Oper} {o : Oper} {a : Act} {Q : Exit -> Act -> World -> Prop} {w : World}
theorem MM (hg:o.guard=none) (m x u:Operand) (kU:o.op=Op.mapUpdate 101 m x u) {b n:Nat} {F:Int->Option Value} (h:jq w b n F) (hn:n<maxLen) (hm:a.eval m=.map (some b)) {k:Int} (hk:bn k) (hx:a.eval x=.int .i64 k) {v:Value} (hu:a.eval u=v) (hv:xu v)
  (hK:∀ w2,jq w2 b (n+1) (fun y=>if y=k then some v else F y)->ai [b] w w2->wpList Tryz.prog ops Q rest (a.put o.dst undef) w2):wpList Tryz.prog ops Q (o :: rest) a w:=by
 refine wpList_plain hg fun K' uM=>?_;obtain⟨w2,gC,r1,r2⟩:=h.AK hn hk hv;unfold Oper.wp;simp[execOp,kU,hm,hx,hu,gC,Result.andThen];exact uM _ _ (hK w2 r1 r2)
end
end Go.Proofs.YtbkjljffnkdcjaaGreat
