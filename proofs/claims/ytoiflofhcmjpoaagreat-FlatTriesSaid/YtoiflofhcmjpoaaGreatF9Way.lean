/- draw's sketch: AJ: contract. Conditions: a sketch's graph, drawn vertices, a scrap that lie in memory and read so. -/
import Derived.Test.YtoiflofhcmjpoaaGreatF9Path
set_option maxRecDepth 100000
set_option maxHeartbeats 4000000
open List renaming mem_singleton→Qa,length_cons→Qb,length_append→Qd,length_singleton→Qg,filter_append→Qh,filter_cons→Qi,filter_nil→Qj,length_nil→Qk,length_set→Ql,map_cons→Qn,map_nil→Qo,range→Qq
open Or renaming inr→Qc,inl→Qf
open Nat renaming zero_le→Qe,le_refl→Qp
open Go.Value renaming ownBlock→Qm
open Go.Act renaming put→Qr
namespace Go.Proofs.YtoiflofhcmjpoaaGreat
open Plain
open Go.RowKit Go.Maps
namespace Plain
variable {g:Gr} {p:Pt} {k e n:Nat} {on:Int->Bool} {a d z u:Int} {L ds q:List Int} {bd:ju}
def oH (g:Gr) (p:Pt) (k e j:Nat) (v:Int):List Int:=outs g p k v++((Qq j).map λi=>((2*e+i:Nat):Int)).filter λd=>decide (g.tail d=v)
theorem Ju (g:Gr) (p:Pt) (k e:Nat):oH g p k e 0=outs g p k:=by funext v;simp[oH]
theorem Kx (g:Gr) (p:Pt) (k e j:Nat):oH g p k e (j+1)=λv=>if v=g.tail ((2*e+j:Nat):Int) then oH g p k e j (g.tail ((2*e+j:Nat):Int))++[((2*e+j:Nat):Int)] else oH g p k e j v:=by
 funext v
 unfold oH;rw[List.range_succ,List.map_append,Qh,<-List.append_assoc];by_cases h:v=g.tail ((2*e+j:Nat):Int)
 ·rw[if_pos h,<-h]
  congr 1;simp only[Qn,Qo,Qi,Qj,h,decide_true,if_true]
 rw[if_neg h];have h2:decide (g.tail ((2*e+j:Nat):Int)=v)=false:=decide_eq_false λq=>h q.symm;simp only[Qn,Qo,Qi,Qj,h2,Bool.false_eq_true,if_false,List.append_nil]
theorem MC (hk:k<p.e.length) (he:p.e.getD k 0=(e:Int)):oH g p k e 2=outs g p (k+1):=by
 funext v
 have e1:p.e.take (k+1)=p.e.take k++[(e:Int)]:=by
  rw[List.take_succ_eq_append_getElem hk,<-he];simp[List.getD,hk]
 unfold oH outs Pt.ah;rw[e1,List.flatMap_append,Qh];congr 1
theorem Of (g:Gr) (p:Pt) (k e j:Nat) (v:Int):(oH g p k e j v).length<=2*k+j:=by
 unfold oH;rw[Qd];have h1:=F8 g p k v;have h2:=List.length_filter_le (λd=>decide (g.tail d=v)) ((Qq j).map λi=>((2*e+i:Nat):Int));rw[List.length_map,List.length_range] at h2;omega
theorem Wf (hp:aD g p) (rH:∀ d∈p.ah,0<=d) :
  (∀ z c,jt g on p (p.v.length+2) (λy=>if y=a then some (-1) else none) [a]=(some z,c)->∃ l,mU g on p a=l/\BF g c a z l/\c a=some (-1)/\l.length<=p.v.length/\∀ d∈l,d∈p.ah) /\
  (∀ c,jt g on p (p.v.length+2) (λy=>if y=a then some (-1) else none) [a]=(none,c)->mU g on p a=[]):=by
 have hw:=uO (g:=g) (on:=on) (a:=a) rH hp.vn (λd hd=>(hp.aP hd).2) (p.v.length+2) BZ Ac;refine⟨λz c h=>?_,λc h=>by unfold mU;rw[h]⟩;rw[h] at hw;obtain⟨w1,w2,w3,w4⟩:=hw;obtain⟨l,l1,l2,l3⟩:=w1.trc z w2;obtain⟨k1,k2,k3,k4⟩:=l1.link;have hlen:l.length<=p.v.length:=by
  have:=bY k3 λx hx=>by
   obtain⟨d,hd,rfl⟩:=List.mem_map.1 hx;exact (hp.aP (l2 d hd)).2
  simpa using this
 exact⟨l,by unfold mU;rw[h];exact l1.back w1.base _ (by omega),l1,w1.base,hlen,l2⟩
theorem drop_cons (hk:k<L.length):L.drop k=L.getD k 0 :: L.drop (k+1):=vk hk
theorem MN (h:bd (g.head d)=some z):fp g on (d :: ds) bd q=fp g on ds bd q:=by rw[fp,h]
theorem OF (h:bd (g.head d)=none) (ho:on (g.head d)=false):fp g on (d :: ds) bd q=fp g on ds (λy=>if y=g.head d then some d else bd y) (q++[g.head d]):=by rw[fp,h];simp[ho]
theorem TV (h:bd (g.head d)=none) (ho:on (g.head d)=true):fp g on (d :: ds) bd q=(some (g.head d),(λy=>if y=g.head d then some d else bd y),q):=by rw[fp,h];simp[ho]
theorem Zh:jt g on p (n+1) bd (u :: q)=match fp g on (aE g p u) bd q with | (some z,c,_)=>(some z,c) | (none,c,q')=>jt g on p n c q':=rfl
end Plain
theorem jW.cons {w:World} {H:Nat} {v:Value} {x:Int} {q:List Int} (h:jW w H v (x :: q)):∃ b off cap,v=.slice (some ⟨b,off,none⟩) (q.length+1) cap/\w.cell? ⟨b,off,none⟩=some (.int .i64 x)/\q.length+1<=cap /\
  (cap=1->jW w H (.slice (some ⟨b,off,none⟩) q.length 0) q)/\(cap≠1->jW w H (.slice (some ⟨b,off+1,none⟩) q.length (cap - 1)) q):=by
 obtain⟨h1,h2,h3⟩:=h;rcases h3 with ⟨-,e⟩ | ⟨b,off,cap,cur,rfl,hg,hh,Dc,kB,hoc,ja⟩
 ·cases e
 have hs:∀ y∈q,bF y:=λy hy=>h1 y (by simp[hy]);simp only[Qb] at Dc h2;have fin:∀ xB gF,xB+gF<=cur.size->q.length<=gF->gF<=9223372036854775807->(∀ i,i<q.length->cur[xB+i]?=some (.int .i64 (q.getD i 0)))->jW w H (.slice (some ⟨b,xB,none⟩) q.length gF) q :=
  λxB gF k1 k2 k3 k4=>⟨hs,by omega,Qc ⟨b,xB,gF,cur,rfl,hg,hh,k2,k3,k1,k4⟩⟩
 refine⟨b,off,cap,rfl,?_,Dc,λhc=>?_,λhc=>?_⟩
 ·rw[cell_of_row w b off cur _ _ hh]
  have:=ja 0 (by simp);simpa using this
 ·subst hc
  exact fin off 0 (by omega) (by omega) (by omega) (λi hi=>by omega)
 refine fin (off+1) (cap - 1) (by omega) (by omega) (by omega) (λi hi=>?_);have:=ja (i+1) (by simp;omega);rw[show off+1+i=off+(i+1) by omega,this];simp
theorem VQ (sb N B ob a fn:Nat) (vE v1 v2:Value) (fo:Option Addr) (fc:Nat) (g:Gr) (on:Int->Bool) (V E ends:List Int) (w:World) (hG:pn w sb g vE N) (hq:w.cell? ⟨sb,2,none⟩=some (.slice (some ⟨ob,0,none⟩) N N)) (kP:bT w B ob N on)
  (hE:∀ e∈E,0<=e/\e<g.e.length) (hEl:E.length<=1024) (h1:aI w v1 E) (h2:aI w v2 ends) (lZ:0<ends.length) (ha:ends.getD 0 0=a) (haN:a<N) (hP:aD g ⟨V,E⟩) (haV:(a:Int)∈V) :
  Calls Tryz.prog 133 #[.pointer (some ⟨sb,0,none⟩),.agg #[v1,v2,.slice fo fn fc]] w λe w'=>∃ v',e=.returned v'/\aw w' w.heap.size v' (mU g on ⟨V,E⟩ a)/\ai [] w w':=by
 have HG:=lh hG;have HQ:=lh hq;have Nj:=lh kP;have HE:=lh hE;have H1:=lh h1;have H2:=lh h2;have HA:=lh ha;have HP:=lh hP;have HAV:=lh haV;have iL:=lh hG.small;obtain⟨lo,lc,rfl,-,-,-⟩:=h1;obtain⟨uo,uc,rfl,-,-,-⟩:=h2;have ze:=@run_makeMap Tryz.prog;have gJ:=lh (show ai [] w (w.alloc (.cells #[.slice lo E.length lc,.slice uo ends.length uc,.slice fo fn fc] 162)) from (show ai [] w (w.alloc (.cells #[.slice lo E.length lc,.slice uo ends.length uc,.slice fo fn fc] 162)) from ((ai.refl [] w).alloc _)));have cf:=heap_alloc_new w (.cells #[.slice lo E.length lc,.slice uo ends.length uc,.slice fo fn fc] 162);have HX:=lh (λ(w2:World) (dN:ai [] (w.alloc (.cells #[.slice lo E.length lc,.slice uo ends.length uc,.slice fo fn fc] 162)) w2)=>(⟨dN.c ((cell_of_row _ _ 0 _ _ _ cf).trans rfl),dN.c ((cell_of_row _ _ 1 _ _ _ cf).trans rfl),dN.c ((cell_of_row _ _ 2 _ _ _ cf).trans rfl),by have hz:=dN.size;simpa using hz⟩:w2.cell? ⟨w.heap.size,0,none⟩=some (.slice lo E.length lc)/\w2.cell? ⟨w.heap.size,1,none⟩=some (.slice uo ends.length uc)/\w2.cell? ⟨w.heap.size,2,none⟩=some (.slice fo fn fc)/\w.heap.size+1<=w2.heap.size));clear cf;have xJ:=lh (show (w.alloc (.cells #[.slice lo E.length lc,.slice uo ends.length uc,.slice fo fn fc] 162)).heap.size=w.heap.size+1 by simp);obtain⟨x0,x1,-,bs⟩:=HX.out _ (ai.refl _ _);clear hG hq kP hE ha hP haV;go_enter Tryz.func133,Tryz.ntmps133;go_wp2;clear ze x0 x1;have HM:=lh (SMap.made (w.alloc (.cells #[.slice lo E.length lc,.slice uo ends.length uc,.slice fo fn fc] 162)));have hz:(w.alloc (.cells #[.slice lo E.length lc,.slice uo ends.length uc,.slice fo fn fc] 162)).heap.size=w.heap.size+1:=by simp
 rw[hz] at HM;have aY:=lh ((ai.refl [] (w.alloc (.cells #[.slice lo E.length lc,.slice uo ends.length uc,.slice fo fn fc] 162))).alloc (.map #[] 0));generalize w.alloc (.cells #[.slice lo E.length lc,.slice uo ends.length uc,.slice fo fn fc] 162)=w1 at *;obtain⟨mb,EN⟩:∃ mb,w.heap.size+1=mb:=⟨_,rfl⟩;have HMB:=lh EN;have HZ1:=lh hz;rw[EN] at HM ⊢;clear hz EN bs;go_loopw [7,8,9,22] (λ_ _ _ c wr=>∃ k:Nat,k<=E.length/\c=.int .i64 k/\SMap wr mb (2*k) (outs g ⟨V,E⟩ k)/\ai [] w1 wr) (λ_ _ _ c _=>E.length - (intOf c).toNat);case atStart=>exact⟨0,Qe _,rfl,by rw[BM];exact HM.out,aY.out⟩
 case round =>
  obtain⟨k,hk,rfl,fx,hc⟩:=hrel;have HS:=lh fx;have HC:=lh hc;clear fx hc HM aY;by_cases aW:k<E.length
  ·obtain⟨rb,sy,rfl,rc⟩:=aI.cellAt H1.out aW
   have bX:=HC.out.c (gJ.out.c rc);have lU:=HE.out _ (aQ aW);obtain⟨en,lJ⟩:∃ en:Nat,E.getD k 0=en:=⟨(E.getD k 0).toNat,by omega⟩;have H2E:=lh (MC (g:=g) (p:=⟨V,E⟩) aW lJ);rw[lJ] at bX lU;have iM:en<g.e.length:=by omega
   have mN:en<2000:=by have:=iL.out;omega
   have HJL:=lh (Of g ⟨V,E⟩ k en);clear rc lJ lU;go_wp2;clear bX;go_loopw [8,9] (λc _ wr=>∃ j:Nat,j<=2/\c=.int .i64 ((2*en+j:Nat):Int)/\SMap wr mb (2*k+j) (oH g ⟨V,E⟩ k en j)/\ai [] w1 wr) (λc _ _=>2*en+2 - (intOf c).toNat);case atStart=>exact⟨0,by omega,by go_num,by rw[Ju];exact HS.out,HC.out⟩
   case round =>
    obtain⟨j,hj,rfl,fx,AB⟩:=hrel;have sI:=lh fx;have bU:=lh AB;clear fx AB HS HC;by_cases Nr:j<2
    ·have Jm:=lh (Kx g ⟨V,E⟩ k en j)
     obtain⟨d,hd⟩:∃ d:Nat,2*en+j=d:=⟨_,rfl⟩;have oF:d / 2<g.e.length:=by omega
     obtain⟨n',v,ZP,-,hv,AL,-⟩:=HG.out.Gq (d:=(d:Int)) (by omega) (by omega);rw[hd] at Jm ⊢;rw[hv] at Jm;have HV:=lh hv;have xA:(d:Int)<=2*(en:Int)+1:=by omega
     have Ox:bF (d:Int):=bF.mk (by omega) (by omega);have Jh:bF (v:Int):=bF.mk (by omega) (by have:=iL.out;omega);have q0:=bU.out.c (gJ.out.c HG.out.c0);have q1:=bU.out.c (gJ.out.c HG.out.c1);have HL0:=lh (HJL.out j (v:Int));obtain⟨f0,Ry⟩:∃ f0,oH g ⟨V,E⟩ k en j=f0:=⟨_,rfl⟩;rw[Ry] at sI Jm HL0;have RM:k<1024:=by omega
     clear ZP hv Ry;go_wp2_with fail;refine (dH _ g d _ oF (by have:=iL.out;omega) ((HG.out.fresh gJ.out).fresh bU.out).gr).mono ?_;rintro _ w3 ⟨rfl,dK⟩;rw[HV.out];have UG:=lh (sI.out.fresh dK);have b8:=lh (bU.out.t dK);clear dK q0 q1;go_wp2_with (first
      | (at_lookup;refine zg rfl _ _ rfl UG.out (by omega) rfl Jh rfl ?_;intro u4 r4 l4 b4;have R4:=lh r4;have B4:=lh b4;clear r4 l4 b4)
      | (at_builtin;refine cH rfl _ _ rfl (B:=mb+1) rfl rfl (R4.out.aL ((ai.refl [] _).alloc _) (by simp)) (dI _ Ox) (by have:=UG.out.lt;simp;omega) (by have:=HL0.out;simp;omega) ?_;intro u5 w5 q5 c5 f5;have Q5:=lh q5;have D5:=lh (((ai.refl (aC u4) w3).alloc (.cells #[.int .i64 (d:Int)] 3)).trans c5 (λj hj=>Qf hj));have F5:=lh (λj hj=>(f5 j hj).imp id (λq=>Nat.le_trans ((ai.refl [] w3).alloc (.cells #[.int .i64 (d:Int)] 3)).size q));clear q5 c5 f5)
      | (at_mapUpdate;refine yi rfl _ _ _ rfl B4.out rfl rfl rfl Q5.out D5.out F5.out ?_;intro w6 s6 d6;have S6:=lh s6;have D6:=lh d6;clear s6 d6))
     go_roundw;case rel =>
      have VP:∀ j∈aC u4,w1.heap.size<=j:=λj hj=>by have:=(R4.out.low j (by rw[<-R4.out.aC];exact hj)).1;have:=HMB.out;have:=HZ1.out;omega
      refine⟨j+1,by omega,by rw[<-hd];go_num,by rw[Jm.out];exact S6.out,(b8.out.trans D5.out (λj hj=>Qc (VP j hj))).trans D6.out (λj hj=>Qc (by simp at hj;have:=HMB.out;have:=HZ1.out;omega))⟩
     case measure=>simp[intOf];omega
    have e2:j=2:=by omega
    subst e2;rw[H2E.out] at sI;have UG:=lh (show SMap wr mb (2*(k+1)) (outs g ⟨V,E⟩ (k+1)) from sI.out);clear hj Nr;go_wp2;go_roundw;case rel=>exact⟨k+1,by omega,by go_num,UG.out,bU.out⟩
    case measure=>simp[intOf];omega
  have e:k=E.length:=by omega
  subst e;have HVN:=lh (HP.out.vn);have rH:∀ d∈Pt.ah ⟨V,E⟩,0<=d/\d / 2<g.e.length:=λd hd=>by
   have:=HE.out _ (au.1 hd);omega
  have Xc:=lh rH;have Ke:=lh (Wf (on:=on) (a:=(a:Int)) HP.out (λd hd=>(rH d hd).1));have IQ:=lh (show ∀ u∈V,0<=u/\u<N from λu hu=>by have:=HP.out.vr u hu;rw[HG.out.n] at this;exact this);have uk:=lh (show V.length<=1024 by have h:V.length<=N:=lT (l:=V) (N:=N) HP.out.vn IQ.out;have:=iL.out;omega);have S5:=lh (show ∀ d∈Pt.ah ⟨V,E⟩,g.head d∈V from λd hd=>(HP.out.aP hd).2);have HS9:=lh (show SMap wr mb (2*E.length) (aE g ⟨V,E⟩) by
   have h:=HS.out;rwa[show outs g ⟨V,E⟩ E.length=aE g ⟨V,E⟩ from funext λv=>Fh g ⟨V,E⟩ v] at h)
  obtain⟨-,x1,-,-⟩:=HX.out wr HC.out;obtain⟨eb,cR,rfl,rc⟩:=aI.cellAt H2.out lZ;have ec:=HC.out.c (gJ.out.c rc);rw[HA.out,Nat.add_zero] at ec;have ze:=@run_makeMap Tryz.prog;have HIM:=lh (dx.made wr);have aiU:bF (a:Int):=bF.mk (by omega) (by have:=iL.out;omega);have vG:=lh (show w.heap.size<=wr.heap.size from (gJ.out.t HC.out).size);have awF:=lh HS9.out.lt;clear rc rH hk aW HS;go_wp2_with (refine BS rfl _ _ _ rfl HIM.out (by unfold maxLen;omega) rfl aiU (bF.mk (by omega) (by omega)) rfl rfl ?_;intro w2 mD Lg;have sY:=lh mD;have Ui:=lh Lg;clear mD Lg);clear ze x1 ec;have bU:=lh (show ai [] wr w2 from ((ai.refl [] wr).alloc (.map #[] 0)).grown Ui.out (row:=some wr.heap.size) (λk hk=>by cases hk;exact Qc (Qp _)));have Dw:=lh (HC.out.t bU.out);have aeI:=lh (gJ.out.t Dw.out);have V8:=lh (jW.uL (pP (w:=w2) (B:=w2.heap.size) (Qp _) aiU));have b8:=lh ((ai.refl [] w2).alloc (.cells #[.int .i64 (a:Int)] 3));have ZC:=lh (sY.out.aL b8.out (by simp));obtain⟨cb,Ij⟩:∃ n,wr.heap.size=n:=⟨_,rfl⟩;have nm:=lh Ij;rw[Ij] at ZC ⊢;have LB:=lh (show cb<w2.heap.size from by have:=sY.out.lt;rw[Ij] at this;exact this);have Jy:=lh (HS9.out.fresh bU.out);clear Ij HIM sY Ui;generalize w2.alloc (.cells #[.int .i64 (a:Int)] 3)=w3 at *;obtain⟨H,hH⟩:∃ n,w2.heap.size=n:=⟨_,rfl⟩;have HHH:=lh hH;rw[hH] at V8 LB ⊢;clear hH;obtain⟨T,hT⟩:∃ T,jt g on ⟨V,E⟩ (V.length+2) (λy=>if y=(a:Int) then some (-1) else none) [(a:Int)]=T:=⟨_,rfl⟩;have HT:=lh hT;rw[show (⟨V,E⟩:Pt).v.length=V.length from rfl,hT] at Ke;have HFU:=lh (Ac (p:=⟨V,E⟩) (a:=(a:Int)));clear hT;go_loopg [12] (V.length+2) (λfuel Jk wx=>fuel<=V.length+2/\∃ (bd:ju) (q:List Int) (n:Nat),jW wx H Jk q/\dx wx cb n bd/\Hid (jt g on ⟨V,E⟩ fuel bd q=T/\q.length+jN V bd<fuel/\n+jN V bd<=V.length+1/\∀ x∈q,x∈V)/\ai [cb] w2 wx)
  case atStart=>exact⟨Nat.le_refl _,_,[(a:Int)],1,V8.out,ZC.out,lh ⟨HT.out,HFU.out,by have:=HFU.out;simp only[Qb,Qk] at this;omega,by intro x hx;rw[Qa.1 hx];exact HAV.out⟩,b8.out.mono (by simp)⟩
  case round =>
   obtain⟨hfu,bd,q,n,hq,him,hinv,hc⟩:=hrel;have HQR:=lh hq;have ahT:=lh him;have lY:=lh hc;have qa:=lh (aeI.out.trans hc (λj hj=>Qc (by rw[Qa] at hj;have:=vG.out;have:=nm.out;omega)));have HCS:=lh (bU.out.trans hc (λj hj=>Qc (by rw[Qa] at hj;have:=nm.out;omega)));clear hq him hc;cases q with
   | nil =>
    obtain⟨qo,qc,rfl⟩:=HQR.out.shape;have HE0:=lh (show mU g on ⟨V,E⟩ a=[] from Ke.out.2 bd (by rw[<-hinv.out.1];cases gk <;> rfl));go_wp2;go_ret;exact⟨_,rfl,by rw[HE0.out];exact da _ _,qa.out⟩
   | cons u q =>
    have PD:1<=gk:=by have:=hinv.out.2.1;simp only[Qb] at this;omega
    have Wp:=lh (show T=match fp g on (aE g ⟨V,E⟩ u) bd q with | (some z,c,_)=>(some z,c) | (none,c,q')=>jt g on ⟨V,E⟩ (gk - 1) c q' by
     rw[<-hinv.out.1];obtain⟨n',ZP⟩:∃ n',gk=n'+1:=⟨gk - 1,by omega⟩;rw[ZP];rfl)
    have huV:=hinv.out.2.2.2 u (by simp);have Yx:=IQ.out u huV;have apJ:bF u:=bF.mk (by omega) (by have:=iL.out;omega);obtain⟨qb,aqk,agV,rfl,aha,hqc,-,-⟩:=HQR.out.cons;have hqp:(0:Int)<((q.length+1:Nat):Int):=by omega
    have FY:=lh (show q.length+1+jN V bd<gk/\n+jN V bd<=V.length+1/\∀ x∈q,x∈V from⟨by have:=hinv.out.2.1;simp only[Qb] at this;exact this,hinv.out.2.2.1,λx hx=>hinv.out.2.2.2 x (by simp[hx])⟩);have hlq:(u :: q).length=q.length+1:=rfl;clear huV Yx hinv;go_wp2_with (at_lookup;refine tS rfl _ _ rfl HS9.out HCS.out (by omega) rfl apJ rfl ?_;intro vv r0;obtain⟨vo,vc,rfl⟩:=r0.shape;have R0:=lh r0;clear r0);have HLD:=lh (show ∀ d∈aE g ⟨V,E⟩ u,d∈Pt.ah ⟨V,E⟩/\g.tail d=u from λd hd=>aX.1 hd);obtain⟨L,hL⟩:∃ L,aE g ⟨V,E⟩ u=L:=⟨_,rfl⟩;rw[hL] at Wp R0 HLD ⊢;obtain⟨WI,hWI⟩:∃ WI,fp g on L bd q=WI:=⟨_,rfl⟩;have HWI:=lh hWI;rw[hWI] at Wp;have Yw:L.length<4294967296:=R0.out.2.2;clear hL hWI aha hqc;go_loopw [12,70] (λJk c70 wx=>∃ (k:Nat) (bd:ju) (q:List Int) (n:Nat),k<=L.length/\c70=.int .i64 k/\jW wx H Jk (u :: q)/\dx wx cb n bd/\Hid (fp g on (L.drop k) bd q=WI/\q.length+1+jN V bd<gk/\n+jN V bd<=V.length+1/\∀ x∈q,x∈V)/\ai [cb] w2 wx) (λ_ c _=>L.length - (intOf c).toNat);case atStart=>exact⟨0,bd,q,n,Qe _,rfl,HQR.out,ahT.out,lh ⟨HWI.out,FY.out.1,FY.out.2.1,FY.out.2.2⟩,lY.out⟩
    case round =>
     obtain⟨k,rm,q1,n1,hk,rfl,hq,him,dE,hc⟩:=hrel;have Pc:=lh hq;have HI1:=lh him;have abj:=lh hc;have amP:=lh (bU.out.trans hc (λj hj=>Qc (by rw[Qa] at hj;have:=nm.out;omega)));have Wl:=lh (aeI.out.trans hc (λj hj=>Qc (by rw[Qa] at hj;have:=vG.out;have:=nm.out;omega)));clear hq him hc HQR ahT lY HCS qa;by_cases aW:k<L.length
     ·obtain⟨gr,hvo,xK⟩:=R0.out.some (by omega)
      subst hvo;have ck:=amP.out.c (xK k aW);obtain⟨xA,Ms⟩:=HLD.out (L.getD k 0) (by simp[List.getD,aW]);have Pj:=Xc.out _ xA;have HDC:=lh (drop_cons aW);have hxV:=S5.out _ xA;have hxr:=IQ.out _ hxV;obtain⟨d,hd⟩:∃ d:Nat,L.getD k 0=d:=⟨(L.getD k 0).toNat,by omega⟩;rw[hd] at ck xA Pj HDC hxV hxr;obtain⟨x,hx⟩:∃ x:Nat,g.head (d:Int)=x:=⟨(g.head (d:Int)).toNat,by omega⟩;have HX:=lh hx;rw[hx] at hxV hxr;have xq:g.tail (aH (d:Int))=x:=by rw[az];exact hx
      have zu:=bJ (d:Int);have JC:0<=aH (d:Int):=by omega
      obtain⟨t,ht⟩:∃ t:Nat,aH (d:Int)=t:=⟨(aH (d:Int)).toNat,by omega⟩;rw[ht] at xq zu;have ht2:t / 2<g.e.length:=by omega
      have Io:=ql d (by have:=iL.out;omega);rw[ht] at Io;have HTW:=lh xq;have hxN:x<N:=by omega
      have hxi:(x:Int)<(N:Int):=by omega
      have O':bF (x:Int):=bF.mk (by omega) (by have:=iL.out;omega);have Ox:bF (d:Int):=bF.mk (by omega) (by have:=iL.out;omega);have Zx:=lh hxV;have q0:=Wl.out.c HG.out.c0;have qq1:=Wl.out.c HG.out.c1;have NH:=lh dE.out.1;have JQ:=lh dE.out.2;rw[HDC.out] at NH;clear xK xA Ms Pj hxV hxr hd hx xq zu JC ht dE;go_wp2_with fail;refine (dH _ g t _ ht2 (by have:=iL.out;omega) (HG.out.fresh Wl.out).gr).mono ?_;rintro _ w5 ⟨rfl,dV⟩;rw[HTW.out];have fG:=lh (abj.out.t dV);have aeJ:=lh (Wl.out.t dV);have HQ5:=lh (Pc.out.aL dV (by simp));have HI5:=lh (HI1.out.aL dV (by simp));clear dV q0 qq1 ck;cases eV:rm (x:Int) with
      | some z =>
       have xS:=lh eV;have Iu:=lh (show fp g on (L.drop (k+1)) rm q1=WI by rw[<-NH.out];exact (MN (by rw[HX.out];exact eV)).symm);clear eV;go_wp2_with (at_lookup;refine jX _ rfl _ _ rfl HI5.out rfl O' rfl xS ?_);go_roundw;case rel=>exact⟨k+1,rm,q1,n1,by omega,by go_num,HQ5.out,HI5.out,lh ⟨Iu.out,JQ.out⟩,fG.out⟩
       case measure=>simp[intOf];omega
      | none =>
       have xS:=lh eV;have HUN:=lh (yM (c:=(d:Int)) HVN.out Zx.out eV);have J8:n1<maxLen:=by unfold maxLen;have:=JQ.out.2.1;have:=uk.out;omega
       have HQN:=lh (show ∀ b∈(u12:Value).ownBlock.toList,b ∉ [cb] from λb hb e=>by have:=(HQ5.out.own b hb).1;have:=LB.out;rw[Qa] at e;omega);cases Ir:on (x:Int) with
       | true =>
        have Pr:=lh (show T=(some (x:Int),λy=>if y=(x:Int) then some (d:Int) else rm y) by
         have h:=TV (g:=g) (on:=on) (d:=(d:Int)) (ds:=L.drop (k+1)) (bd:=rm) (q:=q1) (by rw[HX.out];exact eV) (by rw[HX.out];exact Ir);rw[NH.out,HX.out] at h;rw[Wp.out,h])
        obtain⟨l,yJ,Cj,hl3,hl4,Yb⟩:=Ke.out.1 _ _ Pr.out;have It:=lh yJ;have UX:=lh Cj;have HL3:=lh hl3;have HL4:=lh (show l.length<1000000 by have h:l.length<=V.length:=hl4;have:=uk.out;omega);have HL5:=lh (show ∀ d∈l,0<=d/\d / 2<g.e.length from λd hd=>Xc.out d (Yb d hd));have HOX:=lh Ir;clear eV Ir yJ Cj hl3 hl4 Yb;go_wp2_with (first
         | (at_lookup;refine fP _ rfl _ _ rfl HI5.out rfl O' rfl xS ?_)
         | (at_mapUpdate;refine ph _ rfl _ _ _ rfl HI5.out J8 rfl O' Ox rfl rfl ?_;intro w7 Su Sp;have HI7:=lh Su;have C7:=lh (aeJ.out.trans ((ai.refl [cb] w5).grown Sp (λj hj=>by cases hj;exact Qf (by simp))) (λj hj=>Qc (by rw[Qa] at hj;have:=vG.out;have:=nm.out;omega)));have b2:=C7.out.c HQ.out;have bb:=((Nj.out.base (Qe _)).aL C7.out (by simp)).cell hxN;rw[HOX.out] at bb;clear Su Sp))
        refine (JG sb N (n1+1) cb vE g _ (a:Int) x l w7 (HG.out.fresh C7.out) HI7.out (by have:=iL.out;omega) HL3.out UX.out HL4.out HL5.out).mono ?_;rintro _ w8 ⟨v8,rfl,LF,su⟩;have HR8:=lh (LF.base C7.out.size);have DG:=lh (C7.out.t su);clear LF su;go_wp2;go_ret;exact⟨_,rfl,by rw[It.out];exact HR8.out,DG.out⟩
       | false =>
        have Iu:=lh (show fp g on (L.drop (k+1)) (λy=>if y=(x:Int) then some (d:Int) else rm y) (q1++[(x:Int)])=WI by
         have h:=OF (g:=g) (on:=on) (d:=(d:Int)) (ds:=L.drop (k+1)) (bd:=rm) (q:=q1) (by rw[HX.out];exact eV) (by rw[HX.out];exact Ir);rw[NH.out,HX.out] at h;exact h.symm)
        have HOX:=lh Ir;have hqn:(u :: q1).length+1<4294967296:=by have:=JQ.out.1;have:=uk.out;have h:(u :: q1).length=q1.length+1:=rfl;omega
        obtain⟨qo,qc,rfl⟩:=HQ5.out.shape;clear eV Ir;go_wp2_with (first
         | (at_lookup;refine fP _ rfl _ _ rfl HI5.out rfl O' rfl xS ?_)
         | (at_mapUpdate;refine ph _ rfl _ _ _ rfl HI5.out J8 rfl O' Ox rfl rfl ?_;intro w7 Su Sp;have HI7:=lh Su;have D7:=lh ((ai.refl [cb] w5).grown Sp (λj hj=>by cases hj;exact Qf (by simp)));have C7:=lh (aeJ.out.trans D7.out (λj hj=>Qc (by rw[Qa] at hj;have:=vG.out;have:=nm.out;omega)));have b2:=C7.out.c HQ.out;have bb:=((Nj.out.base (Qe _)).aL C7.out (by simp)).cell hxN;rw[HOX.out] at bb;have HQ7:=lh (HQ5.out.aL D7.out HQN.out);have HHS:=lh (show H<=w7.heap.size by rw[<-HHH.out];exact (fG.out.trans D7.out (λj hj=>Qf hj)).size);clear Su Sp)
         | (at_builtin;refine Mh rfl _ _ rfl rfl rfl HQ7.out O' HHS.out hqn ?_;intro v9 w9 r9 c9;have R9:=lh r9;have C9:=lh c9;clear r9 c9))
        go_roundw;case rel =>
         have jY:∀ j∈(Value.slice qo (u :: q1).length qc).ownBlock.toList,H<=j:=λj hj=>(HQ7.out.own j hj).1;refine⟨k+1,_,q1++[(x:Int)],n1+1,by omega,by go_num,R9.out,HI7.out.aL C9.out (λe=>by have:=jY _ e;have:=LB.out;omega),lh ⟨Iu.out,?_,?_,?_⟩,?_⟩
         ·have h1:=HUN.out
          have h2:=JQ.out.1;rw[Qd];simp only[Qb,Qk];omega
         ·have h1:=HUN.out
          have h2:=JQ.out.2.1;omega
         ·intro y hy
          rcases List.mem_append.1 hy with r | r
          ·exact JQ.out.2.2 y r
          rw[Qa.1 r];exact Zx.out
         exact (fG.out.trans D7.out (λj hj=>Qf hj)).trans C9.out (λj hj=>Qc (by rw[HHH.out];exact jY j hj))
        case measure=>simp[intOf];omega
     have e:k=L.length:=by omega
     subst e;have NH:=lh dE.out.1;rw[List.drop_length] at NH;have Pr:=lh (show jt g on ⟨V,E⟩ (gk - 1) rm q1=T by rw[Wp.out,<-NH.out];rfl);have JQ:=lh dE.out.2;obtain⟨qb,aqk,agV,rfl,-,hqc,EC,tX⟩:=Pc.out.cons;have HQA:=lh EC;have HQB:=lh tX;have ahG:gk - 1<=V.length+2:=by omega
     clear dE hk aW EC tX;by_cases oK:1=agV
     ·subst oK
      have HQC:=lh (HQA.out rfl);have hq0:q1.length=0:=by omega
      go_wp2;go_roundg (gk - 1)
      case measure=>omega
      case rel=>exact⟨ahG,rm,q1,n1,by have h:=HQC.out;rw[hq0] at h;exact h,HI1.out,lh ⟨Pr.out,by have:=JQ.out.1;omega,JQ.out.2⟩,abj.out⟩
     have HQC:=lh (HQB.out (λe=>oK e.symm));have yJ:q1.length+1 - 1=q1.length:=by omega
     go_wp2;go_roundg (gk - 1)
     case measure=>omega
     case rel=>exact⟨ahG,rm,q1,n1,HQC.out,HI1.out,lh ⟨Pr.out,by have:=JQ.out.1;omega,JQ.out.2⟩,abj.out⟩
end Go.Proofs.YtoiflofhcmjpoaaGreat
-- READS ONLY
namespace Go.Proofs.YtoiflofhcmjpoaaGreat
open Plain
open Go.RowKit Go.Maps
variable {w w':World} {b B sz n N k fb hb:Nat} {u e:TypeId} {v fv ov:Value} {xs:List Value} {l:List Int} {g:Gr} {F:List (List Int)}
theorem Fe (pc v:Nat) (_hv:v<1000000) (w:World) :
  Calls Tryz.prog 134 #[.int .i64 v,.pointer (some ⟨pc,0,none⟩)] w λe w'=>e=.returned (.func (Fn.func 135) #[] #[.pointer (some ⟨pc,0,none⟩),.pointer (some ⟨w.heap.size,0,none⟩)])/\w'=w.alloc (.cells #[.int .i64 v] 3):=by
 go_enter Tryz.func134,Tryz.ntmps134;go_wp2;go_ret;exact⟨rfl,rfl⟩
theorem ME (n v pc bx sb N:Nat) (vE:Value) (g:Gr) (w:World) (hG:pn w sb g vE N) (hd:n / 2<g.e.length) (_hv:v<1000000) (c1:w.cell? ⟨pc,0,none⟩=some (.pointer (some ⟨sb,0,none⟩))) (c2:w.cell? ⟨bx,0,none⟩=some (.int .i64 v)) :
  Calls Tryz.prog 135 #[.int .i64 n,.pointer (some ⟨pc,0,none⟩),.pointer (some ⟨bx,0,none⟩)] w λe w'=>e=.returned (.bool (decide (g.tail n=v)))/\ai [] w w':=by
 have HG:=lh hG;have q0:=hG.c0;have q1:=hG.c1;have iL:=lh hG.small;obtain⟨x,hx⟩:∃ x,g.tail (n:Int)=x:=⟨_,rfl⟩;have HX:=lh hx;rw[hx];clear hG hx;go_enter Tryz.func135,Tryz.ntmps135;go_wp2_with fail;have aG:ai [] w w.drew:=(ai.refl [] w).drew;refine al (ai [] w) [0,1,2,3,4,6,7,8] (Way.line [0,1,2,3,4,6,5,7,8] .done) (by kernel_rfl) (by kernel_rfl) ?_;simp only[Way.line]
 repeat (refine aj (v:=?_) rfl (by rfl) (by rfl) (λ_ _ _ h=>h) aG (λw' aB=>?_) ?_;rotate_left;(focus (have fE:=aB.c c1;have fV:=aB.c c2;have kD:=aB.c q0;have tq:=aB.c q1;clear aB;go_simp;try with_reducible rfl));simp only[Qr,Z1,Z2,Z3,Z4,Z5,Z6])
 refine aq rfl (by rfl) (by rfl) (λK hK=>?_);go_simp;refine (dH _ g n _ hd (by have:=iL.out;omega) (HG.out.fresh aG).gr).mono ?_;rw[HX.out];rintro e w3 ⟨rfl,dK⟩;have bH:ai [] w w3:=aG.t dK;refine hK.out _ _ (λ_=>bH) ?_;clear hK K dK aG;try simp only[Qr,Z1,Z2,Z3,Z4,Z5,Z6]
 repeat (refine aj (v:=?_) rfl (by rfl) (by rfl) (λ_ _ _ h=>h) bH (λw' aB=>?_) ?_;rotate_left;(focus (have fE:=aB.c c1;have fV:=aB.c c2;have kD:=aB.c q0;have tq:=aB.c q1;clear aB;go_simp;try with_reducible rfl));simp only[Qr,Z1,Z2,Z3,Z4,Z5,Z6])
 refine ar ?_;go_wp2;go_ret;exact⟨aM (by rfl),bH⟩
theorem Bt (v pc bx sb N:Nat) (vE:Value) (g:Gr) (vq:Value) (q:List Int) (w:World) (hG:pn w sb g vE N) (hv:v<1000000) (c1:w.cell? ⟨pc,0,none⟩=some (.pointer (some ⟨sb,0,none⟩))) (c2:w.cell? ⟨bx,0,none⟩=some (.int .i64 v)) (hq:∀ d∈q,0<=d/\d / 2<g.e.length) (Rk:q.length<1000000000) (hvq:aI w vq q) :
  Calls Tryz.prog 109 #[vq,.func (Fn.func 135) #[] #[.pointer (some ⟨pc,0,none⟩),.pointer (some ⟨bx,0,none⟩)]] w λe w'=>e=.returned (.int .i64 (Ey (λd=>decide (g.tail d=(v:Int))) q))/\ai [] w w':=by
 have HQ:=lh hq;have HV:=lh hvq;have HG:=lh hG;have H1:=lh c1;have H2:=lh c2;obtain⟨ao,ac,rfl,-,-,-⟩:=hvq;clear hq c1 c2 hG;obtain⟨P,hP⟩:∃ P:Int->Bool,(λd=>decide (g.tail d=(v:Int)))=P:=⟨_,rfl⟩;have HP:=lh (λd=>show decide (g.tail d=(v:Int))=P d from congrFun hP d);rw[hP];clear hP;go_enter Tryz.func109,Tryz.ntmps109;go_wp2;go_loopw [8] (λc wr=>∃ k:Nat,k<=q.length/\c=.int .i64 k/\Hid (∀ j,j<k->P (q.getD j 0)=false)/\ai [] w wr) (λc _=>q.length - (intOf c).toNat);case atStart=>exact⟨0,Qe _,rfl,lh (by omega),ai.refl _ _⟩
 case round =>
  obtain⟨k,hk,rfl,HN,hc⟩:=hrel;have HC:=lh hc;by_cases aW:k<q.length
  ·obtain⟨rb,sy,rfl,rc⟩:=aI.cellAt HV.out aW
   have bX:=hc.c rc;have hr:=HQ.out _ (aQ aW);have nj:=lh (λ(h:P (q.getD k 0)=true)=>xT (P:=P) aW h HN.out);have oL:=lh (λ(h:P (q.getD k 0)=false) j (hj:j<k+1)=>(show P (q.getD j 0)=false from by
    by_cases e:j=k
    ·rw[e];exact h
    exact HN.out j (by omega)))
   obtain⟨n,e1⟩:∃ n:Nat,q.getD k 0=n:=⟨(q.getD k 0).toNat,by omega⟩;rw[e1] at bX nj oL hr;have kr:n / 2<g.e.length:=by grind
   clear rc e1 hc hr;go_wp2_with fail;refine (ME n v pc bx sb N vE g _ (HG.out.fresh HC.out) kr hv (HC.out.c H1.out) (HC.out.c H2.out)).mono ?_;rintro e w2 ⟨rfl,bI⟩;rw[HP.out];have bU:=lh (HC.out.t bI);clear bI bX;cases h:P (n:Int) with
   | true =>
    have HI:=lh (nj.out h);clear h;go_wp2;go_ret;exact⟨aR (show ((k:Nat):Int)=_ by rw[HI.out]),bU.out⟩
   | false =>
    have HI:=lh (oL.out h);clear h;go_wp2;go_roundw;case rel=>exact⟨k+1,by omega,by go_num,HI,bU.out⟩
    case measure=>simp[intOf];omega
  have e:k=q.length:=by omega
  subst e;have HI:=lh (tK (P:=P) HN.out);clear hc;go_wp2;go_ret;exact⟨aR (show (-1:Int)=_ by rw[HI.out]),HC.out⟩
def bL (w:World) (b:Nat) (t:TypeId):Prop:=∃ cs r,w.heap[b]?=some (.cells cs t r)
theorem bL.one {t:TypeId} (h:bL w b t) (k:bL w b u):t=u:=by
 obtain⟨c1,r1,h⟩:=h;obtain⟨c2,r2,k⟩:=k
 grind
theorem bL.ne {c:Nat} {t:TypeId} (h:bL w b t) (k:bL w c u) (hn:t≠u):b≠c:=λe=>hn (h.one (e ▸ k))
theorem bL.lt {t:TypeId} (h:bL w b t):b<w.heap.size:=by
 obtain⟨c1,r1,h⟩:=h
 grind
theorem bL.aL {t:TypeId} {own:List Nat} (h:bL w b t) (hc:ai own w w') (hb:b ∉ own):bL w' b t:=by
 obtain⟨c1,r1,h⟩:=h;exact⟨c1,r1,hc.heap h hb⟩
theorem bM (h:w.ownsRow B e sz v n xs) (hb:v.ownBlock=some b):bL w b e:=by
 rcases h.2 with ⟨rfl,_⟩ | ⟨g',c',cur,rfl,_,hh,_⟩
 ·cases hb
 simp[Qm] at hb;subst hb;exact⟨_,_,hh⟩
theorem aw.cO (h:aw w B v l) (hb:v.ownBlock=Option.some b):bL w b 3:=bM h.1 hb
theorem bT.cO {f:Int->Bool} (h:bT w B b n f):bL w b 4:=by
 obtain⟨cs,hh⟩:=h.kind;exact⟨cs,_,hh⟩
theorem cW.kinds (h:cW g w B N fv xs F) (hk:k<xs.length) (hb:(xs.getD k undef).ownBlock=some b):B<=b/\b<w.heap.size/\(bL w b 3\/bL w b 4):=by
 have hl:=h.len;rcases (show ∃ i,k=2*i\/k=2*i+1 from⟨k / 2,by omega⟩) with ⟨i,rfl | rfl⟩
 ·have hr:=h.row i (by omega)
  have:=hr.low b (by grind);exact⟨this.1,this.2,Qf (hr.cO hb)⟩
 obtain⟨b',e,O1⟩:=h.has i (by omega);rw[e] at hb;simp[Qm] at hb;subst hb;have:=O1.lt;exact⟨this.1,this.2,Qc O1.cO⟩
theorem cW.other {own:List Nat} (h:cW g w B N fv xs F) (hc:ai own w w') (ho:∀ j∈own,∃ t,bL w j t/\t≠158/\t≠3/\t≠4):cW g w' B N fv xs F:=by
 refine h.aL hc (λb hb hm=>?_) (λk b hk hb hm=>?_)
 ·obtain⟨t,h1,h2,-,-⟩:=ho b hm
  exact h2 (h1.one (bM h.out hb))
 obtain⟨t,h1,-,h2,h3⟩:=ho b hm;rcases (h.kinds hk hb).2.2 with q | q
 ·exact h2 (h1.one q)
 exact h3 (h1.one q)
theorem bN.others {cs:List Cell} {own:List Nat} (h:bN w B e sz ov n xs cs) (hc:ai own w w') (ho:∀ j∈own,∃ t,bL w j t/\t≠e/\t≠3):bN w' B e sz ov n xs cs :=
 h.other hc λj hj cs t r hh=>by
  obtain⟨u,h1,h2,h3⟩:=ho j hj;have:=h1.one ⟨cs,r,hh⟩;subst this;exact⟨h2,h3⟩
structure cB (w0 w:World) (sb ob N:Nat) (g:Gr) (vE fv rv:Value) (on:Int->Bool):Prop where
 gr:cA w0 (.agg #[.int .i64 g.n,vE]) g
 n:g.n=N
 err:g.err=0
 aL:ai [] w0 w
 low:w0.heap.size<=sb
 heap:w.heap[sb]?=some (.cells #[.int .i64 g.n,vE,.slice (some ⟨ob,0,none⟩) N N,fv,rv] 113 (0,0))
 on:bT w w0.heap.size ob N on
section
variable {w0 w w' : World} {sb ob N : Nat} {g : Gr} {vE fv rv : Value} {on : Int -> Bool}
theorem cB.kind (h:cB w0 w sb ob N g vE fv rv on):bL w sb 113:=⟨_,_,h.heap⟩
theorem cB.A6 (h:cB w0 w sb ob N g vE fv rv on):pn w sb g vE N :=
 ⟨(cell_of_row _ _ 0 _ _ _ h.heap).trans rfl,(cell_of_row _ _ 1 _ _ _ h.heap).trans rfl,h.gr.fresh h.aL,h.n,h.err⟩
theorem cB.q2 (h:cB w0 w sb ob N g vE fv rv on):w.cell? ⟨sb,2,none⟩=some (.slice (some ⟨ob,0,none⟩) N N):=(cell_of_row _ _ 2 _ _ _ h.heap).trans rfl
theorem cB.q3 (h:cB w0 w sb ob N g vE fv rv on):w.cell? ⟨sb,3,none⟩=some fv:=(cell_of_row _ _ 3 _ _ _ h.heap).trans rfl
theorem cB.q4 (h:cB w0 w sb ob N g vE fv rv on):w.cell? ⟨sb,4,none⟩=some rv:=(cell_of_row _ _ 4 _ _ _ h.heap).trans rfl
theorem cB.free (h:cB w0 w sb ob N g vE fv rv on) (i:Nat):w.frozen? ⟨sb,i,none⟩=false:=bE h.heap i
theorem cB.more {own:List Nat} (h:cB w0 w sb ob N g vE fv rv on) (hc:ai own w w') (h0:∀ j∈own,w0.heap.size<=j) (h1:sb ∉ own) (h2:ob ∉ own):cB w0 w' sb ob N g vE fv rv on :=
 ⟨h.gr,h.n,h.err,h.aL.trans hc (λj hj=>Qc (h0 j hj)),h.low,hc.heap h.heap h1,h.on.aL hc h2⟩
theorem cB.fresh (h:cB w0 w sb ob N g vE fv rv on) (hc:ai [] w w'):cB w0 w' sb ob N g vE fv rv on:=h.more hc (by simp) (by simp) (by simp)
theorem cB.Sh (h:cB w0 w sb ob N g vE fv rv on):ob≠sb:=h.on.cO.ne h.kind (by decide)
theorem cB.aom (h:cB w0 w sb ob N g vE fv rv on) (fv':Value):cB w0 (w.setCell ⟨sb,3,none⟩ fv') sb ob N g vE fv' rv on:=by
 have hc:ai [sb] w (w.setCell ⟨sb,3,none⟩ fv'):=(ai.refl _ _).setCell (Qf (by simp)) _;exact⟨h.gr,h.n,h.err,h.aL.trans hc (λj hj=>Qc (by rw[Qa.1 hj];exact h.low)),h.low,heap_setCell_same h.heap 3 fv',h.on.aL hc (by simpa using h.Sh)⟩
theorem cB.ahK (h:cB w0 w sb ob N g vE fv rv on) (rv':Value):cB w0 (w.setCell ⟨sb,4,none⟩ rv') sb ob N g vE fv rv' on:=by
 have hc:ai [sb] w (w.setCell ⟨sb,4,none⟩ rv'):=(ai.refl _ _).setCell (Qf (by simp)) _;exact⟨h.gr,h.n,h.err,h.aL.trans hc (λj hj=>Qc (by rw[Qa.1 hj];exact h.low)),h.low,heap_setCell_same h.heap 4 rv',h.on.aL hc (by simpa using h.Sh)⟩
theorem cB.agf (h:cB w0 w sb ob N g vE fv rv on) (v:Nat):cB w0 (w.setCell ⟨ob,v,none⟩ (.bool true)) sb ob N g vE fv rv (λu=>if u=(v:Int) then true else on u):=by
 have hc:ai [ob] w (w.setCell ⟨ob,v,none⟩ (.bool true)):=(ai.refl _ _).setCell (Qf (by simp)) _;exact⟨h.gr,h.n,h.err,h.aL.trans hc (λj hj=>Qc (by rw[Qa.1 hj];exact h.on.lt.1)),h.low,hc.heap h.heap (by grind [cB.Sh]),h.on.set true⟩
theorem cB.same (h:cB w0 w sb ob N g vE fv rv on) {on':Int->Bool} (he:∀ i:Nat,i<N->on i=on' i):cB w0 w sb ob N g vE fv rv on':=⟨h.gr,h.n,h.err,h.aL,h.low,h.heap,uY h.on he⟩
end
structure oV (ob:Nat) (xs ys:List Value):Prop where
 o:∀ k,k<xs.length->(xs.getD k undef).ownBlock≠some ob
 y:∀ k l b,k<xs.length->l<ys.length->(xs.getD k undef).ownBlock=some b->(ys.getD l undef).ownBlock≠some b
structure GU (w0 w:World) (sb ob N:Nat) (g:Gr) (vE fv rv:Value) (xs ys:List Value) (s:Sk):Prop where
 base:cB w0 w sb ob N g vE fv rv s.on
 ak:cW g w w0.heap.size N fv xs s.ak
 rest:bN w w0.heap.size 162 3 rv s.rest.length ys (eG s.rest)
 far:oV ob xs ys
section
variable {w0 w w' : World} {sb ob N : Nat} {g : Gr} {vE fv rv : Value} {xs ys : List Value} {s : Sk}
end
theorem cW.put {c f:Nat} (h:cW g w B N (.slice (some ⟨fb,0,none⟩) F.length c) xs F) (hf:f<F.length) (hv:aw w B v l) (hh:bT w B hb N (dM g l)) :
  cW g ((w.setCell ⟨fb,2*f,none⟩ v).setCell ⟨fb,2*f+1,none⟩ (.slice (some ⟨hb,0,none⟩) N N)) B N (.slice (some ⟨fb,0,none⟩) F.length c) ((xs.set (2*f) v).set (2*f+1) (.slice (some ⟨hb,0,none⟩) N N)) (F.set f l):=by
 have hl:=h.len;have hk:bL w fb 158:=bM h.out rfl;have hc:ai [fb] w ((w.setCell ⟨fb,2*f,none⟩ v).setCell ⟨fb,2*f+1,none⟩ (.slice (some ⟨hb,0,none⟩) N N)):=((ai.refl _ _).setCell (Qf (by simp)) _).setCell (Qf (by simp)) _;have aT:∀ {u:Value} {m:List Int},aw w B u m->aw ((w.setCell ⟨fb,2*f,none⟩ v).setCell ⟨fb,2*f+1,none⟩ (.slice (some ⟨hb,0,none⟩) N N)) B u m:=λhr=>hr.aL hc λb hb=>by
  rw[Qa];exact (hr.cO (by grind)).ne hk (by decide)
 have O1:∀ {b:Nat} {p:Int->Bool},bT w B b N p->bT ((w.setCell ⟨fb,2*f,none⟩ v).setCell ⟨fb,2*f+1,none⟩ (.slice (some ⟨hb,0,none⟩) N N)) B b N p:=λhr=>hr.aL hc (by
  rw[Qa];exact hr.cO.ne hk (by decide))
 refine⟨?_,by simp[hl],λi hi=>?_,λi hi=>?_⟩
 ·have h1:=(h.out.stored (2*f) v).1
  have h2:=(h1.stored (2*f+1) (.slice (some ⟨hb,0,none⟩) N N)).1
  grind
 ·rw[Ql] at hi
  rw[eK _ _ _ _ _ (by grind),if_neg (by omega),eK _ _ _ _ _ (by omega),uZ _ _ _ _ hf];by_cases e:i=f
  ·rw[if_pos (by omega),if_pos e];exact aT hv
  rw[if_neg (by omega),if_neg e];exact aT (h.row i hi)
 rw[Ql] at hi;rw[eK _ _ _ _ _ (by grind),uZ _ _ _ _ hf];by_cases e:i=f
 ·rw[if_pos (by omega),if_pos e];exact⟨hb,rfl,O1 hh⟩
 rw[if_neg (by omega),if_neg e,eK _ _ _ _ _ (by omega),if_neg (by omega)];obtain⟨b,e1,h1⟩:=h.has i hi;exact⟨b,e1,O1 h1⟩
theorem cW.add {c:Nat} (h:cW g w B N fv xs F) (hv:aw w B v l) (hh:bT w B hb N (dM g l))
  (hn:w'.ownsRow B 158 2 (.slice (some ⟨fb,0,none⟩) (F.length+1) c) (F.length+1) (xs++[v,.slice (some ⟨hb,0,none⟩) N N])) (hc:ai fv.ownBlock.toList w w') :
  cW g w' B N (.slice (some ⟨fb,0,none⟩) (F.length+1) c) (xs++[v,.slice (some ⟨hb,0,none⟩) N N]) (F++[l]):=by
 have hl:=h.len;have hk:∀ b∈fv.ownBlock.toList,bL w b 158:=λb hb=>bM h.out (by grind);have aT:∀ {u:Value} {m:List Int},aw w B u m->aw w' B u m:=λhr=>hr.aL hc λb hb hm=>(hr.cO (by grind)).ne (hk b hm) (by decide) rfl;have O1:∀ {b:Nat} {p:Int->Bool},bT w B b N p->bT w' B b N p:=λhr=>hr.aL hc λhm=>hr.cO.ne (hk _ hm) (by decide) rfl;refine⟨by grind,by grind,λi hi=>?_,λi hi=>?_⟩
 ·rw[Qd,Qg] at hi
  by_cases e:i<F.length
  ·rw[cP (by omega),cP e];exact aT (h.row i e)
  all_goals grind
 rw[Qd,Qg] at hi;by_cases e:i<F.length
 ·rw[cP (by omega),cP e]
  obtain⟨b,e1,h1⟩:=h.has i e
  grind
 all_goals grind
