/- draw's sketch: uG: contract. Conditions: a sketch's graph, drawn vertices, a scrap that lie in memory and read so. -/
import Derived.Test.YtbkjljffnkdcjaaGreatD9DropG
open List renaming mem_singleton→Qa,length_append→Qb,length_cons→Qc,length_set→Qd,length_singleton→Qh,filter_append→Qj,filter_cons→Qk,filter_nil→Ql,length_nil→Qm,map_cons→Qo,map_nil→Qp,range→Qr
open Or renaming inr→Qe,inl→Qg
open Nat renaming zero_le→Qf,le_refl→Qq
open Go.Act renaming put→Qi
open Go.Value renaming ownBlock→Qn
namespace Go.Proofs.YtbkjljffnkdcjaaGreat
open Go.RowKit Go.Maps
namespace Plain
def nh (g:Gr) (p:Pt) (k e j:Nat) (v:Int):List Int:=outs g p k v++((Qr j).map fun i=>((2*e+i:Nat):Int)).filter fun d=>decide (g.tail d=v)
theorem Hs (g:Gr) (p:Pt) (k e:Nat):nh g p k e 0=outs g p k:=by funext v;simp[nh]
theorem G1 (g:Gr) (p:Pt) (k e j:Nat):nh g p k e (j+1)=fun v=>if v=g.tail ((2*e+j:Nat):Int) then nh g p k e j (g.tail ((2*e+j:Nat):Int))++[((2*e+j:Nat):Int)] else nh g p k e j v:=by
 funext v
 unfold nh;rw[List.range_succ,List.map_append,Qj,<-List.append_assoc];by_cases h:v=g.tail ((2*e+j:Nat):Int)
 ·rw[if_pos h,<-h]
  congr 1
  simp only[Qo,Qp,Qk,Ql,h,decide_true,if_true]
 rw[if_neg h];have h2:decide (g.tail ((2*e+j:Nat):Int)=v)=false:=decide_eq_false fun q=>h q.symm;simp only[Qo,Qp,Qk,Ql,h2,Bool.false_eq_true,if_false,List.append_nil]
theorem MF {g:Gr} {p:Pt} {k e:Nat} (hk:k<p.e.length) (he:p.e.getD k 0=(e:Int)):nh g p k e 2=outs g p (k+1):=by
 funext v
 have e1:p.e.take (k+1)=p.e.take k++[(e:Int)]:=by
  rw[List.take_succ_eq_append_getElem hk,<-he];simp[List.getD,hk]
 unfold nh outs Pt.ag;rw[e1,List.flatMap_append,Qj]
 congr 1
theorem LO (g:Gr) (p:Pt) (k e j:Nat) (v:Int):(nh g p k e j v).length<=2*k+j:=by
 unfold nh;rw[Qb];have h1:=CC g p k v;have h2:=List.length_filter_le (fun d=>decide (g.tail d=v)) ((Qr j).map fun i=>((2*e+i:Nat):Int));rw[List.length_map,List.length_range] at h2;omega
theorem Vf {g:Gr} {on:Int->Bool} {p:Pt} {a:Int} (hp:aH g p) (qL:∀ d∈p.ag,0<=d) :
  (∀ z c,iU g on p (p.v.length+2) (fun y=>if y=a then some (-1) else none) [a]=(some z,c)->∃ l,l5 g on p a=l/\Ab g c a z l/\c a=some (-1)/\l.length<=p.v.length/\∀ d∈l,d∈p.ag) /\
  (∀ c,iU g on p (p.v.length+2) (fun y=>if y=a then some (-1) else none) [a]=(none,c)->l5 g on p a=[]):=by
 have hw:=sM (g:=g) (on:=on) (a:=a) qL hp.vn (fun d hd=>(hp.aQ hd).2) (p.v.length+2) Ad yB;refine⟨fun z c h=>?_,fun c h=>by unfold l5;rw[h]⟩;rw[h] at hw;obtain⟨w1,w2,w3,w4⟩:=hw;obtain⟨l,l1,l2,l3⟩:=w1.trc z w2;obtain⟨k1,k2,k3,k4⟩:=l1.link;have hlen:l.length<=p.v.length:=by
  have:=bQ k3 fun x hx=>by
   obtain⟨d,hd,rfl⟩:=List.mem_map.1 hx;exact (hp.aQ (l2 d hd)).2
  simpa using this
 exact⟨l,by unfold l5;rw[h];exact l1.back w1.base _ (by omega),l1,w1.base,hlen,l2⟩
theorem drop_cons {L:List Int} {k:Nat} (hk:k<L.length):L.drop k=L.getD k 0 :: L.drop (k+1):=sR hk
theorem L6 {g:Gr} {on:Int->Bool} {d:Int} {ds:List Int} {aX:jg} {q:List Int} {z:Int} (h:aX (g.head d)=some z):eP g on (d :: ds) aX q=eP g on ds aX q:=by rw[eP,h]
theorem LM {g:Gr} {on:Int->Bool} {d:Int} {ds:List Int} {aX:jg} {q:List Int} (h:aX (g.head d)=none) (ho:on (g.head d)=false):eP g on (d :: ds) aX q=eP g on ds (fun y=>if y=g.head d then some d else aX y) (q++[g.head d]):=by rw[eP,h];simp[ho]
theorem Rl {g:Gr} {on:Int->Bool} {d:Int} {ds:List Int} {aX:jg} {q:List Int} (h:aX (g.head d)=none) (ho:on (g.head d)=true):eP g on (d :: ds) aX q=(some (g.head d),(fun y=>if y=g.head d then some d else aX y),q):=by rw[eP,h];simp[ho]
theorem Wb {g:Gr} {on:Int->Bool} {p:Pt} {n:Nat} {u:Int} {aX:jg} {q:List Int}:iU g on p (n+1) aX (u :: q)=match eP g on (a8 g p u) aX q with | (some z,c,_)=>(some z,c) | (none,c,q')=>iU g on p n c q':=rfl
end Plain
theorem jG.cons {w:World} {H:Nat} {v:Value} {x:Int} {q:List Int} (h:jG w H v (x :: q)):∃ b off cap,v=.slice (some ⟨b,off,none⟩) (q.length+1) cap/\w.cell? ⟨b,off,none⟩=some (.int .i64 x)/\q.length+1<=cap /\
  (cap=1->jG w H (.slice (some ⟨b,off,none⟩) q.length 0) q)/\(cap≠1->jG w H (.slice (some ⟨b,off+1,none⟩) q.length (cap - 1)) q):=by
 obtain⟨h1,h2,h3⟩:=h;rcases h3 with ⟨-,e⟩ | ⟨b,off,cap,cur,rfl,hg,hh,tI,lN,hoc,jQ⟩
 ·cases e
 have hs:∀ y∈q,bn y:=fun y hy=>h1 y (by simp[hy]);simp only[Qc] at tI h2;have fin:∀ ti eS,ti+eS<=cur.size->q.length<=eS->eS<=9223372036854775807->(∀ i,i<q.length->cur[ti+i]?=some (.int .i64 (q.getD i 0)))->jG w H (.slice (some ⟨b,ti,none⟩) q.length eS) q :=
  fun ti eS k1 k2 k3 k4=>⟨hs,by omega,Qe ⟨b,ti,eS,cur,rfl,hg,hh,k2,k3,k1,k4⟩⟩
 refine⟨b,off,cap,rfl,?_,tI,fun hc=>?_,fun hc=>?_⟩
 ·rw[cell_of_row w b off cur _ _ hh]
  have:=jQ 0 (by simp);simpa using this
 ·subst hc
  exact fin off 0 (by omega) (by omega) (by omega) (fun i hi=>by omega)
 refine fin (off+1) (cap - 1) (by omega) (by omega) (by omega) (fun i hi=>?_);have:=jQ (i+1) (by simp;omega);rw[show off+1+i=off+(i+1) by omega,this];simp
set_option maxRecDepth 100000 in
set_option maxHeartbeats 4000000 in
theorem Tz (sb N B ob a fn:Nat) (vE v1 v2:Value) (fo:Option Addr) (fc:Nat) (g:Plain.Gr) (on:Int->Bool) (V E ends:List Int) (w:World) (hG:nN w sb g vE N) (hq:w.cell? ⟨sb,2,none⟩=some (.slice (some ⟨ob,0,none⟩) N N)) (jW:bK w B ob N on)
  (hE:∀ e∈E,0<=e/\e<g.e.length) (hEl:E.length<=1024) (h1:aJ w v1 E) (h2:aJ w v2 ends) (mn:0<ends.length) (ha:ends.getD 0 0=a) (haN:a<N) (hP:Plain.aH g ⟨V,E⟩) (haV:(a:Int)∈V) :
  Calls Tryz.prog 120 #[.pointer (some ⟨sb,0,none⟩),.agg #[v1,v2,.slice fo fn fc]] w fun e w'=>∃ v',e=.returned v'/\ax w' w.heap.size v' (Plain.l5 g on ⟨V,E⟩ a)/\ai [] w w':=by
 have HG:=lh hG;have HQ:=lh hq;have Um:=lh jW;have HE:=lh hE;have H1:=lh h1;have H2:=lh h2;have HA:=lh ha;have HP:=lh hP;have HAV:=lh haV;have ir:=lh hG.small;obtain⟨lo,lc,rfl,-,-,-⟩:=h1;obtain⟨uo,uc,rfl,-,-,-⟩:=h2;have nq:=@run_makeMap Tryz.prog;have eV:=lh (show ai [] w (w.alloc (.cells #[.slice lo E.length lc,.slice uo ends.length uc,.slice fo fn fc] 151)) from (show ai [] w (w.alloc (.cells #[.slice lo E.length lc,.slice uo ends.length uc,.slice fo fn fc] 151)) from ((ai.refl [] w).alloc _)));have cK:=heap_alloc_new w (.cells #[.slice lo E.length lc,.slice uo ends.length uc,.slice fo fn fc] 151);have HX:=lh (fun (w2:World) (dL:ai [] (w.alloc (.cells #[.slice lo E.length lc,.slice uo ends.length uc,.slice fo fn fc] 151)) w2)=>(⟨dL.c ((cell_of_row _ _ 0 _ _ _ cK).trans rfl),dL.c ((cell_of_row _ _ 1 _ _ _ cK).trans rfl),dL.c ((cell_of_row _ _ 2 _ _ _ cK).trans rfl),by have hz:=dL.size;simpa using hz⟩:w2.cell? ⟨w.heap.size,0,none⟩=some (.slice lo E.length lc)/\w2.cell? ⟨w.heap.size,1,none⟩=some (.slice uo ends.length uc)/\w2.cell? ⟨w.heap.size,2,none⟩=some (.slice fo fn fc)/\w.heap.size+1<=w2.heap.size));clear cK;have CK:=lh (show (w.alloc (.cells #[.slice lo E.length lc,.slice uo ends.length uc,.slice fo fn fc] 151)).heap.size=w.heap.size+1 by simp);obtain⟨x0,x1,-,di⟩:=HX.out _ (ai.refl _ _);clear hG hq jW hE ha hP haV
 go_enter Tryz.func120,Tryz.ntmps120
 go_wp2;clear nq x0 x1;have HM:=lh (SMap.made (w.alloc (.cells #[.slice lo E.length lc,.slice uo ends.length uc,.slice fo fn fc] 151)));have hz:(w.alloc (.cells #[.slice lo E.length lc,.slice uo ends.length uc,.slice fo fn fc] 151)).heap.size=w.heap.size+1:=by simp
 rw[hz] at HM;have b8:=lh ((ai.refl [] (w.alloc (.cells #[.slice lo E.length lc,.slice uo ends.length uc,.slice fo fn fc] 151))).alloc (.map #[] 0));generalize w.alloc (.cells #[.slice lo E.length lc,.slice uo ends.length uc,.slice fo fn fc] 151)=w1 at *;obtain⟨mb,Jy⟩:∃ mb,w.heap.size+1=mb:=⟨_,rfl⟩;have HMB:=lh Jy;have Zc:=lh hz;rw[Jy] at HM ⊢;clear hz Jy di
 go_loopw [7,8,9,22] (fun _ _ _ c wr=>∃ k:Nat,k<=E.length/\c=.int .i64 k/\SMap wr mb (2*k) (Plain.outs g ⟨V,E⟩ k)/\ai [] w1 wr) (fun _ _ _ c _=>E.length - (intOf c).toNat)
 case atStart=>exact⟨0,Qf _,rfl,by rw[Plain.zJ];exact HM.out,b8.out⟩
 case round =>
  obtain⟨k,hk,rfl,dS,hc⟩:=hrel;have HS:=lh dS;have HC:=lh hc;clear dS hc HM b8;by_cases aU:k<E.length
  ·obtain⟨rb,uR,rfl,rc⟩:=aJ.cellAt H1.out aU
   have cZ:=HC.out.c (eV.out.c rc);have mm:=HE.out _ (Plain.aZ aU);obtain⟨en,kQ⟩:∃ en:Nat,E.getD k 0=en:=⟨(E.getD k 0).toNat,by omega⟩;have H2E:=lh (Plain.MF (g:=g) (p:=⟨V,E⟩) aU kQ);rw[kQ] at cZ mm;have nz:en<g.e.length:=by omega
   have vG:en<2000:=by have:=ir.out;omega
   have ZK:=lh (Plain.LO g ⟨V,E⟩ k en);clear rc kQ mm;go_wp2;clear cZ
   go_loopw [8,9] (fun c _ wr=>∃ j:Nat,j<=2/\c=.int .i64 ((2*en+j:Nat):Int)/\SMap wr mb (2*k+j) (Plain.nh g ⟨V,E⟩ k en j)/\ai [] w1 wr) (fun c _ _=>2*en+2 - (intOf c).toNat)
   case atStart=>exact⟨0,by omega,by go_num,by rw[Plain.Hs];exact HS.out,HC.out⟩
   case round =>
    obtain⟨j,hj,rfl,dS,FH⟩:=hrel;have uQ:=lh dS;have cA:=lh FH;clear dS FH HS HC;by_cases Mi:j<2
    ·have HSU:=lh (Plain.G1 g ⟨V,E⟩ k en j)
     obtain⟨d,hd⟩:∃ d:Nat,2*en+j=d:=⟨_,rfl⟩;have pG:d / 2<g.e.length:=by omega
     obtain⟨n',v,Uu,-,hv,zL,-⟩:=HG.out.MB (d:=(d:Int)) (by omega) (by omega);rw[hd] at HSU ⊢;rw[hv] at HSU;have HV:=lh hv;have mj:(d:Int)<=2*(en:Int)+1:=by omega
     have KG:bn (d:Int):=bn.mk (by omega) (by omega);have Gi:bn (v:Int):=bn.mk (by omega) (by have:=ir.out;omega);have q0:=cA.out.c (eV.out.c HG.out.c0);have q1:=cA.out.c (eV.out.c HG.out.c1);have HL0:=lh (ZK.out j (v:Int));obtain⟨f0,OL⟩:∃ f0,Plain.nh g ⟨V,E⟩ k en j=f0:=⟨_,rfl⟩;rw[OL] at uQ HSU HL0;have Rx:k<1024:=by omega
     clear Uu hv OL
     go_wp2_with fail
     refine (dy _ g d _ pG (by have:=ir.out;omega) ((HG.out.fresh eV.out).fresh cA.out).gr).mono ?_;rintro _ w3 ⟨rfl,dB⟩;rw[HV.out];have HS3:=lh (uQ.out.fresh dB);have dD:=lh (cA.out.t dB);clear dB q0 q1
     go_wp2_with (first
      | (at_lookup;refine xn rfl _ _ rfl HS3.out (by omega) rfl Gi rfl ?_;intro u4 r4 l4 b4;have R4:=lh r4;have B4:=lh b4;clear r4 l4 b4)
      | (at_builtin;refine b9 rfl _ _ rfl (B:=mb+1) rfl rfl (R4.out.aM ((ai.refl [] _).alloc _) (by simp)) (gP _ KG) (by have:=HS3.out.lt;simp;omega) (by have:=HL0.out;simp;omega) ?_;intro u5 w5 q5 c5 f5;have Q5:=lh q5;have D5:=lh (((ai.refl (aL u4) w3).alloc (.cells #[.int .i64 (d:Int)] 3)).trans c5 (fun j hj=>Qg hj));have F5:=lh (fun j hj=>(f5 j hj).imp id (fun q=>Nat.le_trans ((ai.refl [] w3).alloc (.cells #[.int .i64 (d:Int)] 3)).size q));clear q5 c5 f5)
      | (at_mapUpdate;refine wM rfl _ _ _ rfl B4.out rfl rfl rfl Q5.out D5.out F5.out ?_;intro w6 s6 d6;have S6:=lh s6;have D6:=lh d6;clear s6 d6))
     go_roundw
     case rel =>
      have Ts:∀ j∈aL u4,w1.heap.size<=j:=fun j hj=>by have:=(R4.out.low j (by rw[<-R4.out.aL];exact hj)).1;have:=HMB.out;have:=Zc.out;omega
      refine⟨j+1,by omega,by rw[<-hd];go_num,by rw[HSU.out];exact S6.out,(dD.out.trans D5.out (fun j hj=>Qe (Ts j hj))).trans D6.out (fun j hj=>Qe (by simp at hj;have:=HMB.out;have:=Zc.out;omega))⟩
     case measure=>simp[intOf];omega
    have e2:j=2:=by omega
    subst e2;rw[H2E.out] at uQ;have HS3:=lh (show SMap wr mb (2*(k+1)) (Plain.outs g ⟨V,E⟩ (k+1)) from uQ.out);clear hj Mi;go_wp2
    go_roundw
    case rel=>exact⟨k+1,by omega,by go_num,HS3.out,cA.out⟩
    case measure=>simp[intOf];omega
  have e:k=E.length:=by omega
  subst e;have HVN:=lh (HP.out.vn);have qL:∀ d∈Plain.Pt.ag ⟨V,E⟩,0<=d/\d / 2<g.e.length:=fun d hd=>by
   have:=HE.out _ (Plain.aw.1 hd);omega
  have Zq:=lh qL;have LF:=lh (Plain.Vf (on:=on) (a:=(a:Int)) HP.out (fun d hd=>(qL d hd).1));have Jf:=lh (show ∀ u∈V,0<=u/\u<N from fun u hu=>by have:=HP.out.vr u hu;rw[HG.out.n] at this;exact this);have yT:=lh (show V.length<=1024 by have h:V.length<=N:=kX (l:=V) (N:=N) HP.out.vn Jf.out;have:=ir.out;omega);have Gt:=lh (show ∀ d∈Plain.Pt.ag ⟨V,E⟩,g.head d∈V from fun d hd=>(HP.out.aQ hd).2);have HS9:=lh (show SMap wr mb (2*E.length) (Plain.a8 g ⟨V,E⟩) by
   have h:=HS.out;rwa[show Plain.outs g ⟨V,E⟩ E.length=Plain.a8 g ⟨V,E⟩ from funext fun v=>Plain.CR g ⟨V,E⟩ v] at h)
  obtain⟨-,x1,-,-⟩:=HX.out wr HC.out;obtain⟨eb,eB,rfl,rc⟩:=aJ.cellAt H2.out mn;have ec:=HC.out.c (eV.out.c rc);rw[HA.out,Nat.add_zero] at ec;have nq:=@run_makeMap Tryz.prog;have HIM:=lh (bN.made wr);have agH:bn (a:Int):=bn.mk (by omega) (by have:=ir.out;omega);have yR:=lh (show w.heap.size<=wr.heap.size from (eV.out.t HC.out).size);have ar4:=lh HS9.out.lt;clear rc qL hk aU HS
  go_wp2_with (refine tq rfl _ _ _ rfl HIM.out (by unfold maxLen;omega) rfl agH (bn.mk (by omega) (by omega)) rfl rfl ?_;intro w2 jS Cp;have mD:=lh jS;have FJ:=lh Cp;clear jS Cp)
  clear nq x1 ec;have cA:=lh (show ai [] wr w2 from ((ai.refl [] wr).alloc (.map #[] 0)).grown FJ.out (row:=some wr.heap.size) (fun k hk=>by cases hk;exact Qe (Qq _)));have Bn:=lh (HC.out.t cA.out);have aea:=lh (eV.out.t Bn.out);have Nh:=lh (jG.sV (CH (w:=w2) (B:=w2.heap.size) (Qq _) agH));have dD:=lh ((ai.refl [] w2).alloc (.cells #[.int .i64 (a:Int)] 3));have M4:=lh (mD.out.aM dD.out (by simp));obtain⟨cb,JQ⟩:∃ n,wr.heap.size=n:=⟨_,rfl⟩;have zj:=lh JQ;rw[JQ] at M4 ⊢;have Nl:=lh (show cb<w2.heap.size from by have:=mD.out.lt;rw[JQ] at this;exact this);have Zf:=lh (HS9.out.fresh cA.out);clear JQ HIM mD FJ;generalize w2.alloc (.cells #[.int .i64 (a:Int)] 3)=w3 at *;obtain⟨H,hH⟩:∃ n,w2.heap.size=n:=⟨_,rfl⟩;have HHH:=lh hH;rw[hH] at Nh Nl ⊢;clear hH;obtain⟨T,hT⟩:∃ T,Plain.iU g on ⟨V,E⟩ (V.length+2) (fun y=>if y=(a:Int) then some (-1) else none) [(a:Int)]=T:=⟨_,rfl⟩;have HT:=lh hT;rw[show (⟨V,E⟩:Plain.Pt).v.length=V.length from rfl,hT] at LF;have W7:=lh (Plain.yB (p:=⟨V,E⟩) (a:=(a:Int)));clear hT
  go_loopg [12] (V.length+2) (fun fuel Jz wx=>fuel<=V.length+2/\∃ (aX:Plain.jg) (q:List Int) (n:Nat),jG wx H Jz q/\bN wx cb n aX/\Hid (Plain.iU g on ⟨V,E⟩ fuel aX q=T/\q.length+Plain.je V aX<fuel/\n+Plain.je V aX<=V.length+1/\∀ x∈q,x∈V)/\ai [cb] w2 wx)
  case atStart=>exact⟨Nat.le_refl _,_,[(a:Int)],1,Nh.out,M4.out,lh ⟨HT.out,W7.out,by have:=W7.out;simp only[Qc,Qm] at this;omega,by intro x hx;rw[Qa.1 hx];exact HAV.out⟩,dD.out.mono (by simp)⟩
  case round =>
   obtain⟨hfu,aX,q,n,hq,him,hinv,hc⟩:=hrel;have HQR:=lh hq;have ab7:=lh him;have kR:=lh hc;have nO:=lh (aea.out.trans hc (fun j hj=>Qe (by rw[Qa] at hj;have:=yR.out;have:=zj.out;omega)));have HCS:=lh (cA.out.trans hc (fun j hj=>Qe (by rw[Qa] at hj;have:=zj.out;omega)));clear hq him hc;cases q with
   | nil =>
    obtain⟨qo,qc,rfl⟩:=HQR.out.shape;have HE0:=lh (show Plain.l5 g on ⟨V,E⟩ a=[] from LF.out.2 aX (by rw[<-hinv.out.1];cases gk <;> rfl));go_wp2;go_ret;exact⟨_,rfl,by rw[HE0.out];exact gp _ _,nO.out⟩
   | cons u q =>
    have XC:1<=gk:=by have:=hinv.out.2.1;simp only[Qc] at this;omega
    have UN:=lh (show T=match Plain.eP g on (Plain.a8 g ⟨V,E⟩ u) aX q with | (some z,c,_)=>(some z,c) | (none,c,q')=>Plain.iU g on ⟨V,E⟩ (gk - 1) c q' by
     rw[<-hinv.out.1];obtain⟨n',Uu⟩:∃ n',gk=n'+1:=⟨gk - 1,by omega⟩;rw[Uu];rfl)
    have huV:=hinv.out.2.2.2 u (by simp);have VZ:=Jf.out u huV;have ajn:bn u:=bn.mk (by omega) (by have:=ir.out;omega);obtain⟨qb,ak1,ady,rfl,ae5,hqc,-,-⟩:=HQR.out.cons;have hqp:(0:Int)<((q.length+1:Nat):Int):=by omega
    have FE:=lh (show q.length+1+Plain.je V aX<gk/\n+Plain.je V aX<=V.length+1/\∀ x∈q,x∈V from⟨by have:=hinv.out.2.1;simp only[Qc] at this;exact this,hinv.out.2.2.1,fun x hx=>hinv.out.2.2.2 x (by simp[hx])⟩);have hlq:(u :: q).length=q.length+1:=rfl;clear huV VZ hinv
    go_wp2_with (at_lookup;refine oG rfl _ _ rfl HS9.out HCS.out (by omega) rfl ajn rfl ?_;intro vv r0;obtain⟨vo,vc,rfl⟩:=r0.shape;have R0:=lh r0;clear r0)
    have Vx:=lh (show ∀ d∈Plain.a8 g ⟨V,E⟩ u,d∈Plain.Pt.ag ⟨V,E⟩/\g.tail d=u from fun d hd=>Plain.bk.1 hd);obtain⟨L,hL⟩:∃ L,Plain.a8 g ⟨V,E⟩ u=L:=⟨_,rfl⟩;rw[hL] at UN R0 Vx ⊢;obtain⟨WI,hWI⟩:∃ WI,Plain.eP g on L aX q=WI:=⟨_,rfl⟩;have HWI:=lh hWI;rw[hWI] at UN;have hLL:L.length<4294967296:=R0.out.2.2;clear hL hWI ae5 hqc
    go_loopw [12,70] (fun Jz c70 wx=>∃ (k:Nat) (aX:Plain.jg) (q:List Int) (n:Nat),k<=L.length/\c70=.int .i64 k/\jG wx H Jz (u :: q)/\bN wx cb n aX/\Hid (Plain.eP g on (L.drop k) aX q=WI/\q.length+1+Plain.je V aX<gk/\n+Plain.je V aX<=V.length+1/\∀ x∈q,x∈V)/\ai [cb] w2 wx) (fun _ c _=>L.length - (intOf c).toNat)
    case atStart=>exact⟨0,aX,q,n,Qf _,rfl,HQR.out,ab7.out,lh ⟨HWI.out,FE.out.1,FE.out.2.1,FE.out.2.2⟩,kR.out⟩
    case round =>
     obtain⟨k,pN,q1,n1,hk,rfl,hq,him,dM,hc⟩:=hrel;have VI:=lh hq;have ZA:=lh him;have YQ:=lh hc;have ake:=lh (cA.out.trans hc (fun j hj=>Qe (by rw[Qa] at hj;have:=zj.out;omega)));have Tm:=lh (aea.out.trans hc (fun j hj=>Qe (by rw[Qa] at hj;have:=yR.out;have:=zj.out;omega)));clear hq him hc HQR ab7 kR HCS nO;by_cases aU:k<L.length
     ·obtain⟨gr,hvo,tQ⟩:=R0.out.some (by omega)
      subst hvo;have ck:=ake.out.c (tQ k aU);obtain⟨mj,yN⟩:=Vx.out (L.getD k 0) (by simp[List.getD,aU]);have hdr:=Zq.out _ mj;have HDC:=lh (Plain.drop_cons aU);have hxV:=Gt.out _ mj;have ZL:=Jf.out _ hxV;obtain⟨d,hd⟩:∃ d:Nat,L.getD k 0=d:=⟨(L.getD k 0).toNat,by omega⟩;rw[hd] at ck mj hdr HDC hxV ZL;obtain⟨x,hx⟩:∃ x:Nat,g.head (d:Int)=x:=⟨(g.head (d:Int)).toNat,by omega⟩;have HX:=lh hx;rw[hx] at hxV ZL;have q9:g.tail (Plain.aE (d:Int))=x:=by rw[Plain.aA];exact hx
      have Al:=Plain.bA (d:Int);have Np:0<=Plain.aE (d:Int):=by omega
      obtain⟨t,ht⟩:∃ t:Nat,Plain.aE (d:Int)=t:=⟨(Plain.aE (d:Int)).toNat,by omega⟩;rw[ht] at q9 Al;have Jp:t / 2<g.e.length:=by omega
      have BV:=lW d (by have:=ir.out;omega);rw[ht] at BV;have HTW:=lh q9;have hxN:x<N:=by omega
      have hxi:(x:Int)<(N:Int):=by omega
      have Kl:bn (x:Int):=bn.mk (by omega) (by have:=ir.out;omega);have KG:bn (d:Int):=bn.mk (by omega) (by have:=ir.out;omega);have Wc:=lh hxV;have q0:=Tm.out.c HG.out.c0;have qq1:=Tm.out.c HG.out.c1;have TH:=lh dM.out.1;have DK:=lh dM.out.2;rw[HDC.out] at TH;clear tQ mj yN hdr hxV ZL hd hx q9 Al Np ht dM
      go_wp2_with fail
      refine (dy _ g t _ Jp (by have:=ir.out;omega) (HG.out.fresh Tm.out).gr).mono ?_;rintro _ w5 ⟨rfl,gV⟩;rw[HTW.out];have iP:=lh (YQ.out.t gV);have aet:=lh (Tm.out.t gV);have Sd:=lh (VI.out.aM gV (by simp));have HI5:=lh (ZA.out.aM gV (by simp));clear gV q0 qq1 ck;cases lJ:pN (x:Int) with
      | some z =>
       have Ch:=lh lJ;have Kj:=lh (show Plain.eP g on (L.drop (k+1)) pN q1=WI by rw[<-TH.out];exact (Plain.L6 (by rw[HX.out];exact lJ)).symm);clear lJ
       go_wp2_with (at_lookup;refine eT _ rfl _ _ rfl HI5.out rfl Kl rfl Ch ?_)
       go_roundw
       case rel=>exact⟨k+1,pN,q1,n1,by omega,by go_num,Sd.out,HI5.out,lh ⟨Kj.out,DK.out⟩,iP.out⟩
       case measure=>simp[intOf];omega
      | none =>
       have Ch:=lh lJ;have HUN:=lh (Plain.vZ (c:=(d:Int)) HVN.out Wc.out lJ);have y8:n1<maxLen:=by unfold maxLen;have:=DK.out.2.1;have:=yT.out;omega
       have HQN:=lh (show ∀ b∈(u12:Value).ownBlock.toList,b ∉ [cb] from fun b hb e=>by have:=(Sd.out.own b hb).1;have:=Nl.out;rw[Qa] at e;omega);cases Fp:on (x:Int) with
       | true =>
        have SG:=lh (show T=(some (x:Int),fun y=>if y=(x:Int) then some (d:Int) else pN y) by
         have h:=Plain.Rl (g:=g) (on:=on) (d:=(d:Int)) (ds:=L.drop (k+1)) (aX:=pN) (q:=q1) (by rw[HX.out];exact lJ) (by rw[HX.out];exact Fp);rw[TH.out,HX.out] at h;rw[UN.out,h])
        obtain⟨l,EU,zH,hl3,hl4,V4⟩:=LF.out.1 _ _ SG.out;have Ss:=lh EU;have HL2:=lh zH;have HL3:=lh hl3;have HL4:=lh (show l.length<1000000 by have h:l.length<=V.length:=hl4;have:=yT.out;omega);have HL5:=lh (show ∀ d∈l,0<=d/\d / 2<g.e.length from fun d hd=>Zq.out d (V4 d hd));have HOX:=lh Fp;clear lJ Fp EU zH hl3 hl4 V4
        go_wp2_with (first
         | (at_lookup;refine dw _ rfl _ _ rfl HI5.out rfl Kl rfl Ch ?_)
         | (at_mapUpdate;refine iG _ rfl _ _ _ rfl HI5.out y8 rfl Kl KG rfl rfl ?_;intro w7 JI Kd;have HI7:=lh JI;have C7:=lh (aet.out.trans ((ai.refl [cb] w5).grown Kd (fun j hj=>by cases hj;exact Qg (by simp))) (fun j hj=>Qe (by rw[Qa] at hj;have:=yR.out;have:=zj.out;omega)));have b2:=C7.out.c HQ.out;have bb:=((Um.out.base (Qf _)).aM C7.out (by simp)).cell hxN;rw[HOX.out] at bb;clear JI Kd))
        refine (IH sb N (n1+1) cb vE g _ (a:Int) x l w7 (HG.out.fresh C7.out) HI7.out (by have:=ir.out;omega) HL3.out HL2.out HL4.out HL5.out).mono ?_;rintro _ w8 ⟨v8,rfl,S0,hc8⟩;have HR8:=lh (S0.base C7.out.size);have xf:=lh (C7.out.t hc8);clear S0 hc8;go_wp2;go_ret;exact⟨_,rfl,by rw[Ss.out];exact HR8.out,xf.out⟩
       | false =>
        have Kj:=lh (show Plain.eP g on (L.drop (k+1)) (fun y=>if y=(x:Int) then some (d:Int) else pN y) (q1++[(x:Int)])=WI by
         have h:=Plain.LM (g:=g) (on:=on) (d:=(d:Int)) (ds:=L.drop (k+1)) (aX:=pN) (q:=q1) (by rw[HX.out];exact lJ) (by rw[HX.out];exact Fp);rw[TH.out,HX.out] at h;exact h.symm)
        have HOX:=lh Fp;have hqn:(u :: q1).length+1<4294967296:=by have:=DK.out.1;have:=yT.out;have h:(u :: q1).length=q1.length+1:=rfl;omega
        obtain⟨qo,qc,rfl⟩:=Sd.out.shape;clear lJ Fp
        go_wp2_with (first
         | (at_lookup;refine dw _ rfl _ _ rfl HI5.out rfl Kl rfl Ch ?_)
         | (at_mapUpdate;refine iG _ rfl _ _ _ rfl HI5.out y8 rfl Kl KG rfl rfl ?_;intro w7 JI Kd;have HI7:=lh JI;have D7:=lh ((ai.refl [cb] w5).grown Kd (fun j hj=>by cases hj;exact Qg (by simp)));have C7:=lh (aet.out.trans D7.out (fun j hj=>Qe (by rw[Qa] at hj;have:=yR.out;have:=zj.out;omega)));have b2:=C7.out.c HQ.out;have bb:=((Um.out.base (Qf _)).aM C7.out (by simp)).cell hxN;rw[HOX.out] at bb;have HQ7:=lh (Sd.out.aM D7.out HQN.out);have HHS:=lh (show H<=w7.heap.size by rw[<-HHH.out];exact (iP.out.trans D7.out (fun j hj=>Qg hj)).size);clear JI Kd)
         | (at_builtin;refine JX rfl _ _ rfl rfl rfl HQ7.out Kl HHS.out hqn ?_;intro v9 w9 r9 c9;have R9:=lh r9;have C9:=lh c9;clear r9 c9))
        go_roundw
        case rel =>
         have fD:∀ j∈(Value.slice qo (u :: q1).length qc).ownBlock.toList,H<=j:=fun j hj=>(HQ7.out.own j hj).1;refine⟨k+1,_,q1++[(x:Int)],n1+1,by omega,by go_num,R9.out,HI7.out.aM C9.out (fun e=>by have:=fD _ e;have:=Nl.out;omega),lh ⟨Kj.out,?_,?_,?_⟩,?_⟩
         ·have h1:=HUN.out
          have h2:=DK.out.1;rw[Qb];simp only[Qc,Qm];omega
         ·have h1:=HUN.out
          have h2:=DK.out.2.1;omega
         ·intro y hy
          rcases List.mem_append.1 hy with r | r
          ·exact DK.out.2.2 y r
          rw[Qa.1 r];exact Wc.out
         exact (iP.out.trans D7.out (fun j hj=>Qg hj)).trans C9.out (fun j hj=>Qe (by rw[HHH.out];exact fD j hj))
        case measure=>simp[intOf];omega
     have e:k=L.length:=by omega
     subst e;have TH:=lh dM.out.1;rw[List.drop_length] at TH;have SG:=lh (show Plain.iU g on ⟨V,E⟩ (gk - 1) pN q1=T by rw[UN.out,<-TH.out];rfl);have DK:=lh dM.out.2;obtain⟨qb,ak1,ady,rfl,-,hqc,UJ,zb⟩:=VI.out.cons;have HQA:=lh UJ;have HQB:=lh zb;have adH:gk - 1<=V.length+2:=by omega
     clear dM hk aU UJ zb;by_cases j5:1=ady
     ·subst j5
      have HQC:=lh (HQA.out rfl);have hq0:q1.length=0:=by omega
      go_wp2
      go_roundg (gk - 1)
      case measure=>omega
      case rel=>exact⟨adH,pN,q1,n1,by have h:=HQC.out;rw[hq0] at h;exact h,ZA.out,lh ⟨SG.out,by have:=DK.out.1;omega,DK.out.2⟩,YQ.out⟩
     have HQC:=lh (HQB.out (fun e=>j5 e.symm));have EU:q1.length+1 - 1=q1.length:=by omega
     go_wp2
     go_roundg (gk - 1)
     case measure=>omega
     case rel=>exact⟨adH,pN,q1,n1,HQC.out,ZA.out,lh ⟨SG.out,by have:=DK.out.1;omega,DK.out.2⟩,YQ.out⟩
theorem Da (pc v:Nat) (_hv:v<1000000) (w:World) :
  Calls Tryz.prog 121 #[.int .i64 v,.pointer (some ⟨pc,0,none⟩)] w fun e w'=>e=.returned (.func (Fn.func 122) #[] #[.pointer (some ⟨pc,0,none⟩),.pointer (some ⟨w.heap.size,0,none⟩)])/\w'=w.alloc (.cells #[.int .i64 v] 3):=by
 go_enter Tryz.func121,Tryz.ntmps121
 go_wp2;go_ret;exact⟨rfl,rfl⟩
set_option maxHeartbeats 1000000 in
theorem Ke (n v pc bx sb N:Nat) (vE:Value) (g:Plain.Gr) (w:World) (hG:nN w sb g vE N) (hd:n / 2<g.e.length) (_hv:v<1000000) (c1:w.cell? ⟨pc,0,none⟩=some (.pointer (some ⟨sb,0,none⟩))) (c2:w.cell? ⟨bx,0,none⟩=some (.int .i64 v)) :
  Calls Tryz.prog 122 #[.int .i64 n,.pointer (some ⟨pc,0,none⟩),.pointer (some ⟨bx,0,none⟩)] w fun e w'=>e=.returned (.bool (decide (g.tail n=v)))/\ai [] w w':=by
 have HG:=lh hG;have q0:=hG.c0;have q1:=hG.c1;have ir:=lh hG.small;obtain⟨x,hx⟩:∃ x,g.tail (n:Int)=x:=⟨_,rfl⟩;have HX:=lh hx;rw[hx];clear hG hx
 go_enter Tryz.func122,Tryz.ntmps122
 go_wp2_with fail
 have aD:ai [] w w.drew:=(ai.refl [] w).drew;refine au (ai [] w) [0,1,2,3,4,6,7,8] (Way.line [0,1,2,3,4,6,5,7,8] .done) (by kernel_rfl) (by kernel_rfl) ?_;simp only[Way.line]
 repeat
  first
   | (refine ar rfl (by rfl) (by rfl) (fun _ _ _ h=>h) aD ?_;simp only[Qi,Z1,Z2,Z3,Z4,Z5,Z6])
   | (refine aq (v:=?_) rfl (by rfl) (by rfl) (fun _ _ _ h=>h) aD (fun w' aK=>?_) ?_;rotate_left;(focus (have fU:=aK.c c1;have gX:=aK.c c2;have nP:=aK.c q0;have Fx:=aK.c q1;clear aK;go_simp;try with_reducible rfl));simp only[Qi,Z1,Z2,Z3,Z4,Z5,Z6])
   | (refine ak rfl (by rfl) (by rfl) aD ?_;simp only[Qi,Z1,Z2,Z3,Z4,Z5,Z6])
 refine aC rfl (by rfl) (by rfl) (fun K hK=>?_);go_simp;refine (dy _ g n _ hd (by have:=ir.out;omega) (HG.out.fresh aD).gr).mono ?_;rw[HX.out];rintro e w3 ⟨rfl,dB⟩;have bD:ai [] w w3:=aD.t dB;refine hK.out _ _ (fun _=>bD) ?_;clear hK K dB aD
 try simp only[Qi,Z1,Z2,Z3,Z4,Z5,Z6]
 repeat
  first
   | (refine ar rfl (by rfl) (by rfl) (fun _ _ _ h=>h) bD ?_;simp only[Qi,Z1,Z2,Z3,Z4,Z5,Z6])
   | (refine aq (v:=?_) rfl (by rfl) (by rfl) (fun _ _ _ h=>h) bD (fun w' aK=>?_) ?_;rotate_left;(focus (have fU:=aK.c c1;have gX:=aK.c c2;have nP:=aK.c q0;have Fx:=aK.c q1;clear aK;go_simp;try with_reducible rfl));simp only[Qi,Z1,Z2,Z3,Z4,Z5,Z6])
   | (refine ak rfl (by rfl) (by rfl) bD ?_;simp only[Qi,Z1,Z2,Z3,Z4,Z5,Z6])
 refine aB ?_;go_wp2;go_ret;exact⟨bB (by rfl),bD⟩
set_option maxRecDepth 100000 in
set_option maxHeartbeats 2000000 in
theorem AZ (v pc bx sb N:Nat) (vE:Value) (g:Plain.Gr) (vq:Value) (q:List Int) (w:World) (hG:nN w sb g vE N) (hv:v<1000000) (c1:w.cell? ⟨pc,0,none⟩=some (.pointer (some ⟨sb,0,none⟩))) (c2:w.cell? ⟨bx,0,none⟩=some (.int .i64 v)) (hq:∀ d∈q,0<=d/\d / 2<g.e.length) (Lu:q.length<1000000000) (hvq:aJ w vq q) :
  Calls Tryz.prog 123 #[vq,.func (Fn.func 122) #[] #[.pointer (some ⟨pc,0,none⟩),.pointer (some ⟨bx,0,none⟩)]] w fun e w'=>e=.returned (.int .i64 (Plain.Co (fun d=>decide (g.tail d=(v:Int))) q))/\ai [] w w':=by
 have HQ:=lh hq;have HV:=lh hvq;have HG:=lh hG;have H1:=lh c1;have H2:=lh c2;obtain⟨ao,ac,rfl,-,-,-⟩:=hvq;clear hq c1 c2 hG;obtain⟨P,hP⟩:∃ P:Int->Bool,(fun d=>decide (g.tail d=(v:Int)))=P:=⟨_,rfl⟩;have HP:=lh (fun d=>show decide (g.tail d=(v:Int))=P d from congrFun hP d);rw[hP];clear hP
 go_enter Tryz.func123,Tryz.ntmps123
 go_wp2
 go_loopw [8] (fun c wr=>∃ k:Nat,k<=q.length/\c=.int .i64 k/\Hid (∀ j,j<k->P (q.getD j 0)=false)/\ai [] w wr) (fun c _=>q.length - (intOf c).toNat)
 case atStart=>exact⟨0,Qf _,rfl,lh (by omega),ai.refl _ _⟩
 case round =>
  obtain⟨k,hk,rfl,HN,hc⟩:=hrel;have HC:=lh hc;by_cases aU:k<q.length
  ·obtain⟨rb,uR,rfl,rc⟩:=aJ.cellAt HV.out aU
   have cZ:=hc.c rc;have hr:=HQ.out _ (Plain.aZ aU);have zo:=lh (fun (h:P (q.getD k 0)=true)=>Plain.vj (P:=P) aU h HN.out);have sB:=lh (fun (h:P (q.getD k 0)=false) j (hj:j<k+1)=>(show P (q.getD j 0)=false from by
    by_cases e:j=k
    ·rw[e];exact h
    exact HN.out j (by omega)))
   obtain⟨n,e1⟩:∃ n:Nat,q.getD k 0=n:=⟨(q.getD k 0).toNat,by omega⟩;rw[e1] at cZ zo sB hr;have gL:n / 2<g.e.length:=by have:=hr.2;omega
   clear rc e1 hc hr
   go_wp2_with fail
   refine (Ke n v pc bx sb N vE g _ (HG.out.fresh HC.out) gL hv (HC.out.c H1.out) (HC.out.c H2.out)).mono ?_;rintro e w2 ⟨rfl,bG⟩;rw[HP.out];have cA:=lh (HC.out.t bG);clear bG cZ;cases h:P (n:Int) with
   | true =>
    have HI:=lh (zo.out h);clear h;go_wp2;go_ret;exact⟨bS (show ((k:Nat):Int)=_ by rw[HI.out]),cA.out⟩
   | false =>
    have HI:=lh (sB.out h);clear h;go_wp2
    go_roundw
    case rel=>exact⟨k+1,by omega,by go_num,HI,cA.out⟩
    case measure=>simp[intOf];omega
  have e:k=q.length:=by omega
  subst e;have HI:=lh (Plain.si (P:=P) HN.out);clear hc;go_wp2;go_ret;exact⟨bS (show (-1:Int)=_ by rw[HI.out]),HC.out⟩
def bI (w:World) (b:Nat) (t:TypeId):Prop:=∃ cs r,w.heap[b]?=some (.cells cs t r)
theorem bI.one {w:World} {b:Nat} {t u:TypeId} (h:bI w b t) (k:bI w b u):t=u:=by
 obtain⟨c1,r1,h⟩:=h;obtain⟨c2,r2,k⟩:=k;rw[h] at k;simp at k;exact k.2.1
theorem bI.ne {w:World} {b c:Nat} {t u:TypeId} (h:bI w b t) (k:bI w c u) (hn:t≠u):b≠c:=fun e=>hn (h.one (e ▸ k))
theorem bI.lt {w:World} {b:Nat} {t:TypeId} (h:bI w b t):b<w.heap.size:=by
 obtain⟨c1,r1,h⟩:=h;exact lt_of_block h
theorem bI.aM {w w':World} {b:Nat} {t:TypeId} {own:List Nat} (h:bI w b t) (hc:ai own w w') (hb:b ∉ own):bI w' b t:=by
 obtain⟨c1,r1,h⟩:=h;exact⟨c1,r1,hc.heap h hb⟩
theorem cf {w:World} {B:Nat} {e:TypeId} {sz n:Nat} {v:Value} {xs:List Value} (h:w.ownsRow B e sz v n xs) {b:Nat} (hb:v.ownBlock=some b):bI w b e:=by
 rcases h.2 with ⟨rfl,_⟩ | ⟨g',c',cur,rfl,_,hh,_⟩
 ·cases hb
 simp[Qn] at hb;subst hb;exact⟨_,_,hh⟩
theorem ax.dg {w:World} {B:Nat} {v:Value} {l:List Int} (h:ax w B v l) {b:Nat} (hb:v.ownBlock=Option.some b):bI w b 3:=cf h.1 hb
theorem bK.dg {w:World} {B b n:Nat} {f:Int->Bool} (h:bK w B b n f):bI w b 4:=by
 obtain⟨cs,hh⟩:=h.kind;exact⟨cs,_,hh⟩
theorem cR.kinds {g:Plain.Gr} {w:World} {B N:Nat} {fv:Value} {xs:List Value} {F:List (List Int)} (h:cR g w B N fv xs F) {k b:Nat} (hk:k<xs.length) (hb:(xs.getD k undef).ownBlock=some b):B<=b/\b<w.heap.size/\(bI w b 3\/bI w b 4):=by
 have hl:=h.len;rcases (show ∃ i,k=2*i\/k=2*i+1 from⟨k / 2,by omega⟩) with ⟨i,rfl | rfl⟩
 ·have hr:=h.row i (by omega)
  have:=hr.low b (by rw[hb];simp);exact⟨this.1,this.2,Qg (hr.dg hb)⟩
 obtain⟨b',e,Du⟩:=h.has i (by omega);rw[e] at hb;simp[Qn] at hb;subst hb;have:=Du.lt;exact⟨this.1,this.2,Qe Du.dg⟩
theorem cR.other {g:Plain.Gr} {w w':World} {B N:Nat} {fv:Value} {xs:List Value} {F:List (List Int)} {own:List Nat} (h:cR g w B N fv xs F) (hc:ai own w w') (ho:∀ j∈own,∃ t,bI w j t/\t≠147/\t≠3/\t≠4):cR g w' B N fv xs F:=by
 refine h.aM hc (fun b hb hm=>?_) (fun k b hk hb hm=>?_)
 ·obtain⟨t,h1,h2,-,-⟩:=ho b hm
  exact h2 (h1.one (cf h.out hb))
 obtain⟨t,h1,-,h2,h3⟩:=ho b hm;rcases (h.kinds hk hb).2.2 with q | q
 ·exact h2 (h1.one q)
 exact h3 (h1.one q)
theorem bF.others {w w':World} {B n sz:Nat} {e:TypeId} {ov:Value} {xs:List Value} {cs:List Cell} {own:List Nat} (h:bF w B e sz ov n xs cs) (hc:ai own w w') (ho:∀ j∈own,∃ t,bI w j t/\t≠e/\t≠3):bF w' B e sz ov n xs cs :=
 h.other hc fun j hj cs t r hh=>by
  obtain⟨u,h1,h2,h3⟩:=ho j hj;have:=h1.one ⟨cs,r,hh⟩;subst this;exact⟨h2,h3⟩
structure cz (w0 w:World) (sb ob N:Nat) (g:Plain.Gr) (vE fv rv:Value) (on:Int->Bool):Prop where
 gr:dU w0 (.agg #[.int .i64 g.n,vE]) g
 n:g.n=N
 err:g.err=0
 aM:ai [] w0 w
 low:w0.heap.size<=sb
 heap:w.heap[sb]?=some (.cells #[.int .i64 g.n,vE,.slice (some ⟨ob,0,none⟩) N N,fv,rv] 85 (0,0))
 on:bK w w0.heap.size ob N on
section
variable {w0 w w' : World} {sb ob N : Nat} {g : Plain.Gr} {vE fv rv : Value} {on : Int -> Bool}
theorem cz.kind (h:cz w0 w sb ob N g vE fv rv on):bI w sb 85:=⟨_,_,h.heap⟩
theorem cz.zl (h:cz w0 w sb ob N g vE fv rv on):nN w sb g vE N :=
 ⟨(cell_of_row _ _ 0 _ _ _ h.heap).trans rfl,(cell_of_row _ _ 1 _ _ _ h.heap).trans rfl,h.gr.fresh h.aM,h.n,h.err⟩
theorem cz.q2 (h:cz w0 w sb ob N g vE fv rv on):w.cell? ⟨sb,2,none⟩=some (.slice (some ⟨ob,0,none⟩) N N):=(cell_of_row _ _ 2 _ _ _ h.heap).trans rfl
theorem cz.q3 (h:cz w0 w sb ob N g vE fv rv on):w.cell? ⟨sb,3,none⟩=some fv:=(cell_of_row _ _ 3 _ _ _ h.heap).trans rfl
theorem cz.q4 (h:cz w0 w sb ob N g vE fv rv on):w.cell? ⟨sb,4,none⟩=some rv:=(cell_of_row _ _ 4 _ _ _ h.heap).trans rfl
theorem cz.free (h:cz w0 w sb ob N g vE fv rv on) (i:Nat):w.frozen? ⟨sb,i,none⟩=false:=bJ h.heap i
theorem cz.more {own:List Nat} (h:cz w0 w sb ob N g vE fv rv on) (hc:ai own w w') (h0:∀ j∈own,w0.heap.size<=j) (h1:sb ∉ own) (h2:ob ∉ own):cz w0 w' sb ob N g vE fv rv on :=
 ⟨h.gr,h.n,h.err,h.aM.trans hc (fun j hj=>Qe (h0 j hj)),h.low,hc.heap h.heap h1,h.on.aM hc h2⟩
theorem cz.fresh (h:cz w0 w sb ob N g vE fv rv on) (hc:ai [] w w'):cz w0 w' sb ob N g vE fv rv on:=h.more hc (by simp) (by simp) (by simp)
theorem cz.Ot (h:cz w0 w sb ob N g vE fv rv on):ob≠sb:=h.on.dg.ne h.kind (by decide)
theorem cz.aiz (h:cz w0 w sb ob N g vE fv rv on) (fv':Value):cz w0 (w.setCell ⟨sb,3,none⟩ fv') sb ob N g vE fv' rv on:=by
 have hc:ai [sb] w (w.setCell ⟨sb,3,none⟩ fv'):=(ai.refl _ _).setCell (Qg (by simp)) _;exact⟨h.gr,h.n,h.err,h.aM.trans hc (fun j hj=>Qe (by rw[Qa.1 hj];exact h.low)),h.low,heap_setCell_same h.heap 3 fv',h.on.aM hc (by simpa using h.Ot)⟩
theorem cz.acI (h:cz w0 w sb ob N g vE fv rv on) (rv':Value):cz w0 (w.setCell ⟨sb,4,none⟩ rv') sb ob N g vE fv rv' on:=by
 have hc:ai [sb] w (w.setCell ⟨sb,4,none⟩ rv'):=(ai.refl _ _).setCell (Qg (by simp)) _;exact⟨h.gr,h.n,h.err,h.aM.trans hc (fun j hj=>Qe (by rw[Qa.1 hj];exact h.low)),h.low,heap_setCell_same h.heap 4 rv',h.on.aM hc (by simpa using h.Ot)⟩
theorem cz.aeP (h:cz w0 w sb ob N g vE fv rv on) (v:Nat):cz w0 (w.setCell ⟨ob,v,none⟩ (.bool true)) sb ob N g vE fv rv (fun u=>if u=(v:Int) then true else on u):=by
 have hc:ai [ob] w (w.setCell ⟨ob,v,none⟩ (.bool true)):=(ai.refl _ _).setCell (Qg (by simp)) _;exact⟨h.gr,h.n,h.err,h.aM.trans hc (fun j hj=>Qe (by rw[Qa.1 hj];exact h.on.lt.1)),h.low,hc.heap h.heap (by simpa using fun e=>h.Ot e.symm),h.on.set true⟩
theorem cz.same (h:cz w0 w sb ob N g vE fv rv on) {on':Int->Bool} (he:∀ i:Nat,i<N->on i=on' i):cz w0 w sb ob N g vE fv rv on':=⟨h.gr,h.n,h.err,h.aM,h.low,h.heap,tl h.on he⟩
end
structure nH (ob:Nat) (xs ys:List Value):Prop where
 o:∀ k,k<xs.length->(xs.getD k undef).ownBlock≠some ob
 y:∀ k l b,k<xs.length->l<ys.length->(xs.getD k undef).ownBlock=some b->(ys.getD l undef).ownBlock≠some b
structure CZ (w0 w:World) (sb ob N:Nat) (g:Plain.Gr) (vE fv rv:Value) (xs ys:List Value) (s:Plain.Sk):Prop where
 base:cz w0 w sb ob N g vE fv rv s.on
 aj:cR g w w0.heap.size N fv xs s.aj
 rest:bF w w0.heap.size 151 3 rv s.rest.length ys (dF s.rest)
 far:nH ob xs ys
section
variable {w0 w w' : World} {sb ob N : Nat} {g : Plain.Gr} {vE fv rv : Value} {xs ys : List Value} {s : Plain.Sk}
end
theorem cR.put {g:Plain.Gr} {w:World} {B N fb c f hb:Nat} {xs:List Value} {F:List (List Int)} {v:Value} {l:List Int} (h:cR g w B N (.slice (some ⟨fb,0,none⟩) F.length c) xs F) (hf:f<F.length) (hv:ax w B v l) (hh:bK w B hb N (Plain.dt g l)) :
  cR g ((w.setCell ⟨fb,2*f,none⟩ v).setCell ⟨fb,2*f+1,none⟩ (.slice (some ⟨hb,0,none⟩) N N)) B N (.slice (some ⟨fb,0,none⟩) F.length c) ((xs.set (2*f) v).set (2*f+1) (.slice (some ⟨hb,0,none⟩) N N)) (F.set f l):=by
 have hl:=h.len;have hk:bI w fb 147:=cf h.out rfl;have hc:ai [fb] w ((w.setCell ⟨fb,2*f,none⟩ v).setCell ⟨fb,2*f+1,none⟩ (.slice (some ⟨hb,0,none⟩) N N)):=((ai.refl _ _).setCell (Qg (by simp)) _).setCell (Qg (by simp)) _;have bd:∀ {u:Value} {m:List Int},ax w B u m->ax ((w.setCell ⟨fb,2*f,none⟩ v).setCell ⟨fb,2*f+1,none⟩ (.slice (some ⟨hb,0,none⟩) N N)) B u m:=fun hr=>hr.aM hc fun b hb=>by
  rw[Qa];exact (hr.dg (by simpa using hb)).ne hk (by decide)
 have Du:∀ {b:Nat} {p:Int->Bool},bK w B b N p->bK ((w.setCell ⟨fb,2*f,none⟩ v).setCell ⟨fb,2*f+1,none⟩ (.slice (some ⟨hb,0,none⟩) N N)) B b N p:=fun hr=>hr.aM hc (by
  rw[Qa];exact hr.dg.ne hk (by decide))
 refine⟨?_,by simp[hl],fun i hi=>?_,fun i hi=>?_⟩
 ·have h1:=(h.out.stored (2*f) v).1
  have h2:=(h1.stored (2*f+1) (.slice (some ⟨hb,0,none⟩) N N)).1;rw[Qd];exact h2
 ·rw[Qd] at hi
  rw[dW _ _ _ _ _ (by rw[Qd];omega),if_neg (by omega),dW _ _ _ _ _ (by omega),sL _ _ _ _ hf];by_cases e:i=f
  ·rw[if_pos (by omega),if_pos e];exact bd hv
  rw[if_neg (by omega),if_neg e];exact bd (h.row i hi)
 rw[Qd] at hi;rw[dW _ _ _ _ _ (by rw[Qd];omega),sL _ _ _ _ hf];by_cases e:i=f
 ·rw[if_pos (by omega),if_pos e];exact⟨hb,rfl,Du hh⟩
 rw[if_neg (by omega),if_neg e,dW _ _ _ _ _ (by omega),if_neg (by omega)];obtain⟨b,e1,h1⟩:=h.has i hi;exact⟨b,e1,Du h1⟩
theorem cR.add {g:Plain.Gr} {w w':World} {B N fb c hb:Nat} {fv:Value} {xs:List Value} {F:List (List Int)} {v:Value} {l:List Int} (h:cR g w B N fv xs F) (hv:ax w B v l) (hh:bK w B hb N (Plain.dt g l))
  (hn:w'.ownsRow B 147 2 (.slice (some ⟨fb,0,none⟩) (F.length+1) c) (F.length+1) (xs++[v,.slice (some ⟨hb,0,none⟩) N N])) (hc:ai fv.ownBlock.toList w w') :
  cR g w' B N (.slice (some ⟨fb,0,none⟩) (F.length+1) c) (xs++[v,.slice (some ⟨hb,0,none⟩) N N]) (F++[l]):=by
 have hl:=h.len;have hk:∀ b∈fv.ownBlock.toList,bI w b 147:=fun b hb=>cf h.out (by simpa using hb);have bd:∀ {u:Value} {m:List Int},ax w B u m->ax w' B u m:=fun hr=>hr.aM hc fun b hb hm=>(hr.dg (by simpa using hb)).ne (hk b hm) (by decide) rfl;have Du:∀ {b:Nat} {p:Int->Bool},bK w B b N p->bK w' B b N p:=fun hr=>hr.aM hc fun hm=>hr.dg.ne (hk _ hm) (by decide) rfl;refine⟨by rw[Qb];exact hn,by simp[hl];omega,fun i hi=>?_,fun i hi=>?_⟩
 ·rw[Qb,Qh] at hi
  by_cases e:i<F.length
  ·rw[cQ (by omega),cQ e];exact bd (h.row i e)
  rw[cd (by omega),cd (by omega),show 2*i - xs.length=0 by omega,show i - F.length=0 by omega];exact bd hv
 rw[Qb,Qh] at hi;by_cases e:i<F.length
 ·rw[cQ (by omega),cQ e]
  obtain⟨b,e1,h1⟩:=h.has i e;exact⟨b,e1,Du h1⟩
 rw[cd (by omega),cd (by omega),show 2*i+1 - xs.length=1 by omega,show i - F.length=0 by omega];exact⟨hb,rfl,Du hh⟩
end Go.Proofs.YtbkjljffnkdcjaaGreat
