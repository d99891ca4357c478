/- draw's sketch: qL: contract. Conditions: a sketch's graph, drawn vertices, a scrap that lie in memory and read so. -/
import Derived.Test.YtoiflofhcmjpoaaGreatD9Path
open List renaming mem_singleton→Qa,length_cons→Qb,length_append→Qd,length_singleton→Qg,filter_append→Qh,filter_cons→Qi,filter_nil→Qj,length_nil→Qk,length_set→Ql,map_cons→Qn,map_nil→Qo,range→Qq
open Or renaming inr→Qc,inl→Qf
open Nat renaming zero_le→Qe,le_refl→Qp
open Go.Value renaming ownBlock→Qm
open Go.Act renaming put→Qr
namespace Go.Proofs.YtoiflofhcmjpoaaGreat
open Go.RowKit Go.Maps
namespace Plain
def ma (g:Gr) (p:Pt) (k e j:Nat) (v:Int):List Int:=outs g p k v++((Qq j).map fun i=>((2*e+i:Nat):Int)).filter fun d=>decide (g.tail d=v)
theorem Fi (g:Gr) (p:Pt) (k e:Nat):ma g p k e 0=outs g p k:=by funext v;simp[ma]
theorem Fk (g:Gr) (p:Pt) (k e j:Nat):ma g p k e (j+1)=fun v=>if v=g.tail ((2*e+j:Nat):Int) then ma g p k e j (g.tail ((2*e+j:Nat):Int))++[((2*e+j:Nat):Int)] else ma g p k e j v:=by
 funext v
 unfold ma;rw[List.range_succ,List.map_append,Qh,<-List.append_assoc];by_cases h:v=g.tail ((2*e+j:Nat):Int)
 ·rw[if_pos h,<-h]
  congr 1
  simp only[Qn,Qo,Qi,Qj,h,decide_true,if_true]
 rw[if_neg h];have h2:decide (g.tail ((2*e+j:Nat):Int)=v)=false:=decide_eq_false fun q=>h q.symm;simp only[Qn,Qo,Qi,Qj,h2,Bool.false_eq_true,if_false,List.append_nil]
theorem JG {g:Gr} {p:Pt} {k e:Nat} (hk:k<p.e.length) (he:p.e.getD k 0=(e:Int)):ma g p k e 2=outs g p (k+1):=by
 funext v
 have e1:p.e.take (k+1)=p.e.take k++[(e:Int)]:=by
  rw[List.take_succ_eq_append_getElem hk,<-he];simp[List.getD,hk]
 unfold ma outs Pt.ah;rw[e1,List.flatMap_append,Qh]
 congr 1
theorem Js (g:Gr) (p:Pt) (k e j:Nat) (v:Int):(ma g p k e j v).length<=2*k+j:=by
 unfold ma;rw[Qd];have h1:=Cm g p k v;have h2:=List.length_filter_le (fun d=>decide (g.tail d=v)) ((Qq j).map fun i=>((2*e+i:Nat):Int));rw[List.length_map,List.length_range] at h2;omega
theorem Sl {g:Gr} {on:Int->Bool} {p:Pt} {a:Int} (hp:aB g p) (q8:∀ d∈p.ah,0<=d) :
  (∀ z c,ir g on p (p.v.length+2) (fun y=>if y=a then some (-1) else none) [a]=(some z,c)->∃ l,lY g on p a=l/\xE g c a z l/\c a=some (-1)/\l.length<=p.v.length/\∀ d∈l,d∈p.ah) /\
  (∀ c,ir g on p (p.v.length+2) (fun y=>if y=a then some (-1) else none) [a]=(none,c)->lY g on p a=[]):=by
 have hw:=rC (g:=g) (on:=on) (a:=a) q8 hp.vn (fun d hd=>(hp.aO hd).2) (p.v.length+2) xF vQ;refine⟨fun z c h=>?_,fun c h=>by unfold lY;rw[h]⟩;rw[h] at hw;obtain⟨w1,w2,w3,w4⟩:=hw;obtain⟨l,l1,l2,l3⟩:=w1.trc z w2;obtain⟨k1,k2,k3,k4⟩:=l1.link;have hlen:l.length<=p.v.length:=by
  have:=bS k3 fun x hx=>by
   obtain⟨d,hd,rfl⟩:=List.mem_map.1 hx;exact (hp.aO (l2 d hd)).2
  simpa using this
 exact⟨l,by unfold lY;rw[h];exact l1.back w1.base _ (by omega),l1,w1.base,hlen,l2⟩
theorem drop_cons {L:List Int} {k:Nat} (hk:k<L.length):L.drop k=L.getD k 0 :: L.drop (k+1):=rL hk
theorem Jt {g:Gr} {on:Int->Bool} {d:Int} {ds:List Int} {aP:ij} {q:List Int} {z:Int} (h:aP (g.head d)=some z):dY g on (d :: ds) aP q=dY g on ds aP q:=by rw[dY,h]
theorem Jz {g:Gr} {on:Int->Bool} {d:Int} {ds:List Int} {aP:ij} {q:List Int} (h:aP (g.head d)=none) (ho:on (g.head d)=false):dY g on (d :: ds) aP q=dY g on ds (fun y=>if y=g.head d then some d else aP y) (q++[g.head d]):=by rw[dY,h];simp[ho]
theorem OH {g:Gr} {on:Int->Bool} {d:Int} {ds:List Int} {aP:ij} {q:List Int} (h:aP (g.head d)=none) (ho:on (g.head d)=true):dY g on (d :: ds) aP q=(some (g.head d),(fun y=>if y=g.head d then some d else aP y),q):=by rw[dY,h];simp[ho]
theorem UC {g:Gr} {on:Int->Bool} {p:Pt} {n:Nat} {u:Int} {aP:ij} {q:List Int}:ir g on p (n+1) aP (u :: q)=match dY g on (aF g p u) aP q with | (some z,c,_)=>(some z,c) | (none,c,q')=>ir g on p n c q':=rfl
end Plain
theorem iC.cons {w:World} {H:Nat} {v:Value} {x:Int} {q:List Int} (h:iC w H v (x :: q)):∃ b off cap,v=.slice (some ⟨b,off,none⟩) (q.length+1) cap/\w.cell? ⟨b,off,none⟩=some (.int .i64 x)/\q.length+1<=cap /\
  (cap=1->iC w H (.slice (some ⟨b,off,none⟩) q.length 0) q)/\(cap≠1->iC w H (.slice (some ⟨b,off+1,none⟩) q.length (cap - 1)) q):=by
 obtain⟨h1,h2,h3⟩:=h;rcases h3 with ⟨-,e⟩ | ⟨b,off,cap,cur,rfl,hg,hh,sU,oP,hoc,ja⟩
 ·cases e
 have hs:∀ y∈q,aU y:=fun y hy=>h1 y (by simp[hy]);simp only[Qb] at sU h2;have fin:∀ oH eP,oH+eP<=cur.size->q.length<=eP->eP<=9223372036854775807->(∀ i,i<q.length->cur[oH+i]?=some (.int .i64 (q.getD i 0)))->iC w H (.slice (some ⟨b,oH,none⟩) q.length eP) q :=
  fun oH eP k1 k2 k3 k4=>⟨hs,by omega,Qc ⟨b,oH,eP,cur,rfl,hg,hh,k2,k3,k1,k4⟩⟩
 refine⟨b,off,cap,rfl,?_,sU,fun hc=>?_,fun hc=>?_⟩
 ·rw[cell_of_row w b off cur _ _ hh]
  have:=ja 0 (by simp);simpa using this
 ·subst hc
  exact fin off 0 (by omega) (by omega) (by omega) (fun i hi=>by omega)
 refine fin (off+1) (cap - 1) (by omega) (by omega) (by omega) (fun i hi=>?_);have:=ja (i+1) (by simp;omega);rw[show off+1+i=off+(i+1) by omega,this];simp
set_option maxRecDepth 100000 in
set_option maxHeartbeats 4000000 in
theorem Tf (sb N B ob a fn:Nat) (vE v1 v2:Value) (fo:Option Addr) (fc:Nat) (g:Plain.Gr) (on:Int->Bool) (V E ends:List Int) (w:World) (hG:mM w sb g vE N) (hq:w.cell? ⟨sb,2,none⟩=some (.slice (some ⟨ob,0,none⟩) N N)) (nJ:bD w B ob N on)
  (hE:∀ e∈E,0<=e/\e<g.e.length) (hEl:E.length<=1024) (h1:al w v1 E) (h2:al w v2 ends) (sr:0<ends.length) (ha:ends.getD 0 0=a) (haN:a<N) (hP:Plain.aB g ⟨V,E⟩) (haV:(a:Int)∈V) :
  Calls Tryz.prog 133 #[.pointer (some ⟨sb,0,none⟩),.agg #[v1,v2,.slice fo fn fc]] w fun e w'=>∃ v',e=.returned v'/\aj w' w.heap.size v' (Plain.lY g on ⟨V,E⟩ a)/\ag [] w w':=by
 have HG:=lh hG;have HQ:=lh hq;have Ri:=lh nJ;have HE:=lh hE;have H1:=lh h1;have H2:=lh h2;have HA:=lh ha;have HP:=lh hP;have HAV:=lh haV;have fZ:=lh hG.small;obtain⟨lo,lc,rfl,-,-,-⟩:=h1;obtain⟨uo,uc,rfl,-,-,-⟩:=h2;have mY:=@run_makeMap Tryz.prog;have iQ:=lh (show ag [] w (w.alloc (.cells #[.slice lo E.length lc,.slice uo ends.length uc,.slice fo fn fc] 162)) from (show ag [] w (w.alloc (.cells #[.slice lo E.length lc,.slice uo ends.length uc,.slice fo fn fc] 162)) from ((ag.refl [] w).alloc _)));have dk:=heap_alloc_new w (.cells #[.slice lo E.length lc,.slice uo ends.length uc,.slice fo fn fc] 162);have HX:=lh (fun (w2:World) (eh:ag [] (w.alloc (.cells #[.slice lo E.length lc,.slice uo ends.length uc,.slice fo fn fc] 162)) w2)=>(⟨eh.c ((cell_of_row _ _ 0 _ _ _ dk).trans rfl),eh.c ((cell_of_row _ _ 1 _ _ _ dk).trans rfl),eh.c ((cell_of_row _ _ 2 _ _ _ dk).trans rfl),by have hz:=eh.size;simpa using hz⟩:w2.cell? ⟨w.heap.size,0,none⟩=some (.slice lo E.length lc)/\w2.cell? ⟨w.heap.size,1,none⟩=some (.slice uo ends.length uc)/\w2.cell? ⟨w.heap.size,2,none⟩=some (.slice fo fn fc)/\w.heap.size+1<=w2.heap.size));clear dk;have Gc:=lh (show (w.alloc (.cells #[.slice lo E.length lc,.slice uo ends.length uc,.slice fo fn fc] 162)).heap.size=w.heap.size+1 by simp);obtain⟨x0,x1,-,dj⟩:=HX.out _ (ag.refl _ _);clear hG hq nJ hE ha hP haV
 go_enter Tryz.func133,Tryz.ntmps133
 go_wp2;clear mY x0 x1;have HM:=lh (SMap.made (w.alloc (.cells #[.slice lo E.length lc,.slice uo ends.length uc,.slice fo fn fc] 162)));have hz:(w.alloc (.cells #[.slice lo E.length lc,.slice uo ends.length uc,.slice fo fn fc] 162)).heap.size=w.heap.size+1:=by simp
 rw[hz] at HM;have b8:=lh ((ag.refl [] (w.alloc (.cells #[.slice lo E.length lc,.slice uo ends.length uc,.slice fo fn fc] 162))).alloc (.map #[] 0));generalize w.alloc (.cells #[.slice lo E.length lc,.slice uo ends.length uc,.slice fo fn fc] 162)=w1 at *;obtain⟨mb,AQ⟩:∃ mb,w.heap.size+1=mb:=⟨_,rfl⟩;have HMB:=lh AQ;have WT:=lh hz;rw[AQ] at HM ⊢;clear hz AQ dj
 go_loopw [7,8,9,22] (fun _ _ _ c wr=>∃ k:Nat,k<=E.length/\c=.int .i64 k/\SMap wr mb (2*k) (Plain.outs g ⟨V,E⟩ k)/\ag [] w1 wr) (fun _ _ _ c _=>E.length - (intOf c).toNat)
 case atStart=>exact⟨0,Qe _,rfl,by rw[Plain.xL];exact HM.out,b8.out⟩
 case round =>
  obtain⟨k,hk,rfl,dK,hc⟩:=hrel;have HS:=lh dK;have HC:=lh hc;clear dK hc HM b8;by_cases aL:k<E.length
  ·obtain⟨rb,iR,rfl,rc⟩:=al.cellAt H1.out aL
   have cz:=HC.out.c (iQ.out.c rc);have mj:=HE.out _ (Plain.aQ aL);obtain⟨en,kD⟩:∃ en:Nat,E.getD k 0=en:=⟨(E.getD k 0).toNat,by omega⟩;have H2E:=lh (Plain.JG (g:=g) (p:=⟨V,E⟩) aL kD);rw[kD] at cz mj;have lR:en<g.e.length:=by omega
   have tx:en<2000:=by have:=fZ.out;omega
   have U5:=lh (Plain.Js g ⟨V,E⟩ k en);clear rc kD mj;go_wp2;clear cz
   go_loopw [8,9] (fun c _ wr=>∃ j:Nat,j<=2/\c=.int .i64 ((2*en+j:Nat):Int)/\SMap wr mb (2*k+j) (Plain.ma g ⟨V,E⟩ k en j)/\ag [] w1 wr) (fun c _ _=>2*en+2 - (intOf c).toNat)
   case atStart=>exact⟨0,by omega,by go_num,by rw[Plain.Fi];exact HS.out,HC.out⟩
   case round =>
    obtain⟨j,hj,rfl,dK,vN⟩:=hrel;have sT:=lh dK;have cB:=lh vN;clear dK vN HS HC;by_cases EO:j<2
    ·have HSU:=lh (Plain.Fk g ⟨V,E⟩ k en j)
     obtain⟨d,hd⟩:∃ d:Nat,2*en+j=d:=⟨_,rfl⟩;have sZ:d / 2<g.e.length:=by omega
     obtain⟨n',v,YW,-,hv,tq,-⟩:=HG.out.Bc (d:=(d:Int)) (by omega) (by omega);rw[hd] at HSU ⊢;rw[hv] at HSU;have HV:=lh hv;have lC:(d:Int)<=2*(en:Int)+1:=by omega
     have Ki:aU (d:Int):=aU.mk (by omega) (by omega);have EB:aU (v:Int):=aU.mk (by omega) (by have:=fZ.out;omega);have q0:=cB.out.c (iQ.out.c HG.out.c0);have q1:=cB.out.c (iQ.out.c HG.out.c1);have HL0:=lh (U5.out j (v:Int));obtain⟨f0,Vx⟩:∃ f0,Plain.ma g ⟨V,E⟩ k en j=f0:=⟨_,rfl⟩;rw[Vx] at sT HSU HL0;have Lo:k<1024:=by omega
     clear YW hv Vx
     go_wp2_with fail
     refine (cO _ g d _ sZ (by have:=fZ.out;omega) ((HG.out.fresh iQ.out).fresh cB.out).gr).mono ?_;rintro _ w3 ⟨rfl,cT⟩;rw[HV.out];have YH:=lh (sT.out.fresh cT);have cU:=lh (cB.out.t cT);clear cT q0 q1
     go_wp2_with (first
      | (at_lookup;refine vu rfl _ _ rfl YH.out (by omega) rfl EB rfl ?_;intro u4 r4 l4 b4;have R4:=lh r4;have B4:=lh b4;clear r4 l4 b4)
      | (at_builtin;refine bT rfl _ _ rfl (B:=mb+1) rfl rfl (R4.out.aD ((ag.refl [] _).alloc _) (by simp)) (fT _ Ki) (by have:=YH.out.lt;simp;omega) (by have:=HL0.out;simp;omega) ?_;intro u5 w5 q5 c5 f5;have Q5:=lh q5;have D5:=lh (((ag.refl (aE u4) w3).alloc (.cells #[.int .i64 (d:Int)] 3)).trans c5 (fun j hj=>Qf hj));have F5:=lh (fun j hj=>(f5 j hj).imp id (fun q=>Nat.le_trans ((ag.refl [] w3).alloc (.cells #[.int .i64 (d:Int)] 3)).size q));clear q5 c5 f5)
      | (at_mapUpdate;refine vX rfl _ _ _ rfl B4.out rfl rfl rfl Q5.out D5.out F5.out ?_;intro w6 s6 d6;have S6:=lh s6;have D6:=lh d6;clear s6 d6))
     go_roundw
     case rel =>
      have Si:∀ j∈aE u4,w1.heap.size<=j:=fun j hj=>by have:=(R4.out.low j (by rw[<-R4.out.aE];exact hj)).1;have:=HMB.out;have:=WT.out;omega
      refine⟨j+1,by omega,by rw[<-hd];go_num,by rw[HSU.out];exact S6.out,(cU.out.trans D5.out (fun j hj=>Qc (Si j hj))).trans D6.out (fun j hj=>Qc (by simp at hj;have:=HMB.out;have:=WT.out;omega))⟩
     case measure=>simp[intOf];omega
    have e2:j=2:=by omega
    subst e2;rw[H2E.out] at sT;have YH:=lh (show SMap wr mb (2*(k+1)) (Plain.outs g ⟨V,E⟩ (k+1)) from sT.out);clear hj EO;go_wp2
    go_roundw
    case rel=>exact⟨k+1,by omega,by go_num,YH.out,cB.out⟩
    case measure=>simp[intOf];omega
  have e:k=E.length:=by omega
  subst e;have HVN:=lh (HP.out.vn);have q8:∀ d∈Plain.Pt.ah ⟨V,E⟩,0<=d/\d / 2<g.e.length:=fun d hd=>by
   have:=HE.out _ (Plain.aw.1 hd);omega
  have US:=lh q8;have Kx:=lh (Plain.Sl (on:=on) (a:=(a:Int)) HP.out (fun d hd=>(q8 d hd).1));have Hw:=lh (show ∀ u∈V,0<=u/\u<N from fun u hu=>by have:=HP.out.vr u hu;rw[HG.out.n] at this;exact this);have vH:=lh (show V.length<=1024 by have h:V.length<=N:=j7 (l:=V) (N:=N) HP.out.vn Hw.out;have:=fZ.out;omega);have FY:=lh (show ∀ d∈Plain.Pt.ah ⟨V,E⟩,g.head d∈V from fun d hd=>(HP.out.aO hd).2);have Zf:=lh (show SMap wr mb (2*E.length) (Plain.aF g ⟨V,E⟩) by
   have h:=HS.out;rwa[show Plain.outs g ⟨V,E⟩ E.length=Plain.aF g ⟨V,E⟩ from funext fun v=>Plain.CW g ⟨V,E⟩ v] at h)
  obtain⟨-,x1,-,-⟩:=HX.out wr HC.out;obtain⟨eb,dO,rfl,rc⟩:=al.cellAt H2.out sr;have ec:=HC.out.c (iQ.out.c rc);rw[HA.out,Nat.add_zero] at ec;have mY:=@run_makeMap Tryz.prog;have HIM:=lh (bK.made wr);have acZ:aU (a:Int):=aU.mk (by omega) (by have:=fZ.out;omega);have wv:=lh (show w.heap.size<=wr.heap.size from (iQ.out.t HC.out).size);have aqh:=lh Zf.out.lt;clear rc q8 hk aL HS
  go_wp2_with (refine rf rfl _ _ _ rfl HIM.out (by unfold maxLen;omega) rfl acZ (aU.mk (by omega) (by omega)) rfl rfl ?_;intro w2 jo Cz;have mr:=lh jo;have FM:=lh Cz;clear jo Cz)
  clear mY x1 ec;have cB:=lh (show ag [] wr w2 from ((ag.refl [] wr).alloc (.map #[] 0)).grown FM.out (row:=some wr.heap.size) (fun k hk=>by cases hk;exact Qc (Qp _)));have zW:=lh (HC.out.t cB.out);have acA:=lh (iQ.out.t zW.out);have KS:=lh (iC.E8 (BG (w:=w2) (B:=w2.heap.size) (Qp _) acZ));have cU:=lh ((ag.refl [] w2).alloc (.cells #[.int .i64 (a:Int)] 3));have Lf:=lh (mr.out.aD cU.out (by simp));obtain⟨cb,qJ⟩:∃ n,wr.heap.size=n:=⟨_,rfl⟩;have xd:=lh qJ;rw[qJ] at Lf ⊢;have Hx:=lh (show cb<w2.heap.size from by have:=mr.out.lt;rw[qJ] at this;exact this);have Vr:=lh (Zf.out.fresh cB.out);clear qJ HIM mr FM;generalize w2.alloc (.cells #[.int .i64 (a:Int)] 3)=w3 at *;obtain⟨H,hH⟩:∃ n,w2.heap.size=n:=⟨_,rfl⟩;have HHH:=lh hH;rw[hH] at KS Hx ⊢;clear hH;obtain⟨T,hT⟩:∃ T,Plain.ir g on ⟨V,E⟩ (V.length+2) (fun y=>if y=(a:Int) then some (-1) else none) [(a:Int)]=T:=⟨_,rfl⟩;have HT:=lh hT;rw[show (⟨V,E⟩:Plain.Pt).v.length=V.length from rfl,hT] at Kx;have Ug:=lh (Plain.vQ (p:=⟨V,E⟩) (a:=(a:Int)));clear hT
  go_loopg [12] (V.length+2) (fun fuel GF wx=>fuel<=V.length+2/\∃ (aP:Plain.ij) (q:List Int) (n:Nat),iC wx H GF q/\bK wx cb n aP/\Hid (Plain.ir g on ⟨V,E⟩ fuel aP q=T/\q.length+Plain.ik V aP<fuel/\n+Plain.ik V aP<=V.length+1/\∀ x∈q,x∈V)/\ag [cb] w2 wx)
  case atStart=>exact⟨Nat.le_refl _,_,[(a:Int)],1,KS.out,Lf.out,lh ⟨HT.out,Ug.out,by have:=Ug.out;simp only[Qb,Qk] at this;omega,by intro x hx;rw[Qa.1 hx];exact HAV.out⟩,cU.out.mono (by simp)⟩
  case round =>
   obtain⟨hfu,aP,q,n,hq,him,hinv,hc⟩:=hrel;have HQR:=lh hq;have acj:=lh him;have j9:=lh hc;have mH:=lh (acA.out.trans hc (fun j hj=>Qc (by rw[Qa] at hj;have:=wv.out;have:=xd.out;omega)));have HCS:=lh (cB.out.trans hc (fun j hj=>Qc (by rw[Qa] at hj;have:=xd.out;omega)));clear hq him hc;cases q with
   | nil =>
    obtain⟨qo,qc,rfl⟩:=HQR.out.shape;have Zv:=lh (show Plain.lY g on ⟨V,E⟩ a=[] from Kx.out.2 aP (by rw[<-hinv.out.1];cases gk <;> rfl));go_wp2;go_ret;exact⟨_,rfl,by rw[Zv.out];exact eJ _ _,mH.out⟩
   | cons u q =>
    have Wd:1<=gk:=by have:=hinv.out.2.1;simp only[Qb] at this;omega
    have Sb:=lh (show T=match Plain.dY g on (Plain.aF g ⟨V,E⟩ u) aP q with | (some z,c,_)=>(some z,c) | (none,c,q')=>Plain.ir g on ⟨V,E⟩ (gk - 1) c q' by
     rw[<-hinv.out.1];obtain⟨n',YW⟩:∃ n',gk=n'+1:=⟨gk - 1,by omega⟩;rw[YW];rfl)
    have huV:=hinv.out.2.2.2 u (by simp);have Tu:=Hw.out u huV;have ajR:aU u:=aU.mk (by omega) (by have:=fZ.out;omega);obtain⟨qb,af7,ab7,rfl,aec,hqc,-,-⟩:=HQR.out.cons;have hqp:(0:Int)<((q.length+1:Nat):Int):=by omega
    have ku:=lh (show q.length+1+Plain.ik V aP<gk/\n+Plain.ik V aP<=V.length+1/\∀ x∈q,x∈V from⟨by have:=hinv.out.2.1;simp only[Qb] at this;exact this,hinv.out.2.2.1,fun x hx=>hinv.out.2.2.2 x (by simp[hx])⟩);have hlq:(u :: q).length=q.length+1:=rfl;clear huV Tu hinv
    go_wp2_with (at_lookup;refine ni rfl _ _ rfl Zf.out HCS.out (by omega) rfl ajR rfl ?_;intro vv r0;obtain⟨vo,vc,rfl⟩:=r0.shape;have R0:=lh r0;clear r0)
    have UE:=lh (show ∀ d∈Plain.aF g ⟨V,E⟩ u,d∈Plain.Pt.ah ⟨V,E⟩/\g.tail d=u from fun d hd=>Plain.bg.1 hd);obtain⟨L,hL⟩:∃ L,Plain.aF g ⟨V,E⟩ u=L:=⟨_,rfl⟩;rw[hL] at Sb R0 UE ⊢;obtain⟨WI,hWI⟩:∃ WI,Plain.dY g on L aP q=WI:=⟨_,rfl⟩;have HWI:=lh hWI;rw[hWI] at Sb;have VN:L.length<4294967296:=R0.out.2.2;clear hL hWI aec hqc
    go_loopw [12,70] (fun GF c70 wx=>∃ (k:Nat) (aP:Plain.ij) (q:List Int) (n:Nat),k<=L.length/\c70=.int .i64 k/\iC wx H GF (u :: q)/\bK wx cb n aP/\Hid (Plain.dY g on (L.drop k) aP q=WI/\q.length+1+Plain.ik V aP<gk/\n+Plain.ik V aP<=V.length+1/\∀ x∈q,x∈V)/\ag [cb] w2 wx) (fun _ c _=>L.length - (intOf c).toNat)
    case atStart=>exact⟨0,aP,q,n,Qe _,rfl,HQR.out,acj.out,lh ⟨HWI.out,ku.out.1,ku.out.2.1,ku.out.2.2⟩,j9.out⟩
    case round =>
     obtain⟨k,om,q1,n1,hk,rfl,hq,him,fp,hc⟩:=hrel;have UM:=lh hq;have XC:=lh him;have Wi:=lh hc;have agT:=lh (cB.out.trans hc (fun j hj=>Qc (by rw[Qa] at hj;have:=xd.out;omega)));have SA:=lh (acA.out.trans hc (fun j hj=>Qc (by rw[Qa] at hj;have:=wv.out;have:=xd.out;omega)));clear hq him hc HQR acj j9 HCS mH;by_cases aL:k<L.length
     ·obtain⟨gr,Z0,sC⟩:=R0.out.some (by omega)
      subst Z0;have ck:=agT.out.c (sC k aL);obtain⟨lC,Fp⟩:=UE.out (L.getD k 0) (by simp[List.getD,aL]);have hdr:=US.out _ lC;have HDC:=lh (Plain.drop_cons aL);have hxV:=FY.out _ lC;have V9:=Hw.out _ hxV;obtain⟨d,hd⟩:∃ d:Nat,L.getD k 0=d:=⟨(L.getD k 0).toNat,by omega⟩;rw[hd] at ck lC hdr HDC hxV V9;obtain⟨x,hx⟩:∃ x:Nat,g.head (d:Int)=x:=⟨(g.head (d:Int)).toNat,by omega⟩;have HX:=lh hx;rw[hx] at hxV V9;have FI:g.tail (Plain.aT (d:Int))=x:=by rw[Plain.aS];exact hx
      have Rn:=Plain.dP (d:Int);have GG:0<=Plain.aT (d:Int):=by omega
      obtain⟨t,ht⟩:∃ t:Nat,Plain.aT (d:Int)=t:=⟨(Plain.aT (d:Int)).toNat,by omega⟩;rw[ht] at FI Rn;have Hl:t / 2<g.e.length:=by omega
      have Hs:=kP d (by have:=fZ.out;omega);rw[ht] at Hs;have HTW:=lh FI;have hxN:x<N:=by omega
      have hxi:(x:Int)<(N:Int):=by omega
      have Ih:aU (x:Int):=aU.mk (by omega) (by have:=fZ.out;omega);have Ki:aU (d:Int):=aU.mk (by omega) (by have:=fZ.out;omega);have TF:=lh hxV;have q0:=SA.out.c HG.out.c0;have qq1:=SA.out.c HG.out.c1;have SE:=lh fp.out.1;have Cq:=lh fp.out.2;rw[HDC.out] at SE;clear sC lC Fp hdr hxV V9 hd hx FI Rn GG ht fp
      go_wp2_with fail
      refine (cO _ g t _ Hl (by have:=fZ.out;omega) (HG.out.fresh SA.out).gr).mono ?_;rintro _ w5 ⟨rfl,eO⟩;rw[HTW.out];have ga:=lh (Wi.out.t eO);have adQ:=lh (SA.out.t eO);have OP:=lh (UM.out.aD eO (by simp));have Jg:=lh (XC.out.aD eO (by simp));clear eO q0 qq1 ck;cases qU:om (x:Int) with
      | some z =>
       have kV:=lh qU;have IU:=lh (show Plain.dY g on (L.drop (k+1)) om q1=WI by rw[<-SE.out];exact (Plain.Jt (by rw[HX.out];exact qU)).symm);clear qU
       go_wp2_with (at_lookup;refine eG _ rfl _ _ rfl Jg.out rfl Ih rfl kV ?_)
       go_roundw
       case rel=>exact⟨k+1,om,q1,n1,by omega,by go_num,OP.out,Jg.out,lh ⟨IU.out,Cq.out⟩,ga.out⟩
       case measure=>simp[intOf];omega
      | none =>
       have kV:=lh qU;have HUN:=lh (Plain.tF (c:=(d:Int)) HVN.out TF.out qU);have xC:n1<maxLen:=by unfold maxLen;have:=Cq.out.2.1;have:=vH.out;omega
       have HQN:=lh (show ∀ b∈(u12:Value).ownBlock.toList,b ∉ [cb] from fun b hb e=>by have:=(OP.out.own b hb).1;have:=Hx.out;rw[Qa] at e;omega);cases FO:on (x:Int) with
       | true =>
        have JU:=lh (show T=(some (x:Int),fun y=>if y=(x:Int) then some (d:Int) else om y) by
         have h:=Plain.OH (g:=g) (on:=on) (d:=(d:Int)) (ds:=L.drop (k+1)) (aP:=om) (q:=q1) (by rw[HX.out];exact qU) (by rw[HX.out];exact FO);rw[SE.out,HX.out] at h;rw[Sb.out,h])
        obtain⟨l,Dv,Az,S1,hl4,Tz⟩:=Kx.out.1 _ _ JU.out;have Pa:=lh Dv;have HL2:=lh Az;have HL3:=lh S1;have HL4:=lh (show l.length<1000000 by have h:l.length<=V.length:=hl4;have:=vH.out;omega);have HL5:=lh (show ∀ d∈l,0<=d/\d / 2<g.e.length from fun d hd=>US.out d (Tz d hd));have Lg:=lh FO;clear qU FO Dv Az S1 hl4 Tz
        go_wp2_with (first
         | (at_lookup;refine di _ rfl _ _ rfl Jg.out rfl Ih rfl kV ?_)
         | (at_mapUpdate;refine gF _ rfl _ _ _ rfl Jg.out xC rfl Ih Ki rfl rfl ?_;intro w7 GP Hd;have HI7:=lh GP;have C7:=lh (adQ.out.trans ((ag.refl [cb] w5).grown Hd (fun j hj=>by cases hj;exact Qf (by simp))) (fun j hj=>Qc (by rw[Qa] at hj;have:=wv.out;have:=xd.out;omega)));have b2:=C7.out.c HQ.out;have bb:=((Ri.out.base (Qe _)).aD C7.out (by simp)).cell hxN;rw[Lg.out] at bb;clear GP Hd))
        refine (D0 sb N (n1+1) cb vE g _ (a:Int) x l w7 (HG.out.fresh C7.out) HI7.out (by have:=fZ.out;omega) HL3.out HL2.out HL4.out HL5.out).mono ?_;rintro _ w8 ⟨v8,rfl,Pq,hc8⟩;have HR8:=lh (Pq.base C7.out.size);have DB:=lh (C7.out.t hc8);clear Pq hc8;go_wp2;go_ret;exact⟨_,rfl,by rw[Pa.out];exact HR8.out,DB.out⟩
       | false =>
        have IU:=lh (show Plain.dY g on (L.drop (k+1)) (fun y=>if y=(x:Int) then some (d:Int) else om y) (q1++[(x:Int)])=WI by
         have h:=Plain.Jz (g:=g) (on:=on) (d:=(d:Int)) (ds:=L.drop (k+1)) (aP:=om) (q:=q1) (by rw[HX.out];exact qU) (by rw[HX.out];exact FO);rw[SE.out,HX.out] at h;exact h.symm)
        have Lg:=lh FO;have hqn:(u :: q1).length+1<4294967296:=by have:=Cq.out.1;have:=vH.out;have h:(u :: q1).length=q1.length+1:=rfl;omega
        obtain⟨qo,qc,rfl⟩:=OP.out.shape;clear qU FO
        go_wp2_with (first
         | (at_lookup;refine di _ rfl _ _ rfl Jg.out rfl Ih rfl kV ?_)
         | (at_mapUpdate;refine gF _ rfl _ _ _ rfl Jg.out xC rfl Ih Ki rfl rfl ?_;intro w7 GP Hd;have HI7:=lh GP;have D7:=lh ((ag.refl [cb] w5).grown Hd (fun j hj=>by cases hj;exact Qf (by simp)));have C7:=lh (adQ.out.trans D7.out (fun j hj=>Qc (by rw[Qa] at hj;have:=wv.out;have:=xd.out;omega)));have b2:=C7.out.c HQ.out;have bb:=((Ri.out.base (Qe _)).aD C7.out (by simp)).cell hxN;rw[Lg.out] at bb;have HQ7:=lh (OP.out.aD D7.out HQN.out);have HHS:=lh (show H<=w7.heap.size by rw[<-HHH.out];exact (ga.out.trans D7.out (fun j hj=>Qf hj)).size);clear GP Hd)
         | (at_builtin;refine Hn rfl _ _ rfl rfl rfl HQ7.out Ih HHS.out hqn ?_;intro v9 w9 r9 c9;have R9:=lh r9;have C9:=lh c9;clear r9 c9))
        go_roundw
        case rel =>
         have fX:∀ j∈(Value.slice qo (u :: q1).length qc).ownBlock.toList,H<=j:=fun j hj=>(HQ7.out.own j hj).1;refine⟨k+1,_,q1++[(x:Int)],n1+1,by omega,by go_num,R9.out,HI7.out.aD C9.out (fun e=>by have:=fX _ e;have:=Hx.out;omega),lh ⟨IU.out,?_,?_,?_⟩,?_⟩
         ·have h1:=HUN.out
          have h2:=Cq.out.1;rw[Qd];simp only[Qb,Qk];omega
         ·have h1:=HUN.out
          have h2:=Cq.out.2.1;omega
         ·intro y hy
          rcases List.mem_append.1 hy with r | r
          ·exact Cq.out.2.2 y r
          rw[Qa.1 r];exact TF.out
         exact (ga.out.trans D7.out (fun j hj=>Qf hj)).trans C9.out (fun j hj=>Qc (by rw[HHH.out];exact fX j hj))
        case measure=>simp[intOf];omega
     have e:k=L.length:=by omega
     subst e;have SE:=lh fp.out.1;rw[List.drop_length] at SE;have JU:=lh (show Plain.ir g on ⟨V,E⟩ (gk - 1) om q1=T by rw[Sb.out,<-SE.out];rfl);have Cq:=lh fp.out.2;obtain⟨qb,af7,ab7,rfl,-,hqc,RO,xI⟩:=UM.out.cons;have HQA:=lh RO;have HQB:=lh xI;have acF:gk - 1<=V.length+2:=by omega
     clear fp hk aL RO xI;by_cases iD:1=ab7
     ·subst iD
      have HQC:=lh (HQA.out rfl);have hq0:q1.length=0:=by omega
      go_wp2
      go_roundg (gk - 1)
      case measure=>omega
      case rel=>exact⟨acF,om,q1,n1,by have h:=HQC.out;rw[hq0] at h;exact h,XC.out,lh ⟨JU.out,by have:=Cq.out.1;omega,Cq.out.2⟩,Wi.out⟩
     have HQC:=lh (HQB.out (fun e=>iD e.symm));have Dv:q1.length+1 - 1=q1.length:=by omega
     go_wp2
     go_roundg (gk - 1)
     case measure=>omega
     case rel=>exact⟨acF,om,q1,n1,HQC.out,XC.out,lh ⟨JU.out,by have:=Cq.out.1;omega,Cq.out.2⟩,Wi.out⟩
end Go.Proofs.YtoiflofhcmjpoaaGreat
-- READS ONLY
namespace Go.Proofs.YtoiflofhcmjpoaaGreat
open Go.RowKit Go.Maps
theorem Cw (pc v:Nat) (_hv:v<1000000) (w:World) :
  Calls Tryz.prog 134 #[.int .i64 v,.pointer (some ⟨pc,0,none⟩)] w fun e w'=>e=.returned (.func (Fn.func 135) #[] #[.pointer (some ⟨pc,0,none⟩),.pointer (some ⟨w.heap.size,0,none⟩)])/\w'=w.alloc (.cells #[.int .i64 v] 3):=by
 go_enter Tryz.func134,Tryz.ntmps134
 go_wp2;go_ret;exact⟨rfl,rfl⟩
set_option maxHeartbeats 1000000 in
theorem JO (n v pc bx sb N:Nat) (vE:Value) (g:Plain.Gr) (w:World) (hG:mM w sb g vE N) (hd:n / 2<g.e.length) (_hv:v<1000000) (c1:w.cell? ⟨pc,0,none⟩=some (.pointer (some ⟨sb,0,none⟩))) (c2:w.cell? ⟨bx,0,none⟩=some (.int .i64 v)) :
  Calls Tryz.prog 135 #[.int .i64 n,.pointer (some ⟨pc,0,none⟩),.pointer (some ⟨bx,0,none⟩)] w fun e w'=>e=.returned (.bool (decide (g.tail n=v)))/\ag [] w w':=by
 have HG:=lh hG;have q0:=hG.c0;have q1:=hG.c1;have fZ:=lh hG.small;obtain⟨x,hx⟩:∃ x,g.tail (n:Int)=x:=⟨_,rfl⟩;have HX:=lh hx;rw[hx];clear hG hx
 go_enter Tryz.func135,Tryz.ntmps135
 go_wp2_with fail
 have aW:ag [] w w.drew:=(ag.refl [] w).drew;refine ar (ag [] w) [0,1,2,3,4,6,7,8] (Way.line [0,1,2,3,4,6,5,7,8] .done) (by kernel_rfl) (by kernel_rfl) ?_;simp only[Way.line]
 repeat (refine ai (v:=?_) rfl (by rfl) (by rfl) (fun _ _ _ h=>h) aW (fun w' aI=>?_) ?_;rotate_left;(focus (have gB:=aI.c c1;have gQ:=aI.c c2;have np:=aI.c q0;have Hg:=aI.c q1;clear aI;go_simp;try with_reducible rfl));simp only[Qr,Z1,Z2,Z3,Z4,Z5,Z6])
 refine au rfl (by rfl) (by rfl) (fun K hK=>?_);go_simp;refine (cO _ g n _ hd (by have:=fZ.out;omega) (HG.out.fresh aW).gr).mono ?_;rw[HX.out];rintro e w3 ⟨rfl,cT⟩;have bF:ag [] w w3:=aW.t cT;refine hK.out _ _ (fun _=>bF) ?_;clear hK K cT aW
 try simp only[Qr,Z1,Z2,Z3,Z4,Z5,Z6]
 repeat (refine ai (v:=?_) rfl (by rfl) (by rfl) (fun _ _ _ h=>h) bF (fun w' aI=>?_) ?_;rotate_left;(focus (have gB:=aI.c c1;have gQ:=aI.c c2;have np:=aI.c q0;have Hg:=aI.c q1;clear aI;go_simp;try with_reducible rfl));simp only[Qr,Z1,Z2,Z3,Z4,Z5,Z6])
 refine aC ?_;go_wp2;go_ret;exact⟨bm (by rfl),bF⟩
set_option maxRecDepth 100000 in
set_option maxHeartbeats 2000000 in
theorem yo (v pc bx sb N:Nat) (vE:Value) (g:Plain.Gr) (vq:Value) (q:List Int) (w:World) (hG:mM w sb g vE N) (hv:v<1000000) (c1:w.cell? ⟨pc,0,none⟩=some (.pointer (some ⟨sb,0,none⟩))) (c2:w.cell? ⟨bx,0,none⟩=some (.int .i64 v)) (hq:∀ d∈q,0<=d/\d / 2<g.e.length) (Ky:q.length<1000000000) (hvq:al w vq q) :
  Calls Tryz.prog 109 #[vq,.func (Fn.func 135) #[] #[.pointer (some ⟨pc,0,none⟩),.pointer (some ⟨bx,0,none⟩)]] w fun e w'=>e=.returned (.int .i64 (Plain.Ay (fun d=>decide (g.tail d=(v:Int))) q))/\ag [] w w':=by
 have HQ:=lh hq;have HV:=lh hvq;have HG:=lh hG;have H1:=lh c1;have H2:=lh c2;obtain⟨ao,ac,rfl,-,-,-⟩:=hvq;clear hq c1 c2 hG;obtain⟨P,hP⟩:∃ P:Int->Bool,(fun d=>decide (g.tail d=(v:Int)))=P:=⟨_,rfl⟩;have HP:=lh (fun d=>show decide (g.tail d=(v:Int))=P d from congrFun hP d);rw[hP];clear hP
 go_enter Tryz.func109,Tryz.ntmps109
 go_wp2
 go_loopw [8] (fun c wr=>∃ k:Nat,k<=q.length/\c=.int .i64 k/\Hid (∀ j,j<k->P (q.getD j 0)=false)/\ag [] w wr) (fun c _=>q.length - (intOf c).toNat)
 case atStart=>exact⟨0,Qe _,rfl,lh (by omega),ag.refl _ _⟩
 case round =>
  obtain⟨k,hk,rfl,HN,hc⟩:=hrel;have HC:=lh hc;by_cases aL:k<q.length
  ·obtain⟨rb,iR,rfl,rc⟩:=al.cellAt HV.out aL
   have cz:=hc.c rc;have hr:=HQ.out _ (Plain.aQ aL);have xc:=lh (fun (h:P (q.getD k 0)=true)=>Plain.tk (P:=P) aL h HN.out);have qH:=lh (fun (h:P (q.getD k 0)=false) j (hj:j<k+1)=>(show P (q.getD j 0)=false from by
    by_cases e:j=k
    ·rw[e];exact h
    exact HN.out j (by omega)))
   obtain⟨n,e1⟩:∃ n:Nat,q.getD k 0=n:=⟨(q.getD k 0).toNat,by omega⟩;rw[e1] at cz xc qH hr;have iI:n / 2<g.e.length:=by grind
   clear rc e1 hc hr
   go_wp2_with fail
   refine (JO n v pc bx sb N vE g _ (HG.out.fresh HC.out) iI hv (HC.out.c H1.out) (HC.out.c H2.out)).mono ?_;rintro e w2 ⟨rfl,bA⟩;rw[HP.out];have cB:=lh (HC.out.t bA);clear bA cz;cases h:P (n:Int) with
   | true =>
    have HI:=lh (xc.out h);clear h;go_wp2;go_ret;exact⟨bO (show ((k:Nat):Int)=_ by rw[HI.out]),cB.out⟩
   | false =>
    have HI:=lh (qH.out h);clear h;go_wp2
    go_roundw
    case rel=>exact⟨k+1,by omega,by go_num,HI,cB.out⟩
    case measure=>simp[intOf];omega
  have e:k=q.length:=by omega
  subst e;have HI:=lh (Plain.pN (P:=P) HN.out);clear hc;go_wp2;go_ret;exact⟨bO (show (-1:Int)=_ by rw[HI.out]),HC.out⟩
def bp (w:World) (b:Nat) (t:TypeId):Prop:=∃ cs r,w.heap[b]?=some (.cells cs t r)
theorem bp.one {w:World} {b:Nat} {t u:TypeId} (h:bp w b t) (k:bp w b u):t=u:=by
 obtain⟨c1,r1,h⟩:=h;obtain⟨c2,r2,k⟩:=k
 grind
theorem bp.ne {w:World} {b c:Nat} {t u:TypeId} (h:bp w b t) (k:bp w c u) (hn:t≠u):b≠c:=fun e=>hn (h.one (e ▸ k))
theorem bp.lt {w:World} {b:Nat} {t:TypeId} (h:bp w b t):b<w.heap.size:=by
 obtain⟨c1,r1,h⟩:=h
 grind
theorem bp.aD {w w':World} {b:Nat} {t:TypeId} {own:List Nat} (h:bp w b t) (hc:ag own w w') (hb:b ∉ own):bp w' b t:=by
 obtain⟨c1,r1,h⟩:=h;exact⟨c1,r1,hc.heap h hb⟩
theorem bE {w:World} {B:Nat} {e:TypeId} {sz n:Nat} {v:Value} {xs:List Value} (h:w.ownsRow B e sz v n xs) {b:Nat} (hb:v.ownBlock=some b):bp w b e:=by
 rcases h.2 with ⟨rfl,_⟩ | ⟨g',c',cur,rfl,_,hh,_⟩
 ·cases hb
 simp[Qm] at hb;subst hb;exact⟨_,_,hh⟩
theorem aj.cA {w:World} {B:Nat} {v:Value} {l:List Int} (h:aj w B v l) {b:Nat} (hb:v.ownBlock=Option.some b):bp w b 3:=bE h.1 hb
theorem bD.cA {w:World} {B b n:Nat} {f:Int->Bool} (h:bD w B b n f):bp w b 4:=by
 obtain⟨cs,hh⟩:=h.kind;exact⟨cs,_,hh⟩
theorem cG.kinds {g:Plain.Gr} {w:World} {B N:Nat} {fv:Value} {xs:List Value} {F:List (List Int)} (h:cG g w B N fv xs F) {k b:Nat} (hk:k<xs.length) (hb:(xs.getD k undef).ownBlock=some b):B<=b/\b<w.heap.size/\(bp w b 3\/bp w b 4):=by
 have hl:=h.len;rcases (show ∃ i,k=2*i\/k=2*i+1 from⟨k / 2,by omega⟩) with ⟨i,rfl | rfl⟩
 ·have hr:=h.row i (by omega)
  have:=hr.low b (by grind);exact⟨this.1,this.2,Qf (hr.cA hb)⟩
 obtain⟨b',e,Iq⟩:=h.has i (by omega);rw[e] at hb;simp[Qm] at hb;subst hb;have:=Iq.lt;exact⟨this.1,this.2,Qc Iq.cA⟩
theorem cG.other {g:Plain.Gr} {w w':World} {B N:Nat} {fv:Value} {xs:List Value} {F:List (List Int)} {own:List Nat} (h:cG g w B N fv xs F) (hc:ag own w w') (ho:∀ j∈own,∃ t,bp w j t/\t≠158/\t≠3/\t≠4):cG g w' B N fv xs F:=by
 refine h.aD hc (fun b hb hm=>?_) (fun k b hk hb hm=>?_)
 ·obtain⟨t,h1,h2,-,-⟩:=ho b hm
  exact h2 (h1.one (bE h.out hb))
 obtain⟨t,h1,-,h2,h3⟩:=ho b hm;rcases (h.kinds hk hb).2.2 with q | q
 ·exact h2 (h1.one q)
 exact h3 (h1.one q)
theorem bu.others {w w':World} {B n sz:Nat} {e:TypeId} {ov:Value} {xs:List Value} {cs:List Cell} {own:List Nat} (h:bu w B e sz ov n xs cs) (hc:ag own w w') (ho:∀ j∈own,∃ t,bp w j t/\t≠e/\t≠3):bu w' B e sz ov n xs cs :=
 h.other hc fun j hj cs t r hh=>by
  obtain⟨u,h1,h2,h3⟩:=ho j hj;have:=h1.one ⟨cs,r,hh⟩;subst this;exact⟨h2,h3⟩
structure bZ (w0 w:World) (sb ob N:Nat) (g:Plain.Gr) (vE fv rv:Value) (on:Int->Bool):Prop where
 gr:dJ w0 (.agg #[.int .i64 g.n,vE]) g
 n:g.n=N
 err:g.err=0
 aD:ag [] w0 w
 low:w0.heap.size<=sb
 heap:w.heap[sb]?=some (.cells #[.int .i64 g.n,vE,.slice (some ⟨ob,0,none⟩) N N,fv,rv] 113 (0,0))
 on:bD w w0.heap.size ob N on
section
variable {w0 w w' : World} {sb ob N : Nat} {g : Plain.Gr} {vE fv rv : Value} {on : Int -> Bool}
theorem bZ.kind (h:bZ w0 w sb ob N g vE fv rv on):bp w sb 113:=⟨_,_,h.heap⟩
theorem bZ.wL (h:bZ w0 w sb ob N g vE fv rv on):mM w sb g vE N :=
 ⟨(cell_of_row _ _ 0 _ _ _ h.heap).trans rfl,(cell_of_row _ _ 1 _ _ _ h.heap).trans rfl,h.gr.fresh h.aD,h.n,h.err⟩
theorem bZ.q2 (h:bZ w0 w sb ob N g vE fv rv on):w.cell? ⟨sb,2,none⟩=some (.slice (some ⟨ob,0,none⟩) N N):=(cell_of_row _ _ 2 _ _ _ h.heap).trans rfl
theorem bZ.q3 (h:bZ w0 w sb ob N g vE fv rv on):w.cell? ⟨sb,3,none⟩=some fv:=(cell_of_row _ _ 3 _ _ _ h.heap).trans rfl
theorem bZ.q4 (h:bZ w0 w sb ob N g vE fv rv on):w.cell? ⟨sb,4,none⟩=some rv:=(cell_of_row _ _ 4 _ _ _ h.heap).trans rfl
theorem bZ.free (h:bZ w0 w sb ob N g vE fv rv on) (i:Nat):w.frozen? ⟨sb,i,none⟩=false:=bJ h.heap i
theorem bZ.more {own:List Nat} (h:bZ w0 w sb ob N g vE fv rv on) (hc:ag own w w') (h0:∀ j∈own,w0.heap.size<=j) (h1:sb ∉ own) (h2:ob ∉ own):bZ w0 w' sb ob N g vE fv rv on :=
 ⟨h.gr,h.n,h.err,h.aD.trans hc (fun j hj=>Qc (h0 j hj)),h.low,hc.heap h.heap h1,h.on.aD hc h2⟩
theorem bZ.fresh (h:bZ w0 w sb ob N g vE fv rv on) (hc:ag [] w w'):bZ w0 w' sb ob N g vE fv rv on:=h.more hc (by simp) (by simp) (by simp)
theorem bZ.Ob (h:bZ w0 w sb ob N g vE fv rv on):ob≠sb:=h.on.cA.ne h.kind (by decide)
theorem bZ.ahq (h:bZ w0 w sb ob N g vE fv rv on) (Yh:Value):bZ w0 (w.setCell ⟨sb,3,none⟩ Yh) sb ob N g vE Yh rv on:=by
 have hc:ag [sb] w (w.setCell ⟨sb,3,none⟩ Yh):=(ag.refl _ _).setCell (Qf (by simp)) _;exact⟨h.gr,h.n,h.err,h.aD.trans hc (fun j hj=>Qc (by rw[Qa.1 hj];exact h.low)),h.low,heap_setCell_same h.heap 3 Yh,h.on.aD hc (by simpa using h.Ob)⟩
theorem bZ.ac7 (h:bZ w0 w sb ob N g vE fv rv on) (YJ:Value):bZ w0 (w.setCell ⟨sb,4,none⟩ YJ) sb ob N g vE fv YJ on:=by
 have hc:ag [sb] w (w.setCell ⟨sb,4,none⟩ YJ):=(ag.refl _ _).setCell (Qf (by simp)) _;exact⟨h.gr,h.n,h.err,h.aD.trans hc (fun j hj=>Qc (by rw[Qa.1 hj];exact h.low)),h.low,heap_setCell_same h.heap 4 YJ,h.on.aD hc (by simpa using h.Ob)⟩
theorem bZ.adY (h:bZ w0 w sb ob N g vE fv rv on) (v:Nat):bZ w0 (w.setCell ⟨ob,v,none⟩ (.bool true)) sb ob N g vE fv rv (fun u=>if u=(v:Int) then true else on u):=by
 have hc:ag [ob] w (w.setCell ⟨ob,v,none⟩ (.bool true)):=(ag.refl _ _).setCell (Qf (by simp)) _;exact⟨h.gr,h.n,h.err,h.aD.trans hc (fun j hj=>Qc (by rw[Qa.1 hj];exact h.on.lt.1)),h.low,hc.heap h.heap (by grind [bZ.Ob]),h.on.set true⟩
theorem bZ.same (h:bZ w0 w sb ob N g vE fv rv on) {on':Int->Bool} (he:∀ i:Nat,i<N->on i=on' i):bZ w0 w sb ob N g vE fv rv on':=⟨h.gr,h.n,h.err,h.aD,h.low,h.heap,rF h.on he⟩
end
structure mR (ob:Nat) (xs ys:List Value):Prop where
 o:∀ k,k<xs.length->(xs.getD k undef).ownBlock≠some ob
 y:∀ k l b,k<xs.length->l<ys.length->(xs.getD k undef).ownBlock=some b->(ys.getD l undef).ownBlock≠some b
structure Dd (w0 w:World) (sb ob N:Nat) (g:Plain.Gr) (vE fv rv:Value) (xs ys:List Value) (s:Plain.Sk):Prop where
 base:bZ w0 w sb ob N g vE fv rv s.on
 ak:cG g w w0.heap.size N fv xs s.ak
 rest:bu w w0.heap.size 162 3 rv s.rest.length ys (dF s.rest)
 far:mR ob xs ys
section
variable {w0 w w' : World} {sb ob N : Nat} {g : Plain.Gr} {vE fv rv : Value} {xs ys : List Value} {s : Plain.Sk}
end
theorem cG.put {g:Plain.Gr} {w:World} {B N fb c f hb:Nat} {xs:List Value} {F:List (List Int)} {v:Value} {l:List Int} (h:cG g w B N (.slice (some ⟨fb,0,none⟩) F.length c) xs F) (hf:f<F.length) (hv:aj w B v l) (hh:bD w B hb N (Plain.du g l)) :
  cG g ((w.setCell ⟨fb,2*f,none⟩ v).setCell ⟨fb,2*f+1,none⟩ (.slice (some ⟨hb,0,none⟩) N N)) B N (.slice (some ⟨fb,0,none⟩) F.length c) ((xs.set (2*f) v).set (2*f+1) (.slice (some ⟨hb,0,none⟩) N N)) (F.set f l):=by
 have hl:=h.len;have hk:bp w fb 158:=bE h.out rfl;have hc:ag [fb] w ((w.setCell ⟨fb,2*f,none⟩ v).setCell ⟨fb,2*f+1,none⟩ (.slice (some ⟨hb,0,none⟩) N N)):=((ag.refl _ _).setCell (Qf (by simp)) _).setCell (Qf (by simp)) _;have aJ:∀ {u:Value} {m:List Int},aj w B u m->aj ((w.setCell ⟨fb,2*f,none⟩ v).setCell ⟨fb,2*f+1,none⟩ (.slice (some ⟨hb,0,none⟩) N N)) B u m:=fun hr=>hr.aD hc fun b hb=>by
  rw[Qa];exact (hr.cA (by grind)).ne hk (by decide)
 have Iq:∀ {b:Nat} {p:Int->Bool},bD w B b N p->bD ((w.setCell ⟨fb,2*f,none⟩ v).setCell ⟨fb,2*f+1,none⟩ (.slice (some ⟨hb,0,none⟩) N N)) B b N p:=fun hr=>hr.aD hc (by
  rw[Qa];exact hr.cA.ne hk (by decide))
 refine⟨?_,by simp[hl],fun i hi=>?_,fun i hi=>?_⟩
 ·have h1:=(h.out.stored (2*f) v).1
  have h2:=(h1.stored (2*f+1) (.slice (some ⟨hb,0,none⟩) N N)).1
  grind
 ·rw[Ql] at hi
  rw[dM _ _ _ _ _ (by grind),if_neg (by omega),dM _ _ _ _ _ (by omega),ry _ _ _ _ hf];by_cases e:i=f
  ·rw[if_pos (by omega),if_pos e];exact aJ hv
  rw[if_neg (by omega),if_neg e];exact aJ (h.row i hi)
 rw[Ql] at hi;rw[dM _ _ _ _ _ (by grind),ry _ _ _ _ hf];by_cases e:i=f
 ·rw[if_pos (by omega),if_pos e];exact⟨hb,rfl,Iq hh⟩
 rw[if_neg (by omega),if_neg e,dM _ _ _ _ _ (by omega),if_neg (by omega)];obtain⟨b,e1,h1⟩:=h.has i hi;exact⟨b,e1,Iq h1⟩
theorem cG.add {g:Plain.Gr} {w w':World} {B N fb c hb:Nat} {fv:Value} {xs:List Value} {F:List (List Int)} {v:Value} {l:List Int} (h:cG g w B N fv xs F) (hv:aj w B v l) (hh:bD w B hb N (Plain.du g l))
  (hn:w'.ownsRow B 158 2 (.slice (some ⟨fb,0,none⟩) (F.length+1) c) (F.length+1) (xs++[v,.slice (some ⟨hb,0,none⟩) N N])) (hc:ag fv.ownBlock.toList w w') :
  cG g w' B N (.slice (some ⟨fb,0,none⟩) (F.length+1) c) (xs++[v,.slice (some ⟨hb,0,none⟩) N N]) (F++[l]):=by
 have hl:=h.len;have hk:∀ b∈fv.ownBlock.toList,bp w b 158:=fun b hb=>bE h.out (by grind);have aJ:∀ {u:Value} {m:List Int},aj w B u m->aj w' B u m:=fun hr=>hr.aD hc fun b hb hm=>(hr.cA (by grind)).ne (hk b hm) (by decide) rfl;have Iq:∀ {b:Nat} {p:Int->Bool},bD w B b N p->bD w' B b N p:=fun hr=>hr.aD hc fun hm=>hr.cA.ne (hk _ hm) (by decide) rfl;refine⟨by grind,by grind,fun i hi=>?_,fun i hi=>?_⟩
 ·rw[Qd,Qg] at hi
  by_cases e:i<F.length
  ·rw[cN (by omega),cN e];exact aJ (h.row i e)
  all_goals grind
 rw[Qd,Qg] at hi;by_cases e:i<F.length
 ·rw[cN (by omega),cN e]
  obtain⟨b,e1,h1⟩:=h.has i e
  grind
 all_goals grind
end Go.Proofs.YtoiflofhcmjpoaaGreat
