/- package rota: the contract of gz. Conditions: lists that lie in memory and read so, of a bounded size. -/
import Derived.Test.YtoiflofhcmjpoaaGreatD9SetsD
open List renaming getElem_cons_zero→Qa,getElem_cons_succ→Qb,getElem_toArray→Qc,setIfInBounds_toArray→Qd,length_append→Qf,set_cons_zero→Qg,set_cons_succ→Qh,length_take→Qi,take_length→Qj,getD→Ql
open Go.Act renaming put→Qe
open Nat renaming zero_le→Qk
open Go.Value renaming slice→Qm
-- READS ONLY
namespace Go.Proofs.YtoiflofhcmjpoaaGreat
open Go.RowKit Go.Maps
section
variable (w : World) {ops : Array Oper} {rest : List Oper} {o : Oper} {a : Act} {Q : Exit -> Act -> World -> Prop}
theorem dT (hg:o.guard=none) (m x:Operand) (jM:o.op=Op.lookup 124 m x true) {b n:Nat} {f:Int->Option Int} (h:bK w b n f) (hm:a.eval m=.map (some b))
  {k:Int} (hk:aU k) (hx:a.eval x=.int .i64 k) {v:Int} {t:Bool} (hv:Hid ((f k).getD 0=v)) (ht:Hid ((f k).isSome=t)) (hK:wpList Tryz.prog ops Q rest (a.put o.dst (.tuple #[.int .i64 v,.bool t])) w):wpList Tryz.prog ops Q (o :: rest) a w:=by
 cases hf:f k with
 | none =>
  have h1:=hv.out;have h2:=ht.out;rw[hf] at h1 h2;simp at h1 h2;subst h1;subst h2;exact di w hg m x jM h hm hk hx (lh hf) hK
 | some u =>
  have h1:=hv.out;have h2:=ht.out;rw[hf] at h1 h2;simp at h1 h2;subst h1;subst h2;exact eG w hg m x jM h hm hk hx (lh hf) hK
end
theorem bK.Ht {w:World} {b n:Nat} {f:Int->Option Int} (h:bK w b n f) {c o:Nat} {v:Value} (hc:w.cell? ⟨c,o,none⟩=some v):c≠b:=by
 obtain⟨D,⟨es,clock,he,_⟩,_⟩:=h;intro e;subst e;simp[World.cell?,he] at hc
theorem nw (w:World) {x y:Int} (hx:aU x) (hy:aU y):al (w.alloc (.cells #[.int .i64 x,.int .i64 y] 3)) (.slice (some ⟨w.heap.size,0,none⟩) 2 2) [x,y]:=by
 refine⟨_,2,rfl,by simp[hx,hy],by simp,fun _=>⟨w.heap.size,0,rfl,fun i hi=>?_⟩⟩;simp at hi;rw[cell_of_row _ _ _ _ _ _ (heap_alloc_new w _)];rcases i with _ | _ | i
 ·rfl
 ·rfl
 omega
theorem Plain.mZ (T:List (List Int)):∀ k,k<=T.length->Plain.bU T k=(T.take k).flatten.length
 | 0,_=>by simp[Plain.bU]
 | k+1,h=>by
  unfold Plain.bU;rw[Plain.mZ T k (by omega),List.take_succ_eq_append_getElem (by omega),List.flatten_append,Qf];simp[Ql,show k<T.length by omega]
theorem Plain.M4 {T:List (List Int)} {k j:Nat} (hk:k<T.length) (hj:j<=(T.getD k []).length):(Plain.seen T k j).length<=Plain.bU T T.length:=by
 have h1:Plain.bU T (k+1)=Plain.bU T k+(T.getD k []).length:=rfl;have h2:=Plain.iG T (show k+1<=T.length from hk);unfold Plain.seen;rw[Qf,<-Plain.mZ T k (by omega),Qi];omega
set_option maxRecDepth 100000 in
set_option maxHeartbeats 4000000 in
theorem Bt (vg vp vt:Value) (g:Plain.Gr) (p:Plain.Pt) (aa:List (List Int)) (w:World) (qM:p.e.length<=1000000) (wB:p.v.length<=1000000) (DK:aa.length<2147483648) (hS:Plain.bU aa aa.length<2147483648) (hg:dJ w vg g) (hp:fL w vp p) (ht:cf w vt aa) :
  Calls Tryz.prog 148 #[vg,vp,vt] w fun e w'=>∃ r,e=.returned (.tuple #[r,.int .i64 (Plain.bB g p aa)])/\(Plain.bB g p aa≠0->r=.pointer none) /\
   (Plain.bB g p aa=0->∃ rb O0 vd lb pb n m,r=.pointer (some ⟨rb,0,none⟩)/\w.heap.size<=rb/\nf w' rb (aa.map Plain.first) (fun d=>if d∈p.ah then some (g.tail d) else none) (Plain.places aa aa.length) p.ah O0 vd lb pb n m)/\ag [] w w':=by
 have HG:=lh hg;have HP:=lh hp;have HT:=lh ht;have rn:=lh hS;obtain⟨eo,cap,rfl,hn,hm,dK,aK⟩:=hg;obtain⟨v1,v2,rfl,hv,he⟩:=hp;obtain⟨ao,ac,rfl,-,-,-⟩:=hv;obtain⟨bo,bc,rfl,wE,sQ,ft⟩:=he;obtain⟨PX,tc,rfl,wu,wY⟩:=ht;have qZ:=lh aK;have uE:=lh ft;have fZ:=lh dK;have Pb:=lh wY;obtain⟨fz,ff,cY⟩:=eZ w #[.int .i64 g.n,.slice eo g.e.length cap] #[.slice ao p.v.length ac,.slice bo p.e.length bc] 24 27;have X0:=lh ((cell_of_row _ _ 0 _ _ _ fz).trans (show _=some (Value.int .i64 g.n) from rfl));have X1:=lh ((cell_of_row _ _ 1 _ _ _ fz).trans (show _=some (Qm eo g.e.length cap) from rfl));have Y1:=lh ((cell_of_row _ _ 1 _ _ _ ff).trans (show _=some (Qm bo p.e.length bc) from rfl));have b8:=lh cY;clear aK ft dK wE hn fz ff cY wY hS
 go_enter Tryz.func148,Tryz.ntmps148
 go_wp2_with fail
 refine (eW _ _ g p _ (by omega) (HG.out.fresh b8.out) (HP.out.fresh b8.out)).mono ?_;rintro e w2 ⟨rfl,bA⟩;have cB:=lh (b8.out.t bA);have x0:=bA.c X0.out;have y1:=bA.c Y1.out;have X12:=lh (bA.c X1.out);have mY:=fun n w=>fG Tryz.underlying124 n w;have wV:=lh (show w.heap.size+2<=w2.heap.size by have:=bA.size;simpa using this);clear bA;by_cases hr:p.err g=0
 ·have HR:=lh hr
  rw[hr];by_cases hl:(aa.length:Int)=g.n
  ·have HL:=lh hl
   rw[<-hl] at x0;have oF:=lh (Plain.Gr.aA (Plain.Pt.aA hr).1).2.2.1;have KZ:=lh (Plain.Gr.aA (Plain.Pt.aA hr).1).2.1;have s9:=lh (Plain.Pt.aA hr).2.2.1;clear hr hl;have y1n:=fun o=>bP y1 o
   go_wp2_with (at_make;refine kK rfl _ _ rfl (B:=w2.heap.size) (n:=2*p.e.length) rfl (by go_num) (by simp) (by omega) ?_;intro dv w3 r3 c3 f3;have R3:=lh r3;have C3:=lh c3;have y3:=c3.c (bP y1 (.map #[] 0));clear r3 c3 f3 y1n)
   clear y1 x0 y3 mY;have NM:=lh ((show gP (w2.alloc (.map #[] 0)) w2.heap.size 0 (fun _=>none) from gP.made w2).aD C3.out (by simp));have cU:=lh (cB.out.t (((ag.refl [] w2).alloc (.map #[] 0)).t C3.out));have HW3:=lh (show w2.heap.size+1<=w3.heap.size by have:=C3.out.size;simpa using this);have YY:=lh (C3.out.c (((ag.refl [] w2).alloc (.map #[] 0)).c X12.out));obtain⟨lb,Le⟩:∃ lb,w2.heap.size=lb:=⟨_,rfl⟩;rw[Le] at R3 NM HW3 ⊢;have HLB:=lh (show w.heap.size+2<=lb by rw[<-Le];exact wV.out);clear Le
   go_loopw [10,46] (fun d c wr=>∃ k:Nat,k<=p.e.length/\c=.int .i64 k/\gP wr lb (2*k) (Plain.cF g p k)/\aj wr lb d (Plain.Pt.ah ⟨[],p.e.take k⟩)/\ag [] w wr/\Hid (wr.cell? ⟨w.heap.size,1,none⟩=some (.slice eo g.e.length cap))) (fun _ c _=>p.e.length - (intOf c).toNat)
   case atStart=>exact⟨0,Qk _,rfl,by rw[Plain.wQ];exact NM.out,by simpa[Plain.Pt.ah] using R3.out,cU.out,YY⟩
   case round =>
    obtain⟨k,hk,rfl,WO,aJ,hc,Zk⟩:=hrel;have X4:=lh WO;have bt:=lh aJ;have HC:=lh hc;obtain⟨dvo,dvc,rfl⟩:=aJ.shape;have rh:=lh (show (Plain.Pt.ah ⟨[],p.e.take k⟩).length=2*k by rw[Plain.bL];simp only[Qi];omega);by_cases aL:k<p.e.length
    ·obtain⟨bb,sX,rfl,qQ⟩:=uE.out (by intro e;rw[e] at aL;simp at aL)
     have ce:=hc.c (qQ k aL);have AE:=Plain.bX s9.out aL;obtain⟨ei,tx⟩:∃ ei:Nat,p.e.getD k 0=(ei:Int):=⟨(p.e.getD k 0).toNat,by omega⟩;have HLV:=lh (Plain.xt (g:=g) aL tx);have HDK:=lh (Plain.tE (p:=p) aL);rw[tx] at HDK;have Ae:=Plain.bM s9.out;have HN0:=lh (Plain.ql (g:=g) Ae aL (d:=2*(ei:Int)) (by rw[tx];omega));have Xy:=lh (Plain.ql (g:=g) Ae aL (d:=2*(ei:Int)+1) (by rw[tx];omega));rw[tx] at ce AE;have vZ:ei<g.e.length:=by omega
     have acJ:(ei:Int)<=1024:=by have:=oF.out;have:=KZ.out;have:=HL.out;omega
     obtain⟨eb,dO,rfl,gO,cY⟩:=qZ.out ei vZ;obtain⟨z1,z2⟩:=fZ.out ei vZ;have C0:=lh (hc.c gO);have C1:=lh (hc.c cY);clear qQ hc AE tx gO cY WO aJ Ae;generalize Plain.Pt.ah ⟨[],p.e.take k⟩=D at *;generalize (g.ends ei).1=x at *;generalize (g.ends ei).2=y at *;go_wp2;clear ce;have I1:aU (2*(ei:Int)):=aU.mk (by omega) (by omega);have I2:aU (2*(ei:Int)+1):=aU.mk (by omega) (by omega);have agS:=IntWalk.i64_in (2*(ei:Int)) (by omega);have agx:=IntWalk.i64_in (2*(ei:Int)+1) (by omega);have N0:gP wr.drew lb (2*k) (Plain.cF g p k):=X4.out.aD (ag.refl [] wr).drew (by simp);obtain⟨st,wa,wb,fQ,kU,fh,N1,qJ⟩:=N0.entry (by unfold maxLen;omega) I1 z1 HN0.out;obtain⟨st',wc,we,TN,ka,ON,N2,Tw⟩:=N1.entry (by unfold maxLen;omega) I2 z2 (by show (if _ then _ else _)=_;rw[if_neg (by omega)];exact Xy.out);have bh:∀ {b o:Nat} {v:Value},wr.cell? ⟨b,o,none⟩=some v->b≠lb:=fun h=>X4.out.Dc.Ht h;have aW:(fun w':World=>w'.cell? ⟨w.heap.size,1,none⟩=some (.slice (some ⟨eb,dO,none⟩) g.e.length cap)/\w'.cell? ⟨eb,dO+ei*2,none⟩=some (.int .i64 x)/\w'.cell? ⟨eb,dO+ei*2+1,none⟩=some (.int .i64 y)) wr.drew:=⟨Zk.out,C0.out,C1.out⟩;have bF:(fun w':World=>w'.cell? ⟨w.heap.size,1,none⟩=some (.slice (some ⟨eb,dO,none⟩) g.e.length cap)/\w'.cell? ⟨eb,dO+ei*2,none⟩=some (.int .i64 x)/\w'.cell? ⟨eb,dO+ei*2+1,none⟩=some (.int .i64 y)) wa:=⟨kU.cell aW.1 (by simpa using bh Zk.out),kU.cell aW.2.1 (by simpa using bh C0.out),kU.cell aW.2.2 (by simpa using bh C1.out)⟩;have jl:(fun w':World=>w'.cell? ⟨w.heap.size,1,none⟩=some (.slice (some ⟨eb,dO,none⟩) g.e.length cap)/\w'.cell? ⟨eb,dO+ei*2,none⟩=some (.int .i64 x)/\w'.cell? ⟨eb,dO+ei*2+1,none⟩=some (.int .i64 y)) wb:=⟨qJ.cell aW.1 (by simpa using bh Zk.out),qJ.cell aW.2.1 (by simpa using bh C0.out),qJ.cell aW.2.2 (by simpa using bh C1.out)⟩;have ke:(fun w':World=>w'.cell? ⟨w.heap.size,1,none⟩=some (.slice (some ⟨eb,dO,none⟩) g.e.length cap)/\w'.cell? ⟨eb,dO+ei*2,none⟩=some (.int .i64 x)/\w'.cell? ⟨eb,dO+ei*2+1,none⟩=some (.int .i64 y)) wc:=⟨ka.cell jl.1 (by simpa using bh Zk.out),ka.cell jl.2.1 (by simpa using bh C0.out),ka.cell jl.2.2 (by simpa using bh C1.out)⟩;have OM:=lh N2;have Au:=lh (((ag.refl [lb] wr).drew.t qJ).t Tw);have ahX:=lh (Tw.cell jl.1 (by simpa using bh Zk.out));clear N0 N1 N2 kU qJ ka Tw bh;refine ar (fun w':World=>w'.cell? ⟨w.heap.size,1,none⟩=some (.slice (some ⟨eb,dO,none⟩) g.e.length cap)/\w'.cell? ⟨eb,dO+ei*2,none⟩=some (.int .i64 x)/\w'.cell? ⟨eb,dO+ei*2+1,none⟩=some (.int .i64 y)) [0,1,2,3,4,5,6,7,8,9,10,11,12,13,14,15,16,17,18,20,23] (Way.line [0,1,2,3,4,5,6,7,8,9,10,11,12,13,14,15,16,17,18,19,20,21,22,23,24] .done) (by kernel_rfl) (by kernel_rfl) ?_;simp only[Way.line]
     repeat (refine ai (v:=?_) rfl (by rfl) (by rfl) (fun _ _ _ h=>h) aW (fun w' aI=>?_) ?_;rotate_left;(focus ((try dsimp only at aI);go_simp;try with_reducible rfl));simp only[Qe,Z1,Z2,Z3,Z4,Z5,Z6])
     refine au rfl (by rfl) (by rfl) (fun K hK=>?_);simp only[Qc,Qa,Qb];refine AP _ _ _ rfl fQ rfl rfl ?_;refine hK.out _ _ (fun _=>bF) ?_;clear hK K aW fQ
     try simp only[Qe,Qd,Qg,Qh]
     repeat (refine ai (v:=?_) rfl (by rfl) (by rfl) (fun _ _ _ h=>h) bF (fun w' aI=>?_) ?_;rotate_left;(focus ((try dsimp only at aI);go_simp;try with_reducible rfl));simp only[Qe,Z1,Z2,Z3,Z4,Z5,Z6])
     refine au rfl (by rfl) (by rfl) (fun K hK=>?_);simp only[Qc,Qa,Qb];refine yG _ _ _ _ rfl fh rfl rfl rfl ?_;refine hK.out _ _ (fun _=>jl) ?_;clear hK K bF fh
     try simp only[Qe]
     refine au rfl (by rfl) (by rfl) (fun K hK=>?_);simp only[Qc,Qa,Qb];refine AP _ _ _ rfl TN rfl rfl ?_;refine hK.out _ _ (fun _=>ke) ?_;clear hK K jl TN
     try simp only[Qe,Qd,Qg,Qh]
     repeat (refine ai (v:=?_) rfl (by rfl) (by rfl) (fun _ _ _ h=>h) ke (fun w' aI=>?_) ?_;rotate_left;(focus ((try dsimp only at aI);go_simp;try with_reducible rfl));simp only[Qe,Z1,Z2,Z3,Z4,Z5,Z6])
     refine au rfl (by rfl) (by rfl) (fun K hK=>?_);simp only[Qc,Qa,Qb];refine yG _ _ _ _ rfl ON rfl rfl rfl ?_;refine hK.out _ _ (fun h=>absurd h (Bool.eq_false_iff.1 (by kernel_rfl))) ?_;clear hK K ke ON
     try simp only[Qe]
     refine aC ?_;clear agS agx;have aiI:=lh (HC.out.trans Au.out (fun j hj=>Or.inr (by have:=HLB.out;simp at hj;omega)));have Dx:=lh (OM.out.Dc.lt);have zR:(D).length+2<4294967296:=by have:=rh.out;omega
     have G0:=lh (bt.out.aD Au.out (fun b hb e=>by obtain⟨cs,r,hh⟩:=bR bt.out b (by rw[bt.out.aE];exact hb);exact X4.out.Dc.ne hh (by simpa using e)));have HRK:=lh (fun b (hb:b∈aE (.slice dvo (D).length dvc))=>bR G0.out b hb);have Gl:Hid (w.heap.size ∉ aE (.slice dvo (D).length dvc)):=lh (fun e=>by have:=(bt.out.low _ (by rw[<-bt.out.aE];exact e)).1;have:=HLB.out;omega);have Lj:=lh aL;clear aL vZ
     go_wp2_with (at_builtin;refine bT rfl (.tmp 73) (.tmp 79) rfl (B:=lb) (v:=.slice dvo (D).length dvc) rfl rfl (G0.out.aD ((ag.refl [] _).alloc _) (by simp)) (nw _ I1 I2) (by have:=Dx.out;simp;omega) zR ?_;intro v5 w5 r5 c5 f5;have R5:=lh r5;have C5:=lh c5;clear r5 c5 f5)
     go_roundw
     case rel =>
      have ka:ag (aE (.slice dvo D.length dvc)) we w5:=((ag.refl _ we).alloc _).trans C5.out (fun j hj=>Or.inl hj);exact⟨k+1,by have:=Lj.out;omega,by go_num,by rw[HLV.out];exact OM.out.aD ka (fun e=>by obtain⟨cs,r,hh⟩:=HRK.out lb e;exact OM.out.Dc.ne hh rfl),by rw[HDK.out];exact R5.out,aiI.out.trans ka (fun j hj=>Or.inr (by have:=(G0.out.low j (by rw[<-G0.out.aE];exact hj)).1;have:=HLB.out;omega)),lh (ka.cell ahX.out Gl.out)⟩
     case measure=>have:=Lj.out;simp[intOf];omega
    have e:k=p.e.length:=by omega
    subst e;generalize wr=wz at *;rw[Qj] at bt rh aJ ⊢;have abt:=lh (show aj wz lb (.slice dvo p.ah.length dvc) p.ah from bt.out);have mY:=fun n w=>fG Tryz.underlying124 n w;have qG:=X4.out.len;have lC:Plain.Pt.ah ⟨[],p.e⟩=p.ah:=rfl;rw[lC] at rh ⊢;have hDL:p.ah.length<=2000000:=by have:=rh.out;omega
    clear WO aJ bt hc lC;go_wp2;clear mY qG aL;have PM:=lh (gP.made wz);have TL:=lh ((ag.refl [] wz).alloc (.map #[] 0));obtain⟨pb,ph⟩:∃ pb,wz.heap.size=pb:=⟨_,rfl⟩;rw[ph] at PM ⊢;have te:=lh ph;generalize (wz.alloc (.map #[] 0))=wm at *;clear ph
    go_loopw [87] (fun c wq=>∃ k:Nat,k<=aa.length/\c=.int .i64 k/\∃ f,gP wq pb (Plain.seen aa k 0).length f/\Hid (∀ y,f y≠none↔y∈Plain.seen aa k 0)/\Hid (Plain.Good g p aa k 0)/\ag [] wz wq) (fun c _=>aa.length - (intOf c).toNat)
    case atStart=>exact⟨0,Qk _,rfl,_,by rw[Plain.q9];exact PM.out,lh (fun y=>by rw[Plain.q9];simp),lh (Plain.Good.start g p aa),TL.out⟩
    case round =>
     obtain⟨k,Fg,rfl,f,pF,hf,BI,XT⟩:=hrel;by_cases aL:k<aa.length
     ·obtain⟨tb,IB,u,rfl,hu,-,hints⟩:=Pb.out k aL
      have nL:=lh aL;have Ar:=lh (fun (h:Plain.Good g p aa k (aa.getD k []).length)=>h.row aL);have HSR:=lh (Plain.BF aL);have Ts:=lh (fun j hj=>Plain.M4 (T:=aa) (k:=k) (j:=j) aL hj);obtain⟨l,l6⟩:∃ l,aa.getD k []=l:=⟨_,rfl⟩;have YP:=lh l6;rw[l6] at hints Ar HSR Ts;obtain⟨uo,uc,rfl,aai,BO,huc⟩:=hints;have HUC:=lh huc;have HUS:=lh aai;have HPM:=lh pF;have HCQ:=lh XT;have ck:=HCQ.out.c (HC.out.c hu);have GD:l.length<2147483648:=by
       have h1:Plain.bU aa (k+1)=Plain.bU aa k+(aa.getD k []).length:=rfl;have h2:=Plain.iG aa (show k+1<=aa.length from aL);have h3:=rn.out;rw[l6] at h1;omega
      clear l6 aai huc pF XT hu BO;go_wp2
      go_loopw [94] (fun c wi=>∃ j:Nat,j<=l.length/\c=.int .i64 j/\∃ f,gP wi pb (Plain.seen aa k j).length f/\Hid (∀ y,f y≠none↔y∈Plain.seen aa k j)/\Hid (Plain.Good g p aa k j)/\ag [] wz wi) (fun c _=>l.length - (intOf c).toNat)
      case atStart=>exact⟨0,Qk _,rfl,f,HPM.out,hf,BI,HCQ.out⟩
      case round =>
       obtain⟨j,hj,rfl,f,pF,hf,BI,GU⟩:=hrel;have S9:=lh pF;have HPI:=lh pF.Dc;have Kf:=lh (HC.out.t GU);have Pw:=lh GU;by_cases mT:j<l.length
       ·obtain⟨ub,wK,rfl,AF⟩:=HUC.out (by intro e;rw[e] at mT;simp at mT)
        have cj:=Kf.out.c (AF j mT);have He:j<(aa.getD k []).length:=by rw[YP.out];exact mT
        obtain⟨d,hdj⟩:∃ d,l.getD j 0=d:=⟨_,rfl⟩;have DU:(aa.getD k []).getD j 0=d:=by rw[YP.out];exact hdj
        have O2:=lh (show d∈aa.getD k [] by rw[<-DU];simp[Ql] at He ⊢;simp[He]);have akr:=lh (fun (h1:d∈p.ah) (h2:g.tail d=(k:Int)) (h3:d ∉ Plain.seen aa k j)=>BI.out.next He (by rw[DU];exact h1) (by rw[DU];exact h2) (by rw[DU];exact h3));have sS:=lh (Plain.rN He);rw[DU] at sS;have zY:=lh (fun (hT:Plain.aR g p aa)=>hT.once He);rw[DU] at zY;have ID:=HUS.out d (by rw[<-hdj];simp[Ql,mT]);have IJ:aU (j:Int):=aU.mk (by omega) (by omega);have AB:(Plain.seen aa k j).length<maxLen:=by have:=Ts.out j (by omega);have:=rn.out;unfold maxLen;omega
        have vy:=lh (show bK wr lb (2*p.e.length) (Plain.cF g p p.e.length) from X4.out.Dc.aD Pw.out (by simp));rw[hdj] at cj;clear AF He hdj DU pF GU;have Pc:=lh (congrFun (Plain.qA g p) d);by_cases hd:d∈p.ah
        ·by_cases hv:g.tail d=(k:Int)
         ·by_cases hs:d∈Plain.seen aa k j
          ·have HB:=lh (show Plain.bB g p aa=5 from Plain.gq HR.out (fun hT=>zY.out hT hs))
           have RS:Hid ((Plain.cF g p p.e.length d).getD 0=(k:Int)):=lh (by rw[Pc.out,if_pos hd];exact hv);have DI:Hid ((Plain.cF g p p.e.length d).isSome=true):=lh (by rw[Pc.out,if_pos hd];rfl);obtain⟨u2,Dt⟩:∃ u2,(f d).getD 0=u2:=⟨_,rfl⟩;obtain⟨t2,Hl⟩:∃ t2,(f d).isSome=t2:=⟨_,rfl⟩;have WS:=lh Dt;have DF:=lh Hl;have YC:Hid (t2=true):=lh (by rw[<-Hl];exact Option.isSome_iff_ne_none.2 ((hf.out d).2 hs));obtain rfl:=YC.out;clear Dt Hl hs hd hv;have fM:True:=trivial
           go_wp2_with (first
            | (at_lookup;have _t:=fM;refine dT _ rfl _ _ rfl vy.out rfl ID rfl RS DI ?_;clear fM)
            | (at_lookup;refine dT _ rfl _ _ rfl HPI.out rfl ID rfl WS DF ?_))
           refine bodyPost_ret (v:=.tuple #[.pointer none,.int .i64 5]) (by simp[results,Tryz.results148,go_sem]) rfl ?_;rw[HB.out];exact⟨_,rfl,fun _=>rfl,fun h=>absurd h (by decide),Kf.out⟩
          have Tq:=lh (show f d=none from Classical.byContradiction fun h=>hs ((hf.out d).1 h));have RS:Hid ((Plain.cF g p p.e.length d).getD 0=(k:Int)):=lh (by rw[Pc.out,if_pos hd];exact hv);have DI:Hid ((Plain.cF g p p.e.length d).isSome=true):=lh (by rw[Pc.out,if_pos hd];rfl);have WS:Hid ((f d).getD 0=0):=lh (by rw[Tq.out];rfl);have DF:Hid ((f d).isSome=false):=lh (by rw[Tq.out];rfl);have HGO:=lh (akr.out hd hv hs);have HFS:=lh (show ∀ y,(if y=d then some (j:Int) else f y)≠none↔y∈Plain.seen aa k (j+1) by
           intro y;rw[sS.out,List.mem_append,List.mem_singleton];by_cases e:y=d
           ·simp[e]
           rw[if_neg e];simp only[e,or_false];exact hf.out y)
          have akI:=lh (show (Plain.seen aa k (j+1)).length=(Plain.seen aa k j).length+1 by rw[sS.out];simp);clear hd hv hs;have fM:True:=trivial
          go_wp2_with (first
           | (at_lookup;have _t:=fM;refine dT _ rfl _ _ rfl vy.out rfl ID rfl RS DI ?_;clear fM)
           | (at_lookup;refine dT _ rfl _ _ rfl HPI.out rfl ID rfl WS DF ?_)
           | (at_mapUpdate;refine JB _ rfl _ _ _ rfl S9.out AB rfl ID IJ Tq.out rfl rfl ?_;intro w6 m6 c6;have M6:=lh m6;have C6:=lh c6;clear m6 c6))
          go_roundw
          case rel=>exact⟨j+1,by omega,by go_num,_,by rw[akI.out];exact M6.out,HFS,HGO,Pw.out.trans C6.out (fun i hi=>Or.inr (by have:=te.out;simp at hi;omega))⟩
          case measure=>simp[intOf];omega
         have HB:=lh (show Plain.bB g p aa=5 from Plain.gq HR.out (fun hT=>hv (hT.row nL.out O2.out).2));have RS:Hid ((Plain.cF g p p.e.length d).getD 0=g.tail d):=lh (by rw[Pc.out,if_pos hd];rfl);have DI:Hid ((Plain.cF g p p.e.length d).isSome=true):=lh (by rw[Pc.out,if_pos hd];rfl);obtain⟨u2,Dt⟩:∃ u2,(f d).getD 0=u2:=⟨_,rfl⟩;obtain⟨t2,Hl⟩:∃ t2,(f d).isSome=t2:=⟨_,rfl⟩;have WS:=lh Dt;have DF:=lh Hl;have Ll:(g.tail d==(k:Int))=false:=beq_eq_false_iff_ne.2 hv;generalize g.tail d=td at *;clear Dt Hl hd;have fM:True:=trivial
         go_wp2_with (first
          | (at_lookup;have _t:=fM;refine dT _ rfl _ _ rfl vy.out rfl ID rfl RS DI ?_;clear fM)
          | (at_lookup;refine dT _ rfl _ _ rfl HPI.out rfl ID rfl WS DF ?_))
         refine bodyPost_ret (v:=.tuple #[.pointer none,.int .i64 5]) (by simp[results,Tryz.results148,go_sem]) rfl ?_;rw[HB.out];exact⟨_,rfl,fun _=>rfl,fun h=>absurd h (by decide),Kf.out⟩
        have HB:=lh (show Plain.bB g p aa=5 from Plain.gq HR.out (fun hT=>hd (hT.row nL.out O2.out).1));have RS:Hid ((Plain.cF g p p.e.length d).getD 0=0):=lh (by rw[Pc.out,if_neg hd];rfl);have DI:Hid ((Plain.cF g p p.e.length d).isSome=false):=lh (by rw[Pc.out,if_neg hd];rfl);obtain⟨u2,Dt⟩:∃ u2,(f d).getD 0=u2:=⟨_,rfl⟩;obtain⟨t2,Hl⟩:∃ t2,(f d).isSome=t2:=⟨_,rfl⟩;have WS:=lh Dt;have DF:=lh Hl;clear Dt Hl hd;have fM:True:=trivial
        go_wp2_with (first
         | (at_lookup;have _t:=fM;refine dT _ rfl _ _ rfl vy.out rfl ID rfl RS DI ?_;clear fM)
         | (at_lookup;refine dT _ rfl _ _ rfl HPI.out rfl ID rfl WS DF ?_))
        refine bodyPost_ret (v:=.tuple #[.pointer none,.int .i64 5]) (by simp[results,Tryz.results148,go_sem]) rfl ?_;rw[HB.out];exact⟨_,rfl,fun _=>rfl,fun h=>absurd h (by decide),Kf.out⟩
       have e:j=l.length:=by omega
       subst e;have HN6:=lh (show gP wr pb (Plain.seen aa (k+1) 0).length f by rw[HSR.out];exact S9.out);have OO:Hid (∀ y,f y≠none↔y∈Plain.seen aa (k+1) 0):=by rw[HSR.out];exact hf
       have HG6:=lh (Ar.out BI.out);clear pF GU;go_wp2
       go_roundw
       case rel=>exact⟨k+1,by have:=nL.out;omega,by go_num,f,HN6.out,OO,HG6,Pw.out⟩
       case measure=>have:=nL.out;simp[intOf];omega
     have e:k=aa.length:=by omega
     subst e;rw[Plain.AU] at pF hf;have Yi:=lh pF;have ajK:=pF.len;have HNL:=lh (X4.out.aD XT (by simp));have akm:=HNL.out.len;have qh:=lh (HC.out.t XT);have wF:aa.flatten.length<2147483648:=by have:=Plain.mZ aa aa.length (by omega);rw[Qj] at this;have:=rn.out;omega
     have G9:=lh (fun (hT:Plain.aR g p aa)=>hT.Ox (Plain.Pt.ay HR.out));have HGT:=lh (fun (h:aa.flatten.length=2*p.e.length)=>BI.out.turns (Plain.Pt.ay HR.out) HL.out h);have ku:=lh (abt.out.ints.fresh XT);clear pF XT;generalize aa.flatten.length=fl at *;by_cases hq:fl=2*p.e.length
     ·have HB:=lh (show Plain.bB g p aa=0 from Plain.EK HR.out (HGT.out hq))
      subst hq
      go_wp2_with fail
      refine (Ou _ _ aa _ p.ah lb (2*p.e.length) _ DK rn.out (HT.out.fresh qh.out) HNL.out ku.out).mono ?_;rintro e w7 ⟨O0,rfl,A9,hc7⟩;have lQ:=lh A9;have pX:=lh (qh.out.t hc7);have ahK:=lh qh.out.size;have Pc:=lh (Plain.qA g p);clear A9 hc7 ajK akm;go_wp2;refine bodyPost_ret (v:=.tuple #[.pointer (some ⟨wr.heap.size+1,0,none⟩),.int .i64 0]) (by simp[results,Tryz.results148,go_sem]) rfl ?_;rw[HB.out];exact⟨_,rfl,fun h=>absurd rfl h,fun _=>⟨_,_,_,_,_,_,_,rfl,by have:=ahK.out;omega,by rw[<-Pc.out];exact lQ.out⟩,pX.out⟩
     have HB:=lh (show Plain.bB g p aa=5 from Plain.gq HR.out (fun hT=>hq (G9.out hT)));have hq':((fl:Int)==2*(p.e.length:Int))=false:=beq_eq_false_iff_ne.2 (by omega);go_wp2;refine bodyPost_ret (v:=.tuple #[.pointer none,.int .i64 5]) (by simp[results,Tryz.results148,go_sem]) rfl ?_;rw[HB.out];exact⟨_,rfl,fun _=>rfl,fun h=>absurd h (by decide),qh.out⟩
  have HB:=lh (show Plain.bB g p aa=5 from Plain.gq hr (fun h=>hl h.len));clear hr;go_wp2;refine bodyPost_ret (v:=.tuple #[.pointer none,.int .i64 5]) (by simp[results,Tryz.results148,go_sem]) rfl ?_;rw[HB.out];exact⟨_,rfl,fun _=>rfl,fun h=>absurd h (by decide),cB.out⟩
 have HB:=lh (show Plain.bB g p aa=p.err g from Plain.pY hr);have HR:=lh hr;generalize p.err g=er at *;go_wp2;refine bodyPost_ret (v:=.tuple #[.pointer none,.int .i64 er]) (by simp[results,Tryz.results148,go_sem]) rfl ?_;rw[HB.out];exact⟨_,rfl,fun _=>rfl,fun h=>absurd h HR.out,cB.out⟩
end Go.Proofs.YtoiflofhcmjpoaaGreat
