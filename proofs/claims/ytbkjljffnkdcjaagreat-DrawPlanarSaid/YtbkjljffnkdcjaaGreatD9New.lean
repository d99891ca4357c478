/- package rota: the contract of dO. Conditions: lists that lie in memory and read so, of a bounded size. -/
import Derived.Test.YtbkjljffnkdcjaaGreatD9SetsD
import Derived.Laws.Bits64
open Nat renaming mod_eq_of_lt→Qa,add_mod_right→Qb,zero_le→Qw,le_refl→Qy
open List renaming getElem_cons_zero→Qc,getElem_cons_succ→Qd,take_append_drop→Qe,idxOf_lt_length_of_mem→Qf,getElem_toArray→Qg,length_append→Qi,idxOf_append→Qj,getD→Qk,take_length→Ql,setIfInBounds_toArray→Qm,getElem?_append_right→Qn,getElem?_append_left→Qo,length_eq_zero_iff→Qp,mem_append→Qq,perm_append_comm→Qr,set_cons_zero→Qs,set_cons_succ→Qt,mem_singleton→Qu,length_take→Qv
open Go.Act renaming put→Qh
open Go.Value renaming slice→Qx
open Or renaming inr→Qz
namespace Go.Proofs.YtbkjljffnkdcjaaGreat
open Go.RowKit Go.Maps
section
variable (w : World) {ops : Array Oper} {rest : List Oper} {o : Oper} {a : Act} {Q : Exit -> Act -> World -> Prop}
theorem ep (hg:o.guard=none) (m x:Operand) (kU:o.op=Op.lookup 124 m x true) {b n:Nat} {f:Int->Option Int} (h:bN w b n f) (hm:a.eval m=.map (some b))
  {k:Int} (hk:bn k) (hx:a.eval x=.int .i64 k) {v:Int} {t:Bool} (hv:Hid ((f k).getD 0=v)) (ht:Hid ((f k).isSome=t)) (hK:wpList Tryz.prog ops Q rest (a.put o.dst (.tuple #[.int .i64 v,.bool t])) w):wpList Tryz.prog ops Q (o :: rest) a w:=by
 cases hf:f k with
 | none =>
  have h1:=hv.out;have h2:=ht.out;rw[hf] at h1 h2;simp at h1 h2;subst h1;subst h2;exact dw w hg m x kU h hm hk hx (lh hf) hK
 | some u =>
  have h1:=hv.out;have h2:=ht.out;rw[hf] at h1 h2;simp at h1 h2;subst h1;subst h2;exact eT w hg m x kU h hm hk hx (lh hf) hK
end
theorem bN.I7 {w:World} {b n:Nat} {f:Int->Option Int} (h:bN w b n f) {c o:Nat} {v:Value} (hc:w.cell? ⟨c,o,none⟩=some v):c≠b:=by
 obtain⟨D,⟨es,clock,he,_⟩,_⟩:=h;intro e;subst e;simp[World.cell?,he] at hc
theorem oJ (w:World) {x y:Int} (hx:bn x) (hy:bn y):aJ (w.alloc (.cells #[.int .i64 x,.int .i64 y] 3)) (.slice (some ⟨w.heap.size,0,none⟩) 2 2) [x,y]:=by
 refine⟨_,2,rfl,by simp[hx,hy],by simp,fun _=>⟨w.heap.size,0,rfl,fun i hi=>?_⟩⟩;simp at hi;rw[cell_of_row _ _ _ _ _ _ (heap_alloc_new w _)];rcases i with _ | _ | i
 ·rfl
 ·rfl
 omega
theorem Plain.nG (T:List (List Int)):∀ k,k<=T.length->Plain.cu T k=(T.take k).flatten.length
 | 0,_=>by simp[Plain.cu]
 | k+1,h=>by
  unfold Plain.cu;rw[Plain.nG T k (by omega),List.take_succ_eq_append_getElem (by omega),List.flatten_append,Qi];simp[Qk,show k<T.length by omega]
theorem Plain.NK {T:List (List Int)} {k j:Nat} (hk:k<T.length) (hj:j<=(T.getD k []).length):(Plain.seen T k j).length<=Plain.cu T T.length:=by
 have h1:Plain.cu T (k+1)=Plain.cu T k+(T.getD k []).length:=rfl;have h2:=Plain.jA T (show k+1<=T.length from hk);unfold Plain.seen;rw[Qi,<-Plain.nG T k (by omega),Qv];omega
set_option maxRecDepth 100000 in
set_option maxHeartbeats 4000000 in
theorem Dw (vg vp vt:Value) (g:Plain.Gr) (p:Plain.Pt) (aa:List (List Int)) (w:World) (pO:p.e.length<=1000000) (vF:p.v.length<=1000000) (Pz:aa.length<2147483648) (hS:Plain.cu aa aa.length<2147483648) (hg:dU w vg g) (hp:gD w vp p) (ht:eC w vt aa) :
  Calls Tryz.prog 152 #[vg,vp,vt] w fun e w'=>∃ r,e=.returned (.tuple #[r,.int .i64 (Plain.bH g p aa)])/\(Plain.bH g p aa≠0->r=.pointer none) /\
   (Plain.bH g p aa=0->∃ rb Sc vd lb pb n m,r=.pointer (some ⟨rb,0,none⟩)/\w.heap.size<=rb/\nW w' rb (aa.map Plain.first) (fun d=>if d∈p.ag then some (g.tail d) else none) (Plain.places aa aa.length) p.ag Sc vd lb pb n m)/\ai [] w w':=by
 have HG:=lh hg;have HP:=lh hp;have HT:=lh ht;have yH:=lh hS;obtain⟨eo,cap,rfl,hn,hm,dS,aO⟩:=hg;obtain⟨v1,v2,rfl,hv,he⟩:=hp;obtain⟨ao,ac,rfl,-,-,-⟩:=hv;obtain⟨bo,bc,rfl,la,vD,bT⟩:=he;obtain⟨T5,tc,rfl,yO,zk⟩:=ht;have sD:=lh aO;have Ci:=lh bT;have ir:=lh dS;have Xh:=lh zk;obtain⟨eG,fh,cG⟩:=dq w #[.int .i64 g.n,.slice eo g.e.length cap] #[.slice ao p.v.length ac,.slice bo p.e.length bc] 24 27;have X0:=lh ((cell_of_row _ _ 0 _ _ _ eG).trans (show _=some (Value.int .i64 g.n) from rfl));have X1:=lh ((cell_of_row _ _ 1 _ _ _ eG).trans (show _=some (Qx eo g.e.length cap) from rfl));have Y1:=lh ((cell_of_row _ _ 1 _ _ _ fh).trans (show _=some (Qx bo p.e.length bc) from rfl));have b8:=lh cG;clear aO bT dS la hn eG fh cG zk hS
 go_enter Tryz.func152,Tryz.ntmps152
 go_wp2_with fail
 refine (fw _ _ g p _ (by omega) (HG.out.fresh b8.out) (HP.out.fresh b8.out)).mono ?_;rintro e w2 ⟨rfl,bG⟩;have cA:=lh (b8.out.t bG);have x0:=bG.c X0.out;have y1:=bG.c Y1.out;have X12:=lh (bG.c X1.out);have nq:=fun n w=>fZ Tryz.underlying124 n w;have zi:=lh (show w.heap.size+2<=w2.heap.size by have:=bG.size;simpa using this);clear bG;by_cases hr:p.err g=0
 ·have HR:=lh hr
  rw[hr];by_cases hl:(aa.length:Int)=g.n
  ·have HL:=lh hl
   rw[<-hl] at x0;have rT:=lh (Plain.Gr.aP (Plain.Pt.aP hr).1).2.2.1;have Ng:=lh (Plain.Gr.aP (Plain.Pt.aP hr).1).2.1;have uV:=lh (Plain.Pt.aP hr).2.2.1;clear hr hl;have y1n:=fun o=>dC y1 o
   go_wp2_with (at_make;refine mf rfl _ _ rfl (B:=w2.heap.size) (n:=2*p.e.length) rfl (by go_num) (by simp) (by omega) ?_;intro dv w3 r3 c3 f3;have R3:=lh r3;have C3:=lh c3;have y3:=c3.c (dC y1 (.map #[] 0));clear r3 c3 f3 y1n)
   clear y1 x0 y3 nq;have NM:=lh ((show iN (w2.alloc (.map #[] 0)) w2.heap.size 0 (fun _=>none) from iN.made w2).aM C3.out (by simp));have dD:=lh (cA.out.t (((ai.refl [] w2).alloc (.map #[] 0)).t C3.out));have HW3:=lh (show w2.heap.size+1<=w3.heap.size by have:=C3.out.size;simpa using this);have X13:=lh (C3.out.c (((ai.refl [] w2).alloc (.map #[] 0)).c X12.out));obtain⟨lb,J8⟩:∃ lb,w2.heap.size=lb:=⟨_,rfl⟩;rw[J8] at R3 NM HW3 ⊢;have HLB:=lh (show w.heap.size+2<=lb by rw[<-J8];exact zi.out);clear J8
   go_loopw [10,46] (fun d c wr=>∃ k:Nat,k<=p.e.length/\c=.int .i64 k/\iN wr lb (2*k) (Plain.cO g p k)/\ax wr lb d (Plain.Pt.ag ⟨[],p.e.take k⟩)/\ai [] w wr/\Hid (wr.cell? ⟨w.heap.size,1,none⟩=some (.slice eo g.e.length cap))) (fun _ c _=>p.e.length - (intOf c).toNat)
   case atStart=>exact⟨0,Qw _,rfl,by rw[Plain.yU];exact NM.out,by simpa[Plain.Pt.ag] using R3.out,dD.out,X13⟩
   case round =>
    obtain⟨k,hk,rfl,hnm,bd,hc,hx1⟩:=hrel;have HNM:=lh hnm;have bU:=lh bd;have HC:=lh hc;obtain⟨dvo,dvc,rfl⟩:=bd.shape;have FI:=lh (show (Plain.Pt.ag ⟨[],p.e.take k⟩).length=2*k by rw[Plain.cw];simp only[Qv];omega);by_cases aU:k<p.e.length
    ·obtain⟨bb,rh,rfl,rR⟩:=Ci.out (by intro e;rw[e] at aU;simp at aU)
     have ce:=hc.c (rR k aU);have Fy:=Plain.ct uV.out aU;obtain⟨ei,vG⟩:∃ ei:Nat,p.e.getD k 0=(ei:Int):=⟨(p.e.getD k 0).toNat,by omega⟩;have HLV:=lh (Plain.zw (g:=g) aU vG);have HDK:=lh (Plain.yl (p:=p) aU);rw[vG] at HDK;have yE:=Plain.bY uV.out;have HN0:=lh (Plain.rZ (g:=g) yE aU (d:=2*(ei:Int)) (by rw[vG];omega));have ZN:=lh (Plain.rZ (g:=g) yE aU (d:=2*(ei:Int)+1) (by rw[vG];omega));rw[vG] at ce Fy;have xO:ei<g.e.length:=by omega
     have aby:(ei:Int)<=1024:=by have:=rT.out;have:=Ng.out;have:=HL.out;omega
     obtain⟨eb,eB,rfl,gy,cG⟩:=sD.out ei xO;obtain⟨z1,z2⟩:=ir.out ei xO;have C0:=lh (hc.c gy);have C1:=lh (hc.c cG);clear rR hc Fy vG gy cG hnm bd yE;generalize Plain.Pt.ag ⟨[],p.e.take k⟩=D at *;generalize (g.ends ei).1=x at *;generalize (g.ends ei).2=y at *;go_wp2;clear ce;have I1:bn (2*(ei:Int)):=bn.mk (by omega) (by omega);have I2:bn (2*(ei:Int)+1):=bn.mk (by omega) (by omega);have akK:=IntWalk.i64_in (2*(ei:Int)) (by omega);have aks:=IntWalk.i64_in (2*(ei:Int)+1) (by omega);have N0:iN wr.drew lb (2*k) (Plain.cO g p k):=HNM.out.aM (ai.refl [] wr).drew (by simp);obtain⟨st,wa,wb,fz,qt,cH,N1,JQ⟩:=N0.entry (by unfold maxLen;omega) I1 z1 HN0.out;obtain⟨st',wc,we,pC,jM,SE,N2,LV⟩:=N1.entry (by unfold maxLen;omega) I2 z2 (by show (if _ then _ else _)=_;rw[if_neg (by omega)];exact ZN.out);have bh:∀ {b o:Nat} {v:Value},wr.cell? ⟨b,o,none⟩=some v->b≠lb:=fun h=>HNM.out.E9.I7 h;have aD:(fun w':World=>w'.cell? ⟨w.heap.size,1,none⟩=some (.slice (some ⟨eb,eB,none⟩) g.e.length cap)/\w'.cell? ⟨eb,eB+ei*2,none⟩=some (.int .i64 x)/\w'.cell? ⟨eb,eB+ei*2+1,none⟩=some (.int .i64 y)) wr.drew:=⟨hx1.out,C0.out,C1.out⟩;have bD:(fun w':World=>w'.cell? ⟨w.heap.size,1,none⟩=some (.slice (some ⟨eb,eB,none⟩) g.e.length cap)/\w'.cell? ⟨eb,eB+ei*2,none⟩=some (.int .i64 x)/\w'.cell? ⟨eb,eB+ei*2+1,none⟩=some (.int .i64 y)) wa:=⟨qt.cell aD.1 (by simpa using bh hx1.out),qt.cell aD.2.1 (by simpa using bh C0.out),qt.cell aD.2.2 (by simpa using bh C1.out)⟩;have iz:(fun w':World=>w'.cell? ⟨w.heap.size,1,none⟩=some (.slice (some ⟨eb,eB,none⟩) g.e.length cap)/\w'.cell? ⟨eb,eB+ei*2,none⟩=some (.int .i64 x)/\w'.cell? ⟨eb,eB+ei*2+1,none⟩=some (.int .i64 y)) wb:=⟨JQ.cell aD.1 (by simpa using bh hx1.out),JQ.cell aD.2.1 (by simpa using bh C0.out),JQ.cell aD.2.2 (by simpa using bh C1.out)⟩;have jv:(fun w':World=>w'.cell? ⟨w.heap.size,1,none⟩=some (.slice (some ⟨eb,eB,none⟩) g.e.length cap)/\w'.cell? ⟨eb,eB+ei*2,none⟩=some (.int .i64 x)/\w'.cell? ⟨eb,eB+ei*2+1,none⟩=some (.int .i64 y)) wc:=⟨jM.cell iz.1 (by simpa using bh hx1.out),jM.cell iz.2.1 (by simpa using bh C0.out),jM.cell iz.2.2 (by simpa using bh C1.out)⟩;have Sb:=lh N2;have Nj:=lh (((ai.refl [lb] wr).drew.t JQ).t LV);have ajw:=lh (LV.cell iz.1 (by simpa using bh hx1.out));clear N0 N1 N2 qt JQ jM LV bh;refine au (fun w':World=>w'.cell? ⟨w.heap.size,1,none⟩=some (.slice (some ⟨eb,eB,none⟩) g.e.length cap)/\w'.cell? ⟨eb,eB+ei*2,none⟩=some (.int .i64 x)/\w'.cell? ⟨eb,eB+ei*2+1,none⟩=some (.int .i64 y)) [0,1,2,3,4,5,6,7,8,9,10,11,12,13,14,15,16,17,18,20,23] (Way.line [0,1,2,3,4,5,6,7,8,9,10,11,12,13,14,15,16,17,18,19,20,21,22,23,24] .done) (by kernel_rfl) (by kernel_rfl) ?_;simp only[Way.line]
     repeat
      first
       | (refine ar rfl (by rfl) (by rfl) (fun _ _ _ h=>h) aD ?_;simp only[Qh,Z1,Z2,Z3,Z4,Z5,Z6])
       | (refine aq (v:=?_) rfl (by rfl) (by rfl) (fun _ _ _ h=>h) aD (fun w' aK=>?_) ?_;rotate_left;(focus ((try dsimp only at aK);go_simp;try with_reducible rfl));simp only[Qh,Z1,Z2,Z3,Z4,Z5,Z6])
       | (refine ak rfl (by rfl) (by rfl) aD ?_;simp only[Qh,Z1,Z2,Z3,Z4,Z5,Z6])
     refine aC rfl (by rfl) (by rfl) (fun K hK=>?_);simp only[Qg,Qc,Qd];refine EW _ _ _ rfl fz rfl rfl ?_;refine hK.out _ _ (fun _=>bD) ?_;clear hK K aD fz
     try simp only[Qh,Qm,Qs,Qt]
     repeat
      first
       | (refine ar rfl (by rfl) (by rfl) (fun _ _ _ h=>h) bD ?_;simp only[Qh,Z1,Z2,Z3,Z4,Z5,Z6])
       | (refine aq (v:=?_) rfl (by rfl) (by rfl) (fun _ _ _ h=>h) bD (fun w' aK=>?_) ?_;rotate_left;(focus ((try dsimp only at aK);go_simp;try with_reducible rfl));simp only[Qh,Z1,Z2,Z3,Z4,Z5,Z6])
       | (refine ak rfl (by rfl) (by rfl) bD ?_;simp only[Qh,Z1,Z2,Z3,Z4,Z5,Z6])
     refine aC rfl (by rfl) (by rfl) (fun K hK=>?_);simp only[Qg,Qc,Qd];refine AQ _ _ _ _ rfl cH rfl rfl rfl ?_;refine hK.out _ _ (fun _=>iz) ?_;clear hK K bD cH
     try simp only[Qh]
     refine aC rfl (by rfl) (by rfl) (fun K hK=>?_);simp only[Qg,Qc,Qd];refine EW _ _ _ rfl pC rfl rfl ?_;refine hK.out _ _ (fun _=>jv) ?_;clear hK K iz pC
     try simp only[Qh,Qm,Qs,Qt]
     repeat
      first
       | (refine ar rfl (by rfl) (by rfl) (fun _ _ _ h=>h) jv ?_;simp only[Qh,Z1,Z2,Z3,Z4,Z5,Z6])
       | (refine aq (v:=?_) rfl (by rfl) (by rfl) (fun _ _ _ h=>h) jv (fun w' aK=>?_) ?_;rotate_left;(focus ((try dsimp only at aK);go_simp;try with_reducible rfl));simp only[Qh,Z1,Z2,Z3,Z4,Z5,Z6])
       | (refine ak rfl (by rfl) (by rfl) jv ?_;simp only[Qh,Z1,Z2,Z3,Z4,Z5,Z6])
     refine aC rfl (by rfl) (by rfl) (fun K hK=>?_);simp only[Qg,Qc,Qd];refine AQ _ _ _ _ rfl SE rfl rfl rfl ?_;refine hK.out _ _ (fun h=>absurd h (Bool.eq_false_iff.1 (by kernel_rfl))) ?_;clear hK K jv SE
     try simp only[Qh]
     refine aB ?_;clear akK aks;have alD:=lh (HC.out.trans Nj.out (fun j hj=>Qz (by have:=HLB.out;simp at hj;omega)));have Fq:=lh (Sb.out.E9.lt);have x9:(D).length+2<4294967296:=by have:=FI.out;omega
     have Jo:=lh (bU.out.aM Nj.out (fun b hb e=>by obtain⟨cs,r,hh⟩:=bZ bU.out b (by rw[bU.out.aL];exact hb);exact HNM.out.E9.ne hh (by simpa using e)));have HRK:=lh (fun b (hb:b∈aL (.slice dvo (D).length dvc))=>bZ Jo.out b hb);have Wr:Hid (w.heap.size ∉ aL (.slice dvo (D).length dvc)):=lh (fun e=>by have:=(bU.out.low _ (by rw[<-bU.out.aL];exact e)).1;have:=HLB.out;omega);have Nf:=lh aU;clear aU xO
     go_wp2_with (at_builtin;refine b9 rfl (.tmp 73) (.tmp 79) rfl (B:=lb) (v:=.slice dvo (D).length dvc) rfl rfl (Jo.out.aM ((ai.refl [] _).alloc _) (by simp)) (oJ _ I1 I2) (by have:=Fq.out;simp;omega) x9 ?_;intro v5 w5 r5 c5 f5;have R5:=lh r5;have C5:=lh c5;clear r5 c5 f5)
     go_roundw
     case rel =>
      have jM:ai (aL (.slice dvo D.length dvc)) we w5:=((ai.refl _ we).alloc _).trans C5.out (fun j hj=>Or.inl hj);exact⟨k+1,by have:=Nf.out;omega,by go_num,by rw[HLV.out];exact Sb.out.aM jM (fun e=>by obtain⟨cs,r,hh⟩:=HRK.out lb e;exact Sb.out.E9.ne hh rfl),by rw[HDK.out];exact R5.out,alD.out.trans jM (fun j hj=>Qz (by have:=(Jo.out.low j (by rw[<-Jo.out.aL];exact hj)).1;have:=HLB.out;omega)),lh (jM.cell ajw.out Wr.out)⟩
     case measure=>have:=Nf.out;simp[intOf];omega
    have e:k=p.e.length:=by omega
    subst e;generalize wr=wz at *;rw[Ql] at bU FI bd ⊢;have abJ:=lh (show ax wz lb (.slice dvo p.ag.length dvc) p.ag from bU.out);have nq:=fun n w=>fZ Tryz.underlying124 n w;have yV:=HNM.out.len;have mj:Plain.Pt.ag ⟨[],p.e⟩=p.ag:=rfl;rw[mj] at FI ⊢;have hDL:p.ag.length<=2000000:=by have:=FI.out;omega
    clear hnm bd bU hc mj;go_wp2;clear nq yV aU;have PM:=lh (iN.made wz);have Vq:=lh ((ai.refl [] wz).alloc (.map #[] 0));obtain⟨pb,pa⟩:∃ pb,wz.heap.size=pb:=⟨_,rfl⟩;rw[pa] at PM ⊢;have rJ:=lh pa;generalize (wz.alloc (.map #[] 0))=wm at *;clear pa
    go_loopw [87] (fun c wq=>∃ k:Nat,k<=aa.length/\c=.int .i64 k/\∃ f,iN wq pb (Plain.seen aa k 0).length f/\Hid (∀ y,f y≠none↔y∈Plain.seen aa k 0)/\Hid (Plain.Good g p aa k 0)/\ai [] wz wq) (fun c _=>aa.length - (intOf c).toNat)
    case atStart=>exact⟨0,Qw _,rfl,_,by rw[Plain.sT];exact PM.out,lh (fun y=>by rw[Plain.sT];simp),lh (Plain.Good.start g p aa),Vq.out⟩
    case round =>
     obtain⟨k,Cg,rfl,f,qM,hf,Fc,hcq⟩:=hrel;by_cases aU:k<aa.length
     ·obtain⟨tb,Ub,u,rfl,hu,-,hints⟩:=Xh.out k aU
      have sE:=lh aU;have Cb:=lh (fun (h:Plain.Good g p aa k (aa.getD k []).length)=>h.row aU);have HSR:=lh (Plain.EV aU);have Xg:=lh (fun j hj=>Plain.NK (T:=aa) (k:=k) (j:=j) aU hj);obtain⟨l,oW⟩:∃ l,aa.getD k []=l:=⟨_,rfl⟩;have HLK:=lh oW;rw[oW] at hints Cb HSR Xg;obtain⟨uo,uc,rfl,aeW,DW,huc⟩:=hints;have HUC:=lh huc;have HUS:=lh aeW;have HPM:=lh qM;have HCQ:=lh hcq;have ck:=HCQ.out.c (HC.out.c hu);have Se:l.length<2147483648:=by
       have h1:Plain.cu aa (k+1)=Plain.cu aa k+(aa.getD k []).length:=rfl;have h2:=Plain.jA aa (show k+1<=aa.length from aU);have h3:=yH.out;rw[oW] at h1;omega
      clear oW aeW huc qM hcq hu DW;go_wp2
      go_loopw [94] (fun c wi=>∃ j:Nat,j<=l.length/\c=.int .i64 j/\∃ f,iN wi pb (Plain.seen aa k j).length f/\Hid (∀ y,f y≠none↔y∈Plain.seen aa k j)/\Hid (Plain.Good g p aa k j)/\ai [] wz wi) (fun c _=>l.length - (intOf c).toNat)
      case atStart=>exact⟨0,Qw _,rfl,f,HPM.out,hf,Fc,HCQ.out⟩
      case round =>
       obtain⟨j,hj,rfl,f,qM,hf,Fc,Vi⟩:=hrel;have UC:=lh qM;have HPI:=lh qM.E9;have Zt:=lh (HC.out.t Vi);have T4:=lh Vi;by_cases nS:j<l.length
       ·obtain⟨ub,anb,rfl,Ce⟩:=HUC.out (by intro e;rw[e] at nS;simp at nS)
        have cj:=Zt.out.c (Ce j nS);have Jk:j<(aa.getD k []).length:=by rw[HLK.out];exact nS
        obtain⟨d,WY⟩:∃ d,l.getD j 0=d:=⟨_,rfl⟩;have Io:(aa.getD k []).getD j 0=d:=by rw[HLK.out];exact WY
        have Sl:=lh (show d∈aa.getD k [] by rw[<-Io];simp[Qk] at Jk ⊢;simp[Jk]);have aiS:=lh (fun (h1:d∈p.ag) (h2:g.tail d=(k:Int)) (h3:d ∉ Plain.seen aa k j)=>Fc.out.next Jk (by rw[Io];exact h1) (by rw[Io];exact h2) (by rw[Io];exact h3));have uJ:=lh (Plain.sZ Jk);rw[Io] at uJ;have BA:=lh (fun (hT:Plain.aT g p aa)=>hT.once Jk);rw[Io] at BA;have ID:=HUS.out d (by rw[<-WY];simp[Qk,nS]);have IJ:bn (j:Int):=bn.mk (by omega) (by omega);have Fo:(Plain.seen aa k j).length<maxLen:=by have:=Xg.out j (by omega);have:=yH.out;unfold maxLen;omega
        have yd:=lh (show bN wr lb (2*p.e.length) (Plain.cO g p p.e.length) from HNM.out.E9.aM T4.out (by simp));rw[WY] at cj;clear Ce Jk WY Io qM Vi;have Sz:=lh (congrFun (Plain.sx g p) d);by_cases hd:d∈p.ag
        ·by_cases hv:g.tail d=(k:Int)
         ·by_cases hs:d∈Plain.seen aa k j
          ·have HB:=lh (show Plain.bH g p aa=5 from Plain.iq HR.out (fun hT=>BA.out hT hs))
           have SO:Hid ((Plain.cO g p p.e.length d).getD 0=(k:Int)):=lh (by rw[Sz.out,if_pos hd];exact hv);have Mc:Hid ((Plain.cO g p p.e.length d).isSome=true):=lh (by rw[Sz.out,if_pos hd];rfl);obtain⟨u2,Cl⟩:∃ u2,(f d).getD 0=u2:=⟨_,rfl⟩;obtain⟨t2,Jp⟩:∃ t2,(f d).isSome=t2:=⟨_,rfl⟩;have Yb:=lh Cl;have Ou:=lh Jp;have HT3:Hid (t2=true):=lh (by rw[<-Jp];exact Option.isSome_iff_ne_none.2 ((hf.out d).2 hs));obtain rfl:=HT3.out;clear Cl Jp hs hd hv;have gH:True:=trivial
           go_wp2_with (first
            | (at_lookup;have _t:=gH;refine ep _ rfl _ _ rfl yd.out rfl ID rfl SO Mc ?_;clear gH)
            | (at_lookup;refine ep _ rfl _ _ rfl HPI.out rfl ID rfl Yb Ou ?_))
           refine bodyPost_ret (v:=.tuple #[.pointer none,.int .i64 5]) (by simp[results,Tryz.results152,go_sem]) rfl ?_;rw[HB.out];exact⟨_,rfl,fun _=>rfl,fun h=>absurd h (by decide),Zt.out⟩
          have Xb:=lh (show f d=none from Classical.byContradiction fun h=>hs ((hf.out d).1 h));have SO:Hid ((Plain.cO g p p.e.length d).getD 0=(k:Int)):=lh (by rw[Sz.out,if_pos hd];exact hv);have Mc:Hid ((Plain.cO g p p.e.length d).isSome=true):=lh (by rw[Sz.out,if_pos hd];rfl);have Yb:Hid ((f d).getD 0=0):=lh (by rw[Xb.out];rfl);have Ou:Hid ((f d).isSome=false):=lh (by rw[Xb.out];rfl);have HGO:=lh (aiS.out hd hv hs);have HFS:=lh (show ∀ y,(if y=d then some (j:Int) else f y)≠none↔y∈Plain.seen aa k (j+1) by
           intro y;rw[uJ.out,Qq,Qu];by_cases e:y=d
           ·simp[e]
           rw[if_neg e];simp only[e,or_false];exact hf.out y)
          have alX:=lh (show (Plain.seen aa k (j+1)).length=(Plain.seen aa k j).length+1 by rw[uJ.out];simp);clear hd hv hs;have gH:True:=trivial
          go_wp2_with (first
           | (at_lookup;have _t:=gH;refine ep _ rfl _ _ rfl yd.out rfl ID rfl SO Mc ?_;clear gH)
           | (at_lookup;refine ep _ rfl _ _ rfl HPI.out rfl ID rfl Yb Ou ?_)
           | (at_mapUpdate;refine ML _ rfl _ _ _ rfl UC.out Fo rfl ID IJ Xb.out rfl rfl ?_;intro w6 m6 c6;have M6:=lh m6;have C6:=lh c6;clear m6 c6))
          go_roundw
          case rel=>exact⟨j+1,by omega,by go_num,_,by rw[alX.out];exact M6.out,HFS,HGO,T4.out.trans C6.out (fun i hi=>Qz (by have:=rJ.out;simp at hi;omega))⟩
          case measure=>simp[intOf];omega
         have HB:=lh (show Plain.bH g p aa=5 from Plain.iq HR.out (fun hT=>hv (hT.row sE.out Sl.out).2));have SO:Hid ((Plain.cO g p p.e.length d).getD 0=g.tail d):=lh (by rw[Sz.out,if_pos hd];rfl);have Mc:Hid ((Plain.cO g p p.e.length d).isSome=true):=lh (by rw[Sz.out,if_pos hd];rfl);obtain⟨u2,Cl⟩:∃ u2,(f d).getD 0=u2:=⟨_,rfl⟩;obtain⟨t2,Jp⟩:∃ t2,(f d).isSome=t2:=⟨_,rfl⟩;have Yb:=lh Cl;have Ou:=lh Jp;have Dd:(g.tail d==(k:Int))=false:=beq_eq_false_iff_ne.2 hv;generalize g.tail d=td at *;clear Cl Jp hd;have gH:True:=trivial
         go_wp2_with (first
          | (at_lookup;have _t:=gH;refine ep _ rfl _ _ rfl yd.out rfl ID rfl SO Mc ?_;clear gH)
          | (at_lookup;refine ep _ rfl _ _ rfl HPI.out rfl ID rfl Yb Ou ?_))
         refine bodyPost_ret (v:=.tuple #[.pointer none,.int .i64 5]) (by simp[results,Tryz.results152,go_sem]) rfl ?_;rw[HB.out];exact⟨_,rfl,fun _=>rfl,fun h=>absurd h (by decide),Zt.out⟩
        have HB:=lh (show Plain.bH g p aa=5 from Plain.iq HR.out (fun hT=>hd (hT.row sE.out Sl.out).1));have SO:Hid ((Plain.cO g p p.e.length d).getD 0=0):=lh (by rw[Sz.out,if_neg hd];rfl);have Mc:Hid ((Plain.cO g p p.e.length d).isSome=false):=lh (by rw[Sz.out,if_neg hd];rfl);obtain⟨u2,Cl⟩:∃ u2,(f d).getD 0=u2:=⟨_,rfl⟩;obtain⟨t2,Jp⟩:∃ t2,(f d).isSome=t2:=⟨_,rfl⟩;have Yb:=lh Cl;have Ou:=lh Jp;clear Cl Jp hd;have gH:True:=trivial
        go_wp2_with (first
         | (at_lookup;have _t:=gH;refine ep _ rfl _ _ rfl yd.out rfl ID rfl SO Mc ?_;clear gH)
         | (at_lookup;refine ep _ rfl _ _ rfl HPI.out rfl ID rfl Yb Ou ?_))
        refine bodyPost_ret (v:=.tuple #[.pointer none,.int .i64 5]) (by simp[results,Tryz.results152,go_sem]) rfl ?_;rw[HB.out];exact⟨_,rfl,fun _=>rfl,fun h=>absurd h (by decide),Zt.out⟩
       have e:j=l.length:=by omega
       subst e;have HN6:=lh (show iN wr pb (Plain.seen aa (k+1) 0).length f by rw[HSR.out];exact UC.out);have RX:Hid (∀ y,f y≠none↔y∈Plain.seen aa (k+1) 0):=by rw[HSR.out];exact hf
       have HG6:=lh (Cb.out Fc.out);clear qM Vi;go_wp2
       go_roundw
       case rel=>exact⟨k+1,by have:=sE.out;omega,by go_num,f,HN6.out,RX,HG6,T4.out⟩
       case measure=>have:=sE.out;simp[intOf];omega
     have e:k=aa.length:=by omega
     subst e;rw[Plain.Cs] at qM hf;have HNP:=lh qM;have anS:=qM.len;have HNL:=lh (HNM.out.aM hcq (by simp));have ant:=HNL.out.len;have vL:=lh (HC.out.t hcq);have uZ:aa.flatten.length<2147483648:=by have:=Plain.nG aa aa.length (by omega);rw[Ql] at this;have:=yH.out;omega
     have Jq:=lh (fun (hT:Plain.aT g p aa)=>hT.PK (Plain.Pt.aF HR.out));have HGT:=lh (fun (h:aa.flatten.length=2*p.e.length)=>Fc.out.turns (Plain.Pt.aF HR.out) HL.out h);have FE:=lh (abJ.out.ints.fresh hcq);clear qM hcq;generalize aa.flatten.length=fl at *;by_cases hq:fl=2*p.e.length
     ·have HB:=lh (show Plain.bH g p aa=0 from Plain.Iq HR.out (HGT.out hq))
      subst hq
      go_wp2_with fail
      refine (Ru _ _ aa _ p.ag lb (2*p.e.length) _ Pz yH.out (HT.out.fresh vL.out) HNL.out FE.out).mono ?_;rintro e w7 ⟨Sc,rfl,CB,hc7⟩;have uN:=lh CB;have nm:=lh (vL.out.t hc7);have alf:=lh vL.out.size;have Sz:=lh (Plain.sx g p);clear CB hc7 anS ant;go_wp2;refine bodyPost_ret (v:=.tuple #[.pointer (some ⟨wr.heap.size+1,0,none⟩),.int .i64 0]) (by simp[results,Tryz.results152,go_sem]) rfl ?_;rw[HB.out];exact⟨_,rfl,fun h=>absurd rfl h,fun _=>⟨_,_,_,_,_,_,_,rfl,by have:=alf.out;omega,by rw[<-Sz.out];exact uN.out⟩,nm.out⟩
     have HB:=lh (show Plain.bH g p aa=5 from Plain.iq HR.out (fun hT=>hq (Jq.out hT)));have hq':((fl:Int)==2*(p.e.length:Int))=false:=beq_eq_false_iff_ne.2 (by omega);go_wp2;refine bodyPost_ret (v:=.tuple #[.pointer none,.int .i64 5]) (by simp[results,Tryz.results152,go_sem]) rfl ?_;rw[HB.out];exact⟨_,rfl,fun _=>rfl,fun h=>absurd h (by decide),vL.out⟩
  have HB:=lh (show Plain.bH g p aa=5 from Plain.iq hr (fun h=>hl h.len));clear hr;go_wp2;refine bodyPost_ret (v:=.tuple #[.pointer none,.int .i64 5]) (by simp[results,Tryz.results152,go_sem]) rfl ?_;rw[HB.out];exact⟨_,rfl,fun _=>rfl,fun h=>absurd h (by decide),cA.out⟩
 have HB:=lh (show Plain.bH g p aa=p.err g from Plain.qU hr);have HR:=lh hr;generalize p.err g=er at *;go_wp2;refine bodyPost_ret (v:=.tuple #[.pointer none,.int .i64 er]) (by simp[results,Tryz.results152,go_sem]) rfl ?_;rw[HB.out];exact⟨_,rfl,fun _=>rfl,fun h=>absurd h HR.out,cA.out⟩
namespace Plain
theorem oE (f:Int->Option Int) {L:List Int} (hn:L.Nodup):∀ k,k<=L.length->∀ y,fS f L k y=if y∈L.take k then some ((L.idxOf y:Nat):Int) else f y
 | 0,_,y=>by simp[fS]
 | k+1,hk,y=>by
  unfold fS;rw[oE f hn k (by omega) y,oK (show k<L.length by omega)];simp only[Qq,Qu];by_cases e:y=L.getD k 0
  ·rw[if_pos e,if_pos (Qz e),e,gT hn (by omega)]
  rw[if_neg e];by_cases h:y∈L.take k
  ·rw[if_pos h,if_pos (Or.inl h)]
  rw[if_neg h,if_neg (fun q=>q.elim h e)]
theorem uC {l:List Int} (h:l.Nodup):(first l).Nodup:=by
 have hp:(first l).Perm l:=by
  unfold first;exact Qr.trans (by rw[Qe])
 exact hp.nodup_iff.2 h
theorem tF {T:List (List Int)} {y:Int} (hn:∀ i,i<T.length->(T.getD i []).Nodup):∀ (j k:Nat),k+j<=T.length->(∀ i,k<=i->i<k+j->y ∉ T.getD i [])->places T (k+j) y=places T k y
 | 0,_,_,_=>rfl
 | j+1,k,h,hy=>by
  show fS (places T (k+j)) (first (T.getD (k+j) [])) (first (T.getD (k+j) [])).length y=_;rw[oE _ (uC (hn (k+j) (by omega))) _ (Qy _),Ql,if_neg (by rw[l7];exact hy (k+j) (by omega) (by omega))];exact tF hn j k (by omega) (fun i h1 h2=>hy i h1 (by omega))
theorem Lg {T:List (List Int)} (hn:∀ i,i<T.length->(T.getD i []).Nodup) {v:Nat} (hv:v<T.length) {d:Int} (hd:d∈T.getD v []) (hu:∀ i,i<T.length->d∈T.getD i []->i=v):places T T.length d=some (((first (T.getD v [])).idxOf d:Nat):Int):=by
 obtain⟨j,hj⟩:∃ j,T.length=(v+1)+j:=⟨T.length - (v+1),by omega⟩;have h1:=tF (y:=d) hn j (v+1) (by omega) (fun i h1 h2 h3=>by have:=hu i (by omega) h3;omega);rw[<-hj] at h1;rw[h1];show fS (places T v) _ _ d=_;rw[oE _ (uC (hn v hv)) _ (Qy _),Ql,if_pos ((l7 _ _).2 hd)]
theorem th {a b:List Int} (hn:(a++b).Nodup) {x:Int} (hx:x∈a++b):ahead (b++a) x=ahead (a++b) x:=by
 have Uu:(b++a).Nodup:=(Qr.nodup_iff).1 hn;unfold ahead;rw[Qi,Qi];have S7:∀ y,y∈a->y∈b->False:=fun y h1 h2=>(List.nodup_append.1 hn).2.2 y h1 y h2 rfl;have afV:∀ i,i<a.length->(b++a).getD (b.length+i) 0=a.getD i 0:=fun i hi=>by simp[Qk,Qn]
 have Wk:∀ i,i<a.length->(a++b).getD i 0=a.getD i 0:=fun i hi=>by simp[Qk,Qo hi]
 have afs:∀ i,i<b.length->(b++a).getD i 0=b.getD i 0:=fun i hi=>by simp[Qk,Qo hi]
 have Wo:∀ i,i<b.length->(a++b).getD (a.length+i) 0=b.getD i 0:=fun i hi=>by simp[Qk,Qn]
 rcases Qq.1 hx with h | h
 ·have hb:x ∉ b:=fun q=>S7 x h q
  have i1:(b++a).idxOf x=a.idxOf x+b.length:=by rw[Qj,if_neg hb]
  have i2:(a++b).idxOf x=a.idxOf x:=by rw[Qj,if_pos h]
  have hi:=Qf h;rw[i1,i2];by_cases h0:a.idxOf x=0
  ·rw[h0]
   by_cases fT:b.length=0
   ·have:b=[]:=Qp.1 fT
    subst this;simp
   rw[show (0+b.length+(b.length+a.length) - 1)=(b.length - 1)+(b.length+a.length) by omega,Qb,Qa (by omega),afs _ (by omega)];rw[show 0+(a.length+b.length) - 1=a.length+(b.length - 1) by omega,Qa (by omega),Wo _ (by omega)]
  rw[show a.idxOf x+b.length+(b.length+a.length) - 1=(b.length+(a.idxOf x - 1))+(b.length+a.length) by omega,Qb,Qa (by omega),afV _ (by omega)];rw[show a.idxOf x+(a.length+b.length) - 1=(a.idxOf x - 1)+(a.length+b.length) by omega,Qb,Qa (by omega),Wk _ (by omega)]
 have ha:x ∉ a:=fun q=>S7 x q h;have i1:(b++a).idxOf x=b.idxOf x:=by rw[Qj,if_pos h]
 have i2:(a++b).idxOf x=b.idxOf x+a.length:=by rw[Qj,if_neg ha]
 have hi:=Qf h;rw[i1,i2];by_cases h0:b.idxOf x=0
 ·rw[h0]
  by_cases yJ:a.length=0
  ·have:a=[]:=Qp.1 yJ
   subst this;simp
  rw[show 0+(b.length+a.length) - 1=b.length+(a.length - 1) by omega,Qa (by omega),afV _ (by omega)];rw[show (0+a.length+(a.length+b.length) - 1)=(a.length - 1)+(a.length+b.length) by omega,Qb,Qa (by omega),Wk _ (by omega)]
 rw[show b.idxOf x+(b.length+a.length) - 1=(b.idxOf x - 1)+(b.length+a.length) by omega,Qb,Qa (by omega),afs _ (by omega)];rw[show b.idxOf x+a.length+(a.length+b.length) - 1=(a.length+(b.idxOf x - 1))+(a.length+b.length) by omega,Qb,Qa (by omega),Wo _ (by omega)]
theorem Ey {l:List Int} (hn:l.Nodup) {x:Int} (hx:x∈l):ahead (first l) x=ahead l x:=by
 unfold first;have:=th (a:=l.take (vi l l.length)) (b:=l.drop (vi l l.length)) (by rw[Qe];exact hn) (by rw[Qe];exact hx);rw[this,Qe]
end Plain
theorem lW (d:Nat) (hd:d<4294967296):bits .xor .i64 (d:Int) 1=Plain.aE d:=by
 have hx:d ^^^ 1<2 ^ 33:=Nat.xor_lt_two_pow (by omega) (by omega);have h1:(BitVec.ofInt 64 (d:Int)).toNat=d:=by
  rw[BitVec.ofInt_natCast,BitVec.toNat_ofNat];exact Qa (by omega)
 have h3:bits .xor .i64 (d:Int) 1=((d ^^^ 1:Nat):Int):=by
  show IntKind.i64.wrap ((BitVec.ofInt 64 (d:Int) ^^^ BitVec.ofInt 64 1).toNat:Int)=_;rw[BitVec.toNat_xor,h1,show (BitVec.ofInt 64 1).toNat=1 from rfl,IntKind.wrap_i64];omega
 rw[h3];have h4:(d ^^^ 1) / 2=d / 2:=by rw[Nat.xor_div_two];simp
 have h5:(d ^^^ 1) % 2=(d+1) % 2:=by
  have h6:=Nat.xor_mod_two_pow (a:=d) (b:=1) (n:=1);rw[Nat.pow_one] at h6;rw[h6];rcases Nat.mod_two_eq_zero_or_one d with q | q <;> rw[q] <;> simp <;> omega
 unfold Plain.aE;split <;> omega
theorem KA (rb:Nat) (g:Plain.Gr) (p:Plain.Pt) (aa:List (List Int)) (vt vd:Value) (lb pb n m:Nat) (d:Nat) (w:World) (hp:Plain.aH g p) (hT:Plain.aT g p aa) (Pz:aa.length<2147483648) (hS:Plain.cu aa aa.length<2147483648) (hd:(d:Int)∈p.ag) (pG:(d:Int)<4294967296)
  (h:nW w rb (aa.map Plain.first) (fun d=>if d∈p.ag then some (g.tail d) else none) (Plain.places aa aa.length) p.ag vt vd lb pb n m) :
  Calls Tryz.prog 154 #[.pointer (some ⟨rb,0,none⟩),.int .i64 d] w fun e w'=>e=.returned (.tuple #[.int .i64 (Plain.ay g aa d),.bool true])/\w=w':=by
 have HB:=lh (lW d (by omega));have uN:=lh h;have q9:=Plain.bu hd;have hv:=hp.vr _ (hp.aQ q9).1;obtain⟨v,Nq⟩:∃ v:Nat,g.tail (Plain.aE d)=(v:Int):=⟨(g.tail (Plain.aE d)).toNat,by omega⟩;have V7:v<aa.length:=by have:=hT.len;omega
 have cV:Plain.aE d∈aa.getD v []:=by
  have:=(hT.mem (v:Int) (by omega) (by rw[<-Nq];exact hv.2) (Plain.aE d)).2 ⟨q9,Nq⟩;simpa[Plain.aI] using this
 have hnn:∀ i,i<aa.length->(aa.getD i []).Nodup:=fun i hi=>by have:=hT.nodup (i:Int);simpa[Plain.aI] using this
 have pO:=Plain.Lg hnn V7 cV (fun i hi hm=>by have:=(hT.row hi hm).2;omega);have qu:(aa.map Plain.first).getD v []=Plain.first (aa.getD v []):=by simp[Qk,V7]
 have Fo:(aa.getD v []).length<2147483648:=by
  have h1:Plain.cu aa (v+1)=Plain.cu aa v+(aa.getD v []).length:=rfl;have h2:=Plain.jA aa (show v+1<=aa.length from V7);omega
 have hah:Plain.ay g aa d=Plain.ahead (Plain.first (aa.getD v [])) (Plain.aE d):=by
  rw[Plain.Ey (hnn v V7) cV];unfold Plain.ay Plain.before Plain.aI;rw[Nq];rfl
 have uZ:=Plain.mK (aa.getD v []);have xc:(Plain.first (aa.getD v [])).idxOf (Plain.aE d)<(Plain.first (aa.getD v [])).length:=Qf ((Plain.l7 _ _).2 cV);have Al:0<=Plain.aE d/\Plain.aE d<=d+1:=by unfold Plain.aE;split <;> omega
 have HC:=lh (DP rb (aa.map Plain.first) (fun d=>if d∈p.ag then some (g.tail d) else none) (Plain.places aa aa.length) p.ag vt vd lb pb n m (Plain.aE d) (-1) v ((Plain.first (aa.getD v [])).idxOf (Plain.aE d)) (((Plain.first (aa.getD v [])).idxOf (Plain.aE d)+(Plain.first (aa.getD v [])).length - 1) % (Plain.first (aa.getD v [])).length) w (bn.mk (by omega) (by omega)) (by show (if _ then _ else _)=_;rw[if_pos q9,Nq]) pO (by simpa using V7) (by rw[List.length_map];omega) (by rw[qu];exact xc) (by rw[qu];omega) (by omega) (by
   rw[qu];generalize (Plain.first (aa.getD v [])).length=len at *;generalize (Plain.first (aa.getD v [])).idxOf (Plain.aE d)=i at *;rw[Int.tmod_eq_emod_of_nonneg (by omega),show (i:Int) + -1+(len:Int)=((i+len - 1:Nat):Int) by omega];exact (Int.natCast_emod _ _).symm) (by rw[qu];exact Nat.mod_lt _ (by omega)) h)
 rw[qu,show (Plain.first (aa.getD v [])).getD (((Plain.first (aa.getD v [])).idxOf (Plain.aE d)+(Plain.first (aa.getD v [])).length - 1) % (Plain.first (aa.getD v [])).length) 0=Plain.ay g aa d from hah.symm] at HC;clear h q9 hv Nq V7 cV hnn pO qu Fo hah uZ xc Al
 go_enter Tryz.func154,Tryz.ntmps154
 go_wp2_with fail
 rw[HB.out];refine HC.out.mono ?_;rintro e w2 ⟨rfl,rfl⟩;go_wp2;exact bodyPost_ret (v:=.tuple #[.int .i64 (Plain.ay g aa d),.bool true]) (by simp[results,Tryz.results154,go_sem]) rfl ⟨rfl,rfl⟩
end Go.Proofs.YtbkjljffnkdcjaaGreat
