/- graph.Span: contract. Conditions: a graph, a list of ints that lie in memory and read so. -/
import Derived.Test.YtoiflofhcmjpoaaGreatF9EmbAll
set_option maxRecDepth 100000
set_option maxHeartbeats 8000000
open Go.Value renaming slice→Qa,int→QK
open List renaming length_cons→Qb,length_map→Qc,getD→Qd,filter_eq_nil_iff→Qf,take_succ_eq_append_getElem→Qg,length_append→Qh,getElem?_map→Qj,idxOf_lt_length_iff→Ql,getElem?_eq_getElem→Qm,ext_getElem→Qn,range→Qo,length_filter_le→Qp,mem_range→Qr,length_eraseIdx→Qs,getElem_of_mem→Qt,mem_cons→Qu,mem_singleton→Qv,mem_map→Qy,Perm→QA,length_take→QB,take_length→QC,getElem_mem→QE,length_nil→QF
open Nat renaming le_refl→Qe,zero_le→Qq,zero_add→Qw,le_trans→Qx,add_comm→QI,add_mul→QJ
open Classical renaming byContradiction→Qi
open Or renaming inr→Qk
open Bool renaming eq_false_iff→Qz
open Option renaming getD_some→QD,map_some→QG
open Go.Act renaming put→QH
-- READS ONLY
namespace Go.Proofs.YtoiflofhcmjpoaaGreat
open Go.RowKit Go.Maps
namespace Plain
def il (g:Gr) (ag:List Int):Int:=if g.err≠0 then g.err else if dG ag g.e.length=true then 0 else 4
end Plain
theorem Nk (vg vl:Value) (g:Plain.Gr) (ag:List Int) (w:World) (hg:cA w vg g) (he:aI w vl ag) :
  Calls Tryz.prog 21 #[vg,vl] w λe w'=>∃ v1 v2,e=.returned (.tuple #[.agg #[v1,v2],.int .i64 (Plain.il g ag)])/\(Plain.il g ag≠0->v1=.slice none 0 0/\v2=.slice none 0 0)/\(Plain.il g ag=0->aw w' w.heap.size v1 (Plain.dO g ag).v/\aw w' w.heap.size v2 ag)/\ai [] w w':=by
 have HG:=lh hg;have HE:=lh he;obtain⟨eo,cap,rfl,-,hm,fx,aS⟩:=hg;have oe:=lh aS;have iL:=lh fx;obtain⟨lo,lc,rfl,-,-,-⟩:=he;have IGL:bF (g.e.length:Int):=bF.mk (by omega) (by omega);clear aS fx;have gJ:=lh (show ai [] w ((w.alloc (.cells #[.int .i64 g.n,.slice eo g.e.length cap] 24)).alloc (.cells #[.slice none 0 0,.slice none 0 0] 27)) from (show ai [] w ((w.alloc (.cells #[.int .i64 g.n,.slice eo g.e.length cap] 24)).alloc (.cells #[.slice none 0 0,.slice none 0 0] 27)) from (((ai.refl [] w).alloc _).alloc _)));have cf:=heap_alloc_new w (.cells #[.int .i64 g.n,.slice eo g.e.length cap] 24);replace cf:=(show ai [] (w.alloc (.cells #[.int .i64 g.n,.slice eo g.e.length cap] 24)) ((w.alloc (.cells #[.int .i64 g.n,.slice eo g.e.length cap] 24)).alloc (.cells #[.slice none 0 0,.slice none 0 0] 27)) from ((ai.refl [] (w.alloc (.cells #[.int .i64 g.n,.slice eo g.e.length cap] 24))).alloc _)).heap cf (by simp);have ig:=heap_alloc_new (w.alloc (.cells #[.int .i64 g.n,.slice eo g.e.length cap] 24)) (.cells #[.slice none 0 0,.slice none 0 0] 27);rw[show (w.alloc (.cells #[.int .i64 g.n,.slice eo g.e.length cap] 24)).heap.size=w.heap.size+1 by simp] at ig;have HX:=lh (λ(w2:World) (dN:ai [] ((w.alloc (.cells #[.int .i64 g.n,.slice eo g.e.length cap] 24)).alloc (.cells #[.slice none 0 0,.slice none 0 0] 27)) w2)=>(⟨dN.c ((cell_of_row _ _ 0 _ _ _ cf).trans rfl),dN.c ((cell_of_row _ _ 1 _ _ _ cf).trans rfl),dN.heap ig (by simp),by have hz:=dN.size;simpa using hz⟩:w2.cell? ⟨w.heap.size,0,none⟩=some (.int .i64 g.n)/\w2.cell? ⟨w.heap.size,1,none⟩=some (.slice eo g.e.length cap)/\w2.heap[w.heap.size+1]?=some (.cells #[.slice none 0 0,.slice none 0 0] 27 (0,0))/\w.heap.size+2<=w2.heap.size));clear cf ig;have xJ:=lh (show ((w.alloc (.cells #[.int .i64 g.n,.slice eo g.e.length cap] 24)).alloc (.cells #[.slice none 0 0,.slice none 0 0] 27)).heap.size=w.heap.size+2 by simp);obtain⟨x0,x1,r8,bs⟩:=HX.out _ (ai.refl _ _);go_enter Tryz.func21,Tryz.ntmps21;go_wp2_with fail;generalize ((w.alloc (.cells #[.int .i64 g.n,.slice eo g.e.length cap] 24)).alloc (.cells #[.slice none 0 0,.slice none 0 0] 27))=w1 at *;refine (oU _ g _ (HG.out.fresh gJ.out)).mono ?_;rintro e w2 ⟨rfl,bI⟩;have bU:=lh bI;clear x0 x1 r8 bs;obtain⟨x0,x1,r8,bs⟩:=HX.out _ bI;have z0:=(cell_of_row _ _ 0 _ _ _ r8).trans (show _=some (Qa none 0 0) from rfl);have z1:=(cell_of_row _ _ 1 _ _ _ r8).trans (show _=some (Qa none 0 0) from rfl);have f0:=bE r8 0;have f1:=bE r8 1;have R8:=lh r8;have ji:=lh (gJ.out.t bI);clear bI r8;by_cases jw:g.err=0
 ·have Vr:=lh (show Plain.il g ag=if Plain.dG ag g.e.length=true then 0 else 4 from by unfold Plain.il;rw[if_neg (by simp[jw])])
  have fB:=lh (Plain.Gr.aF jw);rw[jw];clear jw;go_wp2_with fail;refine (sC _ ag _ _ IGL (HE.out.fresh ji.out)).mono ?_;rintro e w3 ⟨rfl,dK⟩;have b8:=lh (bU.out.t dK);have HW3:=lh (ji.out.t dK);have r83:=dK.heap R8.out (by simp);have R83:=lh r83;clear x0 x1 bs z0 z1 f0 f1;have z0:=(cell_of_row _ _ 0 _ _ _ r83).trans (show _=some (Qa none 0 0) from rfl);have z1:=(cell_of_row _ _ 1 _ _ _ r83).trans (show _=some (Qa none 0 0) from rfl);have f0:=bE r83 0;have f1:=bE r83 1;clear dK r83;cases hr:Plain.dG ag g.e.length with
  | false =>
   rw[hr] at Vr;have sI:=lh (Vr.out.trans (if_neg (by simp)));clear hr;go_wp2;obtain⟨-,o0,o1,o2⟩:=kQ R83.out (.slice none 0 0) (.slice none 0 0);refine bodyPost_ret (v:=.tuple #[.agg #[.slice none 0 0,.slice none 0 0],.int .i64 4]) (by simp[results,Tryz.results21,go_sem,o0,o1]) rfl ?_;rw[sI.out];exact⟨_,_,rfl,λ_=>⟨rfl,rfl⟩,λh=>absurd h (by decide),HW3.out.trans o2 (λj hj=>Qk (by grind))⟩
  | true =>
   rw[hr] at Vr;have sI:=lh (Vr.out.trans (if_pos rfl));have AE:=lh (Plain.sV hr);have hl:ag.length<=1024:=by
    have h1:=ep hr;have h2:=fB.out.2.2.1;have h3:=fB.out.1;omega
   have nk:=lh (Plain.qp g);clear hr z0 z1 f0 f1;have GN:=lh (heap_alloc_new w3 (.cells #[.slice none 0 0,.slice none 0 0] 27));have eW:=lh ((ai.refl [] w3).alloc (.cells #[.slice none 0 0,.slice none 0 0] 27));have apB:=lh (show (w3.alloc (.cells #[.slice none 0 0,.slice none 0 0] 27)).heap.size=w3.heap.size+1 by simp);go_wp2_with fail;obtain⟨ob,Et⟩:∃ n,w3.heap.size=n:=⟨_,rfl⟩;have wK:=lh Et;rw[Et] at GN apB ⊢;clear Et;generalize (w3.alloc (.cells #[.slice none 0 0,.slice none 0 0] 27))=w4 at *;go_loopw [9,25] (λ_ iv wr=>∃ k:Nat,k<=ag.length/\iv=.int .i64 k/\eT wr ob ob (Plain.cY g (ag.take k)) (ag.take k)/\ai [] w3 wr) (λ_ iv _=>ag.length - (intOf iv).toNat);case atStart=>exact⟨0,Qq _,rfl,⟨_,_,GN.out,da _ _,da _ _,by simp[aC,Value.ownBlock],Qe _⟩,eW.out⟩
   case round =>
    obtain⟨k,hk,rfl,eY,hc⟩:=hrel;have HC:=lh hc;have jg:=lh eY;have HW:=lh (HW3.out.t hc);obtain⟨x0,x1,r8,-⟩:=HX.out wr (b8.out.t hc);have R8w:=lh r8;have axn:ob<=wr.heap.size:=by have:=hc.size;have:=wK.out;omega
    clear r8 eY hc;by_cases aW:k<ag.length
    ·have AN:=lh (Plain.rU (g:=g) aW)
     have Ek:=lh (Plain.KQ aW);have uk:=lh (show (Plain.cY g (ag.take k)).length<=2048 by rw[nk.out,QB];omega);have ahs:=lh (show (ag.take k).length<=1024 by grind);obtain⟨rb,sy,rfl,rc⟩:=aI.cellAt HE.out aW;have bX:=HW.out.c rc;have qT:=AE.out _ (Plain.aQ aW);obtain⟨ei,mN⟩:∃ ei:Nat,ag.getD k 0=(ei:Int):=⟨(ag.getD k 0).toNat,by omega⟩;rw[mN] at bX qT AN Ek;have iM:ei<g.e.length:=by omega
     obtain⟨eb,cR,rfl,fs,dD⟩:=oe.out ei iM;obtain⟨I7,sS⟩:=iL.out ei iM;have eJ:g.at (ei:Int)=g.ends ei:=by grind [Plain.Gr.at]
     rw[eJ] at AN;obtain⟨x,hx⟩:∃ x,(g.ends ei).1=x:=⟨_,rfl⟩;obtain⟨y,hy⟩:∃ y,(g.ends ei).2=y:=⟨_,rfl⟩;rw[hx] at fs I7 AN;rw[hy] at dD sS AN;have TS:=lh fs;have aY:=lh dD;have axL:=World.block_lt_of_cell? w _ fs;have eik:ei<1024:=by have:=fB.out.2.2.1;have:=fB.out.1;omega
     have IE:bF (ei:Int):=by grind [bF.mk]
     generalize Plain.cY g (ag.take k)=V at *;generalize ag.take k=E at *;obtain⟨u1,u2,ho,fD,cD,fy,-⟩:=jg.out;obtain⟨ua,uc,rfl⟩:=fD.shape;obtain⟨ub,ud,rfl⟩:=cD.shape;have o1:=(cell_of_row _ _ 1 _ _ _ ho).trans (show _=some (Qa ub E.length ud) from rfl);have n1:ob ∉ aC (.slice ub E.length ud):=λe=>by grind [bu]
     have N1:=lh n1;have Pz:=lh ho;have H1:=lh fD;have H2:=lh cD;have tD:=lh fy;have CA:=lh ((ai.refl [] wr).alloc (.cells #[.int .i64 (ei:Int)] 3));have qk:=lh (show ob<=(wr.alloc (.cells #[.int .i64 (ei:Int)] 3)).heap.size by have:=CA.out.size;omega);have B6:=lh (dI wr IE);have Pk:=lh (show E.length+[(ei:Int)].length<4294967296 by have:=ahs.out;simp;omega);clear ho fD cD fy n1 hx hy eJ mN qT rc fs dD ahs;go_wp2_with (at_builtin;(refine cH rfl _ _ rfl (B:=ob) (v:=.slice ub E.length ud) rfl rfl (H2.out.aL CA.out (by simp)) B6.out qk.out Pk.out ?_;intro v7 w7 r7 c7 f7;obtain⟨vo,vc,rfl⟩:=r7.shape;have Br:=lh (c7.heap (CA.out.heap Pz.out (by simp)) N1.out);have o7:=(cell_of_row _ _ 1 _ _ _ Br.out).trans (show _=some (Qa ub E.length ud) from rfl);have z7:w7.frozen? ⟨ob,1,none⟩=false:=bE Br.out 1;have R7:=lh r7;have C7:=lh c7;have F7:=lh f7;clear r7 c7 f7 o1));have oN:=eT.ae0 Pz.out H1.out H2.out tD.out (Qe _) CA.out C7.out R7.out F7.out;simp only[Qh,Qb,QF,Qw] at oN;rw[<-Ek.out] at oN;have nm:=lh (show ai [] w3 (w7.setCell ⟨ob,1,none⟩ (.slice vo (E.length+1) vc)) from HC.out.trans oN.2 (λj hj=>Qk (by
      have:=wK.out;rcases Qu.1 hj with rfl | hj
      ·omega
      have:=(H2.out.low j (by grind [jG])).1;omega)))
     have zF:=lh oN.1;clear oN o7 z7 Br R7 C7 F7 x0 x1 bX Pz H1 H2 tD N1 B6 Pk CA qk jg;generalize (w7.setCell ⟨ob,1,none⟩ (.slice vo (E.length+1) vc))=wB at *;have Zv:=lh (HW3.out.t nm.out);obtain⟨x0,x1,r8,-⟩:=HX.out wB (b8.out.t nm.out);have c0:=Zv.out.c TS.out;have c1:=Zv.out.c aY.out;obtain⟨u1,u2,ho,fD,cD,fy,-⟩:=zF.out;obtain⟨sa,sc,rfl⟩:=fD.shape;have o0:=(cell_of_row _ _ 0 _ _ _ ho).trans (show _=some (Qa sa V.length sc) from rfl);have Pz:=lh ho;have H1:=lh fD;have H2:=lh cD;have tD:=lh fy;have Em:ob ∉ aC (.slice sa V.length sc):=λe=>by grind [bu]
     have jY:∀ j∈aC (.slice sa V.length sc),ob<=j:=λj hj=>(fD.low j (by rw[<-fD.aC];exact hj)).1;have Dn:=lh jY;have hSB:ai (aC (.slice sa V.length sc)) wB wB.drew:=(ai.refl _ wB).drew;have A5:w.heap.size ∉ aC (.slice sa V.length sc):=λq=>by have:=jY _ q;have:=b8.out.size;have:=xJ.out;have:=wK.out;omega
     have Bs:eb ∉ aC (.slice sa V.length sc):=λq=>by have:=jY _ q;have:=b8.out.size;have:=xJ.out;have:=wK.out;omega
     have RU:=lh (show ob<=wB.heap.size by grind);clear ho fD cD fy r8 jY;refine al (ai (aC (.slice sa V.length sc)) wB) [0,1,2,3,4,5,6,7,8,9,10,11,12,13] (Way.line [0,1,2,3,4,5,6,7,8,9,10,11,12,13,14,15,16,17] .done) (by kernel_rfl) (by kernel_rfl) ?_;simp only[Way.line]
     repeat (refine aj (v:=?_) rfl (by rfl) (by rfl) (λ_ _ _ h=>h) hSB (λw' aB=>?_) ?_;rotate_left;(focus (have fE:=aB.cell o0 (by first | exact Em | exact A5 | exact Bs);have fV:=aB.cell x1 (by first | exact Em | exact A5 | exact Bs);have kD:=aB.cell c0 (by first | exact Em | exact A5 | exact Bs);have tq:=aB.cell c1 (by first | exact Em | exact A5 | exact Bs);clear aB;go_simp;try with_reducible rfl));simp only[QH,Z1,Z2,Z3,Z4,Z5,Z6])
     refine aq rfl (by rfl) (by rfl) (λK hK=>?_);go_simp;have B6:=lh ((xP wB I7 sS).fresh (ai.refl [] _).drew);refine hK.out _ _ (λ_=>hSB.alloc _) ?_;clear hK K;try simp only[QH,Z1,Z2,Z3,Z4,Z5,Z6]
     refine aq rfl (by rfl) (by rfl) (λK hK=>?_);simp only[List.getElem_toArray,List.getElem_cons_zero,List.getElem_cons_succ];have ca:ai [] wB (wB.alloc (.cells #[.int .i64 x,.int .i64 y] 3)).drew:=((ai.refl [] wB).alloc _).drew;refine iZ _ _ rfl (B:=ob) (v:=.slice sa V.length sc) rfl rfl (H1.out.aL ca (by simp)) B6.out (Qx RU.out ca.size) (by have:=uk.out;simp;omega) λv' w9 r7 c7 f7=>?_;have oN:=eT.aep Pz.out H1.out H2.out tD.out (Qe _) ca c7 r7 f7;obtain⟨vo2,vc2,rfl⟩:=r7.shape;have Fc:=lh oN;have o9:=c7.cell (ca.c o0) Em;have g9:=c7.frozen (ca.c o0) (bE (ca.heap Pz.out (by simp)) 0) Em;refine hK.out _ _ (λ_=>(ca.mono (by simp)).trans c7 (λj hj=>Or.inl hj)) ?_;clear hK K r7 c7 f7 ca oN;try simp only[QH,List.setIfInBounds_toArray,List.set_cons_zero,List.set_cons_succ]
     refine aq rfl (by rfl) (by rfl) (λK hK=>?_);go_simp;refine hK.out _ _ (λh=>absurd h (Qz.1 (by kernel_rfl))) ?_;clear hK K;try simp only[QH,Z1,Z2,Z3,Z4,Z5,Z6]
     refine aq rfl (by rfl) (by rfl) (λK hK=>?_);go_simp;refine hK.out _ _ (λh=>absurd h (Qz.1 (by kernel_rfl))) ?_;clear hK K;try simp only[QH,Z1,Z2,Z3,Z4,Z5,Z6]
     refine ar ?_;have Ll:=lh (show ai [] w3 (w9.setCell ⟨ob,0,none⟩ (.slice vo2 (V++[x,y]).length vc2)) from nm.out.trans Fc.out.2 (λj hj=>Qk (by
      have:=wK.out;rcases Qu.1 hj with rfl | hj
      ·omega
      have:=Dn.out j hj;omega)))
     have Nn:=lh Fc.out.1;clear Fc o9 g9 o0 x0 x1 c0 c1 Em A5 Bs hSB;simp only[Qh,Qb,QF,Qw] at Ll Nn ⊢;generalize (w9.setCell ⟨ob,0,none⟩ (.slice vo2 (V.length+(0+1+1)) vc2))=Uz at *;go_wp2;go_roundw;case rel=>exact⟨k+1,by omega,by go_num,by rw[AN.out];exact Nn.out,Ll.out⟩
     case measure=>simp[intOf];omega
    have e:k=ag.length:=by omega
    subst e;clear aW hk;rw[QC] at jg;have qY:=lh (show (Plain.cY g ag).length<1000000000 by rw[nk.out];omega);obtain⟨M,hM⟩:∃ M,Plain.cY g ag=M:=⟨_,rfl⟩;rw[hM] at jg qY;have HM:=lh hM;obtain⟨u1,u2,ho,fD,cD,fy,-⟩:=jg.out;obtain⟨sa,sc,rfl⟩:=fD.shape;obtain⟨o2,c2,rfl⟩:=cD.shape;have Nn:=lh ho;have T6:=lh fD;have Bp:=lh cD;have tD:=lh fy;have o0:=(cell_of_row _ _ 0 _ _ _ ho).trans (show _=some (Qa sa M.length sc) from rfl);have o1:=(cell_of_row _ _ 1 _ _ _ ho).trans (show _=some (Qa o2 ag.length c2) from rfl);have EB:=lh (show ∀ (wx:World) (v:Value) (q:List Int),aw wx ob v q->(∃ cs,wx.heap[ob]?=some (.cells cs 27 (0,0)))->ob ∉ v.ownBlock.toList from λ_ _ _ h ⟨cs0,h0⟩ q=>by
     obtain⟨cs,r,hh⟩:=bu h _ (by rw[h.aC];exact q)
     grind)
    clear hM ho fD cD fy jg x0 x1;go_wp2_with fail;refine (qx _ M _ _ qY.out T6.out).mono ?_;rintro e w5 ⟨rfl,nf,dV⟩;have hn5:=EB.out _ _ _ T6.out ⟨_,Nn.out⟩;have o05:=dV.cell o0 hn5;have CP:=lh (dV.heap Nn.out hn5);have afv:=lh (Bp.out.aL dV (λb hb e=>tD.out b (by rw[T6.out.aC];exact e) (by rw[Bp.out.aC];exact hb)));have AW:(M.mergeSort λx y=>decide (x<=y)).length=M.length:=(List.mergeSort_perm _ _).length_eq;have Zw:=lh (show Go.Lib.compact (M.mergeSort λx y=>decide (x<=y))=Plain.tidy M from rfl);have fG:=lh (show ai [] w3 w5 from HC.out.trans dV (λb hb=>Qk (by have:=(T6.out.low b hb).1;have:=wK.out;omega)));obtain⟨S,hS⟩:∃ S,(M.mergeSort λx y=>decide (x<=y))=S:=⟨_,rfl⟩;rw[hS] at AW nf Zw;have rD:=lh nf;have U1:=lh AW;clear nf dV hn5 AW hS o0 o1;go_wp2_with fail;refine (n9 _ S _ _ (by rw[U1.out];exact qY.out) rD.out).mono ?_;rintro e w6 ⟨v6,rfl,hr6,hc6⟩;rw[Zw.out] at hr6;have Ba:=EB.out _ _ _ rD.out ⟨_,CP.out⟩;have M8:=hc6.heap CP.out Ba;have p06:=hc6.cell o05 Ba;have g06:=bE M8 0;have fC:=lh (show ai [] w3 w6 from fG.out.trans hc6 (λb hb=>Qk (by have:=(rD.out.low b hb).1;have:=wK.out;omega)));have aaH:=lh (show aw w6 ob (.slice o2 ag.length c2) ag from afv.out.aL hc6 (λb hb e=>tD.out b (by rw[T6.out.aC];exact e) (by rw[Bp.out.aC];exact hb)));have UR:=lh hr6;obtain⟨o6,c6,rfl⟩:=hr6.shape;have uA:=EB.out _ _ _ hr6 ⟨_,M8⟩;have aiA:=EB.out _ _ _ aaH.out ⟨_,M8⟩;have br:ai [ob] w6 (w6.setCell ⟨ob,0,none⟩ (.slice o6 (Plain.tidy M).length c6)):=by grind [ai.refl,ai.setCell]
    have Vd:=heap_setCell_same M8 0 (.slice o6 (Plain.tidy M).length c6);have Ew:=lh (hr6.aL br (λb hb q=>uA (by grind)));have Z8:=lh (aaH.out.aL br (λb hb q=>aiA (by grind)));have oT:=lh (show ai [] w3 (w6.setCell ⟨ob,0,none⟩ (.slice o6 (Plain.tidy M).length c6)) from fC.out.trans br (λj hj=>Qk (by have:=wK.out;rw[Qv] at hj;omega)));have p16:=(cell_of_row _ _ 1 _ _ _ M8).trans (show _=some (Qa o2 ag.length c2) from rfl);obtain⟨-,-,U7,-⟩:=HX.out w6 (b8.out.t fC.out);have y06:=(cell_of_row _ _ 0 _ _ _ U7).trans (show _=some (Qa none 0 0) from rfl);have y16:=(cell_of_row _ _ 1 _ _ _ U7).trans (show _=some (Qa none 0 0) from rfl);have g16:=bE U7 0;have g26:=bE U7 1;have ali:¬ ob=w.heap.size+1:=λq=>by have:=b8.out.size;have:=xJ.out;have:=wK.out;omega
    have KN:¬ w.heap.size+1=ob:=by grind
    obtain⟨-,-,r87,-⟩:=HX.out (w6.setCell ⟨ob,0,none⟩ (.slice o6 (Plain.tidy M).length c6)) (b8.out.t oT.out);obtain⟨-,q0,q1,Bg⟩:=kQ r87 (.slice o6 (Plain.tidy M).length c6) (.slice o2 ag.length c2);have ZO:=lh q0;have Pc:=lh q1;have rz:∀ {v:Value} {q:List Int} {B:Nat},aw (w6.setCell ⟨ob,0,none⟩ (.slice o6 (Plain.tidy M).length c6)) B v q->∀ b∈v.ownBlock.toList,b ∉ [w.heap.size+1]:=λh b hb e=>by
     obtain⟨cs,r,hh⟩:=bu h b (by rw[h.aC];exact hb)
     grind
    have UF:w.heap.size<=ob:=by have:=b8.out.size;have:=xJ.out;have:=wK.out;omega
    have Il:=lh ((Ew.out.aL Bg (rz Ew.out)).base UF);have tJ:=lh ((Z8.out.aL Bg (rz Z8.out)).base UF);have gU:=lh (show ai [] w _ from (HW3.out.t oT.out).trans Bg (λj hj=>Qk (by grind)));have HMT:=lh (show (Plain.dO g ag).v=Plain.tidy M by show Plain.tidy (Plain.cY g ag)=_;rw[HM.out]);clear hr6 hc6 M8 uA aiA br Vd Ba o05 q0 q1 Bg rz UF r87 U7 rD T6 UR Ew aaH Z8 Bp afv;go_wp2;refine bodyPost_ret (v:=.tuple #[.agg #[.slice o6 (Plain.tidy M).length c6,.slice o2 ag.length c2],.int .i64 0]) (by have h0:=ZO.out;have h1:=Pc.out;simp[results,Tryz.results21,go_sem,h0,h1]) rfl ?_;rw[sI.out,HMT.out];exact⟨_,_,rfl,λh=>absurd rfl h,λ_=>⟨Il.out,tJ.out⟩,gU.out⟩
 have jq:=lh jw;have Vr:=lh (show Plain.il g ag=g.err from if_pos jw);obtain⟨er,qT⟩:∃ er,g.err=er:=⟨_,rfl⟩;rw[qT] at jw Vr jq ⊢;have hb:(er != 0)=true:=by simpa using jw
 have gY:¬ er=0:=jw;clear qT jw;go_wp2;obtain⟨-,o0,o1,o2⟩:=kQ R8.out (.slice none 0 0) (.slice none 0 0);refine bodyPost_ret (v:=.tuple #[.agg #[.slice none 0 0,.slice none 0 0],.int .i64 er]) (by simp[results,Tryz.results21,go_sem,o0,o1]) rfl ?_;rw[Vr.out];exact⟨_,_,rfl,λ_=>⟨rfl,rfl⟩,λh=>absurd h jq.out,ji.out.trans o2 (λj hj=>Qk (by grind))⟩
end Go.Proofs.YtoiflofhcmjpoaaGreat
namespace Go.Proofs.YtoiflofhcmjpoaaGreat.Plain
variable {l m:List Int} {j i:Nat} {g:Gr} {b p:Pt}
def eZ:Nat->List Int->List (List Int)
 | 0,l=>[l]
 | n+1,l=>(Qo (n+1)).flatMap λj=>(eZ n (l.getD (j+1) 0 :: (l.drop 1).eraseIdx j)).map (l.getD 0 0 :: ·)
def iV (l:List Int):List (List Int):=eZ (l.length - 1) l
def fact:Nat->Nat
 | 0=>1
 | n+1=>(n+1)*fact n
theorem pF:∀ n,0<fact n
 | 0=>by decide
 | n+1=>Nat.mul_pos (by omega) (pF n)
theorem qf {α β:Type} {f:α->List β} {c:Nat}:∀ {l:List α},(∀ x∈l,(f x).length=c)->(l.flatMap f).length=l.length*c
 | [],_=>by simp
 | x :: l,h=>by
  rw[List.flatMap_cons,Qh,h x (by simp),qf λy hy=>h y (List.mem_cons_of_mem _ hy),Qb,QJ];omega
theorem l5:∀ (n:Nat) (l:List Int),(eZ n l).length=fact n
 | 0,l=>rfl
 | n+1,l=>by
  show ((Qo (n+1)).flatMap _).length=_;rw[qf (c:=fact n) λj _=>by rw[Qc,l5 n]];rw[List.length_range];rfl
theorem zm (hj:j<l.length):(l.getD j 0 :: l.eraseIdx j).Perm l:=by
 rw[List.eraseIdx_eq_take_drop_succ];have h1:l.getD j 0=l[j]:=by simp[Qd,hj]
 have h2:l=l.take j++l[j] :: l.drop (j+1):=by rw[<-List.drop_eq_getElem_cons hj,List.take_append_drop]
 rw[h1];exact (List.perm_middle.symm).trans (QA.of_eq h2.symm)
theorem l8:∀ {n:Nat} {l m:List Int},l.length=n+1->(m∈eZ n l↔m.Perm l/\m.getD 0 0=l.getD 0 0)
 | 0,l,m,hl=>by
  rw[eZ,Qv];constructor
  ·rintro rfl;exact⟨List.Perm.refl _,rfl⟩
  rintro ⟨h1,-⟩;obtain⟨a,rfl⟩:=List.length_eq_one_iff.1 hl;exact List.perm_singleton.1 h1
 | n+1,l,m,hl=>by
  rw[eZ,List.mem_flatMap];obtain⟨a,r,rfl⟩:∃ a r,l=a :: r:=by
   cases l with
   | nil=>simp at hl
   | cons a r=>exact⟨a,r,rfl⟩
  have hr:r.length=n+1:=by simpa using hl
  have hg:∀ j,(a :: r).getD (j+1) 0=r.getD j 0:=λj=>rfl;simp only[hg,List.drop_succ_cons,List.drop_zero,List.getD_cons_zero];constructor
  ·rintro ⟨j,hj,h⟩
   have hj:=Qr.1 hj;obtain⟨m',Za,rfl⟩:=Qy.1 h;have h1:=(l8 (by rw[Qb,Qs,if_pos (by omega)];omega)).1 Za;exact⟨((h1.1.trans (zm (by omega))).cons a),rfl⟩
  rintro ⟨h1,h2⟩;obtain⟨b,m',rfl⟩:∃ b m',m=b :: m':=by
   cases m with
   | nil=>have:=h1.length_eq;simp at this
   | cons b m'=>exact⟨b,m',rfl⟩
  have h2:b=a:=h2;subst h2;have h3:m'.Perm r:=QA.cons_inv h1;obtain⟨x,m2,rfl⟩:∃ x m2,m'=x :: m2:=by
   cases m' with
   | nil=>have:=h3.length_eq;simp at this;omega
   | cons b m'=>exact⟨b,m',rfl⟩
  have hx:x∈r:=h3.mem_iff.1 (by simp);have hj:r.idxOf x<r.length:=Ql.2 hx;have hxj:r.getD (r.idxOf x) 0=x:=by simp[Qd,hj]
  have h4:(x :: m2).Perm (r.getD (r.idxOf x) 0 :: r.eraseIdx (r.idxOf x)):=h3.trans (zm hj).symm;refine⟨r.idxOf x,Qr.2 (by omega),Qy.2 ⟨x :: m2,(l8 (by rw[Qb,Qs,if_pos hj];omega)).2 ⟨h4,by rw[hxj];rfl⟩,rfl⟩⟩
theorem sr (l:List Int):(iV l).length=fact (l.length - 1):=l5 _ _
theorem J7 (hl:l≠[]):m∈iV l↔m.Perm l/\m.getD 0 0=l.getD 0 0:=l8 (by have:=List.length_pos_iff.2 hl;omega)
def rF:List (List (List Int))->Nat->List (List Int)
 | [],_=>[]
 | L :: R,n=>L.getD (n % L.length) [] :: rF R (n / L.length)
def vN:List (List (List Int))->Nat
 | []=>1
 | L :: R=>L.length*vN R
theorem yP:∀ {R:List (List (List Int))} {m:List (List Int)},m.length=R.length->(∀ i,i<R.length->m.getD i []∈R.getD i [])->∃ n,n<vN R/\rF R n=m
 | [],m,hl,_=>by
  have:m=[]:=List.length_eq_zero_iff.1 (by simpa using hl);exact⟨0,by decide,this.symm⟩
 | L :: R,m,hl,h=>by
  obtain⟨x,m',rfl⟩:∃ x m',m=x :: m':=by
   cases m with
   | nil=>simp at hl
   | cons x m'=>exact⟨x,m',rfl⟩
  obtain⟨n,h1,h2⟩:=yP (R:=R) (m:=m') (by simpa using hl) λi hi=>h (i+1) (by simpa using hi);have hx:x∈L:=h 0 (by simp);obtain⟨d,hd,hdx⟩:=Qt hx;refine⟨n*L.length+d,?_,?_⟩
  ·show _<L.length*vN R
   have:n*L.length+L.length<=vN R*L.length:=by
    have:=Nat.mul_le_mul_right L.length (show n+1<=vN R by omega);rw[QJ] at this;omega
   rw[Nat.mul_comm L.length];omega
  show L.getD ((n*L.length+d) % L.length) [] :: rF R ((n*L.length+d) / L.length)=_;have e1:(n*L.length+d) % L.length=d:=by rw[QI,Nat.add_mul_mod_self_right,Nat.mod_eq_of_lt hd]
  have e2:(n*L.length+d) / L.length=n:=by rw[QI,Nat.add_mul_div_right _ _ (by omega),Nat.div_eq_of_lt hd,Qw]
  rw[e1,e2,h2];simp[Qd,hd,hdx]
def uQ (N:Nat) (V:List Int) (rows:List (List Int)):List (List Int):=(Qo N).map λv:Nat=>if (v:Int)∈V then rows.getD (V.idxOf (v:Int)) [] else []
def vM (g:Gr) (b:Pt) (n:Nat):List (List Int):=uQ g.n.toNat b.v (rF (b.v.map λv=>iV (aE g b v)).reverse n).reverse
def ou (g:Gr) (b:Pt):Nat:=vN (b.v.map λv=>iV (aE g b v)).reverse
noncomputable def kh (g:Gr) (b:Pt):List (List (List Int)):=((Qo (ou g b)).map (vM g b)).filter λt=>decide (dA g b t=0)
theorem uK (bn:m≠[]) (hs:m.Pairwise (·<·)) (hp:l.Perm m):(first l).getD 0 0=m.getD 0 0:=by
 have hl:l≠[]:=λq=>bn (by rw[q] at hp;exact QA.eq_nil hp.symm);obtain⟨x,r,h1,h2⟩:=An hl;rw[h1];cases m with
 | nil=>exact absurd rfl bn
 | cons y k =>
  show x=y;have hx:x∈y :: k:=hp.mem_iff.1 ((di l).mem_iff.1 (by rw[h1];simp));have hy:=h2 y (hp.mem_iff.2 (by simp));rcases Qu.1 hx with r | r
  ·exact r
  have:=List.rel_of_pairwise_cons hs r;omega
theorem Dz (hr:b.e.Pairwise (·<·)) (v:Int):(aE g b v).Pairwise (·<·):=(jH hr).filter _
theorem pa {α:Type} {l:List α} {d:α} (hi:i<l.length):l.reverse.getD i d=l.getD (l.length - 1 - i) d:=by
 have h2:l.length - 1 - i<l.length:=by omega
 simp[Qd,hi,h2]
theorem Ta {t:List (List Int)} (hb:b.err g=0) (kq:aK g b t) (hV:∀ v∈b.v,∃ d∈b.ah,g.tail d=v):∃ n,n<ou g b/\vM g b n=t.map first:=by
 have fR:=Pt.ax hb;have hr:=bK (Pt.aF hb).2.2.1;have hn0:=(Gr.aF (Pt.aF hb).1).1;have hp:∀ v∈b.v,(ay t v).Perm (aE g b v)/\aE g b v≠[]:=λv hv=>by
  obtain⟨v0,v1⟩:=fR.vr v hv;refine⟨(List.perm_ext_iff_of_nodup (kq.nodup v) (dZ fR.en v)).2 λd=>by rw[kq.mem v v0 v1,aX],λq=>?_⟩;obtain⟨d,hd,Ue⟩:=hV v hv;have:=aX.2 ⟨hd,Ue⟩;rw[q] at this;cases this
 obtain⟨n,h1,h2⟩:=yP (R:=(b.v.map λv=>iV (aE g b v)).reverse) (m:=(b.v.map λv=>first (ay t v)).reverse) (by simp) λi hi=>by
  rw[List.length_reverse,Qc] at hi;rw[pa (by simpa using hi),pa (by simpa using hi)];simp only[Qc];have aW:b.v.length - 1 - i<b.v.length:=by omega
  simp only[Qd,Qj,Qm aW,QG,QD];obtain⟨k1,k2⟩:=hp _ (QE aW);exact (J7 k2).2 ⟨(di _).trans k1,uK k2 (Dz hr _) k1⟩
 refine⟨n,h1,?_⟩;unfold vM;rw[h2,List.reverse_reverse];have hl:=kq.len;refine Qn (by simp[uQ];omega) λi k1 k2=>?_;rw[Qc] at k2;simp only[uQ,List.getElem_map,List.getElem_range];have e1:ay t i=t[i]:=by unfold ay;simp[Qd,k2]
 rw[<-e1];by_cases q:(i:Int)∈b.v
 ·rw[if_pos q]
  have aW:b.v.idxOf (i:Int)<b.v.length:=Ql.2 q;simp only[Qd,Qj,Qm aW,QG,QD,List.getElem_idxOf aW]
 rw[if_neg q];have:ay t i=[]:=by
  cases hq:ay t i with
  | nil=>rfl
  | cons d l =>
   have:=(kq.mem i (by omega) (by omega) d).1 (by rw[hq];simp);exact absurd (this.2 ▸ (fR.aP this.1).1) q
 rw[this,MZ]
theorem Bn.flat {aa:List (List Int)} (h:Bn g p aa) (bn:p.v≠[]):dA g p aa=0:=by
 have fR:=Pt.ax h.pe;obtain⟨F,f1,f2,f3⟩:=h.yU;have hW:=sR h.pe h.iX;have Ka:cJ g p aa=0:=by unfold cJ;rw[if_neg (by simp[h.pe]),if_pos h.iX]
 refine sB Ka (XQ h.pe h.iX hW ?_);have E4:(bZ g p aa).filter (λf=>f.2.isEmpty)=[]:=by
  have h1:=hW.ak.lone;have h2:(p.v.filter λv=>(ay aa v).isEmpty)=[]:=Qf.2 λv hv q=>by
   obtain⟨d,hd,Ue⟩:=h.full v hv;have:=(h.iX.mem v (fR.vr v hv).1 (fR.vr v hv).2 d).2 ⟨hd,Ue⟩;rw[List.isEmpty_iff.1 q] at this;simp at this
  rw[h2] at h1;exact List.map_eq_nil_iff.1 (QA.eq_nil h1)
 have alQ:(bZ g p aa).filter (λf=>!f.2.isEmpty)=bZ g p aa:=List.filter_eq_self.2 λf hf=>by
  have:=Qf.1 E4 f hf;simpa using this
 have hr:=hW.ak.rings;have ha:=hW.ak.all;rw[alQ] at hr ha;have hc:=bw.count hr f1 (ha.trans f2.symm);rw[Qc] at hc;rw[CI fR bn h.ku,hc];omega
theorem CN (hb:b.err g=0) (hS:cg g b):kh g b=[]↔¬ sL g b:=by
 unfold kh;rw[Qf];constructor
 ·rintro h ⟨t,ht⟩
  obtain⟨n,h1,h2⟩:=Ta hb ht.iX hS.2;have:=h _ (Qy.2 ⟨n,Qr.2 h1,rfl⟩);rw[h2,AV,(ht.WZ (yp hb hS)).flat (yp hb hS)] at this;simp at this
 intro h t _ q;exact h ⟨t,ia.of_flat (of_decide_eq_true q) hS⟩
end Go.Proofs.YtoiflofhcmjpoaaGreat.Plain
namespace Go.Proofs.YtoiflofhcmjpoaaGreat
open Go.RowKit Go.Maps
variable {o1 o2:Option Addr} {n2 lb:Nat}
namespace Plain
noncomputable def bV (g:Gr) (left:Pt) (e:Int):Pt:=if jO g (dR left e)=true then left else dR left e
noncomputable def gd (g:Gr) (p:Pt) (k:Nat):Pt:=(p.e.take k).foldl (bV g) p
noncomputable def Ca (g:Gr) (p:Pt):List Int:=(p.e.foldl (bV g) p).e
theorem vZ {g:Gr} {p:Pt} {k:Nat} (hk:k<p.e.length):gd g p (k+1)=bV g (gd g p k) (p.e.getD k 0):=by
 unfold gd;rw[Qg hk,List.foldl_append]
 grind
theorem J1 (g:Gr) (p:Pt):(gd g p p.e.length).e=Ca g p:=by grind [gd,Ca]
theorem Ec (g:Gr) (p:Pt) (e:Int):(bV g p e).v=p.v/\(∀ x∈(bV g p e).e,x∈p.e)/\(bV g p e).e.length<=p.e.length:=by
 unfold bV;split
 ·exact⟨rfl,λx hx=>hx,Qe _⟩
 exact⟨rfl,λx hx=>(List.mem_filter.1 hx).1,Qp _ _⟩
theorem yh (g:Gr) (p:Pt):∀ k,k<=p.e.length->(gd g p k).v=p.v/\(∀ x∈(gd g p k).e,x∈p.e)/\(gd g p k).e.length<=p.e.length
 | 0,_=>⟨rfl,λx hx=>hx,Qe _⟩
 | k+1,h=>by
  obtain⟨h1,h2,h3⟩:=yh g p k (by omega);rw[vZ (by omega)];obtain⟨k1,k2,k3⟩:=Ec g (gd g p k) (p.e.getD k 0);exact⟨k1.trans h1,λx hx=>h2 x (k2 x hx),Qx k3 h3⟩
end Plain
theorem aI.off {w w':World} {v:Value} {l:List Int} {lb:Nat} {cs:Array Value} {t:TypeId} {r:Nat × Nat} (h:aI w v l) (hh:w.heap[lb]?=some (.cells cs t r)) (ja:∀ (i:Nat) (z:Int),cs[i]?≠some (.int .i64 z)) (hc:ai [lb] w w'):aI w' v l:=by
 obtain⟨ao,cap,rfl,h1,h2,h3⟩:=h;refine⟨ao,cap,rfl,h1,h2,λbn=>?_⟩;obtain⟨b,off,rfl,hx⟩:=h3 bn;refine⟨b,off,rfl,λi hi=>hc.cell (hx i hi) ?_⟩;intro q;have q:b=lb:=by simpa using q
 have h4:=hx i hi;rw[q,cell_of_row _ _ _ _ _ _ hh] at h4;exact ja _ _ h4
theorem zB {n1 c1 c2:Nat}:∀ (i:Nat) (z:Int),(#[Qa o1 n1 c1,Qa o2 n2 c2]:Array Value)[i]?≠some (.int .i64 z)
 | 0,z=>by simp
 | 1,z=>by simp
 | i+2,z=>by simp
theorem dt.off {w w':World} {v:Value} {p:Plain.Pt} {n1 c1 c2:Nat} {t:TypeId} {r:Nat × Nat} (h:dt w v p) (hh:w.heap[lb]?=some (.cells #[.slice o1 n1 c1,.slice o2 n2 c2] t r)) (hc:ai [lb] w w'):dt w' v p:=by
 obtain⟨v1,v2,e,h1,h2⟩:=h;exact⟨v1,v2,e,h1.off hh zB hc,h2.off hh zB hc⟩
theorem NG (e:Int) (lb bx:Nat) (eo:Option Addr) (cap:Nat) (o1 o2:Option Addr) (c1 c2:Nat) (g:Plain.Gr) (q:Plain.Pt) (w:World) (DH:q.v.length<=100000) (Ut:q.e.length<=100000) (hg:cA w (.agg #[.int .i64 g.n,.slice eo g.e.length cap]) g)
  (g0:w.cell? ⟨bx,0,none⟩=some (.int .i64 g.n)) (g1:w.cell? ⟨bx,1,none⟩=some (.slice eo g.e.length cap)) (hh:w.heap[lb]?=some (.cells #[.slice o1 q.v.length c1,.slice o2 q.e.length c2] 27 (0,0))) (hq:dt w (.agg #[.slice o1 q.v.length c1,.slice o2 q.e.length c2]) q) :
  Calls Tryz.prog 52 #[.int .i64 e,.pointer (some ⟨lb,0,none⟩),.pointer (some ⟨bx,0,none⟩)] w λr w'=>r=.returned (.tuple #[])/\∃ p1 p2 k1 k2,w'.heap[lb]?=some (.cells #[.slice p1 (Plain.bV g q e).v.length k1,.slice p2 (Plain.bV g q e).e.length k2] 27 (0,0))/\dt w' (.agg #[.slice p1 (Plain.bV g q e).v.length k1,.slice p2 (Plain.bV g q e).e.length k2]) (Plain.bV g q e)/\ai [lb] w w':=by
 have HG:=lh hg;have HH:=lh hh;have HQ:=lh hq;have q0:=(cell_of_row _ _ 0 _ _ _ hh).trans (show _=some (Qa o1 q.v.length c1) from rfl);have q1:=(cell_of_row _ _ 1 _ _ _ hh).trans (show _=some (Qa o2 q.e.length c2) from rfl);have G0:=lh g0;have G1:=lh g1;have Q0:=lh q0;have Q1:=lh q1;clear hg hh hq;go_enter Tryz.func52,Tryz.ntmps52;go_wp2_with fail;refine (Fq _ q e w (by omega) (by omega) HQ.out).mono ?_;rintro r wa ⟨v1,v2,rfl,DE,bI⟩;have FN:=lh DE;have bU:=lh bI;obtain⟨u1,u2,he,⟨a1,k1,e1,-,-,-⟩,⟨a2,k2,e2,-,-,-⟩⟩:=DE;simp only[Value.agg.injEq] at he;obtain⟨rfl,rfl⟩:v1=u1/\v2=u2:=by simpa using he
 subst e1 e2;have yJ:(Plain.dR q e).v.length<=100000:=DH;have Cj:(Plain.dR q e).e.length<=100000:=Qx (Qp _ _) Ut;have AD:=lh (show Plain.bV g q e=if Plain.jO g (Plain.dR q e)=true then q else Plain.dR q e from rfl);generalize Plain.dR q e=D at *;clear bI he q0 q1 g0 g1;have gJ:=lh (show ai [] wa (wa.alloc (.cells #[.slice a1 D.v.length k1,.slice a2 D.e.length k2] 27)) from (show ai [] wa (wa.alloc (.cells #[.slice a1 D.v.length k1,.slice a2 D.e.length k2] 27)) from ((ai.refl [] wa).alloc _)));have cf:=heap_alloc_new wa (.cells #[.slice a1 D.v.length k1,.slice a2 D.e.length k2] 27);have HX:=lh (λ(w2:World) (dN:ai [] (wa.alloc (.cells #[.slice a1 D.v.length k1,.slice a2 D.e.length k2] 27)) w2)=>(⟨dN.c ((cell_of_row _ _ 0 _ _ _ cf).trans rfl),dN.c ((cell_of_row _ _ 1 _ _ _ cf).trans rfl),by have hz:=dN.size;simpa using hz⟩:w2.cell? ⟨wa.heap.size,0,none⟩=some (.slice a1 D.v.length k1)/\w2.cell? ⟨wa.heap.size,1,none⟩=some (.slice a2 D.e.length k2)/\wa.heap.size+1<=w2.heap.size));clear cf;have xJ:=lh (show (wa.alloc (.cells #[.slice a1 D.v.length k1,.slice a2 D.e.length k2] 27)).heap.size=wa.heap.size+1 by simp);obtain⟨d0,d1,bs⟩:=HX.out _ (ai.refl _ _);have b8:=lh (bU.out.tr gJ.out);have g0:=b8.out.bO G0.out;have g1:=b8.out.bO G1.out;go_wp2_with fail;generalize (wa.alloc (.cells #[.slice a1 D.v.length k1,.slice a2 D.e.length k2] 27))=w3 at *;refine (lA _ _ g D _ yJ Cj (HG.out.fresh b8.out) (FN.out.fresh gJ.out)).mono ?_;rintro r w4 ⟨rfl,gX⟩;have eW:=lh (b8.out.tr gX);have HX4:=lh (gJ.out.tr gX);have hh4:=eW.out.hp HH.out;have HH4:=lh hh4;clear g0 g1 d0 d1 bs;obtain⟨d0,d1,bs⟩:=HX.out _ gX;have f0:=bE hh4 0;have f1:=bE hh4 1;have q0:=(cell_of_row _ _ 0 _ _ _ hh4).trans (show _=some (Qa o1 q.v.length c1) from rfl);have q1:=(cell_of_row _ _ 1 _ _ _ hh4).trans (show _=some (Qa o2 q.e.length c2) from rfl);clear gX hh4;cases hb:Plain.jO g D with
 | true =>
  rw[hb] at AD;have sI:=lh (AD.out.trans (if_pos rfl));clear hb AD;go_wp2;refine bodyPost_end (v:=.tuple #[]) (by simp[results,Tryz.results52,go_sem]) rfl ?_;rw[sI.out];exact⟨rfl,o1,o2,c1,c2,HH4.out,HQ.out.fresh eW.out,eW.out.mono (by simp)⟩
 | false =>
  rw[hb] at AD;have sI:=lh (AD.out.trans (if_neg (by simp)));clear hb AD;go_wp2;obtain⟨z1,z2,z3,z4⟩:=kQ HH4.out (.slice a1 D.v.length k1) (.slice a2 D.e.length k2);refine bodyPost_end (v:=.tuple #[]) (by simp[results,Tryz.results52,go_sem]) rfl ?_;rw[sI.out];exact⟨rfl,a1,a2,k1,k2,z1,(FN.out.fresh HX4.out).off HH4.out z4,(eW.out.mono (by simp)).trans z4 (λj hj=>Or.inl hj)⟩
theorem Ul (vg vp:Value) (g:Plain.Gr) (p:Plain.Pt) (w:World) (mE:p.v.length<=100000) (iM:p.e.length<=100000) (hg:cA w vg g) (hp:dt w vp p) :
  Calls Tryz.prog 16 #[vg,vp] w λe w'=>(Plain.gN g p\/p.err g≠0->e=.returned (.tuple #[.slice none 0 0,.bool false]))/\(¬ Plain.gN g p->p.err g=0->∃ v,e=.returned (.tuple #[v,.bool true])/\aw w' w.heap.size v (Plain.Ca g p))/\ai [] w w':=by
 obtain⟨eo,cap,ao,ac,bo,bc,rfl,rfl,HG,HP,hm,uJ,oJ,pU,nG,xL,uD,aY,bm⟩:=eF hg hp;clear hg hp;obtain⟨x0,x1,y0,y1,bs⟩:=bm.out _ (ai.refl _ _);go_enter Tryz.func16,Tryz.ntmps16;go_wp2_with fail;obtain⟨w1,gu⟩:∃ w1,((w.alloc (.cells #[.int .i64 g.n,.slice eo g.e.length cap] 24)).alloc (.cells #[.slice ao p.v.length ac,.slice bo p.e.length bc] 27))=w1:=⟨_,rfl⟩;rw[gu] at aY bm ⊢;clear gu x0 x1 y0 y1 bs;refine (jP _ _ g p _ (by omega) (HG.out.fresh aY.out) (HP.out.fresh aY.out)).mono ?_;rintro e w2 ⟨rfl,bI⟩;have bU:=lh (aY.out.tr bI);have aaE:=lh bI;obtain⟨x0,x1,y0,y1,bs⟩:=bm.out _ bI;clear bI;by_cases h0:p.err g=0
 ·rw[h0]
  have H0:=lh h0;clear h0;go_wp2_with fail;refine (lA _ _ g p _ mE iM (HG.out.fresh bU.out) (HP.out.fresh bU.out)).mono ?_;rintro e w3 ⟨rfl,dK⟩;have b8:=lh (bU.out.tr dK);have S4:=lh (aaE.out.tr dK);clear x0 x1 y0 y1 bs;obtain⟨x0,x1,y0,y1,bs⟩:=bm.out _ S4.out;clear dK;cases hb:Plain.jO g p with
  | true =>
   have HY:=lh (Plain.gy.1 hb);clear hb;go_wp2;refine bodyPost_ret (v:=.tuple #[.slice none 0 0,.bool false]) (by simp[results,Tryz.results16,go_sem]) rfl ?_;exact⟨λ_=>rfl,λh=>absurd HY.out h,b8.out⟩
  | false =>
   have HN:=lh (show ¬ Plain.gN g p from λq=>by grind [Plain.gy]);clear hb;have HLC:=lh (show ai [] w3 (w3.alloc (.cells #[.slice ao p.v.length ac,.slice bo p.e.length bc] 27)) from (show ai [] w3 (w3.alloc (.cells #[.slice ao p.v.length ac,.slice bo p.e.length bc] 27)) from ((ai.refl [] w3).alloc _)));have cf:=heap_alloc_new w3 (.cells #[.slice ao p.v.length ac,.slice bo p.e.length bc] 27);have HL:=lh (λ(w2:World) (dN:ai [] (w3.alloc (.cells #[.slice ao p.v.length ac,.slice bo p.e.length bc] 27)) w2)=>(⟨dN.heap cf (by simp),by have hz:=dN.size;simpa using hz⟩:w2.heap[w3.heap.size]?=some (.cells #[.slice ao p.v.length ac,.slice bo p.e.length bc] 27 (0,0))/\w3.heap.size+1<=w2.heap.size));clear cf;have HLZ:=lh (show (w3.alloc (.cells #[.slice ao p.v.length ac,.slice bo p.e.length bc] 27)).heap.size=w3.heap.size+1 by simp);have Be:=lh (Plain.yh g p);obtain⟨lb,Yi⟩:∃ n,w3.heap.size=n:=⟨_,rfl⟩;rw[Yi] at HL HLZ;have HLB:=lh Yi;clear Yi;have ya1:=HLC.out.bO y1;go_wp2_with fail;generalize (w3.alloc (.cells #[.slice ao p.v.length ac,.slice bo p.e.length bc] 27))=w4 at *;rw[HLB.out];have HBE:=lh (show ∀ i,i<p.e.length->∃ b off,bo=some ⟨b,off,none⟩/\w.cell? ⟨b,off+i,none⟩=some (.int .i64 (p.e.getD i 0)) from λi hi=>by
    obtain⟨b,off,e1,hc⟩:=nG.out (by grind)
    grind)
   have sm:=lh (Plain.J1 g p);go_loopw [24] (λc wr=>∃ k:Nat,k<=p.e.length/\c=.int .i64 k/\∃ o1 o2 c1 c2,wr.heap[lb]?=some (.cells #[.slice o1 (Plain.gd g p k).v.length c1,.slice o2 (Plain.gd g p k).e.length c2] 27 (0,0))/\dt wr (.agg #[.slice o1 (Plain.gd g p k).v.length c1,.slice o2 (Plain.gd g p k).e.length c2]) (Plain.gd g p k)/\ai [lb] w4 wr) (λc _=>p.e.length - (intOf c).toNat);case atStart=>exact⟨0,Qq _,rfl,ao,bo,ac,bc,(HL.out _ (ai.refl _ _)).1,HP.out.fresh (b8.out.tr HLC.out),ai.refl _ _⟩
   case round =>
    obtain⟨k,hk,rfl,o1,o2,c1,c2,hh,DE,hc⟩:=hrel;have HW:=lh (show ai [] w3 wr from HLC.out.trans hc (λj hj=>Qk (by have:=HLB.out;simp at hj;omega)));have ji:=lh hc;obtain⟨s1,s2,s3⟩:=Be.out k hk;have DH:(Plain.gd g p k).v.length<=100000:=by grind
    have Ut:(Plain.gd g p k).e.length<=100000:=by omega
    clear x0 x1 y0 y1 bs;obtain⟨x0,x1,y0,y1,bs⟩:=bm.out _ (S4.out.tr HW.out);by_cases aW:k<p.e.length
    ·obtain⟨b,off,rfl,hz⟩:=HBE.out k aW
     have ez:=(b8.out.tr HW.out).bO hz;have qO:=lh (Plain.vZ (g:=g) aW);generalize Plain.gd g p k=Q at *;generalize p.e.getD k 0=z at *;have HH:=lh hh;have FN:=lh DE;clear hz s1 s2 s3 hh DE hc;go_wp2_with fail;refine (NG z lb _ eo cap o1 o2 c1 c2 g Q _ DH Ut (HG.out.fresh (b8.out.tr HW.out)) x0 x1 HH.out FN.out).mono ?_;rintro r w6 ⟨rfl,p1,p2,k1,k2,hh6,hpt6,hc6⟩;rw[<-qO.out] at hh6 hpt6;have HH6:=lh hh6;have akX:=lh hpt6;have fC:=lh (ji.out.trans hc6 (λj hj=>Or.inl hj));clear hh6 hpt6 hc6 ez x0 x1 y0 y1 bs qO;go_wp2;go_roundw;case rel=>exact⟨k+1,by omega,by go_num,p1,p2,k1,k2,HH6.out,akX.out,fC.out⟩
     case measure=>simp[intOf];omega
    have e:k=p.e.length:=by omega
    subst e;generalize hQ:Plain.gd g p p.e.length=Q at *;have aof:=lh (show Q.e=Plain.Ca g p from sm.out);have q1:=(cell_of_row _ _ 1 _ _ _ hh).trans (show _=some (Qa o2 Q.e.length c2) from rfl);have FY:=lh (show aI wr (.slice o2 Q.e.length c2) Q.e from by
     obtain⟨u1,u2,e3,-,h4⟩:=DE
     grind)
    clear hQ s1 s2 s3 hh DE hc aW;go_wp2_with fail;refine (BI _ Q.e _ (by omega) FY.out).mono ?_;rintro r w6 ⟨v6,rfl,hr6,hc6⟩;rw[aof.out] at hr6;have UR:=lh hr6;have fC:=lh ((b8.out.tr HW.out).tr hc6);have qk:=lh (b8.out.tr HW.out).size;clear hr6 hc6 q1 x0 x1 y0 y1 bs;go_wp2;refine bodyPost_ret (v:=.tuple #[v6,.bool true]) (by simp[results,Tryz.results16,go_sem]) rfl ?_;exact⟨λh=>(h.elim HN.out λq=>q H0.out).elim,λ_ _=>⟨v6,rfl,UR.out.base qk.out⟩,fC.out⟩
 have jq:=lh h0;have HI:=lh (show ¬ (p.err g=0) from h0);obtain⟨er,qT⟩:∃ er,p.err g=er:=⟨_,rfl⟩;rw[qT] at h0 ⊢;have hb:(er != 0)=true:=by simpa using h0
 have gY:¬ er=0:=h0;clear h0 qT;go_wp2;refine bodyPost_ret (v:=.tuple #[.slice none 0 0,.bool false]) (by simp[results,Tryz.results16,go_sem]) rfl ?_;exact⟨λ_=>rfl,λ_ h=>absurd h HI.out,bU.out⟩
namespace Plain
variable {N i x k:Nat}
def jv (M:List Int) (N:Nat):List Int:=(Qo N).map λi:Nat=>((M.count (i:Int):Nat):Int)
theorem mP (M:List Int) (N:Nat):(jv M N).length=N:=by simp[jv]
theorem Ro (N:Nat):jv [] N=List.replicate N 0:=by
 refine Qn (by simp[jv]) λi h1 h2=>?_;simp[jv]
theorem yr (M:List Int) (hi:i<N):(jv M N).getD i 0=((M.count (i:Int):Nat):Int):=by
 grind [jv]
theorem Hp (M:List Int) (hx:x<N):jv (M++[(x:Int)]) N=(jv M N).set x ((jv M N).getD x 0+1):=by
 rw[yr M hx];refine Qn (by simp[jv]) λi h1 h2=>?_
 all_goals grind [jv]
theorem Lq (M:List Int) (N n:Nat):0<=(jv M N).getD n 0/\(jv M N).getD n 0<=M.length:=by
 all_goals grind [yr,mP]
def qS (g:Gr) (E:List Int):List Nat:=(dO g E).v.map λv=>(cY g E).count v
def kindOk (d:Nat):Bool:=decide (d=2) || decide (d=3) || decide (d=4)
def LK (g:Gr) (E:List Int):Int:=if (qS g E).all kindOk=true then (if (qS g E).count 4=5/\(qS g E).count 3=0 then 5 else if (qS g E).count 3=6/\(qS g E).count 4=0 then 33 else 0) else 0
def vT (g:Gr) (E:List Int):Int:=if il g E=0 then LK g E else 0
theorem P4 (g:Gr) (E:List Int):(qS g E).length=(dO g E).v.length:=by simp[qS]
theorem yj {l:List Nat} (hk:k<l.length):(l.take (k+1)).count x=(l.take k).count x+if l.getD k 0=x then 1 else 0:=by
 rw[Qg hk,List.count_append]
 all_goals grind
end Plain
theorem RI (vg vl:Value) (g:Plain.Gr) (ag:List Int) (w:World) (hg:cA w vg g) (he:aI w vl ag) :
  Calls Tryz.prog 20 #[vg,vl] w λe w'=>e=.returned (.int .i64 (Plain.vT g ag))/\ai [] w w':=by
 have HG:=lh hg;have HE:=lh he;obtain⟨eo,cap,rfl,-,hm,fx,aS⟩:=hg;have oe:=lh aS;have iL:=lh fx;obtain⟨lo,lc,rfl,-,-,-⟩:=he;clear aS fx;have gJ:=lh (show ai [] w (w.alloc (.cells #[.int .i64 g.n,.slice eo g.e.length cap] 24)) from (show ai [] w (w.alloc (.cells #[.int .i64 g.n,.slice eo g.e.length cap] 24)) from ((ai.refl [] w).alloc _)));have cf:=heap_alloc_new w (.cells #[.int .i64 g.n,.slice eo g.e.length cap] 24);have HX:=lh (λ(w2:World) (dN:ai [] (w.alloc (.cells #[.int .i64 g.n,.slice eo g.e.length cap] 24)) w2)=>(⟨dN.c ((cell_of_row _ _ 0 _ _ _ cf).trans rfl),dN.c ((cell_of_row _ _ 1 _ _ _ cf).trans rfl),by have hz:=dN.size;simpa using hz⟩:w2.cell? ⟨w.heap.size,0,none⟩=some (.int .i64 g.n)/\w2.cell? ⟨w.heap.size,1,none⟩=some (.slice eo g.e.length cap)/\w.heap.size+1<=w2.heap.size));clear cf;have xJ:=lh (show (w.alloc (.cells #[.int .i64 g.n,.slice eo g.e.length cap] 24)).heap.size=w.heap.size+1 by simp);obtain⟨x0,x1,bs⟩:=HX.out _ (ai.refl _ _);go_enter Tryz.func20,Tryz.ntmps20;go_wp2_with fail;generalize (w.alloc (.cells #[.int .i64 g.n,.slice eo g.e.length cap] 24))=w1 at *;refine (Nk _ _ g ag _ (HG.out.fresh gJ.out) (HE.out.fresh gJ.out)).mono ?_;rintro e wa ⟨v1,v2,rfl,gV,sx,qJ⟩;have xa:=lh qJ;have HWA:=lh (gJ.out.t qJ);clear x0 x1 bs qJ;obtain⟨x0,x1,bs⟩:=HX.out _ xa.out;by_cases h0:Plain.il g ag=0
 ·have HS0:=lh h0
  have HK:=lh (show Plain.vT g ag=Plain.LK g ag from if_pos h0);obtain⟨fD,cD⟩:=sx h0;have jw:g.err=0:=Qi λq=>by
   grind [Plain.il]
  have U0:Plain.dG ag g.e.length=true:=Qi λq=>by
   grind [Plain.il,Plain.il]
  have fB:=lh (Plain.Gr.aF jw);have AE:=lh (Plain.sV U0);have hl:ag.length<=1024:=by
   have h1:=ep U0;have h2:=fB.out.2.2.1;have h3:=fB.out.1;omega
  have HSV:=lh (show ∀ v∈(Plain.dO g ag).v,0<=v/\v<g.n from λv hv=>by
   have hv:v∈Plain.tidy (Plain.cY g ag):=hv;rw[(Plain.lM _).2,Plain.Cr] at hv;obtain⟨e,wO,q⟩:=hv;have hb:=AE.out e wO;have h1:=fB.out.2.2.2 e.toNat (by omega)
   grind [Plain.Gr.at])
  obtain⟨N,hN⟩:∃ N:Nat,g.n=N:=⟨g.n.toNat,by have:=fB.out.1;omega⟩;have HN:=lh hN;have hNl:N<=1024:=by have:=fB.out.2.1;omega
  have HDG:=lh (Plain.P4 g ag);have VF:=lh (show Plain.qS g ag=(Plain.dO g ag).v.map λv=>(Plain.cY g ag).count v from rfl);have HKF:=lh (show Plain.LK g ag=if (Plain.qS g ag).all Plain.kindOk=true then (if (Plain.qS g ag).count 4=5/\(Plain.qS g ag).count 3=0 then 5 else if (Plain.qS g ag).count 3=6/\(Plain.qS g ag).count 4=0 then 33 else 0) else 0 from rfl);have nk:=lh (Plain.qp g);rw[h0];generalize (Plain.dO g ag).v=V at *;obtain⟨a1,c1,rfl⟩:=fD.shape;obtain⟨a2,c2,rfl⟩:=cD.shape;have HV:=lh fD.ints;have hVl:=fD.2.2;clear gV sx h0 jw U0 fD cD hN;have Vy:=lh (show ai [] wa (wa.alloc (.cells #[.slice a1 V.length c1,.slice a2 ag.length c2] 27)) from (show ai [] wa (wa.alloc (.cells #[.slice a1 V.length c1,.slice a2 ag.length c2] 27)) from ((ai.refl [] wa).alloc _)));have cf:=heap_alloc_new wa (.cells #[.slice a1 V.length c1,.slice a2 ag.length c2] 27);have HY:=lh (λ(w2:World) (dN:ai [] (wa.alloc (.cells #[.slice a1 V.length c1,.slice a2 ag.length c2] 27)) w2)=>(⟨dN.c ((cell_of_row _ _ 0 _ _ _ cf).trans rfl),dN.c ((cell_of_row _ _ 1 _ _ _ cf).trans rfl),by have hz:=dN.size;simpa using hz⟩:w2.cell? ⟨wa.heap.size,0,none⟩=some (.slice a1 V.length c1)/\w2.cell? ⟨wa.heap.size,1,none⟩=some (.slice a2 ag.length c2)/\wa.heap.size+1<=w2.heap.size));clear cf;have HYZ:=lh (show (wa.alloc (.cells #[.slice a1 V.length c1,.slice a2 ag.length c2] 27)).heap.size=wa.heap.size+1 by simp);obtain⟨p0,p1,-⟩:=HY.out _ (ai.refl _ _);have x0':=Vy.out.c x0;have Zv:=lh (HWA.out.t Vy.out);go_wp2_with (at_make;refine Ee cM rfl _ _ rfl (B:=(wa.alloc (.cells #[.slice a1 V.length c1,.slice a2 ag.length c2] 27)).heap.size) (n:=N) (by show QK .i64 g.n=_;rw[HN.out]) (by show QK .i64 g.n=_;rw[HN.out]) (Qe _) (by omega) ?_;intro w5 NN dV;have CP:=lh (tL NN (by omega));have fG:=lh dV;clear NN dV);generalize (wa.alloc (.cells #[.slice a1 V.length c1,.slice a2 ag.length c2] 27))=wb at *;obtain⟨db,lU⟩:∃ n,wa.heap.size+1=n:=⟨_,rfl⟩;have U6:=lh (HYZ.out.trans lU);rw[U6.out] at CP;rw[lU];clear lU x0 x1 bs p0 p1 x0';go_loopw [9,27] (λ_ c wr=>∃ k:Nat,k<=ag.length/\c=.int .i64 k/\aw wr db (.slice (some ⟨db,0,none⟩) N N) (Plain.jv (Plain.cY g (ag.take k)) N)/\ai [] wb wr) (λ_ c _=>ag.length - (intOf c).toNat);case atStart=>exact⟨0,Qq _,rfl,by rw[List.take_zero];show aw _ _ _ (Plain.jv [] N);rw[Plain.Ro];exact CP.out,fG.out⟩
  case round =>
   obtain⟨k,hk,rfl,aT,hc⟩:=hrel;have bA:=lh aT;have HC:=lh hc;have HWC:=lh (Zv.out.t hc);clear aT hc;by_cases aW:k<ag.length
   ·obtain⟨x0,x1,-⟩:=HX.out wr (xa.out.t (Vy.out.t HC.out))
    have AN:=lh (Plain.rU (g:=g) aW);have uk:=lh (show (Plain.cY g (ag.take k)).length<=2048 by rw[nk.out,QB];omega);obtain⟨rb,sy,rfl,rc⟩:=aI.cellAt HE.out aW;have bX:=HWC.out.c rc;have qT:=AE.out _ (Plain.aQ aW);obtain⟨ei,mN⟩:∃ ei:Nat,ag.getD k 0=(ei:Int):=⟨(ag.getD k 0).toNat,by omega⟩;rw[mN] at bX qT AN;have iM:ei<g.e.length:=by omega
    obtain⟨eb,cR,rfl,fs,dD⟩:=oe.out ei iM;have hbd:=fB.out.2.2.2 ei iM;have eJ:g.at (ei:Int)=g.ends ei:=by unfold Plain.Gr.at;rw[Int.toNat_natCast]
    rw[eJ] at AN;obtain⟨x,hx⟩:∃ x:Nat,(g.ends ei).1=x:=⟨(g.ends ei).1.toNat,by omega⟩;obtain⟨y,hy⟩:∃ y:Nat,(g.ends ei).2=y:=⟨(g.ends ei).2.toNat,by omega⟩;have hxN:x<N:=by have:=HN.out;omega
    have hyN:y<N:=by have:=HN.out;omega
    rw[hx] at fs AN;rw[hy] at dD AN;have e0:=HWC.out.c fs;have e1:=HWC.out.c dD;have TS:=lh fs;have aY:=lh dD;clear hx hy eJ mN qT rc fs dD hbd;generalize Plain.cY g (ag.take k)=M at *;have AI:x<(Plain.jv M N).length:=by grind [Plain.mP]
    have d0:=yc bA.out AI;have hle:=Plain.Lq M N x;have z0:wr.frozen? ⟨db,x,none⟩=false:=by
     have:=bA.out
     grind [Plain.mP,aw.free]
    have IX:bF ((Plain.jv M N).getD x 0+1):=bF.mk (by omega) (by have:=uk.out;omega);have I9:=lh (bA.out.set x ((Plain.jv M N).getD x 0+1) IX);rw[<-Plain.Hp M hxN] at I9;have ak4:=lh (show Plain.cY g (ag.take (k+1))=(M++[(x:Int)])++[(y:Int)] by rw[AN.out];simp);have TO:=lh (show (M++[(x:Int)]).length<=2049 by have:=uk.out;simp;omega);have kA:(Plain.jv M N).getD x 0<=2048:=by have:=uk.out;omega
    have Er:=hle.1;generalize (Plain.jv M N).getD x 0=z at *;clear hle IX AI;go_upto_region 9 with fail;have fC:=lh (show ai [] wb (wr.setCell ⟨db,x,none⟩ (.int .i64 (z+1))) from HC.out.setCell (Qk (by have:=U6.out;simp;omega)) _);clear d0 z0 x0 x1 e0 e1 bX;generalize (wr.setCell ⟨db,x,none⟩ (.int .i64 (z+1)))=w6 at *;have Va:=lh (Zv.out.t fC.out);obtain⟨x0,x1,-⟩:=HX.out w6 (xa.out.t (Vy.out.t fC.out));have e0:=Va.out.c TS.out;have e1:=Va.out.c aY.out;generalize M++[(x:Int)]=M2 at *;have hyl:y<(Plain.jv M2 N).length:=by grind [Plain.mP]
    have d1:=yc I9.out hyl;have hle:=Plain.Lq M2 N y;have z1:w6.frozen? ⟨db,y,none⟩=false:=by
     have:=I9.out
     grind [Plain.mP,aw.free]
    have IY:bF ((Plain.jv M2 N).getD y 0+1):=bF.mk (by omega) (by have:=TO.out;omega);have Zt:=lh (I9.out.set y ((Plain.jv M2 N).getD y 0+1) IY);rw[<-Plain.Hp M2 hyN] at Zt;have hz3:(Plain.jv M2 N).getD y 0<=2049:=by have:=TO.out;omega
    have uC:=hle.1;generalize (Plain.jv M2 N).getD y 0=z' at *;clear hle IY hyl;go_wp2;have oT:=lh (show ai [] wb (w6.setCell ⟨db,y,none⟩ (.int .i64 (z'+1))) from fC.out.setCell (Qk (by have:=U6.out;simp;omega)) _);clear d1 z1 x0 x1 e0 e1;generalize (w6.setCell ⟨db,y,none⟩ (.int .i64 (z'+1)))=w7 at *;go_roundw;case rel=>exact⟨k+1,by omega,by go_num,by rw[ak4.out];exact Zt.out,oT.out⟩
    case measure=>simp[intOf];omega
   have e:k=ag.length:=by omega
   subst e;rw[QC] at bA;clear aW hk;generalize Plain.cY g ag=M at *;generalize Plain.qS g ag=D at *;generalize wr=wz at *;have DY:=lh (show ∀ i,i<V.length->D.getD i 0=M.count (V.getD i 0) from λi hi=>by
    rw[VF.out,Qd,Qj]
    grind)
   have HDC:=lh (show ∀ (i x:Nat),(D.take i).count x<=V.length from λi x=>by
    have h1:=List.count_le_length (a:=x) (l:=D.take i);have h2:=List.length_take_le i D;have h3:=HDG.out
    grind)
   obtain⟨p0,p1,-⟩:=HY.out wz HC.out;go_wp2;go_loopw [10,11,13,57] (λth fo _ c wr=>∃ i:Nat,i<=V.length/\th=.int .i64 ((D.take i).count 3:Nat)/\fo=.int .i64 ((D.take i).count 4:Nat)/\c=.int .i64 i/\Hid (∀ j,j<i->Plain.kindOk (D.getD j 0)=true)/\ai [] wz wr) (λ_ _ _ c _=>V.length - (intOf c).toNat);case atStart=>exact⟨0,Qq _,rfl,rfl,rfl,lh (by omega),ai.refl _ _⟩
   case round =>
    obtain⟨i,hi,rfl,rfl,rfl,Ve,hc⟩:=hrel;have Ys:=lh hc;have hD3:=HDC.out i 3;have hD4:=HDC.out i 4;by_cases aW:i<V.length
    ·obtain⟨vb,A7,rfl,rc⟩:=aI.cellAt HV.out aW
     have ah6:=(Vy.out.t (HC.out.t hc)).c rc;have NW:=HSV.out _ (Plain.aQ aW);have HDI:=lh (DY.out i aW);have Zz:=lh (Plain.yj (l:=D) (k:=i) (x:=3) (by have:=HDG.out;omega));have HT4:=lh (Plain.yj (l:=D) (k:=i) (x:=4) (by have:=HDG.out;omega));obtain⟨v,hv⟩:∃ v:Nat,V.getD i 0=(v:Int):=⟨(V.getD i 0).toNat,by omega⟩;rw[hv] at ah6 NW HDI;have AL:v<N:=by have:=HN.out;omega
     have Cl:v<(Plain.jv M N).length:=by grind [Plain.mP]
     have afK:=yc (bA.out.aL hc (by simp)) Cl;rw[Plain.yr M AL,<-HDI.out] at afK;have Ux:=lh (show Plain.kindOk (D.getD i 0)=false->D.all Plain.kindOk=false from λh=>List.all_eq_false.2 ⟨D.getD i 0,by
      have:=HDG.out;have h9:i<D.length:=by omega
      rw[show D.getD i 0=D[i] by simp[Qd,h9]];exact QE h9,by rw[h];simp⟩)
     have qO:=lh (show Plain.kindOk (D.getD i 0)=true->∀ j,j<i+1->Plain.kindOk (D.getD j 0)=true from λh j hj=>by
      by_cases e:j=i
      ·rw[e];exact h
      exact Ve.out j (by omega))
     have uN:D.getD i 0<=4096\/4096<D.getD i 0:=by omega
     generalize D.getD i 0=d at *;generalize (D.take i).count 3=t3 at *;generalize (D.take i).count 4=t4 at *;have ja:d=2\/d=3\/d=4\/(d≠2/\d≠3/\d≠4):=by omega
     clear rc hv NW Cl hc uN;rcases ja with rfl | rfl | rfl | ⟨n2,n3,n4⟩
     ·go_wp2
      go_roundw;case rel=>exact⟨i+1,by omega,by rw[Zz.out];rfl,by rw[HT4.out];rfl,by go_num,lh (qO.out rfl),Ys.out⟩
      case measure=>simp[intOf];omega
     ·go_wp2
      go_roundw;case rel=>exact⟨i+1,by omega,by rw[Zz.out];go_num,by rw[HT4.out];rfl,by go_num,lh (qO.out rfl),Ys.out⟩
      case measure=>simp[intOf];omega
     ·go_wp2
      go_roundw;case rel=>exact⟨i+1,by omega,by rw[Zz.out];rfl,by rw[HT4.out];go_num,by go_num,lh (qO.out rfl),Ys.out⟩
      case measure=>simp[intOf];omega
     have b2:((d:Int)==2)=false:=by rw[beq_eq_false_iff_ne];omega
     have b3:((d:Int)==3)=false:=by grind
     have b4:((d:Int)==4)=false:=by grind
     have HB:=lh (Ux.out (by grind [Plain.kindOk]));have HF:=lh (show Plain.vT g ag=0 from by rw[HK.out,HKF.out,if_neg (by rw[HB.out];simp)]);go_wp2;go_ret;exact⟨aR HF.out.symm,HWC.out.t Ys.out⟩
    have e:i=V.length:=by omega
    subst e;have xu:=lh aW;clear aW;have sm:=lh (show D.all Plain.kindOk=true from List.all_eq_true.2 λd hd=>by
     obtain⟨j,hj,rfl⟩:=Qt hd;have h8:=HDG.out;have:=Ve.out j (by omega)
     grind)
    have HF:=lh (show Plain.vT g ag=if D.count 4=5/\D.count 3=0 then 5 else if D.count 3=6/\D.count 4=0 then 33 else 0 from by rw[HK.out,HKF.out,if_pos sm.out]);have HTL:=lh (show ∀ x,(D.take V.length).count x=D.count x from λx=>by rw[List.take_of_length_le (by rw[HDG.out];exact Qe _)]);rw[HTL.out 3] at hD3 ⊢;rw[HTL.out 4] at hD4 ⊢;generalize D.count 3=t3 at *;generalize D.count 4=t4 at *;clear hi hc;have gU:=lh (HWC.out.t Ys.out);have h4:t4=5\/t4=0\/(t4≠5/\t4≠0):=by omega
    have h3:t3=0\/t3=6\/(t3≠0/\t3≠6):=by omega
    rcases h4 with rfl | rfl | ⟨n5,n0⟩
    ·rcases h3 with rfl | rfl | ⟨m0,m6⟩
     ·go_wp2
      go_ret;exact⟨aR (by rw[HF.out];rfl),gU.out⟩
     ·go_wp2
      go_ret;exact⟨aR (by rw[HF.out];rfl),gU.out⟩
     have b0:((t3:Int)==0)=false:=by rw[beq_eq_false_iff_ne];omega
     have b6:((t3:Int)==6)=false:=by grind
     go_wp2;go_ret;exact⟨aR (by rw[HF.out];simp[m0,m6]),gU.out⟩
    ·rcases h3 with rfl | rfl | ⟨m0,m6⟩
     ·go_wp2
      go_ret;exact⟨aR (by rw[HF.out];rfl),gU.out⟩
     ·go_wp2
      go_ret;exact⟨aR (by rw[HF.out];rfl),gU.out⟩
     have b0:((t3:Int)==0)=false:=by rw[beq_eq_false_iff_ne];omega
     have b6:((t3:Int)==6)=false:=by grind
     go_wp2;go_ret;exact⟨aR (by rw[HF.out];simp[m0,m6]),gU.out⟩
    have d5:((t4:Int)==5)=false:=by rw[beq_eq_false_iff_ne];omega
    have d0:((t4:Int)==0)=false:=by grind
    rcases h3 with rfl | rfl | ⟨m0,m6⟩
    ·go_wp2
     go_ret;exact⟨aR (by rw[HF.out];simp[n5,n0]),gU.out⟩
    ·go_wp2
     go_ret;exact⟨aR (by rw[HF.out];simp[n5,n0]),gU.out⟩
    have b0:((t3:Int)==0)=false:=by rw[beq_eq_false_iff_ne];omega
    have b6:((t3:Int)==6)=false:=by grind
    go_wp2;go_ret;exact⟨aR (by rw[HF.out];simp[n5,n0,m0,m6]),gU.out⟩
 have HK:=lh (show Plain.vT g ag=0 from if_neg h0);obtain⟨rfl,rfl⟩:=gV h0;obtain⟨er,qT⟩:∃ er,Plain.il g ag=er:=⟨_,rfl⟩;rw[qT] at h0 ⊢;have hb:(er != 0)=true:=by simpa using h0
 have gY:¬ er=0:=h0;clear qT h0 gV sx;go_wp2;go_ret;exact⟨aR HK.out.symm,HWA.out.t ((ai.refl [] _).alloc _)⟩
