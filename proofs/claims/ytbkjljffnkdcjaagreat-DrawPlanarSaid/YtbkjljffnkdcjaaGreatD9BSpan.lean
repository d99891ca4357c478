/- block.span: contract. Conditions: a right graph that lies in memory and reads so; numbers of its ah. -/
import Derived.Test.YtbkjljffnkdcjaaGreatD9Find
import Derived.Shelf.SlIterI.Sorted
import Derived.Ground.GgzProg
open List renaming mem_singleton→Qa,mergeSort_perm→Qc,length_take→Qg,any_eq_true→Qh
open Go.Value renaming slice→Qb
open Go.World renaming block_lt_of_cell?→Qd
open Go.Act renaming put→Qe
open Bool renaming eq_false_iff→Qf
open Or renaming inr→Qi,inl→Qj
namespace Go.Proofs.YtbkjljffnkdcjaaGreat
open Go.RowKit Go.Maps
namespace Plain
def fG (g:Gr) (ah:List Int):List Int:=ah.flatMap fun e=>[(g.at e).1,(g.at e).2]
theorem Gm {g:Gr} {l:List Int} {k:Nat} (hk:k<l.length):fG g (l.take (k+1))=fG g (l.take k)++[(g.at (l.getD k 0)).1,(g.at (l.getD k 0)).2]:=by
 unfold fG;rw[List.take_succ_eq_append_getElem hk,List.flatMap_append];simp[List.getD,hk]
theorem zI (g:Gr):∀ l:List Int,(fG g l).length=2*l.length
 | []=>rfl
 | e :: l=>by
  have ih:=zI g l;unfold fG at ih ⊢;rw[List.flatMap_cons,List.length_append,ih];simp only[List.length_cons,List.length_nil];omega
def gN (g:Gr) (ah:List Int):Pt:=⟨tidy (fG g ah),ah⟩
end Plain
set_option maxRecDepth 100000 in
set_option maxHeartbeats 4000000 in
theorem Ml (vg vl:Value) (g:Plain.Gr) (ah:List Int) (w:World) (zt:g.err=0) (hl:ah.length<=1024) (hes:∀ e∈ah,0<=e/\e<g.e.length) (hg:dU w vg g) (he:aJ w vl ah) :
  Calls Tryz.prog 76 #[vg,vl] w fun e w'=>∃ v1 v2,e=.returned (.agg #[v1,v2])/\ax w' w.heap.size v1 (Plain.gN g ah).v/\ax w' w.heap.size v2 ah/\(∀ j∈aL v1,j ∉ aL v2)/\ai [] w w':=by
 have Hf:=lh hes;have HG:=lh hg;have HE:=lh he;have j7:=lh (Plain.Gr.aP zt);obtain⟨eo,cap,rfl,-,hm,dS,aO⟩:=hg;have sD:=lh aO;have ir:=lh dS;obtain⟨lo,lc,rfl,hI,-,-⟩:=he;clear hes aO hI zt dS;have eV:=lh (show ai [] w ((w.alloc (.cells #[.int .i64 g.n,.slice eo g.e.length cap] 24)).alloc (.cells #[.slice none 0 0,.slice none 0 0] 27)) from (show ai [] w ((w.alloc (.cells #[.int .i64 g.n,.slice eo g.e.length cap] 24)).alloc (.cells #[.slice none 0 0,.slice none 0 0] 27)) from (((ai.refl [] w).alloc _).alloc _)));have cK:=heap_alloc_new w (.cells #[.int .i64 g.n,.slice eo g.e.length cap] 24);replace cK:=(show ai [] (w.alloc (.cells #[.int .i64 g.n,.slice eo g.e.length cap] 24)) ((w.alloc (.cells #[.int .i64 g.n,.slice eo g.e.length cap] 24)).alloc (.cells #[.slice none 0 0,.slice none 0 0] 27)) from ((ai.refl [] (w.alloc (.cells #[.int .i64 g.n,.slice eo g.e.length cap] 24))).alloc _)).heap cK (by simp);have eN:=heap_alloc_new (w.alloc (.cells #[.int .i64 g.n,.slice eo g.e.length cap] 24)) (.cells #[.slice none 0 0,.slice none 0 0] 27);rw[show (w.alloc (.cells #[.int .i64 g.n,.slice eo g.e.length cap] 24)).heap.size=w.heap.size+1 by simp] at eN;have HX:=lh (fun (w2:World) (dL:ai [] ((w.alloc (.cells #[.int .i64 g.n,.slice eo g.e.length cap] 24)).alloc (.cells #[.slice none 0 0,.slice none 0 0] 27)) w2)=>(⟨dL.c ((cell_of_row _ _ 0 _ _ _ cK).trans rfl),dL.c ((cell_of_row _ _ 1 _ _ _ cK).trans rfl),dL.heap eN (by simp),by have hz:=dL.size;simpa using hz⟩:w2.cell? ⟨w.heap.size,0,none⟩=some (.int .i64 g.n)/\w2.cell? ⟨w.heap.size,1,none⟩=some (.slice eo g.e.length cap)/\w2.heap[w.heap.size+1]?=some (.cells #[.slice none 0 0,.slice none 0 0] 27 (0,0))/\w.heap.size+2<=w2.heap.size));clear cK eN;have CK:=lh (show ((w.alloc (.cells #[.int .i64 g.n,.slice eo g.e.length cap] 24)).alloc (.cells #[.slice none 0 0,.slice none 0 0] 27)).heap.size=w.heap.size+2 by simp)
 go_enter Tryz.func76,Tryz.ntmps76
 go_wp2_with fail
 generalize ((w.alloc (.cells #[.int .i64 g.n,.slice eo g.e.length cap] 24)).alloc (.cells #[.slice none 0 0,.slice none 0 0] 27))=w1 at *;refine (MP _ ah _ (by omega) (HE.out.fresh eV.out)).mono ?_;rintro e w3 ⟨v2,rfl,cH,dB⟩;obtain⟨o2,c2,rfl⟩:=cH.shape;have y7:=lh cH;have dD:=lh dB;clear cH dB;have MD:=lh (heap_alloc_new w3 (.cells #[.slice none 0 0,.slice o2 ah.length c2] 27));have kh:=lh ((ai.refl [] w3).alloc (.cells #[.slice none 0 0,.slice o2 ah.length c2] 27));have mU:=lh (Plain.zI g)
 go_wp2_with fail
 go_loopw [7,13] (fun _ iv wr=>∃ k:Nat,k<=ah.length/\iv=.int .i64 k/\∃ uo uc,wr.heap[w3.heap.size]?=some (.cells #[.slice uo (2*k) uc,.slice o2 ah.length c2] 27 (0,0))/\ax wr w3.heap.size (.slice uo (2*k) uc) (Plain.fG g (ah.take k))/\ai [] w3 wr) (fun _ iv _=>ah.length - (intOf iv).toNat)
 case atStart=>exact⟨0,Nat.zero_le _,rfl,none,0,MD.out,gp _ _,kh.out⟩
 case round =>
  obtain⟨k,hk,rfl,uo,uc,ho,hr,hc⟩:=hrel;have HO:=lh ho;have HR:=lh hr;have HC:=lh hc;have HW:=lh (eV.out.t (dD.out.t hc));obtain⟨x0,x1,r8,-⟩:=HX.out wr (dD.out.t hc);have HR8:=lh r8;have o0:=(cell_of_row _ _ 0 _ _ _ ho).trans (show _=some (Qb uo (2*k) uc) from rfl);have o1:=(cell_of_row _ _ 1 _ _ _ ho).trans (show _=some (Qb o2 ah.length c2) from rfl);have f0:=bJ ho 0;have f1:=bJ ho 1;clear ho hr hc r8;by_cases aU:k<ah.length
  ·obtain⟨rb,uR,rfl,rc⟩:=aJ.cellAt HE.out aU
   have cZ:=HW.out.c rc;have qK:=Hf.out _ (Plain.aZ aU);have rT:=lh (Plain.Gm (g:=g) aU);obtain⟨ei,vG⟩:∃ ei:Nat,ah.getD k 0=(ei:Int):=⟨(ah.getD k 0).toNat,by omega⟩;rw[vG] at cZ qK rT;have nz:ei<g.e.length:=by omega
   obtain⟨eb,eB,rfl,gy,cG⟩:=sD.out ei nz;obtain⟨Nc,JG⟩:=ir.out ei nz;have c0:=HW.out.c gy;have c1:=HW.out.c cG;have dN:g.at (ei:Int)=g.ends ei:=by unfold Plain.Gr.at;rw[Int.toNat_natCast]
   rw[dN] at rT;obtain⟨x,hx⟩:∃ x,(g.ends ei).1=x:=⟨_,rfl⟩;obtain⟨y,hy⟩:∃ y,(g.ends ei).2=y:=⟨_,rfl⟩;rw[hx] at c0 Nc rT;rw[hy] at c1 JG rT;have SB:w3.heap.size ∉ aL (.slice uo (2*k) uc):=fun q=>by
    obtain⟨cs,r,hh⟩:=bZ HR.out _ q;rw[HO.out] at hh;simp at hh
   have fD:∀ j∈aL (.slice uo (2*k) uc),w3.heap.size<=j:=fun j hj=>(HR.out.low j (by rw[<-HR.out.aL];exact hj)).1;have wL:=lh fD;have hSB:ai (aL (.slice uo (2*k) uc)) wr wr.drew:=(ai.refl _ wr).drew;have TT:w.heap.size ∉ aL (.slice uo (2*k) uc):=fun q=>by have:=fD _ q;have:=dD.out.size;have:=CK.out;omega
   have Vk:eb ∉ aL (.slice uo (2*k) uc):=fun q=>by have:=fD _ q;have:=dD.out.size;have:=CK.out;have:=Qd w _ gy;simp at this;omega
   have as8:rb ∉ aL (.slice uo (2*k) uc):=fun q=>by have:=fD _ q;have:=dD.out.size;have:=CK.out;have:=Qd w _ rc;simp at this;omega
   have qN:k<1024:=by omega
   have eik:ei<1024:=by have:=j7.out.2.2.1;have:=j7.out.1;omega
   clear rc qK vG gy cG dN hx hy fD
   go_wp2_with fail
   refine au (ai (aL (.slice uo (2*k) uc)) wr) [0,1,2,3,4,5,6,7,8,9,10,11,12,13] (Way.line [0,1,2,3,4,5,6,7,8,9,10,11,12,13,14,15,16,17] .done) (by kernel_rfl) (by kernel_rfl) ?_;simp only[Way.line]
   repeat
    first
     | (refine ar rfl (by rfl) (by rfl) (fun _ _ _ h=>h) hSB ?_;simp only[Qe,Z1,Z2,Z3,Z4,Z5,Z6])
     | (refine aq (v:=?_) rfl (by rfl) (by rfl) (fun _ _ _ h=>h) hSB (fun w' aK=>?_) ?_;rotate_left;(focus (have fU:=aK.cell o0 (by first | exact SB | exact TT | exact Vk);have gX:=aK.cell x1 (by first | exact SB | exact TT | exact Vk);have nP:=aK.cell c0 (by first | exact SB | exact TT | exact Vk);have Fx:=aK.cell c1 (by first | exact SB | exact TT | exact Vk);clear aK;go_simp;try with_reducible rfl));simp only[Qe,Z1,Z2,Z3,Z4,Z5,Z6])
     | (refine ak rfl (by rfl) (by rfl) hSB ?_;simp only[Qe,Z1,Z2,Z3,Z4,Z5,Z6])
   refine aC rfl (by rfl) (by rfl) (fun K hK=>?_);go_simp;have Ug:=lh ((oJ wr Nc JG).fresh (ai.refl [] _).drew);refine hK.out _ _ (fun _=>hSB.alloc _) ?_;clear hK K
   try simp only[Qe,Z1,Z2,Z3,Z4,Z5,Z6]
   refine aC rfl (by rfl) (by rfl) (fun K hK=>?_);simp only[List.getElem_toArray,List.getElem_cons_zero,List.getElem_cons_succ];have ca:ai [] wr (wr.alloc (.cells #[.int .i64 x,.int .i64 y] 3)).drew:=((ai.refl [] wr).alloc _).drew;have BK:(Plain.fG g (ah.take k)).length=2*k:=by rw[mU.out,Qg];omega
   refine sr _ _ rfl (B:=w3.heap.size) (v:=.slice uo (2*k) uc) rfl rfl (HR.out.aM ca (by simp)) Ug.out (Nat.le_trans HC.out.size ca.size) (by rw[BK];simp;omega) fun v' w7 r7 c7 f7=>?_;rw[<-rT.out] at r7;have R7:=lh r7;have C7:=lh c7;have CA:=lh ca;have ZT:(Plain.fG g (ah.take (k+1))).length=2*k+2:=by rw[mU.out,Qg];omega
   obtain⟨vo,vc,rfl⟩:=r7.shape;rw[ZT] at R7;refine hK.out _ _ (fun _=>(ca.mono (by simp)).trans c7 (fun j hj=>Qj hj)) ?_;have o7:=c7.cell (ca.c o0) SB;have g7:=c7.frozen (ca.c o0) (bJ (ca.heap HO.out (by simp)) 0) SB;have Th:=lh (c7.heap (ca.heap HO.out (by simp)) SB);rw[ZT];clear hK K r7 c7 f7 ca BK ZT
   try simp only[Qe,List.setIfInBounds_toArray,List.set_cons_zero,List.set_cons_succ]
   refine aC rfl (by rfl) (by rfl) (fun K hK=>?_);go_simp;refine hK.out _ _ (fun h=>absurd h (Qf.1 (by kernel_rfl))) ?_;clear hK K
   try simp only[Qe,Z1,Z2,Z3,Z4,Z5,Z6]
   refine aC rfl (by rfl) (by rfl) (fun K hK=>?_);go_simp;refine hK.out _ _ (fun h=>absurd h (Qf.1 (by kernel_rfl))) ?_;clear hK K
   try simp only[Qe,Z1,Z2,Z3,Z4,Z5,Z6]
   refine aB ?_;have bw:ai [w3.heap.size] w7 (w7.setCell ⟨w3.heap.size,0,none⟩ (.slice vo (2*k+2) vc)):=(ai.refl _ w7).setCell (Qj (by simp)) _;have TS:=lh (heap_setCell_same Th.out 0 (.slice vo (2*k+2) vc));have al1:=lh (R7.out.aM bw (fun b hb q=>by
    obtain⟨cs,r,hh⟩:=bZ R7.out b (by rw[R7.out.aL];exact hb);rw[Qa] at q;rw[q,Th.out] at hh;simp at hh))
   have xf:=lh (show ai [] w3 (w7.setCell ⟨w3.heap.size,0,none⟩ (.slice vo (2*k+2) vc)) from ((HC.out.t CA.out).trans C7.out (fun j hj=>Qi (wL.out j hj))).trans bw (fun j hj=>Qi (by rw[Qa] at hj;omega)));clear bw o7 g7 o0 o1 f0 f1 x0 x1 c0 c1 cZ;generalize (w7.setCell ⟨w3.heap.size,0,none⟩ (.slice vo (2*k+2) vc))=w8 at *;go_wp2
   go_roundw
   case rel=>exact⟨k+1,by omega,by go_num,vo,vc,TS.out,al1.out,xf.out⟩
   case measure=>simp[intOf];omega
  have e:k=ah.length:=by omega
  subst e;have BK:(Plain.fG g ah).length=2*ah.length:=mU.out ah;have HR9:=lh (show ax wr w3.heap.size (.slice uo (Plain.fG g ah).length uc) (Plain.fG g ah) by rw[BK];have:=HR.out;rwa[List.take_length] at this);have X5:=lh (show wr.heap[w3.heap.size]?=some (.cells #[.slice uo (Plain.fG g ah).length uc,.slice o2 ah.length c2] 27 (0,0)) by rw[BK];exact HO.out);rw[<-BK] at o0;have amw:=lh BK;have xt:=lh (show (Plain.fG g ah).length<1000000000 by rw[BK];omega);clear HR HO hk aU BK x0 x1;obtain⟨M,hM⟩:∃ M,Plain.fG g ah=M:=⟨_,rfl⟩;rw[hM] at HR9 X5 o0 amw xt;have HM:=lh hM;have SB:∀ (wx:World) (v:Value) (q:List Int),ax wx w3.heap.size v q->(∃ cs,wx.heap[w3.heap.size]?=some (.cells cs 27 (0,0)))->w3.heap.size ∉ v.ownBlock.toList:=fun _ _ _ h ⟨cs0,h0⟩ q=>by
   obtain⟨cs,r,hh⟩:=bZ h _ (by rw[h.aL];exact q);rw[h0] at hh;simp at hh
  have XG:=lh SB;clear hM SB
  go_wp2_with fail
  refine (sY _ M _ _ xt.out HR9.out).mono ?_;rintro e w5 ⟨rfl,AA,gV⟩;have hn5:=XG.out _ _ _ HR9.out ⟨_,X5.out⟩;have o05:=gV.cell o0 hn5;have HO5:=lh (gV.heap X5.out hn5);have Fo:(M.mergeSort fun x y=>decide (x<=y)).length=M.length:=(Qc _ _).length_eq;have HTY:=lh (show Go.Lib.compact (M.mergeSort fun x y=>decide (x<=y))=Plain.tidy M from rfl);have iP:=lh (show ai [] w3 w5 from HC.out.trans gV (fun b hb=>Qi (HR9.out.low b hb).1));obtain⟨S,hS⟩:∃ S,(M.mergeSort fun x y=>decide (x<=y))=S:=⟨_,rfl⟩;rw[hS] at Fo AA HTY;have wR:=lh AA;have yH:=lh Fo;clear AA gV hn5 Fo hS o0 o1 f0 f1
  go_wp2_with fail
  refine (rG _ S _ _ (by rw[yH.out];exact xt.out) wR.out).mono ?_;rintro e w6 ⟨v6,rfl,hr6,hc6⟩;rw[HTY.out] at hr6;have Tb:=XG.out _ _ _ wR.out ⟨_,HO5.out⟩;have ho6:=hc6.heap HO5.out Tb;have p06:=hc6.cell o05 Tb;have g06:=bJ ho6 0;have HO6:=lh ho6;have ni:=lh (show ai [] w3 w6 from iP.out.trans hc6 (fun b hb=>Qi (wR.out.low b hb).1));have VV:=lh hr6;obtain⟨o6,c6,rfl⟩:=hr6.shape;have qj:=XG.out _ _ _ hr6 ⟨_,ho6⟩;have bw:ai [w3.heap.size] w6 (w6.setCell ⟨w3.heap.size,0,none⟩ (.slice o6 (Plain.tidy M).length c6)):=(ai.refl _ w6).setCell (Qj (by simp)) _;have Wj:=heap_setCell_same ho6 0 (.slice o6 (Plain.tidy M).length c6);have Sh:=lh (hr6.aM bw (fun b hb q=>qj (by rw[Qa] at q;rw[<-q];exact hb)));have nm:=lh (show ai [] w3 (w6.setCell ⟨w3.heap.size,0,none⟩ (.slice o6 (Plain.tidy M).length c6)) from ni.out.trans bw (fun j hj=>Qi (by rw[Qa] at hj;omega)));have Th:=lh Wj;have p16:=(cell_of_row _ _ 1 _ _ _ ho6).trans (show _=some (Qb o2 ah.length c2) from rfl);obtain⟨-,-,r86,-⟩:=HX.out w6 (dD.out.t ni.out);have y06:=(cell_of_row _ _ 0 _ _ _ r86).trans (show _=some (Qb none 0 0) from rfl);have y16:=(cell_of_row _ _ 1 _ _ _ r86).trans (show _=some (Qb none 0 0) from rfl);have g16:=bJ r86 0;have g26:=bJ r86 1;have aiB:¬ w3.heap.size=w.heap.size+1:=fun q=>by have:=dD.out.size;have:=CK.out;omega
  have Ep:¬ w.heap.size+1=w3.heap.size:=fun q=>aiB q.symm;clear hr6 hc6 ho6 qj bw Wj Tb o05;obtain⟨-,-,r87,-⟩:=HX.out (w6.setCell ⟨w3.heap.size,0,none⟩ (.slice o6 (Plain.tidy M).length c6)) (dD.out.t nm.out);have Cm:ai [w.heap.size+1] (w6.setCell ⟨w3.heap.size,0,none⟩ (.slice o6 (Plain.tidy M).length c6)) (((w6.setCell ⟨w3.heap.size,0,none⟩ (.slice o6 (Plain.tidy M).length c6)).setCell ⟨w.heap.size+1,0,none⟩ (.slice o6 (Plain.tidy M).length c6)).setCell ⟨w.heap.size+1,1,none⟩ (.slice o2 ah.length c2)):=((ai.refl _ (w6.setCell ⟨w3.heap.size,0,none⟩ (.slice o6 (Plain.tidy M).length c6))).setCell (Qj (by simp)) _).setCell (Qj (by simp)) _;have kD:=heap_setCell_same (heap_setCell_same r87 0 (.slice o6 (Plain.tidy M).length c6)) 1 (.slice o2 ah.length c2);have q0:=(cell_of_row _ _ 0 _ _ _ kD).trans (show _=some (Qb o6 (Plain.tidy M).length c6) from rfl);have q1:=(cell_of_row _ _ 1 _ _ _ kD).trans (show _=some (Qb o2 ah.length c2) from rfl);have HQ0:=lh q0;have VI:=lh q1;have Nx:∀ {v:Value} {q:List Int} {B:Nat},ax (w6.setCell ⟨w3.heap.size,0,none⟩ (.slice o6 (Plain.tidy M).length c6)) B v q->∀ b∈v.ownBlock.toList,b ∉ [w.heap.size+1]:=fun h b hb e=>by
   obtain⟨cs,r,hh⟩:=bZ h b (by rw[h.aL];exact hb);rw[Qa] at e;rw[e,r87] at hh;simp at hh
  have ak2:w.heap.size+2<=w3.heap.size:=by have:=dD.out.size;have:=CK.out;omega
  have HRA:=lh ((Sh.out.aM Cm (Nx Sh.out)).base (show w.heap.size<=w3.heap.size by omega));have cH:=y7.out.aM nm.out (by simp);have Cr:=lh ((cH.aM Cm (Nx cH)).base (show w.heap.size<=w1.heap.size by have:=CK.out;omega));have WE:=lh (show ∀ j∈aL (.slice o6 (Plain.tidy M).length c6),j ∉ aL (.slice o2 ah.length c2) from fun j hj q=>by
   have h1:=(Sh.out.low j (by rw[<-Sh.out.aL];exact hj)).1;have h2:=(y7.out.low j (by rw[<-y7.out.aL];exact q)).2;omega)
  have vL:=lh (show ai [] w _ from (eV.out.t (dD.out.t nm.out)).trans Cm (fun j hj=>Qi (by rw[Qa] at hj;omega)));have HMT:=lh (show (Plain.gN g ah).v=Plain.tidy M by show Plain.tidy (Plain.fG g ah)=_;rw[HM.out]);clear q0 q1 Cm kD Nx cH ak2 r87;go_wp2;refine bodyPost_ret (v:=.agg #[.slice o6 (Plain.tidy M).length c6,.slice o2 ah.length c2]) (by have h0:=HQ0.out;have h1:=VI.out;simp[results,Tryz.results76,go_sem,h0,h1]) rfl ?_;rw[HMT.out];exact⟨_,_,rfl,HRA.out,Cr.out,WE.out,vL.out⟩
end Go.Proofs.YtbkjljffnkdcjaaGreat
namespace Go.Proofs
open Go.Shelf
def Tryz.zX:Go.Shelf.Ren:=⟨fun | 7=>75 | 10=>138 | n=>n,fun | 23=>101 | 26=>3 | 3=>25 | 28=>108 | 0=>0 | 27=>107 | 33=>129 | 4=>4 | n=>n,fun | n=>n⟩
theorem Tryz.Vz:Go.Proofs.SlLaysZI.n7 Tryz.prog Tryz.zX:={
 mixed:=by kernel_rfl
 f7:=⟨Tryz.f75.name,by decide,Tryz.func75.trans (congrArg some (by kernel_rfl))⟩
 f10:=⟨Tryz.f138.name,by decide,Tryz.func138.trans (congrArg some (by kernel_rfl))⟩
 t0:=Tryz.underlying0
 a0:=Tryz.isAgg0
 z0:=Tryz.sizeOf0
 v0:=Tryz.zeroValue0
 t4:=Tryz.underlying4
 a4:=Tryz.isAgg4
 z4:=Tryz.sizeOf4
 v4:=Tryz.zeroValue4
 t23:=Tryz.underlying101
 a23:=Tryz.isAgg101
 z23:=Tryz.sizeOf101
 v23:=Tryz.zeroValue101
 t26:=Tryz.underlying3
 a26:=Tryz.isAgg3
 z26:=Tryz.sizeOf3
 v26:=Tryz.zeroValue3
 t27:=Tryz.underlying107
 a27:=Tryz.isAgg107
 z27:=Tryz.sizeOf107
 v27:=Tryz.zeroValue107
 t28:=Tryz.underlying108
 a28:=Tryz.isAgg108
 z28:=Tryz.sizeOf108
 v28:=Tryz.zeroValue108
 t33:=Tryz.underlying129
 a33:=Tryz.isAgg129
 z33:=Tryz.sizeOf129
 v33:=Tryz.zeroValue129 }
def Tryz.uA:Go.Shelf.Ren:=⟨fun | 6=>74 | 8=>137 | 9=>110 | 11=>174 | 13=>156 | 12=>158 | 23=>190 | 24=>191 | 14=>192 | 15=>193 | 16=>194 | 17=>195 | 18=>196 | 19=>197 | 20=>175 | 21=>198 | 22=>199 | 25=>208 | 26=>204 | 27=>205 | 28=>209 | 29=>210 | 30=>157 | 31=>214 | n=>n,fun | 26=>3 | 28=>108 | 24=>25 | 0=>0 | 3=>3 | 37=>182 | 48=>203 | 50=>205 | 4=>4 | 40=>197 | 39=>196 | 45=>86 | 5=>5 | 9=>9 | 51=>213 | 55=>217 | 57=>221 | 58=>222 | 33=>129 | n=>n,fun | n=>n⟩
theorem Tryz.Tt:Go.Proofs.SlLaysZI.n6 Tryz.prog Tryz.uA:={
 mixed:=by kernel_rfl
 f6:=⟨Tryz.f74.name,by decide,Tryz.func74.trans (congrArg some (by kernel_rfl))⟩
 f8:=⟨Tryz.f137.name,by decide,Tryz.func137.trans (congrArg some (by kernel_rfl))⟩
 f11:=⟨Tryz.f174.name,by decide,Tryz.func174.trans (congrArg some (by kernel_rfl))⟩
 t0:=Tryz.underlying0
 a0:=Tryz.isAgg0
 z0:=Tryz.sizeOf0
 v0:=Tryz.zeroValue0
 t24:=Tryz.underlying25
 a24:=Tryz.isAgg25
 z24:=Tryz.sizeOf25
 v24:=Tryz.zeroValue25
 t26:=Tryz.underlying3
 a26:=Tryz.isAgg3
 z26:=Tryz.sizeOf3
 v26:=Tryz.zeroValue3
 t28:=Tryz.underlying108
 a28:=Tryz.isAgg108
 z28:=Tryz.sizeOf108
 v28:=Tryz.zeroValue108
 i26:=by kernel_rfl }
end Go.Proofs
namespace Go.Proofs.YtbkjljffnkdcjaaGreat
open Go.RowKit Go.Maps Go.Sort
theorem PD (m:Nat):AnyZI.SortsIn Tryz.prog Tryz.uA Fence.wide m :=
 ⟨fun vk off cap ss W hH hblk di=>callsIn_wide.2 (Tryz.slices_Sort_int vk off cap ss W hH hblk di),
  fun p cap W=>callsIn_wide.2 (Tryz.slices_Sort_int_none p cap W)⟩
theorem PJ (b:Nat) (w:World):Calls Tryz.prog 75 #[.map (some b)] w fun e w' =>
  e=.returned (.func (.func 138) #[] #[.pointer (some ⟨w.heap.size,0,none⟩)])/\w'=w.alloc (.cells #[.map (some b)] 101) :=
 (callsIn_wide (n:=5)).1 (AnyZI.keys_in Tryz.Vz Fence.wide 5 trivial rfl (some b) w)
theorem jq.keys {w:World} {b n:Nat} {F:Int->Option Value} (h:jq w b n F):∃ D:DataW Unit,w.ownsMap Tryz.prog 3 qB b n D/\Maps.size D<=n/\(intKeys D).Nodup/\∀ x,x∈intKeys D↔bn x/\(F x).isSome=true:=by
 obtain⟨D,bL,hD⟩:=h;obtain⟨es,rfl,hpw,_⟩:=bL.entries bM;obtain⟨es',e,Kf⟩:=bL.keysOf;obtain rfl:es=es':=by simpa using e
 have hk:∀ p∈es,∃ x,p.1=.int .i64 x/\bn x:=fun p hp=>by
  obtain⟨v,hv⟩:=Kf p hp;obtain⟨x,_,hx,hw⟩:=Maps.keyOf_i64 Tryz.underlying3 hv;exact⟨x,hx,hw⟩
 refine⟨_,bL,bL.size_le,?_,fun x=>?_⟩
 ·show (es.map fun p=>Go.intOf p.1).Nodup
  refine List.pairwise_map.2 (hpw.imp_of_mem fun {p q} hp' hq' bh e=>bh ?_);obtain⟨a,ha,-⟩:=hk p hp';obtain⟨c,hc,-⟩:=hk q hq';rw[ha,hc] at e ⊢;exact congrArg _ e
 show x∈es.map (fun p=>Go.intOf p.1)↔_;rw[List.mem_map];constructor
 ·rintro ⟨p,hp,rfl⟩
  obtain⟨a,ha,hi⟩:=hk p hp;rw[ha];show bn a/\(F a).isSome=true;refine⟨hi,?_⟩;rw[<-(hD a hi).1,has_eq,Qh];exact⟨p,hp,by rw[ha];simp[Lit.sameKey]⟩
 rintro ⟨hi,hs⟩;rw[<-(hD x hi).1,has_eq,Qh] at hs;obtain⟨p,hp,hs⟩:=hs;obtain⟨a,ha,-⟩:=hk p hp;rw[ha] at hs;refine⟨p,hp,?_⟩;rw[ha];simpa[Lit.sameKey,Go.intOf] using hs
theorem GO (b n:Nat) (F:Int->Option Value) (ks:List Int) (w:World) (h:jq w b n F) (hn:n<=1000000) (hks:ks.Nodup) (hm:∀ x,x∈ks↔bn x/\(F x).isSome=true) :
  Calls Tryz.prog 74 #[.func (.func 138) #[] #[.pointer (some ⟨w.heap.size,0,none⟩)]] (w.alloc (.cells #[.map (some b)] 101)) fun e w' =>
   ∃ v,e=.returned v/\ax w' w.heap.size v (ks.mergeSort fun x y=>decide (x<=y))/\ai [] w w':=by
 obtain⟨D,bL,di,fs,cV⟩:=h.keys;have fT:=bL.lt;have alb:SeqGives Fence.wide 2 Tryz.prog 138 #[.pointer (some ⟨w.heap.size,0,none⟩)] encZ (fun ss=>ss.Perm (intKeys D)) (Maps.size D) (w.alloc (.cells #[.map (some b)] 101)) :=
  AnyZI.keys_gives (ρ:=Tryz.zX) { Tryz.Vz with } Fence.wide _ trivial rfl (by omega) w.heap.size b n D _ (by simp) (by simp) (by
   obtain⟨es,clock,hb,Ft,hs,hD⟩:=bL;exact⟨es,clock,(Below.heap_alloc _ _ b fT).trans hb,Ft,hs,hD⟩)
 have cS:=AnyZI.sorted_in Tryz.Tt Fence.wide 5 trivial trivial trivial trivial rfl (by omega) (PD _) (enters_of Tryz.func110 (by kernel_rfl) rfl) 138 #[.pointer (some ⟨w.heap.size,0,none⟩)] trivial (enters_of Tryz.func138 (by kernel_rfl) rfl) _ _ (show Maps.size D<=maxLen by unfold maxLen;omega) (by omega) _ alb;refine ((callsIn_wide (n:=5)).1 cS).mono ?_;rintro e w' ⟨v,ss,rfl,hS,bd,-,hb⟩;have dA:ss.Perm ks:=hS.trans ((List.perm_ext_iff_of_nodup fs hks).2 fun x=>by rw[cV,hm]);have EC:(ss.mergeSort fun x y=>decide (x<=y))=ks.mergeSort fun x y=>decide (x<=y):=mergeSort_of_perm_i dA;have hlen:ss.length=(ks.mergeSort fun x y=>decide (x<=y)).length:=by rw[dA.length_eq,(Qc _ _).length_eq]
 rw[EC] at bd;have hc:ai [] w (w.alloc (.cells #[.map (some b)] 101)):=(ai.refl _ _).alloc _;refine⟨v,rfl,⟨?_,fun x hx=>?_,?_⟩,hc.t (ai.n9 hb (Nat.le_refl _))⟩
 ·rw[hlen] at bd
  exact oR bd hc.size
 ·exact ((hm x).1 ((Qc _ _).mem_iff.1 hx)).1
 have h1:(intKeys D).length=Maps.size D:=by
  obtain⟨es,rfl,-⟩:=bL.entries bM;show (es.map _).length=es.length;simp
 have:=hS.length_eq;omega
end Go.Proofs.YtbkjljffnkdcjaaGreat
