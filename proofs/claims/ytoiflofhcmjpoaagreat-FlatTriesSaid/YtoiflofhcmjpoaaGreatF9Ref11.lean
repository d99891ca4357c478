/- the document's blocks: the contracts of pZ, Together. Conditions: a right part that lies in memory and reads so; a iq, ag of it. -/
import Derived.Test.YtoiflofhcmjpoaaGreatF9SkF
set_option maxRecDepth 100000
set_option maxHeartbeats 8000000
open Go.Act renaming put→Qa
open List renaming take_length→Qb,length_filter_le→Qe,append_nil→Qk
open Bool renaming eq_false_iff→Qc
open Classical renaming propDecidable→Qd
open Or renaming inr→Qf,inl→Ql
open Go.Value renaming slice→Qg,int→Qi
open Int renaming toNat_natCast→Qh
open Nat renaming zero_le→Qj,le_trans→Qm
-- READS ONLY
namespace Go.Proofs.YtoiflofhcmjpoaaGreat
open Plain
open Go.RowKit Go.Maps
namespace Plain
variable {g:Gr} {p:Pt} {v e f:Int}
noncomputable def fh (g:Gr) (p:Pt) (v e f:Int):Bool:=@decide (pZ g p v e f) (Qd _)
theorem nZ:fh g p v e f=true↔pZ g p v e f:=by unfold fh;exact @decide_eq_true_iff _ (Qd _)
theorem xk (g:Gr) (p:Pt) (v e:Int):fh g p v e e=false:=by
 rw[Qc];intro h;exact (nZ.1 h).1 rfl
theorem oX (bn:e≠f) (h:((g.at e).1=v/\(g.at e).2=v)\/((g.at f).1=v/\(g.at f).2=v)):fh g p v e f=true:=by
 rw[nZ];exact⟨bn,h.elim Ql λk=>Qf (Ql k)⟩
theorem lR {M:List Int} (bn:e≠f) (h1:¬ ((g.at e).1=v/\(g.at e).2=v)) (h2:¬ ((g.at f).1=v/\(g.at f).2=v)) (hM:∀ u,u∈M↔bS g p v (off g v e) u):fh g p v e f=!decide (off g v f∈M):=by
 rw[Bool.eq_iff_iff,nZ,Bool.not_eq_true',decide_eq_false_iff_not,hM];constructor
 ·rintro ⟨-,k | k | k⟩
  ·exact absurd k h1
  ·exact absurd k h2
  exact k
 exact λk=>⟨bn,Qf (Qf k)⟩
end Plain
theorem BP (w:World) (A B:Array Value) (t:TypeId):((w.alloc (.cells A t)).alloc (.cells B t)).drew.heap[w.heap.size]?=some (.cells A t (0,0))/\((w.alloc (.cells A t)).alloc (.cells B t)).drew.heap[w.heap.size+1]?=some (.cells B t (0,0)) /\
  ai [] w ((w.alloc (.cells A t)).alloc (.cells B t)).drew:=by
 have hc:=((ai.refl [] w).alloc (.cells A t));have h1:=heap_alloc_new w (.cells A t);have h2:=heap_alloc_new (w.alloc (.cells A t)) (.cells B t);rw[show (w.alloc (.cells A t)).heap.size=w.heap.size+1 by simp] at h2;exact⟨((ai.refl [] (w.alloc (.cells A t))).alloc (.cells B t)).drew.hp h1,(ai.refl [] ((w.alloc (.cells A t)).alloc (.cells B t))).drew.hp h2,(hc.alloc _).drew⟩
theorem Nb (vg vp:Value) (g:Gr) (p:Pt) (v e f:Int) (w:World) (hV:p.v.length<=1000000) (hE:p.e.length<=1000000) (hr:p.err g=0) (he:e∈p.e) (hf:f∈p.e) (hg:cA w vg g) (hp:dt w vp p) :
  Calls Tryz.prog 153 #[vg,vp,.int .i64 v,.int .i64 e,.int .i64 f] w λx w'=>x=.returned (.bool (fh g p v e f))/\ai [] w w':=by
 have HR:=lh hr;have ni:=lh (Pt.ax hr);have jw:=Gr.aF (Pt.aF hr).1;have Es:=Pt.gS hr he;have hf2:=Pt.gS hr hf;have Iu:=lh he;have q9:=lh hf;have Sg:=jw.2.2.1;have aam:=jw.1;obtain⟨eo,cap,ao,ac,bo,bc,rfl,rfl,HG,HP,hm,uJ,oJ,pU,nG,xL,uD,aY,bm⟩:=eF hg hp;clear hg hp;obtain⟨x0,x1,y0,y1,bs⟩:=bm.out _ (ai.refl _ _);clear jw Es hf2 Sg aam;go_enter Tryz.func153,Tryz.ntmps153;go_upto_region 1 with fail;obtain⟨w1,gu⟩:∃ w1,((w.alloc (.cells #[.int .i64 g.n,.slice eo g.e.length cap] 24)).alloc (.cells #[.slice ao p.v.length ac,.slice bo p.e.length bc] 27))=w1:=⟨_,rfl⟩;rw[gu] at aY bm ⊢;clear gu x0 x1 y0 y1 bs;obtain⟨x0,x1,y0,y1,bs⟩:=bm.out w1 (ai.refl _ _);have jw:=Gr.aF (Pt.aF HR.out).1;have Es:=Pt.gS HR.out he;have hf2:=Pt.gS HR.out hf;have Sg:=jw.2.2.1;have aam:=jw.1;obtain⟨en,rfl⟩:∃ en:Nat,e=en:=⟨e.toNat,by omega⟩;obtain⟨fn,rfl⟩:∃ fn:Nat,f=fn:=⟨f.toNat,by omega⟩;have iM:en<g.e.length:=by omega
 have A8:fn<g.e.length:=by omega
 have mN:en<2000:=by omega
 have hfi:fn<2000:=by omega
 obtain⟨eo2,tM,eq2,-,-,-,lu⟩:=HG.out;cases eq2;obtain⟨gb,Wc,rfl,a0,a1⟩:=lu en iM;obtain⟨gb2,aqI,eqq,b0,b1⟩:=lu fn A8;simp only[Option.some.injEq,Addr.mk.injEq,and_true] at eqq;obtain⟨rfl,rfl⟩:=eqq;have HAE:=lh (show g.at (en:Int)=g.ends en by unfold Gr.at;rw[Qh]);have HAF:=lh (show g.at (fn:Int)=g.ends fn by unfold Gr.at;rw[Qh]);obtain⟨ea,AM⟩:∃ ea,(g.ends en).1=ea:=⟨_,rfl⟩;obtain⟨eb,Yr⟩:∃ eb,(g.ends en).2=eb:=⟨_,rfl⟩;obtain⟨fa,vi⟩:∃ fa,(g.ends fn).1=fa:=⟨_,rfl⟩;obtain⟨fb,Ps⟩:∃ fb,(g.ends fn).2=fb:=⟨_,rfl⟩;rw[AM] at a0;rw[Yr] at a1;rw[vi] at b0;rw[Ps] at b1;have II:=lh (show (g.at (en:Int)).1=ea by rw[HAE.out,AM]);have En:=lh (show (g.at (en:Int)).2=eb by rw[HAE.out,Yr]);have rZ:=lh (show (g.at (fn:Int)).1=fa by rw[HAF.out,vi]);have H9:=lh (show (g.at (fn:Int)).2=fb by rw[HAF.out,Ps]);have a0':=aY.out.bO a0;have a1':=aY.out.bO a1;have b0':=aY.out.bO b0;have b1':=aY.out.bO b1;clear jw Es hf2 he hf lu a0 a1 b0 b1 AM Yr vi Ps Sg aam;go_cut [11,12] (λc11 Jk wc=>∃ xb yb,c11=.pointer (some ⟨xb,0,none⟩)/\Jk=.pointer (some ⟨yb,0,none⟩)/\wc.heap[xb]?=some (.cells #[.int .i64 ea,.int .i64 eb] 72 (0,0))/\wc.heap[yb]?=some (.cells #[.int .i64 fa,.int .i64 fb] 72 (0,0))/\ai [] w1 wc)
 case first =>
  have aG:ai [] w1 w1.drew:=(ai.refl [] w1).drew;refine al (ai [] w1) [0,1,2,3,4,5,6,7,8,9] (Way.line [0,1,2,3,4,5,6,7,8,9] (.fork 10 11 (Way.line [11,12,13] .done) (Way.line [10,12,13] .done))) (by kernel_rfl) (by kernel_rfl) ?_;simp only[Way.line]
  repeat (refine aj (v:=?_) rfl (by rfl) (by rfl) (λ_ _ _ h=>h) aG (λw' aB=>?_) ?_;rotate_left;(focus (have fE:=aB.c x1;have fV:=aB.c a0';have kD:=aB.c a1';have tq:=aB.c b0';have MD:=aB.c b1';clear aB;go_simp;try with_reducible rfl));simp only[Qa,Z1,Z2,Z3,Z4,Z5,Z6])
  refine JR (by rfl) (by rfl) ?_ ?_
  ·refine aq rfl (by rfl) (by rfl) (λK hK=>?_)
   go_simp;refine hK.out _ _ (λ_=>aG.alloc _) ?_;clear hK K;try simp only[Qa,Z1,Z2,Z3,Z4,Z5,Z6]
   refine aq rfl (by rfl) (by rfl) (λK hK=>?_);go_simp;refine hK.out _ _ (λ_=>(aG.alloc _).alloc _) ?_;clear hK K;try simp only[Qa,Z1,Z2,Z3,Z4,Z5,Z6]
   refine aq rfl (by rfl) (by rfl) (λK hK=>?_);go_simp;refine hK.out _ _ (λ_=>(aG.alloc _).alloc _) ?_;clear hK K;try simp only[Qa,Z1,Z2,Z3,Z4,Z5,Z6]
   refine aq rfl (by rfl) (by rfl) (λK hK=>?_);go_simp;refine hK.out _ _ (λh=>absurd h (Qc.1 (by kernel_rfl))) ?_;clear hK K;try simp only[Qa,Z1,Z2,Z3,Z4,Z5,Z6]
   refine ar ?_;clear aG x1 a0' a1' b0' b1';go_wp2;go_meet;case rel =>
    obtain⟨q1,q2,q3⟩:=BP w1 #[.int .i64 ea,.int .i64 eb] #[.int .i64 fa,.int .i64 fb] 72;exact⟨_,_,rfl,rfl,q1,q2,q3⟩
  refine aq rfl (by rfl) (by rfl) (λK hK=>?_);go_simp;refine hK.out _ _ (λ_=>aG.alloc _) ?_;clear hK K;try simp only[Qa,Z1,Z2,Z3,Z4,Z5,Z6]
  refine aq rfl (by rfl) (by rfl) (λK hK=>?_);go_simp;refine hK.out _ _ (λ_=>(aG.alloc _).alloc _) ?_;clear hK K;try simp only[Qa,Z1,Z2,Z3,Z4,Z5,Z6]
  refine aq rfl (by rfl) (by rfl) (λK hK=>?_);go_simp;refine hK.out _ _ (λ_=>(aG.alloc _).alloc _) ?_;clear hK K;try simp only[Qa,Z1,Z2,Z3,Z4,Z5,Z6]
  refine aq rfl (by rfl) (by rfl) (λK hK=>?_);go_simp;refine hK.out _ _ (λh=>absurd h (Qc.1 (by kernel_rfl))) ?_;clear hK K;try simp only[Qa,Z1,Z2,Z3,Z4,Z5,Z6]
  refine ar ?_;clear aG x1 a0' a1' b0' b1';go_wp2;go_meet;case rel =>
   obtain⟨q1,q2,q3⟩:=BP w1 #[.int .i64 fa,.int .i64 fb] #[.int .i64 ea,.int .i64 eb] 72;exact⟨_,_,rfl,rfl,q2,q1,q3⟩
 case rest =>
  obtain⟨xb,yb,rfl,rfl,hx,hy,hc⟩:=hcut;have HC:=lh hc;have HX:=lh hx;have HY:=lh hy;have q0:=(cell_of_row _ _ 0 _ _ _ hx).trans (show _=some (Qi .i64 ea) from rfl);have q1:=(cell_of_row _ _ 1 _ _ _ hx).trans (show _=some (Qi .i64 eb) from rfl);have q2:=(cell_of_row _ _ 0 _ _ _ hy).trans (show _=some (Qi .i64 fa) from rfl);have q3:=(cell_of_row _ _ 1 _ _ _ hy).trans (show _=some (Qi .i64 fb) from rfl);clear hx hy hc x0 x1 y0 y1 a0' a1' b0' b1' bs;by_cases h0:en=fn
  ·subst h0
   have HF:=lh (xk g p v en);go_wp2;go_ret;exact⟨aM (by show _=fh g p v en en;rw[HF.out]),aY.out.tr HC.out⟩
  have b0:((en:Int)==(fn:Int))=false:=by rw[beq_eq_false_iff_ne];omega
  have jq:=lh (show (en:Int)≠fn by omega);clear h0;by_cases p1:ea=v
  ·have b1:(ea==v)=true:=by rw[beq_iff_eq];exact p1
   by_cases p2:eb=v
   ·have b2:(eb==v)=true:=by rw[beq_iff_eq];exact p2
    have HT:=lh (oX (g:=g) (p:=p) (v:=v) jq.out (Ql ⟨II.out.trans p1,En.out.trans p2⟩));clear p1 p2;go_wp2;go_ret;exact⟨aM (by show _=fh g p v en fn;rw[HT.out]),aY.out.tr HC.out⟩
   have b2:(eb==v)=false:=by rw[beq_eq_false_iff_ne];exact p2
   by_cases p3:fa=v
   ·have b3:(fa==v)=true:=by rw[beq_iff_eq];exact p3
    by_cases p4:fb=v
    ·have b4:(fb==v)=true:=by rw[beq_iff_eq];exact p4
     have HT:=lh (oX (g:=g) (p:=p) (v:=v) jq.out (Qf ⟨rZ.out.trans p3,H9.out.trans p4⟩));clear p1 p2 p3 p4;go_wp2;go_ret;exact⟨aM (by show _=fh g p v en fn;rw[HT.out]),aY.out.tr HC.out⟩
    have b4:(fb==v)=false:=by rw[beq_eq_false_iff_ne];exact p4
    have HOE:=lh (show off g v en=eb by unfold off;rw[II.out,En.out,if_pos p1]);have Z0:=lh (show off g v fn=fb by unfold off;rw[rZ.out,H9.out,if_pos p3]);have Iw:=lh (λM hM=>lR (g:=g) (p:=p) (v:=v) (M:=M) jq.out (by rw[II.out,En.out];exact λk=>p2 k.2) (by rw[rZ.out,H9.out];exact λk=>p4 k.2) hM);have Mv:=lh (show eb∈p.v from by have:=ni.out.ends _ Iu.out;rw[II.out,En.out] at this;exact this.2);have I1:bF eb:=by have h1:=ni.out.vr _ Mv.out;have h2:=(Gr.aF (Pt.aF HR.out).1).2.1;exact bF.mk (by omega) (by omega)
    clear p1 p3 p2 p4;go_wp2_with fail;have aG:ai [] wc wc.drew:=(ai.refl [] wc).drew;refine al (ai [] wc) [0,1,2,3,4,5] (Way.line [0,1,2,3,4,5] .done) (by kernel_rfl) (by kernel_rfl) ?_;simp only[Way.line]
    repeat (refine aj (v:=?_) rfl (by rfl) (by rfl) (λ_ _ _ h=>h) aG (λw' aB=>?_) ?_;rotate_left;(focus (have fE:=aB.c q0;have fV:=aB.c q2;clear aB;go_simp;try with_reducible rfl));simp only[Qa,Z1,Z2,Z3,Z4,Z5,Z6])
    refine ar ?_;have eW:=lh (HC.out.tr aG);have q1:=aG.bO q1;have q3:=aG.bO q3;obtain⟨x0,x1,y0,y1,bs⟩:=bm.out _ eW.out;clear q0 q2 aG;generalize wc.drew=w4 at *;go_wp2_with fail;have ca:=(ai.refl [] w4).alloc (.cells #[.int .i64 eb] 3);refine (kV _ _ _ g p eb v _ hV hE HR.out Mv.out (HG.out.fresh ((aY.out.tr eW.out).tr ca)) (HP.out.fresh ((aY.out.tr eW.out).tr ca)) (dI w4 I1)).mono ?_;rintro _ w5 ⟨v5,M,rfl,nf,hM,-,dV⟩;have rD:=lh nf;have WW:=lh (Iw.out M (by rw[HOE.out];exact hM));have fG:=lh (((aY.out.tr eW.out).tr ca).tr dV);clear nf hM dV ca x0 x1 y0 y1 bs q1 q3;go_wp2_with fail;refine (iY _ M _ _ rD.out.ints).mono ?_;rintro _ w6 ⟨rfl,hc6⟩;have fC:=lh (fG.out.tr hc6);clear hc6;go_wp2;go_ret;exact⟨aM (by show _=fh g p v en fn;rw[WW.out,Z0.out]),fC.out⟩
   have b3:(fa==v)=false:=by rw[beq_eq_false_iff_ne];exact p3
   have HOE:=lh (show off g v en=eb by unfold off;rw[II.out,En.out,if_pos p1]);have Z0:=lh (show off g v fn=fa by unfold off;rw[rZ.out,H9.out,if_neg p3]);have Iw:=lh (λM hM=>lR (g:=g) (p:=p) (v:=v) (M:=M) jq.out (by rw[II.out,En.out];exact λk=>p2 k.2) (by rw[rZ.out,H9.out];exact λk=>p3 k.1) hM);have Mv:=lh (show eb∈p.v from by have:=ni.out.ends _ Iu.out;rw[II.out,En.out] at this;exact this.2);have I1:bF eb:=by have h1:=ni.out.vr _ Mv.out;have h2:=(Gr.aF (Pt.aF HR.out).1).2.1;exact bF.mk (by omega) (by omega)
   clear p1 p3 p2;go_wp2_with fail;have aG:ai [] wc wc.drew:=(ai.refl [] wc).drew;refine al (ai [] wc) [0,1,2,3,4,5] (Way.line [0,1,2,3,4,5] .done) (by kernel_rfl) (by kernel_rfl) ?_;simp only[Way.line]
   repeat (refine aj (v:=?_) rfl (by rfl) (by rfl) (λ_ _ _ h=>h) aG (λw' aB=>?_) ?_;rotate_left;(focus (have fE:=aB.c q0;have fV:=aB.c q2;clear aB;go_simp;try with_reducible rfl));simp only[Qa,Z1,Z2,Z3,Z4,Z5,Z6])
   refine ar ?_;have eW:=lh (HC.out.tr aG);have q1:=aG.bO q1;have q3:=aG.bO q3;obtain⟨x0,x1,y0,y1,bs⟩:=bm.out _ eW.out;clear q0 q2 aG;generalize wc.drew=w4 at *;go_wp2_with fail;have ca:=(ai.refl [] w4).alloc (.cells #[.int .i64 eb] 3);refine (kV _ _ _ g p eb v _ hV hE HR.out Mv.out (HG.out.fresh ((aY.out.tr eW.out).tr ca)) (HP.out.fresh ((aY.out.tr eW.out).tr ca)) (dI w4 I1)).mono ?_;rintro _ w5 ⟨v5,M,rfl,nf,hM,-,dV⟩;have rD:=lh nf;have WW:=lh (Iw.out M (by rw[HOE.out];exact hM));have fG:=lh (((aY.out.tr eW.out).tr ca).tr dV);clear nf hM dV ca x0 x1 y0 y1 bs q1 q3;go_wp2_with fail;refine (iY _ M _ _ rD.out.ints).mono ?_;rintro _ w6 ⟨rfl,hc6⟩;have fC:=lh (fG.out.tr hc6);clear hc6;go_wp2;go_ret;exact⟨aM (by show _=fh g p v en fn;rw[WW.out,Z0.out]),fC.out⟩
  have b1:(ea==v)=false:=by rw[beq_eq_false_iff_ne];exact p1
  by_cases p3:fa=v
  ·have b3:(fa==v)=true:=by rw[beq_iff_eq];exact p3
   by_cases p4:fb=v
   ·have b4:(fb==v)=true:=by rw[beq_iff_eq];exact p4
    have HT:=lh (oX (g:=g) (p:=p) (v:=v) jq.out (Qf ⟨rZ.out.trans p3,H9.out.trans p4⟩));clear p1 p3 p4;go_wp2;go_ret;exact⟨aM (by show _=fh g p v en fn;rw[HT.out]),aY.out.tr HC.out⟩
   have b4:(fb==v)=false:=by rw[beq_eq_false_iff_ne];exact p4
   have HOE:=lh (show off g v en=ea by unfold off;rw[II.out,En.out,if_neg p1]);have Z0:=lh (show off g v fn=fb by unfold off;rw[rZ.out,H9.out,if_pos p3]);have Iw:=lh (λM hM=>lR (g:=g) (p:=p) (v:=v) (M:=M) jq.out (by rw[II.out,En.out];exact λk=>p1 k.1) (by rw[rZ.out,H9.out];exact λk=>p4 k.2) hM);have Mv:=lh (show ea∈p.v from by have:=ni.out.ends _ Iu.out;rw[II.out,En.out] at this;exact this.1);have I1:bF ea:=by have h1:=ni.out.vr _ Mv.out;have h2:=(Gr.aF (Pt.aF HR.out).1).2.1;exact bF.mk (by omega) (by omega)
   clear p1 p3 p4;go_wp2_with fail;have aG:ai [] wc wc.drew:=(ai.refl [] wc).drew;refine al (ai [] wc) [0,1,2,3,4,5] (Way.line [0,1,2,3,4,5] .done) (by kernel_rfl) (by kernel_rfl) ?_;simp only[Way.line]
   repeat (refine aj (v:=?_) rfl (by rfl) (by rfl) (λ_ _ _ h=>h) aG (λw' aB=>?_) ?_;rotate_left;(focus (have fE:=aB.c q0;have fV:=aB.c q2;clear aB;go_simp;try with_reducible rfl));simp only[Qa,Z1,Z2,Z3,Z4,Z5,Z6])
   refine ar ?_;have eW:=lh (HC.out.tr aG);have q1:=aG.bO q1;have q3:=aG.bO q3;obtain⟨x0,x1,y0,y1,bs⟩:=bm.out _ eW.out;clear q0 q2 aG;generalize wc.drew=w4 at *;go_wp2_with fail;have ca:=(ai.refl [] w4).alloc (.cells #[.int .i64 ea] 3);refine (kV _ _ _ g p ea v _ hV hE HR.out Mv.out (HG.out.fresh ((aY.out.tr eW.out).tr ca)) (HP.out.fresh ((aY.out.tr eW.out).tr ca)) (dI w4 I1)).mono ?_;rintro _ w5 ⟨v5,M,rfl,nf,hM,-,dV⟩;have rD:=lh nf;have WW:=lh (Iw.out M (by rw[HOE.out];exact hM));have fG:=lh (((aY.out.tr eW.out).tr ca).tr dV);clear nf hM dV ca x0 x1 y0 y1 bs q1 q3;go_wp2_with fail;refine (iY _ M _ _ rD.out.ints).mono ?_;rintro _ w6 ⟨rfl,hc6⟩;have fC:=lh (fG.out.tr hc6);clear hc6;go_wp2;go_ret;exact⟨aM (by show _=fh g p v en fn;rw[WW.out,Z0.out]),fC.out⟩
  have b3:(fa==v)=false:=by rw[beq_eq_false_iff_ne];exact p3
  have HOE:=lh (show off g v en=ea by unfold off;rw[II.out,En.out,if_neg p1]);have Z0:=lh (show off g v fn=fa by unfold off;rw[rZ.out,H9.out,if_neg p3]);have Iw:=lh (λM hM=>lR (g:=g) (p:=p) (v:=v) (M:=M) jq.out (by rw[II.out,En.out];exact λk=>p1 k.1) (by rw[rZ.out,H9.out];exact λk=>p3 k.1) hM);have Mv:=lh (show ea∈p.v from by have:=ni.out.ends _ Iu.out;rw[II.out,En.out] at this;exact this.1);have I1:bF ea:=by have h1:=ni.out.vr _ Mv.out;have h2:=(Gr.aF (Pt.aF HR.out).1).2.1;exact bF.mk (by omega) (by omega)
  clear p1 p3;go_wp2_with fail;have aG:ai [] wc wc.drew:=(ai.refl [] wc).drew;refine al (ai [] wc) [0,1,2,3,4,5] (Way.line [0,1,2,3,4,5] .done) (by kernel_rfl) (by kernel_rfl) ?_;simp only[Way.line]
  repeat (refine aj (v:=?_) rfl (by rfl) (by rfl) (λ_ _ _ h=>h) aG (λw' aB=>?_) ?_;rotate_left;(focus (have fE:=aB.c q0;have fV:=aB.c q2;clear aB;go_simp;try with_reducible rfl));simp only[Qa,Z1,Z2,Z3,Z4,Z5,Z6])
  refine ar ?_;have eW:=lh (HC.out.tr aG);have q1:=aG.bO q1;have q3:=aG.bO q3;obtain⟨x0,x1,y0,y1,bs⟩:=bm.out _ eW.out;clear q0 q2 aG;generalize wc.drew=w4 at *;go_wp2_with fail;have ca:=(ai.refl [] w4).alloc (.cells #[.int .i64 ea] 3);refine (kV _ _ _ g p ea v _ hV hE HR.out Mv.out (HG.out.fresh ((aY.out.tr eW.out).tr ca)) (HP.out.fresh ((aY.out.tr eW.out).tr ca)) (dI w4 I1)).mono ?_;rintro _ w5 ⟨v5,M,rfl,nf,hM,-,dV⟩;have rD:=lh nf;have WW:=lh (Iw.out M (by rw[HOE.out];exact hM));have fG:=lh (((aY.out.tr eW.out).tr ca).tr dV);clear nf hM dV ca x0 x1 y0 y1 bs q1 q3;go_wp2_with fail;refine (iY _ M _ _ rD.out.ints).mono ?_;rintro _ w6 ⟨rfl,hc6⟩;have fC:=lh (fG.out.tr hc6);clear hc6;go_wp2;go_ret;exact⟨aM (by show _=fh g p v en fn;rw[WW.out,Z0.out]),fC.out⟩
end Go.Proofs.YtoiflofhcmjpoaaGreat
-- READS ONLY
namespace Go.Proofs.YtoiflofhcmjpoaaGreat
open Plain
open Go.RowKit Go.Maps
namespace Plain
noncomputable def pL (g:Gr) (p:Pt) (e f:Int):Bool:=p.v.all λv=>!fh g p v e f
theorem RC {g:Gr} {p:Pt} {e f:Int}:pL g p e f=true↔∀ v∈p.v,¬ pZ g p v e f:=by
 grind [pL,nZ]
end Plain
theorem Vm (vg vp:Value) (g:Gr) (p:Pt) (e f:Int) (w:World) (hV:p.v.length<=1000000) (hE:p.e.length<=1000000) (hr:p.err g=0) (he:e∈p.e) (hf:f∈p.e) (hg:cA w vg g) (hp:dt w vp p) :
  Calls Tryz.prog 106 #[vg,vp,.int .i64 e,.int .i64 f] w λx w'=>x=.returned (.bool (pL g p e f))/\ai [] w w':=by
 have HR:=lh hr;have Iu:=lh he;have q9:=lh hf;obtain⟨eo,cap,ao,ac,bo,bc,rfl,rfl,HG,HP,hm,uJ,oJ,pU,nG,xL,uD,aY,bm⟩:=eF hg hp;clear hg hp;obtain⟨x0,x1,y0,y1,bs⟩:=bm.out _ (ai.refl _ _);clear he hf;go_enter Tryz.func106,Tryz.ntmps106;go_wp2_with fail;obtain⟨w1,gu⟩:∃ w1,((w.alloc (.cells #[.int .i64 g.n,.slice eo g.e.length cap] 24)).alloc (.cells #[.slice ao p.v.length ac,.slice bo p.e.length bc] 27))=w1:=⟨_,rfl⟩;rw[gu] at aY bm ⊢;clear gu x0 x1 y0 y1 bs;go_loopw [9] (λiv wr=>∃ k:Nat,k<=p.v.length/\iv=.int .i64 k/\Hid (∀ j,j<k->fh g p (p.v.getD j 0) e f=false)/\ai [] w1 wr) (λiv _=>p.v.length - (intOf iv).toNat);case atStart=>exact⟨0,Qj _,rfl,lh (by omega),ai.refl _ _⟩
 case round =>
  obtain⟨k,hk,rfl,gV,hc⟩:=hrel;have HC:=lh hc;obtain⟨x0,x1,y0,y1,bs⟩:=bm.out _ hc;clear hc;by_cases aW:k<p.v.length
  ·obtain⟨ab,lH,rfl,Ia⟩:=pU.out (by grind)
   have ck:=(aY.out.tr HC.out).bO (Ia k aW);have HGV:=lh (λ(h:fh g p (p.v.getD k 0) e f=false) j (hj:j<k+1)=>show fh g p (p.v.getD j 0) e f=false from by
    by_cases q:j=k
    ·rw[q];exact h
    exact gV.out j (by omega))
   have Eu:=lh (λ(h:fh g p (p.v.getD k 0) e f=true)=>show pL g p e f=false from by
    grind [pL,aQ])
   obtain⟨v,hv⟩:∃ v,p.v.getD k 0=v:=⟨_,rfl⟩;rw[hv] at ck HGV Eu;clear Ia hv;go_wp2_with fail;have aG:ai [] wr wr.drew:=(ai.refl [] wr).drew;refine al (ai [] wr) [0,1,2,3,4,5,6,7,8] (Way.line [0,1,2,3,4,5,6,7,8,9] .done) (by kernel_rfl) (by kernel_rfl) ?_;simp only[Way.line]
   repeat (refine aj (v:=?_) rfl (by rfl) (by rfl) (λ_ _ _ h=>h) aG (λw' aB=>?_) ?_;rotate_left;(focus (have fE:=aB.c x0;have fV:=aB.c x1;have kD:=aB.c y0;have tq:=aB.c y1;have MD:=aB.c ck;clear aB;go_simp;try with_reducible rfl));simp only[Qa,Z1,Z2,Z3,Z4,Z5,Z6])
   refine aq rfl (by rfl) (by rfl) (λK hK=>?_);go_simp;refine (Nb _ _ g p v e f _ hV hE HR.out Iu.out q9.out (HG.out.fresh ((aY.out.tr HC.out).tr aG)) (HP.out.fresh ((aY.out.tr HC.out).tr aG))).mono ?_;rintro e w3 ⟨rfl,eV⟩;have bH:=aG.t eV;clear aG eV;have aG:=bH;clear bH;refine hK.out _ _ (λ_=>aG) ?_;clear hK K;try simp only[Qa,Z1,Z2,Z3,Z4,Z5,Z6]
   refine ar ?_;have b8:=lh (HC.out.tr aG);clear aG x0 x1 y0 y1 bs ck;cases hb:fh g p v e f with
   | true =>
    have HT:=lh (Eu.out hb);clear hb;go_wp2;go_ret;exact⟨aM (by show _=pL g p e f;rw[HT.out]),aY.out.tr b8.out⟩
   | false =>
    have HT:=lh (HGV.out hb);clear hb;go_wp2;go_roundw;case rel=>exact⟨k+1,by omega,by go_num,HT,b8.out⟩
    case measure=>simp[intOf];omega
  have e1:k=p.v.length:=by omega
  subst e1;have HT:=lh (show pL g p e f=true by
   unfold pL;rw[List.all_eq_true];intro v hv;obtain⟨i,hi,rfl⟩:=cr hv;rw[gV.out i hi];rfl)
  clear gV hk aW;go_wp2;go_ret;exact⟨aM (by show _=pL g p e f;rw[HT.out]),aY.out.tr HC.out⟩
end Go.Proofs.YtoiflofhcmjpoaaGreat
-- READS ONLY
namespace Go.Proofs.YtoiflofhcmjpoaaGreat
open Plain
open Go.RowKit Go.Maps
namespace Plain
noncomputable def iK (g:Gr) (p:Pt) (e:Int):List Int:=p.e.filter (pL g p e)
noncomputable def B7 (g:Gr) (p:Pt) (e:Int):Bool:=decide ((iK g p e).getD 0 0=e)
noncomputable def vY (g:Gr) (p:Pt):List Int:=p.e.filter (B7 g p)
noncomputable def rbV (g:Gr) (p:Pt) (e:Int):List Int:=(iB g (iK g p e)).v
theorem RO {g:Gr} {p:Pt} {e:Int} (he:e∈p.e):e∈iK g p e:=by
 grind [iK,pL,xk]
end Plain
theorem JL (vg vp:Value) (g:Gr) (p:Pt) (w:World) (hr:p.err g=0) (hg:cA w vg g) (hp:dt w vp p) :
  Calls Tryz.prog 49 #[vg,vp] w λx w'=>∃ ov xs,x=.returned ov/\bN w' w.heap.size 27 2 ov (vY g p).length xs (IP (rbV g p) (iK g p) (vY g p))/\ai [] w w':=by
 have HR:=lh hr;have fB:=lh (Pt.aF hr).1;obtain⟨hz4,hz5,hz6,-⟩:=Gr.aF (Pt.aF hr).1;have hE:p.e.length<=1024:=by have:=ep (Pt.aF hr).2.2.1;omega
 have hV:p.v.length<=1024:=by have:=ep (Pt.aF hr).2.1;omega
 have HE:=lh hE;have uk:=lh hV;clear hz4 hz5 hz6 hr;obtain⟨eo,cap,ao,ac,bo,bc,rfl,rfl,HG,HP,hm,uJ,oJ,pU,nG,xL,uD,aY,bm⟩:=eF hg hp;clear hg hp;obtain⟨x0,x1,y0,y1,bs⟩:=bm.out _ (ai.refl _ _);go_enter Tryz.func49,Tryz.ntmps49;go_wp2_with fail;obtain⟨w1,gu⟩:∃ w1,((w.alloc (.cells #[.int .i64 g.n,.slice eo g.e.length cap] 24)).alloc (.cells #[.slice ao p.v.length ac,.slice bo p.e.length bc] 27))=w1:=⟨_,rfl⟩;rw[gu] at aY bm ⊢;clear gu x0 x1 y0 y1 bs;have vG:=lh aY.out.size;go_loopw [5,6,7,8] (λc5 c6 _ _ wr=>∃ i:Nat,i<=p.e.length/\c6=.int .i64 i/\∃ n xs,Hid (n=((p.e.take i).filter (B7 g p)).length)/\bN wr w1.heap.size 27 2 c5 n xs (IP (rbV g p) (iK g p) ((p.e.take i).filter (B7 g p)))/\ai [] w1 wr) (λ_ c6 _ _ _=>p.e.length - (intOf c6).toNat);case atStart=>exact⟨0,Qj _,rfl,0,[],lh (by simp),bN.nil _ _ _ _,ai.refl _ _⟩
 case round =>
  obtain⟨i,hi,rfl,n,xs,hn,bn,hc⟩:=hrel;have jq:=lh bn;have HC:=lh hc;obtain⟨x0,x1,y0,y1,bs⟩:=bm.out _ hc;obtain⟨uo,uc,rfl⟩:=bn.shape;clear bn hc;by_cases aW:i<p.e.length
  ·obtain⟨eb,aoW,rfl,RD⟩:=nG.out (λq=>by grind)
   have HEC:=lh RD;have rA:=aQ aW;have Yy:=lh rA;have yn:=lh (dw (B7 g p) aW);obtain⟨e,he⟩:∃ e,p.e.getD i 0=e:=⟨_,rfl⟩;have ZB:=lh he;rw[he] at Yy yn;have HNL:=lh (show n<=1024 by rw[hn.out];exact Qm (Qe _ _) (by grind));have HBW:=lh (show w1.heap.size<=wr.heap.size from HC.out.size);clear RD rA he;go_wp2_with fail;rename World=>wo;go_loopw [7,8] (λc7 c8 wr=>∃ k:Nat,k<=p.e.length/\c8=.int .i64 k/\aw wr wo.heap.size c7 ((p.e.take k).filter (pL g p e))/\ai [] wo wr) (λ_ c8 _=>p.e.length - (intOf c8).toNat);case atStart=>exact⟨0,Qj _,rfl,by grind [da],ai.refl _ _⟩
   case round =>
    obtain⟨k,hk,rfl,aT,AB⟩:=hrel;have bA:=lh aT;have lY:=lh AB;have ji:=lh (HC.out.tr AB);clear x0 x1 y0 y1 bs;obtain⟨x0,x1,y0,y1,bs⟩:=bm.out _ ji.out;obtain⟨lo,lc,rfl⟩:=aT.shape;have xu:=lh (show ((p.e.take k).filter (pL g p e)).length<=1024 from Qm (Qe _ _) (by grind));clear aT AB;by_cases nn:k<p.e.length
    ·have ci:=(aY.out.tr ji.out).bO (HEC.out i aW)
     have ck:=(aY.out.tr ji.out).bO (HEC.out k nn);have EA:=aQ nn;have Vb:=lh EA;have Pw:=lh (dw (pL g p e) nn);have YK:bF (p.e.getD k 0):=by have:=Pt.gS HR.out EA;exact bF.mk (by omega) (by grind)
     rw[ZB.out] at ci;obtain⟨f,hf⟩:∃ f,p.e.getD k 0=f:=⟨_,rfl⟩;rw[hf] at ck Vb Pw YK;clear EA hf;go_wp2_with fail;have aG:ai [] wr wr.drew:=(ai.refl [] wr).drew;refine al (ai [] wr) [0,1,2,3,4,5,6,7,8,9,10,11] (Way.line [0,1,2,3,4,5,6,7,8,9,10,11,12] .done) (by kernel_rfl) (by kernel_rfl) ?_;simp only[Way.line]
     repeat (refine aj (v:=?_) rfl (by rfl) (by rfl) (λ_ _ _ h=>h) aG (λw' aB=>?_) ?_;rotate_left;(focus (have fE:=aB.c x0;have fV:=aB.c x1;have kD:=aB.c y0;have tq:=aB.c y1;have MD:=aB.c ci;have rd5:=aB.c ck;clear aB;go_simp;try with_reducible rfl));simp only[Qa,Z1,Z2,Z3,Z4,Z5,Z6])
     refine aq rfl (by rfl) (by rfl) (λK hK=>?_);go_simp;refine (Vm _ _ g p e f _ (by have:=uk.out;omega) (by have:=HE.out;omega) HR.out Yy.out Vb.out (HG.out.fresh ((aY.out.tr ji.out).tr aG)) (HP.out.fresh ((aY.out.tr ji.out).tr aG))).mono ?_;rintro e w3 ⟨rfl,eV⟩;have bH:=aG.t eV;clear aG eV;have aG:=bH;clear bH;refine hK.out _ _ (λ_=>aG) ?_;clear hK K;try simp only[Qa,Z1,Z2,Z3,Z4,Z5,Z6]
     refine ar ?_;have JX:=lh (bA.out.aL aG (by simp));have b8:=lh (lY.out.tr aG);have y13:=aG.bO y1;have ck3:=aG.bO ck;clear aG x0 x1 y0 y1 bs ci ck bA;cases hb:pL g p e f with
     | true =>
      have HK:=lh (Pw.out.trans (by rw[hb,if_pos rfl]));clear hb;obtain⟨M,hM⟩:∃ M,(p.e.take k).filter (pL g p e)=M:=⟨_,rfl⟩;rw[hM] at JX HK xu;have HM:=lh hM;have sd:M.length<4294967290:=by have:=xu.out;omega
      have HBO:=lh (show wo.heap.size<=w3.heap.size from b8.out.size);rw[hM];clear hM;go_wp2_with (at_builtin;refine eN rfl _ _ rfl (B:=wo.heap.size) (v:=.slice lo _ lc) rfl rfl JX.out YK HBO.out sd rfl ?_;intro v6 w6 r6 c6 f6;have R6:=lh r6;have C6:=lh c6;clear r6 c6 f6);go_roundw;case rel=>exact⟨k+1,by omega,by go_num,by rw[HK.out];exact R6.out,b8.out.trans C6.out (λj hj=>Qf (JX.out.low j (by rw[<-JX.out.aC];exact hj)).1)⟩
      case measure=>simp[intOf];omega
     | false =>
      have HK:=lh (Pw.out.trans (by rw[hb,if_neg (by simp),Qk]));clear hb;go_wp2;go_roundw;case rel=>exact⟨k+1,by omega,by go_num,by rw[HK.out];exact JX.out,b8.out⟩
      case measure=>simp[intOf];omega
    have e1:k=p.e.length:=by omega
    subst e1;have La:aw wr wo.heap.size (.slice lo (iK g p e).length lc) (iK g p e):=by have:=bA.out;rwa[Qb] at this
    have Wu:=lh (RO (g:=g) Yy.out);have tJ:=lh (show B7 g p e=decide ((iK g p e).getD 0 0=e) from rfl);have Eb:(iK g p e).length<=1024:=by have:=xu.out;rw[Qb] at this;exact this
    have HLM:=lh (show ∀ x∈iK g p e,x∈p.e from λx hx=>(List.mem_filter.1 hx).1);rw[show ((p.e.take p.e.length).filter (pL g p e)).length=(iK g p e).length by rw[Qb];rfl];have Iq:=lh (show rbV g p e=(iB g (iK g p e)).v/\(iB g (iK g p e)).e=iK g p e from⟨rfl,rfl⟩);obtain⟨L,hL⟩:∃ L,iK g p e=L:=⟨_,rfl⟩;rw[hL] at La Wu tJ Eb HLM Iq ⊢;have HL:=lh hL;have Da:0<L.length:=List.length_pos_iff.2 (List.ne_nil_of_mem Wu.out);obtain⟨lb,rfl,hlc⟩:=La.some Da;have Ss:=hlc 0 Da;have oE:=lh La;have ci:=(aY.out.tr ji.out).bO (HEC.out i aW);rw[ZB.out] at ci;obtain⟨z,hz⟩:∃ z,L.getD 0 0=z:=⟨_,rfl⟩;rw[hz] at Ss tJ;have aiv:=lh (jq.out.fresh lY.out);clear La hL hlc hz bA xu jq;go_wp2_with fail;have aG:ai [] wr wr.drew:=(ai.refl [] wr).drew;refine al (ai [] wr) [0,1,2,3,4,5,6,7,8] (Way.line [0,1,2,3,4,5,6,7,8] .done) (by kernel_rfl) (by kernel_rfl) ?_;simp only[Way.line]
    repeat (refine aj (v:=?_) rfl (by rfl) (by rfl) (λ_ _ _ h=>h) aG (λw' aB=>?_) ?_;rotate_left;(focus (have fE:=aB.c y1;have fV:=aB.c Ss;have kD:=aB.c ci;clear aB;go_simp;try with_reducible rfl));simp only[Qa,Z1,Z2,Z3,Z4,Z5,Z6])
    refine ar ?_;have ZV:=lh (aiv.out.fresh aG);have ap4:=lh (oE.out.aL aG (by simp));have eW:=lh (ji.out.tr aG);clear aG x0 x1 y0 y1 bs Ss ci aiv oE;obtain⟨x0,x1,y0,y1,bs⟩:=bm.out _ eW.out;generalize wr.drew=w4 at *;by_cases PM:z=e
    ·have bz:(z==e)=true:=by rw[beq_iff_eq];exact PM
     have HK:=lh (yn.out.trans (by rw[tJ.out,decide_eq_true PM,if_pos rfl]));clear PM;go_wp2_with fail;refine (PV _ _ g L _ fB.out (by omega) (λx hx=>Pt.gS HR.out (HLM.out x hx)) (HG.out.fresh (aY.out.tr eW.out)) ap4.out.ints).mono ?_;rintro _ w6 ⟨v1,v2,rfl,h1,h2,fy,-,hc6⟩;have Js:=lh (ZV.out.fresh hc6);have H1:=lh (h1.base eW.out.size);have H2:=lh (h2.base eW.out.size);have H1L:=lh h1.low;have H2L:=lh h2.low;have tD:=lh fy;have fC:=lh (eW.out.tr hc6);have HFO:=lh (show aC v1=v1.ownBlock.toList/\aC v2=v2.ownBlock.toList from⟨h1.aC,h2.aC⟩);have af0:v1.ownBlock=none\/v1.ownBlock≠v2.ownBlock:=by
      cases hq:v1.ownBlock with
      | none=>exact Ql rfl
      | some b=>exact Qf λe=>fy b (by rw[h1.aC,hq];simp) (by rw[h2.aC,<-e];simp)
     have agz:v2.ownBlock=none\/v2.ownBlock≠v1.ownBlock:=by
      cases hq:v2.ownBlock with
      | none=>exact Ql rfl
      | some b=>exact Qf λe=>fy b (by rw[h1.aC,<-e];simp) (by rw[h2.aC,hq];simp)
     have HA2:=lh af0;have HA3:=lh agz;obtain⟨o1,c1,rfl⟩:=h1.shape;obtain⟨o2,c2,rfl⟩:=h2.shape;have Nj:=lh (show ∀ u∈(#[Qg o1 (iB g L).v.length c1,Qg o2 (iB g L).e.length c2]:Array Value).toList,u.oneCell'=true from λu hu=>by
      simp at hu;rcases hu with rfl | rfl <;> rfl)
     have HI:=lh (show n<68719476736 by have:=HNL.out;omega);clear h1 h2 fy af0 agz hc6 x0 x1 y0 y1 bs;go_wp2_with (at_builtin;refine pj zC rfl _ _ rfl (v:=.slice uo n uc) rfl rfl rfl Js.out.out fC.out.size rfl Nj.out HI.out ?_;intro g4 ahh w9 r9 c9 l9;have R9:=lh r9;have C9:=lh c9;clear r9 c9 l9);go_roundw;case rel =>
      have mC:=Js.out.add (us:=[.slice o1 (iB g L).v.length c1,.slice o2 (iB g L).e.length c2]) (ds:=[.row (iB g L).v,.row L]) (by decide) rfl rfl (λj d hj=>by
       rcases j with _ | _ | j
       ·simp at hj;subst hj;exact H1.out
       ·simp at hj;subst hj;exact H2.out
       ·simp at hj) (λa b ha hb bn=>by
       simp at ha hb;rcases a with _ | _ | a
       ·rcases b with _ | _ | b
        ·exact absurd rfl bn
        ·exact HA2.out
        omega
       ·rcases b with _ | _ | b
        ·exact HA3.out
        ·exact absurd rfl bn
        omega
       ·omega) (λa b q ha hb hq e=>by
       have:=(ZV.out.kind ha hq).2.1;simp at hb;rcases b with _ | _ | b
       ·have:=(H1L.out q (by have e:(Qg o1 (iB g L).v.length c1).ownBlock=some q:=e;rw[e];simp)).1
        omega
       ·have:=(H2L.out q (by have e:(Qg o2 (iB g L).e.length c2).ownBlock=some q:=e;rw[e];simp)).1
        omega
       omega) R9.out C9.out
      refine⟨i+1,by omega,by go_num,n+1,_,lh (by rw[HK.out,List.length_append,<-hn.out];rfl),by rw[HK.out,Gh,Iq.out.1,HL.out];exact mC,fC.out.trans C9.out λj hj=>Qf (Js.out.out.lt j (by simpa using hj)).1⟩
     case measure=>simp[intOf];omega
    have bz:(z==e)=false:=by rw[beq_eq_false_iff_ne];exact PM
    have HK:=lh (yn.out.trans (by rw[tJ.out,decide_eq_false PM,if_neg (by simp),Qk]));clear PM x0 x1 y0 y1 bs;go_wp2;go_roundw;case rel=>exact⟨i+1,by omega,by go_num,n,xs,lh (by rw[HK.out];exact hn.out),by rw[HK.out];exact ZV.out,eW.out⟩
    case measure=>simp[intOf];omega
  have e1:i=p.e.length:=by omega
  subst e1;rw[Qb] at jq hn;have kr:n=(vY g p).length:=hn.out;subst kr;clear hn hi aW x0 x1 y0 bs;go_wp2;go_ret;exact⟨_,xs,rfl,jq.out.base vG.out,aY.out.tr HC.out⟩
