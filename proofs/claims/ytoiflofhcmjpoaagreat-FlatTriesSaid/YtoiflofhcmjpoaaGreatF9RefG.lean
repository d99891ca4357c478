/- ref04: the contract of Right. Condition: a graph that lies in memory and reads so. -/
import Derived.Test.YtoiflofhcmjpoaaGreatF9RefP
set_option maxRecDepth 100000
set_option maxHeartbeats 4000000
open Go.Act renaming put→Qa
open List renaming range→Qb
open Go.Value renaming slice→Qc,int→Qe
open Nat renaming zero_le→Qd
namespace Go.Proofs.YtoiflofhcmjpoaaGreat
open Plain
open Go.RowKit Go.Maps
theorem DO (v:Value) (g:Gr) (w:World) (hE:g.e.length<4294967296) (h:cA w v g) :
  Calls Tryz.prog 23 #[v] w λe w'=>e=.returned (.int .i64 g.err)/\ai [] w w':=by
 obtain⟨eo,cap,rfl,hn,hm,fx,aS⟩:=h;have iL:=lh fx;have oe:=lh aS;have JZ:-9223372036854775808<=g.n:=by have h:=hn;unfold bF at h;simp only[Lit.wf,Bool.and_eq_true,decide_eq_true_eq] at h;exact h.1
 have n0:=(cell_of_row _ _ 0 _ _ _ (heap_alloc_new w (.cells #[.int .i64 g.n,.slice eo g.e.length cap] 24))).trans (show _=some (Qe .i64 g.n) from rfl);have x1:=(cell_of_row _ _ 1 _ _ _ (heap_alloc_new w (.cells #[.int .i64 g.n,.slice eo g.e.length cap] 24))).trans (show _=some (Qc eo g.e.length cap) from rfl);have HN0:=lh n0;have HX1:=lh x1;have aY:=lh ((ai.refl [] w).alloc (.cells #[.int .i64 g.n,.slice eo g.e.length cap] 24));clear fx aS hn;go_enter Tryz.func23,Tryz.ntmps23;by_cases h1:g.n<0
 ·have HE:=lh (show g.err=3 by unfold Gr.err;rw[if_pos h1])
  have b1:decide (g.n<0)=true:=decide_eq_true h1;clear h1;go_wp2;go_ret;exact⟨aR HE.out.symm,aY.out⟩
 have b1:decide (g.n<0)=false:=decide_eq_false h1;by_cases h2:1024<g.n
 ·have HE:=lh (show g.err=2 by unfold Gr.err;rw[if_neg h1,if_pos (Or.inl h2)])
  have b2:decide (g.n > 1024)=true:=decide_eq_true h2;clear h1 h2;go_wp2;go_ret;exact⟨aR HE.out.symm,aY.out⟩
 have b2:decide (g.n > 1024)=false:=decide_eq_false h2;by_cases h4:(g.e.length:Int) > 1024
 ·have HE:=lh (show g.err=2 by unfold Gr.err;rw[if_neg h1,if_pos (Or.inr (by omega))])
  have b4:decide ((g.e.length:Int) > 1024)=true:=decide_eq_true h4;clear h1 h2 h4;go_wp2;go_ret;exact⟨aR HE.out.symm,aY.out⟩
 have b4:decide ((g.e.length:Int) > 1024)=false:=decide_eq_false h4;have e1:IntKind.i64.wrap (g.n+(g.e.length:Int))=g.n+(g.e.length:Int):=IntWalk.i64_in _ (by omega);by_cases h3:g.n+(g.e.length:Int) > 1024
 ·have HE:=lh (show g.err=2 by unfold Gr.err;rw[if_neg h1,if_pos (Or.inr (by omega))])
  have b5:decide (g.n+(g.e.length:Int) > 1024)=true:=decide_eq_true h3;clear h1 h2 h4 h3;go_wp2;go_ret;exact⟨aR HE.out.symm,aY.out⟩
 have b5:decide (g.n+(g.e.length:Int) > 1024)=false:=decide_eq_false h3;have xI:=lh (show g.err=if (Qb g.e.length).all g.cL then 0 else 3 by unfold Gr.err;rw[if_neg h1,if_neg (by omega)]);clear h1 h2 h3;go_wp2;clear n0 x1;generalize (w.alloc (.cells #[.int .i64 g.n,.slice eo g.e.length cap] 24))=w1 at *;go_loopw [3] (λc wr=>∃ k:Nat,k<=g.e.length/\c=.int .i64 k/\ai [] w1 wr/\Hid ((Qb k).all g.cL=true)) (λc _=>g.e.length - (intOf c).toNat);case atStart=>exact⟨0,Qd _,rfl,ai.refl _ _,rfl⟩
 case round =>
  obtain⟨k,hk,rfl,hc,cX⟩:=hrel;have HC:=lh hc;have n0:=hc.c HN0.out;have x1:=hc.c HX1.out;by_cases aW:k<g.e.length
  ·obtain⟨b,off,rfl,fs,dD⟩:=oe.out k aW
   have c0:=hc.c (aY.out.c fs);have c1:=hc.c (aY.out.c dD);have HF:=lh (λh=>dU (p:=g.cL) aW h);have HS:=lh (eE g.cL k);have HR:=lh (show g.cL k=!(decide ((g.ends k).1<0) || decide (g.n<=(g.ends k).1) || decide ((g.ends k).2<0) || decide (g.n<=(g.ends k).2)) from rfl);have Mo:=lh hc.drew;have gU:=lh (aY.out.t hc.drew);clear fs dD hc;generalize (g.ends k).1=x at *;generalize (g.ends k).2=y at *;go_wp2;have aG:(λw':World=>w'.cell? ⟨w.heap.size,0,none⟩=some (.int .i64 g.n)/\w'.cell? ⟨w.heap.size,1,none⟩=some (.slice (some ⟨b,off,none⟩) g.e.length cap)/\w'.cell? ⟨b,off+k*2,none⟩=some (.int .i64 x)/\w'.cell? ⟨b,off+k*2+1,none⟩=some (.int .i64 y)) wr.drew:=⟨n0,x1,c0,c1⟩;refine al (λw':World=>w'.cell? ⟨w.heap.size,0,none⟩=some (.int .i64 g.n)/\w'.cell? ⟨w.heap.size,1,none⟩=some (.slice (some ⟨b,off,none⟩) g.e.length cap)/\w'.cell? ⟨b,off+k*2,none⟩=some (.int .i64 x)/\w'.cell? ⟨b,off+k*2+1,none⟩=some (.int .i64 y)) [0,1,2,3,4,5,6,7,8,9,10,11,12,13,14,15,16,17,18,19,20,21,22,23,24,25,26,27,28,29,30,31,32,33,34,35,36,37] (Way.line [0,1,2,3,4,5,6,7,8,9,10,11,12,13,14,15,16,17,18,19,20,21,22,23,24,25,26,27,28,29,30,31,32,33,34,35,36,37] .done) (by kernel_rfl) (by kernel_rfl) ?_;simp only[Way.line];by_cases p1:x<0
   ·have q1:decide (x<0)=true:=decide_eq_true p1
    have HE:=lh (xI.out.trans (if_neg (by rw[HF.out (by rw[HR.out];simp[p1])];decide)));clear p1
    repeat
     first
      | (refine cz rfl (by rfl) (by rfl) (λ_ _ _ h=>h) aG ?_;simp only[Qa,Z1,Z2,Z3,Z4,Z5,Z6])
      | (refine aj (v:=?_) rfl (by rfl) (by rfl) (λ_ _ _ h=>h) aG (λw' aB=>?_) ?_;rotate_left;(focus ((try dsimp only at aB);go_simp;try with_reducible rfl));simp only[Qa,Z1,Z2,Z3,Z4,Z5,Z6])
      | (refine bW rfl (by rfl) (by rfl) aG ?_;simp only[Qa,Z1,Z2,Z3,Z4,Z5,Z6])
    refine ar ?_;clear aG n0 c0 c1 x1;go_wp2;go_ret;exact⟨aR HE.out.symm,gU.out⟩
   have q1:decide (x<0)=false:=decide_eq_false p1;by_cases p2:g.n<=x
   ·have q2:decide (x ≥ g.n)=true:=decide_eq_true p2
    have HE:=lh (xI.out.trans (if_neg (by rw[HF.out (by rw[HR.out];simp[p2])];decide)));clear p2
    repeat
     first
      | (refine cz rfl (by rfl) (by rfl) (λ_ _ _ h=>h) aG ?_;simp only[Qa,Z1,Z2,Z3,Z4,Z5,Z6])
      | (refine aj (v:=?_) rfl (by rfl) (by rfl) (λ_ _ _ h=>h) aG (λw' aB=>?_) ?_;rotate_left;(focus ((try dsimp only at aB);go_simp;try with_reducible rfl));simp only[Qa,Z1,Z2,Z3,Z4,Z5,Z6])
      | (refine bW rfl (by rfl) (by rfl) aG ?_;simp only[Qa,Z1,Z2,Z3,Z4,Z5,Z6])
    refine ar ?_;clear aG n0 c0 c1 x1;go_wp2;go_ret;exact⟨aR HE.out.symm,gU.out⟩
   have q2:decide (x ≥ g.n)=false:=decide_eq_false p2;by_cases p3:y<0
   ·have q3:decide (y<0)=true:=decide_eq_true p3
    have HE:=lh (xI.out.trans (if_neg (by rw[HF.out (by rw[HR.out];simp[p3])];decide)));clear p3
    repeat
     first
      | (refine cz rfl (by rfl) (by rfl) (λ_ _ _ h=>h) aG ?_;simp only[Qa,Z1,Z2,Z3,Z4,Z5,Z6])
      | (refine aj (v:=?_) rfl (by rfl) (by rfl) (λ_ _ _ h=>h) aG (λw' aB=>?_) ?_;rotate_left;(focus ((try dsimp only at aB);go_simp;try with_reducible rfl));simp only[Qa,Z1,Z2,Z3,Z4,Z5,Z6])
      | (refine bW rfl (by rfl) (by rfl) aG ?_;simp only[Qa,Z1,Z2,Z3,Z4,Z5,Z6])
    refine ar ?_;clear aG n0 c0 c1 x1;go_wp2;go_ret;exact⟨aR HE.out.symm,gU.out⟩
   have q3:decide (y<0)=false:=decide_eq_false p3;by_cases p4:g.n<=y
   ·have q4:decide (y ≥ g.n)=true:=decide_eq_true p4
    have HE:=lh (xI.out.trans (if_neg (by rw[HF.out (by rw[HR.out];simp[p4])];decide)));clear p4
    repeat (refine aj (v:=?_) rfl (by rfl) (by rfl) (λ_ _ _ h=>h) aG (λw' aB=>?_) ?_;rotate_left;(focus ((try dsimp only at aB);go_simp;try with_reducible rfl));simp only[Qa,Z1,Z2,Z3,Z4,Z5,Z6])
    refine ar ?_;clear aG n0 c0 c1 x1;go_wp2;go_ret;exact⟨aR HE.out.symm,gU.out⟩
   have q4:decide (y ≥ g.n)=false:=decide_eq_false p4;have HK:=lh (show (Qb (k+1)).all g.cL=true by rw[HS.out,HR.out,cX.out];simp[p1,p2,p3,p4]);clear p1 p2 p3 p4
   repeat (refine aj (v:=?_) rfl (by rfl) (by rfl) (λ_ _ _ h=>h) aG (λw' aB=>?_) ?_;rotate_left;(focus ((try dsimp only at aB);go_simp;try with_reducible rfl));simp only[Qa,Z1,Z2,Z3,Z4,Z5,Z6])
   refine ar ?_;clear aG n0 c0 c1 x1;go_wp2;go_roundw;case rel=>exact⟨k+1,by omega,by go_num,Mo.out,HK⟩
   case measure=>simp[intOf];omega
  have e:k=g.e.length:=by omega
  subst e;have HE:=lh (xI.out.trans (if_pos cX.out));have gU:=lh (aY.out.t HC.out);clear hc;go_wp2;go_ret;exact⟨aR HE.out.symm,gU.out⟩
theorem wD (vg vp:Value) (g:Gr) (p:Pt) (w:World) (hl:p.v.length<4294967296) (mE:p.e.length<4294967296) (EX:g.e.length<4294967296) (hg:cA w vg g) (hp:dt w vp p) :
  Calls Tryz.prog 12 #[vg,vp] w λe w'=>e=.returned (.int .i64 (p.err g))/\ai [] w w':=by
 have HG:=lh hg;obtain⟨eo,cap,rfl,hn,hm,fx,aS⟩:=hg;obtain⟨v1,v2,rfl,hv,he⟩:=hp;have HV:=lh hv;have HE:=lh he;obtain⟨ao,ac,rfl,-,-,-⟩:=hv;obtain⟨bo,bc,rfl,xW,oJ,gh⟩:=he;have oe:=lh aS;have nG:=lh gh;have uD:=lh xW;clear fx aS gh xW;go_enter Tryz.func12,Tryz.ntmps12;obtain⟨iz,gY,dD⟩:=iW w #[.int .i64 g.n,.slice eo g.e.length cap] #[.slice ao p.v.length ac,.slice bo p.e.length bc] 24 27;have x0:=(cell_of_row _ _ 0 _ _ _ iz).trans (show _=some (Qe .i64 g.n) from rfl);have x1:=(cell_of_row _ _ 1 _ _ _ iz).trans (show _=some (Qc eo g.e.length cap) from rfl);have y0:=(cell_of_row _ _ 0 _ _ _ gY).trans (show _=some (Qc ao p.v.length ac) from rfl);have y1:=(cell_of_row _ _ 1 _ _ _ gY).trans (show _=some (Qc bo p.e.length bc) from rfl);have X0:=lh x0;have X1:=lh x1;have Y0:=lh y0;have Y1:=lh y1;have aY:=lh dD;clear iz gY dD x0 x1 y0 y1;go_wp2_with fail;refine (DO _ g _ (by omega) (HG.out.fresh aY.out)).mono ?_;rintro e w2 ⟨rfl,bI⟩;have bU:=lh bI;generalize ((w.alloc (.cells #[.int .i64 g.n,.slice eo g.e.length cap] 24)).alloc (.cells #[.slice ao p.v.length ac,.slice bo p.e.length bc] 27))=w1 at *;generalize w.heap.size+1=pb at *;generalize w.heap.size=gb at *;clear bI;by_cases h1:g.err=0
 ·rw[h1]
  have xI:=lh (show p.err g=if !(dG p.v g.n&&dG p.e g.e.length) then 4 else if (Qb p.e.length).all (p.cL g) then 0 else 4 by unfold Pt.err;rw[if_neg (by simp[h1])]);have fB:=lh h1;clear h1;have x0:=bU.out.bO X0.out;have x1:=bU.out.bO X1.out;have y0:=bU.out.bO Y0.out;have y1:=bU.out.bO Y1.out;go_wp2_with fail;refine (BA _ p.v g.n _ ((HV.out.fresh aY.out).fresh bU.out) (by omega)).mono ?_;rintro e w3 ⟨rfl,dK⟩;have b8:=lh (bU.out.tr dK);clear x0 x1 y0 y1 dK;cases hr:dG p.v g.n with
  | false =>
   have Ev:=lh (show p.err g=4 by rw[xI.out,hr];rfl);have y1:=b8.out.bO Y1.out;have x1:=b8.out.bO X1.out;clear hr;go_wp2;go_ret;exact⟨aR Ev.out.symm,aY.out.tr b8.out⟩
  | true =>
   have WS:=lh hr;have y1:=b8.out.bO Y1.out;have x1:=b8.out.bO X1.out;clear hr;go_wp2_with fail;refine (BA _ p.e g.e.length _ ((HE.out.fresh aY.out).fresh b8.out) (by omega)).mono ?_;rintro e w4 ⟨rfl,gX⟩;have eW:=lh (b8.out.tr gX);clear x1 y1 gX;cases hr:dG p.e g.e.length with
   | false =>
    have Ev:=lh (show p.err g=4 by rw[xI.out,WS.out,hr];rfl);clear hr;go_wp2;go_ret;exact⟨aR Ev.out.symm,aY.out.tr eW.out⟩
   | true =>
    have Jl:=lh (show p.err g=if (Qb p.e.length).all (p.cL g) then 0 else 4 by rw[xI.out,WS.out,hr];rfl);have sJ:=lh hr;have El:=lh (bK WS.out);have y1:=eW.out.bO Y1.out;clear hr xI;go_wp2;clear y1;go_loopw [6] (λc wr=>∃ k:Nat,k<=p.e.length/\c=.int .i64 k/\ai [] w1 wr/\Hid ((Qb k).all (p.cL g)=true)) (λc _=>p.e.length - (intOf c).toNat);case atStart=>exact⟨0,Qd _,rfl,eW.out,rfl⟩
    case round =>
     obtain⟨k,hk,rfl,hc,cX⟩:=hrel;have HC:=lh hc;by_cases aW:k<p.e.length
     ·obtain⟨bb,eO,rfl,oG⟩:=nG.out (by intro e;rw[e] at aW;simp at aW)
      have ce:=hc.bO (aY.out.bO (oG k aW));have AF:=cG sJ.out aW;have HF:=lh (λh=>dU (p:=p.cL g) aW h);have HS:=lh (eE (p.cL g) k);obtain⟨ei,mN⟩:∃ ei:Nat,p.e.getD k 0=(ei:Int):=⟨(p.e.getD k 0).toNat,by omega⟩;rw[mN] at ce AF;have xl:ei<g.e.length:=by omega
      obtain⟨eb,cR,rfl,fs,dD⟩:=oe.out ei xl;obtain⟨ea,AM⟩:∃ ea,(g.ends ei).1=ea:=⟨_,rfl⟩;obtain⟨ez,Dx⟩:∃ ez,(g.ends ei).2=ez:=⟨_,rfl⟩;have HR:=lh (show p.cL g k=(decide (ea∈p.v)&&decide (ez∈p.v)) by simp only[Pt.cL,mN,Int.toNat_natCast,AM,Dx]);rw[AM] at fs;rw[Dx] at dD;have c0:=aY.out.bO fs;have c1:=aY.out.bO dD;have C0:=lh c0;have C1:=lh c1;have HBE:=lh (show ∀ wx,ai [] w1 wx->wx.cell? ⟨bb,eO+k,none⟩=some (.int .i64 (ei:Int)) from λwx hx=>by rw[<-mN];exact hx.bO (aY.out.bO (oG k aW)));have y1:=hc.bO Y1.out;clear oG hc AF mN fs dD c0 c1 AM Dx;go_wp2;clear ce y1;have Jy:=lh (λwx (hx:ai [] w1 wx)=>(show (λw':World=>w'.cell? ⟨pb,0,none⟩=some (.slice ao p.v.length ac)/\w'.cell? ⟨gb,1,none⟩=some (.slice (some ⟨eb,cR,none⟩) g.e.length cap)/\w'.cell? ⟨eb,cR+ei*2,none⟩=some (.int .i64 ea)/\w'.cell? ⟨eb,cR+ei*2+1,none⟩=some (.int .i64 ez)/\w'.cell? ⟨pb,1,none⟩=some (.slice (some ⟨bb,eO,none⟩) p.e.length bc)/\w'.cell? ⟨bb,eO+k,none⟩=some (.int .i64 (ei:Int))) wx from⟨hx.bO Y0.out,hx.bO X1.out,hx.bO C0.out,hx.bO C1.out,hx.bO Y1.out,HBE.out wx hx⟩));have aG:=Jy.out wr.drew HC.out.drew;refine al (λw':World=>w'.cell? ⟨pb,0,none⟩=some (.slice ao p.v.length ac)/\w'.cell? ⟨gb,1,none⟩=some (.slice (some ⟨eb,cR,none⟩) g.e.length cap)/\w'.cell? ⟨eb,cR+ei*2,none⟩=some (.int .i64 ea)/\w'.cell? ⟨eb,cR+ei*2+1,none⟩=some (.int .i64 ez)/\w'.cell? ⟨pb,1,none⟩=some (.slice (some ⟨bb,eO,none⟩) p.e.length bc)/\w'.cell? ⟨bb,eO+k,none⟩=some (.int .i64 (ei:Int))) [0,1,2,3,4,5,6,7,8,9,10,11,13,14,15,16,17,18,19,20,21,22,23,24,25,26,28,29] (Way.line [0,1,2,3,4,5,6,7,8,9,10,11,12,13,14,15,16,17,18,19,20,21,22,23,24,25,26,27,28,29] .done) (by kernel_rfl) (by kernel_rfl) ?_;simp only[Way.line]
      repeat (refine aj (v:=?_) rfl (by rfl) (by rfl) (λ_ _ _ h=>h) aG (λw' aB=>?_) ?_;rotate_left;(focus ((try dsimp only at aB);go_simp;try with_reducible rfl));simp only[Qa,Z1,Z2,Z3,Z4,Z5,Z6])
      refine aq rfl (by rfl) (by rfl) (λK hK=>?_);go_simp;refine (iY _ p.v ea _ ((HV.out.fresh aY.out).fresh HC.out.drew)).mono ?_;rintro e w5 ⟨rfl,dV⟩;have fG:=lh (HC.out.drew.tr dV);have bH:=Jy.out w5 fG.out;refine hK.out _ _ (λ_=>bH) ?_;clear hK K dV aG;obtain⟨q1,EC⟩:∃ q,decide (ea∈p.v)=q:=⟨_,rfl⟩;obtain⟨q2,tX⟩:∃ q,decide (ez∈p.v)=q:=⟨_,rfl⟩;have HQ2:=lh tX;rw[EC,tX] at HR;rw[EC];clear EC tX;cases q1 with
      | false =>
       have Ev:=lh (show p.err g=4 by rw[Jl.out,if_neg (by rw[HF.out (by rw[HR.out];rfl)];decide)]);try simp only[Qa,Z1,Z2,Z3,Z4,Z5,Z6]
       repeat
        first
         | (refine cz rfl (by rfl) (by rfl) (λ_ _ _ h=>h) bH ?_;simp only[Qa,Z1,Z2,Z3,Z4,Z5,Z6])
         | (refine aj (v:=?_) rfl (by rfl) (by rfl) (λ_ _ _ h=>h) bH (λw' aB=>?_) ?_;rotate_left;(focus ((try dsimp only at aB);go_simp;try with_reducible rfl));simp only[Qa,Z1,Z2,Z3,Z4,Z5,Z6])
         | (refine bW rfl (by rfl) (by rfl) bH ?_;simp only[Qa,Z1,Z2,Z3,Z4,Z5,Z6])
       refine ar ?_;go_wp2;go_ret;exact⟨aR Ev.out.symm,aY.out.tr fG.out⟩
      | true =>
       try simp only[Qa,Z1,Z2,Z3,Z4,Z5,Z6]
       repeat (refine aj (v:=?_) rfl (by rfl) (by rfl) (λ_ _ _ h=>h) bH (λw' aB=>?_) ?_;rotate_left;(focus ((try dsimp only at aB);go_simp;try with_reducible rfl));simp only[Qa,Z1,Z2,Z3,Z4,Z5,Z6])
       refine aq rfl (by rfl) (by rfl) (λK hK=>?_);go_simp;refine (iY _ p.v ez _ ((HV.out.fresh aY.out).fresh fG.out)).mono ?_;rintro e w6 ⟨rfl,hc6⟩;have fC:=lh (fG.out.tr hc6);have iN:=Jy.out w6 fC.out;refine hK.out _ _ (λ_=>iN) ?_;clear hK K hc6 bH;rw[HQ2.out];cases q2 with
       | false =>
        have Ev:=lh (show p.err g=4 by rw[Jl.out,if_neg (by rw[HF.out (by rw[HR.out];rfl)];decide)]);try simp only[Qa,Z1,Z2,Z3,Z4,Z5,Z6]
        repeat (refine aj (v:=?_) rfl (by rfl) (by rfl) (λ_ _ _ h=>h) iN (λw' aB=>?_) ?_;rotate_left;(focus ((try dsimp only at aB);go_simp;try with_reducible rfl));simp only[Qa,Z1,Z2,Z3,Z4,Z5,Z6])
        refine ar ?_;go_wp2;go_ret;exact⟨aR Ev.out.symm,aY.out.tr fC.out⟩
       | true =>
        try simp only[Qa,Z1,Z2,Z3,Z4,Z5,Z6]
        repeat (refine aj (v:=?_) rfl (by rfl) (by rfl) (λ_ _ _ h=>h) iN (λw' aB=>?_) ?_;rotate_left;(focus ((try dsimp only at aB);go_simp;try with_reducible rfl));simp only[Qa,Z1,Z2,Z3,Z4,Z5,Z6])
        refine ar ?_;clear iN;go_wp2;go_roundw;case rel=>exact⟨k+1,by omega,by go_num,fC.out,lh (by rw[HS.out,HR.out,cX.out];rfl)⟩
        case measure=>simp[intOf];omega
     have e:k=p.e.length:=by omega
     subst e;have y1:=HC.out.bO Y1.out;have HE0:=lh (Jl.out.trans (if_pos cX.out));go_wp2;go_ret;exact⟨aR HE0.out.symm,aY.out.tr HC.out⟩
 have NH:=lh (show p.err g=g.err by unfold Pt.err;rw[if_pos h1]);have bn:(g.err==0)=false:=by rw[beq_eq_false_iff_ne];exact h1
 clear h1;go_wp2;go_ret;exact⟨aR NH.out.symm,aY.out.tr bU.out⟩
