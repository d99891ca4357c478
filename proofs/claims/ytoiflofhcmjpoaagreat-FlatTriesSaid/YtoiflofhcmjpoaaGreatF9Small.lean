/- what is small enough to be looked at: contracts of laws 04's, 06's and 08's Small. Conditions: a graph, a part, lists that lie in memory and read so. -/
import Derived.Test.YtoiflofhcmjpoaaGreatF9Leav
set_option maxRecDepth 100000
set_option maxHeartbeats 4000000
open Go.Value renaming slice→Qa
open Go.Act renaming put→Qb
open List renaming setIfInBounds_toArray→Qc,getElem_cons_zero→Qg,getElem_cons_succ→Qh,getElem_toArray→Qi,set_cons_zero→Qj,set_cons_succ→Qk,range→Qo
open Classical renaming byContradiction→Qd
open Go.World renaming frozen?→Qe,block_lt_of_cell?→Qf
open Nat renaming le_trans→Ql,zero_le→Qn
open Bool renaming eq_false_iff→Qm
open Or renaming inr→Qp
namespace Go.Proofs.YtoiflofhcmjpoaaGreat
open Plain
open Go.RowKit Go.Maps
namespace Plain
def km (g:Gr) (p:Pt):Bool:=decide (g.e.length<=60)&&decide (p.v.length<=60)&&decide (p.e.length<=60)&&(decide (g.n<=60) || decide (1024<g.n))
end Plain
def bit (b:Bool):Int:=if b then 1 else 0
theorem JS (vg vp:Value) (g:Gr) (p:Pt) (w:World) (hg:cA w vg g) (hp:dt w vp p) :
  Calls Tryz.prog 47 #[vg,vp] w λe w'=>e=.returned (.int .i64 (bit (km g p)))/\ai [] w w':=by
 obtain⟨eo,cap,rfl,-,hm,-,-⟩:=hg;obtain⟨v1,v2,rfl,hv,he⟩:=hp;obtain⟨ao,ac,rfl,-,YU,-⟩:=hv;obtain⟨bo,bc,rfl,-,oJ,-⟩:=he;obtain⟨iz,gY,dD⟩:=iW w #[.int .i64 g.n,.slice eo g.e.length cap] #[.slice ao p.v.length ac,.slice bo p.e.length bc] 24 27;have x0:=(cell_of_row _ _ 0 _ _ _ iz).trans (show _=some (Value.int .i64 g.n) from rfl);have x1:=(cell_of_row _ _ 1 _ _ _ iz).trans (show _=some (Qa eo g.e.length cap) from rfl);have y0:=(cell_of_row _ _ 0 _ _ _ gY).trans (show _=some (Qa ao p.v.length ac) from rfl);have y1:=(cell_of_row _ _ 1 _ _ _ gY).trans (show _=some (Qa bo p.e.length bc) from rfl);have aY:=lh dD;clear iz gY dD;have HS:=lh (show km g p=(decide (g.e.length<=60)&&decide (p.v.length<=60)&&decide (p.e.length<=60)&&(decide (g.n<=60) || decide (1024<g.n))) from rfl);by_cases h1:g.e.length<=60
 ·by_cases h2:p.v.length<=60
  ·by_cases h3:p.e.length<=60
   ·by_cases h4:g.n<=60
    ·have HB:=lh (show bit (km g p)=1 by rw[HS.out];simp[h1,h2,h3,h4,bit])
     go_enter Tryz.func47,Tryz.ntmps47;go_wp2;go_ret;exact⟨aR HB.out.symm,aY.out⟩
    by_cases h5:1024<g.n
    ·have HB:=lh (show bit (km g p)=1 by rw[HS.out];simp[h1,h2,h3,h5,bit])
     go_enter Tryz.func47,Tryz.ntmps47;go_wp2;go_ret;exact⟨aR HB.out.symm,aY.out⟩
    have HB:=lh (show bit (km g p)=0 by rw[HS.out];simp[h4,h5,bit]);go_enter Tryz.func47,Tryz.ntmps47;go_wp2;go_ret;exact⟨aR HB.out.symm,aY.out⟩
   have HB:=lh (show bit (km g p)=0 by rw[HS.out];simp[h3,bit]);go_enter Tryz.func47,Tryz.ntmps47;go_wp2;go_ret;exact⟨aR HB.out.symm,aY.out⟩
  have HB:=lh (show bit (km g p)=0 by rw[HS.out];simp[h2,bit]);go_enter Tryz.func47,Tryz.ntmps47;go_wp2;go_ret;exact⟨aR HB.out.symm,aY.out⟩
 have HB:=lh (show bit (km g p)=0 by rw[HS.out];simp[h1,bit]);go_enter Tryz.func47,Tryz.ntmps47;go_wp2;go_ret;exact⟨aR HB.out.symm,aY.out⟩
end Go.Proofs.YtoiflofhcmjpoaaGreat
-- READS ONLY
namespace Go.Proofs.YtoiflofhcmjpoaaGreat
open Plain
open Go.RowKit Go.Maps
theorem Kj {a b:List Int} (hl:a.length=b.length):(Qo a.length).all (λi=>decide (a.getD i 0=b.getD i 0))=decide (a=b):=by
 by_cases h:a=b
 ·subst h
  rw[decide_eq_true rfl,List.all_eq_true];simp
 rw[decide_eq_false h,List.all_eq_false];refine Qd λq=>h (List.ext_getElem hl λi h1 h2=>?_);refine Qd λe=>q ⟨i,List.mem_range.2 h1,?_⟩;simpa[List.getD,h1,h2] using e
theorem N9 (va vb:Value) (a b:List Int) (w:World) (ha:aI w va a) (hb:aI w vb b) :
  Calls Tryz.prog 42 #[va,vb] w λe w'=>e=.returned (.bool (decide (a=b)))/\ai [] w w':=by
 obtain⟨ao,ac,rfl,-,uJ,Ia⟩:=ha;obtain⟨bo,bc,rfl,-,oJ,oG⟩:=hb;have HA:=lh Ia;have HB:=lh oG;clear Ia oG;by_cases hl:a.length=b.length
 ·have HE:=lh (Kj hl)
  have HL:=lh hl;have H':((a.length:Int)==(b.length:Int))=true:=by rw[hl];simp
  go_enter Tryz.func42,Tryz.ntmps42;rw[<-hl];clear H' hl;go_wp2;go_loopw [5] (λc wr=>∃ k:Nat,k<=a.length/\c=.int .i64 k/\ai [] w wr/\Hid ((Qo k).all (λi=>decide (a.getD i 0=b.getD i 0))=true)) (λc _=>a.length - (intOf c).toNat);case atStart=>exact⟨0,Qn _,rfl,ai.refl _ _,rfl⟩
  case round =>
   obtain⟨k,hk,rfl,hc,cX⟩:=hrel;have HC:=lh hc;by_cases aW:k<a.length
   ·obtain⟨ab,lH,rfl,Ia⟩:=HA.out (by grind)
    have hkb:k<b.length:=by have:=HL.out;omega
    obtain⟨bb,eO,rfl,oG⟩:=HB.out (by grind);have c0:=hc.c (Ia k aW);have c1:=hc.c (oG k hkb);have HF:=lh (λh=>dU (p:=λi=>decide (a.getD i 0=b.getD i 0)) aW h);have HS:=lh (eE (λi=>decide (a.getD i 0=b.getD i 0)) k);have HK:=lh (show (decide (a.getD k 0=b.getD k 0))=decide (a.getD k 0=b.getD k 0) from rfl);obtain⟨x,hx⟩:∃ x,a.getD k 0=x:=⟨_,rfl⟩;obtain⟨y,hy⟩:∃ y,b.getD k 0=y:=⟨_,rfl⟩;have HX:=lh hx;have HY:=lh hy;rw[hx] at c0;rw[hy] at c1;clear Ia oG hc hx hy HK;go_wp2;have aG:(λw':World=>w'.cell? ⟨ab,lH+k,none⟩=some (.int .i64 x)/\w'.cell? ⟨bb,eO+k,none⟩=some (.int .i64 y)) wr.drew:=⟨c0,c1⟩;refine al (λw':World=>w'.cell? ⟨ab,lH+k,none⟩=some (.int .i64 x)/\w'.cell? ⟨bb,eO+k,none⟩=some (.int .i64 y)) [0,1,2,3,4,5,6,7,8] (Way.line [0,1,2,3,4,5,6,7,8] .done) (by kernel_rfl) (by kernel_rfl) ?_;simp only[Way.line]
    repeat (refine aj (v:=?_) rfl (by rfl) (by rfl) (λ_ _ _ h=>h) aG (λw' aB=>?_) ?_;rotate_left;(focus ((try dsimp only at aB);go_simp;try with_reducible rfl));simp only[Qb,Z1,Z2,Z3,Z4,Z5,Z6])
    refine ar ?_;have Mo:=lh HC.out.drew;clear aG c0 c1;by_cases jj:x=y
    ·have Pe:=lh (show (Qo (k+1)).all (λi=>decide (a.getD i 0=b.getD i 0))=true by rw[HS.out,cX.out,HX.out,HY.out];simp[jj])
     have b1:(x==y)=true:=by grind
     have b2:(x != y)=false:=by simp[jj]
     clear jj;go_wp2;go_roundw;case rel=>exact⟨k+1,by omega,by go_num,Mo.out,Pe⟩
     case measure=>simp[intOf];omega
    have Iu:=lh (show decide (a=b)=false by rw[<-HE.out];exact HF.out (by rw[HX.out,HY.out];exact decide_eq_false jj));have b1:(x==y)=false:=by grind
    have b2:(x != y)=true:=by simp[jj]
    clear jj;go_wp2;go_ret;exact⟨aM Iu.out.symm,Mo.out⟩
   have e:k=a.length:=by omega
   subst e;have Iu:=lh (HE.out.symm.trans cX.out);clear hc;go_wp2;go_ret;exact⟨aM Iu.out.symm,HC.out⟩
 have HE:=lh (show decide (a=b)=false from decide_eq_false (λe=>hl (by rw[e])));have H':((a.length:Int)==(b.length:Int))=false:=by rw[beq_eq_false_iff_ne];omega
 go_enter Tryz.func42,Tryz.ntmps42;go_wp2;go_ret;exact⟨aM HE.out.symm,ai.refl _ _⟩
end Go.Proofs.YtoiflofhcmjpoaaGreat
-- READS ONLY
namespace Go.Proofs.YtoiflofhcmjpoaaGreat
open Plain
open Go.RowKit Go.Maps
namespace Plain
def fL (p:Pt) (l:List Int) (k:Nat):List Int:=(p.v.take k).filter λv=>decide (v∈l)
def fA (g:Gr) (p:Pt) (l:List Int) (k:Nat):List Int:=(p.e.take k).filter λe=>decide ((g.at e).1∈l)&&decide ((g.at e).2∈l)
theorem dw (f:Int->Bool) {l:List Int} {k:Nat} (hk:k<l.length):(l.take (k+1)).filter f=(l.take k).filter f++(if f (l.getD k 0) then [l.getD k 0] else []):=by
 have e:l.getD k 0=l[k]:=by simp[List.getD,hk]
 rw[List.take_succ_eq_append_getElem hk,List.filter_append,e]
 grind
theorem sub_eq (g:Gr) (p:Pt) (l:List Int):p.sub g l=⟨fL p l p.v.length,fA g p l p.e.length⟩:=by
 grind [Pt.sub,fL,fA]
theorem Vz (p:Pt) (l:List Int) (k:Nat):(fL p l k).length<=k:=by
 grind [fL]
end Plain
def eT (w:World) (B ob:Nat) (V E:List Int):Prop:=∃ v1 v2,w.heap[ob]?=some (.cells #[v1,v2] 27 (0,0))/\aw w B v1 V/\aw w B v2 E/\(∀ j∈aC v1,j ∉ aC v2)/\B<=ob
theorem eT.fresh {w w':World} {B ob:Nat} {V E:List Int} (h:eT w B ob V E) (hc:ai [] w w'):eT w' B ob V E:=by
 obtain⟨v1,v2,h1,h2,h3,h4,h5⟩:=h;exact⟨v1,v2,hc.hp h1,h2.aL hc (by simp),h3.aL hc (by simp),h4,h5⟩
theorem Wg (vg vp vl:Value) (g:Gr) (p:Pt) (l:List Int) (w:World) (hV:p.v.length<=1000000) (hE:p.e.length<=1000000) (hr:p.err g=0) (hg:cA w vg g) (hp:dt w vp p) (hl:aI w vl l) :
  Calls Tryz.prog 88 #[vg,vp,vl] w λe w'=>∃ v1 v2,e=.returned (.agg #[v1,v2])/\aw w' w.heap.size v1 (p.sub g l).v/\aw w' w.heap.size v2 (p.sub g l).e/\(∀ j∈aC v1,j ∉ aC v2)/\ai [] w w':=by
 have sJ:=lh (Pt.aF hr).2.2.1;have fB:=lh (Gr.aF (Pt.aF hr).1);have HL:=lh hl;obtain⟨lo,lc,rfl,-,-,-⟩:=hl;obtain⟨eo,cap,rfl,-,hm,fx,aS⟩:=hg;obtain⟨v1,v2,rfl,hv,he⟩:=hp;have HVV:=lh hv;obtain⟨ao,ac,rfl,has,-,rQ⟩:=hv;obtain⟨bo,bc,rfl,xW,oJ,gh⟩:=he;have oe:=lh aS;have pU:=lh rQ;have nG:=lh gh;have xL:=lh has;have uD:=lh xW;obtain⟨iz,gY,dD⟩:=iW w #[.int .i64 g.n,.slice eo g.e.length cap] #[.slice ao p.v.length ac,.slice bo p.e.length bc] 24 27;have X1:=lh ((cell_of_row _ _ 1 _ _ _ iz).trans (show _=some (Qa eo g.e.length cap) from rfl));have Y0:=lh ((cell_of_row _ _ 0 _ _ _ gY).trans (show _=some (Qa ao p.v.length ac) from rfl));have Y1:=lh ((cell_of_row _ _ 1 _ _ _ gY).trans (show _=some (Qa bo p.e.length bc) from rfl));have aY:=lh dD;have uF:=lh gY;clear aS rQ gh fx hr xW has iz gY dD;have eW:=lh (((ai.refl [] ((w.alloc (.cells #[.int .i64 g.n,.slice eo g.e.length cap] 24)).alloc (.cells #[.slice ao p.v.length ac,.slice bo p.e.length bc] 27))).alloc (.cells #[.slice none 0 0,.slice none 0 0] 27)).alloc (.cells #[.slice none 0 0,.slice none 0 0] 27));obtain⟨fD,cD,-⟩:=iW ((w.alloc (.cells #[.int .i64 g.n,.slice eo g.e.length cap] 24)).alloc (.cells #[.slice ao p.v.length ac,.slice bo p.e.length bc] 27)) #[.slice none 0 0,.slice none 0 0] #[.slice none 0 0,.slice none 0 0] 27 27;have bs:((w.alloc (.cells #[.int .i64 g.n,.slice eo g.e.length cap] 24)).alloc (.cells #[.slice ao p.v.length ac,.slice bo p.e.length bc] 27)).heap.size=w.heap.size+1+1:=by simp
 rw[bs] at fD cD;have Tm:=lh fD;have HO:=lh (show eT _ (w.heap.size+1+1) (w.heap.size+1+1+1) (fL p l 0) [] from⟨_,_,cD,⟨World.ownsRow_nil _ _ _ _,by simp[fL],by simp[fL]⟩,⟨World.ownsRow_nil _ _ _ _,by simp,by simp⟩,by simp[aC,Value.ownBlock],by omega⟩);have vG:=lh bs;clear fD cD bs;go_enter Tryz.func88,Tryz.ntmps88;go_wp2;generalize ((((w.alloc (.cells #[.int .i64 g.n,.slice eo g.e.length cap] 24)).alloc (.cells #[.slice ao p.v.length ac,.slice bo p.e.length bc] 27)).alloc (.cells #[.slice none 0 0,.slice none 0 0] 27)).alloc (.cells #[.slice none 0 0,.slice none 0 0] 27))=w4 at *;generalize ((w.alloc (.cells #[.int .i64 g.n,.slice eo g.e.length cap] 24)).alloc (.cells #[.slice ao p.v.length ac,.slice bo p.e.length bc] 27))=w1 at *;go_loopw [8] (λc wr=>∃ k:Nat,k<=p.v.length/\c=.int .i64 k/\eT wr (w.heap.size+1+1) (w.heap.size+1+1+1) (fL p l k) []/\ai [] w1 wr/\wr.heap[w.heap.size+1+1]?=some (.cells #[.slice none 0 0,.slice none 0 0] 27 (0,0))) (λc _=>p.v.length - (intOf c).toNat);case atStart=>exact⟨0,Qn _,rfl,HO.out,eW.out,Tm.out⟩
 case round =>
  obtain⟨k,hk,rfl,eY,hc,I8⟩:=hrel;have HC:=lh hc;have tJ:=lh I8;clear I8;have jg:=lh eY;have y0:=hc.bO Y0.out;clear eY;by_cases aW:k<p.v.length
  ·obtain⟨ab,lH,rfl,Ia⟩:=pU.out (by grind)
   have ck:=hc.bO (aY.out.bO (Ia k aW));have Jm:=lh (dw (λv=>decide (v∈l)) aW);have Iw:=lh (Qf w _ (Ia k aW));have hzx:=xL.out (p.v.getD k 0) (by grind);obtain⟨x,hx⟩:∃ x,p.v.getD k 0=x:=⟨_,rfl⟩;rw[hx] at ck Jm hzx;clear Ia hc hx;go_wp2_with fail;refine (iY _ l x _ ((HL.out.fresh aY.out).fresh HC.out)).mono ?_;rintro e w5 ⟨rfl,dV⟩;have fG:=lh (HC.out.tr dV);have CP:=lh (jg.out.fresh dV);have Nl:=lh (dV.hp tJ.out);have y05:=dV.bO y0;have ck5:=dV.bO ck;clear dV y0 ck;cases hq:decide (x∈l) with
   | false =>
    have HK:=lh (show fL p l (k+1)=fL p l k by unfold fL;rw[Jm.out,if_neg (by grind)];simp);clear hq;go_wp2;go_roundw;case rel=>exact⟨k+1,by omega,by go_num,by rw[HK.out];exact CP.out,fG.out,Nl.out⟩
    case measure=>simp[intOf];omega
   | true =>
    have HK:=lh (show fL p l (k+1)=fL p l k++[x] by unfold fL;rw[Jm.out,if_pos (by rw[hq])]);clear hq;obtain⟨u1,u2,ho,fD,cD,fy,SS⟩:=CP.out;obtain⟨uo,uc,rfl⟩:=fD.shape;have o0:=(cell_of_row _ _ 0 _ _ _ ho).trans (show _=some (Qa uo (fL p l k).length uc) from rfl);have XN:=fG.out.hp uF.out;have n1:w.heap.size+1+1+1 ∉ aC (.slice uo (fL p l k).length uc):=λe=>by obtain⟨cs,r,hh⟩:=bu fD _ e;rw[ho] at hh;simp at hh
    have n2:w.heap.size+1 ∉ aC (.slice uo (fL p l k).length uc):=λe=>by obtain⟨cs,r,hh⟩:=bu fD _ e;rw[XN] at hh;simp at hh
    have n3:ab ∉ aC (.slice uo (fL p l k).length uc):=λe=>by have:=(fD.low ab (by rw[<-fD.aC];exact e)).1;have:=Iw.out;omega
    have n4:w.heap.size+1+1+1 ∉ aC u2:=λe=>by obtain⟨cs,r,hh⟩:=bu cD _ e;rw[ho] at hh;simp at hh
    have AW:=Vz p l k;have N1:=lh n1;have N2:=lh n2;have N3:=lh n3;have N4:=lh n4;have HO:=lh ho;have H1:=lh fD;have H2:=lh cD;have tD:=lh fy;have ZQ:=lh (show w.heap.size+1+1<=w5.heap.size by grind);clear ho fD cD fy SS XN n1 n2 n3 n4;go_wp2;have aG:(λw':World=>w'.cell? ⟨w.heap.size+1+1+1,0,none⟩=some (.slice uo (fL p l k).length uc)/\w'.cell? ⟨w.heap.size+1,0,none⟩=some (.slice (some ⟨ab,lH,none⟩) p.v.length ac)/\w'.cell? ⟨ab,lH+k,none⟩=some (.int .i64 x)) w5.drew:=⟨o0,y05,ck5⟩;refine al (λw':World=>w'.cell? ⟨w.heap.size+1+1+1,0,none⟩=some (.slice uo (fL p l k).length uc)/\w'.cell? ⟨w.heap.size+1,0,none⟩=some (.slice (some ⟨ab,lH,none⟩) p.v.length ac)/\w'.cell? ⟨ab,lH+k,none⟩=some (.int .i64 x)) [0,1,2,3,4,5,6,9] (Way.line [0,1,2,3,4,5,6,7,8,9,10] .done) (by kernel_rfl) (by kernel_rfl) ?_;simp only[Way.line]
    repeat (refine aj (v:=?_) rfl (by rfl) (by rfl) (λ_ _ _ h=>h) aG (λw' aB=>?_) ?_;rotate_left;(focus ((try dsimp only at aB);go_simp;try with_reducible rfl));simp only[Qb,Z1,Z2,Z3,Z4,Z5,Z6])
    refine aq rfl (by rfl) (by rfl) (λK hK=>?_);go_simp;have ca:=((ai.refl [] w5).alloc (.cells #[.int .i64 x] 3)).drew;have CA:=lh ca;have bH:(λw':World=>w'.cell? ⟨w.heap.size+1+1+1,0,none⟩=some (.slice uo (fL p l k).length uc)/\w'.cell? ⟨w.heap.size+1,0,none⟩=some (.slice (some ⟨ab,lH,none⟩) p.v.length ac)/\w'.cell? ⟨ab,lH+k,none⟩=some (.int .i64 x)) (w5.alloc (.cells #[.int .i64 x] 3)).drew:=⟨ca.bO o0,ca.bO y05,ca.bO ck5⟩;have B6:=lh ((dI w5 hzx).fresh (ai.refl [] _).drew);have Jy:=lh ca.size;refine hK.out _ _ (λ_=>bH) ?_;clear hK K aG ca o0 y05 ck5;generalize (w5.alloc (.cells #[.int .i64 x] 3)).drew=wa at *;generalize w5.heap.size=nl at *;try simp only[Qb,Z1,Z2,Z3,Z4,Z5,Z6]
    refine aq rfl (by rfl) (by rfl) (λK hK=>?_);simp only[Qi,Qg,Qh];refine iZ _ _ rfl (B:=w.heap.size+1+1) rfl rfl (H1.out.aL CA.out (by simp)) B6.out (Ql ZQ.out Jy.out) (by simp;omega) λv' w7 r7 c7 f7=>?_;obtain⟨vo,vc,rfl⟩:=r7.shape;have iN:(λw':World=>w'.cell? ⟨w.heap.size+1+1+1,0,none⟩=some (.slice uo (fL p l k).length uc)/\w'.cell? ⟨w.heap.size+1,0,none⟩=some (.slice (some ⟨ab,lH,none⟩) p.v.length ac)/\w'.cell? ⟨ab,lH+k,none⟩=some (.int .i64 x)) w7:=⟨c7.cell bH.1 N1.out,c7.cell bH.2.1 N2.out,c7.cell bH.2.2 N3.out⟩;have Br:=lh (c7.heap (CA.out.hp HO.out) N1.out);have o7:=iN.1;have z7:w7.frozen? ⟨w.heap.size+1+1+1,0,none⟩=false:=by simp[Qe,Br.out]
    have R7:=lh r7;have C7:=lh c7;have F7:=lh f7;refine hK.out _ _ (λ_=>iN) ?_;clear hK K bH r7 c7 f7;try simp only[Qb,Qc,Qj,Qk]
    repeat (refine aj (v:=?_) rfl (by rfl) (by rfl) (λ_ _ _ h=>h) iN (λw' aB=>?_) ?_;rotate_left;(focus ((try dsimp only at aB);go_simp;try with_reducible rfl));simp only[Qb,Z1,Z2,Z3,Z4,Z5,Z6])
    have hR:=R7.out;have he:(fL p l k++[x]).length=(fL p l k).length+1:=by simp
    rw[he] at hR;have Pv:ai (aC (.slice uo (fL p l k).length uc)) wa w7:=C7.out;have Ws:∀ b∈aC (.slice vo ((fL p l k).length+1) vc),b∈aC (.slice uo (fL p l k).length uc)\/wa.heap.size<=b:=by have:=F7.out;rw[he] at this;exact this
    have br:ai [w.heap.size+1+1+1] w7 (w7.setCell ⟨w.heap.size+1+1+1,0,none⟩ (.slice vo ((fL p l k).length+1) vc)):=(ai.refl _ w7).setCell (Or.inl (by simp)) _;have acJ:=(H2.out.aL CA.out (by simp)).aL Pv (λb hb e=>tD.out b e (by rw[H2.out.aC];exact hb));have rB:∀ {v:Value} {q:List Int},aw w7 (w.heap.size+1+1) v q->∀ b∈v.ownBlock.toList,b ∉ [w.heap.size+1+1+1]:=λh b hb e=>by
     obtain⟨cs,r,hh⟩:=bu h b (by rw[h.aC];exact hb);simp at e;rw[e,Br.out] at hh;simp at hh
    have EZ:eT (w7.setCell ⟨w.heap.size+1+1+1,0,none⟩ (.slice vo ((fL p l k).length+1) vc)) (w.heap.size+1+1) (w.heap.size+1+1+1) (fL p l (k+1)) []:=by
     rw[HK.out];refine⟨_,u2,heap_setCell_same Br.out 0 _,hR.aL br (rB hR),acJ.aL br (rB acJ),λj hj e=>?_,by omega⟩;rcases Ws j hj with q | q
     ·exact tD.out j q e
     have:=(H2.out.low j (by rw[<-H2.out.aC];exact e)).2;have:=CA.out.size;omega
    have uB:ai [] w1 (w7.setCell ⟨w.heap.size+1+1+1,0,none⟩ (.slice vo ((fL p l k).length+1) vc)):=((fG.out.tr CA.out).trans Pv (λj hj=>Qp (by rw[vG.out];exact (H1.out.low j (by rw[<-H1.out.aC];exact hj)).1))).trans br (λj hj=>Qp (by rw[vG.out];simp at hj;omega));have n5:w.heap.size+1+1 ∉ aC (.slice uo (fL p l k).length uc):=λe=>by obtain⟨cs,r,hh⟩:=bu H1.out _ e;rw[Nl.out] at hh;simp at hh
    have ach:=lh (br.heap (Pv.heap (CA.out.heap Nl.out (by simp)) n5) (by simp));have Mq:=lh EZ;have gU:=lh uB;clear hR he Pv Ws br acJ rB EZ uB n5;refine aq rfl (by rfl) (by rfl) (λK hK=>?_);go_simp;refine hK.out _ _ (λh=>absurd h (Qm.1 (by kernel_rfl))) ?_;clear hK K iN o7 z7;try simp only[Qb,Z1,Z2,Z3,Z4,Z5,Z6]
    refine ar ?_;go_wp2;go_roundw;case rel=>exact⟨k+1,by omega,by go_num,Mq.out,gU.out,ach.out⟩
    case measure=>simp[intOf];omega
  have e:k=p.v.length:=by omega
  subst e;clear hc aW hk;go_wp2;clear y0;have y1:=HC.out.bO Y1.out;go_loopw [9] (λc wr=>∃ k:Nat,k<=p.e.length/\c=.int .i64 k/\eT wr (w.heap.size+1+1) (w.heap.size+1+1+1) (fL p l p.v.length) (fA g p l k)/\ai [] w1 wr/\wr.heap[w.heap.size+1+1]?=some (.cells #[.slice none 0 0,.slice none 0 0] 27 (0,0))) (λc _=>p.e.length - (intOf c).toNat);case atStart=>exact⟨0,Qn _,rfl,by simpa[fA] using jg.out,HC.out,tJ.out⟩
  case round =>
   obtain⟨k,hk,rfl,eY,hc,I8⟩:=hrel;have bU:=lh hc;have yC:=lh I8;have Mq:=lh eY;have y2:=hc.bO Y1.out;clear I8 eY y1;by_cases aW:k<p.e.length
   ·obtain⟨bb,eO,rfl,oG⟩:=nG.out (by grind)
    have ce:=hc.bO (aY.out.bO (oG k aW));have Iw:=lh (Qf w _ (oG k aW));have AF:=cG sJ.out aW;obtain⟨ei,mN⟩:∃ ei:Nat,p.e.getD k 0=(ei:Int):=⟨(p.e.getD k 0).toNat,by omega⟩;have Jm:=lh (dw (λe=>decide ((g.at e).1∈l)&&decide ((g.at e).2∈l)) aW);have hzx:bF (ei:Int):=by rw[<-mN];exact uD.out _ (by grind)
    rw[mN] at ce AF Jm;have xl:ei<g.e.length:=by omega
    have wE:g.e.length<4294967296:=by have:=fB.out.2.2.1;have:=fB.out.1;omega
    obtain⟨eb,cR,rfl,fs,dD⟩:=oe.out ei xl;have c0:=hc.bO (aY.out.bO fs);have c1:=hc.bO (aY.out.bO dD);have x1:=hc.bO X1.out;have eJ:g.at (ei:Int)=g.ends ei:=by unfold Gr.at;rw[Int.toNat_natCast]
    rw[eJ] at Jm;obtain⟨x,hx⟩:∃ x,(g.ends ei).1=x:=⟨_,rfl⟩;obtain⟨y,hy⟩:∃ y,(g.ends ei).2=y:=⟨_,rfl⟩;rw[hx,hy] at Jm;rw[hx] at c0;rw[hy] at c1;clear oG AF mN fs dD eJ hx hy hc;go_wp2;have aG:(λw':World=>w'.cell? ⟨w.heap.size,1,none⟩=some (.slice (some ⟨eb,cR,none⟩) g.e.length cap)/\w'.cell? ⟨w.heap.size+1,1,none⟩=some (.slice (some ⟨bb,eO,none⟩) p.e.length bc)/\w'.cell? ⟨bb,eO+k,none⟩=some (.int .i64 (ei:Int))/\w'.cell? ⟨eb,cR+ei*2,none⟩=some (.int .i64 x)/\w'.cell? ⟨eb,cR+ei*2+1,none⟩=some (.int .i64 y)) wr.drew:=⟨x1,y2,ce,c0,c1⟩;refine al (λw':World=>w'.cell? ⟨w.heap.size,1,none⟩=some (.slice (some ⟨eb,cR,none⟩) g.e.length cap)/\w'.cell? ⟨w.heap.size+1,1,none⟩=some (.slice (some ⟨bb,eO,none⟩) p.e.length bc)/\w'.cell? ⟨bb,eO+k,none⟩=some (.int .i64 (ei:Int))/\w'.cell? ⟨eb,cR+ei*2,none⟩=some (.int .i64 x)/\w'.cell? ⟨eb,cR+ei*2+1,none⟩=some (.int .i64 y)) [0,1,2,3,4,5,6,7,8] (Way.line [0,1,2,3,4,5,6,7,8,9,10] .done) (by kernel_rfl) (by kernel_rfl) ?_;simp only[Way.line]
    repeat (refine aj (v:=?_) rfl (by rfl) (by rfl) (λ_ _ _ h=>h) aG (λw' aB=>?_) ?_;rotate_left;(focus ((try dsimp only at aB);go_simp;try with_reducible rfl));simp only[Qb,Z1,Z2,Z3,Z4,Z5,Z6])
    refine aq rfl (by rfl) (by rfl) (λK hK=>?_);go_simp;have ca:=((ai.refl [] wr).alloc (.cells #[.int .i64 0,.int .i64 0] 72)).drew;have hSa:(λw':World=>w'.cell? ⟨w.heap.size,1,none⟩=some (.slice (some ⟨eb,cR,none⟩) g.e.length cap)/\w'.cell? ⟨w.heap.size+1,1,none⟩=some (.slice (some ⟨bb,eO,none⟩) p.e.length bc)/\w'.cell? ⟨bb,eO+k,none⟩=some (.int .i64 (ei:Int))/\w'.cell? ⟨eb,cR+ei*2,none⟩=some (.int .i64 x)/\w'.cell? ⟨eb,cR+ei*2+1,none⟩=some (.int .i64 y)) (wr.alloc (.cells #[.int .i64 0,.int .i64 0] 72)).drew:=by grind [ai.bO]
    refine hK.out _ _ (λ_=>hSa) ?_;clear hK K hSa ca;try simp only[Qb,Z1,Z2,Z3,Z4,Z5,Z6]
    refine aq rfl (by rfl) (by rfl) (λK hK=>?_);go_simp;have cb:=((ai.refl [] wr).alloc (.cells #[.int .i64 x,.int .i64 y] 72)).drew;have hSb:(λw':World=>w'.cell? ⟨w.heap.size,1,none⟩=some (.slice (some ⟨eb,cR,none⟩) g.e.length cap)/\w'.cell? ⟨w.heap.size+1,1,none⟩=some (.slice (some ⟨bb,eO,none⟩) p.e.length bc)/\w'.cell? ⟨bb,eO+k,none⟩=some (.int .i64 (ei:Int))/\w'.cell? ⟨eb,cR+ei*2,none⟩=some (.int .i64 x)/\w'.cell? ⟨eb,cR+ei*2+1,none⟩=some (.int .i64 y)) (wr.alloc (.cells #[.int .i64 x,.int .i64 y] 72)).drew:=by grind [ai.bO]
    refine hK.out _ _ (λ_=>hSb) ?_;clear hK K hSb aG;have n0:(wr.alloc (.cells #[.int .i64 x,.int .i64 y] 72)).drew.cell? ⟨wr.heap.size,0,none⟩=some (.int .i64 x):=(cell_of_row _ _ 0 _ _ _ (heap_alloc_new wr _)).trans rfl;have n1:(wr.alloc (.cells #[.int .i64 x,.int .i64 y] 72)).drew.cell? ⟨wr.heap.size,1,none⟩=some (.int .i64 y):=(cell_of_row _ _ 1 _ _ _ (heap_alloc_new wr _)).trans rfl;have yb:=cb.bO y2;have ceb:=cb.bO ce;have nm:=lh (bU.out.tr cb);have GN:=lh (Mq.out.fresh cb);have anX:=lh (cb.hp yC.out);clear cb x1 y2 ce c0 c1;generalize (wr.alloc (.cells #[.int .i64 x,.int .i64 y] 72)).drew=wb at *;generalize wr.heap.size=nb at *;try simp only[Qb,Z1,Z2,Z3,Z4,Z5,Z6]
    refine ar ?_;go_wp2_with fail;refine (iY _ l x _ ((HL.out.fresh aY.out).fresh nm.out)).mono ?_;rintro e w5 ⟨rfl,dV⟩;have fG:=lh (nm.out.tr dV);have CP:=lh (GN.out.fresh dV);have Nl:=lh (dV.hp anX.out);have yb5:=dV.bO yb;have ce5:=dV.bO ceb;have n15:=dV.bO n1;clear dV yb ceb n0 n1;cases hq:decide (x∈l) with
    | false =>
     have HK:=lh (show fA g p l (k+1)=fA g p l k by unfold fA;rw[Jm.out,if_neg (by grind)];simp);clear hq;go_wp2;go_roundw;case rel=>exact⟨k+1,by omega,by go_num,by rw[HK.out];exact CP.out,fG.out,Nl.out⟩
     case measure=>simp[intOf];omega
    | true =>
     have Pc:=lh hq;clear hq;go_wp2_with fail;refine (iY _ l y _ ((HL.out.fresh aY.out).fresh fG.out)).mono ?_;rintro e w6 ⟨rfl,hc6⟩;have fC:=lh (fG.out.tr hc6);have HO6:=lh (CP.out.fresh hc6);have abp:=lh (hc6.hp Nl.out);have yb6:=hc6.bO yb5;have ce6:=hc6.bO ce5;clear hc6 yb5 ce5 n15;cases hq:decide (y∈l) with
     | false =>
      have HK:=lh (show fA g p l (k+1)=fA g p l k by unfold fA;rw[Jm.out,if_neg (by grind)];simp);clear hq;go_wp2;go_roundw;case rel=>exact⟨k+1,by omega,by go_num,by rw[HK.out];exact HO6.out,fC.out,abp.out⟩
      case measure=>simp[intOf];omega
     | true =>
      have HK:=lh (show fA g p l (k+1)=fA g p l k++[(ei:Int)] by unfold fA;rw[Jm.out,if_pos (by rw[Pc.out,hq];rfl)]);clear hq;obtain⟨u1,u2,ho,fD,cD,fy,SS⟩:=HO6.out;obtain⟨uo,uc,rfl⟩:=cD.shape;have o0:=(cell_of_row _ _ 1 _ _ _ ho).trans (show _=some (Qa uo (fA g p l k).length uc) from rfl);have XN:=fC.out.hp uF.out;have N1:=lh (show w.heap.size+1+1+1 ∉ aC (.slice uo (fA g p l k).length uc) from λe=>by grind [bu]);have N2:=lh (show w.heap.size+1 ∉ aC (.slice uo (fA g p l k).length uc) from λe=>by grind [bu]);have N3:=lh (show bb ∉ aC (.slice uo (fA g p l k).length uc) from λe=>by have:=(cD.low bb (by rw[<-cD.aC];exact e)).1;have:=Iw.out;omega);have N5:=lh (show w.heap.size+1+1 ∉ aC (.slice uo (fA g p l k).length uc) from λe=>by obtain⟨cs,r,hh⟩:=bu cD _ e;rw[abp.out] at hh;simp at hh);have AW:(fA g p l k).length<=k:=by unfold fA;exact Ql (List.length_filter_le _ _) (by grind)
      have HO:=lh ho;have H1:=lh fD;have H2:=lh cD;have tD:=lh fy;have ZQ:=lh (show w.heap.size+1+1<=w6.heap.size by grind);clear ho fD cD fy SS XN;go_wp2;have aG:(λw':World=>w'.cell? ⟨w.heap.size+1+1+1,1,none⟩=some (.slice uo (fA g p l k).length uc)/\w'.cell? ⟨w.heap.size+1,1,none⟩=some (.slice (some ⟨bb,eO,none⟩) p.e.length bc)/\w'.cell? ⟨bb,eO+k,none⟩=some (.int .i64 (ei:Int))) w6.drew:=⟨o0,yb6,ce6⟩;refine al (λw':World=>w'.cell? ⟨w.heap.size+1+1+1,1,none⟩=some (.slice uo (fA g p l k).length uc)/\w'.cell? ⟨w.heap.size+1,1,none⟩=some (.slice (some ⟨bb,eO,none⟩) p.e.length bc)/\w'.cell? ⟨bb,eO+k,none⟩=some (.int .i64 (ei:Int))) [0,1,2,3,4,5,6,9] (Way.line [0,1,2,3,4,5,6,7,8,9,10] .done) (by kernel_rfl) (by kernel_rfl) ?_;simp only[Way.line]
      repeat (refine aj (v:=?_) rfl (by rfl) (by rfl) (λ_ _ _ h=>h) aG (λw' aB=>?_) ?_;rotate_left;(focus ((try dsimp only at aB);go_simp;try with_reducible rfl));simp only[Qb,Z1,Z2,Z3,Z4,Z5,Z6])
      refine aq rfl (by rfl) (by rfl) (λK hK=>?_);go_simp;have ca:=((ai.refl [] w6).alloc (.cells #[.int .i64 (ei:Int)] 3)).drew;have CA:=lh ca;have bH:(λw':World=>w'.cell? ⟨w.heap.size+1+1+1,1,none⟩=some (.slice uo (fA g p l k).length uc)/\w'.cell? ⟨w.heap.size+1,1,none⟩=some (.slice (some ⟨bb,eO,none⟩) p.e.length bc)/\w'.cell? ⟨bb,eO+k,none⟩=some (.int .i64 (ei:Int))) (w6.alloc (.cells #[.int .i64 (ei:Int)] 3)).drew:=⟨ca.bO o0,ca.bO yb6,ca.bO ce6⟩;have B6:=lh ((dI w6 hzx).fresh (ai.refl [] _).drew);have Jy:=lh ca.size;refine hK.out _ _ (λ_=>bH) ?_;clear hK K aG ca o0 yb6 ce6;generalize (w6.alloc (.cells #[.int .i64 (ei:Int)] 3)).drew=wa at *;generalize w6.heap.size=nl at *;try simp only[Qb,Z1,Z2,Z3,Z4,Z5,Z6]
      refine aq rfl (by rfl) (by rfl) (λK hK=>?_);simp only[Qi,Qg,Qh];refine iZ _ _ rfl (B:=w.heap.size+1+1) rfl rfl (H2.out.aL CA.out (by simp)) B6.out (Ql ZQ.out Jy.out) (by simp;omega) λv' w7 r7 c7 f7=>?_;obtain⟨vo,vc,rfl⟩:=r7.shape;have iN:(λw':World=>w'.cell? ⟨w.heap.size+1+1+1,1,none⟩=some (.slice uo (fA g p l k).length uc)/\w'.cell? ⟨w.heap.size+1,1,none⟩=some (.slice (some ⟨bb,eO,none⟩) p.e.length bc)/\w'.cell? ⟨bb,eO+k,none⟩=some (.int .i64 (ei:Int))) w7:=⟨c7.cell bH.1 N1.out,c7.cell bH.2.1 N2.out,c7.cell bH.2.2 N3.out⟩;have Br:=lh (c7.heap (CA.out.hp HO.out) N1.out);have o7:=iN.1;have z7:w7.frozen? ⟨w.heap.size+1+1+1,1,none⟩=false:=by simp[Qe,Br.out]
      have hR:=r7;have Pv:ai (aC (.slice uo (fA g p l k).length uc)) wa w7:=c7;have Ws:∀ b∈aC (.slice vo (fA g p l k++[(ei:Int)]).length vc),b∈aC (.slice uo (fA g p l k).length uc)\/wa.heap.size<=b:=f7;have he:(fA g p l k++[(ei:Int)]).length=(fA g p l k).length+1:=by simp
      have Ew:=lh hR;have oT:=lh Pv;have HF7:=lh Ws;refine hK.out _ _ (λ_=>iN) ?_;clear hK K bH r7 c7 f7 hR Pv Ws he;try simp only[Qb,Qc,Qj,Qk]
      repeat (refine aj (v:=?_) rfl (by rfl) (by rfl) (λ_ _ _ h=>h) iN (λw' aB=>?_) ?_;rotate_left;(focus ((try dsimp only at aB);go_simp;try with_reducible rfl));simp only[Qb,Z1,Z2,Z3,Z4,Z5,Z6])
      have hR:=Ew.out;have Pv:=oT.out;have Ws:=HF7.out;have he:(fA g p l k++[(ei:Int)]).length=(fA g p l k).length+1:=by simp
      rw[he] at hR Ws;have br:ai [w.heap.size+1+1+1] w7 (w7.setCell ⟨w.heap.size+1+1+1,1,none⟩ (.slice vo ((fA g p l k).length+1) vc)):=(ai.refl _ w7).setCell (Or.inl (by simp)) _;have aaF:=(H1.out.aL CA.out (by simp)).aL Pv (λb hb e=>tD.out b (by rw[H1.out.aC];exact hb) e);have rB:∀ {v:Value} {q:List Int},aw w7 (w.heap.size+1+1) v q->∀ b∈v.ownBlock.toList,b ∉ [w.heap.size+1+1+1]:=λh b hb e=>by
       obtain⟨cs,r,hh⟩:=bu h b (by rw[h.aC];exact hb);simp at e;rw[e,Br.out] at hh;simp at hh
      have EZ:eT (w7.setCell ⟨w.heap.size+1+1+1,1,none⟩ (.slice vo ((fA g p l k).length+1) vc)) (w.heap.size+1+1) (w.heap.size+1+1+1) (fL p l p.v.length) (fA g p l (k+1)):=by
       rw[HK.out];refine⟨u1,_,heap_setCell_same Br.out 1 _,aaF.aL br (rB aaF),hR.aL br (rB hR),λj hj e=>?_,by omega⟩;rcases Ws j e with q | q
       ·exact tD.out j hj q
       have:=(H1.out.low j (by rw[<-H1.out.aC];exact hj)).2;have:=CA.out.size;omega
      have ach:=lh (br.heap (Pv.heap (CA.out.heap abp.out (by simp)) N5.out) (by simp));have uB:ai [] w1 (w7.setCell ⟨w.heap.size+1+1+1,1,none⟩ (.slice vo ((fA g p l k).length+1) vc)):=((fC.out.tr CA.out).trans Pv (λj hj=>Qp (by rw[vG.out];exact (H2.out.low j (by rw[<-H2.out.aC];exact hj)).1))).trans br (λj hj=>Qp (by rw[vG.out];simp at hj;omega));have ahR:=lh EZ;have gU:=lh uB;clear hR he Pv Ws br aaF rB EZ uB;refine aq rfl (by rfl) (by rfl) (λK hK=>?_);go_simp;refine hK.out _ _ (λh=>absurd h (Qm.1 (by kernel_rfl))) ?_;clear hK K iN o7 z7;try simp only[Qb,Z1,Z2,Z3,Z4,Z5,Z6]
      refine ar ?_;go_wp2;go_roundw;case rel=>exact⟨k+1,by omega,by go_num,ahR.out,gU.out,ach.out⟩
      case measure=>simp[intOf];omega
   have e:k=p.e.length:=by omega
   subst e;obtain⟨u1,u2,ho,fD,cD,fy,SS⟩:=Mq.out;obtain⟨a1,q1,rfl⟩:=fD.shape;obtain⟨a2,q2,rfl⟩:=cD.shape;have o0:=(cell_of_row _ _ 0 _ _ _ ho).trans (show _=some (Qa a1 (fL p l p.v.length).length q1) from rfl);have o1:=(cell_of_row _ _ 1 _ _ _ ho).trans (show _=some (Qa a2 (fA g p l p.e.length).length q2) from rfl);have r0:=(cell_of_row _ _ 0 _ _ _ yC.out).trans (show _=some (Qa none 0 0) from rfl);have r1:=(cell_of_row _ _ 1 _ _ _ yC.out).trans (show _=some (Qa none 0 0) from rfl);have z0:wr.frozen? ⟨w.heap.size+1+1,0,none⟩=false:=by simp[Qe,yC.out]
   have z1:wr.frozen? ⟨w.heap.size+1+1,1,none⟩=false:=by simp[Qe,yC.out]
   have br:ai [w.heap.size+1+1] wr ((wr.setCell ⟨w.heap.size+1+1,0,none⟩ (.slice a1 (fL p l p.v.length).length q1)).setCell ⟨w.heap.size+1+1,1,none⟩ (.slice a2 (fA g p l p.e.length).length q2)):=by grind [ai.refl,ai.setCell]
   have iS:=heap_setCell_same (heap_setCell_same yC.out 0 (.slice a1 (fL p l p.v.length).length q1)) 1 (.slice a2 (fA g p l p.e.length).length q2);have f0:=(cell_of_row _ _ 0 _ _ _ iS).trans (show _=some (Qa a1 (fL p l p.v.length).length q1) from rfl);have f1:=(cell_of_row _ _ 1 _ _ _ iS).trans (show _=some (Qa a2 (fA g p l p.e.length).length q2) from rfl);have kind:∀ {v:Value} {q:List Int},aw wr (w.heap.size+1+1) v q->∀ b∈v.ownBlock.toList,b ∉ [w.heap.size+1+1]:=λh b hb e=>by
    obtain⟨cs,r,hh⟩:=bu h b (by rw[h.aC];exact hb);simp at e;rw[e,yC.out] at hh;simp at hh
   have HA:=lh ((fD.aL br (kind fD)).base (show w.heap.size<=w.heap.size+1+1 by omega));have HB:=lh ((cD.aL br (kind cD)).base (show w.heap.size<=w.heap.size+1+1 by omega));have gU:=lh (aY.out.tr (bU.out.trans br (λj hj=>Qp (by rw[vG.out];simp at hj;omega))));have tD:=lh fy;have Vl:=lh f0;have Pp:=lh f1;have Vr:=lh (sub_eq g p l);clear ho fD cD fy SS br iS f0 f1 kind hc;go_wp2;refine bodyPost_ret (v:=.agg #[.slice a1 (fL p l p.v.length).length q1,.slice a2 (fA g p l p.e.length).length q2]) (by have h0:=Vl.out;have h1:=Pp.out;simp[results,Tryz.results88,go_sem,h0,h1]) rfl ?_;rw[Vr.out];exact⟨_,_,rfl,HA.out,HB.out,tD.out,gU.out⟩
