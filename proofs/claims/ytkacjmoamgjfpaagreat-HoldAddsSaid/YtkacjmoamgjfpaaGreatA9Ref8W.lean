/- ref08.Right: its contract. Conditions: a graph, a part, a plan that lie in memory and read so, of a bounded size. -/
import Derived.Test.YtkacjmoamgjfpaaGreatA9Ref1
namespace Go.Proofs.YtkacjmoamgjfpaaGreat
open Go.RowKit Go.Maps
def iG (q:List Nat):List Int:=q.map fun (x:Nat)=>(x:Int)
theorem kY (q:List Nat):(iG q).length=q.length:=by simp[iG]
theorem xL (q:List Nat) (i:Nat):(iG q).getD i 0=((q.getD i 0:Nat):Int):=by
 unfold iG List.getD;rw[List.getElem?_map];cases q[i]? <;> rfl
theorem aEh (q:List Nat) (i a:Nat):iG (q.set i a)=(iG q).set i (a:Int):=by unfold iG;rw[List.map_set]
theorem aC2 (n:Nat):iG (List.range (n+1))=iG (List.range n)++[(n:Int)]:=by unfold iG;rw[List.range_succ,List.map_append];rfl
theorem aM.grp {w:World} {B n c:Nat} {go:Option Addr} {q:List Nat} (h:aM w B (.slice go n c) (iG q)) {i:Nat} (hi:i<q.length):∃ g,go=Option.some ⟨g,0,none⟩∧w.cell? ⟨g,i,none⟩=Option.some (.int .i64 ((q.getD i 0:Nat):Int)):=by
 obtain⟨g,e,hc⟩:=h.some (by rw[kY];omega);exact⟨g,e,by rw[←xL];exact hc i (by rw[kY];exact hi)⟩
namespace aA
theorem rO {g:Gr} {p:Pt} {aB same:List (List Int)}:∀ (i:Nat) (c:List Nat × List Int),kK g p aB same i=some c→∀ j,j<i→¬ bX same j
 | 0,_,_,j,hj=>by omega
 | i+1,c,h,j,hj=>by
  cases hm:kK g p aB same i with
  | none =>
   have:kK g p aB same (i+1)=none:=nS hm _ (by omega);rw[this] at h;cases h
  | some d =>
   rw[lD hm] at h;by_cases hb:bX same i
   ·rw[if_pos hb] at h;cases h
   by_cases e:j=i
   ·rw[e];exact hb
   exact rO i d hm j (by omega)
theorem aDt {g:Gr} {p:Pt} {aB:List (List Int)} (hpe:p.err g=0) (hW:bV g p aB (aH g p aB)) {key:Int} (h:(bH g p (aH g p aB) key).isSome=true) :
  ∃ m,lE (aH g p aB) key=some m∧m<(aH g p aB).length∧((bH g p (aH g p aB) key).getD 0).toNat=bO g p (((aH g p aB).getD m (0,[])).aY g)∧bO g p (((aH g p aB).getD m (0,[])).aY g)<(roots g p).length:=by
 obtain⟨h1,h2⟩:=tC (g:=g) (p:=p) (key:=key) (dF hpe hW);cases hk:lE (aH g p aB) key with
 | none=>rw[h1 hk] at h;cases h
 | some m =>
  have e:=h2 m hk;have hb:=fO (Pt.aQ hpe) hW e;exact⟨m,rfl,(xB hk).1,by rw[e];exact Int.toNat_natCast _,by omega⟩
end aA
set_option maxRecDepth 100000 in
set_option maxHeartbeats 16000000 in
theorem lX (vg vp vx:Value) (g:aA.Gr) (p:aA.Pt) (aB same:List (List Int)) (w:World) (hpl:p.e.length≤1000) (hpv:p.v.length≤1000) (hgl:g.e.length<4294967296) (hrl:∀ v,(aA.aX aB v).length<4294967296) (hsl:same.length≤10000) (hsr:∀ i,(same.getD i []).length≤10000) (hg:dW w vg g) (hp:gC w vp p) (hx:jX w vx aB same) :
  Calls Tryz.prog 30 #[vg,vp,vx] w fun e w'=>e=.returned (.int .i64 (aA.aN g p aB same))∧Chg [] w w':=by
 have HRL:=lh hrl;have HSR:=lh hsr;clear hrl hsr;have HG:=lh hg;have HP:=lh hp;have HX:=lh hx;obtain⟨eo,cap,rfl,hn,hm,hsm,hcell⟩:=hg;obtain⟨v1,v2,rfl,hv,he⟩:=hp;obtain⟨ao,ac,rfl,has,ham,hacell⟩:=hv;obtain⟨bo,bc,rfl,hbs,hbm,hbcell⟩:=he;have HAC:=lh hacell;have HBC:=lh hbcell;obtain⟨t1,t2,rfl,ht,hs⟩:=hx;have HT:=lh ht;have HS:=lh hs;obtain⟨tno,tc,rfl,htm,-⟩:=ht;obtain⟨so,sc,rfl,hsm2,hsc⟩:=hs;obtain⟨-,-,hc1⟩:=cK w #[.int .i64 g.n,.slice eo g.e.length cap] #[.slice ao p.v.length ac,.slice bo p.e.length bc] 24 29;obtain⟨-,hc3⟩:=jA w #[.int .i64 g.n,.slice eo g.e.length cap] #[.slice ao p.v.length ac,.slice bo p.e.length bc] #[.slice tno aB.length tc,.slice so same.length sc] 24 29 32;have HC1:=lh (hc1.t hc3);have HBXS:=lh (fun w2 h=>gK w (g:=g) (p:=p) (aB:=aB) (same:=same) (eo:=eo) (ao:=ao) (bo:=bo) (tno:=tno) (so:=so) (cap:=cap) (ac:=ac) (bc:=bc) (tc:=tc) (sc:=sc) (w2:=w2) h);clear hcell hacell hbcell hsm hbs has hn hc1 hc3 hsc;obtain⟨x0,x1,y0,y1,z0,z1,hsz⟩:=HBXS.out _ (Chg.refl _ _)
 go_enter Tryz.func30,Tryz.ntmps30
 go_wp2_with fail
 refine (tH _ _ _ g p aB _ (by omega) (by omega) hgl (HG.out.fresh HC1.out) (HP.out.fresh HC1.out) (HT.out.fresh HC1.out)).mono ?_;rintro e w2 ⟨rfl,hc2⟩;obtain⟨w1,hw1⟩:∃ w1,(((w.alloc (.cells #[.int .i64 g.n,.slice eo g.e.length cap] 24)).alloc (.cells #[.slice ao p.v.length ac,.slice bo p.e.length bc] 29)).alloc (.cells #[.slice tno aB.length tc,.slice so same.length sc] 32))=w1:=⟨_,rfl⟩;rw[hw1] at HC1 HBXS hc2;clear hw1;have HC2:=lh hc2;clear x0 x1 y0 y1 z0 z1 hsz hc2;obtain⟨x0,x1,y0,y1,z0,z1,hsz⟩:=HBXS.out w2 HC2.out;have HW2:=lh (HC1.out.t HC2.out);by_cases hte:aA.bE g p aB=0
 ·have HTE:=lh hte
  rw[hte];clear hte
  go_wp2_with fail
  refine (xY _ _ _ g p aB _ hpl hpv hgl HRL.out (HG.out.fresh HW2.out) (HP.out.fresh HW2.out) (HT.out.fresh HW2.out)).mono ?_;rintro e w3 ⟨rfl,hc3⟩;have HC3:=lh (HC2.out.t hc3);have HW3:=lh (HW2.out.t hc3);clear x0 x1 y0 y1 z0 z1 hsz hc3;by_cases hfe:aA.cD g p aB=0
  ·rw[decide_eq_true hfe]
   have HFE:=lh hfe;have HPE:=lh (aA.bC HTE.out).1;have HTO:=lh (aA.bC HTE.out).2;have HWK:=lh (aA.bS HPE.out HTO.out);have hwl:=HWK.out.len;have hrl2:(aA.roots g p).length≤1000:=by rw[←aA.eL];exact Nat.le_trans (aA.dY g p _) hpv
   have HOF:=lh (fun key h=>aA.aDt (g:=g) (p:=p) (aB:=aB) (key:=key) HPE.out HWK.out h);have HR0:=lh (show aA.kK g p aB same 0=some (List.range (aA.roots g p).length,[]) from rfl);have HRB:=lh (aA.aEB (same:=same) (fun y a h=>aA.fO (aA.Pt.aQ HPE.out) HWK.out h));clear hfe;obtain⟨x0,x1,y0,y1,z0,z1,hsz⟩:=HBXS.out w3 HC3.out
   go_wp2_with fail
   refine (mP _ _ _ g p aB _ (by omega) (by omega) HPE.out HTO.out HRL.out (HG.out.fresh HW3.out) (HP.out.fresh HW3.out) (HT.out.fresh HW3.out)).mono ?_;rintro e w4 ⟨wv,wx,rfl,hnw,hc4⟩;obtain⟨wo,wc,rfl⟩:=hnw.shape;have HC4:=lh (HC3.out.t hc4);have HW4:=lh (HW3.out.t hc4);have HNW4:=lh hnw;clear x0 x1 y0 y1 z0 z1 hsz hc4 hnw;obtain⟨x0,x1,y0,y1,z0,z1,hsz⟩:=HBXS.out w4 HC4.out
   go_wp2_with fail
   refine (pH _ _ g p _ (by omega) (by omega) HPE.out (HG.out.fresh HW4.out) (HP.out.fresh HW4.out)).mono ?_;rintro e w5 ⟨pv,px,rfl,hnp,hc5⟩;obtain⟨po,pc,rfl⟩:=hnp.shape;have HC5:=lh (HC4.out.t hc5);have HW5:=lh (HW4.out.t hc5);have HNW:=lh (HNW4.out.fresh hc5);have HNP:=lh hnp;clear x0 x1 y0 y1 z0 z1 hsz hc5 hnp HNW4;have HBX:=lh (fun wx (hx:Chg [] w5 wx)=>HBXS.out wx (HC5.out.t hx));obtain⟨x0,x1,y0,y1,z0,z1,hsz⟩:=HBX.out w5 (Chg.refl _ _);obtain⟨ow,how⟩:∃ ow,aA.bH g p (aA.aH g p aB)=ow:=⟨_,rfl⟩;have HOW:=lh how;rw[how] at HOF;obtain⟨W,hWe⟩:∃ W,aA.aH g p aB=W:=⟨_,rfl⟩;have HWE:=lh hWe;rw[hWe] at hwl HNW HOF ⊢;obtain⟨n,hn⟩:∃ n,(aA.roots g p).length=n:=⟨_,rfl⟩;have HNE:=lh hn;rw[hn] at hrl2 HOF HR0 HRB ⊢;clear how hWe hn;go_wp2
   go_loopw [10,11] (fun gv c wr=>∃ i:Nat,i≤n∧c=.int .i64 i∧aM wr w5.heap.size gv (iG (List.range i))∧Chg [] w5 wr) (fun _ c _=>n - (intOf c).toNat)
   case atStart=>exact⟨0,Nat.zero_le _,rfl,gH _ _,Chg.refl _ _⟩
   case round =>
    obtain⟨i,hi,rfl,hrow,hc⟩:=hrel;have HROW:=lh hrow;obtain⟨go,gc,rfl⟩:=hrow.shape;have HC:=lh hc;rw[kY,List.length_range] at HROW ⊢;clear hrow hc x0 x1 y0 y1 z0 z1 hsz;by_cases hil:i<n
    ·have HB:=lh (show w5.heap.size≤wr.heap.size from HC.out.size)
     have HII:=lh (show I64 (i:Int) from I64.mk (by omega) (by omega));have HSN:=lh (aC2 i);have hll:(iG (List.range i)).length<4294967290:=by rw[kY,List.length_range];omega
     obtain⟨GL,hGL⟩:∃ GL,iG (List.range i)=GL:=⟨_,rfl⟩;rw[hGL] at HROW HSN hll;clear hGL
     go_wp2_with (at_builtin;refine dS rfl _ _ rfl (B:=w5.heap.size) (v:=.slice go _ gc) rfl rfl HROW.out HII.out HB.out hll rfl ?_;intro v9 w9 r9 c9 f9;have R9:=lh r9;have C9:=lh c9;clear r9 c9 f9)
     go_roundw
     case rel=>exact⟨i+1,by omega,by go_num,by rw[HSN.out];exact R9.out,HC.out.trans C9.out (fun j hj=>Or.inr (by rw[HROW.out.aP] at hj;exact (HROW.out.low j hj).1))⟩
     case measure=>simp[intOf];omega
    have e:i=n:=by omega
    subst e;obtain⟨x0,x1,y0,y1,z0,z1,hsz⟩:=HBX.out wr HC.out;go_wp2
    go_loopw [12,13] (fun mv c wr=>∃ (k:Nat) (s:List Nat × List Int),k≤same.length∧c=.int .i64 k∧Hid (aA.kK g p aB same k=some s)∧aM wr w5.heap.size (.slice go i gc) (iG s.1)∧aM wr w5.heap.size mv s.2∧(∀ b∈aP mv,b ∉ aP (.slice go i gc))∧s.2.length≤k*10000∧Chg [] w5 wr) (fun _ c _=>same.length - (intOf c).toNat)
    case atStart=>exact⟨0,_,Nat.zero_le _,rfl,HR0,HROW.out,gH _ _,by simp[aP,Value.ownBlock],by simp,HC.out⟩
    case round =>
     clear HROW HC x0 x1 y0 y1 z0 z1 hsz HR0;rename World=>wr;obtain⟨k,⟨q0,met⟩,hk,rfl,hrun,hgr,hmr,hap,hml,hc⟩:=hrel;have HGR:=lh hgr;have HMR:=lh hmr;have HAP:=lh hap;have HC:=lh hc;obtain⟨mo,mc,rfl⟩:=hmr.shape;have hqn:q0.length=i:=HRB.out k _ hrun.out;have hml':met.length≤k*10000:=hml;clear hgr hmr hap hc hml;obtain⟨x0,x1,y0,y1,z0,z1,hsz⟩:=HBX.out wr HC.out;by_cases hkl:k<same.length
     .--MAIN
      have hlb:=HSR.out k;have hsr:=(HS.out.fresh HW5.out).row hkl;obtain⟨sb,soff,lo,lc,rfl,scell5,lrow⟩:=hsr;have scell:=HC.out.c scell5;clear scell5;have HBAD:=lh (fun h=>aA.aEF HFE.out hkl hrun.out h);have HLB:=lh (show aA.bX same k↔(same.getD k []).length<2∨(0<k∧(same.getD k []).getD 0 0≤(same.getD (k - 1) []).getD 0 0) from Iff.rfl);have HKEY:=lh (fun j hj h=>aA.aEV (k:=j) HFE.out hkl hrun.out hj h);have HJN:=lh (fun j hj h=>aA.aCK (k:=j) HFE.out hkl hrun.out hj h);have HNXT:=lh (fun q h1 h2 h3=>aA.aC8 (q:=q) hrun.out h1 h2 h3);have HPRV:=lh (fun (h0:0<k)=>(show 2≤(same.getD (k - 1) []).length from by
       have:=aA.rO k _ hrun.out (k - 1) (by omega);unfold aA.bX at this;omega))
      rw[HOW.out] at HKEY HJN HNXT;have HKAT:=lh (fun key=>(show (aA.lE W key=none→ow key=none)∧∀ m,aA.lE W key=some m→(ow key).isSome=true from by
       have h:=aA.tC (g:=g) (p:=p) (key:=key) (aA.dF HPE.out HWK.out);rw[HOW.out,HWE.out] at h;exact⟨h.1,fun m hm=>by rw[h.2 m hm];rfl⟩))
      have HLS:=lh (show ∀ x∈same.getD k [],I64 x from by obtain⟨_,_,-,h,-,-⟩:=lrow;exact h);obtain⟨l,hl⟩:∃ l,same.getD k []=l:=⟨_,rfl⟩;rw[hl] at hlb scell lrow HLB HKEY HJN HNXT HLS;have HLR:=lh lrow;have HSC:=lh scell;clear lrow hl
      go_upto_if 85 with fail
      go_cut [85] (fun c85 wc=>∃ bb:Bool,c85=.bool bb∧Hid (decide (aA.bX same k)=bb)∧Chg [] wr wc)
      case first =>
       by_cases hl2:l.length<2
       ·have b1:decide ((l.length:Int)<2)=true:=decide_eq_true (by omega)
        have HE:=lh (decide_eq_true (HLB.out.2 (Or.inl hl2)));have hS0:Chg [] wr wr.drew:=(Chg.refl [] wr).drew;refine aF (Chg [] wr) [0,1,2,3,4,5,6,7,8,9,10,11,12,13,14,15,16,17,18,19,20] (Way.line [0,1,2,3,4,5,6,7,8,9,10,11,12,13,14,15,16,17,18,19,20] .done) (by kernel_rfl) (by kernel_rfl) ?_;simp only[Way.line]
        repeat
         first
          | (refine aE rfl (by rfl) (by rfl) (fun _ _ _ h=>h) hS0 ?_;simp only[Act.put,Z1,Z2,Z3,Z4,Z5,Z6])
          | (refine aC (v:=?_) rfl (by rfl) (by rfl) (fun _ _ _ h=>h) hS0 (fun w' hS'=>?_) ?_;rotate_left;(focus (have rd0:=hS'.c z1;clear hS';go_simp;try with_reducible rfl));simp only[Act.put,Z1,Z2,Z3,Z4,Z5,Z6])
          | (refine aD rfl (by rfl) (by rfl) hS0 ?_;simp only[Act.put,Z1,Z2,Z3,Z4,Z5,Z6])
        refine aG ?_;have HS0:=lh hS0;clear hS0 x0 x1 y0 y1 z0 z1 hsz scell;go_wp2
        go_meet
        case rel=>exact⟨true,rfl,HE,HS0.out⟩
       have b1:decide ((l.length:Int)<2)=false:=decide_eq_false (by omega);have hl0:0<l.length:=by omega
       by_cases hk0:0<k
       ·have bk:decide ((k:Int) > 0)=true:=decide_eq_true (by omega)
        obtain⟨kk,hkk⟩:∃ kk,k - 1=kk:=⟨_,rfl⟩;have ek:IntKind.i64.wrap ((k:Int) - 1)=(kk:Int):=by rw[IntWalk.i64_in _ (by omega)];omega
        have hkk2:kk<same.length:=by omega
        have hkk3:(kk:Int)<(same.length:Int):=by omega
        have hkk4:(0:Int)≤(kk:Int):=by omega
        have hprv:=HPRV.out hk0;rw[hkk] at hprv HLB;obtain⟨sb',soff',po2,pc2,e2,pcell,prow⟩:=((HS.out.fresh HW5.out).fresh HC.out).row hkk2;obtain⟨rfl,rfl⟩:sb=sb'∧soff=soff':=by simpa using e2
        obtain⟨P,hP⟩:∃ P,same.getD kk []=P:=⟨_,rfl⟩;rw[hP] at hprv HLB pcell prow;have hp0:0<P.length:=by omega
        obtain⟨pb,poff,rfl,pc0⟩:=aL.cellAt prow hp0;obtain⟨lb,loff,rfl,lc0⟩:=aL.cellAt (HLR.out.fresh HC.out) hl0;rw[Nat.add_zero] at pc0 lc0;obtain⟨x,hx⟩:∃ x,l.getD 0 0=x:=⟨_,rfl⟩;obtain⟨y,hy⟩:∃ y,P.getD 0 0=y:=⟨_,rfl⟩;rw[hx] at lc0 HLB;rw[hy] at pc0 HLB;have hl0i:(0:Int)<(l.length:Int):=by omega
        have hp0i:(0:Int)<(P.length:Int):=by omega
        have HK0:=lh hk0;clear e2 prow hP hx hy hkk;by_cases q:x≤y
        ·have bq:decide (x≤y)=true:=decide_eq_true q
         have HE:=lh (decide_eq_true (HLB.out.2 (Or.inr ⟨HK0.out,q⟩)));clear q;have hS0:Chg [] wr wr.drew:=(Chg.refl [] wr).drew;refine aF (Chg [] wr) [0,1,2,3,4,5,6,7,8,9,10,11,12,13,14,15,16,17,18,19,20] (Way.line [0,1,2,3,4,5,6,7,8,9,10,11,12,13,14,15,16,17,18,19,20] .done) (by kernel_rfl) (by kernel_rfl) ?_;simp only[Way.line]
         repeat
          first
           | (refine aE rfl (by rfl) (by rfl) (fun _ _ _ h=>h) hS0 ?_;simp only[Act.put,Z1,Z2,Z3,Z4,Z5,Z6])
           | (refine aC (v:=?_) rfl (by rfl) (by rfl) (fun _ _ _ h=>h) hS0 (fun w' hS'=>?_) ?_;rotate_left;(focus (have rd0:=hS'.c z1;have rd1:=hS'.c pcell;have rd2:=hS'.c pc0;have rd3:=hS'.c lc0;clear hS';go_simp;try with_reducible rfl));simp only[Act.put,Z1,Z2,Z3,Z4,Z5,Z6])
           | (refine aD rfl (by rfl) (by rfl) hS0 ?_;simp only[Act.put,Z1,Z2,Z3,Z4,Z5,Z6])
         refine aG ?_;have HS0:=lh hS0;clear hS0 x0 x1 y0 y1 z0 z1 hsz scell pcell pc0 lc0;go_wp2
         go_meet
         case rel=>exact⟨true,rfl,HE,HS0.out⟩
        have bq:decide (x≤y)=false:=decide_eq_false q;have HE:=lh (decide_eq_false (show ¬ aA.bX same k from fun h=>by
         rcases HLB.out.1 h with r | r
         ·exact hl2 r
         exact q r.2))
        clear q;have hS0:Chg [] wr wr.drew:=(Chg.refl [] wr).drew;refine aF (Chg [] wr) [0,1,2,3,4,5,6,7,8,9,10,11,12,13,14,15,16,17,18,19,20] (Way.line [0,1,2,3,4,5,6,7,8,9,10,11,12,13,14,15,16,17,18,19,20] .done) (by kernel_rfl) (by kernel_rfl) ?_;simp only[Way.line]
        repeat
         first
          | (refine aE rfl (by rfl) (by rfl) (fun _ _ _ h=>h) hS0 ?_;simp only[Act.put,Z1,Z2,Z3,Z4,Z5,Z6])
          | (refine aC (v:=?_) rfl (by rfl) (by rfl) (fun _ _ _ h=>h) hS0 (fun w' hS'=>?_) ?_;rotate_left;(focus (have rd0:=hS'.c z1;have rd1:=hS'.c pcell;have rd2:=hS'.c pc0;have rd3:=hS'.c lc0;clear hS';go_simp;try with_reducible rfl));simp only[Act.put,Z1,Z2,Z3,Z4,Z5,Z6])
          | (refine aD rfl (by rfl) (by rfl) hS0 ?_;simp only[Act.put,Z1,Z2,Z3,Z4,Z5,Z6])
        refine aG ?_;have HS0:=lh hS0;clear hS0 x0 x1 y0 y1 z0 z1 hsz scell pcell pc0 lc0;go_wp2
        go_meet
        case rel=>exact⟨false,rfl,HE,HS0.out⟩
       have bk:decide ((k:Int) > 0)=false:=decide_eq_false (by omega);have HE:=lh (decide_eq_false (show ¬ aA.bX same k from fun h=>by
        rcases HLB.out.1 h with r | r
        ·exact hl2 r
        exact hk0 r.1))
       have hS0:Chg [] wr wr.drew:=(Chg.refl [] wr).drew;refine aF (Chg [] wr) [0,1,2,3,4,5,6,7,8,9,10,11,12,13,14,15,16,17,18,19,20] (Way.line [0,1,2,3,4,5,6,7,8,9,10,11,12,13,14,15,16,17,18,19,20] .done) (by kernel_rfl) (by kernel_rfl) ?_;simp only[Way.line]
       repeat
        first
         | (refine aE rfl (by rfl) (by rfl) (fun _ _ _ h=>h) hS0 ?_;simp only[Act.put,Z1,Z2,Z3,Z4,Z5,Z6])
         | (refine aC (v:=?_) rfl (by rfl) (by rfl) (fun _ _ _ h=>h) hS0 (fun w' hS'=>?_) ?_;rotate_left;(focus (have rd0:=hS'.c z1;clear hS';go_simp;try with_reducible rfl));simp only[Act.put,Z1,Z2,Z3,Z4,Z5,Z6])
         | (refine aD rfl (by rfl) (by rfl) hS0 ?_;simp only[Act.put,Z1,Z2,Z3,Z4,Z5,Z6])
       refine aG ?_;have HS0:=lh hS0;clear hS0 x0 x1 y0 y1 z0 z1 hsz scell;go_wp2
       go_meet
       case rel=>exact⟨false,rfl,HE,HS0.out⟩
      case rest =>
       obtain⟨bb,rfl,hbb,hcw⟩:=hcut;cases bb with
       | true =>
        have HE:=lh (show aA.aN g p aB same=7 from HBAD.out (of_decide_eq_true hbb.out));have HCF:=lh ((HW5.out.t HC.out).t hcw);clear hcw hbb x0 x1 y0 y1 z0 z1 hsz scell;go_wp2;go_ret;exact⟨aS HE.out.symm,HCF.out⟩
       | false =>
        have HNB:=lh (of_decide_eq_false hbb.out);have hl2:¬ l.length<2:=fun h=>HNB.out (HLB.out.2 (Or.inl h));have hl0:0<l.length:=by omega
        obtain⟨lb,loff,rfl,lc05⟩:=aL.cellAt HLR.out hl0;have LC5:=lh lc05;have hS0:=hcw;clear lc05 hcw hbb scell;have HC6:=lh (HC.out.t hS0);have HGR6:=lh (HGR.out.chg hS0 (by simp));have HMR6:=lh (HMR.out.chg hS0 (by simp));clear hS0 x0 x1 y0 y1 z0 z1 hsz;go_wp2
        go_loopw [12,15] (fun mv c wi=>∃ j:Nat,j≤l.length∧c=.int .i64 j∧Hid (aA.gP ow l met j)∧aM wi w5.heap.size (.slice go i gc) (iG q0)∧aM wi w5.heap.size mv (met++l.take j)∧(∀ b∈aP mv,b ∉ aP (.slice go i gc))∧Chg [] w5 wi) (fun _ c _=>l.length - (intOf c).toNat)
        case atStart=>exact⟨0,Nat.zero_le _,rfl,lh (fun i hi=>by omega),HGR6.out,by simpa using HMR6.out,HAP.out,HC6.out⟩
        case round =>
         rename World=>wi;obtain⟨j,hj,rfl,hok,hgr,hmr,hap,hc⟩:=hrel;have HGRI:=lh hgr;have HMRI:=lh hmr;have HAPI:=lh hap;have HCI:=lh hc;have HC5I:=lh hc;obtain⟨mo2,mc2,rfl⟩:=hmr.shape;clear hgr hmr hap hc;by_cases hjl:j<l.length
         ·obtain⟨lb',loff',e4,cj⟩:=aL.cellAt (HLR.out.fresh HCI.out) hjl
          obtain⟨rfl,rfl⟩:lb=lb'∧loff=loff':=by simpa using e4
          clear e4;have HKF:=lh (fun h=>HKEY.out j hjl h);have HKS:=lh (aA.lL (ow:=ow) (l:=l) (met:=met) (k:=j));have HTK:=lh (aA.eD hjl);have HKA:=lh (HKAT.out (l.getD j 0));have hiz:=HLS.out (l.getD j 0) (aA.aZ hjl);have hml2:(met++l.take j).length<4294967290:=by simp;omega
          obtain⟨z,hz⟩:∃ z,l.getD j 0=z:=⟨_,rfl⟩;rw[hz] at cj HKS HTK HKA hiz;obtain⟨MM,hMM⟩:∃ MM,met++l.take j=MM:=⟨_,rfl⟩;have HNX:=lh (show met++l.take (j+1)=MM++[z] by rw[HTK.out,←List.append_assoc,hMM]);rw[hMM] at HMRI HAPI HKS hml2 ⊢;have HIZ:=lh hiz;have HCF:=lh (HW5.out.t HC5I.out);clear hz hMM hiz;go_wp2;have hS0:Chg [] wi wi.drew:=(Chg.refl [] wi).drew;refine aF (Chg [] wi) [0,1,2,3,4,6,7,8,9,10,11,12,14,15,16,17,18,19,20,21,22,23,24,25,26,27,28,29,30] (Way.line [0,1,2,3,4,5,6,7,8,9,10,11,12,13,14,15,16,17,18,19,20,21,22,23,24,25,26,27,28,29,30] .done) (by kernel_rfl) (by kernel_rfl) ?_;simp only[Way.line]
          repeat
           first
            | (refine aE rfl (by rfl) (by rfl) (fun _ _ _ h=>h) hS0 ?_;simp only[Act.put,Z1,Z2,Z3,Z4,Z5,Z6])
            | (refine aC (v:=?_) rfl (by rfl) (by rfl) (fun _ _ _ h=>h) hS0 (fun w' hS'=>?_) ?_;rotate_left;(focus (have rd0:=hS'.c cj;clear hS';go_simp;try with_reducible rfl));simp only[Act.put,Z1,Z2,Z3,Z4,Z5,Z6])
            | (refine aD rfl (by rfl) (by rfl) hS0 ?_;simp only[Act.put,Z1,Z2,Z3,Z4,Z5,Z6])
          refine aI rfl (by rfl) (by rfl) (fun K hK=>?_);go_simp;refine (pC _ W _ z _ _ (by omega) (HNW.out.fresh (HC5I.out.t hS0))).mono ?_;rintro e w7 ⟨rfl,hcx⟩;have hS1:=hS0.t hcx;clear hS0 hcx;have hS0:=hS1;clear hS1;refine hK.out _ _ (fun _=>hS0) ?_;clear hK K
          try simp only[Act.put,Z1,Z2,Z3,Z4,Z5,Z6]
          cases hka:aA.lE W z with
          | none =>
           rw[hka] at HKA;have HE:=lh (show aA.aN g p aB same=7 from HKF.out fun h=>by
            have h1:=(HKS.out.1 h).2.1;rw[HKA.out.1 rfl] at h1;cases h1)
           rw[show aBu none = -1 from rfl];clear hka
           repeat
            first
             | (refine aE rfl (by rfl) (by rfl) (fun _ _ _ h=>h) hS0 ?_;simp only[Act.put,Z1,Z2,Z3,Z4,Z5,Z6])
             | (refine aC (v:=?_) rfl (by rfl) (by rfl) (fun _ _ _ h=>h) hS0 (fun w' hS'=>?_) ?_;rotate_left;(focus (have rd0:=hS'.c cj;clear hS';go_simp;try with_reducible rfl));simp only[Act.put,Z1,Z2,Z3,Z4,Z5,Z6])
             | (refine aD rfl (by rfl) (by rfl) hS0 ?_;simp only[Act.put,Z1,Z2,Z3,Z4,Z5,Z6])
           refine aG ?_;have HCG:=lh (HCF.out.t hS0);clear cj hS0;go_wp2;go_ret;exact⟨aS HE.out.symm,HCG.out⟩
          | some m =>
           rw[hka] at HKA;have HIS:=lh (HKA.out.2 m rfl);rw[show aBu (some m)=(m:Int) from rfl];have bm:decide ((m:Int)<0)=false:=decide_eq_false (by omega);clear hka
           repeat
            first
             | (refine aE rfl (by rfl) (by rfl) (fun _ _ _ h=>h) hS0 ?_;simp only[Act.put,Z1,Z2,Z3,Z4,Z5,Z6])
             | (refine aC (v:=?_) rfl (by rfl) (by rfl) (fun _ _ _ h=>h) hS0 (fun w' hS'=>?_) ?_;rotate_left;(focus (have rd0:=hS'.c cj;clear hS';go_simp;try with_reducible rfl));simp only[Act.put,Z1,Z2,Z3,Z4,Z5,Z6])
             | (refine aD rfl (by rfl) (by rfl) hS0 ?_;simp only[Act.put,Z1,Z2,Z3,Z4,Z5,Z6])
           refine aI rfl (by rfl) (by rfl) (fun K hK=>?_);go_simp;refine (gD _ MM z _ ((HMRI.out.ints).fresh hS0)).mono ?_;rintro e w8 ⟨rfl,hcx⟩;have hS1:=hS0.t hcx;clear hS0 hcx;have hS0:=hS1;clear hS1;refine hK.out _ _ (fun _=>hS0) ?_;clear hK K
           try simp only[Act.put,Z1,Z2,Z3,Z4,Z5,Z6]
           by_cases hin:z∈MM
           ·rw[decide_eq_true hin]
            have HE:=lh (show aA.aN g p aB same=7 from HKF.out fun h=>(HKS.out.1 h).2.2.1 hin);clear hin
            repeat
             first
              | (refine aE rfl (by rfl) (by rfl) (fun _ _ _ h=>h) hS0 ?_;simp only[Act.put,Z1,Z2,Z3,Z4,Z5,Z6])
              | (refine aC (v:=?_) rfl (by rfl) (by rfl) (fun _ _ _ h=>h) hS0 (fun w' hS'=>?_) ?_;rotate_left;(focus (have rd0:=hS'.c cj;clear hS';go_simp;try with_reducible rfl));simp only[Act.put,Z1,Z2,Z3,Z4,Z5,Z6])
              | (refine aD rfl (by rfl) (by rfl) hS0 ?_;simp only[Act.put,Z1,Z2,Z3,Z4,Z5,Z6])
            refine aG ?_;have HCG:=lh (HCF.out.t hS0);clear cj hS0;go_wp2;go_ret;exact⟨aS HE.out.symm,HCG.out⟩
           rw[decide_eq_false hin];have HNI:=lh hin;clear hin;by_cases hj0:0<j
           ·obtain⟨jj,hjj⟩:∃ jj,j - 1=jj:=⟨_,rfl⟩
            have bj:decide ((j:Int) > 0)=true:=decide_eq_true (by omega);have ej:IntKind.i64.wrap ((j:Int) - 1)=(jj:Int):=by rw[IntWalk.i64_in _ (by omega)];omega
            have hjjl:jj<l.length:=by omega
            have hjji:(jj:Int)<(l.length:Int):=by omega
            have hjjp:(0:Int)≤(jj:Int):=by omega
            obtain⟨lb',loff',e2,cjj⟩:=aL.cellAt (HLR.out.fresh HCI.out) hjjl;obtain⟨rfl,rfl⟩:lb=lb'∧loff=loff':=by simpa using e2
            rw[hjj] at HKS;obtain⟨y,hy⟩:∃ y,l.getD jj 0=y:=⟨_,rfl⟩;rw[hy] at cjj HKS;have HJ0:=lh hj0;clear e2 hy hjj;by_cases q:z≤y
            ·have bq:decide (z≤y)=true:=decide_eq_true q
             have HE:=lh (show aA.aN g p aB same=7 from HKF.out fun h=>by
              have:=(HKS.out.1 h).2.2.2 HJ0.out;omega)
             clear q
             repeat
              first
               | (refine aE rfl (by rfl) (by rfl) (fun _ _ _ h=>h) hS0 ?_;simp only[Act.put,Z1,Z2,Z3,Z4,Z5,Z6])
               | (refine aC (v:=?_) rfl (by rfl) (by rfl) (fun _ _ _ h=>h) hS0 (fun w' hS'=>?_) ?_;rotate_left;(focus (have rd0:=hS'.c cj;have rd1:=hS'.c cjj;clear hS';go_simp;try with_reducible rfl));simp only[Act.put,Z1,Z2,Z3,Z4,Z5,Z6])
               | (refine aD rfl (by rfl) (by rfl) hS0 ?_;simp only[Act.put,Z1,Z2,Z3,Z4,Z5,Z6])
             refine aG ?_;have HCG:=lh (HCF.out.t hS0);clear cj cjj hS0;go_wp2;go_ret;exact⟨aS HE.out.symm,HCG.out⟩
            have bq:decide (z≤y)=false:=decide_eq_false q;have HOK:=lh (HKS.out.2 ⟨hok.out,HIS.out,HNI.out,fun _=>by omega⟩);clear q
            repeat
             first
              | (refine aE rfl (by rfl) (by rfl) (fun _ _ _ h=>h) hS0 ?_;simp only[Act.put,Z1,Z2,Z3,Z4,Z5,Z6])
              | (refine aC (v:=?_) rfl (by rfl) (by rfl) (fun _ _ _ h=>h) hS0 (fun w' hS'=>?_) ?_;rotate_left;(focus (have rd0:=hS'.c cj;have rd1:=hS'.c cjj;clear hS';go_simp;try with_reducible rfl));simp only[Act.put,Z1,Z2,Z3,Z4,Z5,Z6])
              | (refine aD rfl (by rfl) (by rfl) hS0 ?_;simp only[Act.put,Z1,Z2,Z3,Z4,Z5,Z6])
            refine aG ?_;have HMR8:=lh (HMRI.out.chg hS0 (by simp));have HGR8:=lh (HGRI.out.chg hS0 (by simp));have HC8:=lh (HCI.out.t hS0);have HB8:=lh (show w5.heap.size≤w8.heap.size from HC8.out.size);have cj:=hS0.c cj;have HGLT:=lh (fun b (hb:b∈aP (Value.slice go i gc))=>(HGR8.out.low b (by rw[←HGR8.out.aP];exact hb)).2);clear hS0
            go_wp2_with (at_builtin;refine dS rfl _ _ rfl (B:=w5.heap.size) (v:=.slice mo2 _ mc2) rfl rfl HMR8.out HIZ.out HB8.out hml2 rfl ?_;intro v9 w9 r9 c9 f9;have R9:=lh r9;have C9:=lh c9;have F9:=lh f9;clear r9 c9 f9)
            go_roundw
            case rel =>
             refine⟨j+1,by omega,by go_num,HOK,HGR8.out.chg C9.out (fun b hb e=>HAPI.out b e (by simpa[gL] using hb)),by rw[HNX.out];exact R9.out,fun b hb e=>?_,HC8.out.trans C9.out (fun j hj=>?_)⟩
             ·rcases F9.out b hb with r | r
              ·exact HAPI.out b r e
              have:=HGLT.out b e;omega
             exact Or.inr (by rw[HMR8.out.aP] at hj;exact (HMR8.out.low j hj).1)
            case measure=>simp[intOf];omega
           have bj:decide ((j:Int) > 0)=false:=decide_eq_false (by omega);have HOK:=lh (HKS.out.2 ⟨hok.out,HIS.out,HNI.out,fun h=>absurd h hj0⟩)
           skip
           repeat
            first
             | (refine aE rfl (by rfl) (by rfl) (fun _ _ _ h=>h) hS0 ?_;simp only[Act.put,Z1,Z2,Z3,Z4,Z5,Z6])
             | (refine aC (v:=?_) rfl (by rfl) (by rfl) (fun _ _ _ h=>h) hS0 (fun w' hS'=>?_) ?_;rotate_left;(focus (have rd0:=hS'.c cj;clear hS';go_simp;try with_reducible rfl));simp only[Act.put,Z1,Z2,Z3,Z4,Z5,Z6])
             | (refine aD rfl (by rfl) (by rfl) hS0 ?_;simp only[Act.put,Z1,Z2,Z3,Z4,Z5,Z6])
           refine aG ?_;have HMR8:=lh (HMRI.out.chg hS0 (by simp));have HGR8:=lh (HGRI.out.chg hS0 (by simp));have HC8:=lh (HCI.out.t hS0);have HB8:=lh (show w5.heap.size≤w8.heap.size from HC8.out.size);have cj:=hS0.c cj;have HGLT:=lh (fun b (hb:b∈aP (Value.slice go i gc))=>(HGR8.out.low b (by rw[←HGR8.out.aP];exact hb)).2);clear hS0
           go_wp2_with (at_builtin;refine dS rfl _ _ rfl (B:=w5.heap.size) (v:=.slice mo2 _ mc2) rfl rfl HMR8.out HIZ.out HB8.out hml2 rfl ?_;intro v9 w9 r9 c9 f9;have R9:=lh r9;have C9:=lh c9;have F9:=lh f9;clear r9 c9 f9)
           go_roundw
           case rel =>
            refine⟨j+1,by omega,by go_num,HOK,HGR8.out.chg C9.out (fun b hb e=>HAPI.out b e (by simpa[gL] using hb)),by rw[HNX.out];exact R9.out,fun b hb e=>?_,HC8.out.trans C9.out (fun j hj=>?_)⟩
            ·rcases F9.out b hb with r | r
             ·exact HAPI.out b r e
             have:=HGLT.out b e;omega
            exact Or.inr (by rw[HMR8.out.aP] at hj;exact (HMR8.out.low j hj).1)
           case measure=>simp[intOf];omega
         have e:j=l.length:=by omega
         subst e;have HKALL:=lh hok.out;rw[List.take_length] at HMRI HAPI ⊢;have HJ1:=lh (aA.aBA ow l q0);obtain⟨ML,hML⟩:∃ ML,met++l=ML:=⟨_,rfl⟩;have HML:=lh hML;rw[hML] at HMRI HAPI ⊢;clear hML;have hmll:ML.length≤(k+1)*10000:=by rw[←HML.out,List.length_append];omega
         have HMLL:=lh hmll;clear hmll;go_wp2
         go_loopw [16] (fun c wj=>∃ (j:Nat) (q:List Nat),1≤j∧j≤l.length∧c=.int .i64 j∧Hid (aA.dD ow l q0 j=some q)∧aM wj w5.heap.size (.slice go i gc) (iG q)∧aM wj w5.heap.size (.slice mo2 ML.length mc2) ML∧Chg [] w5 wj) (fun c _=>l.length - (intOf c).toNat)
         case atStart=>exact⟨1,q0,by omega,by omega,rfl,HJ1,HGRI.out,HMRI.out,HCI.out⟩
         case round =>
          rename World=>wj;obtain⟨j,q,hj1,hj,rfl,hjr,hgr,hmr,hc⟩:=hrel;have HGJ:=lh hgr;have HMJ:=lh hmr;have HCJ:=lh hc;have hqn2:q.length=i:=(aA.uE j q hjr.out).trans hqn;have HQN2:=lh hqn2;clear hgr hmr hc hqn2;by_cases hjl:j<l.length
          ·obtain⟨m0,hk0',hm0,ho0,hx0⟩:=HOF.out (l.getD 0 0) (HKALL.out 0 (by omega)).1
           obtain⟨m1,hk1',hm1,ho1,hx1⟩:=HOF.out (l.getD j 0) (HKALL.out j hjl).1;have c0:=HCJ.out.c LC5.out;obtain⟨lb',loff',e2,cj⟩:=aL.cellAt (HLR.out.fresh HCJ.out) hjl;obtain⟨rfl,rfl⟩:lb=lb'∧loff=loff':=by simpa using e2
           rw[Nat.add_zero] at c0;have HJS:=lh (aA.aAu hj1 hjr.out);have HGA:=lh (show aA.eC ow q (l.getD 0 0)=q.getD (aA.bO g p ((W.getD m0 (0,[])).aY g)) 0 by unfold aA.eC;rw[ho0]);have HGB:=lh (show aA.eC ow q (l.getD j 0)=q.getD (aA.bO g p ((W.getD m1 (0,[])).aY g)) 0 by unfold aA.eC;rw[ho1]);obtain⟨wg,wcc,fa0,fc0,ewo,u0,u1,-⟩:=fZ HNW.out rfl hm0;simp only[Value.slice.injEq] at ewo;obtain⟨rfl,-,rfl⟩:=ewo;obtain⟨wg',wcc',fa1,fc1,ewo,v0,v1,-⟩:=fZ HNW.out rfl hm1;simp only[Value.slice.injEq,Option.some.injEq,Addr.mk.injEq,and_true,true_and] at ewo;obtain⟨rfl,rfl⟩:=ewo;have HF0:=lh (show W.getD m0 (0,[])∈aA.aH g p aB by rw[HWE.out];simp[List.getD,hm0]);have HF1:=lh (show W.getD m1 (0,[])∈aA.aH g p aB by rw[HWE.out];simp[List.getD,hm1]);obtain⟨F0,hF0⟩:∃ F0,W.getD m0 (0,[])=F0:=⟨_,rfl⟩;obtain⟨F1,hF1⟩:∃ F1,W.getD m1 (0,[])=F1:=⟨_,rfl⟩;rw[hF0] at u0 u1 HF0 HGA hx0;rw[hF1] at v0 v1 HF1 HGB hx1;obtain⟨ix0,hix0⟩:∃ ix0,aA.bO g p (F0.aY g)=ix0:=⟨_,rfl⟩;obtain⟨ix1,hix1⟩:∃ ix1,aA.bO g p (F1.aY g)=ix1:=⟨_,rfl⟩;rw[hix0] at HGA hx0;rw[hix1] at HGB hx1;have HI0:=lh hix0;have HI1:=lh hix1;obtain⟨gb,rfl,g0⟩:=HGJ.out.grp (i:=ix0) (by have:=HQN2.out;omega);obtain⟨gb',e3,g1⟩:=HGJ.out.grp (i:=ix1) (by have:=HQN2.out;omega);obtain rfl:gb=gb':=by simpa using e3
           obtain⟨a,ha⟩:∃ a,q.getD ix0 0=a:=⟨_,rfl⟩;obtain⟨b,hb⟩:∃ b,q.getD ix1 0=b:=⟨_,rfl⟩;rw[ha] at g0 HGA;rw[hb] at g1 HGB;have HAE:=lh ha;rw[HGA.out,HGB.out] at HJS;obtain⟨k0,hkz0⟩:∃ k0,l.getD 0 0=k0:=⟨_,rfl⟩;obtain⟨k1,hkz1⟩:∃ k1,l.getD j 0=k1:=⟨_,rfl⟩;rw[hkz0] at c0 hk0';rw[hkz1] at cj hk1';have HK0:=lh hk0';have HK1:=lh hk1';have u0:=HCJ.out.c u0;have u1:=HCJ.out.c u1;have V0:=lh v0;have V1:=lh v1;have CJ:=lh cj;have G1:=lh g1;obtain⟨x0,x1,y0,y1,z0,z1,hsz⟩:=HBX.out wj HCJ.out;have h0l:(0:Int)<(l.length:Int):=by omega
           have hm0i:(m0:Int)<(W.length:Int):=by omega
           have hm1i:(m1:Int)<(W.length:Int):=by omega
           have hx0i:(ix0:Int)<(i:Int):=by omega
           have hx1i:(ix1:Int)<(i:Int):=by omega
           have HNN:=lh (show i=(aA.roots g p).length from HNE.out.symm);have HNP2:=lh (show dL w5 _ 29 2 (.slice po i pc) i px (pcs (aA.comp g p) (fun r=>(p.sub g (aA.comp g p r)).e) (aA.roots g p)) from by have:=HNP.out;rw[←HNN.out] at this;exact this);have HWJ:=lh (HW5.out.t HCJ.out);clear e2 e3 ho0 ho1 hF0 hF1 hix0 hix1 ha hb hkz0 hkz1 hk0' hk1' v0 v1 cj g1;go_wp2;have hS0:Chg [] wj wj.drew:=(Chg.refl [] wj).drew;refine aF (Chg [] wj) [0,1,2,3,4,5,6,7,9,10,12,13,14] (Way.line [0,1,2,3,4,5,6,7,8,9,10,11,12,13,14] .done) (by kernel_rfl) (by kernel_rfl) ?_;simp only[Way.line]
           repeat
            first
             | (refine aE rfl (by rfl) (by rfl) (fun _ _ _ h=>h) hS0 ?_;simp only[Act.put,Z1,Z2,Z3,Z4,Z5,Z6])
             | (refine aC (v:=?_) rfl (by rfl) (by rfl) (fun _ _ _ h=>h) hS0 (fun w' hS'=>?_) ?_;rotate_left;(focus (have rd0:=hS'.c x0;have rd1:=hS'.c x1;have rd2:=hS'.c c0;clear hS';go_simp;try with_reducible rfl));simp only[Act.put,Z1,Z2,Z3,Z4,Z5,Z6])
             | (refine aD rfl (by rfl) (by rfl) hS0 ?_;simp only[Act.put,Z1,Z2,Z3,Z4,Z5,Z6])
           refine aI rfl (by rfl) (by rfl) (fun K hK=>?_);go_simp;refine (pC _ W _ k0 _ _ (by omega) (HNW.out.fresh (HCJ.out.t hS0))).mono ?_;rintro e w7 ⟨rfl,hcx⟩;have hS1:=hS0.t hcx;clear hS0 hcx;have hS0:=hS1;clear hS1;refine hK.out _ _ (fun _=>hS0) ?_;clear hK K
           try simp only[Act.put,Z1,Z2,Z3,Z4,Z5,Z6]
           rw[HK0.out,show aBu (some m0)=(m0:Int) from rfl]
           repeat
            first
             | (refine aE rfl (by rfl) (by rfl) (fun _ _ _ h=>h) hS0 ?_;simp only[Act.put,Z1,Z2,Z3,Z4,Z5,Z6])
             | (refine aC (v:=?_) rfl (by rfl) (by rfl) (fun _ _ _ h=>h) hS0 (fun w' hS'=>?_) ?_;rotate_left;(focus (have rd0:=hS'.c u0;have rd1:=hS'.c u1;clear hS';go_simp;try with_reducible rfl));simp only[Act.put,Z1,Z2,Z3,Z4,Z5,Z6])
             | (refine aD rfl (by rfl) (by rfl) hS0 ?_;simp only[Act.put,Z1,Z2,Z3,Z4,Z5,Z6])
           refine aI rfl (by rfl) (by rfl) (fun K hK=>?_);go_simp;refine (sJ _ _ g p aB F0 _ px _ _ hpv HPE.out HWK.out HF0.out ⟨_,_,_,rfl⟩ (HG.out.fresh (HWJ.out.t hS0)) HNN.out (HNP2.out.fresh (HCJ.out.t hS0))).mono ?_;rintro e w8 ⟨rfl,hcx⟩;have hS1:=hS0.t hcx;clear hS0 hcx;have hS0:=hS1;clear hS1;refine hK.out _ _ (fun _=>hS0) ?_;clear hK K
           try simp only[Act.put,Z1,Z2,Z3,Z4,Z5,Z6]
           rw[HI0.out]
           repeat
            first
             | (refine aE rfl (by rfl) (by rfl) (fun _ _ _ h=>h) hS0 ?_;simp only[Act.put,Z1,Z2,Z3,Z4,Z5,Z6])
             | (refine aC (v:=?_) rfl (by rfl) (by rfl) (fun _ _ _ h=>h) hS0 (fun w' hS'=>?_) ?_;rotate_left;(focus (have rd0:=hS'.c g0;clear hS';go_simp;try with_reducible rfl));simp only[Act.put,Z1,Z2,Z3,Z4,Z5,Z6])
             | (refine aD rfl (by rfl) (by rfl) hS0 ?_;simp only[Act.put,Z1,Z2,Z3,Z4,Z5,Z6])
           refine aG ?_;have HCA:=lh (HCJ.out.t hS0);have HGA8:=lh (HGJ.out.chg hS0 (by simp));have HMA8:=lh (HMJ.out.chg hS0 (by simp));have HWA:=lh (HWJ.out.t hS0);have cj:=hS0.c CJ.out;have g1:=hS0.c G1.out;have v0:=HCA.out.c V0.out;have v1:=HCA.out.c V1.out;clear hS0 x0 x1 y0 y1 z0 z1 hsz c0 u0 u1 g0;obtain⟨x0,x1,y0,y1,z0,z1,hsz⟩:=HBX.out w8 HCA.out;go_wp2;have hS0:Chg [] w8 w8.drew:=(Chg.refl [] w8).drew;refine aF (Chg [] w8) [0,1,2,3,4,5,6,7,8,10,11,13,14,15] (Way.line [0,1,2,3,4,5,6,7,8,9,10,11,12,13,14,15] .done) (by kernel_rfl) (by kernel_rfl) ?_;simp only[Way.line]
           repeat
            first
             | (refine aE rfl (by rfl) (by rfl) (fun _ _ _ h=>h) hS0 ?_;simp only[Act.put,Z1,Z2,Z3,Z4,Z5,Z6])
             | (refine aC (v:=?_) rfl (by rfl) (by rfl) (fun _ _ _ h=>h) hS0 (fun w' hS'=>?_) ?_;rotate_left;(focus (have rd0:=hS'.c x0;have rd1:=hS'.c x1;have rd2:=hS'.c cj;clear hS';go_simp;try with_reducible rfl));simp only[Act.put,Z1,Z2,Z3,Z4,Z5,Z6])
             | (refine aD rfl (by rfl) (by rfl) hS0 ?_;simp only[Act.put,Z1,Z2,Z3,Z4,Z5,Z6])
           refine aI rfl (by rfl) (by rfl) (fun K hK=>?_);go_simp;refine (pC _ W _ k1 _ _ (by omega) (HNW.out.fresh (HCA.out.t hS0))).mono ?_;rintro e w9 ⟨rfl,hcx⟩;have hS1:=hS0.t hcx;clear hS0 hcx;have hS0:=hS1;clear hS1;refine hK.out _ _ (fun _=>hS0) ?_;clear hK K
           try simp only[Act.put,Z1,Z2,Z3,Z4,Z5,Z6]
           rw[HK1.out,show aBu (some m1)=(m1:Int) from rfl]
           repeat
            first
             | (refine aE rfl (by rfl) (by rfl) (fun _ _ _ h=>h) hS0 ?_;simp only[Act.put,Z1,Z2,Z3,Z4,Z5,Z6])
             | (refine aC (v:=?_) rfl (by rfl) (by rfl) (fun _ _ _ h=>h) hS0 (fun w' hS'=>?_) ?_;rotate_left;(focus (have rd0:=hS'.c v0;have rd1:=hS'.c v1;clear hS';go_simp;try with_reducible rfl));simp only[Act.put,Z1,Z2,Z3,Z4,Z5,Z6])
             | (refine aD rfl (by rfl) (by rfl) hS0 ?_;simp only[Act.put,Z1,Z2,Z3,Z4,Z5,Z6])
           refine aI rfl (by rfl) (by rfl) (fun K hK=>?_);go_simp;refine (sJ _ _ g p aB F1 _ px _ _ hpv HPE.out HWK.out HF1.out ⟨_,_,_,rfl⟩ (HG.out.fresh (HWA.out.t hS0)) HNN.out (HNP2.out.fresh (HCA.out.t hS0))).mono ?_;rintro e w10 ⟨rfl,hcx⟩;have hS1:=hS0.t hcx;clear hS0 hcx;have hS0:=hS1;clear hS1;refine hK.out _ _ (fun _=>hS0) ?_;clear hK K
           try simp only[Act.put,Z1,Z2,Z3,Z4,Z5,Z6]
           rw[HI1.out]
           repeat
            first
             | (refine aE rfl (by rfl) (by rfl) (fun _ _ _ h=>h) hS0 ?_;simp only[Act.put,Z1,Z2,Z3,Z4,Z5,Z6])
             | (refine aC (v:=?_) rfl (by rfl) (by rfl) (fun _ _ _ h=>h) hS0 (fun w' hS'=>?_) ?_;rotate_left;(focus (have rd0:=hS'.c g1;clear hS';go_simp;try with_reducible rfl));simp only[Act.put,Z1,Z2,Z3,Z4,Z5,Z6])
             | (refine aD rfl (by rfl) (by rfl) hS0 ?_;simp only[Act.put,Z1,Z2,Z3,Z4,Z5,Z6])
           refine aG ?_;have HCB:=lh (HCA.out.t hS0);have HGB10:=lh (HGA8.out.chg hS0 (by simp));have HMB10:=lh (HMA8.out.chg hS0 (by simp));have HCF:=lh (HWA.out.t hS0);clear hS0 x0 x1 y0 y1 z0 z1 hsz cj v0 v1 g1;by_cases hab:a=b
           ·have bab:((a:Int)==(b:Int))=true:=by rw[beq_iff_eq];omega
            have HE:=lh (show aA.aN g p aB same=7 from HJN.out j hjl (HJS.out.1 hab));clear hab;go_wp2;go_ret;exact⟨aS HE.out.symm,HCF.out⟩
           have bab:((a:Int)==(b:Int))=false:=by rw[beq_eq_false_iff_ne];omega
           have HJ2:=lh (HJS.out.2 hab);have IA:I64 (a:Int):=HGB10.out.2.1 (a:Int) (by
            rw[←HAE.out,←xL];exact aA.aZ (by rw[kY,HQN2.out];omega))
           clear hab;go_wp2
           go_loopw [19] (fun c wk=>∃ m:Nat,m≤i∧c=.int .i64 m∧aM wk w5.heap.size (.slice (some ⟨gb,0,none⟩) i gc) (iG (aA.iE a b q m))∧aM wk w5.heap.size (.slice mo2 ML.length mc2) ML∧Chg [] w5 wk) (fun c _=>i - (intOf c).toNat)
           case atStart=>exact⟨0,Nat.zero_le _,rfl,by rw[aA.aCe];exact HGB10.out,HMB10.out,HCB.out⟩
           case round =>
            rename World=>wk;obtain⟨m,hm',rfl,hgr,hmr,hc⟩:=hrel;have HGK:=lh hgr;have HMK:=lh hmr;have HCK:=lh hc;clear hgr hmr hc;by_cases hmi:m<i
            ·obtain⟨gb',e3,gm⟩:=HGK.out.grp (i:=m) (by rw[aA.qR,HQN2.out];exact hmi)
             obtain rfl:gb=gb':=by simpa using e3
             rw[aA.aFp (by rw[HQN2.out];exact hmi)] at gm;have HST:=lh (aA.aA3 (a:=a) (b:=b) (grp:=q) (j:=m) (by rw[HQN2.out];exact hmi));have fr:=HGK.out.free (by rw[kY,aA.qR,HQN2.out];omega) m;obtain⟨x,hx⟩:∃ x,q.getD m 0=x:=⟨_,rfl⟩;rw[hx] at gm HST;clear e3 hx;by_cases hxb:x=b
             ·have bx:((x:Int)==(b:Int))=true:=by rw[beq_iff_eq];omega
              have hset:Chg [gb] wk (wk.setCell ⟨gb,m,none⟩ (.int .i64 (a:Int))):=(Chg.refl _ _).setCell (Or.inl (by simp)) _;have HN:=lh (show aM (wk.setCell ⟨gb,m,none⟩ (.int .i64 (a:Int))) w5.heap.size (.slice (some ⟨gb,0,none⟩) i gc) (iG (aA.iE a b q (m+1))) from by
               rw[HST.out,if_pos hxb,aEh];exact HGK.out.set m (a:Int) IA)
              have HMN:=lh (HMK.out.chg hset (fun y hy e=>HAPI.out y (by simpa[gL] using hy) (by simpa[aP,Value.ownBlock] using e)));have HCN:=lh (HCK.out.trans hset (fun y hy=>Or.inr (by simp at hy;subst hy;exact (HGK.out.low y (by simp[Value.ownBlock])).1)));clear hxb hset;go_wp2
              go_roundw
              case rel=>exact⟨m+1,by omega,by go_num,HN.out,HMN.out,HCN.out⟩
              case measure=>simp[intOf];omega
             have bx:((x:Int)==(b:Int))=false:=by rw[beq_eq_false_iff_ne];omega
             have HN:=lh (show aM wk w5.heap.size (.slice (some ⟨gb,0,none⟩) i gc) (iG (aA.iE a b q (m+1))) from by
              rw[HST.out,if_neg hxb];exact HGK.out)
             clear hxb fr;go_wp2
             go_roundw
             case rel=>exact⟨m+1,by omega,by go_num,HN.out,HMK.out,HCK.out⟩
             case measure=>simp[intOf];omega
            have e:m=i:=by omega
            subst e;have HN:=lh (show aM wk w5.heap.size (.slice (some ⟨gb,0,none⟩) m gc) (iG (aA.fW a b q)) from by
             have:=HGK.out;rw[show aA.iE a b q m=aA.fW a b q by rw[←HQN2.out];exact aA.aCV a b q] at this;exact this)
            go_wp2
            go_roundw
            case rel=>exact⟨j+1,_,by omega,by omega,by go_num,HJ2,HN.out,HMK.out,HCK.out⟩
            case measure=>simp[intOf];omega
          have e:j=l.length:=by omega
          subst e;have HRN:=lh (show aA.kK g p aB same (k+1)=some (q,ML) from by rw[←HML.out];exact HNXT.out q HNB.out HKALL.out hjr.out);go_wp2
          go_roundw
          case rel=>exact⟨k+1,(q,ML),by omega,by go_num,HRN,HGJ.out,HMJ.out,HAPI.out,HMLL.out,HCJ.out⟩
          case measure=>simp[intOf];omega
      --END
     have e:k=same.length:=by omega
     subst e;obtain⟨hend1,hend2⟩:=aA.aEs HFE.out hrun.out;have HE1:=lh hend1;have HE2:=lh hend2;have HQN:=lh hqn;clear hend1 hend2 hqn;go_wp2
     go_loopw [20] (fun c wi=>∃ j:Nat,j≤i∧c=.int .i64 j∧Hid (∀ m,m<j→q0.getD m 0=q0.getD 0 0)∧Chg [] wr wi) (fun c _=>i - (intOf c).toNat)
     case atStart=>exact⟨0,Nat.zero_le _,rfl,lh (by omega),Chg.refl _ _⟩
     case round =>
      rename World=>wi;obtain⟨j,hj,rfl,hall,hc⟩:=hrel;have HCI:=lh hc;have HCF:=lh ((HW5.out.t HC.out).t hc);by_cases hji:j<i
      ·obtain⟨gb,rfl,g1⟩:=(HGR.out.chg hc (by simp)).grp (i:=j) (show j<q0.length by have:=HQN.out;omega)
       obtain⟨gb',e2,g2⟩:=(HGR.out.chg hc (by simp)).grp (i:=0) (show 0<q0.length by have:=HQN.out;omega);obtain rfl:gb=gb':=by simpa using e2
       have HN:=lh (fun (h:q0.getD j 0=q0.getD 0 0) m (hm:m<j+1)=>show q0.getD m 0=q0.getD 0 0 from by
        by_cases e:m=j
        ·rw[e];exact h
        exact hall.out m (by omega))
       have HB:=lh (fun h=>HE1.out j (by have:=HQN.out;exact (by omega:j<q0.length)) h);obtain⟨a,ha⟩:∃ a,q0.getD j 0=a:=⟨_,rfl⟩;obtain⟨b,hb⟩:∃ b,q0.getD 0 0=b:=⟨_,rfl⟩;rw[ha] at g1 HN;rw[hb] at g2 HN;have HA:=lh ha;have HBE:=lh hb;have h0i:0<i:=by omega
       have h0j:(0:Int)<(i:Int):=by omega
       clear hc e2 ha hb x0 x1 y0 y1 z0 z1 hsz;go_wp2;have hS0:Chg [] wi wi.drew:=(Chg.refl [] wi).drew;refine aF (Chg [] wi) [0,1,2,3,4,5,6,7] (Way.line [0,1,2,3,4,5,6,7] .done) (by kernel_rfl) (by kernel_rfl) ?_;simp only[Way.line]
       repeat
        first
         | (refine aE rfl (by rfl) (by rfl) (fun _ _ _ h=>h) hS0 ?_;simp only[Act.put,Z1,Z2,Z3,Z4,Z5,Z6])
         | (refine aC (v:=?_) rfl (by rfl) (by rfl) (fun _ _ _ h=>h) hS0 (fun w' hS'=>?_) ?_;rotate_left;(focus (have rd0:=hS'.c g1;have rd1:=hS'.c g2;clear hS';go_simp;try with_reducible rfl));simp only[Act.put,Z1,Z2,Z3,Z4,Z5,Z6])
         | (refine aD rfl (by rfl) (by rfl) hS0 ?_;simp only[Act.put,Z1,Z2,Z3,Z4,Z5,Z6])
       refine aG ?_;have HCI2:=lh (HCI.out.t hS0);have HCF2:=lh (HCF.out.t hS0);clear hS0 g1 g2;by_cases q:a=b
       ·have b1:((a:Int) != (b:Int))=false:=by simp[q]
        have HN2:=lh (show ∀ m,m<j+1→q0.getD m 0=q0.getD 0 0 from fun m hm=>by rw[HBE.out];exact HN.out q m hm);clear q;go_wp2
        go_roundw
        case rel=>exact⟨j+1,by omega,by go_num,HN2,HCI2.out⟩
        case measure=>simp[intOf];omega
       have b1:((a:Int) != (b:Int))=true:=by simp only[bne_iff_ne];omega
       have HE:=lh (show aA.aN g p aB same=7 from HB.out (by
        show q0.getD j 0≠q0.getD 0 0;rw[HA.out,HBE.out];exact q))
       clear q;go_wp2;go_ret;exact⟨aS HE.out.symm,HCF2.out⟩
      have HE:=lh (show aA.aN g p aB same=0 from HE2.out fun m hm=>hall.out m (by have:=HQN.out;have hm':m<q0.length:=hm;omega));have e:j=i:=by omega
      subst e;clear hc;go_wp2;go_ret;exact⟨aS HE.out.symm,HCF.out⟩
  rw[decide_eq_false hfe];have HE:=lh (show aA.aN g p aB same=6 by rw[aA.iA hfe,aA.kC HTE.out (fun q=>hfe (aA.gR HTE.out q))]);clear hfe;go_wp2;go_ret;exact⟨aS HE.out.symm,HW3.out⟩
 have HE:=lh (show aA.aN g p aB same=aA.bE g p aB by rw[aA.iA (by rw[aA.fN hte];exact hte),aA.fN hte]);have b1:((aA.bE g p aB) != 0)=true:=by simp[hte]
 generalize aA.bE g p aB=er at *;clear hte x0 x1 y0 y1 z0 z1 hsz;go_wp2;go_ret;exact⟨aS HE.out.symm,HW2.out⟩
end Go.Proofs.YtkacjmoamgjfpaaGreat
