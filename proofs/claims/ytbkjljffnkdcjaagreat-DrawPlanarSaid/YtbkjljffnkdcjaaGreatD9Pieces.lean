/- package walk: the contract of Pieces. Conditions: a graph, a part that lie in memory and read so, of a bounded size. -/
import Derived.Test.YtbkjljffnkdcjaaGreatD9Walks
import Derived.Test.YtbkjljffnkdcjaaGreatD9Queue
open Nat renaming le_trans→Qa,zero_le→Qi,le_refl→Qj
open List renaming length_filter_le→Qb,length_take→Qg
open Go.Value renaming slice→Qc,ownBlock→Qd
open Option renaming some→Qe
open Or renaming inl→Qf,inr→Qh
namespace Go.Proofs.YtbkjljffnkdcjaaGreat
open Go.RowKit Go.Maps
theorem Dv:pD 45 27 (.agg #[.slice none 0 0,.slice none 0 0]) 2 48:=⟨Tryz.underlying45,by kernel_rfl,rfl,by decide,by decide⟩
theorem yC (w:World) (B:Nat):ax w B (.slice none 0 0) []:=⟨World.ownsRow_nil _ _ _ _,by simp,by simp⟩
theorem pH {w:World} {B n sz g cap q:Nat} {e:TypeId} {xs:List Value} {cs:List Cell} {l:List Int} {x:Int} (h:bF w B e sz (.slice (some ⟨g,0,none⟩) n cap) n xs cs) (he:e≠3) (hB:B<=w.heap.size) (hq:q<xs.length) (hc:cs[q]?=some (.row l)) (hx:bn x) (hn:l.length+1<4294967296) :
  ∃ va vc nt nr w2,w.cell? ⟨g,q,none⟩=some (.slice va l.length vc)/\(Builtin.append_ #[25,25] 25 #[.slice va l.length vc,.slice (some ⟨w.heap.size,0,none⟩) 1 1]).run Tryz.prog (w.alloc (.cells #[.int .i64 x] 3))=.ok (.slice nt (l.length+1) nr) w2 /\
   w2.cell? ⟨g,q,none⟩=some (.slice va l.length vc)/\w2.frozen? ⟨g,q,none⟩=false /\
   bF (w2.setCell ⟨g,q,none⟩ (.slice nt (l.length+1) nr)) B e sz (.slice (some ⟨g,0,none⟩) n cap) n (xs.set q (.slice nt (l.length+1) nr)) (cs.set q (.row (l++[x]))) /\
   ∃ own,ai own w (w2.setCell ⟨g,q,none⟩ (.slice nt (l.length+1) nr))/\∀ j∈own,B<=j/\∃ cs t r,w.heap[j]?=some (.cells cs t r):=by
 have bd:=h.row hc;obtain⟨va,vc,ev⟩:=bd.shape;have aO:=h.cell hq;rw[ev] at aO bd;have ca:ai [] w (w.alloc (.cells #[.int .i64 x] 3)):=(ai.refl _ _).alloc _;obtain⟨v',w2,hr,r1,r2,r3⟩:=iL (bd.aM ca (by simp)) (gP w hx) (Qa hB ca.size) (by simp;omega) 25;obtain⟨nt,nr,ev'⟩:=r1.shape;rw[show (l++[x]).length=l.length+1 by simp] at ev';subst ev';have bG:ai (aL (.slice va l.length vc)) w w2:=(ca.mono (by simp)).trans r2 (fun j hj=>Qf hj);have hfg:g ∉ aL (.slice va l.length vc):=fun em=>by
  obtain⟨Eu,r,hh⟩:=bZ bd g em;rcases h.out.2 with ⟨q,_⟩ | ⟨g',c',cur,q,_,hg,_⟩
  ·cases q
  simp only[Qc.injEq,Qe.injEq,Addr.mk.injEq] at q;obtain⟨⟨rfl,-⟩,-⟩:=q;rw[hg] at hh;simp at hh;exact he hh.2.1
 have qy:=bG.cell aO hfg;have tg:=h.put (v:=.slice nt (l.length+1) nr) (m:=l++[x]) he hq hc r1 (by rw[ev];exact bG) (fun b hb=>by
  rw[ev];rcases r3 b hb with t | t
  ·exact Qf t
  exact Qh (Qa ca.size t))
 have hgh:∃ cur,w.heap[g]?=some (.cells cur e (0,0))/\B<=g:=by
  rcases h.out.2 with ⟨q,_⟩ | ⟨g',c',cur,q,hb,hg,_⟩
  ·cases q
  simp only[Qc.injEq,Qe.injEq,Addr.mk.injEq] at q;obtain⟨⟨rfl,-⟩,-⟩:=q;exact⟨_,hg,hb⟩
 obtain⟨cur,hg,hgB⟩:=hgh;have Cp:=bG.heap hg hfg;have bw:ai [g] w2 (w2.setCell ⟨g,q,none⟩ (.slice nt (l.length+1) nr)):=(ai.refl _ _).setCell (Qf (by simp)) _;refine⟨va,vc,nt,nr,w2,aO,hr,qy,by simp[World.frozen?,Cp],tg,g :: aL (.slice va l.length vc),(bG.mono (fun j hj=>Qf (by simp[hj]))).trans bw (fun j hj=>Qf (by simp at hj;simp[hj])),fun j hj=>?_⟩;rcases List.mem_cons.1 hj with t | t
 ·rw[t];exact⟨hgB,_,_,_,hg⟩
 obtain⟨Eu,r,hh⟩:=bZ bd j t;exact⟨(bd.low j (by rw[<-bd.aL];exact t)).1,_,_,_,hh⟩
theorem OW {g:Plain.Gr} {p:Plain.Pt} (hp:Plain.aH g p) {a y:Int} (ha:a∈p.v) (h:Plain.bP g p (-1) a y):y∈p.v:=by
 induction h with
 | here=>exact ha
 | step _ hn _ _ =>
  obtain⟨e,he,q | q⟩:=hn
  ·have:=(hp.ends e he).2;rw[q] at this;exact this
  have:=(hp.ends e he).1;rw[q] at this;exact this
theorem Tp (x y:Int):(Lit.int .i64 y).sameKey (.int .i64 x)=decide (y=x):=by
 simp[Lit.sameKey]
set_option maxRecDepth 100000 in
set_option maxHeartbeats 4000000 in
theorem FY (vg vp:Value) (g:Plain.Gr) (p:Plain.Pt) (w:World) (pO:p.e.length<=100000) (vF:p.v.length<=100000) (hg:dU w vg g) (hp:gD w vp p) :
  Calls Tryz.prog 133 #[vg,vp] w fun e w'=>∃ ov,e=.returned (.tuple #[ov,.int .i64 (p.err g)])/\(p.err g≠0->ov=.slice none 0 0) /\
   (p.err g=0->∃ xs,bF w' w.heap.size 27 2 ov (Plain.roots g p).length xs (pI (Plain.comp g p) (fun r=>(p.sub g (Plain.comp g p r)).e) (Plain.roots g p)))/\ai [] w w':=by
 have HG:=lh hg;have HP:=lh hp;obtain⟨eo,cap,rfl,hn,hm,dS,aO⟩:=hg;obtain⟨v1,v2,rfl,hv,he⟩:=hp;obtain⟨ao,ac,rfl,has,KZ,cD⟩:=hv;obtain⟨bo,bc,rfl,la,vD,bT⟩:=he;have sD:=lh aO;have IB:=lh cD;have Ci:=lh bT;have ir:=lh dS;obtain⟨eG,fh,cG⟩:=dq w #[.int .i64 g.n,.slice eo g.e.length cap] #[.slice ao p.v.length ac,.slice bo p.e.length bc] 24 27;have X0:=lh ((cell_of_row _ _ 0 _ _ _ eG).trans (show _=some (Value.int .i64 g.n) from rfl));have X1:=lh ((cell_of_row _ _ 1 _ _ _ eG).trans (show _=some (Qc eo g.e.length cap) from rfl));have Y0:=lh ((cell_of_row _ _ 0 _ _ _ fh).trans (show _=some (Qc ao p.v.length ac) from rfl));have Y1:=lh ((cell_of_row _ _ 1 _ _ _ fh).trans (show _=some (Qc bo p.e.length bc) from rfl));have b8:=lh cG;clear aO cD bT dS la has hn eG fh cG
 go_enter Tryz.func133,Tryz.ntmps133
 go_wp2_with fail
 refine (fw _ _ g p _ (by omega) (HG.out.fresh b8.out) (HP.out.fresh b8.out)).mono ?_;rintro e w2 ⟨rfl,bG⟩;have cA:=lh (b8.out.t bG);have x0:=bG.c X0.out;have x1:=bG.c X1.out;have y0:=bG.c Y0.out;have y1:=bG.c Y1.out;have zi:=lh (show w.heap.size+2<=w2.heap.size by have:=bG.size;simpa using this);clear bG;by_cases hr:p.err g=0
 ·have HR:=lh hr
  rw[hr];have mH:=lh (Plain.Pt.aF hr);have YN:=lh (Plain.bY (Plain.Pt.aP hr).2.1);have Ng:=lh (Plain.Gr.aP (Plain.Pt.aP hr).1).2.1
  go_wp2_with fail
  refine (tZ _ _ g p _ (by omega) hr (HG.out.fresh cA.out) (HP.out.fresh cA.out)).mono ?_;rintro e w3 ⟨db,rfl,hsmap,dB,mm⟩;have HSD:=lh hsmap;have dD:=lh (cA.out.t dB);have X03:=lh (dB.c x0);have X13:=lh (dB.c x1);have y03:=dB.c y0;have al4:=fun o=>dC y03 o;have Y13:=lh (dB.c y1);have nq:=@run_makeMap Tryz.prog;have Ux:=lh (show w.heap.size+2<=w3.heap.size by have:=dB.size;have:=zi.out;omega);clear dB hsmap x0 x1 y0 y1 hr mm;go_wp2;clear nq y03 al4;have HM0:=lh (bN.made w3);have kh:=lh ((ai.refl [] w3).alloc (.map #[] 0));generalize hw4:w3.alloc (.map #[] 0)=w4 at *;clear hw4
  go_loopw [9,32] (fun c9 c wr=>∃ (k:Nat) (f:Int->Option Int) (xs:List Value),k<=p.v.length/\c=.int .i64 k/\bN wr w3.heap.size (k*1000000) f/\Hid (Plain.eJ g p (Plain.bt g p k) f)/\bF wr w3.heap.size 27 2 c9 (Plain.bt g p k).length xs (pI (Plain.wJ g p k) (Plain.rO g p 0) (Plain.bt g p k))/\ai [] w3 wr) (fun _ c _=>p.v.length - (intOf c).toNat)
  case atStart=>exact⟨0,_,[],Qi _,rfl,by rw[Nat.zero_mul];exact HM0.out,lh (by rw[Plain.qT];exact Plain.eJ.start g p),by rw[Plain.qT];exact bF.nil _ _ _ _,kh.out⟩
  case round =>
   obtain⟨k,f,xs,hk,rfl,hm,qM,bh,hc⟩:=hrel;have HM:=lh hm;have lK:=lh bh;have HC:=lh hc;by_cases aU:k<p.v.length
   ·obtain⟨ab,xQ,rfl,qt⟩:=IB.out (by intro e;rw[e] at aU;simp at aU)
    have ck:=HC.out.c (dD.out.c (qt k aU));have DY:=Plain.aZ aU;have Sr:=mH.out.vr _ DY;have HRT:=lh (fun h=>qM.out.root mH.out YN.out aU h);have HKN:=lh (fun i (h:f _=some i)=>qM.out.known mH.out aU h);have uJ:=lh (Plain.B5 (g:=g) aU);have HSS:=lh (Plain.Bg (g:=g) aU);have HVI:=lh (fun r=>Plain.Xi (g:=g) (r:=r) aU);have HVO:=lh (fun r=>Plain.U5 (g:=g) (r:=r) aU);have Jf:=lh (Plain.NY (g:=g) YN.out aU);have HNV:=lh (Plain.aee mH.out aU);have Fq:=lh aU;obtain⟨v,Nq⟩:∃ v,p.v.getD k 0=v:=⟨_,rfl⟩;rw[Nq] at ck DY Sr HRT HKN uJ HSS HVI HVO Jf HNV;have IV:bn v:=bn.mk (by omega) (by have:=Ng.out;omega);have HVM:=lh DY;obtain⟨uo,uc,rfl⟩:=bh.shape;clear Nq qt hm bh hc DY;obtain⟨u1,Ik⟩:∃ u1,(f v).getD 0=u1:=⟨_,rfl⟩;obtain⟨t1,ht1⟩:∃ t1,(f v).isSome=t1:=⟨_,rfl⟩;have SO:=lh Ik;have Mc:=lh ht1;clear Ik ht1
    go_upto_if 43 with (at_lookup;refine ep _ rfl _ _ rfl HM.out rfl IV rfl SO Mc ?_)
    go_cut [9] (fun c9 wc=>∃ (f:Int->Option Int) (xs:List Value),bN wc w3.heap.size (k*1000000+1000000) f/\Hid (Plain.eJ g p (Plain.bt g p (k+1)) f)/\bF wc w3.heap.size 27 2 c9 (Plain.bt g p (k+1)).length xs (pI (Plain.wJ g p k) (Plain.rO g p 0) (Plain.bt g p (k+1)))/\ai [] w3 wc/\Hid (∃ n:Nat,f v=some (n:Int)/\n<(Plain.bt g p (k+1)).length/\Plain.bP g p (-1) ((Plain.bt g p (k+1)).getD n 0) v))
    case first =>
     cases Nu:f v with
     | some i =>
      have HE:=lh (HSS.out (HKN.out i Nu));have Wr:=lh ((qM.out v i).1 Nu);obtain rfl:t1=true:=by rw[<-Mc.out,Nu];rfl
      have HFV:=lh Nu;clear Nu;go_wp2
      go_meet
      case rel =>
       refine⟨f,xs,HM.out.mono (by omega),by rw[HE.out];exact qM,by rw[HE.out];exact lK.out,HC.out,?_⟩;obtain⟨n,e,y8,gL⟩:=Wr.out;exact lh ⟨n,by rw[HFV.out,e],by rw[HE.out];exact y8,by rw[HE.out];exact gL⟩
     | none =>
      obtain rfl:t1=false:=by rw[<-Mc.out,Nu];rfl
      have SY:=lh (HRT.out Nu);have HE:=lh (uJ.out SY.out);have x0w:=HC.out.c X03.out;have x1w:=HC.out.c X13.out;clear Nu
      go_wp2_with fail
      refine (Kq _ g p db (2*p.e.length) v (-1) _ (by omega) (by omega) HR.out HVM.out IV (bn.mk (by omega) (by omega)) (HG.out.fresh (dD.out.t HC.out)) (HSD.out.fresh HC.out)).mono ?_;rintro e w5 ⟨rk,m,fr,rfl,hmr,sF,gV,hrk,YX⟩;obtain⟨Dm,bL,Yf⟩:=hmr;have Sl:=lh Yf;have gh:=lh bL;have PF:=lh sF;have Jm:=lh (HM.out.aM gV (by simp));have ab2:=lh (lK.out.fresh gV);have iP:=lh (HC.out.t gV);have awe:=bL.size_le;have agt:=bL.lt;have hwl:=HM.out.lt;have HWL:=lh hwl;have amL:=lh (show rk≠w3.heap.size by omega);have atK:=lh agt;clear Yf sF gV x0w x1w agt hwl hrk
      go_wp2_with (at_range;refine wpList_range_own _ rfl _ 124 rfl 3 3 bM Tryz.underlying124 _ rk m Dm rfl bL ?_;intro w6 ach Pb Cm)
      go_frame
      have XR:=lh (show w3.heap.size<w5.heap.size from Jm.out.lt);have awq:=lh ach;have HG0:=lh Pb;have hlen:(Plain.bt g p k).length<=100000:=Qa (Plain.kV g p k) vF;clear Pb Cm bL;obtain⟨len,hle⟩:∃ len,(Plain.bt g p k).length=len:=⟨_,rfl⟩;have yd:=lh hle;have PZ:=lh (show bF w5 w3.heap.size 27 2 (.slice uo len uc) len xs (pI (Plain.wJ g p k) (Plain.rO g p 0) (Plain.bt g p k)) by rw[<-hle];exact ab2.out);rw[hle] at hlen ⊢;clear hle ab2;have IL:bn (len:Int):=bn.mk (by omega) (by omega)
      go_loopw [14] (fun _ wi=>∃ (left:Lit->Bool) (dK:Nat) (f':Int->Option Int) (n':Nat),wi.ranges Tryz.prog 3 (plainElem Tryz.prog 3) rk w5.heap.size m Dm left dK/\bN wi w3.heap.size n' f'/\n'+dK<=k*1000000+1000000/\Hid (∀ z,left z=true->Maps.has Dm z=true)/\Hid (∀ y,(fr y≠none->left (.int .i64 y)=false->f' y=some (len:Int))/\(fr y=none\/left (.int .i64 y)=true->f' y=f y))/\Hid (ai [w3.heap.size] w5 wi)) (fun _ wi=>wi.rangeLeft rk w5.heap.size)
      case atStart=>exact⟨_,_,f,_,ach,Jm.out.kept HG0.out (by simp),by omega,lh (fun z h=>h),lh (fun y=>⟨fun h1 h2=>by
        have iy:bn y:=by
         have:=mH.out.vr y (OW mH.out HVM.out ((PF.out y).1 h1));exact bn.mk (by omega) (by have:=Ng.out;omega)
        rw[(Sl.out y iy).1] at h2;exact absurd (by simpa using h2) h1,fun _=>rfl⟩),lh ((ai.refl [w3.heap.size] w5).grown HG0.out (by simp))⟩
      case round =>
       obtain⟨left,dK,f',n',Zs,hm',oY,hlh,GQ,dI⟩:=hrel;have HM':=lh hm';clear hm'
       go_wp2_with (at_next;refine wpList_next_ranges_ii _ rfl _ rfl 3 3 .i64 .i64 bM Tryz.underlying3 Tryz.underlying3 rk w5.heap.size m _ _ _ rfl Zs ?_ ?_)
       ·intro gy FD
        have Fj:=lh ((ai.refl [w3.heap.size] w5).trans dI.out (fun j hj=>Qf hj));have HNI:=lh (PZ.out.other dI.out (fun j hj cs t r hh=>by simp at hj;subst hj;exact absurd rfl (Jm.out.ne hh)));have HWB:=lh (show w3.heap.size<=wr.heap.size by have:=XR.out;have:=dI.out.size;omega);have xo:=lh (iP.out.trans dI.out (fun j hj=>Qh (by simp at hj;omega)));have HPM:=lh (show Plain.eJ g p (Plain.bt g p (k+1)) f' by
         rw[HE.out];refine qM.out.add mH.out (fun r hr=>(Plain.kY hr).1) SY.out (fun h=>HNV.out (Plain.kY h).2) (fun y hy=>?_) (fun y hy=>?_)
         ·rw[yd.out]
          exact (GQ.out y).1 ((PF.out y).2 hy) (FD _)
         exact (GQ.out y).2 (Qf (Classical.byContradiction fun h=>hy ((PF.out y).1 h))))
        have HFV:=lh (show f' v=some (len:Int) from (GQ.out v).1 ((PF.out v).2 .here) (FD _));have GS:=lh (show n'<=k*1000000+1000000 by omega);clear Zs hlh GQ dI FD gy
        go_wp2_with (at_builtin;refine qA Dv rfl (.tmp 57) (.tmp 59) rfl (v:=.slice uo len uc) rfl rfl rfl HNI.out.out HWB.out rfl (by intro u hu;simp at hu;rw[hu];rfl) (by omega) ?_;intro g4 adI w9 r9 c9 l9;have R9:=lh r9;have C9:=lh c9;clear r9 c9 l9;go_frame)
        go_meet
        case rel =>
         have iw:=HNI.out.add (us:=[.slice none 0 0,.slice none 0 0]) (ds:=[.row [],.row []]) (by decide) rfl rfl (fun i d hi=>by
          rcases i with _ | _ | i
          ·simp at hi;subst hi;exact yC _ _
          ·simp at hi;subst hi;exact yC _ _
          ·simp at hi) (fun i j hi hj bh=>by
          simp at hi;rcases i with _ | _ | i
          ·exact Qf rfl
          ·exact Qf rfl
          ·omega) (fun i j b hi hj hb e=>by
          simp at hj;rcases j with _ | _ | j
          ·simp[Qd] at e
          ·simp[Qd] at e
          omega) R9.out C9.out
         have alz:pI (Plain.wJ g p k) (Plain.rO g p 0) (Plain.bt g p (k+1))=pI (Plain.wJ g p k) (Plain.rO g p 0) (Plain.bt g p k)++[.row [],.row []]:=by
          rw[HE.out,EY,Jf.out SY.out,Plain.RN]
         have Pd:(Plain.bt g p (k+1)).length=len+1:=by rw[HE.out,List.length_append,yd.out];rfl
         refine⟨f',_,(HM'.out.mono GS.out).aM C9.out (fun e=>?_),HPM,by rw[alz,Pd];exact iw,xo.out.trans C9.out (fun j hj=>Qh (HNI.out.out.lt j (by simpa using hj)).1),lh ⟨len,HFV.out,by rw[Pd];omega,?_⟩⟩
         ·rcases HNI.out.out.2 with ⟨q,_⟩ | ⟨g',c',cur,q,_,hg,_⟩
          ·rw[q] at e;simp[Qd] at e
          rw[q] at e;simp[Qd] at e;subst e;exact HM'.out.ne hg rfl
         rw[HE.out];simp only[List.getD,<-yd.out,List.getElem?_append_right (Qj _),Nat.sub_self,List.getElem?_cons_zero,Option.getD_some];exact .here
       intro x c w7 ajp hwx A5 hlx dN ans PV G7 hs1 kQ;have Ee:=lh (HM'.out.kept G7 (by intro e;have:=Qe.inj e;have:=XR.out;omega));have Uu:n'<maxLen:=by unfold maxLen;omega
       go_wp2_with (at_mapUpdate;refine iG _ rfl _ _ _ rfl Ee.out Uu rfl hwx IL rfl rfl ?_;intro w8 m8 g8;have M8:=lh m8;have G8:=lh g8;clear m8 g8;go_frame)
       have adr:=ans.kept G8.out (fun e=>amL.out (Qe.inj e)) (fun e=>by have:=Qe.inj e;have:=XR.out;omega)
       go_roundw
       case rel =>
        refine⟨_,ajp,_,n'+1,adr,M8.out,by omega,lh (fun z hz=>hlh.out z (by simp at hz;exact hz.1)),lh (fun y=>?_),lh ((dI.out.grown G7 (fun j hj=>Qh (by cases hj;exact Qj _))).grown G8.out (fun j hj=>Qf (by cases hj;simp)))⟩;have mi:fr x≠none:=by
         have:=hlh.out _ hlx;rw[(Sl.out x hwx).1] at this;exact Option.isSome_iff_ne_none.1 this
        rw[Tp];by_cases e:y=x
        ·subst e
         exact⟨fun _ _=>by rw[if_pos rfl],fun h=>by rcases h with h | h;exact absurd h mi;simp at h⟩
        rw[if_neg e];simp only[e,decide_false,Bool.not_false,Bool.and_true];exact GQ.out y
       case measure=>rw[adr.left_eq,Zs.left_eq];exact PV
    case rest =>
     obtain⟨f2,Ig,jS,ajW,Ep,XV,hex⟩:=hcut;obtain⟨n,Y9,FO,rm⟩:=hex.out;have aqo:(Plain.bt g p (k+1)).length<=100000:=Qa (Plain.kV g p (k+1)) vF;have hRR:∀ r∈Plain.bt g p (k+1),r∈Plain.roots g p:=fun r hr=>(Plain.kY hr).1;have yI:v∈Plain.comp g p ((Plain.bt g p (k+1)).getD n 0):=Plain.cW.2 ⟨HVM.out,rm⟩;have FZ:=lh (show pI (Plain.wJ g p (k+1)) (Plain.rO g p 0) (Plain.bt g p (k+1))=(pI (Plain.wJ g p k) (Plain.rO g p 0) (Plain.bt g p (k+1))).set (n*2) (.row (Plain.wJ g p k ((Plain.bt g p (k+1)).getD n 0)++[v])) by
      rw[<-HVI.out _ yI];exact rp FO (fun m hm YX=>HVO.out _ (fun cV=>YX (Plain.rV mH.out hRR (Plain.y9 mH.out _) FO hm rm cV))))
     have NX:=sq (Plain.wJ g p k) (Plain.rO g p 0) _ n FO;have EF:(Plain.wJ g p k ((Plain.bt g p (k+1)).getD n 0)).length<=100000:=by
      unfold Plain.wJ;refine Qa (Qb _ _) ?_;rw[Qg];omega
     obtain⟨og,oc,rfl⟩:=Ep.some (by omega);have xp:=Ep.cells;obtain⟨va,vc,nt,nr,w8,p1,p2,p3,p4,p5,own,p6,p7⟩:=pH Ep (q:=n*2) (by decide) XV.size (by omega) NX IV (by omega);have vH:=lh p2;have HP5:=lh p5;have yS:=lh p6;have HP7:=lh p7;have mD:=lh jS;have amh:=lh XV;have Sb:Hid ((f2 v).getD 0=(n:Int)):=lh (by rw[Y9];rfl);clear p2 p5 p6 p7 jS Ep XV hex Y9 rm hRR yI NX;generalize (Plain.wJ g p k ((Plain.bt g p (k+1)).getD n 0))=V0 at *;generalize hRL:(Plain.bt g p (k+1)).length=RL at *;have RD:=lh hRL;clear hRL
     go_wp2_with (first
      | (at_lookup;refine kd _ rfl _ _ rfl mD.out rfl IV rfl Sb ?_)
      | (at_builtin;refine ki rfl (.tmp 70) (.tmp 72) _ rfl rfl rfl vH.out ?_))
     go_roundw
     case rel =>
      refine⟨k+1,f2,_,by have:=Fq.out;omega,by go_num,(mD.out.mono (by omega)).aM yS.out (fun e=>?_),ajW,by rw[FZ.out,RD.out];exact HP5.out,amh.out.trans yS.out (fun j hj=>Qh (HP7.out j hj).1)⟩;obtain⟨-,cs,t,r,hh⟩:=HP7.out _ e;exact mD.out.ne hh rfl
     case measure=>have:=Fq.out;simp[intOf];omega
   have e:k=p.v.length:=by omega
   subst e;rw[Plain.nM] at qM bh;have adn:pI (Plain.wJ g p p.v.length) (Plain.rO g p 0) (Plain.roots g p)=pI (Plain.comp g p) (Plain.rO g p 0) (Plain.roots g p):=lP fun r _=>⟨Plain.Ti g p r,rfl⟩;rw[adn] at bh;have Cq:(Plain.roots g p).length<=100000:=by rw[<-Plain.nM];exact Qa (Plain.kV g p _) vF
   have Sb:=lh bh;obtain⟨uo,uc,rfl⟩:=bh.shape;have y1:=HC.out.c Y13.out;clear adn lK bh hm hc aU hk;generalize VG:Plain.roots g p=R at *;have MU:=lh VG;clear VG;generalize wr=wz at *;go_wp2
   go_loopw [80] (fun c wr=>∃ (k:Nat) (xs:List Value),k<=p.e.length/\c=.int .i64 k/\bF wr w3.heap.size 27 2 (.slice uo R.length uc) R.length xs (pI (Plain.comp g p) (Plain.rO g p k) R)/\bN wr w3.heap.size (p.v.length*1000000) f/\ai [] w3 wr) (fun c _=>p.e.length - (intOf c).toNat)
   case atStart=>exact⟨0,xs,Qi _,rfl,Sb.out,HM.out,HC.out⟩
   case round =>
    obtain⟨k,Ig,hk,rfl,bh,hm,hc⟩:=hrel;have kR:=lh hc;have HMR:=lh hm;by_cases aU:k<p.e.length
    ·obtain⟨bb,rh,rfl,rR⟩:=Ci.out (by intro e;rw[e] at aU;simp at aU)
     have ce:=hc.c (dD.out.c (rR k aU));have Fy:=Plain.ct (Plain.Pt.aP HR.out).2.2.1 aU;obtain⟨ei,vG⟩:∃ ei:Nat,p.e.getD k 0=(ei:Int):=⟨(p.e.getD k 0).toNat,by omega⟩;have sC:=mH.out.ends _ (Plain.aZ aU);have HEI:=lh (fun r=>Plain.YT (g:=g) (r:=r) aU);have HEO:=lh (fun r=>Plain.Uy (g:=g) (r:=r) aU);rw[vG] at ce Fy sC HEI HEO;have xO:ei<g.e.length:=by omega
     have aby:(ei:Int)<=1024:=by have:=(Plain.Gr.aP (Plain.Pt.aP HR.out).1).2.2.1;have:=(Plain.Gr.aP (Plain.Pt.aP HR.out).1).1;omega
     obtain⟨eb,eB,rfl,gy,-⟩:=sD.out ei xO;obtain⟨z1,-⟩:=ir.out ei xO;have c0:=hc.c (dD.out.c gy);have x1w:=hc.c X13.out;have yO:g.tail (2*(ei:Int))=(g.ends ei).1:=by unfold Plain.Gr.tail Plain.Gr.at;rw[if_pos (by omega)];congr 2;omega
     have dN:(g.at (ei:Int)).1=(g.ends ei).1:=rfl;rw[dN] at sC;rw[yO] at HEI HEO;obtain⟨x,hx⟩:∃ x,(g.ends ei).1=x:=⟨_,rfl⟩;rw[hx] at sC z1 c0 HEI HEO;obtain⟨r,fz,tQ⟩:=Plain.rK (g:=g) (fun v hv=>(mH.out.vr v hv).1) sC.1;rw[MU.out] at fz;obtain⟨n,FO,hnr⟩:=Plain.bO fz;have hRR:∀ r∈R,r∈Plain.roots g p:=fun r hr=>by rw[MU.out];exact hr
     have mi:f x=some (n:Int):=(qM.out x n).2 ⟨n,rfl,FO,by rw[hnr];exact tQ⟩;have yI:x∈Plain.comp g p (R.getD n 0):=Plain.cW.2 ⟨sC.1,by rw[hnr];exact tQ⟩;have hRn:R.Nodup:=by rw[<-MU.out];exact Plain.lB mH.out
     have FZ:=lh (show pI (Plain.comp g p) (Plain.rO g p (k+1)) R=(pI (Plain.comp g p) (Plain.rO g p k) R).set (n*2+1) (.row (Plain.rO g p k (R.getD n 0)++[(ei:Int)])) by
      rw[<-HEI.out _ yI];exact tH FO (fun m hm YX=>HEO.out _ (fun cV=>YX (Plain.rV mH.out hRR hRn FO hm (by rw[hnr];exact tQ) cV))))
     have NX:=vB (Plain.comp g p) (Plain.rO g p k) _ n FO;have EF:(Plain.rO g p k (R.getD n 0)).length<=100000:=by
      unfold Plain.rO;refine Qa (Qb _ _) ?_;rw[Qg];omega
     obtain⟨og,oc,e⟩:=bh.some (by omega);simp only[Qc.injEq] at e;obtain⟨rfl,-,rfl⟩:=e;have xp:=bh.cells;obtain⟨va,vc,nt,nr,w8,p1,p2,p3,p4,p5,own,p6,p7⟩:=pH bh (q:=n*2+1) (x:=(ei:Int)) (by decide) hc.size (by omega) NX (bn.mk (by omega) (by omega)) (by omega);have vH:=lh p2;have HP5:=lh p5;have yS:=lh p6;have HP7:=lh p7;have HN3:Hid ((f x).getD 0=(n:Int)):=lh (by rw[mi];rfl);have Fq:=lh aU;clear p2 p5 p6 p7 hm bh hc mi hRR yI NX rR Fy vG sC gy yO dN hx fz tQ hnr hRn;generalize (Plain.rO g p k (R.getD n 0))=V0 at *
     go_wp2_with (first
      | (at_lookup;refine kd _ rfl _ _ rfl HMR.out rfl z1 rfl HN3 ?_)
      | (at_builtin;refine ki rfl (.tmp 98) (.tmp 100) _ rfl rfl rfl vH.out ?_))
     go_roundw
     case rel =>
      refine⟨k+1,_,by have:=Fq.out;omega,by go_num,by rw[FZ.out];exact HP5.out,HMR.out.aM yS.out (fun e=>?_),kR.out.trans yS.out (fun j hj=>Qh (HP7.out j hj).1)⟩;obtain⟨-,cs,t,r,hh⟩:=HP7.out _ e;exact HMR.out.ne hh rfl
     case measure=>have:=Fq.out;simp[intOf];omega
    have e:k=p.e.length:=by omega
    subst e;have HN4:=lh (show bF wr w.heap.size 27 2 (.slice uo R.length uc) R.length Ig (pI (Plain.comp g p) (fun r=>(p.sub g (Plain.comp g p r)).e) R) by
     have:=bh.base (show w.heap.size<=w3.heap.size by have:=Ux.out;omega);rwa[show pI (Plain.comp g p) (Plain.rO g p p.e.length) R=pI (Plain.comp g p) (fun r=>(p.sub g (Plain.comp g p r)).e) R from lP fun r _=>⟨rfl,Plain.TL mH.out r⟩] at this)
    have vL:=lh (dD.out.t hc);clear bh hm hc;go_wp2;refine bodyPost_ret (v:=.tuple #[.slice uo R.length uc,.int .i64 0]) (by simp[results,Tryz.results133,go_sem]) rfl ?_;rw[MU.out,HR.out];exact⟨_,rfl,fun h=>absurd rfl h,fun _=>⟨Ig,HN4.out⟩,vL.out⟩
 have HR:=lh hr;obtain⟨er,qK⟩:∃ er,p.err g=er:=⟨_,rfl⟩;have BG:=lh qK;rw[qK] at hr HR ⊢;clear qK;go_wp2;refine bodyPost_ret (v:=.tuple #[.slice none 0 0,.int .i64 er]) (by simp[results,Tryz.results133,go_sem]) rfl ?_;rw[BG.out];exact⟨_,rfl,fun _=>rfl,fun h=>absurd h HR.out,cA.out⟩
theorem sG {w:World} {B n i:Nat} {e:TypeId} {ov:Value} {xs:List Value} {V E:Int->List Int} {R:List Int} (h:bF w B e 2 ov n xs (pI V E R)) (hn:n=R.length) (hi:i<R.length) :
  ∃ g c va vc ea ec,ov=.slice (some ⟨g,0,none⟩) n c/\w.cell? ⟨g,i*2,none⟩=some (.slice va (V (R.getD i 0)).length vc)/\w.cell? ⟨g,i*2+1,none⟩=some (.slice ea (E (R.getD i 0)).length ec)/\ax w B (.slice va (V (R.getD i 0)).length vc) (V (R.getD i 0))/\ax w B (.slice ea (E (R.getD i 0)).length ec) (E (R.getD i 0)):=by
 obtain⟨g,c,rfl⟩:=h.some (by omega);have hx:=h.cells;have r1:=h.row (sq V E R i hi);have r2:=h.row (vB V E R i hi);have c1:=h.cell (k:=i*2) (by omega);have c2:=h.cell (k:=i*2+1) (by omega);obtain⟨va,vc,e1⟩:=r1.shape;obtain⟨ea,ec,e2⟩:=r2.shape;rw[e1] at c1 r1;rw[e2] at c2 r2;exact⟨g,c,va,vc,ea,ec,rfl,c1,c2,r1,r2⟩
theorem zK:∀ (W:List Plain.bR) (i:Nat),i<W.length->(ft W)[i*2]?=some (.num (W.getD i (0,[])).1)/\(ft W)[i*2+1]?=some (.row (W.getD i (0,[])).2)
 | [],i,h=>by simp at h
 | f :: W,0,_=>⟨rfl,rfl⟩
 | f :: W,i+1,h=>by
  have ih:=zK W i (by simpa using h);have e:ft (f :: W)=.num f.1 :: .row f.2 :: ft W:=rfl;rw[e,show (i+1)*2=i*2+1+1 by omega,show i*2+1+1+1=(i*2+1)+1+1 by omega];simp only[List.getElem?_cons_succ,List.getD_cons_succ];exact ih
theorem KX {w:World} {B n i:Nat} {e:TypeId} {ov:Value} {xs:List Value} {W:List Plain.bR} (h:bF w B e 2 ov n xs (ft W)) (hn:n=W.length) (hi:i<W.length) :
  ∃ g c va vc,ov=.slice (some ⟨g,0,none⟩) n c/\w.cell? ⟨g,i*2,none⟩=some (.int .i64 (W.getD i (0,[])).1)/\w.cell? ⟨g,i*2+1,none⟩=some (.slice va (W.getD i (0,[])).2.length vc)/\ax w B (.slice va (W.getD i (0,[])).2.length vc) (W.getD i (0,[])).2:=by
 obtain⟨g,c,rfl⟩:=h.some (by omega);have hx:=h.cells;have hf:=zK W i hi;have n1:=h.num hf.1;have r2:=h.row hf.2;have c1:=h.cell (k:=i*2) (by omega);have c2:=h.cell (k:=i*2+1) (by omega);obtain⟨va,vc,e2⟩:=r2.shape;rw[n1] at c1;rw[e2] at c2 r2;exact⟨g,c,va,vc,rfl,c1,c2,r2⟩
namespace Plain
def Told (g:Gr) (p:Pt) (R:List Int) (i j:Nat) (f:Int->Option Int):Prop :=
 (∀ m,m<i->∀ y∈comp g p (R.getD m 0),f y=some (m:Int))/\∀ y∈(comp g p (R.getD i 0)).take j,f y=some (i:Int)
theorem Told.start (g:Gr) (p:Pt) (R:List Int) (f:Int->Option Int):Told g p R 0 0 f:=⟨fun m hm=>by omega,by simp⟩
theorem Told.next {g:Gr} {p:Pt} {R:List Int} {i j:Nat} {f:Int->Option Int} (hp:aH g p) (hR:∀ r∈R,r∈roots g p) (hn:R.Nodup) (hi:i<R.length) (hj:j<(comp g p (R.getD i 0)).length) (h:Told g p R i j f) :
  Told g p R i (j+1) (fun y=>if y=(comp g p (R.getD i 0)).getD j 0 then some (i:Int) else f y):=by
 have hv:=aZ hj;refine⟨fun m hm y hy=>?_,fun y hy=>?_⟩
 ·dsimp only
  rw[if_neg (fun e=>?_)]
  ·exact h.1 m hm y hy
  rw[e] at hy;have:=rV hp hR hn (by omega:i<R.length) (by omega:m<R.length) (cW.1 hv).2 hy;omega
 dsimp only;rw[jc hj,List.mem_append] at hy;by_cases e:y=(comp g p (R.getD i 0)).getD j 0
 ·rw[if_pos e]
 rw[if_neg e];rcases hy with q | q
 ·exact h.2 y q
 exact absurd (List.mem_singleton.1 q) e
theorem Told.row {g:Gr} {p:Pt} {R:List Int} {i:Nat} {f:Int->Option Int} (h:Told g p R i (comp g p (R.getD i 0)).length f):Told g p R (i+1) 0 f:=by
 refine⟨fun m hm y hy=>?_,by simp⟩;by_cases e:m<i
 ·exact h.1 m e y hy
 obtain rfl:m=i:=by omega
 exact h.2 y (by rw[List.take_length];exact hy)
theorem Told.all {g:Gr} {p:Pt} {f:Int->Option Int} (hp:aH g p) (h:Told g p (roots g p) (roots g p).length 0 f) {v:Int} (hv:v∈p.v):∃ n,n<(roots g p).length/\f v=some (n:Int)/\v∈comp g p ((roots g p).getD n 0):=by
 obtain⟨r,hr,hc⟩:=rK (g:=g) (fun v hv=>(hp.vr v hv).1) hv;obtain⟨n,hn,e⟩:=bO hr;have hm:v∈comp g p ((roots g p).getD n 0):=cW.2 ⟨hv,by rw[e];exact hc⟩;exact⟨n,hn,h.1 n hn v hm,hm⟩
theorem D9 (g:Gr) (p:Pt) (r:Int):(comp g p r).length<=p.v.length:=by
 unfold comp;exact Qb _ _
end Plain
end Go.Proofs.YtbkjljffnkdcjaaGreat
