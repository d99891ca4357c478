/- package face: the contract of Genus. Conditions: lists that lie in memory and read so, of a bounded size. -/
import Derived.Test.YtoiflofhcmjpoaaGreatD9WalkU
open Go.Value renaming slice→Qa,int→Qj
open List renaming length_filter_le→Qb,idxOf_lt_length_iff→Qd,getD→Qe,length_map→Qf,length_replicate→Qg,replicate→Qi,length_append→Qk,length_take→Qm,take_length→Qn,take_zero→Qo
open Nat renaming le_trans→Qc,zero_le→Qh,le_refl→Qq
open Bool renaming eq_false_iff→Ql
open Go.Act renaming put→Qp
-- READS ONLY
namespace Go.Proofs.YtoiflofhcmjpoaaGreat
open Go.RowKit Go.Maps
namespace Plain
noncomputable def jb (g:Gr) (p:Pt) (W:List bn) (R:List Int) (k:Nat):List Int:=R.map fun r=>(((W.take k).filter fun f=>decide (f.bV g∈comp g p r)).length:Int)
theorem JR (g:Gr) (p:Pt) (W:List bn) (R:List Int):jb g p W R 0=Qi R.length 0:=by
 unfold jb;rw[Qo];simp[List.map_const']
theorem eF (g:Gr) (p:Pt) (W:List bn) (R:List Int) (k:Nat):(jb g p W R k).length=R.length:=by simp[jb]
theorem qv {g:Gr} {p:Pt} {W:List bn} {R:List Int} {k n:Nat} (hn:n<R.length):(jb g p W R k).getD n 0=(((W.take k).filter fun f=>decide (f.bV g∈comp g p (R.getD n 0))).length:Int):=by
 unfold jb;simp[Qe,hn]
theorem Ip {W:List bn} {k:Nat} (hk:k<W.length):W.take (k+1)=W.take k++[W.getD k (0,[])]:=by
 rw[List.take_succ_eq_append_getElem hk];simp[Qe,hk]
theorem KJ {g:Gr} {p:Pt} {W:List bn} {R:List Int} {k n:Nat} (hk:k<W.length) (hn:n<R.length) (hc:(W.getD k (0,[])).bV g∈comp g p (R.getD n 0)) (hu:∀ m,m<R.length->(W.getD k (0,[])).bV g∈comp g p (R.getD m 0)->m=n) :
  jb g p W R (k+1)=(jb g p W R k).set n ((jb g p W R k).getD n 0+1):=by
 refine List.ext_getElem (by simp[jb]) fun m h1 h2=>?_;rw[eF] at h1;have e1:(jb g p W R (k+1))[m]'(by rw[eF];exact h1)=(jb g p W R (k+1)).getD m 0:=by simp[Qe,eF,h1]
 rw[e1,qv h1,Ip hk,List.filter_append,Qk,List.getElem_set];by_cases e:n=m
 ·subst e
  rw[if_pos rfl,qv hn,List.filter_cons_of_pos (by simpa using hc)];simp
 rw[if_neg e,List.filter_cons_of_neg (by intro q;exact e (hu m h1 (of_decide_eq_true q)).symm)];have e2:(jb g p W R k)[m]'(by rw[eF];exact h1)=(jb g p W R k).getD m 0:=by simp[Qe,eF,h1]
 rw[e2,qv h1];simp
theorem GR (g:Gr) (p:Pt) (W:List bn) (R:List Int) (k n:Nat):0<=(jb g p W R k).getD n 0/\(jb g p W R k).getD n 0<=(W.length:Int):=by
 by_cases hn:n<R.length
 ·rw[qv hn]
  refine⟨by omega,?_⟩;have h1:=Qb (fun f:bn=>decide (f.bV g∈comp g p (R.getD n 0))) (W.take k);rw[Qm] at h1;omega
 have:(jb g p W R k).getD n 0=0:=by simp[Qe,eF,Nat.not_lt.1 hn]
 rw[this];omega
theorem dy.len {g:Gr} {p:Pt} {aa:List (List Int)} {W:List bn} (h:dy g p aa W):W.length<=p.v.length+2*p.e.length:=by
 obtain⟨F,rfl,ht⟩:=h.split;have h1:(cR aa p.v).length<=p.v.length:=by
  unfold cR;rw[Qf];refine Qc (Qb _ _) ?_;rw[List.length_reverse];exact Qq _
 have h2:=ht.keys.length_le;rw[Qf,bL] at h2;rw[Qk];omega
theorem Mw {g:Gr} {p:Pt} (h:aB g p) (W:List bn) {R:List Int} {n:Nat} (hn:n<R.length) :
  (2 - ((comp g p (R.getD n 0)).length:Int)+(((p.sub g (comp g p (R.getD n 0))).e).length:Int) - (jb g p W R W.length).getD n 0).tdiv 2=de g p W (R.getD n 0):=by
 unfold de;rw[qv hn,Qn,xV h]
end Plain
theorem Cc {w:World} {B g n c i:Nat} {l:List Int} (h:aj w B (.slice (some ⟨g,0,none⟩) n c) l) (hi:i<l.length):w.cell? ⟨g,i,none⟩=some (.int .i64 (l.getD i 0)):=by
 obtain⟨g',e,hc⟩:=h.some (by omega);simp only[Option.some.injEq,Addr.mk.injEq] at e;obtain⟨rfl,-,-⟩:=e;exact hc i hi
theorem pn {w:World} {B fb n c:Nat} (h:w.ownsRow B 3 1 (.slice (some ⟨fb,0,none⟩) n c) n (madeCells (Qj .i64 0).cells (n*1)).toList) (hn:n<4294967296):aj w B (.slice (some ⟨fb,0,none⟩) n c) (Qi n 0):=by
 have e1:(madeCells (Qj .i64 0).cells (n*1)).toList=ints (Qi n 0):=by
  show (madeCells #[Qj .i64 0] (n*1)).toList=_;rw[Nat.mul_one,toList_madeCells_one];simp[ints]
 rw[e1] at h;refine⟨by rw[Qg];exact h,fun x hx=>?_,by rw[Qg];exact hn⟩;have:=List.eq_of_mem_replicate hx;subst this;exact aU.mk (by omega) (by omega)
set_option maxRecDepth 100000 in
set_option maxHeartbeats 8000000 in
theorem KH (vg vp vt:Value) (g:Plain.Gr) (p:Plain.Pt) (aa:List (List Int)) (w:World) (qM:p.e.length<=100000) (wB:p.v.length<=100000) (DK:aa.length<2147483648) (hS:Plain.bU aa aa.length<2147483648) (hg:dJ w vg g) (hp:fL w vp p) (ht:cf w vt aa) :
  Calls Tryz.prog 69 #[vg,vp,vt] w fun e w'=>∃ ov,e=.returned (.tuple #[ov,.int .i64 (Plain.bB g p aa)])/\(Plain.bB g p aa≠0->ov=.slice none 0 0) /\
   (Plain.bB g p aa=0->∃ W,Plain.dy g p aa W/\aj w' w.heap.size ov ((Plain.roots g p).map (Plain.de g p W)))/\ag [] w w':=by
 have HG:=lh hg;have HP:=lh hp;have HT:=lh ht;have rn:=lh hS;obtain⟨eo,cap,rfl,hn,hm,dK,aK⟩:=hg;obtain⟨v1,v2,rfl,hv,he⟩:=hp;obtain⟨ao,ac,rfl,has,DA,jy⟩:=hv;obtain⟨bo,bc,rfl,wE,sQ,ft⟩:=he;obtain⟨UI,tc,rfl,wu,wY⟩:=ht;obtain⟨fz,ff,cY⟩:=eZ w #[.int .i64 g.n,.slice eo g.e.length cap] #[.slice ao p.v.length ac,.slice bo p.e.length bc] 24 27;have X0:=lh ((cell_of_row _ _ 0 _ _ _ fz).trans (show _=some (Qj .i64 g.n) from rfl));have X1:=lh ((cell_of_row _ _ 1 _ _ _ fz).trans (show _=some (Qa eo g.e.length cap) from rfl));have Y0:=lh ((cell_of_row _ _ 0 _ _ _ ff).trans (show _=some (Qa ao p.v.length ac) from rfl));have Y1:=lh ((cell_of_row _ _ 1 _ _ _ ff).trans (show _=some (Qa bo p.e.length bc) from rfl));have b8:=lh cY;clear aK jy ft dK wE has hn fz ff cY wY hS
 go_enter Tryz.func69,Tryz.ntmps69
 go_wp2_with fail
 refine (Jm _ _ _ g p aa _ (by omega) (by omega) DK rn.out (HG.out.fresh b8.out) (HP.out.fresh b8.out) (HT.out.fresh b8.out)).mono ?_;rintro e w2 ⟨ov,rfl,fQ,fh,bA⟩;have cB:=lh (b8.out.tr bA);have wV:=lh (show w.heap.size+2<=w2.heap.size by have:=bA.size;simpa using this);have x0:=bA.dp X0.out;have x1:=bA.dp X1.out;have y0:=bA.dp Y0.out;have y1:=bA.dp Y1.out;clear bA;by_cases hr:Plain.bB g p aa=0
 ·have HR:=lh hr
  obtain⟨W,xw,Yp,hnw⟩:=fh hr;have YI:=lh Yp;have Zg:=lh hnw;obtain⟨wo,wc,rfl⟩:=hnw.shape;have dm:=(Plain.dQ hr).1;have GX:=lh dm;have jN:=lh (Plain.Pt.ay dm);have oF:=lh (Plain.Gr.aA (Plain.Pt.aA dm).1);have hwl:=Yp.len;rw[hr];clear fQ fh Yp hnw dm
  go_wp2_with fail
  refine (Gj _ _ g p _ qM wB (HG.out.fresh cB.out) (HP.out.fresh cB.out)).mono ?_;rintro e w3 ⟨ov3,rfl,-,Ae,cT⟩;obtain⟨xs,Vf⟩:=Ae GX.out;have ZJ:=lh Vf;obtain⟨uo,uc,rfl⟩:=Vf.shape;have cU:=lh (cB.out.tr cT);have aib:=lh (Zg.out.fresh cT);have X03:=lh (cT.dp x0);have YY:=lh (cT.dp x1);have y03:=cT.dp y0;have mY:=fun n w=>fG Tryz.underlying124 n w;rw[GX.out];have acu:=lh cT.size;clear Ae cT Vf x0 x1 y0 y1;have yP:(Plain.roots g p).length<=100000:=by rw[<-Plain.mK];exact Qc (Plain.j5 g p _) wB
  obtain⟨R,T7⟩:∃ R,Plain.roots g p=R:=⟨_,rfl⟩;have Aj:=lh T7;rw[T7] at ZJ yP ⊢;have VB:=lh (show ∀ r∈R,r∈Plain.roots g p from fun r hr=>by rw[T7];exact hr);have Ym:=lh (show R.Nodup by rw[<-T7];exact Plain.nj jN.out);clear T7;go_wp2;clear mY y03;have S9:=ZJ;have XH:=lh (bK.made w3);have iO:=lh ((ag.refl [] w3).alloc (.map #[] 0));obtain⟨pb,ph⟩:∃ pb,w3.heap.size=pb:=⟨_,rfl⟩;rw[ph] at XH ⊢;have te:=lh (show w3.heap.size<=pb by omega);have Rw:=lh (show w.heap.size+2<=w3.heap.size by have:=wV.out;have:=acu.out;omega);clear ph;generalize w3.alloc (.map #[] 0)=w4 at *
  go_loopw [48] (fun c wr=>∃ (i:Nat) (f:Int->Option Int),i<=R.length/\c=.int .i64 i/\bK wr pb (i*1000000) f/\Hid (Plain.Told g p R i 0 f)/\ag [] w3 wr) (fun c _=>R.length - (intOf c).toNat)
  case atStart=>exact⟨0,_,Qh _,rfl,by rw[Nat.zero_mul];exact XH.out,lh (Plain.Told.start g p R _),iO.out⟩
  case round =>
   obtain⟨i,f,hi,rfl,hm,BL,hc⟩:=hrel;have HM:=lh hm;have HC:=lh hc;by_cases aL:i<R.length
   ·obtain⟨pg,pc,va,vc,ea,ec,dm,cY,bA,fQ,fh⟩:=xY (S9.out.fresh hc) rfl aL
    simp only[Qa.injEq] at dm;obtain⟨rfl,-,rfl⟩:=dm;have Dq:=lh (fun j f hj h=>Plain.Told.next (g:=g) (p:=p) (R:=R) (i:=i) (j:=j) (f:=f) jN.out VB.out Ym.out aL hj h);have Sa:=lh (fun f h=>Plain.Told.row (g:=g) (p:=p) (R:=R) (i:=i) (f:=f) h);have mm:=Qc (Plain.Bx g p (R.getD i 0)) wB;have TL:=lh (fun y (hy:y∈Plain.comp g p (R.getD i 0))=>jN.out.vr y (Plain.cE.1 hy).1);have UK:=lh fQ.ints;have HTD:Hid (∀ j f,Plain.Told g p R i j f->Plain.Told g p R i j f):=lh (fun _ _ h=>h);obtain⟨C,hC⟩:∃ C,Plain.comp g p (R.getD i 0)=C:=⟨_,rfl⟩;obtain⟨E0,hE0⟩:∃ E0,(p.sub g (Plain.comp g p (R.getD i 0))).e=E0:=⟨_,rfl⟩;have qZ:=lh hC;rw[hC] at cY mm Dq Sa TL UK;rw[hE0] at bA;have II:aU (i:Int):=aU.mk (by omega) (by omega);clear fQ fh hm hc hC hE0;go_wp2;have kF:=lh ((ag.refl [] wr).alloc (.cells #[.slice va C.length vc,.slice ea E0.length ec] 27));have O5:=(cell_of_row _ _ 0 _ _ _ (heap_alloc_new wr (.cells #[.slice va C.length vc,.slice ea E0.length ec] 27))).trans (show _=some (Qa va C.length vc) from rfl);have Dz:=lh (HM.out.aD kF.out (by simp));have ga:=lh (HC.out.tr kF.out);have yH:=lh (UK.out.fresh kF.out);clear cY bA;obtain⟨wb,Pu⟩:∃ wb,wr.heap.size=wb:=⟨_,rfl⟩;generalize (wr.alloc (.cells #[.slice va C.length vc,.slice ea E0.length ec] 27))=wq at *;rw[Pu] at O5 ⊢;clear Pu
    go_loopw [56] (fun c wi=>∃ (j:Nat) (f:Int->Option Int),j<=C.length/\c=.int .i64 j/\bK wi pb (i*1000000+j) f/\Hid (Plain.Told g p R i j f)/\ag [pb] wq wi/\ag [] w3 wi) (fun c _=>C.length - (intOf c).toNat)
    case atStart=>exact⟨0,f,Qh _,rfl,Dz.out.mono (by omega),BL,ag.refl _ _,ga.out⟩
    case round =>
     obtain⟨j,f,hj,rfl,hm,BL,dV,hc⟩:=hrel;have HMJ:=lh hm;have Pw:=lh dV;have abD:=lh hc;by_cases mT:j<C.length
     ·obtain⟨TS,c',e,ZP,-,ka⟩:=yH.out
      obtain⟨vb,ZV,e2,aK⟩:=ka (by intro e;rw[e] at mT;simp at mT);simp only[Qa.injEq] at e;obtain⟨e3,-,-⟩:=e;rw[e2] at e3;subst e3;have bh:vb≠pb:=fun e=>by have:=Dz.out.Ht (aK j mT);exact this e
      have cj:=dV.cell (aK j mT) (by simpa using bh);have IY:=ZP (C.getD j 0) (Plain.aQ mT);have XU:=lh (Dq.out j f mT BL.out);obtain⟨y,hy⟩:∃ y,C.getD j 0=y:=⟨_,rfl⟩;rw[hy] at cj IY XU;have TV:i*1000000+j<maxLen:=by unfold maxLen;omega
      clear aK ka ZP hy hm dV hc bh
      go_wp2_with (at_mapUpdate;refine gF _ rfl _ _ _ rfl HMJ.out TV rfl IY II rfl rfl ?_;intro w6 m6 g6;have M6:=lh m6;have G6:=lh g6;clear m6 g6)
      go_roundw
      case rel=>exact⟨j+1,_,by omega,by go_num,M6.out.mono (by omega),XU,Pw.out.grown G6.out (fun j hj=>by cases hj;exact Or.inl (by simp)),abD.out.grown G6.out (fun j hj=>by cases hj;exact Or.inr te.out)⟩
      case measure=>simp[intOf];omega
     have e:j=C.length:=by omega
     subst e;have DF:=lh (Sa.out f BL.out);clear hm dV hc;go_wp2
     go_roundw
     case rel=>exact⟨i+1,f,by omega,by go_num,HMJ.out.mono (by omega),DF,abD.out⟩
     case measure=>simp[intOf];omega
   have e:i=R.length:=by omega
   subst e;clear hm hc;generalize wr=wz at *;have adb:Hid (∀ v∈p.v,∃ n,n<R.length/\f v=some (n:Int)/\v∈Plain.comp g p (R.getD n 0)):=lh (fun v hv=>by
    have h:=BL.out;rw[<-Aj.out] at h ⊢;exact h.all jN.out hv)
   have af6:=lh (show w3.heap.size<=wz.heap.size from HC.out.size);clear aL hi
   go_wp2_with (at_make;refine Hq bW rfl _ _ rfl (B:=wz.heap.size) (n:=R.length) rfl rfl (Qq _) (by omega) ?_;intro w5 Gm eO;have ZT:=lh (pn Gm (by omega));have ga:=lh eO;clear Gm eO)
   obtain⟨fb,JM⟩:∃ fb,wz.heap.size=fb:=⟨_,rfl⟩;have HFB:=lh JM;rw[JM] at ZT ⊢;clear JM
   go_loopw [70] (fun c wr=>∃ k:Nat,k<=W.length/\c=.int .i64 k/\aj wr fb (.slice (some ⟨fb,0,none⟩) R.length R.length) (Plain.jb g p W R k)/\ag [] wz wr) (fun c _=>W.length - (intOf c).toNat)
   case atStart=>exact⟨0,Qh _,rfl,by rw[Plain.JR];exact ZT.out,ga.out⟩
   case round =>
    obtain⟨k,hk,rfl,aJ,hc⟩:=hrel;have bt:=lh aJ;have Jj:=lh hc;have OD:=lh (HC.out.tr hc);by_cases aL:k<W.length
    ·obtain⟨wg,wc',da,dc,hwe,KP,V5,qR⟩:=Is (aib.out.fresh OD.out) rfl aL
     simp only[Qa.injEq] at hwe;obtain⟨rfl,-,rfl⟩:=hwe;have cL:W.getD k (0,[])∈W:=by simp[Qe,aL]
     have Jy:=Plain.ly jN.out YI.out.ak _ cL;obtain⟨n,hnR,Px,sU⟩:=adb.out _ Jy;have ZX:=lh (Plain.KJ (g:=g) (p:=p) (R:=R) aL hnR sU (fun m hm h=>Plain.qn jN.out VB.out Ym.out hnR hm (Plain.cE.1 sU).2 h));have js:=YI.out.ak.key _ cL;have dH:∀ d l,(W.getD k (0,[])).2=d :: l->d∈p.ah:=fun d l e=>YI.out.ak.all.mem_iff.1 (List.mem_flatten.2 ⟨(W.getD k (0,[])).2,List.mem_map.2 ⟨_,List.mem_filter.2 ⟨cL,by rw[e];rfl⟩,rfl⟩,by rw[e];simp⟩);have Wa:=Plain.GR g p W R k n;have mm:=Plain.eF g p W R k;have IC:aU ((W.getD k (0,[])).bV g):=by have:=jN.out.vr _ Jy;have:=oF.out;exact aU.mk (by omega) (by omega)
     have fX:∀ l,(W.getD k (0,[])).2=l->l=[]->-1 - (W.getD k (0,[])).1=(W.getD k (0,[])).bV g:=fun l e e2=>by
      subst e2;unfold Plain.bn.bV;rw[e]
     have CY:∀ d l,(W.getD k (0,[])).2=d :: l->(W.getD k (0,[])).bV g=g.tail (W.getD k (0,[])).1:=fun d l e=>by
      unfold Plain.bn.bV;rw[e]
     obtain⟨fc,wj⟩:∃ fc,W.getD k (0,[])=fc:=⟨_,rfl⟩;rw[wj] at KP V5 qR Jy Px sU js dH IC fX CY;obtain⟨key,ds⟩:=fc;dsimp only at KP V5 qR js dH fX CY;obtain⟨kv,hkv⟩:∃ kv,Plain.bn.bV g (key,ds)=kv:=⟨_,rfl⟩;rw[hkv] at Jy Px sU IC fX CY;have aj6:=lh js;have zI:=lh dH;have tV:=lh fX;have adp:=lh CY;have Dx:=lh aL;have hkI:-9223372036854775000<=key/\key<=9223372036854775000:=by
      cases ds with
      | nil=>have:=fX _ rfl rfl;have:=jN.out.vr _ Jy;have:=oF.out;omega
      | cons d l=>have h1:=js d l rfl;have h2:=Plain.oy GX.out (dH d l rfl);omega
     have Tq:Hid ((f kv).getD 0=(n:Int)):=lh (by rw[Px];rfl);have x0:=OD.out.dp X03.out;have x1:=OD.out.dp YY.out;obtain⟨dn,nP⟩:∃ dn,ds.length=dn:=⟨_,rfl⟩;have XL:=lh nP;have atz:dn<4294967296:=by rw[<-nP];exact qR.2.2
     rw[nP] at V5;clear js dH fX CY wj cL aJ hc Jy Px sU qR hkv nP
     go_upto_if 80 with fail
     have kF:=lh ((ag.refl [] wr).alloc (.cells #[.int .i64 key,.slice da dn dc] 137));have b0:=(cell_of_row _ _ 0 _ _ _ (heap_alloc_new wr (.cells #[.int .i64 key,.slice da dn dc] 137))).trans (show _=some (Qj .i64 key) from rfl);have x0b:=kF.out.dp x0;have x1b:=kF.out.dp x1;have XR:=lh (show wr.heap.size<(wr.alloc (.cells #[.int .i64 key,.slice da dn dc] 137)).heap.size by simp);have Oc:=lh (bt.out.aD kF.out (by simp));clear KP V5 x0 x1;obtain⟨wb,Pu⟩:∃ wb,wr.heap.size=wb:=⟨_,rfl⟩;generalize (wr.alloc (.cells #[.int .i64 key,.slice da dn dc] 137))=wq at *;rw[Pu] at b0 ⊢;clear Pu
     go_cut [19] (fun v wc=>v=.int .i64 kv/\ag [] wq wc)
     case first =>
      by_cases h0:dn=0
      ·subst h0
       have hv:=tV.out ds rfl (List.length_eq_zero_iff.1 XL.out);go_wp2
       go_meet
       case rel=>exact⟨by rw[hv],ag.refl _ _⟩
      obtain⟨d,l,zR⟩:∃ d l,ds=d :: l:=by
       cases ds with
       | nil=>exact absurd XL.out.symm h0
       | cons d l=>exact⟨d,l,rfl⟩
      have E7:=aj6.out d l zR;have lC:=zI.out d l zR;have hcg:=adp.out d l zR;subst E7;have hds:=Plain.oy GX.out lC;obtain⟨kn,Te⟩:∃ kn:Nat,key=(kn:Int):=⟨key.toNat,by omega⟩;subst Te;have hke:kn / 2<g.e.length:=by
       rw[Plain.aw] at lC;obtain⟨i',xA,e'⟩:=Plain.bN lC;have:=Plain.bX (Plain.Pt.aA GX.out).2.2.1 xA;omega
      have lR:g.e.length<4294967296:=by have:=oF.out;omega
      have HKE:=lh hke;clear lC hke;have h0':0<dn:=by omega
      clear h0 zR
      go_wp2_with fail
      refine (E6 _ g kn _ HKE.out lR (HG.out.fresh ((cU.out.tr OD.out).tr kF.out))).mono ?_;rintro e w9 ⟨rfl,hc9⟩;have AN:=lh hc9;rw[<-hcg];clear hc9 hcg;go_wp2
      go_meet
      case rel=>exact⟨rfl,AN.out⟩
     case rest =>
      obtain⟨rfl,ka⟩:=hcut;have FC:=lh (kF.out.tr ka);have HMC:=lh (HM.out.aD (Jj.out.tr FC.out) (by simp));have Mp:=lh (Oc.out.aD ka (by simp));have BX:n<(Plain.jb g p W R k).length:=by omega
      have cn:=Cc Mp.out BX;have zn:wc.frozen? ⟨fb,n,none⟩=false:=by
       have:=Mp.out;rw[<-mm] at this;exact this.free (by omega) n
      have IX:aU ((Plain.jb g p W R k).getD n 0+1):=aU.mk (by omega) (by omega);have Ps:=lh (Mp.out.set n ((Plain.jb g p W R k).getD n 0+1) IX);rw[<-ZX.out] at Ps;clear ka;generalize (Plain.jb g p W R k).getD n 0=z at *
      go_wp2_with (at_lookup;refine iZ _ rfl _ _ rfl HMC.out rfl IC rfl Tq ?_)
      go_roundw
      case rel=>exact⟨k+1,by have:=Dx.out;omega,by go_num,Ps.out,(Jj.out.tr FC.out).setCell (Or.inr (by have:=HFB.out;simp;omega)) _⟩
      case measure=>have:=Dx.out;simp[intOf];omega
    have e:k=W.length:=by omega
    subst e;have EJ:=bt;obtain⟨CN,hCN⟩:∃ CN,Plain.jb g p W R W.length=CN:=⟨_,rfl⟩;have aiU:=lh hCN;have mm:CN.length=R.length:=by rw[<-hCN];exact Plain.eF g p W R _
    have Wa:∀ n,0<=CN.getD n 0/\CN.getD n 0<=(W.length:Int):=fun n=>by rw[<-hCN];exact Plain.GR g p W R _ n
    have Hx:=lh mm;have ai8:=lh Wa;rw[hCN] at EJ;clear hCN mm Wa aJ hc bt aL hk;generalize wr=wy at *;go_wp2
    go_loopw [20,96] (fun o c wr=>∃ i:Nat,i<=R.length/\c=.int .i64 i/\aj wr wy.heap.size o ((R.take i).map (Plain.de g p W))/\ag [] wy wr) (fun _ c _=>R.length - (intOf c).toNat)
    case atStart=>exact⟨0,Qh _,rfl,by rw[Qo];exact tY _ _,ag.refl _ _⟩
    case round =>
     obtain⟨i,hi,rfl,aJ,hc⟩:=hrel;have bt:=lh aJ;have Vg:=lh hc;have adk:=lh (OD.out.tr hc);by_cases aL:i<R.length
     ·obtain⟨pg,pc,va,vc,ea,ec,dm,cY,bA,fQ,fh⟩:=xY (S9.out.fresh adk.out) rfl aL
      simp only[Qa.injEq] at dm;obtain⟨rfl,-,rfl⟩:=dm;have iE:=lh (Plain.Mw jN.out W aL);rw[aiU.out] at iE;have hz:=ai8.out i;have hiC:i<CN.length:=by rw[Hx.out];exact aL
      have wj:=hc.dp (Cc EJ.out hiC);have atx:=Qc (Plain.Bx g p (R.getD i 0)) wB;have ap5:(p.sub g (Plain.comp g p (R.getD i 0))).e.length<=100000:=by
       unfold Plain.Pt.sub;exact Qc (Qb _ _) qM
      have nL:=lh (show (R.take (i+1)).map (Plain.de g p W)=(R.take i).map (Plain.de g p W)++[Plain.de g p W (R.getD i 0)] by
       rw[Plain.hZ aL,List.map_append];rfl)
      have ame:((R.take i).map (Plain.de g p W)).length<=100000:=by rw[Qf,Qm];omega
      obtain⟨oo,oc,rfl⟩:=aJ.shape;have Dx:=lh aL;generalize CN.getD i 0=z at *;obtain⟨G,hG⟩:∃ G,Plain.de g p W (R.getD i 0)=G:=⟨_,rfl⟩;rw[hG] at iE nL;generalize (p.sub g (Plain.comp g p (R.getD i 0))).e=E0 at *;generalize Plain.comp g p (R.getD i 0)=C at *;generalize (R.take i).map (Plain.de g p W)=RR at *;clear fQ fh aJ hc hG hiC;go_wp2;have kF:=lh ((ag.refl [] wr).alloc (.cells #[.slice va C.length vc,.slice ea E0.length ec] 27));have b0:=(cell_of_row _ _ 0 _ _ _ (heap_alloc_new wr (.cells #[.slice va C.length vc,.slice ea E0.length ec] 27))).trans (show _=some (Qa va C.length vc) from rfl);have b1:=(cell_of_row _ _ 1 _ _ _ (heap_alloc_new wr (.cells #[.slice va C.length vc,.slice ea E0.length ec] 27))).trans (show _=some (Qa ea E0.length ec) from rfl);have JM:=kF.out.dp wj;have Oc:=lh (bt.out.aD kF.out (by simp));have xd:=lh (Vg.out.tr kF.out);clear cY bA wj;obtain⟨wb,Pu⟩:∃ wb,wr.heap.size=wb:=⟨_,rfl⟩;generalize (wr.alloc (.cells #[.slice va C.length vc,.slice ea E0.length ec] 27))=wq at *;rw[Pu] at b0 b1 ⊢;clear Pu;have aW:(fun w':World=>w'.cell? ⟨wb,0,none⟩=some (.slice va C.length vc)/\w'.cell? ⟨wb,1,none⟩=some (.slice ea E0.length ec)/\w'.cell? ⟨fb,i,none⟩=some (.int .i64 z)) wq.drew:=⟨b0,b1,JM⟩;refine ar (fun w':World=>w'.cell? ⟨wb,0,none⟩=some (.slice va C.length vc)/\w'.cell? ⟨wb,1,none⟩=some (.slice ea E0.length ec)/\w'.cell? ⟨fb,i,none⟩=some (.int .i64 z)) [0,1,2,3,4,5,6,7,8,9,10,11,12,13,14] (Way.line [0,1,2,3,4,5,6,7,8,9,10,11,12,13,14,15,16,17] .done) (by kernel_rfl) (by kernel_rfl) ?_;simp only[Way.line]
      repeat (refine ai (v:=?_) rfl (by rfl) (by rfl) (fun _ _ _ h=>h) aW (fun w' aI=>?_) ?_;rotate_left;(focus ((try dsimp only at aI);go_simp;try with_reducible rfl));simp only[Qp,Z1,Z2,Z3,Z4,Z5,Z6])
      refine au rfl (by rfl) (by rfl) (fun K hK=>?_);go_simp;have qK:=IntWalk.i64_in (2 - (C.length:Int)) (by omega);have hw2:=IntWalk.i64_in (2 - (C.length:Int)+(E0.length:Int)) (by omega);have hw3:=IntWalk.i64_in (2 - (C.length:Int)+(E0.length:Int) - z) (by omega);have VQ:IntKind.i64.wrap ((IntKind.i64.wrap (IntKind.i64.wrap (IntKind.i64.wrap (2 - (C.length:Int))+(E0.length:Int)) - z)).tdiv 2)=G:=by
       rw[qK,hw2,hw3,IntWalk.i64_quo' _ _ (by omega)];exact iE.out
      have IG:aU G:=by
       rw[<-VQ];rw[IntWalk.i64_left];exact wrap64_wf _
      rw[VQ];have O3:=((ag.refl [] wq).alloc (.cells #[.int .i64 G] 3)).drew;have bF:(fun w':World=>w'.cell? ⟨wb,0,none⟩=some (.slice va C.length vc)/\w'.cell? ⟨wb,1,none⟩=some (.slice ea E0.length ec)/\w'.cell? ⟨fb,i,none⟩=some (.int .i64 z)) (wq.alloc (.cells #[.int .i64 G] 3)).drew:=⟨O3.dp b0,O3.dp b1,O3.dp JM⟩;have Rf:=lh ((fT wq IG).fresh (ag.refl [] _).drew);have Ov:=lh (Oc.out.aD O3 (by simp));have Au:=lh (xd.out.tr O3);have Cq:=lh Au.out.size;refine hK.out _ _ (fun _=>bF) ?_;clear hK K aW qK hw2 hw3 VQ O3 b0 b1 JM;generalize (wq.alloc (.cells #[.int .i64 G] 3)).drew=wa at *;generalize wq.heap.size=nl at *
      try simp only[Qp,Z1,Z2,Z3,Z4,Z5,Z6]
      refine au rfl (by rfl) (by rfl) (fun K hK=>?_);simp only[List.getElem_toArray,List.getElem_cons_zero,List.getElem_cons_succ];refine pU (.tmp 101) (.tmp 116) rfl (B:=wy.heap.size) (v:=.slice oo RR.length oc) rfl rfl Ov.out Rf.out Cq.out (by simp;omega) fun v' w7 r7 c7 f7=>?_;obtain⟨vo,vcc,rfl⟩:=r7.shape;have OT:=lh r7;have pX:=lh (Au.out.trans c7 (fun j hj=>Or.inr (Ov.out.low j (by rw[<-Ov.out.aE];exact hj)).1));refine hK.out _ _ (fun h=>absurd h (Ql.1 (by kernel_rfl))) ?_;clear hK K bF r7 c7 f7
      try simp only[Qp,List.setIfInBounds_toArray,List.set_cons_zero,List.set_cons_succ]
      refine au rfl (by rfl) (by rfl) (fun K hK=>?_);go_simp;refine hK.out _ _ (fun h=>absurd h (Ql.1 (by kernel_rfl))) ?_;clear hK K
      try simp only[Qp,Z1,Z2,Z3,Z4,Z5,Z6]
      refine aC ?_;go_wp2
      go_roundw
      case rel=>exact⟨i+1,by have:=Dx.out;omega,by go_num,by rw[nL.out];have:=OT.out;rwa[show (RR++[G]).length=RR.length+1 by simp] at this,pX.out⟩
      case measure=>have:=Dx.out;simp[intOf];omega
     have e:i=R.length:=by omega
     subst e;rw[Qn] at aJ;have vf:=lh (aJ.base (show w.heap.size<=wy.heap.size by have:=Jj.out.size;have:=af6.out;have:=Rw.out;omega));have qh:=lh (cU.out.tr adk.out);obtain⟨oo,oc,rfl⟩:=aJ.shape;clear aJ hc bt;go_wp2;refine bodyPost_ret (v:=.tuple #[.slice oo (R.map (Plain.de g p W)).length oc,.int .i64 0]) (by simp[results,Tryz.results69,go_sem]) rfl ?_;rw[HR.out,Aj.out];exact⟨_,rfl,fun h=>absurd rfl h,fun _=>⟨W,YI.out,vf.out⟩,qh.out⟩
 obtain⟨er,mf⟩:∃ er,Plain.bB g p aa=er:=⟨_,rfl⟩;have ze:=lh mf;have ak7:=fQ hr;subst ak7;rw[mf] at hr ⊢;have HR:=lh hr;clear mf fQ fh;go_wp2;refine bodyPost_ret (v:=.tuple #[.slice none 0 0,.int .i64 er]) (by simp[results,Tryz.results69,go_sem]) rfl ?_;rw[ze.out];exact⟨_,rfl,fun _=>rfl,fun h=>absurd h HR.out,cB.out⟩
theorem Ji (w:World) {g:Plain.Gr} {p:Plain.Pt} {eo ao bo:Option Addr} {cap ac bc:Nat} {w2:World} (h:ag [] ((w.alloc (.cells #[.int .i64 g.n,.slice eo g.e.length cap] 24)).alloc (.cells #[.slice ao p.v.length ac,.slice bo p.e.length bc] 27)) w2) :
  w2.cell? ⟨w.heap.size,0,none⟩=some (.int .i64 g.n)/\w2.cell? ⟨w.heap.size,1,none⟩=some (.slice eo g.e.length cap)/\w2.cell? ⟨w.heap.size+1,0,none⟩=some (.slice ao p.v.length ac)/\w2.cell? ⟨w.heap.size+1,1,none⟩=some (.slice bo p.e.length bc)/\w.heap.size+2<=w2.heap.size:=by
 obtain⟨fz,ff,-⟩:=eZ w #[.int .i64 g.n,.slice eo g.e.length cap] #[.slice ao p.v.length ac,.slice bo p.e.length bc] 24 27;have hs:=h.size;exact⟨h.c ((cell_of_row _ _ 0 _ _ _ fz).trans rfl),h.c ((cell_of_row _ _ 1 _ _ _ fz).trans rfl),h.c ((cell_of_row _ _ 0 _ _ _ ff).trans rfl),h.c ((cell_of_row _ _ 1 _ _ _ ff).trans rfl),by grind⟩
theorem lN {w:World} {vg vp:Value} {g:Plain.Gr} {p:Plain.Pt} (hg:dJ w vg g) (hp:fL w vp p):∃ eo cap ao ac bo bc,vg=.agg #[.int .i64 g.n,.slice eo g.e.length cap]/\vp=.agg #[.slice ao p.v.length ac,.slice bo p.e.length bc]/\Hid (dJ w (.agg #[.int .i64 g.n,.slice eo g.e.length cap]) g)/\Hid (fL w (.agg #[.slice ao p.v.length ac,.slice bo p.e.length bc]) p)/\g.e.length<=9223372036854775807/\p.v.length<=9223372036854775807/\p.e.length<=9223372036854775807 /\
  Hid (p.v≠[]->∃ b off,ao=some ⟨b,off,none⟩/\∀ i,i<p.v.length->w.cell? ⟨b,off+i,none⟩=some (.int .i64 (p.v.getD i 0)))/\Hid (p.e≠[]->∃ b off,bo=some ⟨b,off,none⟩/\∀ i,i<p.e.length->w.cell? ⟨b,off+i,none⟩=some (.int .i64 (p.e.getD i 0)))/\Hid (∀ x∈p.v,aU x)/\Hid (∀ x∈p.e,aU x) /\
  Hid (ag [] w ((w.alloc (.cells #[.int .i64 g.n,.slice eo g.e.length cap] 24)).alloc (.cells #[.slice ao p.v.length ac,.slice bo p.e.length bc] 27)))/\Hid (∀ w2,ag [] ((w.alloc (.cells #[.int .i64 g.n,.slice eo g.e.length cap] 24)).alloc (.cells #[.slice ao p.v.length ac,.slice bo p.e.length bc] 27)) w2 ->
   w2.cell? ⟨w.heap.size,0,none⟩=some (.int .i64 g.n)/\w2.cell? ⟨w.heap.size,1,none⟩=some (.slice eo g.e.length cap)/\w2.cell? ⟨w.heap.size+1,0,none⟩=some (.slice ao p.v.length ac)/\w2.cell? ⟨w.heap.size+1,1,none⟩=some (.slice bo p.e.length bc)/\w.heap.size+2<=w2.heap.size):=by
 have Pf:=hg;have hp0:=hp;obtain⟨eo,cap,rfl,-,hm,-,-⟩:=hg;obtain⟨v1,v2,rfl,hv,he⟩:=hp;obtain⟨ao,ac,rfl,has,DA,jy⟩:=hv;obtain⟨bo,bc,rfl,wE,sQ,ft⟩:=he;exact⟨eo,cap,ao,ac,bo,bc,rfl,rfl,lh Pf,lh hp0,hm,DA,sQ,lh jy,lh ft,lh has,lh wE,lh (eZ w _ _ _ _).2.2,lh fun w2 h=>Ji w h⟩
end Go.Proofs.YtoiflofhcmjpoaaGreat
-- READS ONLY
namespace Go.Proofs.YtoiflofhcmjpoaaGreat
open Go.RowKit Go.Maps
namespace Plain
end Plain
theorem bK.vY {w:World} {b n:Nat} {f:Int->Option Int} (h:bK w b n f) {k:Int} (hk:aU k):(Instr.lookup 124 (.map (some b)) (.int .i64 k) false).run Tryz.prog w=.ok (.int .i64 ((f k).getD 0)) w:=by
 obtain⟨D,bH,hD⟩:=h;obtain⟨c,fS,dU,-⟩:=bH.lookup_int bI Tryz.underlying124 Tryz.underlying3 (qf _) (keyOf_int_mk Tryz.underlying3 hk);rw[(hD k hk).2] at dU;cases dU;exact fS
theorem St.Ok.Eh {s:St} {x:Int} (h:x∈s.all):s.all.idxOf x<s.all.length:=by grind
theorem St.Ok.GV {s:St} (h:s.Ok) {x:Int} (hx:x∈s.all):s.hd (s.all.idxOf x)<s.all.length:=by
 have:=h.le (s.all.idxOf x) (by rw[<-h.len];exact St.Ok.Eh hx)
 grind
theorem St.sD (s:St) (x y:Int):x∈((s.put x).put y).all/\y∈((s.put x).put y).all:=by grind [St.jJ,St.lD]
theorem St.PW {s:St} {x y:Int} (hx:x∈s.all) (hy:y∈s.all):s.join x y=⟨s.all,relabel s.dx (s.hd (s.all.idxOf x)) (s.hd (s.all.idxOf y))⟩/\s.AW x y=(s.hd (s.all.idxOf x) != s.hd (s.all.idxOf y)):=by
 grind [St.iU,St.join,St.AW]
theorem St.Ok.up {s:St} (h:s.Ok):Up s.dx s.dx:=⟨rfl,fun i hi=>⟨h.le i hi,by
 have:=h.own i hi;simp only[St.hd] at this;split
 ·assumption
 exact this.symm⟩⟩
theorem St.Nf:St.Ok ⟨[],[]⟩:=⟨rfl,List.nodup_nil,by simp,by simp⟩
theorem St.Ok.put {s:St} (h:s.Ok) (x:Int):(s.put x).Ok:=by
 by_cases hx:x∈s.all
 ·rwa[St.iU hx]
 rw[St.dX hx];have hu:=h.up.put;have hl:=h.len;refine⟨by simp[hl],by rw[List.nodup_append];exact⟨h.nodup,by simp,by intro a ha b hb;simp at hb;subst hb;rintro rfl;exact hx ha⟩,fun i hi=>?_,fun i hi=>?_⟩
 ·have:=hu.le i (by simpa using hi);simpa[St.hd,hl] using this.1
 have:=hu.own (i:=i) (by simpa using hi);simpa[St.hd,hl] using this
theorem St.Ok.join {s:St} (h:s.Ok) (x y:Int):(s.join x y).Ok:=by
 have ht:=(h.put x).put y;have hm:=s.sD x y;show St.Ok ⟨((s.put x).put y).all,relabel ((s.put x).put y).dx (((s.put x).put y).hd (((s.put x).put y).all.idxOf x)) (((s.put x).put y).hd (((s.put x).put y).all.idxOf y))⟩;generalize (s.put x).put y=t at *;have hi:=ht.GV hm.1;have hj:=ht.GV hm.2;have ei:=ht.own (t.all.idxOf x) (by rw[<-ht.len];exact Qd.2 hm.1);have ej:=ht.own (t.all.idxOf y) (by rw[<-ht.len];exact Qd.2 hm.2);generalize t.hd (t.all.idxOf x)=a at *;generalize t.hd (t.all.idxOf y)=b at *;by_cases qi:a=b
 ·subst qi
  rw[pM];exact ht
 have hu:=ht.up.join (i:=a) (j:=b) (by rw[<-ht.len];exact hi) (by rw[<-ht.len];exact hj) ei ej qi;have hl:(relabel t.dx a b).length=t.dx.length:=by simp[relabel]
 refine⟨by simp only[hl,ht.len],ht.nodup,fun i hi=>?_,fun i hi=>?_⟩
 ·exact (hu.le i (by grind)).1
 exact hu.own (by grind)
theorem St.Xn (l:List Int):(St.new l).Ok:=by
 have:∀ (l:List Int) (s:St),s.Ok->(l.foldl St.put s).Ok:=by
  intro l
  induction l with
  | nil=>intro s h;exact h
  | cons x r ih=>intro s h;exact ih _ (h.put x)
 exact this l _ St.Nf
end Go.Proofs.YtoiflofhcmjpoaaGreat
namespace Go.Proofs.YtoiflofhcmjpoaaGreat
namespace Plain
def G2 (same:List (List Int)) (i:Nat):Prop:=(same.getD i []).length<2\/(0<i/\(same.getD i []).getD 0 0<=(same.getD (i - 1) []).getD 0 0)
instance (same:List (List Int)) (i:Nat):Decidable (G2 same i):=by unfold G2;infer_instance
def kj (n:Nat):List Int:=(List.range n).map fun (i:Nat)=>(i:Int)
structure agz (ow:Int->Option Int) (n:Nat) (t:Nat) (c:St × List Int):Prop where
 ok:c.1.Ok
 all:c.1.all=kj n
 num:c.1.count+c.2.length=n+t
 nodup:c.2.Nodup
 has:∀ k∈c.2,(ow k).isSome=true
end Plain
end Go.Proofs.YtoiflofhcmjpoaaGreat
