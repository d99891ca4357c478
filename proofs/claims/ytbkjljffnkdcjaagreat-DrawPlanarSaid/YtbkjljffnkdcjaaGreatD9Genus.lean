/- package sX: the contract of Genus. Conditions: lists that lie in memory and read so, of a bounded size. -/
import Derived.Test.YtbkjljffnkdcjaaGreatD9Pieces
open Go.Value renaming slice→Qa,int→Qj
open List renaming idxOf_lt_length_iff→Qb,length_filter_le→Qc,getD→Qe,length_map→Qf,length_replicate→Qg,replicate→Qi,length_append→Qk,length_take→Qn,take_length→Qo,take_zero→Qp
open Nat renaming le_trans→Qd,zero_le→Qh,le_refl→Qq
open Go.Act renaming put→Ql
open Bool renaming eq_false_iff→Qm
namespace Go.Proofs.YtbkjljffnkdcjaaGreat
open Go.RowKit Go.Maps
namespace Plain
noncomputable def kg (g:Gr) (p:Pt) (W:List bR) (R:List Int) (k:Nat):List Int:=R.map fun r=>(((W.take k).filter fun f=>decide (f.de g∈comp g p r)).length:Int)
theorem Lv (g:Gr) (p:Pt) (W:List bR) (R:List Int):kg g p W R 0=Qi R.length 0:=by
 unfold kg;rw[Qp];simp[List.map_const']
theorem eU (g:Gr) (p:Pt) (W:List bR) (R:List Int) (k:Nat):(kg g p W R k).length=R.length:=by simp[kg]
theorem rE {g:Gr} {p:Pt} {W:List bR} {R:List Int} {k n:Nat} (hn:n<R.length):(kg g p W R k).getD n 0=(((W.take k).filter fun f=>decide (f.de g∈comp g p (R.getD n 0))).length:Int):=by
 unfold kg;simp[Qe,hn]
theorem ME {W:List bR} {k:Nat} (hk:k<W.length):W.take (k+1)=W.take k++[W.getD k (0,[])]:=by
 rw[List.take_succ_eq_append_getElem hk];simp[Qe,hk]
theorem MO {g:Gr} {p:Pt} {W:List bR} {R:List Int} {k n:Nat} (hk:k<W.length) (hn:n<R.length) (hc:(W.getD k (0,[])).de g∈comp g p (R.getD n 0)) (hu:∀ m,m<R.length->(W.getD k (0,[])).de g∈comp g p (R.getD m 0)->m=n) :
  kg g p W R (k+1)=(kg g p W R k).set n ((kg g p W R k).getD n 0+1):=by
 refine List.ext_getElem (by simp[kg]) fun m h1 h2=>?_;rw[eU] at h1;have e1:(kg g p W R (k+1))[m]'(by rw[eU];exact h1)=(kg g p W R (k+1)).getD m 0:=by simp[Qe,eU,h1]
 rw[e1,rE h1,ME hk,List.filter_append,Qk,List.getElem_set];by_cases e:n=m
 ·subst e
  rw[if_pos rfl,rE hn,List.filter_cons_of_pos (by simpa using hc)];simp
 rw[if_neg e,List.filter_cons_of_neg (by intro q;exact e (hu m h1 (of_decide_eq_true q)).symm)];have e2:(kg g p W R k)[m]'(by rw[eU];exact h1)=(kg g p W R k).getD m 0:=by simp[Qe,eU,h1]
 rw[e2,rE h1];simp
theorem JM (g:Gr) (p:Pt) (W:List bR) (R:List Int) (k n:Nat):0<=(kg g p W R k).getD n 0/\(kg g p W R k).getD n 0<=(W.length:Int):=by
 by_cases hn:n<R.length
 ·rw[rE hn]
  refine⟨by omega,?_⟩;have h1:=Qc (fun f:bR=>decide (f.de g∈comp g p (R.getD n 0))) (W.take k);rw[Qn] at h1;omega
 have:(kg g p W R k).getD n 0=0:=by simp[Qe,eU,Nat.not_lt.1 hn]
 rw[this];omega
theorem fC.len {g:Gr} {p:Pt} {aa:List (List Int)} {W:List bR} (h:fC g p aa W):W.length<=p.v.length+2*p.e.length:=by
 obtain⟨F,rfl,ht⟩:=h.split;have h1:(dj aa p.v).length<=p.v.length:=by
  unfold dj;rw[Qf];refine Qd (Qc _ _) ?_;rw[List.length_reverse];exact Qq _
 have h2:=ht.keys.length_le;rw[Qf,cw] at h2;rw[Qk];omega
theorem RH {g:Gr} {p:Pt} (h:aH g p) (W:List bR) {R:List Int} {n:Nat} (hn:n<R.length) :
  (2 - ((comp g p (R.getD n 0)).length:Int)+(((p.sub g (comp g p (R.getD n 0))).e).length:Int) - (kg g p W R W.length).getD n 0).tdiv 2=dT g p W (R.getD n 0):=by
 unfold dT;rw[rE hn,Qo,zU h]
end Plain
theorem Eb {w:World} {B g n c i:Nat} {l:List Int} (h:ax w B (.slice (some ⟨g,0,none⟩) n c) l) (hi:i<l.length):w.cell? ⟨g,i,none⟩=some (.int .i64 (l.getD i 0)):=by
 obtain⟨g',e,hc⟩:=h.some (by omega);simp only[Option.some.injEq,Addr.mk.injEq] at e;obtain⟨rfl,-,-⟩:=e;exact hc i hi
theorem rN {w:World} {B fb n c:Nat} (h:w.ownsRow B 3 1 (.slice (some ⟨fb,0,none⟩) n c) n (madeCells (Qj .i64 0).cells (n*1)).toList) (hn:n<4294967296):ax w B (.slice (some ⟨fb,0,none⟩) n c) (Qi n 0):=by
 have e1:(madeCells (Qj .i64 0).cells (n*1)).toList=ints (Qi n 0):=by
  show (madeCells #[Qj .i64 0] (n*1)).toList=_;rw[Nat.mul_one,toList_madeCells_one];simp[ints]
 rw[e1] at h;refine⟨by rw[Qg];exact h,fun x hx=>?_,by rw[Qg];exact hn⟩;have:=List.eq_of_mem_replicate hx;subst this;exact bn.mk (by omega) (by omega)
set_option maxRecDepth 100000 in
set_option maxHeartbeats 8000000 in
theorem KH (vg vp vt:Value) (g:Plain.Gr) (p:Plain.Pt) (aa:List (List Int)) (w:World) (pO:p.e.length<=100000) (vF:p.v.length<=100000) (Pz:aa.length<2147483648) (hS:Plain.cu aa aa.length<2147483648) (hg:dU w vg g) (hp:gD w vp p) (ht:eC w vt aa) :
  Calls Tryz.prog 68 #[vg,vp,vt] w fun e w'=>∃ ov,e=.returned (.tuple #[ov,.int .i64 (Plain.bH g p aa)])/\(Plain.bH g p aa≠0->ov=.slice none 0 0) /\
   (Plain.bH g p aa=0->∃ W,Plain.fC g p aa W/\ax w' w.heap.size ov ((Plain.roots g p).map (Plain.dT g p W)))/\ai [] w w':=by
 have HG:=lh hg;have HP:=lh hp;have HT:=lh ht;have yH:=lh hS;obtain⟨eo,cap,rfl,hn,hm,dS,aO⟩:=hg;obtain⟨v1,v2,rfl,hv,he⟩:=hp;obtain⟨ao,ac,rfl,has,KZ,cD⟩:=hv;obtain⟨bo,bc,rfl,la,vD,bT⟩:=he;obtain⟨tno,tc,rfl,yO,zk⟩:=ht;obtain⟨eG,fh,cG⟩:=dq w #[.int .i64 g.n,.slice eo g.e.length cap] #[.slice ao p.v.length ac,.slice bo p.e.length bc] 24 27;have X0:=lh ((cell_of_row _ _ 0 _ _ _ eG).trans (show _=some (Qj .i64 g.n) from rfl));have X1:=lh ((cell_of_row _ _ 1 _ _ _ eG).trans (show _=some (Qa eo g.e.length cap) from rfl));have Y0:=lh ((cell_of_row _ _ 0 _ _ _ fh).trans (show _=some (Qa ao p.v.length ac) from rfl));have Y1:=lh ((cell_of_row _ _ 1 _ _ _ fh).trans (show _=some (Qa bo p.e.length bc) from rfl));have b8:=lh cG;clear aO cD bT dS la has hn eG fh cG zk hS
 go_enter Tryz.func68,Tryz.ntmps68
 go_wp2_with fail
 refine (L5 _ _ _ g p aa _ (by omega) (by omega) Pz yH.out (HG.out.fresh b8.out) (HP.out.fresh b8.out) (HT.out.fresh b8.out)).mono ?_;rintro e w2 ⟨ov,rfl,fz,cH,bG⟩;have cA:=lh (b8.out.t bG);have zi:=lh (show w.heap.size+2<=w2.heap.size by have:=bG.size;simpa using this);have x0:=bG.c X0.out;have x1:=bG.c X1.out;have y0:=bG.c Y0.out;have y1:=bG.c Y1.out;clear bG;by_cases hr:Plain.bH g p aa=0
 ·have HR:=lh hr
  obtain⟨W,xw,hwk,hnw⟩:=cH hr;have HWK:=lh hwk;have HNW:=lh hnw;obtain⟨wo,wc,rfl⟩:=hnw.shape;have gJ:=(Plain.gw hr).1;have Jh:=lh gJ;have mH:=lh (Plain.Pt.aF gJ);have rT:=lh (Plain.Gr.aP (Plain.Pt.aP gJ).1);have hwl:=hwk.len;rw[hr];clear fz cH hwk hnw gJ
  go_wp2_with fail
  refine (FY _ _ g p _ pO vF (HG.out.fresh cA.out) (HP.out.fresh cA.out)).mono ?_;rintro e w3 ⟨ov3,rfl,-,yE,dB⟩;obtain⟨xs,Tn⟩:=yE Jh.out;have abB:=lh Tn;obtain⟨uo,uc,rfl⟩:=Tn.shape;have dD:=lh (cA.out.t dB);have amo:=lh (HNW.out.fresh dB);have X03:=lh (dB.c x0);have X13:=lh (dB.c x1);have y03:=dB.c y0;have nq:=fun n w=>fZ Tryz.underlying124 n w;rw[Jh.out];have adG:=lh dB.size;clear yE dB Tn x0 x1 y0 y1;have Cq:(Plain.roots g p).length<=100000:=by rw[<-Plain.nM];exact Qd (Plain.kV g p _) vF
  obtain⟨R,VG⟩:∃ R,Plain.roots g p=R:=⟨_,rfl⟩;have MU:=lh VG;rw[VG] at abB Cq ⊢;have YZ:=lh (show ∀ r∈R,r∈Plain.roots g p from fun r hr=>by rw[VG];exact hr);have HRN:=lh (show R.Nodup by rw[<-VG];exact Plain.lB mH.out);clear VG;go_wp2;clear nq y03;have UC:=abB;have HM0:=lh (bN.made w3);have kh:=lh ((ai.refl [] w3).alloc (.map #[] 0));obtain⟨pb,pa⟩:∃ pb,w3.heap.size=pb:=⟨_,rfl⟩;rw[pa] at HM0 ⊢;have rJ:=lh (show w3.heap.size<=pb by omega);have Ux:=lh (show w.heap.size+2<=w3.heap.size by have:=zi.out;have:=adG.out;omega);clear pa;generalize w3.alloc (.map #[] 0)=w4 at *
  go_loopw [48] (fun c wr=>∃ (i:Nat) (f:Int->Option Int),i<=R.length/\c=.int .i64 i/\bN wr pb (i*1000000) f/\Hid (Plain.Told g p R i 0 f)/\ai [] w3 wr) (fun c _=>R.length - (intOf c).toNat)
  case atStart=>exact⟨0,_,Qh _,rfl,by rw[Nat.zero_mul];exact HM0.out,lh (Plain.Told.start g p R _),kh.out⟩
  case round =>
   obtain⟨i,f,hi,rfl,hm,EH,hc⟩:=hrel;have HM:=lh hm;have HC:=lh hc;by_cases aU:i<R.length
   ·obtain⟨pg,pc,va,vc,ea,ec,gJ,cG,bG,fz,cH⟩:=sG (UC.out.fresh hc) rfl aU
    simp only[Qa.injEq] at gJ;obtain⟨rfl,-,rfl⟩:=gJ;have Fs:=lh (fun j f hj h=>Plain.Told.next (g:=g) (p:=p) (R:=R) (i:=i) (j:=j) (f:=f) mH.out YZ.out HRN.out aU hj h);have HTR:=lh (fun f h=>Plain.Told.row (g:=g) (p:=p) (R:=R) (i:=i) (f:=f) h);have ma:=Qd (Plain.D9 g p (R.getD i 0)) vF;have Vq:=lh (fun y (hy:y∈Plain.comp g p (R.getD i 0))=>mH.out.vr y (Plain.cW.1 hy).1);have Sf:=lh fz.ints;have HTD:Hid (∀ j f,Plain.Told g p R i j f->Plain.Told g p R i j f):=lh (fun _ _ h=>h);obtain⟨C,hC⟩:∃ C,Plain.comp g p (R.getD i 0)=C:=⟨_,rfl⟩;obtain⟨E0,hE0⟩:∃ E0,(p.sub g (Plain.comp g p (R.getD i 0))).e=E0:=⟨_,rfl⟩;have sD:=lh hC;rw[hC] at cG ma Fs HTR Vq Sf;rw[hE0] at bG;have II:bn (i:Int):=bn.mk (by omega) (by omega);clear fz cH hm hc hC hE0;go_wp2;have mo:=lh ((ai.refl [] wr).alloc (.cells #[.slice va C.length vc,.slice ea E0.length ec] 27));have Sj:=(cell_of_row _ _ 0 _ _ _ (heap_alloc_new wr (.cells #[.slice va C.length vc,.slice ea E0.length ec] 27))).trans (show _=some (Qa va C.length vc) from rfl);have Bb:=lh (HM.out.aM mo.out (by simp));have iP:=lh (HC.out.t mo.out);have y7:=lh (Sf.out.fresh mo.out);clear cG bG;obtain⟨wb,Cj⟩:∃ wb,wr.heap.size=wb:=⟨_,rfl⟩;generalize (wr.alloc (.cells #[.slice va C.length vc,.slice ea E0.length ec] 27))=wq at *;rw[Cj] at Sj ⊢;clear Cj
    go_loopw [56] (fun c wi=>∃ (j:Nat) (f:Int->Option Int),j<=C.length/\c=.int .i64 j/\bN wi pb (i*1000000+j) f/\Hid (Plain.Told g p R i j f)/\ai [pb] wq wi/\ai [] w3 wi) (fun c _=>C.length - (intOf c).toNat)
    case atStart=>exact⟨0,f,Qh _,rfl,Bb.out.mono (by omega),EH,ai.refl _ _,iP.out⟩
    case round =>
     obtain⟨j,f,hj,rfl,hm,EH,dI,hc⟩:=hrel;have HMJ:=lh hm;have T4:=lh dI;have ado:=lh hc;by_cases nS:j<C.length
     ·obtain⟨Nr,c',e,afq,-,jM⟩:=y7.out
      obtain⟨vb,ak9,e2,aO⟩:=jM (by intro e;rw[e] at nS;simp at nS);simp only[Qa.injEq] at e;obtain⟨e3,-,-⟩:=e;rw[e2] at e3;subst e3;have bh:vb≠pb:=fun e=>by have:=Bb.out.I7 (aO j nS);exact this e
      have cj:=dI.cell (aO j nS) (by simpa using bh);have IY:=afq (C.getD j 0) (Plain.aZ nS);have HTJ:=lh (Fs.out j f nS EH.out);obtain⟨y,hy⟩:∃ y,C.getD j 0=y:=⟨_,rfl⟩;rw[hy] at cj IY HTJ;have VF:i*1000000+j<maxLen:=by unfold maxLen;omega
      clear aO jM afq hy hm dI hc bh
      go_wp2_with (at_mapUpdate;refine iG _ rfl _ _ _ rfl HMJ.out VF rfl IY II rfl rfl ?_;intro w6 m6 g6;have M6:=lh m6;have G6:=lh g6;clear m6 g6)
      go_roundw
      case rel=>exact⟨j+1,_,by omega,by go_num,M6.out.mono (by omega),HTJ,T4.out.grown G6.out (fun j hj=>by cases hj;exact Or.inl (by simp)),ado.out.grown G6.out (fun j hj=>by cases hj;exact Or.inr rJ.out)⟩
      case measure=>simp[intOf];omega
     have e:j=C.length:=by omega
     subst e;have Ou:=lh (HTR.out f EH.out);clear hm dI hc;go_wp2
     go_roundw
     case rel=>exact⟨i+1,f,by omega,by go_num,HMJ.out.mono (by omega),Ou,ado.out⟩
     case measure=>simp[intOf];omega
   have e:i=R.length:=by omega
   subst e;clear hm hc;generalize wr=wz at *;have ac3:Hid (∀ v∈p.v,∃ n,n<R.length/\f v=some (n:Int)/\v∈Plain.comp g p (R.getD n 0)):=lh (fun v hv=>by
    have h:=EH.out;rw[<-MU.out] at h ⊢;exact h.all mH.out hv)
   have anx:=lh (show w3.heap.size<=wz.heap.size from HC.out.size);clear aU hi
   go_wp2_with (at_make;refine Jv cJ rfl _ _ rfl (B:=wz.heap.size) (n:=R.length) rfl rfl (Qq _) (by omega) ?_;intro w5 GL gV;have HO5:=lh (rN GL (by omega));have iP:=lh gV;clear GL gV)
   obtain⟨fb,Lr⟩:∃ fb,wz.heap.size=fb:=⟨_,rfl⟩;have HFB:=lh Lr;rw[Lr] at HO5 ⊢;clear Lr
   go_loopw [70] (fun c wr=>∃ k:Nat,k<=W.length/\c=.int .i64 k/\ax wr fb (.slice (some ⟨fb,0,none⟩) R.length R.length) (Plain.kg g p W R k)/\ai [] wz wr) (fun c _=>W.length - (intOf c).toNat)
   case atStart=>exact⟨0,Qh _,rfl,by rw[Plain.Lv];exact HO5.out,iP.out⟩
   case round =>
    obtain⟨k,hk,rfl,bd,hc⟩:=hrel;have bU:=lh bd;have Zl:=lh hc;have OM:=lh (HC.out.t hc);by_cases aU:k<W.length
    ·obtain⟨wg,wc',da,dc,hwe,Mf,hf2,sF⟩:=KX (amo.out.fresh OM.out) rfl aU
     simp only[Qa.injEq] at hwe;obtain⟨rfl,-,rfl⟩:=hwe;have cV:W.getD k (0,[])∈W:=by simp[Qe,aU]
     have Kt:=Plain.wC mH.out HWK.out.aj _ cV;obtain⟨n,hnR,Y9,tI⟩:=ac3.out _ Kt;have adu:=lh (Plain.MO (g:=g) (p:=p) (R:=R) aU hnR tI (fun m hm h=>Plain.rV mH.out YZ.out HRN.out hnR hm (Plain.cW.1 tI).2 h));have kK:=HWK.out.aj.key _ cV;have cU:∀ d l,(W.getD k (0,[])).2=d :: l->d∈p.ag:=fun d l e=>HWK.out.aj.all.mem_iff.1 (List.mem_flatten.2 ⟨(W.getD k (0,[])).2,List.mem_map.2 ⟨_,List.mem_filter.2 ⟨cV,by rw[e];rfl⟩,rfl⟩,by rw[e];simp⟩);have Y3:=Plain.JM g p W R k n;have ma:=Plain.eU g p W R k;have IC:bn ((W.getD k (0,[])).de g):=by have:=mH.out.vr _ Kt;have:=rT.out;exact bn.mk (by omega) (by omega)
     have fD:∀ l,(W.getD k (0,[])).2=l->l=[]->-1 - (W.getD k (0,[])).1=(W.getD k (0,[])).de g:=fun l e e2=>by
      subst e2;unfold Plain.bR.de;rw[e]
     have D':∀ d l,(W.getD k (0,[])).2=d :: l->(W.getD k (0,[])).de g=g.tail (W.getD k (0,[])).1:=fun d l e=>by
      unfold Plain.bR.de;rw[e]
     obtain⟨fc,pX⟩:∃ fc,W.getD k (0,[])=fc:=⟨_,rfl⟩;rw[pX] at Mf hf2 sF Kt Y9 tI kK cU IC fD D';obtain⟨key,ds⟩:=fc;dsimp only at Mf hf2 sF kK cU fD D';obtain⟨kv,hkv⟩:∃ kv,Plain.bR.de g (key,ds)=kv:=⟨_,rfl⟩;rw[hkv] at Kt Y9 tI IC fD D';have ak5:=lh kK;have Le:=lh cU;have wL:=lh fD;have abV:=lh D';have Fq:=lh aU;have hkI:-9223372036854775000<=key/\key<=9223372036854775000:=by
      cases ds with
      | nil=>have:=fD _ rfl rfl;have:=mH.out.vr _ Kt;have:=rT.out;omega
      | cons d l=>have h1:=kK d l rfl;have h2:=Plain.qE Jh.out (cU d l rfl);omega
     have Xb:Hid ((f kv).getD 0=(n:Int)):=lh (by rw[Y9];rfl);have x0:=OM.out.c X03.out;have x1:=OM.out.c X13.out;obtain⟨dn,nv⟩:∃ dn,ds.length=dn:=⟨_,rfl⟩;have HDN:=lh nv;have av8:dn<4294967296:=by rw[<-nv];exact sF.2.2
     rw[nv] at hf2;clear kK cU fD D' pX cV bd hc Kt Y9 tI sF hkv nv
     go_upto_if 80 with fail
     have mo:=lh ((ai.refl [] wr).alloc (.cells #[.int .i64 key,.slice da dn dc] 138));have b0:=(cell_of_row _ _ 0 _ _ _ (heap_alloc_new wr (.cells #[.int .i64 key,.slice da dn dc] 138))).trans (show _=some (Qj .i64 key) from rfl);have x0b:=mo.out.c x0;have x1b:=mo.out.c x1;have HWB:=lh (show wr.heap.size<(wr.alloc (.cells #[.int .i64 key,.slice da dn dc] 138)).heap.size by simp);have N6:=lh (bU.out.aM mo.out (by simp));clear Mf hf2 x0 x1;obtain⟨wb,Cj⟩:∃ wb,wr.heap.size=wb:=⟨_,rfl⟩;generalize (wr.alloc (.cells #[.int .i64 key,.slice da dn dc] 138))=wq at *;rw[Cj] at b0 ⊢;clear Cj
     go_cut [19] (fun v wc=>v=.int .i64 kv/\ai [] wq wc)
     case first =>
      by_cases h0:dn=0
      ·subst h0
       have hv:=wL.out ds rfl (List.length_eq_zero_iff.1 HDN.out);go_wp2
       go_meet
       case rel=>exact⟨by rw[hv],ai.refl _ _⟩
      obtain⟨d,l,x9⟩:∃ d l,ds=d :: l:=by
       cases ds with
       | nil=>exact absurd HDN.out.symm h0
       | cons d l=>exact⟨d,l,rfl⟩
      have hkd:=ak5.out d l x9;have mj:=Le.out d l x9;have hcg:=abV.out d l x9;subst hkd;have hds:=Plain.qE Jh.out mj;obtain⟨kn,Va⟩:∃ kn:Nat,key=(kn:Int):=⟨key.toNat,by omega⟩;subst Va;have hke:kn / 2<g.e.length:=by
       rw[Plain.aw] at mj;obtain⟨i',uT,e'⟩:=Plain.bO mj;have:=Plain.ct (Plain.Pt.aP Jh.out).2.2.1 uT;omega
      have nz:g.e.length<4294967296:=by have:=rT.out;omega
      have HKE:=lh hke;clear mj hke;have h0':0<dn:=by omega
      clear h0 x9
      go_wp2_with fail
      refine (Hh _ g kn _ HKE.out nz (HG.out.fresh ((dD.out.t OM.out).t mo.out))).mono ?_;rintro e w9 ⟨rfl,hc9⟩;have Fg:=lh hc9;rw[<-hcg];clear hc9 hcg;go_wp2
      go_meet
      case rel=>exact⟨rfl,Fg.out⟩
     case rest =>
      obtain⟨rfl,jM⟩:=hcut;have Vo:=lh (mo.out.t jM);have HMC:=lh (HM.out.aM (Zl.out.t Vo.out) (by simp));have NA:=lh (N6.out.aM jM (by simp));have FO:n<(Plain.kg g p W R k).length:=by omega
      have cn:=Eb NA.out FO;have zn:wc.frozen? ⟨fb,n,none⟩=false:=by
       have:=NA.out;rw[<-ma] at this;exact this.free (by omega) n
      have IX:bn ((Plain.kg g p W R k).getD n 0+1):=bn.mk (by omega) (by omega);have abO:=lh (NA.out.set n ((Plain.kg g p W R k).getD n 0+1) IX);rw[<-adu.out] at abO;clear jM;generalize (Plain.kg g p W R k).getD n 0=z at *
      go_wp2_with (at_lookup;refine kd _ rfl _ _ rfl HMC.out rfl IC rfl Xb ?_)
      go_roundw
      case rel=>exact⟨k+1,by have:=Fq.out;omega,by go_num,abO.out,(Zl.out.t Vo.out).setCell (Or.inr (by have:=HFB.out;simp;omega)) _⟩
      case measure=>have:=Fq.out;simp[intOf];omega
    have e:k=W.length:=by omega
    subst e;have GS:=bU;obtain⟨CN,hCN⟩:∃ CN,Plain.kg g p W R W.length=CN:=⟨_,rfl⟩;have amy:=lh hCN;have ma:CN.length=R.length:=by rw[<-hCN];exact Plain.eU g p W R _
    have Y3:∀ n,0<=CN.getD n 0/\CN.getD n 0<=(W.length:Int):=fun n=>by rw[<-hCN];exact Plain.JM g p W R _ n
    have Nl:=lh ma;have aku:=lh Y3;rw[hCN] at GS;clear hCN ma Y3 bd hc bU aU hk;generalize wr=wy at *;go_wp2
    go_loopw [20,96] (fun o c wr=>∃ i:Nat,i<=R.length/\c=.int .i64 i/\ax wr wy.heap.size o ((R.take i).map (Plain.dT g p W))/\ai [] wy wr) (fun _ c _=>R.length - (intOf c).toNat)
    case atStart=>exact⟨0,Qh _,rfl,by rw[Qp];exact yC _ _,ai.refl _ _⟩
    case round =>
     obtain⟨i,hi,rfl,bd,hc⟩:=hrel;have bU:=lh bd;have HCY:=lh hc;have agi:=lh (OM.out.t hc);by_cases aU:i<R.length
     ·obtain⟨pg,pc,va,vc,ea,ec,gJ,cG,bG,fz,cH⟩:=sG (UC.out.fresh agi.out) rfl aU
      simp only[Qa.injEq] at gJ;obtain⟨rfl,-,rfl⟩:=gJ;have j7:=lh (Plain.RH mH.out W aU);rw[amy.out] at j7;have hz:=aku.out i;have hiC:i<CN.length:=by rw[Nl.out];exact aU
      have pX:=hc.c (Eb GS.out hiC);have av4:=Qd (Plain.D9 g p (R.getD i 0)) vF;have asL:(p.sub g (Plain.comp g p (R.getD i 0))).e.length<=100000:=by
       unfold Plain.Pt.sub;exact Qd (Qc _ _) pO
      have sE:=lh (show (R.take (i+1)).map (Plain.dT g p W)=(R.take i).map (Plain.dT g p W)++[Plain.dT g p W (R.getD i 0)] by
       rw[Plain.jc aU,List.map_append];rfl)
      have aqX:((R.take i).map (Plain.dT g p W)).length<=100000:=by rw[Qf,Qn];omega
      obtain⟨oo,oc,rfl⟩:=bd.shape;have Fq:=lh aU;generalize CN.getD i 0=z at *;obtain⟨G,hG⟩:∃ G,Plain.dT g p W (R.getD i 0)=G:=⟨_,rfl⟩;rw[hG] at j7 sE;generalize (p.sub g (Plain.comp g p (R.getD i 0))).e=E0 at *;generalize Plain.comp g p (R.getD i 0)=C at *;generalize (R.take i).map (Plain.dT g p W)=RR at *;clear fz cH bd hc hG hiC;go_wp2;have mo:=lh ((ai.refl [] wr).alloc (.cells #[.slice va C.length vc,.slice ea E0.length ec] 27));have b0:=(cell_of_row _ _ 0 _ _ _ (heap_alloc_new wr (.cells #[.slice va C.length vc,.slice ea E0.length ec] 27))).trans (show _=some (Qa va C.length vc) from rfl);have b1:=(cell_of_row _ _ 1 _ _ _ (heap_alloc_new wr (.cells #[.slice va C.length vc,.slice ea E0.length ec] 27))).trans (show _=some (Qa ea E0.length ec) from rfl);have Lr:=mo.out.c pX;have N6:=lh (bU.out.aM mo.out (by simp));have zj:=lh (HCY.out.t mo.out);clear cG bG pX;obtain⟨wb,Cj⟩:∃ wb,wr.heap.size=wb:=⟨_,rfl⟩;generalize (wr.alloc (.cells #[.slice va C.length vc,.slice ea E0.length ec] 27))=wq at *;rw[Cj] at b0 b1 ⊢;clear Cj;have aD:(fun w':World=>w'.cell? ⟨wb,0,none⟩=some (.slice va C.length vc)/\w'.cell? ⟨wb,1,none⟩=some (.slice ea E0.length ec)/\w'.cell? ⟨fb,i,none⟩=some (.int .i64 z)) wq.drew:=⟨b0,b1,Lr⟩;refine au (fun w':World=>w'.cell? ⟨wb,0,none⟩=some (.slice va C.length vc)/\w'.cell? ⟨wb,1,none⟩=some (.slice ea E0.length ec)/\w'.cell? ⟨fb,i,none⟩=some (.int .i64 z)) [0,1,2,3,4,5,6,7,8,9,10,11,12,13,14] (Way.line [0,1,2,3,4,5,6,7,8,9,10,11,12,13,14,15,16,17] .done) (by kernel_rfl) (by kernel_rfl) ?_;simp only[Way.line]
      repeat
       first
        | (refine ar rfl (by rfl) (by rfl) (fun _ _ _ h=>h) aD ?_;simp only[Ql,Z1,Z2,Z3,Z4,Z5,Z6])
        | (refine aq (v:=?_) rfl (by rfl) (by rfl) (fun _ _ _ h=>h) aD (fun w' aK=>?_) ?_;rotate_left;(focus ((try dsimp only at aK);go_simp;try with_reducible rfl));simp only[Ql,Z1,Z2,Z3,Z4,Z5,Z6])
        | (refine ak rfl (by rfl) (by rfl) aD ?_;simp only[Ql,Z1,Z2,Z3,Z4,Z5,Z6])
      refine aC rfl (by rfl) (by rfl) (fun K hK=>?_);go_simp;have sA:=IntWalk.i64_in (2 - (C.length:Int)) (by omega);have hw2:=IntWalk.i64_in (2 - (C.length:Int)+(E0.length:Int)) (by omega);have hw3:=IntWalk.i64_in (2 - (C.length:Int)+(E0.length:Int) - z) (by omega);have B8:IntKind.i64.wrap ((IntKind.i64.wrap (IntKind.i64.wrap (IntKind.i64.wrap (2 - (C.length:Int))+(E0.length:Int)) - z)).tdiv 2)=G:=by
       rw[sA,hw2,hw3,IntWalk.i64_quo' _ _ (by omega)];exact j7.out
      have IG:bn G:=by
       rw[<-B8];rw[IntWalk.i64_left];exact wrap64_wf _
      rw[B8];have RZ:=((ai.refl [] wq).alloc (.cells #[.int .i64 G] 3)).drew;have bD:(fun w':World=>w'.cell? ⟨wb,0,none⟩=some (.slice va C.length vc)/\w'.cell? ⟨wb,1,none⟩=some (.slice ea E0.length ec)/\w'.cell? ⟨fb,i,none⟩=some (.int .i64 z)) (wq.alloc (.cells #[.int .i64 G] 3)).drew:=⟨RZ.c b0,RZ.c b1,RZ.c Lr⟩;have Ug:=lh ((gP wq IG).fresh (ai.refl [] _).drew);have OU:=lh (N6.out.aM RZ (by simp));have Nj:=lh (zj.out.t RZ);have DK:=lh Nj.out.size;refine hK.out _ _ (fun _=>bD) ?_;clear hK K aD sA hw2 hw3 B8 RZ b0 b1 Lr;generalize (wq.alloc (.cells #[.int .i64 G] 3)).drew=wa at *;generalize wq.heap.size=nl at *
      try simp only[Ql,Z1,Z2,Z3,Z4,Z5,Z6]
      refine aC rfl (by rfl) (by rfl) (fun K hK=>?_);simp only[List.getElem_toArray,List.getElem_cons_zero,List.getElem_cons_succ];refine sr (.tmp 101) (.tmp 116) rfl (B:=wy.heap.size) (v:=.slice oo RR.length oc) rfl rfl OU.out Ug.out DK.out (by simp;omega) fun v' w7 r7 c7 f7=>?_;obtain⟨vo,vcc,rfl⟩:=r7.shape;have Sh:=lh r7;have nm:=lh (Nj.out.trans c7 (fun j hj=>Or.inr (OU.out.low j (by rw[<-OU.out.aL];exact hj)).1));refine hK.out _ _ (fun h=>absurd h (Qm.1 (by kernel_rfl))) ?_;clear hK K bD r7 c7 f7
      try simp only[Ql,List.setIfInBounds_toArray,List.set_cons_zero,List.set_cons_succ]
      refine aC rfl (by rfl) (by rfl) (fun K hK=>?_);go_simp;refine hK.out _ _ (fun h=>absurd h (Qm.1 (by kernel_rfl))) ?_;clear hK K
      try simp only[Ql,Z1,Z2,Z3,Z4,Z5,Z6]
      refine aB ?_;go_wp2
      go_roundw
      case rel=>exact⟨i+1,by have:=Fq.out;omega,by go_num,by rw[sE.out];have:=Sh.out;rwa[show (RR++[G]).length=RR.length+1 by simp] at this,nm.out⟩
      case measure=>have:=Fq.out;simp[intOf];omega
     have e:i=R.length:=by omega
     subst e;rw[Qo] at bd;have wP:=lh (bd.base (show w.heap.size<=wy.heap.size by have:=Zl.out.size;have:=anx.out;have:=Ux.out;omega));have vL:=lh (dD.out.t agi.out);obtain⟨oo,oc,rfl⟩:=bd.shape;clear bd hc bU;go_wp2;refine bodyPost_ret (v:=.tuple #[.slice oo (R.map (Plain.dT g p W)).length oc,.int .i64 0]) (by simp[results,Tryz.results68,go_sem]) rfl ?_;rw[HR.out,MU.out];exact⟨_,rfl,fun h=>absurd rfl h,fun _=>⟨W,HWK.out,wP.out⟩,vL.out⟩
 obtain⟨er,qK⟩:∃ er,Plain.bH g p aa=er:=⟨_,rfl⟩;have BG:=lh qK;have alw:=fz hr;subst alw;rw[qK] at hr ⊢;have HR:=lh hr;clear qK fz cH;go_wp2;refine bodyPost_ret (v:=.tuple #[.slice none 0 0,.int .i64 er]) (by simp[results,Tryz.results68,go_sem]) rfl ?_;rw[BG.out];exact⟨_,rfl,fun _=>rfl,fun h=>absurd h HR.out,cA.out⟩
theorem im (w:World) {g:Plain.Gr} {p:Plain.Pt} {eo ao bo:Option Addr} {cap ac bc:Nat} {w2:World} (h:ai [] ((w.alloc (.cells #[.int .i64 g.n,.slice eo g.e.length cap] 24)).alloc (.cells #[.slice ao p.v.length ac,.slice bo p.e.length bc] 27)) w2) :
  w2.cell? ⟨w.heap.size,0,none⟩=some (.int .i64 g.n)/\w2.cell? ⟨w.heap.size,1,none⟩=some (.slice eo g.e.length cap)/\w2.cell? ⟨w.heap.size+1,0,none⟩=some (.slice ao p.v.length ac)/\w2.cell? ⟨w.heap.size+1,1,none⟩=some (.slice bo p.e.length bc)/\w.heap.size+2<=w2.heap.size:=by
 obtain⟨eG,fh,-⟩:=dq w #[.int .i64 g.n,.slice eo g.e.length cap] #[.slice ao p.v.length ac,.slice bo p.e.length bc] 24 27;have hs:=h.size;exact⟨h.c ((cell_of_row _ _ 0 _ _ _ eG).trans rfl),h.c ((cell_of_row _ _ 1 _ _ _ eG).trans rfl),h.c ((cell_of_row _ _ 0 _ _ _ fh).trans rfl),h.c ((cell_of_row _ _ 1 _ _ _ fh).trans rfl),by simpa using hs⟩
namespace Plain
end Plain
theorem bN.xR {w:World} {b n:Nat} {f:Int->Option Int} (h:bN w b n f) {k:Int} (hk:bn k):(Instr.lookup 124 (.map (some b)) (.int .i64 k) false).run Tryz.prog w=.ok (.int .i64 ((f k).getD 0)) w:=by
 obtain⟨D,bL,hD⟩:=h;obtain⟨c,gC,dN,-⟩:=bL.lookup_int bM Tryz.underlying124 Tryz.underlying3 (rq _) (keyOf_int_mk Tryz.underlying3 hk);rw[(hD k hk).2] at dN;cases dN;exact gC
theorem St.Ok.Bh {s:St} {x:Int} (h:x∈s.all):s.all.idxOf x<s.all.length:=Qb.2 h
theorem St.Ok.JF {s:St} (h:s.Ok) {x:Int} (hx:x∈s.all):s.hd (s.all.idxOf x)<s.all.length:=by
 have:=h.le (s.all.idxOf x) (by rw[<-h.len];exact St.Ok.Bh hx);have:=St.Ok.Bh hx;omega
theorem St.tM (s:St) (x y:Int):x∈((s.put x).put y).all/\y∈((s.put x).put y).all:=⟨St.ku y (s.lk x),St.lk _ _⟩
theorem St.US {s:St} {x y:Int} (hx:x∈s.all) (hy:y∈s.all):s.join x y=⟨s.all,relabel s.dp (s.hd (s.all.idxOf x)) (s.hd (s.all.idxOf y))⟩/\s.CE x y=(s.hd (s.all.idxOf x) != s.hd (s.all.idxOf y)):=by
 have e:(s.put x).put y=s:=by rw[St.jo hx,St.jo hy]
 exact⟨by unfold St.join;rw[e],by unfold St.CE;rw[e]⟩
theorem St.Ok.up {s:St} (h:s.Ok):Up s.dp s.dp:=⟨rfl,fun i hi=>⟨h.le i hi,by
 have:=h.own i hi;simp only[St.hd] at this;split
 ·assumption
 exact this.symm⟩⟩
theorem St.Re:St.Ok ⟨[],[]⟩:=⟨rfl,List.nodup_nil,by simp,by simp⟩
theorem St.Ok.put {s:St} (h:s.Ok) (x:Int):(s.put x).Ok:=by
 by_cases hx:x∈s.all
 ·rwa[St.jo hx]
 rw[St.eH hx];have hu:=h.up.put;have hl:=h.len;refine⟨by simp[hl],by rw[List.nodup_append];exact⟨h.nodup,by simp,by intro a ha b hb;simp at hb;subst hb;rintro rfl;exact hx ha⟩,fun i hi=>?_,fun i hi=>?_⟩
 ·have:=hu.le i (by simpa using hi);simpa[St.hd,hl] using this.1
 have:=hu.own (i:=i) (by simpa using hi);simpa[St.hd,hl] using this
theorem St.Ok.join {s:St} (h:s.Ok) (x y:Int):(s.join x y).Ok:=by
 have ht:=(h.put x).put y;have hm:=s.tM x y;show St.Ok ⟨((s.put x).put y).all,relabel ((s.put x).put y).dp (((s.put x).put y).hd (((s.put x).put y).all.idxOf x)) (((s.put x).put y).hd (((s.put x).put y).all.idxOf y))⟩;generalize (s.put x).put y=t at *;have hi:=ht.JF hm.1;have hj:=ht.JF hm.2;have ei:=ht.own (t.all.idxOf x) (by rw[<-ht.len];exact Qb.2 hm.1);have ej:=ht.own (t.all.idxOf y) (by rw[<-ht.len];exact Qb.2 hm.2);generalize t.hd (t.all.idxOf x)=a at *;generalize t.hd (t.all.idxOf y)=b at *;by_cases lT:a=b
 ·subst lT
  rw[sg];exact ht
 have hu:=ht.up.join (i:=a) (j:=b) (by rw[<-ht.len];exact hi) (by rw[<-ht.len];exact hj) ei ej lT;have hl:(relabel t.dp a b).length=t.dp.length:=by simp[relabel]
 refine⟨by simp only[hl,ht.len],ht.nodup,fun i hi=>?_,fun i hi=>?_⟩
 ·exact (hu.le i (by simp only[hl] at hi;simpa using hi)).1
 exact hu.own (by simp only[hl] at hi;simpa using hi)
theorem St.X8 (l:List Int):(St.new l).Ok:=by
 have:∀ (l:List Int) (s:St),s.Ok->(l.foldl St.put s).Ok:=by
  intro l
  induction l with
  | nil=>intro s h;exact h
  | cons x r ih=>intro s h;exact ih _ (h.put x)
 exact this l _ St.Re
end Go.Proofs.YtbkjljffnkdcjaaGreat
namespace Go.Proofs.YtbkjljffnkdcjaaGreat
namespace Plain
def J' (same:List (List Int)) (i:Nat):Prop:=(same.getD i []).length<2\/(0<i/\(same.getD i []).getD 0 0<=(same.getD (i - 1) []).getD 0 0)
instance (same:List (List Int)) (i:Nat):Decidable (J' same i):=by unfold J';infer_instance
def lH (n:Nat):List Int:=(List.range n).map fun (i:Nat)=>(i:Int)
structure an4 (ow:Int->Option Int) (n:Nat) (t:Nat) (c:St × List Int):Prop where
 ok:c.1.Ok
 all:c.1.all=lH n
 num:c.1.count+c.2.length=n+t
 nodup:c.2.Nodup
 has:∀ k∈c.2,(ow k).isSome=true
end Plain
end Go.Proofs.YtbkjljffnkdcjaaGreat
