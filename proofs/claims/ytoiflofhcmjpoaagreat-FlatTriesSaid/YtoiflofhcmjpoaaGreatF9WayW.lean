/- ref12.Ways: contract. Conditions: a graph, a right part with vertices that lie in memory and read so, with at most 5000 choices. -/
import Derived.Test.YtoiflofhcmjpoaaGreatF9Awk13
set_option maxRecDepth 100000
set_option maxHeartbeats 8000000
open Nat renaming le_trans→Qa,le_refl→Qf,zero_le→Ql,div_le_self→Qs
open Go.Act renaming put→Qb
open List renaming all_eq_true→Qc,mem_cons_of_mem→Qd,mem_filter→Qe,getD→Qi,take_of_length_le→Qj,length_filter_le→Qk,length_pos_iff→Qn,getElem_of_mem→Qo,mem_singleton→Qp,mem_map→Qq,all_eq_false→Qr,mem_cons→Qv,range→Qx
open Go.Value renaming slice→Qg,ownBlock→Qm,int→Qy
open Bool renaming eq_false_iff→Qh,or_eq_true→Qu
open Int renaming natCast_mul→Qt
open Or renaming inr→Qw
-- READS ONLY
namespace Go.Proofs.YtoiflofhcmjpoaaGreat
open Plain
open Go.RowKit Go.Maps
namespace Plain
variable {N i x:Nat} {V m:List Int} {g:Gr} {b:Pt}
def kp (R:List (List (List Int))):Nat->Nat->Nat
 | 0,n=>n
 | m+1,n=>kp R m n / (R.getD m []).length
theorem wj (L:List (List Int)) (R:List (List (List Int))):∀ m n,kp (L :: R) (m+1) n=kp R m (n / L.length)
 | 0,n=>rfl
 | m+1,n=>by
  show kp (L :: R) (m+1) n / (R.getD m []).length=_;rw[wj L R m n];rfl
theorem Cw (R:List (List (List Int))):∀ m n,kp R m n<=n
 | 0,_n=>Qf _
 | m+1,n=>Qa (Qs _ _) (Cw R m n)
theorem vu:∀ (R:List (List (List Int))) (n:Nat),(rF R n).length=R.length
 | [],n=>rfl
 | L :: R,n=>by
  show (rF R _).length+1=_;rw[vu R];rfl
theorem LO:∀ {R:List (List (List Int))} {n m:Nat},m<R.length->(rF R n).getD m []=(R.getD m []).getD (kp R m n % (R.getD m []).length) []
 | [],n,m,h=>by simp at h
 | L :: R,n,0,_=>rfl
 | L :: R,n,m+1,h=>by
  rw[wj];exact LO (R:=R) (n:=n / L.length) (m:=m) (by simpa using h)
def mB (N:Nat) (V:List Int) (rows:List (List Int)) (j:Nat):List (List Int):=(Qx N).map λv:Nat=>if (v:Int)∈V.drop j then rows.getD (V.idxOf (v:Int)) [] else []
theorem EU (N:Nat) (V:List Int) (rows:List (List Int)):mB N V rows V.length=List.replicate N []:=by
 unfold mB;rw[List.drop_length];simp[List.map_const']
theorem JF (N:Nat) (V:List Int) (rows:List (List Int)):mB N V rows 0=uQ N V rows:=rfl
theorem KD (N:Nat) (V:List Int) (rows:List (List Int)) (j:Nat):(mB N V rows j).length=N:=by simp[mB]
theorem FD {rows:List (List Int)} (hi:i<V.length) (hx:V.getD i 0=(x:Int)) (hn:V.Nodup):mB N V rows i=(mB N V rows (i+1)).set x (rows.getD i []):=by
 have Pf:V[i]=(x:Int):=by rw[<-hx];simp[Qi,hi]
 have hd:V.drop i=(x:Int) :: V.drop (i+1):=by rw[List.drop_eq_getElem_cons hi,Pf]
 have xo:V.idxOf (x:Int)=i:=by rw[<-Pf];exact hn.idxOf_getElem i hi
 refine List.ext_getElem (by simp[mB]) λj h1 h2=>?_;rw[List.getElem_set];simp only[mB,List.getElem_map,List.getElem_range];rw[hd];by_cases q:x=j
 ·subst q
  rw[if_pos (by simp),if_pos rfl,xo]
 rw[if_neg q];have:((j:Int)∈(x:Int) :: V.drop (i+1))↔(j:Int)∈V.drop (i+1):=by
  rw[Qv];exact⟨λh=>h.elim (λh=>absurd h (by omega)) id,Qw⟩
 simp only[this]
noncomputable def sk (g:Gr) (b:Pt) (n:Nat):List (List (List Int)):=((Qx n).map (vM g b)).filter λt=>decide (dA g b t=0)
theorem GW (g:Gr) (b:Pt) (n:Nat):sk g b (n+1)=sk g b n++if dA g b (vM g b n)=0 then [vM g b n] else []:=by
 unfold sk;rw[List.range_succ,List.map_append,List.filter_append];congr 1;by_cases h:dA g b (vM g b n)=0 <;> simp[h]
theorem Kb (g:Gr) (b:Pt) (n:Nat):(sk g b n).length<=n:=by
 unfold sk;refine Qa (Qk _ _) (by simp)
def ie (g:Gr) (b:Pt):List (List (List Int)):=b.v.map λv=>iV (aE g b v)
theorem j' (g:Gr) (b:Pt):(ie g b).length=b.v.length:=by simp[ie]
theorem Mk (hi:i<b.v.length):(ie g b).getD i []=iV (aE g b (b.v.getD i 0)):=by simp[ie,Qi,hi]
theorem Ns (hi:i<b.v.length):(ie g b).take (i+1)=(ie g b).take i++[iV (aE g b (b.v.getD i 0))]:=by
 have sS:i<(ie g b).length:=by rw[j'];exact hi
 rw[List.take_succ_eq_append_getElem sS,<-Mk hi];simp[Qi,sS]
theorem si:∀ (l:List Nat) (i:Nat),(∀ x∈l,0<x)->dF (l.take i)<=dF l
 | [],i,_=>by simp
 | x :: l,0,h=>vB h
 | x :: l,i+1,h=>Nat.mul_le_mul_left _ (si l i λy hy=>h y (Qd _ hy))
theorem CF {l:List Nat} (hx:x∈l) (h:∀ x∈l,0<x):x<=dF l:=by
 induction l with
 | nil=>cases hx
 | cons y l ih =>
  have h1:=vB (l:=l) λy hy=>h y (Qd _ hy);rcases Qv.1 hx with r | r
  ·rw[r];exact Nat.le_mul_of_pos_right _ h1
  exact Qa (ih r λy hy=>h y (Qd _ hy)) (Nat.le_mul_of_pos_left _ (h y (by simp)))
theorem uf (g:Gr) (b:Pt):∀ x∈fQ g b,0<x:=λx hx=>by
 obtain⟨v,-,rfl⟩:=Qq.1 hx;exact pF _
theorem Na {l:List Int} (hm:m∈iV l):(∀ x∈m,x∈l)/\m.length=l.length:=by
 by_cases h:l=[]
 ·subst h
  have:m=[]:=by simpa[iV,eZ] using hm
  subst this;exact⟨by simp,rfl⟩
 have hl:=Qn.2 h;exact zU (by omega) hm
end Plain
theorem Gi (v:Value) (l:List Int) (w:World) (hf:fact (l.length - 1)<=100000) (Eb:l.length<4294967296) (h:aI w v l) :
  Calls Tryz.prog 72 #[v] w λe w'=>∃ ov vs,e=.returned ov/\eS w' w.heap.size ov vs (iV l)/\ai [] w w':=by
 have fx:∀ m∈iV l,(∀ x∈m,bF x)/\m.length<4294967296:=λm hm=>by
  obtain⟨h1,h2⟩:=Na hm;obtain⟨-,-,-,h3,-⟩:=h;exact⟨λx hx=>h3 x (h1 x hx),by omega⟩
 rcases Nat.eq_zero_or_pos l.length with q | q
 ·refine (xh v l w (by omega) h).mono ?_
  rintro e w' ⟨ov,vs,rfl,h1,h2⟩;have e1:iV l=[l]:=by
   unfold iV;rw[q];rfl
  exact⟨ov,vs,rfl,by rw[e1] at fx ⊢;exact h1.toK fx,h2⟩
 refine (zG (l.length - 1) v l w (by omega) hf h).mono ?_;rintro e w' ⟨ov,vs,rfl,h1,h2⟩;exact⟨ov,vs,rfl,bt.toK h1 fx,h2⟩
theorem Hs (vg vp:Value) (g:Gr) (p:Pt) (w:World) (mE:p.e.length<=1000) (Dl:p.v.length<=1000) (bn:p.v≠[]) (Bz:ou g p<=5000) (hr:p.err g=0) (hg:cA w vg g) (hp:dt w vp p) :
  Calls Tryz.prog 35 #[vg,vp] w λe w'=>∃ ov ms,e=.returned ov/\dJ w' w.heap.size ov ms (kh g p)/\ai [] w w':=by
 have uu:=lh hr;have fR:=Pt.ax hr;have IQ:=lh fR.vr;have HVN:=lh fR.vn;have fB:=lh (Gr.aF (Pt.aF hr).1);obtain⟨N,hN⟩:∃ N:Nat,g.n=N:=⟨g.n.toNat,by have:=fB.out.1;omega⟩;have HN:=lh hN;have hNl:N<=1024:=by have:=fB.out.2.1;omega
 rw[nB] at Bz;have HAL:=lh Bz;have jq:=lh (Qn.2 bn);have DY:=lh (λv=>show (aE g p v).length<=2000 by
  have h2:=ct p;have h3:(aE g p v).length<=p.ah.length:=Qk _ _;omega)
 clear hr fR hN Bz bn;obtain⟨eo,cap,ao,ac,bo,bc,rfl,rfl,HG,HP,hm,uJ,oJ,pU,nG,xL,uD,aY,bm⟩:=eF hg hp;clear hg hp;obtain⟨x0,x1,y0,y1,bs⟩:=bm.out _ (ai.refl _ _);go_enter Tryz.func35,Tryz.ntmps35;go_wp2_with fail;obtain⟨w1,gu⟩:∃ w1,((w.alloc (.cells #[.int .i64 g.n,.slice eo g.e.length cap] 24)).alloc (.cells #[.slice ao p.v.length ac,.slice bo p.e.length bc] 27))=w1:=⟨_,rfl⟩;rw[gu] at aY bm ⊢;clear gu x0 x1 y0 y1 bs;go_loopw [5,6,7,8] (λlv tv c _ wr=>∃ (i:Nat) (ms:List Value),i<=p.v.length/\c=.int .i64 i/\tv=.int .i64 (dF ((fQ g p).take i):Nat)/\dJ wr w1.heap.size lv ms ((ie g p).take i)/\ai [] w1 wr) (λ_ _ c _ _=>p.v.length - (intOf c).toNat);case atStart=>exact⟨0,[],Ql _,rfl,rfl,dJ.nil _ _,ai.refl _ _⟩
 case round =>
  obtain⟨i,ms,hi,rfl,rfl,hls,hc⟩:=hrel;have HC:=lh hc;have Xv:=lh hls;have uF:=lh (Qa (si (fQ g p) i (uf g p)) HAL.out);obtain⟨x0,x1,y0,y1,bs⟩:=bm.out _ hc;obtain⟨lo,lc,rfl⟩:=bR hls.out;have qY:=lh (show ms.length=i by rw[hls.len,List.length_take,j'];omega);clear hc hls;by_cases aW:i<p.v.length
  ·obtain⟨ab,lH,rfl,KX⟩:=pU.out (by intro q;rw[q] at aW;simp at aW)
   have HVC:=lh (KX i aW);have qO:=lh (BB (g:=g) aW);have amn:=lh (Qa (si (fQ g p) (i+1) (uf g p)) HAL.out);have Nj:=lh (Ns (g:=g) aW);have Ps:fact ((aE g p (p.v.getD i 0)).length - 1)<=5000:=by
    refine Qa (CF (l:=fQ g p) ?_ (uf g p)) HAL.out;rw[<-Dq aW];simp[Qi,show i<(fQ g p).length by rw[pV];exact aW]
   have H9:=lh Ps;have UM:=lh (sr (aE g p (p.v.getD i 0)));have E6:=DY.out (p.v.getD i 0);have vc:=(aY.out.tr HC.out).bO HVC.out;generalize p.v.getD i 0=v at *;have U6:=lh E6;have PH:=lh (show dF ((fQ g p).take i)*fact ((aE g p v).length - 1)<=5000 by rw[<-qO.out];exact amn.out);have hP:=uF.out;generalize dF ((fQ g p).take i)=P at *;clear KX Ps E6;go_wp2;have aG:ai [] wr wr.drew:=(ai.refl [] wr).drew;refine al (ai [] wr) [0,1,2,3,4,5,6] (Way.line [0,1,2,3,4,5,6,7,8,9] .done) (by kernel_rfl) (by kernel_rfl) ?_;simp only[Way.line]
   repeat (refine aj (v:=?_) rfl (by rfl) (by rfl) (λ_ _ _ h=>h) aG (λw' aB=>?_) ?_;rotate_left;(focus (have fE:=aB.c x0;have fV:=aB.c x1;have kD:=aB.c y0;have tq:=aB.c y1;have MD:=aB.c vc;clear aB;go_simp;try with_reducible rfl));simp only[Qb,Z1,Z2,Z3,Z4,Z5,Z6])
   refine aq rfl (by rfl) (by rfl) (λK hK=>?_);go_simp;refine (ng _ _ g p v _ (by omega) uu.out (HG.out.fresh (aY.out.tr (HC.out.tr aG))) (HP.out.fresh (aY.out.tr (HC.out.tr aG)))).mono ?_;rintro e w3 ⟨dv,rfl,Pj,eV⟩;have bH:=aG.t eV;clear aG eV;have aG:=bH;clear bH;refine hK.out _ _ (λ_=>aG) ?_;clear hK K;try simp only[Qb,Z1,Z2,Z3,Z4,Z5,Z6]
   have HDR:=lh Pj;have wK:=lh (Qa HC.out.size aG.size);obtain⟨do_,dc,rfl⟩:=Pj.shape;refine aq rfl (by rfl) (by rfl) (λK hK=>?_);go_simp;refine (Gi _ _ _ (by have:=H9.out;omega) (by have:=U6.out;omega) HDR.out.ints).mono ?_;rintro e w4 ⟨mv,vs,rfl,hmv,eV⟩;have bH:=aG.t eV;clear aG eV;have aG:=bH;clear bH;refine hK.out _ _ (λ_=>aG) ?_;clear hK K;try simp only[Qb,Z1,Z2,Z3,Z4,Z5,Z6]
   have HMV:=lh hmv;obtain⟨mo,mc,rfl⟩:=hmv.shape;refine aq rfl (by rfl) (by rfl) (λK hK=>?_);go_simp;refine hK.out _ _ (λh=>absurd h (Qh.1 (by kernel_rfl))) ?_;clear hK K;try simp only[Qb,Z1,Z2,Z3,Z4,Z5,Z6]
   refine ar ?_;have YP:=lh aG;have eW:=lh (HC.out.tr aG);clear Pj hmv aG x0 x1 y0 y1 vc bs;obtain⟨g5,q5,w5,nf,ai9,dV,-⟩:=EI (Xv.out.fresh YP.out) eW.out.size (HMV.out.base wK.out) (by have:=qY.out;omega) (Or.inl rfl) 44;have anC:=lh ai9;have fG:=lh (eW.out.trans dV (λj hj=>Qw ((Xv.out.fresh YP.out).out.lt j (by simpa using hj)).1));rw[UM.out] at nf ⊢;generalize fact ((aE g p v).length - 1)=fk at *;have hle:=PH.out;have azc:(P:Int)*(fk:Int)<=5000:=by rw[<-Qt];omega
   have ayO:(0:Int)<=(P:Int)*(fk:Int):=by rw[<-Qt];omega
   clear ai9 dV;go_wp2_with (at_builtin;refine mK rfl (.tmp 30) (.tmp 32) 44 rfl rfl rfl nf ?_);go_roundw;case rel=>exact⟨i+1,_,by omega,by go_num,by rw[qO.out];go_num,by rw[Nj.out];exact anC.out,fG.out⟩
   case measure=>simp[intOf];omega
  have e:i=p.v.length:=by omega
  subst e;have afb:=lh (show (fQ g p).take p.v.length=fQ g p from Qj (by rw[pV];exact Qf _));have UM:=lh (show (ie g p).take p.v.length=ie g p from Qj (by rw[j'];exact Qf _));rw[UM.out] at Xv;rw[afb.out];have hT:dF (fQ g p)<=5000:=HAL.out;have HTA:=lh (nB g p);rw[<-HTA.out] at hT ⊢;obtain⟨T,hTT⟩:∃ T,ou g p=T:=⟨_,rfl⟩;have Pr:=lh hTT;rw[hTT] at hT ⊢;have HLB:=lh (show ∃ lb,lo=some ⟨lb,0,none⟩/\w1.heap.size<=lb from by
   rcases Xv.out.out.2 with ⟨q,h0⟩ | ⟨g1,cp,cur,q,h1,-⟩
   ·have:=qY.out;have:=jq.out;omega
   simp only[Qg.injEq] at q;exact⟨g1,q.1,h1⟩)
  obtain⟨lb,rfl,Yi⟩:=HLB.out;have axI:=lh Yi;rw[qY.out] at Xv ⊢;have uk:=lh (show p.v.length<=1000 from Dl);clear aW hi hTT Yi HLB uF afb HTA;rename World=>wL;go_wp2_with fail;clear x0 x1 y0 y1 bs;go_loopw [9,10,11,12,13] (λov c _ _ _ wr=>∃ (n:Nat) (ms2:List Value),n<=T/\c=.int .i64 n/\dJ wr w1.heap.size ov ms2 (sk g p n)/\dJ wr w1.heap.size (.slice (some ⟨lb,0,none⟩) p.v.length lc) ms (ie g p)/\ov.ownBlock≠some lb/\ai [] w1 wr) (λ_ c _ _ _ _=>T - (intOf c).toNat);case atStart=>exact⟨0,[],Ql _,rfl,dJ.nil _ _,Xv.out,by simp[Qm],HC.out⟩
  case round =>
   obtain⟨n,ms2,hn,rfl,Wk,ae9,fy,bI⟩:=hrel;have It:=lh ae9;have UX:=lh Wk;have tD:=lh fy;have bU:=lh bI;have sY:=lh (show ms2.length<=n by rw[Wk.len];exact Kb _ _ _);obtain⟨oo2,oc2,rfl⟩:=bR Wk.out;obtain⟨x0,x1,y0,y1,bs⟩:=bm.out _ bI;clear ae9 Wk fy bI;by_cases hnl:n<T
   ·generalize wr=wq at *
    obtain⟨tb,TK⟩:∃ b,wq.heap.size=b:=⟨_,rfl⟩;have HTB:=lh TK;go_wp2_with (at_make;refine Ee qq rfl _ _ rfl (B:=w1.heap.size) (n:=N) (by show Qy .i64 g.n=_;rw[HN.out]) (by show Qy .i64 g.n=_;rw[HN.out]) bU.out.size (by omega) ?_;intro w5 NN dV;have CP:=lh (eS.made NN);have fG:=lh dV;have y0':=dV.bO y0;rw[TK] at CP ⊢;clear NN dV TK y0 y1 x0 x1 bs);have YQ:=lh (λi (hi:i<p.v.length)=>show ((rF (ie g p).reverse n).reverse).getD i []=((ie g p).getD i []).getD (kp (ie g p).reverse (p.v.length - 1 - i) n % ((ie g p).getD i []).length) [] from by
     have hl:(ie g p).reverse.length=p.v.length:=by rw[List.length_reverse,j']
     have hr:((ie g p).reverse).getD (p.v.length - 1 - i) []=(ie g p).getD i []:=by
      rw[pa (by rw[j'];omega),j'];congr 1;omega
     rw[pa (by rw[vu,hl];omega),vu,hl,LO (by omega),hr])
    have HRS:=lh (λi (hi:i<p.v.length)=>show kp (ie g p).reverse (p.v.length - i) n=kp (ie g p).reverse (p.v.length - (i+1)) n / ((ie g p).getD i []).length from by
     have hr:((ie g p).reverse).getD (p.v.length - 1 - i) []=(ie g p).getD i []:=by
      rw[pa (by rw[j'];omega),j'];congr 1;omega
     obtain⟨m,hm⟩:∃ m,p.v.length - i=m+1:=⟨p.v.length - i - 1,by omega⟩;rw[hm,show p.v.length - (i+1)=m by omega,<-hr,show p.v.length - 1 - i=m by omega];rfl)
    have AU:=lh (λm=>Cw (ie g p).reverse m n);have HWN:=lh (show vM g p n=uQ N p.v (rF (ie g p).reverse n).reverse by
     show uQ g.n.toNat _ _=_;rw[HN.out];rfl)
    generalize (rF (ie g p).reverse n).reverse=rows at *;have HOR:=lh (λi (hi:i<p.v.length)=>show 0<((ie g p).getD i []).length/\((ie g p).getD i []).length<=5000 from by
     rw[Mk hi,sr];refine⟨pF _,Qa (CF (l:=fQ g p) ?_ (uf g p)) HAL.out⟩;rw[<-Dq hi];simp[Qi,show i<(fQ g p).length by rw[pV];exact hi])
    go_wp2_with fail;clear y0';go_loopw [12,13] (λJk c13 wi=>∃ (j:Nat) (aO:List Value),j<=p.v.length/\c13=.int .i64 ((j:Int) - 1)/\Jk=.int .i64 (kp (ie g p).reverse (p.v.length - j) n:Nat)/\eS wi w1.heap.size (.slice (some ⟨tb,0,none⟩) N N) aO (mB N p.v rows j)/\ai [] wq wi) (λ_ c _=>(intOf c+1).toNat);case atStart=>exact⟨p.v.length,_,Qf _,by go_num,by rw[Nat.sub_self];rfl,by rw[EU];exact CP.out,fG.out⟩
    case round =>
     obtain⟨j,aO,hj,rfl,rfl,JC,dK⟩:=hrel;have U9:=lh JC;have b8:=lh dK;have HVV:=lh (show aO.length=N by rw[JC.len,KD]);have xa:=lh (bU.out.tr dK);obtain⟨x0,x1,y0,y1,bs⟩:=bm.out _ xa.out;clear JC dK;cases j with
     | zero =>
      rw[JF,<-HWN.out] at U9;have HTL:=lh (λv=>show (ay (vM g p n) v).length<4294967296 from by
       unfold ay;by_cases q:v.toNat<aO.length
       ·exact (U9.out.rows v.toNat q).2.2
       have:=U9.out.len;rw[Qi,List.getElem?_eq_none (by omega)];decide)
      have HWX:=lh (GW g p n);have aoj:=lh U9.out.read;have Xx:g.e.length<4294967296:=by have:=fB.out.1;have:=fB.out.2.2.1;omega
      rw[show ((0:Nat):Int) - 1 = -1 from rfl];go_wp2_with fail;refine (Bd _ _ _ g p (vM g p n) _ mE Dl Xx HTL.out (HG.out.fresh (aY.out.tr xa.out)) (HP.out.fresh (aY.out.tr xa.out)) aoj.out).mono ?_;rintro e w7 ⟨rfl,hc7⟩;have oT:=lh (b8.out.tr hc7);have aas:=lh (xa.out.tr hc7);have aml:=lh (U9.out.fresh hc7);clear hc7 x0 x1 y0 y1 bs;by_cases A8:dA g p (vM g p n)=0
      ·rw[if_pos A8] at HWX
       rw[show decide (dA g p (vM g p n)=0)=true from decide_eq_true A8];have mD:=sY.out;obtain⟨g8,q8,w8,LF,ahu,su,hg8⟩:=EI (UX.out.fresh oT.out) aas.out.size aml.out (by omega) (Or.inl rfl) 44;have anW:=lh ahu;have DG:=lh (aas.out.trans su (λj hj=>Qw ((UX.out.out.lt j (by simpa using hj)).1)));have HL8:=lh ((It.out.fresh oT.out).ON su (λb hb q=>tD.out (by
        have e:lb=b:=by simpa[Qm] using hb
        rw[e];simpa using q)) (λj hj=>by
        have hk:=bM (UX.out.fresh oT.out).out (b:=j) (by simpa using hj);exact⟨λq=>hk.ne q (by decide) rfl,λq=>hk.ne q (by decide) rfl⟩))
       have HG8:=lh (show (Qg (some ⟨g8,0,none⟩) (ms2.length+1) q8).ownBlock≠some lb from λq=>by
        have e:g8=lb:=by simpa[Qm] using q
        subst e;rcases hg8 with r | r
        ·exact tD.out r
        have h1:=jR It.out.out (b:=g8) rfl;have h2:=oT.out.size;omega)
       clear ahu su hg8 A8;go_wp2_with (at_builtin;refine mK rfl (.tmp 86) (.tmp 88) 44 rfl rfl rfl LF ?_);go_roundw;case rel=>exact⟨n+1,_,by omega,by go_num,by rw[HWX.out];exact anW.out,HL8.out,HG8.out,DG.out⟩
       case measure=>simp[intOf];omega
      rw[if_neg A8,List.append_nil] at HWX;rw[show decide (dA g p (vM g p n)=0)=false from decide_eq_false A8];clear A8;go_wp2;go_roundw;case rel=>exact⟨n+1,ms2,by omega,by go_num,by rw[HWX.out];exact UX.out.fresh oT.out,It.out.fresh oT.out,tD.out,aas.out⟩
      case measure=>simp[intOf];omega
     | succ i =>
      have lK:i<p.v.length:=by omega
      obtain⟨ab,lH,rfl,KX⟩:=pU.out (by intro q;rw[q] at lK;simp at lK);have KX:=(aY.out.tr xa.out).bO (KX i lK);have NW:=IQ.out _ (aQ lK);obtain⟨x,hx⟩:∃ x:Nat,p.v.getD i 0=(x:Int):=⟨(p.v.getD i 0).toNat,by omega⟩;have hxN:x<N:=by have:=HN.out;omega
      have Ek:=lh (FD (N:=N) (rows:=rows) lK hx HVN.out);rw[hx] at KX;have yJ:=It.out.fresh b8.out;have UQ:=yJ.cell (k:=i) (by rw[qY.out];exact lK);obtain⟨vs,hvs⟩:=yJ.rows i (by rw[qY.out];exact lK);obtain⟨hM0,hM1⟩:=HOR.out i lK;have aiP:=lh (YQ.out i lK);have anP:=lh (HRS.out i lK);rw[show p.v.length - 1 - i=p.v.length - (i+1) by omega] at aiP;have Bw:kp (ie g p).reverse (p.v.length - (i+1)) n<=n:=AU.out _;generalize kp (ie g p).reverse (p.v.length - (i+1)) n=r at *;generalize ms.getD i undef=mi at *;generalize (ie g p).getD i []=M at *;have Cl:vs.length=M.length:=hvs.len;obtain⟨mb,mc,rfl⟩:∃ mb mc,mi=.slice (some ⟨mb,0,none⟩) M.length mc:=by
       rcases hvs.out.2 with ⟨-,h0⟩ | ⟨g1,cp,cur,h1,-⟩
       ·omega
       exact⟨g1,cp,by rw[h1,Cl]⟩
      have U0:r % M.length<M.length:=Nat.mod_lt _ hM0;have agF:=hvs.cell (k:=r % M.length) (by omega);have aT:=hvs.rows (r % M.length) (by omega);have q1:Int.tmod (r:Int) (M.length:Int)=((r % M.length:Nat):Int):=by rw[Int.tmod_eq_emod_of_nonneg (by omega)];rfl
      have q2:Int.tdiv (r:Int) (M.length:Int)=((r / M.length:Nat):Int):=by rw[Int.tdiv_eq_ediv_of_nonneg (by omega)];rfl
      have Ue:r / M.length<=r:=Qs _ _;generalize r % M.length=ri at *;generalize r / M.length=rd at *;generalize vs.getD ri undef=rv at *;generalize M.getD ri []=row at *;have bA:=lh aT;obtain⟨ro,rc,rfl⟩:=aT.shape;have wri:IntKind.i64.wrap (ri:Int)=ri:=IntWalk.i64_in _ (by omega);have wrd:IntKind.i64.wrap (rd:Int)=rd:=IntWalk.i64_in _ (by omega);have hMn:¬ M=[]:=λq=>by rw[q] at hM0;simp at hM0
      have j6:=(U9.out.fresh (ai.refl _ wr).drew).cell (k:=x) (by rw[HVV.out];exact hxN);have agk:=NC (U9.out.fresh (ai.refl _ wr).drew).out x;have Is:((i+1:Nat):Int) - 1=(i:Int):=by omega
      rw[Is];clear yJ hvs aT hx NW Is hj;go_wp2;have aG:ai [] wr wr.drew:=(ai.refl [] wr).drew;refine al (ai [] wr) [0,1,2,3,4,5,6,7,8,9,10,11,12,13,14,15,16,17,18,19] (Way.line [0,1,2,3,4,5,6,7,8,9,10,11,12,13,14,15,16,17,18,19,20] .done) (by kernel_rfl) (by kernel_rfl) ?_;simp only[Way.line]
      repeat (refine aj (v:=?_) rfl (by rfl) (by rfl) (λ_ _ _ h=>h) aG (λw' aB=>?_) ?_;rotate_left;(focus (have fE:=aB.c x0;have fV:=aB.c y0;have kD:=aB.c y1;have tq:=aB.c KX;have MD:=aB.c UQ;have rd5:=aB.c agF;have rd6:=aB.c j6;clear aB;go_simp;try with_reducible rfl));simp only[Qb,Z1,Z2,Z3,Z4,Z5,Z6])
      refine aq rfl (by rfl) (by rfl) (λK hK=>?_);go_simp;refine hK.out _ _ (λh=>absurd h (Qh.1 (by kernel_rfl))) ?_;clear hK K j6 agk;try simp only[Qb,Z1,Z2,Z3,Z4,Z5,Z6]
      refine ar ?_;have I9:=lh ((U9.out.set (k:=x) (by rw[HVV.out];exact hxN) bA.out).fresh (ai.refl _ _).drew);have ja:=((ai.refl [tb] wr).setCell (p:=⟨tb,x,none⟩) (Or.inl (by simp)) (.slice ro row.length rc)).drew;have HCS:=lh (b8.out.trans ja (λj hj=>Qw (by rw[Qp.1 hj,<-HTB.out];exact Qf _)));have ae2:lb ∉ [tb]:=λq=>by
       have h1:=jR It.out.out (b:=lb) rfl;rw[Qp] at q;have:=HTB.out;omega
      have ayY:=ja.cell UQ ae2;rw[aiP.out] at Ek;rw[<-Ek.out] at I9;generalize (wr.setCell ⟨tb,x,none⟩ (.slice ro row.length rc)).drew=w6 at *;clear aG UQ KX agF x0 x1 y0 y1 bs ja ae2;go_wp2;go_roundw;case rel=>exact⟨i,_,by omega,rfl,by rw[anP.out],I9.out,HCS.out⟩
      case measure=>simp[intOf] <;> omega
   have e:n=T:=by omega
   subst e;have HWR:=lh (show sk g p n=kh g p by rw[<-Pr.out];rfl);have hms:ms2.length<=n:=sY.out;clear hnl hn x0 x1 y0 y1 bs;go_wp2;go_ret;exact⟨_,ms2,rfl,by rw[<-HWR.out];exact UX.out.base aY.out.size,aY.out.tr bU.out⟩
end Go.Proofs.YtoiflofhcmjpoaaGreat
-- READS ONLY
namespace Go.Proofs.YtoiflofhcmjpoaaGreat
open Plain
open Go.RowKit Go.Maps
namespace Plain
variable {g:Gr} {E l:List Int} {v e:Int} {p B:Pt}
noncomputable def cZ (g:Gr) (p:Pt):List Pt:=(vY g p).map λe=>⟨rbV g p e,iK g p e⟩
theorem Cz (h0:0<=v) (h1:v<g.n):v∈jo g E g.n.toNat↔uE g E v:=by
 unfold jo GS;rw[Qe,List.any_eq_true,Qq];constructor
 ·rintro ⟨-,e,he,q⟩
  rw[Qu,decide_eq_true_iff,decide_eq_true_iff] at q;exact⟨e,he,q⟩
 rintro ⟨e,he,q⟩;refine⟨⟨v.toNat,List.mem_range.2 (by omega),by omega⟩,e,he,?_⟩;rw[Qu,decide_eq_true_iff,decide_eq_true_iff];exact q
theorem CB (h0:p.err g=0) (hl:l∈(findAll g p).bl) (he:e∈l):iK g p e=l:=by
 have hp:=Pt.ax h0;have h1:=(kX h0 hl).2;have hr:=bK (Pt.aF h1.1).2.2.1;refine jZ ((bK (Pt.aF h0).2.2.1).filter _) hr λf=>?_
 all_goals grind [iK,RC,Ld]
theorem x5 (h0:p.err g=0) (hl:l∈(findAll g p).bl):jo g l g.n.toNat=(dO g l).v:=by
 have h1:=(kX h0 hl).2;have fR:=Pt.ax h1.1;refine jZ ((Jg _).filter _) (bK (Pt.aF h1.1).2.1) λv=>?_;rw[qF];constructor
 ·intro hv
  have h2:=Qe.1 hv
  grind [Cz]
 intro hv;have h3:=fR.vr v (qF.2 hv)
 grind [Cz]
theorem Tf (h0:p.err g=0) (he:e∈p.e):∃ l∈(findAll g p).bl,e∈l:=by
 have h:=(eP (Pt.ax h0)).mem_iff.2 he;exact List.mem_flatten.1 h
theorem nN (h0:p.err g=0):B∈cZ g p↔B∈gw g p:=by
 rw[iH h0];unfold cZ;rw[Qq];constructor
 ·rintro ⟨e,he,rfl⟩
  obtain⟨l,hl,iM⟩:=Tf h0 (Qe.1 he).1;refine⟨l,hl,?_⟩;unfold rbV;rw[CB h0 hl iM];show (⟨jo g l g.n.toNat,l⟩:Pt)=_;rw[x5 h0 hl];rfl
 rintro ⟨l,hl,rfl⟩;have h1:=(kX h0 hl);obtain⟨e0,l',iM,-⟩:=h1.1.1;have lZ:e0∈l:=by
  grind [dO]
 have ht:=CB h0 hl lZ;refine⟨e0,Qe.2 ⟨h1.2.2.1 e0 lZ,?_⟩,?_⟩
 ·unfold B7
  rw[ht,decide_eq_true_iff];have:(dO g l).e=l:=rfl;rw[this] at iM;rw[iM];rfl
 unfold rbV;rw[ht];show (⟨jo g l g.n.toNat,l⟩:Pt)=_;rw[x5 h0 hl];rfl
theorem lV (h0:p.err g=0) (hB:B∈cZ g p):cg g B/\B.err g=0/\B.e.length<=p.e.length/\B.v.length<=p.v.length/\B.v≠[]:=by
 obtain⟨h1,h2,h3,h4⟩:=rW h0 ((nN h0).1 hB);have fR:=Pt.ax h2;refine⟨h1,h2,bY fR.en h3,xE h2 h4,λq=>?_⟩;obtain⟨⟨e0,l',iM,-⟩,-⟩:=h1;have hd:2*e0∈B.ah:=au.2 (by rw[show 2*e0 / 2=e0 by omega,iM];simp);have:=(fR.aP hd).1
 grind
theorem um:(cZ g p).length<=p.e.length:=by
 grind [cZ,vY]
noncomputable def GI (g:Gr) (p:Pt) (most:Nat):Bool:=(cZ g p).all λB=>decide (je most (dF (fQ g B))<=most)
theorem Lw {most:Nat} (h:GI g p most=true):∀ B∈cZ g p,ou g B<=most:=λB hB=>by
 have:=Qc.1 h B hB;rw[decide_eq_true_iff] at this;rw[nB];unfold je at this;omega
noncomputable def Lh (g:Gr) (p:Pt):Bool:=(cZ g p).all λB=>decide (kh g B≠[])
theorem Tg (h0:p.err g=0):Lh g p=jO g p:=by
 rw[Bool.eq_iff_iff,gy];unfold Lh;rw[Qc];constructor
 ·intro h
  refine⟨h0,λl hl=>?_⟩;have hB:=(nN h0).2 ((iH h0).2 ⟨l,hl,rfl⟩);have h1:=h _ hB;obtain⟨h2,h3,-⟩:=lV h0 hB
  grind [CN]
 rintro ⟨-,h⟩ B hB;obtain⟨h2,h3,-⟩:=lV h0 hB
 grind [iH,nN,CN]
end Plain
theorem sX (vg vp:Value) (g:Gr) (p:Pt) (w:World) (hr:p.err g=0) (hg:cA w vg g) (hp:dt w vp p) :
  Calls Tryz.prog 49 #[vg,vp] w λx w'=>∃ ov,x=.returned ov/\xO w' ov (cZ g p)/\ai [] w w':=by
 refine (JL vg vp g p w hr hg hp).mono ?_;rintro e w' ⟨ov,xs,rfl,hn,hc⟩;obtain⟨uo,uc,rfl⟩:=hn.shape;have hlen:(cZ g p).length=(vY g p).length:=by unfold cZ;simp
 refine⟨_,rfl,⟨uo,uc,by rw[hlen],λi hi=>?_⟩,hc⟩;rw[hlen] at hi;obtain⟨gb,c,va,vc,ea,ec,e1,c1,c2,r1,r2⟩:=uX hn rfl hi;simp only[Qg.injEq] at e1;refine⟨gb,va,_,vc,ea,_,ec,e1.1,c1,c2,?_⟩;have:(cZ g p).getD i ⟨[],[]⟩=⟨rbV g p ((vY g p).getD i 0),iK g p ((vY g p).getD i 0)⟩:=by
  grind [cZ]
 rw[this];exact⟨_,_,rfl,r1.ints,r2.ints⟩
theorem V7 (vg vp:Value) (g:Gr) (p:Pt) (most:Nat) (w:World) (Zq:most<=100000) (dk:p.e.length<=1000) (Dl:p.v.length<=1000) (hr:p.err g=0) (hg:cA w vg g) (hp:dt w vp p) :
  Calls Tryz.prog 13 #[vg,vp,.int .i64 most] w λe w'=>e=.returned (.bool (GI g p most))/\ai [] w w':=by
 have HR:=lh hr;have Ve:=lh (λB hB=>lV (B:=B) hr hB);have Eb:(cZ g p).length<=1000:=Qa um dk;clear hr;obtain⟨eo,cap,ao,ac,bo,bc,rfl,rfl,HG,HP,hm,uJ,oJ,pU,nG,xL,uD,aY,bm⟩:=eF hg hp;clear hg hp;obtain⟨x0,x1,y0,y1,bs⟩:=bm.out _ (ai.refl _ _);go_enter Tryz.func13,Tryz.ntmps13;go_wp2_with fail;obtain⟨w1,gu⟩:∃ w1,((w.alloc (.cells #[.int .i64 g.n,.slice eo g.e.length cap] 24)).alloc (.cells #[.slice ao p.v.length ac,.slice bo p.e.length bc] 27))=w1:=⟨_,rfl⟩;rw[gu] at aY bm ⊢;clear gu x0 x1 y0 y1 bs;refine (sX _ _ g p _ HR.out (HG.out.fresh aY.out) (HP.out.fresh aY.out)).mono ?_;rintro e w2 ⟨ov,rfl,hL,bI⟩;have HL:=lh hL;have bU:=lh bI;obtain⟨lo,lc,rfl,-⟩:=hL;have HF:=lh (show GI g p most=(cZ g p).all λB=>decide (je most (dF (fQ g B))<=most) from rfl);generalize cZ g p=L at *;clear bI;go_wp2_with fail;go_loopw [8] (λc wr=>∃ k:Nat,k<=L.length/\c=.int .i64 k/\Hid (∀ j,j<k->je most (dF (fQ g (L.getD j ⟨[],[]⟩)))<=most)/\ai [] w2 wr) (λc _=>L.length - (intOf c).toNat);case atStart=>exact⟨0,Ql _,rfl,lh (by omega),ai.refl _ _⟩
 case round =>
  obtain⟨k,hk,rfl,HN,hc⟩:=hrel;have HC:=lh hc;have ji:=lh (bU.out.tr hc);obtain⟨x0,x1,y0,y1,bs⟩:=bm.out _ ji.out;by_cases aW:k<L.length
  ·obtain⟨ao',c',e0,hL⟩:=HL.out
   simp only[Qg.injEq] at e0;obtain⟨rfl,-,rfl⟩:=e0;obtain⟨b,v1,n1,d1,v2,n2,d2,rfl,k1,k2,DE⟩:=hL k aW;have e1:=hc.bO k1;have e2:=hc.bO k2;have FN:=lh (DE.fresh hc);obtain⟨-,o2,o3,o4,-⟩:=Ve.out (L.getD k ⟨[],[]⟩) (by grind);have zF:=lh o2;have EC:(L.getD k ⟨[],[]⟩).e.length<=1000:=by grind
   have tX:(L.getD k ⟨[],[]⟩).v.length<=1000:=by grind
   have nj:=lh (show ¬ je most (dF (fQ g (L.getD k ⟨[],[]⟩)))<=most->(L.all λB=>decide (je most (dF (fQ g B))<=most))=false from λh=>Qr.2 ⟨L.getD k ⟨[],[]⟩,by grind,by grind⟩);have oL:=lh (show je most (dF (fQ g (L.getD k ⟨[],[]⟩)))<=most->∀ j,j<k+1->je most (dF (fQ g (L.getD j ⟨[],[]⟩)))<=most from λh j hj=>by
    by_cases e:j=k
    ·rw[e];exact h
    exact HN.out j (by omega))
   generalize L.getD k ⟨[],[]⟩=q at FN nj oL zF EC tX;clear hL k1 k2 DE hc o2 o3 o4;go_wp2;have aG:ai [] wr wr.drew:=(ai.refl [] wr).drew;refine al (ai [] wr) [0,1,2,3,4,5,7,8] (Way.line [0,1,2,3,4,5,7,6,8] .done) (by kernel_rfl) (by kernel_rfl) ?_;simp only[Way.line]
   repeat (refine aj (v:=?_) rfl (by rfl) (by rfl) (λ_ _ _ h=>h) aG (λw' aB=>?_) ?_;rotate_left;(focus (have fE:=aB.c x0;have fV:=aB.c x1;have kD:=aB.c e1;have tq:=aB.c e2;clear aB;go_simp;try with_reducible rfl));simp only[Qb,Z1,Z2,Z3,Z4,Z5,Z6])
   refine aq rfl (by rfl) (by rfl) (λK hK=>?_);go_simp;refine (Gd _ _ g q most _ (by omega) (by omega) Zq zF.out (HG.out.fresh (aY.out.tr (ji.out.tr aG))) (FN.out.fresh aG)).mono ?_;rintro e w3 ⟨rfl,eV⟩;have bH:=aG.t eV;clear aG eV;have aG:=bH;clear bH;refine hK.out _ _ (λ_=>aG) ?_;clear hK K;try simp only[Qb,Z1,Z2,Z3,Z4,Z5,Z6]
   repeat (refine aj (v:=?_) rfl (by rfl) (by rfl) (λ_ _ _ h=>h) aG (λw' aB=>?_) ?_;rotate_left;(focus (have fE:=aB.c x0;clear aB;go_simp;try with_reducible rfl));simp only[Qb,Z1,Z2,Z3,Z4,Z5,Z6])
   refine ar ?_;have b8:=lh (HC.out.tr aG);have gU:=lh (bU.out.tr b8.out);have Ij:je most (dF (fQ g q))<=100001:=by grind [D9]
   generalize je most (dF (fQ g q))=c at *;clear aG x0 x1 y0 y1 bs e1 e2;by_cases kB:c<=most
   ·have HI:=lh (oL.out kB)
    have Is:¬ (most:Int)<(c:Int):=by omega
    have qw:¬ most<c:=by omega
    clear kB;go_wp2;go_roundw;case rel=>exact⟨k+1,by omega,by go_num,HI,b8.out⟩
    case measure=>simp[intOf];omega
   have HI:=lh (nj.out kB);have Is:(most:Int)<(c:Int):=by omega
   have qw:most<c:=by omega
   clear kB;go_wp2;go_ret;exact⟨aM (by rw[HF.out,HI.out]),aY.out.tr gU.out⟩
  have e:k=L.length:=by omega
  subst e;have HI:=lh (show (L.all λB=>decide (je most (dF (fQ g B))<=most))=true from by
   rw[Qc];intro B hB;obtain⟨i,hi,rfl⟩:=Qo hB;have:=HN.out i hi
   grind)
  clear hc;go_wp2;go_ret;exact⟨aM (by rw[HF.out,HI.out]),aY.out.tr ji.out⟩
theorem AQ (vg vp:Value) (g:Gr) (p:Pt) (w:World) (hfw:GI g p 5000=true) (dk:p.e.length<=1000) (Dl:p.v.length<=1000) (hr:p.err g=0) (hg:cA w vg g) (hp:dt w vp p) :
  Calls Tryz.prog 15 #[vg,vp] w λe w'=>e=.returned (.bool (Lh g p))/\ai [] w w':=by
 have HR:=lh hr;have Ve:=lh (λB hB=>lV (B:=B) hr hB);have Eb:(cZ g p).length<=1000:=Qa um dk;have HFW:=lh (Lw hfw);clear hr hfw;obtain⟨eo,cap,ao,ac,bo,bc,rfl,rfl,HG,HP,hm,uJ,oJ,pU,nG,xL,uD,aY,bm⟩:=eF hg hp;clear hg hp;obtain⟨x0,x1,y0,y1,bs⟩:=bm.out _ (ai.refl _ _);go_enter Tryz.func15,Tryz.ntmps15;go_wp2_with fail;obtain⟨w1,gu⟩:∃ w1,((w.alloc (.cells #[.int .i64 g.n,.slice eo g.e.length cap] 24)).alloc (.cells #[.slice ao p.v.length ac,.slice bo p.e.length bc] 27))=w1:=⟨_,rfl⟩;rw[gu] at aY bm ⊢;clear gu x0 x1 y0 y1 bs;refine (sX _ _ g p _ HR.out (HG.out.fresh aY.out) (HP.out.fresh aY.out)).mono ?_;rintro e w2 ⟨ov,rfl,hL,bI⟩;have HL:=lh hL;have bU:=lh bI;obtain⟨lo,lc,rfl,-⟩:=hL;have HF:=lh (show Lh g p=(cZ g p).all λB=>decide (kh g B≠[]) from rfl);generalize cZ g p=L at *;clear bI;go_wp2_with fail;go_loopw [6] (λc wr=>∃ k:Nat,k<=L.length/\c=.int .i64 k/\Hid (∀ j,j<k->kh g (L.getD j ⟨[],[]⟩)≠[])/\ai [] w2 wr) (λc _=>L.length - (intOf c).toNat);case atStart=>exact⟨0,Ql _,rfl,lh (by omega),ai.refl _ _⟩
 case round =>
  obtain⟨k,hk,rfl,HN,hc⟩:=hrel;have HC:=lh hc;have ji:=lh (bU.out.tr hc);obtain⟨x0,x1,y0,y1,bs⟩:=bm.out _ ji.out;by_cases aW:k<L.length
  ·obtain⟨ao',c',e0,hL⟩:=HL.out
   simp only[Qg.injEq] at e0;obtain⟨rfl,-,rfl⟩:=e0;obtain⟨b,v1,n1,d1,v2,n2,d2,rfl,k1,k2,DE⟩:=hL k aW;have e1:=hc.bO k1;have e2:=hc.bO k2;have FN:=lh (DE.fresh hc);obtain⟨-,o2,o3,o4,o5⟩:=Ve.out (L.getD k ⟨[],[]⟩) (by grind);have CP:=lh o5;have HO6:=lh (HFW.out (L.getD k ⟨[],[]⟩) (by grind));clear o5;have zF:=lh o2;have EC:(L.getD k ⟨[],[]⟩).e.length<=1000:=by grind
   have tX:(L.getD k ⟨[],[]⟩).v.length<=1000:=by grind
   have nj:=lh (show ¬ kh g (L.getD k ⟨[],[]⟩)≠[]->(L.all λB=>decide (kh g B≠[]))=false from λh=>Qr.2 ⟨L.getD k ⟨[],[]⟩,by grind,by grind⟩);have oL:=lh (show kh g (L.getD k ⟨[],[]⟩)≠[]->∀ j,j<k+1->kh g (L.getD j ⟨[],[]⟩)≠[] from λh j hj=>by
    by_cases e:j=k
    ·rw[e];exact h
    exact HN.out j (by omega))
   generalize L.getD k ⟨[],[]⟩=q at FN nj oL zF CP HO6 EC tX;clear hL k1 k2 DE hc o2 o3 o4;go_wp2;have aG:ai [] wr wr.drew:=(ai.refl [] wr).drew;refine al (ai [] wr) [0,1,2,3,4,6,7] (Way.line [0,1,2,3,4,5,6,7] .done) (by kernel_rfl) (by kernel_rfl) ?_;simp only[Way.line]
   repeat (refine aj (v:=?_) rfl (by rfl) (by rfl) (λ_ _ _ h=>h) aG (λw' aB=>?_) ?_;rotate_left;(focus (have fE:=aB.c x0;have fV:=aB.c x1;have kD:=aB.c e1;have tq:=aB.c e2;clear aB;go_simp;try with_reducible rfl));simp only[Qb,Z1,Z2,Z3,Z4,Z5,Z6])
   refine aq rfl (by rfl) (by rfl) (λK hK=>?_);go_simp;refine (Hs _ _ g q _ EC tX CP.out HO6.out zF.out (HG.out.fresh (aY.out.tr (ji.out.tr aG))) (FN.out.fresh aG)).mono ?_;rintro e w3 ⟨ov3,ms3,rfl,hls,eV⟩;have bH:=aG.t eV;clear aG eV;have aG:=bH;clear bH;refine hK.out _ _ (λ_=>aG) ?_;clear hK K;try simp only[Qb,Z1,Z2,Z3,Z4,Z5,Z6]
   obtain⟨o3,c3,rfl⟩:=hls.shape
   repeat (refine aj (v:=?_) rfl (by rfl) (by rfl) (λ_ _ _ h=>h) aG (λw' aB=>?_) ?_;rotate_left;(focus (have fE:=aB.c x0;clear aB;go_simp;try with_reducible rfl));simp only[Qb,Z1,Z2,Z3,Z4,Z5,Z6])
   refine ar ?_;have b8:=lh (HC.out.tr aG);have gU:=lh (bU.out.tr b8.out);clear aG x0 x1 y0 y1 bs e1 e2 hls;by_cases kB:kh g q≠[]
   ·have HI:=lh (oL.out kB)
    have qw:¬ kh g q=[]:=kB;have lu:¬ (kh g q).length=0:=by grind
    clear kB;go_wp2;go_roundw;case rel=>exact⟨k+1,by omega,by go_num,HI,b8.out⟩
    case measure=>simp[intOf];omega
   have HI:=lh (nj.out kB);have qw:kh g q=[]:=by grind
   have lu:(kh g q).length=0:=by grind
   clear kB;go_wp2;go_ret;exact⟨aM (by rw[HF.out,HI.out]),aY.out.tr gU.out⟩
  have e:k=L.length:=by omega
  subst e;have HI:=lh (show (L.all λB=>decide (kh g B≠[]))=true from by
   rw[Qc];intro B hB;obtain⟨i,hi,rfl⟩:=Qo hB;have:=HN.out i hi
   grind)
  clear hc;go_wp2;go_ret;exact⟨aM (by rw[HF.out,HI.out]),aY.out.tr ji.out⟩
end Go.Proofs.YtoiflofhcmjpoaaGreat
-- READS ONLY
namespace Go.Proofs.YtoiflofhcmjpoaaGreat
open Plain
open Go.RowKit Go.Maps
namespace Plain
theorem Xy {g:Gr} {p:Pt} (h:GI g p 600=true):GI g p 5000=true:=by
 grind [Lw,GI,nB,je]
end Plain
theorem Bh (vg vp:Value) (g:Gr) (p:Pt) (w:World) (hg:cA w vg g) (hp:dt w vp p) :
  Calls Tryz.prog 3 #[vg,vp] w λe w'=>e=.returned (.bool true)/\ai [] w w':=by
 obtain⟨eo,cap,ao,ac,bo,bc,rfl,rfl,HG,HP,hm,uJ,oJ,pU,nG,xL,uD,aY,bm⟩:=eF hg hp;clear hg hp;obtain⟨x0,x1,y0,y1,bs⟩:=bm.out _ (ai.refl _ _);go_enter Tryz.func3,Tryz.ntmps3;go_wp2_with fail;obtain⟨w1,gu⟩:∃ w1,((w.alloc (.cells #[.int .i64 g.n,.slice eo g.e.length cap] 24)).alloc (.cells #[.slice ao p.v.length ac,.slice bo p.e.length bc] 27))=w1:=⟨_,rfl⟩;rw[gu] at aY bm ⊢;clear gu x0 x1 y0 y1 bs;refine (lP _).mono ?_;rintro e w2 ⟨rfl,bI⟩;have bU:=lh bI;obtain⟨x0,x1,y0,y1,bs⟩:=bm.out _ bU.out;clear bI;go_wp2_with fail;refine (Fj _ _ g p _ (HG.out.fresh (aY.out.tr bU.out)) (HP.out.fresh (aY.out.tr bU.out))).mono ?_;rintro e w3 ⟨rfl,dK⟩;have b8:=lh (bU.out.tr dK);clear x0 x1 y0 y1 bs dK;obtain⟨x0,x1,y0,y1,bs⟩:=bm.out _ b8.out;cases hb:sP g p with
 | false =>
  clear hb;go_wp2_with fail;refine (lP _).mono ?_;rintro e w4 ⟨rfl,gX⟩;have eW:=lh ((aY.out.tr b8.out).tr gX);clear x0 x1 y0 y1 bs gX;go_wp2;go_ret;exact⟨rfl,eW.out⟩
 | true =>
 obtain⟨s1,s2,s3⟩:=JE hb;clear hb;go_wp2_with fail;refine (wD _ _ g p _ (by omega) (by omega) (by omega) (HG.out.fresh (aY.out.tr b8.out)) (HP.out.fresh (aY.out.tr b8.out))).mono ?_;rintro e w4 ⟨rfl,gX⟩;have eW:=lh (b8.out.tr gX);clear x0 x1 y0 y1 bs gX;obtain⟨x0,x1,y0,y1,bs⟩:=bm.out _ eW.out;by_cases h0:p.err g=0
 ·rw[h0]
  have H0:=lh h0;clear h0;go_wp2_with fail;refine (V7 _ _ g p 600 _ (by omega) (by omega) (by omega) H0.out (HG.out.fresh (aY.out.tr eW.out)) (HP.out.fresh (aY.out.tr eW.out))).mono ?_;rintro e w5 ⟨rfl,dV⟩;have fG:=lh (eW.out.tr dV);clear x0 x1 y0 y1 bs dV;obtain⟨x0,x1,y0,y1,bs⟩:=bm.out _ fG.out;cases hf:GI g p 600 with
  | false =>
   clear hf;go_wp2_with fail;refine (lP _).mono ?_;rintro e w6 ⟨rfl,hc6⟩;have fC:=lh ((aY.out.tr fG.out).tr hc6);clear x0 x1 y0 y1 bs hc6;go_wp2;go_ret;exact⟨rfl,fC.out⟩
  | true =>
   have HFW:=lh (Xy hf);have ZY:=lh (Tg H0.out);clear hf;go_upto_region 3 with fail;have aG:ai [] w5 w5.drew:=(ai.refl [] w5).drew;refine al (ai [] w5) [0,1,3,4,6] (Way.line [0,1,3,4,2,5,6,7] .done) (by kernel_rfl) (by kernel_rfl) ?_;simp only[Way.line]
   repeat (refine aj (v:=?_) rfl (by rfl) (by rfl) (λ_ _ _ h=>h) aG (λw' aB=>?_) ?_;rotate_left;(focus (have fE:=aB.c x0;have fV:=aB.c x1;have kD:=aB.c y0;have tq:=aB.c y1;clear aB;go_simp;try with_reducible rfl));simp only[Qb,Z1,Z2,Z3,Z4,Z5,Z6])
   refine aq rfl (by rfl) (by rfl) (λK hK=>?_);go_simp;refine (lA _ _ g p _ (by omega) (by omega) (HG.out.fresh (aY.out.tr (fG.out.tr aG))) (HP.out.fresh (aY.out.tr (fG.out.tr aG)))).mono ?_;rintro e w6 ⟨rfl,eV⟩;have bH:=aG.t eV;clear aG eV;have aG:=bH;clear bH;refine hK.out _ _ (λ_=>aG) ?_;clear hK K;try simp only[Qb,Z1,Z2,Z3,Z4,Z5,Z6]
   refine aq rfl (by rfl) (by rfl) (λK hK=>?_);go_simp;refine (AQ _ _ g p _ HFW.out (by omega) (by omega) H0.out (HG.out.fresh (aY.out.tr (fG.out.tr aG))) (HP.out.fresh (aY.out.tr (fG.out.tr aG)))).mono ?_;rintro e w7 ⟨rfl,eV⟩;have bH:=aG.t eV;clear aG eV;have aG:=bH;clear bH;refine hK.out _ _ (λ_=>aG) ?_;clear hK K;try simp only[Qb,Z1,Z2,Z3,Z4,Z5,Z6]
   rw[ZY.out]
   repeat (refine aj (v:=?_) rfl (by rfl) (by rfl) (λ_ _ _ h=>h) aG (λw' aB=>?_) ?_;rotate_left;(focus (have fE:=aB.c x0;clear aB;go_simp;try with_reducible rfl));simp only[Qb,Z1,Z2,Z3,Z4,Z5,Z6])
   refine aq rfl (by rfl) (by rfl) (λK hK=>?_);go_simp;refine hK.out _ _ (λh=>absurd h (Qh.1 (by kernel_rfl))) ?_;clear hK K;try simp only[Qb,Z1,Z2,Z3,Z4,Z5,Z6]
   refine ar ?_;have oT:=lh (fG.out.tr aG);clear aG x0 x1 y0 y1 bs;go_wp2;go_ret;exact⟨aM (by simp),aY.out.tr oT.out⟩
 have H':(p.err g != 0)=true:=by simpa using h0
 have iz:¬ p.err g=0:=h0;go_wp2_with fail;refine (lP _).mono ?_;rintro e w6 ⟨rfl,hc6⟩;have fC:=lh ((aY.out.tr eW.out).tr hc6);clear x0 x1 y0 y1 bs hc6;go_wp2;go_ret;exact⟨rfl,fC.out⟩
