/- ref07: the contracts of Corner, Genus, Sphere. Conditions: a graph, a part, turns that lie in memory and read so, of a bounded size. -/
import Derived.Test.YtoiflofhcmjpoaaGreatF9RegP
set_option maxRecDepth 100000
set_option maxHeartbeats 8000000
open List renaming length_filter_le→Qa,take_length→Qb,getD→Qd,mem_map→Qf
open Nat renaming zero_le→Qc,le_trans→Qg
open Go.Act renaming put→Qe
open Go.Value renaming slice→Qh
-- READS ONLY
namespace Go.Proofs.YtoiflofhcmjpoaaGreat
open Plain
open Go.RowKit Go.Maps
namespace Plain
theorem zZ {g:Gr} {p:Pt} {aa:List (List Int)} {W:List bP} (dk:p.err g=0) (hW:cN g p aa W) {f:bP} (hf:f∈W) :
  (f.2=[]/\-2048<f.1/\f.1<0/\f.cu g = -1 - f.1)\/∃ (d:Nat) (l:List Int),f.1=(d:Int)/\f.2=(d:Int) :: l/\(d:Int)∈p.ah/\d / 2<g.e.length/\d<2048/\f.cu g=g.tail d:=by
 obtain⟨F,e,hT⟩:=hW.split;rw[e] at hf;rcases List.mem_append.1 hf with q | q
 ·obtain⟨v,hv,rfl⟩:=Qf.1 q
  have hv:=List.mem_reverse.1 (List.mem_filter.1 hv).1;have h1:=(Pt.ax dk).vr v hv;have h2:=(Gr.aF (Pt.aF dk).1).2.1;exact Or.inl ⟨rfl,by show -2048 < -1 - v;omega,by show -1 - v<0;omega,rfl⟩
 obtain⟨l,hl⟩:=hT.key f q;have hd:f.1∈p.ah:=hT.sub _ (List.mem_flatten.2 ⟨f.2,Qf.2 ⟨f,q,rfl⟩,by rw[hl];simp⟩);obtain⟨d,Re,oF,hd3⟩:=Pt.pd dk hd;refine Or.inr ⟨d,l,Re,by rw[hl,Re],by rw[<-Re];exact hd,oF,hd3,?_⟩;unfold bP.cu;rw[hl];show g.tail f.1=_;rw[Re]
end Plain
theorem AR (vg:Value) (g:Gr) (key:Int) (u:Value) (w:World) (hk:-2048<key/\key<0) (h:cA w vg g) :
  Calls Tryz.prog 86 #[vg,.agg #[.int .i64 key,u]] w λe w'=>e=.returned (.int .i64 (-1 - key))/\ai [] w w':=by
 obtain⟨eo,cap,rfl,-,-,-,-⟩:=h;have aY:=lh (((ai.refl [] w).alloc (.cells #[.int .i64 g.n,.slice eo g.e.length cap] 24)).alloc (.cells #[.int .i64 key,u] 119));have b1:decide (key<0)=true:=decide_eq_true hk.2;have w1:IntKind.i64.wrap (-1 - key) = -1 - key:=IntWalk.i64_in _ (by omega);go_enter Tryz.func86,Tryz.ntmps86;go_wp2;go_ret;exact⟨rfl,aY.out⟩
theorem x9 (vg:Value) (g:Gr) (d:Nat) (u:Value) (w:World) (hd:d / 2<g.e.length) (hm:g.e.length<4294967296) (h:cA w vg g) :
  Calls Tryz.prog 86 #[vg,.agg #[.int .i64 d,u]] w λe w'=>e=.returned (.int .i64 (g.tail d))/\ai [] w w':=by
 have HG:=lh h;obtain⟨eo,cap,rfl,-,-,-,aS⟩:=h;have aY:=lh (((ai.refl [] w).alloc (.cells #[.int .i64 g.n,.slice eo g.e.length cap] 24)).alloc (.cells #[.int .i64 d,u] 119));have b1:decide ((d:Int)<0)=false:=decide_eq_false (by omega);clear aS;go_enter Tryz.func86,Tryz.ntmps86;go_wp2_with fail;refine (Av _ g d _ hd hm (HG.out.fresh aY.out)).mono ?_;rintro e w2 ⟨rfl,bI⟩;have gU:=lh (aY.out.tr bI);clear bI;go_wp2;go_ret;exact⟨rfl,gU.out⟩
theorem Bf (vg:Value) (g:Gr) (p:Pt) (aa:List (List Int)) (f:bP) (u:Value) (w:World) (dk:p.err g=0) (hW:cN g p aa (bZ g p aa)) (hf:f∈bZ g p aa) (h:cA w vg g) :
  Calls Tryz.prog 86 #[vg,.agg #[.int .i64 f.1,u]] w λe w'=>e=.returned (.int .i64 (f.cu g))/\ai [] w w':=by
 have EX:=Gr.aF (Pt.aF dk).1;rcases zZ dk hW hf with ⟨-,h2,h3,h4⟩ | ⟨d,l,h1,-,-,h2,h3,h4⟩
 ·rw[h4]
  exact AR vg g f.1 u w ⟨h2,h3⟩ h
 rw[h4,h1];exact x9 vg g d u w h2 (by omega) h
namespace Plain
variable {g:Gr} {p:Pt}
noncomputable def iA (g:Gr) (p:Pt) (W:List bP) (r:Int) (k:Nat):Int:=2 - ((comp g p r).length:Int)+(((p.sub g (comp g p r)).e).length:Int) - (((W.take k).filter λf=>decide (f.cu g∈comp g p r)).length:Int)
theorem EY (g:Gr) (p:Pt) (W:List bP) (r:Int):iA g p W r 0=2 - ((comp g p r).length:Int)+(((p.sub g (comp g p r)).e).length:Int):=by simp[iA]
theorem Fp {W:List bP} {r:Int} {k:Nat} (hk:k<W.length):iA g p W r (k+1)=if (W.getD k (0,[])).cu g∈comp g p r then iA g p W r k - 1 else iA g p W r k:=by
 unfold iA;rw[OM hk,List.filter_append,List.length_append];by_cases h:(W.getD k (0,[])).cu g∈comp g p r
 ·rw[if_pos h,List.filter_cons_of_pos (by simpa using h)];simp;omega
 rw[if_neg h,List.filter_cons_of_neg (by simpa using h)];simp
theorem JY (h:aD g p) (W:List bP) (r:Int):(iA g p W r W.length).tdiv 2=dC g p W r:=by
 unfold iA dC;rw[Qb,O6 h]
theorem OS (g:Gr) (p:Pt) (W:List bP) (r:Int) (k:Nat):-(p.v.length:Int) - W.length<=iA g p W r k/\iA g p W r k<=2+p.e.length:=by
 unfold iA;have h1:=GJ g p r;have h2:(p.sub g (comp g p r)).e.length<=p.e.length:=Qa _ _;have h3:=Qa (λf=>decide (bP.cu g f∈comp g p r)) (W.take k);have h4:(W.take k).length<=W.length:=by rw[List.length_take];omega
 omega
end Plain
theorem DS (vg vp vt:Value) (g:Gr) (p:Pt) (aa:List (List Int)) (w:World) (mE:p.e.length<=1000) (Dl:p.v.length<=1000) (dk:p.err g=0) (kq:aK g p aa) (hW:cN g p aa (bZ g p aa)) (qX:∀ v,(ay aa v).length<4294967296) (hg:cA w vg g) (hp:dt w vp p) (ht:fY w vt aa) :
  Calls Tryz.prog 121 #[vg,vp,vt] w λe w'=>∃ ov,e=.returned ov/\aw w' w.heap.size ov ((roots g p).map (dC g p (bZ g p aa)))/\ai [] w w':=by
 have HT:=lh ht;have uu:=lh dk;have UC:=lh kq;have AU:=lh qX;have HW:=lh hW;have Ip:=lh (Pt.ax dk);have hwl:=hW.len;have acf:(roots g p).length<=1000:=by rw[<-pT];exact Qg (pB g p _) Dl
 clear dk kq qX hW;obtain⟨eo,cap,ao,ac,bo,bc,rfl,rfl,HG,HP,hm,uJ,oJ,pU,nG,xL,uD,aY,bm⟩:=eF hg hp;clear hg hp;obtain⟨Y2,tc,rfl,Aw,-⟩:=ht;obtain⟨x0,x1,y0,y1,bs⟩:=bm.out _ (ai.refl _ _);go_enter Tryz.func121,Tryz.ntmps121;go_wp2_with fail;refine (D' _ _ _ g p aa _ (by omega) (by omega) uu.out UC.out AU.out (HG.out.fresh aY.out) (HP.out.fresh aY.out) (HT.out.fresh aY.out)).mono ?_;rintro e w2 ⟨wv,wx,rfl,hnw,bI⟩;obtain⟨w1,gu⟩:∃ w1,((w.alloc (.cells #[.int .i64 g.n,.slice eo g.e.length cap] 24)).alloc (.cells #[.slice ao p.v.length ac,.slice bo p.e.length bc] 27))=w1:=⟨_,rfl⟩;rw[gu] at aY bm bI hnw;clear gu x0 x1 y0 y1 bs;have bU:=lh bI;obtain⟨wo,wc,rfl⟩:=hnw.shape;have Py:=lh hnw;obtain⟨x0,x1,y0,y1,bs⟩:=bm.out w2 bI;clear bI hnw;obtain⟨W,hWe⟩:∃ W,bZ g p aa=W:=⟨_,rfl⟩;have HWE:=lh hWe;rw[hWe] at hwl Py HW ⊢;clear hWe;go_wp2_with fail;refine (zo _ _ g p _ (by omega) (by omega) uu.out ((HG.out.fresh aY.out).fresh bU.out) ((HP.out.fresh aY.out).fresh bU.out)).mono ?_;rintro e w3 ⟨pv,px,rfl,Xw,dK⟩;obtain⟨po,pc,rfl⟩:=Xw.shape;have b8:=lh (bU.out.tr dK);have al8:=lh (Py.out.fresh dK);have Yo:=lh Xw;have wK:=lh (show w.heap.size<=w3.heap.size from (aY.out.tr b8.out).size);clear dK Xw x0 x1 y0 y1 bs;obtain⟨x0,x1,y0,y1,bs⟩:=bm.out w3 b8.out;obtain⟨R,hR⟩:∃ R,roots g p=R:=⟨_,rfl⟩;have sJ:=lh hR;rw[hR] at acf Yo ⊢;clear hR;go_wp2;go_loopw [9,10] (λov c wr=>∃ i:Nat,i<=R.length/\c=.int .i64 i/\aw wr w3.heap.size ov ((R.take i).map (dC g p W))/\ai [] w3 wr) (λ_ c _=>R.length - (intOf c).toNat);case atStart=>exact⟨0,Qc _,rfl,by simpa using da _ _,ai.refl _ _⟩
 case round =>
  obtain⟨i,hi,rfl,aT,hc⟩:=hrel;have bA:=lh aT;obtain⟨oo,oc,rfl⟩:=aT.shape;have HC:=lh hc;clear aT hc x0 x1 y0 y1 bs;obtain⟨x0,x1,y0,y1,bs⟩:=bm.out wr (b8.out.tr HC.out);by_cases lK:i<R.length
  ·obtain⟨pg,pcc,va,vc,ea,ec,epo,n0,n1,nr0,-⟩:=uX Yo.out rfl lK
   simp only[Qh.injEq] at epo;obtain⟨rfl,-,rfl⟩:=epo;have N0:=lh n0;have NR0:=lh nr0;have p0:=HC.out.bO n0;have p1:=HC.out.bO n1;have uH:=lh (show (R.take (i+1)).map (dC g p W)=(R.take i).map (dC g p W)++[dC g p W (R.getD i 0)] by rw[mV lK,List.map_append];rfl);have hol:((R.take i).map (dC g p W)).length<=1000:=by simp;omega
   obtain⟨OL,hOL⟩:∃ OL,(R.take i).map (dC g p W)=OL:=⟨_,rfl⟩;rw[hOL] at bA uH hol ⊢;clear hOL;have HZ:=lh (EY g p W (R.getD i 0));have HZA:=lh (JY Ip.out W (R.getD i 0));have HZL:=lh (λk=>OS g p W (R.getD i 0) k);have ZH:=lh (λk (hk:k<W.length)=>Fp (g:=g) (p:=p) (r:=R.getD i 0) hk);have lu:=GJ g p (R.getD i 0);have iM:(p.sub g (comp g p (R.getD i 0))).e.length<=p.e.length:=Qa _ _;obtain⟨r,hr⟩:∃ r,R.getD i 0=r:=⟨_,rfl⟩;rw[hr] at N0 NR0 p0 p1 uH HZ HZA HZL ZH lu iM;obtain⟨C,hC⟩:∃ C,comp g p r=C:=⟨_,rfl⟩;rw[hC] at N0 NR0 p0 p1 HZ ZH lu iM;obtain⟨EL,hEL⟩:∃ EL,(p.sub g C).e=EL:=⟨_,rfl⟩;rw[hEL] at p1 HZ iM;have q1:IntKind.i64.wrap (2 - (C.length:Int))=2 - (C.length:Int):=IntWalk.i64_in _ (by omega);have q2:IntKind.i64.wrap (2 - (C.length:Int)+(EL.length:Int))=iA g p W r 0:=by rw[HZ.out,IntWalk.i64_in _ (by omega)]
   clear n0 n1 nr0 hr hC hEL;go_wp2;have aG:ai [] wr wr.drew:=(ai.refl [] wr).drew;refine al (ai [] wr) [0,1,2,3,4,5,6,7,8,9,10,11,12,13,14] (Way.line [0,1,2,3,4,5,6,7,8,9,10,11,12,13,14] .done) (by kernel_rfl) (by kernel_rfl) ?_;simp only[Way.line]
   repeat (refine aj (v:=?_) rfl (by rfl) (by rfl) (λ_ _ _ h=>h) aG (λw' aB=>?_) ?_;rotate_left;(focus (have fE:=aB.c p0;have fV:=aB.c p1;clear aB;go_simp;try with_reducible rfl));simp only[Qe,Z1,Z2,Z3,Z4,Z5,Z6])
   refine ar ?_;have eW:=lh aG;clear p0 p1 q1 q2 x0 x1 y0 y1 bs aG;generalize hw4:wr.drew=w4 at *;clear hw4;go_wp2;go_loopw [11,12] (λnv c wi=>∃ k:Nat,k<=W.length/\c=.int .i64 k/\nv=.int .i64 (iA g p W r k)/\ai [] w4 wi) (λ_ c _=>W.length - (intOf c).toNat);case atStart=>exact⟨0,Qc _,rfl,rfl,ai.refl _ _⟩
   case round =>
    rename World=>wi;obtain⟨k,hk,rfl,rfl,dV⟩:=hrel;have fG:=lh (eW.out.tr dV);have Hd:=lh (HC.out.tr fG.out);have abS:=lh dV;clear dV;by_cases rI:k<W.length
    ·obtain⟨x0,x1,y0,y1,bs⟩:=bm.out wi (b8.out.tr Hd.out)
     have p0:=Hd.out.bO N0.out;obtain⟨wg,wcc,fa,fc,ewo,m0,m1,-⟩:=MF al8.out rfl rI;simp only[Qh.injEq] at ewo;obtain⟨rfl,-,rfl⟩:=ewo;have f0:=Hd.out.bO m0;have f1:=Hd.out.bO m1;have EA:W.getD k (0,[])∈W:=by simp[Qd,rI]
     have HZK:=lh (ZH.out k rI);have Uy:=HZL.out k;have Vb:=lh (show W.getD k (0,[])∈bZ g p aa by rw[HWE.out];exact EA);obtain⟨f,hf⟩:∃ f,W.getD k (0,[])=f:=⟨_,rfl⟩;rw[hf] at f0 f1 HZK Vb;obtain⟨z,hz⟩:∃ z,iA g p W r k=z:=⟨_,rfl⟩;rw[hz] at Uy HZK ⊢;have HWG:=lh (aY.out.tr (b8.out.tr Hd.out));clear m0 m1 EA hf hz;go_wp2;have aG:ai [] wi wi.drew:=(ai.refl [] wi).drew;refine al (ai [] wi) [0,1,2,3,4,5,6,7,8,9] (Way.line [0,1,2,3,4,5,6,7,8,9,10,11] .done) (by kernel_rfl) (by kernel_rfl) ?_;simp only[Way.line]
     repeat (refine aj (v:=?_) rfl (by rfl) (by rfl) (λ_ _ _ h=>h) aG (λw' aB=>?_) ?_;rotate_left;(focus (have fE:=aB.c x0;have fV:=aB.c x1;have kD:=aB.c p0;have tq:=aB.c f0;have MD:=aB.c f1;clear aB;go_simp;try with_reducible rfl));simp only[Qe,Z1,Z2,Z3,Z4,Z5,Z6])
     refine aq rfl (by rfl) (by rfl) (λK hK=>?_);go_simp;refine (Bf _ g p aa f _ _ uu.out (by rw[HWE.out];exact HW.out) Vb.out (HG.out.fresh (HWG.out.tr aG))).mono ?_;rintro e w6 ⟨rfl,eV⟩;have bH:=aG.t eV;clear aG eV;have aG:=bH;clear bH;refine hK.out _ _ (λ_=>aG) ?_;clear hK K;try simp only[Qe,Z1,Z2,Z3,Z4,Z5,Z6]
     refine aq rfl (by rfl) (by rfl) (λK hK=>?_);go_simp;refine (iY _ C (f.cu g) _ ((NR0.out.ints).fresh (Hd.out.tr aG))).mono ?_;rintro e w7 ⟨rfl,eV⟩;have bH:=aG.t eV;clear aG eV;have aG:=bH;clear bH;refine hK.out _ _ (λ_=>aG) ?_;clear hK K;try simp only[Qe,Z1,Z2,Z3,Z4,Z5,Z6]
     refine ar ?_;have oT:=lh (fG.out.tr aG);have agv:=lh ((show ai [] w4 wi from abS.out).tr aG);clear x0 x1 y0 y1 bs p0 f0 f1 aG;by_cases dE:f.cu g∈C
     ·rw[decide_eq_true dE]
      have HE:=lh (HZK.out.trans (if_pos dE));have q3:IntKind.i64.wrap (z - 1)=z - 1:=IntWalk.i64_in _ (by omega);clear dE;go_wp2;go_roundw;case rel=>exact⟨k+1,by omega,by go_num,by rw[HE.out],agv.out⟩
      case measure=>simp[intOf];omega
     rw[decide_eq_false dE];have HE:=lh (HZK.out.trans (if_neg dE));clear dE;go_wp2;go_roundw;case rel=>exact⟨k+1,by omega,by go_num,by rw[HE.out],agv.out⟩
     case measure=>simp[intOf];omega
    have e:k=W.length:=by omega
    subst e;have Uy:=HZL.out W.length;have KS:=HZA.out;obtain⟨z,hz⟩:∃ z,iA g p W r W.length=z:=⟨_,rfl⟩;rw[hz] at Uy KS ⊢;have TB:=lh (bA.out.aL fG.out (by simp));have Bb:=lh (show w3.heap.size<=wi.heap.size from Hd.out.size);obtain⟨G,hG⟩:∃ G,dC g p W r=G:=⟨_,rfl⟩;rw[hG] at uH KS;have UZ:G.natAbs<=z.natAbs:=by rw[<-KS,Int.natAbs_tdiv];exact Nat.div_le_self _ _
    have HIG:=lh (show bF G from bF.mk (by omega) (by omega));have Eb:OL.length<4294967290:=by omega
    have q4:IntKind.i64.wrap G=G:=IntWalk.i64_in _ (by omega);clear hz hG;go_wp2_with (at_builtin;refine eN rfl _ _ rfl (B:=w3.heap.size) (v:=.slice oo _ oc) rfl rfl TB.out HIG.out Bb.out Eb rfl ?_;intro v9 w9 r9 c9 f9;have R9:=lh r9;have C9:=lh c9;clear r9 c9 f9);go_roundw;case rel=>exact⟨i+1,by omega,by go_num,by rw[uH.out];exact R9.out,Hd.out.trans C9.out (λj hj=>Or.inr (by rw[TB.out.aC] at hj;exact (TB.out.low j hj).1))⟩
    case measure=>simp[intOf];omega
  have e:i=R.length:=by omega
  subst e;rw[Qb] at bA ⊢;have HR:=lh (bA.out.base wK.out);have gU:=lh (aY.out.tr (b8.out.tr HC.out));clear x0 x1 y0 y1 bs;obtain⟨GL,hGL⟩:∃ GL,R.map (dC g p W)=GL:=⟨_,rfl⟩;have aoK:=lh hGL;rw[hGL] at HR ⊢;clear hGL;go_wp2;go_ret;exact⟨_,rfl,by rw[sJ.out,HWE.out,aoK.out];exact HR.out,gU.out⟩
open Classical in
theorem Bd (vg vp vt:Value) (g:Gr) (p:Pt) (aa:List (List Int)) (w:World) (mE:p.e.length<=1000) (Dl:p.v.length<=1000) (EX:g.e.length<4294967296) (qX:∀ v,(ay aa v).length<4294967296) (hg:cA w vg g) (hp:dt w vp p) (ht:fY w vt aa) :
  Calls Tryz.prog 73 #[vg,vp,vt] w λe w'=>e=.returned (.bool (decide (dA g p aa=0)))/\ai [] w w':=by
 have HT:=lh ht;have AU:=lh qX;clear qX;obtain⟨eo,cap,ao,ac,bo,bc,rfl,rfl,HG,HP,hm,uJ,oJ,pU,nG,xL,uD,aY,bm⟩:=eF hg hp;clear hg hp;obtain⟨Y2,tc,rfl,Aw,-⟩:=ht;obtain⟨x0,x1,y0,y1,bs⟩:=bm.out _ (ai.refl _ _);go_enter Tryz.func73,Tryz.ntmps73;go_wp2_with fail;refine (GO _ _ _ g p aa _ (by omega) (by omega) EX (HG.out.fresh aY.out) (HP.out.fresh aY.out) (HT.out.fresh aY.out)).mono ?_;rintro e w2 ⟨rfl,bI⟩;obtain⟨w1,gu⟩:∃ w1,((w.alloc (.cells #[.int .i64 g.n,.slice eo g.e.length cap] 24)).alloc (.cells #[.slice ao p.v.length ac,.slice bo p.e.length bc] 27))=w1:=⟨_,rfl⟩;rw[gu] at aY bm bI;clear gu x0 x1 y0 y1 bs;have bU:=lh bI;obtain⟨x0,x1,y0,y1,bs⟩:=bm.out w2 bI;clear bI;have ji:=lh (aY.out.tr bU.out);by_cases Ka:cJ g p aa=0
 ·obtain⟨dk,kq⟩:=nq Ka
  have hW:cN g p aa (bZ g p aa):=by
   rw[<-sE dk kq];exact (zw (Pt.ax dk) (bK (Pt.aF dk).2.2.1) kq).walks (Pt.ax dk)
  have HTE:=lh Ka;have uu:=lh dk;have UC:=lh kq;have HW:=lh hW;have acf:(roots g p).length<=1000:=by rw[<-pT];exact Qg (pB g p _) Dl
  rw[Ka];clear Ka dk kq hW;go_wp2_with fail;refine (DS _ _ _ g p aa _ mE Dl uu.out UC.out HW.out AU.out (HG.out.fresh ji.out) (HP.out.fresh ji.out) (HT.out.fresh ji.out)).mono ?_;rintro e w3 ⟨ov,rfl,aT,dK⟩;obtain⟨oo,oc,rfl⟩:=aT.shape;have bA:=lh aT;have b8:=lh (ji.out.tr dK);have Eu:=lh (show (∀ i,i<((roots g p).map (dC g p (bZ g p aa))).length->((roots g p).map (dC g p (bZ g p aa))).getD i 0=0)↔Flat g p aa from by
   constructor
   ·intro h r hr
    obtain⟨i,hi,rfl⟩:=cr hr;have:=h i (by simpa using hi);simpa[Qd,hi] using this
   intro h i hi;have sS:i<(roots g p).length:=by simpa using hi
   have:=h ((roots g p).getD i 0) (aQ sS);simpa[Qd,sS] using this)
  have Xx:((roots g p).map (dC g p (bZ g p aa))).length<=1000:=by simpa using acf
  obtain⟨G,hG⟩:∃ G,(roots g p).map (dC g p (bZ g p aa))=G:=⟨_,rfl⟩;rw[hG] at bA Eu Xx ⊢;clear x0 x1 y0 y1 bs aT dK hG;go_wp2;go_loopw [8] (λc wr=>∃ k:Nat,k<=G.length/\c=.int .i64 k/\Hid (∀ i,i<k->G.getD i 0=0)/\ai [] w3 wr) (λc _=>G.length - (intOf c).toNat);case atStart=>exact⟨0,Qc _,rfl,lh (by omega),ai.refl _ _⟩
  case round =>
   obtain⟨k,hk,rfl,hz,hc⟩:=hrel;have HC:=lh (b8.out.tr hc);have lY:=lh hc;by_cases aW:k<G.length
   ·obtain⟨b,off,rfl,cell⟩:=aI.cellAt (bA.out.ints.fresh hc) aW
    have HN:=lh (λ(h:G.getD k 0=0) i (hi:i<k+1)=>show G.getD i 0=0 from by
     by_cases e:i=k
     ·rw[e];exact h
     exact hz.out i (by omega))
    have HB:=lh (λ(h:G.getD k 0≠0)=>show decide (dA g p aa=0)=false from decide_eq_false λq=>h (Eu.out.2 (oA q).2 k aW));obtain⟨z,hzz⟩:∃ z,G.getD k 0=z:=⟨_,rfl⟩;rw[hzz] at cell HN HB;clear hc hzz;by_cases q:z=0
    ·have b1:(z != 0)=false:=by simp[q]
     have HN2:=lh (HN.out q);clear q;go_wp2;go_roundw;case rel=>exact⟨k+1,by omega,by go_num,HN2,lY.out⟩
     case measure=>simp[intOf];omega
    have b1:(z != 0)=true:=by simp[q]
    have HE:=lh (HB.out q);clear q;go_wp2;go_ret;exact⟨aM HE.out.symm,HC.out⟩
   have e:k=G.length:=by omega
   subst e;have HE:=lh (show decide (dA g p aa=0)=true from decide_eq_true (sB HTE.out (Eu.out.1 hz.out)));clear hc;go_wp2;go_ret;exact⟨aM HE.out.symm,HC.out⟩
 have HE:=lh (show decide (dA g p aa=0)=false from decide_eq_false λq=>Ka (oA q).1);have b1:((cJ g p aa) != 0)=true:=by simp[Ka]
 clear Ka;generalize cJ g p aa=er at *;clear x0 x1 y0 y1 bs;go_wp2;go_ret;exact⟨aM HE.out.symm,ji.out⟩
