/- ref07: the contracts of Corner, Genus, Sphere. Conditions: a graph, a part, turns that lie in memory and read so, of a bounded size. -/
import Derived.Test.YtkacjmoamgjfpaaGreatA9RegP
namespace Go.Proofs.YtkacjmoamgjfpaaGreat
open Go.RowKit Go.Maps
namespace aA
theorem qL {g:Gr} {p:Pt} {aB:List (List Int)} {W:List aO} (hpe:p.err g=0) (hW:bV g p aB W) {f:aO} (hf:f∈W) :
  (f.2=[]∧-2048<f.1∧f.1<0∧f.aY g = -1 - f.1)∨∃ (d:Nat) (l:List Int),f.1=(d:Int)∧f.2=(d:Int) :: l∧(d:Int)∈p.aK∧d / 2<g.e.length∧d<2048∧f.aY g=g.tail d:=by
 obtain⟨F,e,hT⟩:=hW.split;rw[e] at hf;rcases List.mem_append.1 hf with q | q
 ·obtain⟨v,hv,rfl⟩:=List.mem_map.1 q
  have hv:=List.mem_reverse.1 (List.mem_filter.1 hv).1;have h1:=(Pt.aQ hpe).vr v hv;have h2:=(Gr.aV (Pt.aV hpe).1).2.1;exact Or.inl ⟨rfl,by show -2048 < -1 - v;omega,by show -1 - v<0;omega,rfl⟩
 obtain⟨l,hl⟩:=hT.key f q;have hd:f.1∈p.aK:=hT.sub _ (List.mem_flatten.2 ⟨f.2,List.mem_map.2 ⟨f,q,rfl⟩,by rw[hl];simp⟩);obtain⟨d,hd1,hd2,hd3⟩:=Pt.mC hpe hd;refine Or.inr ⟨d,l,hd1,by rw[hl,hd1],by rw[←hd1];exact hd,hd2,hd3,?_⟩;unfold aO.aY;rw[hl];show g.tail f.1=_;rw[hd1]
end aA
set_option maxRecDepth 100000 in
theorem xX (vg:Value) (g:aA.Gr) (key:Int) (u:Value) (w:World) (hk:-2048<key∧key<0) (h:dW w vg g) :
  Calls Tryz.prog 117 #[vg,.agg #[.int .i64 key,u]] w fun e w'=>e=.returned (.int .i64 (-1 - key))∧Chg [] w w':=by
 obtain⟨eo,cap,rfl,-,-,-,-⟩:=h;have HC1:=lh (((Chg.refl [] w).alloc (.cells #[.int .i64 g.n,.slice eo g.e.length cap] 24)).alloc (.cells #[.int .i64 key,u] 90));have b1:decide (key<0)=true:=decide_eq_true hk.2;have w1:IntKind.i64.wrap (-1 - key) = -1 - key:=IntWalk.i64_in _ (by omega)
 go_enter Tryz.func117,Tryz.ntmps117
 go_wp2;go_ret;exact⟨rfl,HC1.out⟩
set_option maxRecDepth 100000 in
theorem wC (vg:Value) (g:aA.Gr) (d:Nat) (u:Value) (w:World) (hd:d / 2<g.e.length) (hm:g.e.length<4294967296) (h:dW w vg g) :
  Calls Tryz.prog 117 #[vg,.agg #[.int .i64 d,u]] w fun e w'=>e=.returned (.int .i64 (g.tail d))∧Chg [] w w':=by
 have HG:=lh h;obtain⟨eo,cap,rfl,-,-,-,hcell⟩:=h;have HC1:=lh (((Chg.refl [] w).alloc (.cells #[.int .i64 g.n,.slice eo g.e.length cap] 24)).alloc (.cells #[.int .i64 d,u] 90));have b1:decide ((d:Int)<0)=false:=decide_eq_false (by omega);clear hcell
 go_enter Tryz.func117,Tryz.ntmps117
 go_wp2_with fail
 refine (wN _ g d _ hd hm (HG.out.fresh HC1.out)).mono ?_;rintro e w2 ⟨rfl,hc2⟩;have HCF:=lh (HC1.out.t hc2);clear hc2;go_wp2;go_ret;exact⟨rfl,HCF.out⟩
theorem qC (vg:Value) (g:aA.Gr) (p:aA.Pt) (aB:List (List Int)) (f:aA.aO) (u:Value) (w:World) (hpe:p.err g=0) (hW:aA.bV g p aB (aA.aH g p aB)) (hf:f∈aA.aH g p aB) (h:dW w vg g) :
  Calls Tryz.prog 117 #[vg,.agg #[.int .i64 f.1,u]] w fun e w'=>e=.returned (.int .i64 (f.aY g))∧Chg [] w w':=by
 have hgl:=aA.Gr.aV (aA.Pt.aV hpe).1;rcases aA.qL hpe hW hf with ⟨-,h2,h3,h4⟩ | ⟨d,l,h1,-,-,h2,h3,h4⟩
 ·rw[h4]
  exact xX vg g f.1 u w ⟨h2,h3⟩ h
 rw[h4,h1];exact wC vg g d u w h2 (by omega) h
namespace aA
noncomputable def iL (g:Gr) (p:Pt) (W:List aO) (r:Int) (k:Nat):Int:=2 - ((comp g p r).length:Int)+(((p.sub g (comp g p r)).e).length:Int) - (((W.take k).filter fun f=>decide (f.aY g∈comp g p r)).length:Int)
theorem aBV (g:Gr) (p:Pt) (W:List aO) (r:Int):iL g p W r 0=2 - ((comp g p r).length:Int)+(((p.sub g (comp g p r)).e).length:Int):=by simp[iL]
theorem aA7 {g:Gr} {p:Pt} {W:List aO} {r:Int} {k:Nat} (hk:k<W.length):iL g p W r (k+1)=if (W.getD k (0,[])).aY g∈comp g p r then iL g p W r k - 1 else iL g p W r k:=by
 unfold iL;rw[jP hk,List.filter_append,List.length_append];by_cases h:(W.getD k (0,[])).aY g∈comp g p r
 ·rw[if_pos h,List.filter_cons_of_pos (by simpa using h)];simp;omega
 rw[if_neg h,List.filter_cons_of_neg (by simpa using h)];simp
theorem aDF {g:Gr} {p:Pt} (h:bB g p) (W:List aO) (r:Int):(iL g p W r W.length).tdiv 2=cC g p W r:=by
 unfold iL cC;rw[List.take_length,tB h]
theorem aEf (g:Gr) (p:Pt) (W:List aO) (r:Int) (k:Nat):-(p.v.length:Int) - W.length≤iL g p W r k∧iL g p W r k≤2+p.e.length:=by
 unfold iL;have h1:=pI g p r;have h2:(p.sub g (comp g p r)).e.length≤p.e.length:=List.length_filter_le _ _;have h3:=List.length_filter_le (fun f=>decide (aO.aY g f∈comp g p r)) (W.take k);have h4:(W.take k).length≤W.length:=by rw[List.length_take];omega
 omega
end aA
set_option maxRecDepth 100000 in
set_option maxHeartbeats 8000000 in
theorem aAi (vg vp vt:Value) (g:aA.Gr) (p:aA.Pt) (aB:List (List Int)) (w:World) (hpl:p.e.length≤1000) (hpv:p.v.length≤1000) (hpe:p.err g=0) (hto:aA.aW g p aB) (hW:aA.bV g p aB (aA.aH g p aB)) (hrl:∀ v,(aA.aX aB v).length<4294967296) (hg:dW w vg g) (hp:gC w vp p) (ht:cG w vt aB) :
  Calls Tryz.prog 104 #[vg,vp,vt] w fun e w'=>∃ ov,e=.returned ov∧aM w' w.heap.size ov ((aA.roots g p).map (aA.cC g p (aA.aH g p aB)))∧Chg [] w w':=by
 have HT:=lh ht;have HPE:=lh hpe;have HTO:=lh hto;have HRL:=lh hrl;have HW:=lh hW;have HPO:=lh (aA.Pt.aQ hpe);have hwl:=hW.len;have hrl2:(aA.roots g p).length≤1000:=by rw[←aA.eL];exact Nat.le_trans (aA.dY g p _) hpv
 clear hpe hto hrl hW;have HG:=lh hg;have HP:=lh hp;obtain⟨eo,cap,rfl,hn,hm,hsm,hcell⟩:=hg;obtain⟨v1,v2,rfl,hv,he⟩:=hp;obtain⟨ao,ac,rfl,has,ham,hacell⟩:=hv;obtain⟨bo,bc,rfl,hbs,hbm,hbcell⟩:=he;have HAC:=lh hacell;have HBC:=lh hbcell;have HAS:=lh has;have HBS:=lh hbs;obtain⟨-,-,hc1⟩:=cK w #[.int .i64 g.n,.slice eo g.e.length cap] #[.slice ao p.v.length ac,.slice bo p.e.length bc] 24 29;have HC1:=lh hc1;have HBXS:=lh (fun w2 h=>iW w (g:=g) (p:=p) (eo:=eo) (ao:=ao) (bo:=bo) (cap:=cap) (ac:=ac) (bc:=bc) (w2:=w2) h);clear hcell hacell hbcell hsm has hbs hn hc1;obtain⟨tno,tc,rfl,htm,-⟩:=ht;obtain⟨x0,x1,y0,y1,hsz⟩:=HBXS.out _ (Chg.refl _ _)
 go_enter Tryz.func104,Tryz.ntmps104
 go_wp2_with fail
 refine (mP _ _ _ g p aB _ (by omega) (by omega) HPE.out HTO.out HRL.out (HG.out.fresh HC1.out) (HP.out.fresh HC1.out) (HT.out.fresh HC1.out)).mono ?_;rintro e w2 ⟨wv,wx,rfl,hnw,hc2⟩;obtain⟨w1,hw1⟩:∃ w1,((w.alloc (.cells #[.int .i64 g.n,.slice eo g.e.length cap] 24)).alloc (.cells #[.slice ao p.v.length ac,.slice bo p.e.length bc] 29))=w1:=⟨_,rfl⟩;rw[hw1] at HC1 HBXS hc2 hnw;clear hw1 x0 x1 y0 y1 hsz;have HC2:=lh hc2;obtain⟨wo,wc,rfl⟩:=hnw.shape;have HNW:=lh hnw;obtain⟨x0,x1,y0,y1,hsz⟩:=HBXS.out w2 hc2;clear hc2 hnw;obtain⟨W,hWe⟩:∃ W,aA.aH g p aB=W:=⟨_,rfl⟩;have HWE:=lh hWe;rw[hWe] at hwl HNW HW ⊢;clear hWe
 go_wp2_with fail
 refine (pH _ _ g p _ (by omega) (by omega) HPE.out ((HG.out.fresh HC1.out).fresh HC2.out) ((HP.out.fresh HC1.out).fresh HC2.out)).mono ?_;rintro e w3 ⟨pv,px,rfl,hnp,hc3⟩;obtain⟨po,pc,rfl⟩:=hnp.shape;have HC3:=lh (HC2.out.t hc3);have HNW3:=lh (HNW.out.fresh hc3);have HNP:=lh hnp;have HB3:=lh (show w.heap.size≤w3.heap.size from (HC1.out.t HC3.out).size);clear hc3 hnp x0 x1 y0 y1 hsz;obtain⟨x0,x1,y0,y1,hsz⟩:=HBXS.out w3 HC3.out;obtain⟨R,hR⟩:∃ R,aA.roots g p=R:=⟨_,rfl⟩;have HRE:=lh hR;rw[hR] at hrl2 HNP ⊢;clear hR;go_wp2
 go_loopw [9,10] (fun ov c wr=>∃ i:Nat,i≤R.length∧c=.int .i64 i∧aM wr w3.heap.size ov ((R.take i).map (aA.cC g p W))∧Chg [] w3 wr) (fun _ c _=>R.length - (intOf c).toNat)
 case atStart=>exact⟨0,Nat.zero_le _,rfl,by simpa using gH _ _,Chg.refl _ _⟩
 case round =>
  obtain⟨i,hi,rfl,hrow,hc⟩:=hrel;have HROW:=lh hrow;obtain⟨oo,oc,rfl⟩:=hrow.shape;have HC:=lh hc;clear hrow hc x0 x1 y0 y1 hsz;obtain⟨x0,x1,y0,y1,hsz⟩:=HBXS.out wr (HC3.out.t HC.out);by_cases hil:i<R.length
  ·obtain⟨pg,pcc,va,vc,ea,ec,epo,n0,n1,nr0,-⟩:=mG HNP.out rfl hil
   simp only[Value.slice.injEq] at epo;obtain⟨rfl,-,rfl⟩:=epo;have N0:=lh n0;have NR0:=lh nr0;have p0:=HC.out.c n0;have p1:=HC.out.c n1;have HTK:=lh (show (R.take (i+1)).map (aA.cC g p W)=(R.take i).map (aA.cC g p W)++[aA.cC g p W (R.getD i 0)] by rw[aA.eD hil,List.map_append];rfl);have hol:((R.take i).map (aA.cC g p W)).length≤1000:=by simp;omega
   obtain⟨OL,hOL⟩:∃ OL,(R.take i).map (aA.cC g p W)=OL:=⟨_,rfl⟩;rw[hOL] at HROW HTK hol ⊢;clear hOL;have HZ:=lh (aA.aBV g p W (R.getD i 0));have HZA:=lh (aA.aDF HPO.out W (R.getD i 0));have HZL:=lh (fun k=>aA.aEf g p W (R.getD i 0) k);have HZS:=lh (fun k (hk:k<W.length)=>aA.aA7 (g:=g) (p:=p) (r:=R.getD i 0) hk);have hcl:=aA.pI g p (R.getD i 0);have hel:(p.sub g (aA.comp g p (R.getD i 0))).e.length≤p.e.length:=List.length_filter_le _ _;obtain⟨r,hr⟩:∃ r,R.getD i 0=r:=⟨_,rfl⟩;rw[hr] at N0 NR0 p0 p1 HTK HZ HZA HZL HZS hcl hel;obtain⟨C,hC⟩:∃ C,aA.comp g p r=C:=⟨_,rfl⟩;rw[hC] at N0 NR0 p0 p1 HZ HZS hcl hel;obtain⟨EL,hEL⟩:∃ EL,(p.sub g C).e=EL:=⟨_,rfl⟩;rw[hEL] at p1 HZ hel;have q1:IntKind.i64.wrap (2 - (C.length:Int))=2 - (C.length:Int):=IntWalk.i64_in _ (by omega);have q2:IntKind.i64.wrap (2 - (C.length:Int)+(EL.length:Int))=aA.iL g p W r 0:=by rw[HZ.out,IntWalk.i64_in _ (by omega)]
   clear n0 n1 nr0 hr hC hEL;go_wp2;have hS0:Chg [] wr wr.drew:=(Chg.refl [] wr).drew;refine aF (Chg [] wr) [0,1,2,3,4,5,6,7,8,9,10,11,12,13,14] (Way.line [0,1,2,3,4,5,6,7,8,9,10,11,12,13,14] .done) (by kernel_rfl) (by kernel_rfl) ?_;simp only[Way.line]
   repeat
    first
     | (refine aE rfl (by rfl) (by rfl) (fun _ _ _ h=>h) hS0 ?_;simp only[Act.put,Z1,Z2,Z3,Z4,Z5,Z6])
     | (refine aC (v:=?_) rfl (by rfl) (by rfl) (fun _ _ _ h=>h) hS0 (fun w' hS'=>?_) ?_;rotate_left;(focus (have rd0:=hS'.c p0;have rd1:=hS'.c p1;clear hS';go_simp;try with_reducible rfl));simp only[Act.put,Z1,Z2,Z3,Z4,Z5,Z6])
     | (refine aD rfl (by rfl) (by rfl) hS0 ?_;simp only[Act.put,Z1,Z2,Z3,Z4,Z5,Z6])
   refine aG ?_;have HC4:=lh hS0;clear p0 p1 q1 q2 x0 x1 y0 y1 hsz hS0;generalize hw4:wr.drew=w4 at *;clear hw4;go_wp2
   go_loopw [11,12] (fun nv c wi=>∃ k:Nat,k≤W.length∧c=.int .i64 k∧nv=.int .i64 (aA.iL g p W r k)∧Chg [] w4 wi) (fun _ c _=>W.length - (intOf c).toNat)
   case atStart=>exact⟨0,Nat.zero_le _,rfl,rfl,Chg.refl _ _⟩
   case round =>
    rename World=>wi;obtain⟨k,hk,rfl,rfl,hc5⟩:=hrel;have HC5:=lh (HC4.out.t hc5);have HC53:=lh (HC.out.t HC5.out);have HC45:=lh hc5;clear hc5;by_cases hkl:k<W.length
    ·obtain⟨x0,x1,y0,y1,hsz⟩:=HBXS.out wi (HC3.out.t HC53.out)
     have p0:=HC53.out.c N0.out;obtain⟨wg,wcc,fa,fc,ewo,m0,m1,-⟩:=fZ HNW3.out rfl hkl;simp only[Value.slice.injEq] at ewo;obtain⟨rfl,-,rfl⟩:=ewo;have f0:=HC53.out.c m0;have f1:=HC53.out.c m1;have hfm:W.getD k (0,[])∈W:=by simp[List.getD,hkl]
     have HZK:=lh (HZS.out k hkl);have hzl:=HZL.out k;have HFM:=lh (show W.getD k (0,[])∈aA.aH g p aB by rw[HWE.out];exact hfm);obtain⟨f,hf⟩:∃ f,W.getD k (0,[])=f:=⟨_,rfl⟩;rw[hf] at f0 f1 HZK HFM;obtain⟨z,hz⟩:∃ z,aA.iL g p W r k=z:=⟨_,rfl⟩;rw[hz] at hzl HZK ⊢;have HWG:=lh (HC1.out.t (HC3.out.t HC53.out));clear m0 m1 hfm hf hz;go_wp2;have hS0:Chg [] wi wi.drew:=(Chg.refl [] wi).drew;refine aF (Chg [] wi) [0,1,2,3,4,5,6,7,8,9] (Way.line [0,1,2,3,4,5,6,7,8,9,10,11] .done) (by kernel_rfl) (by kernel_rfl) ?_;simp only[Way.line]
     repeat
      first
       | (refine aE rfl (by rfl) (by rfl) (fun _ _ _ h=>h) hS0 ?_;simp only[Act.put,Z1,Z2,Z3,Z4,Z5,Z6])
       | (refine aC (v:=?_) rfl (by rfl) (by rfl) (fun _ _ _ h=>h) hS0 (fun w' hS'=>?_) ?_;rotate_left;(focus (have rd0:=hS'.c x0;have rd1:=hS'.c x1;have rd2:=hS'.c p0;have rd3:=hS'.c f0;have rd4:=hS'.c f1;clear hS';go_simp;try with_reducible rfl));simp only[Act.put,Z1,Z2,Z3,Z4,Z5,Z6])
       | (refine aD rfl (by rfl) (by rfl) hS0 ?_;simp only[Act.put,Z1,Z2,Z3,Z4,Z5,Z6])
     refine aI rfl (by rfl) (by rfl) (fun K hK=>?_);go_simp;refine (qC _ g p aB f _ _ HPE.out (by rw[HWE.out];exact HW.out) HFM.out (HG.out.fresh (HWG.out.t hS0))).mono ?_;rintro e w6 ⟨rfl,hcx⟩;have hS1:=hS0.t hcx;clear hS0 hcx;have hS0:=hS1;clear hS1;refine hK.out _ _ (fun _=>hS0) ?_;clear hK K
     try simp only[Act.put,Z1,Z2,Z3,Z4,Z5,Z6]
     refine aI rfl (by rfl) (by rfl) (fun K hK=>?_);go_simp;refine (gD _ C (f.aY g) _ ((NR0.out.ints).fresh (HC53.out.t hS0))).mono ?_;rintro e w7 ⟨rfl,hcx⟩;have hS1:=hS0.t hcx;clear hS0 hcx;have hS0:=hS1;clear hS1;refine hK.out _ _ (fun _=>hS0) ?_;clear hK K
     try simp only[Act.put,Z1,Z2,Z3,Z4,Z5,Z6]
     refine aG ?_;have HC7:=lh (HC5.out.t hS0);have HC47:=lh ((show Chg [] w4 wi from HC45.out).t hS0);clear x0 x1 y0 y1 hsz p0 f0 f1 hS0;by_cases hin:f.aY g∈C
     ·rw[decide_eq_true hin]
      have HE:=lh (HZK.out.trans (if_pos hin));have q3:IntKind.i64.wrap (z - 1)=z - 1:=IntWalk.i64_in _ (by omega);clear hin;go_wp2
      go_roundw
      case rel=>exact⟨k+1,by omega,by go_num,by rw[HE.out],HC47.out⟩
      case measure=>simp[intOf];omega
     rw[decide_eq_false hin];have HE:=lh (HZK.out.trans (if_neg hin));clear hin;go_wp2
     go_roundw
     case rel=>exact⟨k+1,by omega,by go_num,by rw[HE.out],HC47.out⟩
     case measure=>simp[intOf];omega
    have e:k=W.length:=by omega
    subst e;have hzl:=HZL.out W.length;have hza:=HZA.out;obtain⟨z,hz⟩:∃ z,aA.iL g p W r W.length=z:=⟨_,rfl⟩;rw[hz] at hzl hza ⊢;have HROW5:=lh (HROW.out.chg HC5.out (by simp));have HB5:=lh (show w3.heap.size≤wi.heap.size from HC53.out.size);obtain⟨G,hG⟩:∃ G,aA.cC g p W r=G:=⟨_,rfl⟩;rw[hG] at HTK hza;have hgb:G.natAbs≤z.natAbs:=by rw[←hza,Int.natAbs_tdiv];exact Nat.div_le_self _ _
    have HIG:=lh (show I64 G from I64.mk (by omega) (by omega));have hll:OL.length<4294967290:=by omega
    have q4:IntKind.i64.wrap G=G:=IntWalk.i64_in _ (by omega);clear hz hG
    go_wp2_with (at_builtin;refine dS rfl _ _ rfl (B:=w3.heap.size) (v:=.slice oo _ oc) rfl rfl HROW5.out HIG.out HB5.out hll rfl ?_;intro v9 w9 r9 c9 f9;have R9:=lh r9;have C9:=lh c9;clear r9 c9 f9)
    go_roundw
    case rel=>exact⟨i+1,by omega,by go_num,by rw[HTK.out];exact R9.out,HC53.out.trans C9.out (fun j hj=>Or.inr (by rw[HROW5.out.aP] at hj;exact (HROW5.out.low j hj).1))⟩
    case measure=>simp[intOf];omega
  have e:i=R.length:=by omega
  subst e;rw[List.take_length] at HROW ⊢;have HR:=lh (HROW.out.base HB3.out);have HCF:=lh (HC1.out.t (HC3.out.t HC.out));clear x0 x1 y0 y1 hsz;obtain⟨GL,hGL⟩:∃ GL,R.map (aA.cC g p W)=GL:=⟨_,rfl⟩;have HGLE:=lh hGL;rw[hGL] at HR ⊢;clear hGL;go_wp2;go_ret;exact⟨_,rfl,by rw[HRE.out,HWE.out,HGLE.out];exact HR.out,HCF.out⟩
open Classical in
set_option maxRecDepth 100000 in
set_option maxHeartbeats 4000000 in
theorem xY (vg vp vt:Value) (g:aA.Gr) (p:aA.Pt) (aB:List (List Int)) (w:World) (hpl:p.e.length≤1000) (hpv:p.v.length≤1000) (hgl:g.e.length<4294967296) (hrl:∀ v,(aA.aX aB v).length<4294967296) (hg:dW w vg g) (hp:gC w vp p) (ht:cG w vt aB) :
  Calls Tryz.prog 45 #[vg,vp,vt] w fun e w'=>e=.returned (.bool (decide (aA.cD g p aB=0)))∧Chg [] w w':=by
 have HT:=lh ht;have HRL:=lh hrl;clear hrl;have HG:=lh hg;have HP:=lh hp;obtain⟨eo,cap,rfl,hn,hm,hsm,hcell⟩:=hg;obtain⟨v1,v2,rfl,hv,he⟩:=hp;obtain⟨ao,ac,rfl,has,ham,hacell⟩:=hv;obtain⟨bo,bc,rfl,hbs,hbm,hbcell⟩:=he;have HAC:=lh hacell;have HBC:=lh hbcell;have HAS:=lh has;have HBS:=lh hbs;obtain⟨-,-,hc1⟩:=cK w #[.int .i64 g.n,.slice eo g.e.length cap] #[.slice ao p.v.length ac,.slice bo p.e.length bc] 24 29;have HC1:=lh hc1;have HBXS:=lh (fun w2 h=>iW w (g:=g) (p:=p) (eo:=eo) (ao:=ao) (bo:=bo) (cap:=cap) (ac:=ac) (bc:=bc) (w2:=w2) h);clear hcell hacell hbcell hsm has hbs hn hc1;obtain⟨tno,tc,rfl,htm,-⟩:=ht;obtain⟨x0,x1,y0,y1,hsz⟩:=HBXS.out _ (Chg.refl _ _)
 go_enter Tryz.func45,Tryz.ntmps45
 go_wp2_with fail
 refine (tH _ _ _ g p aB _ (by omega) (by omega) hgl (HG.out.fresh HC1.out) (HP.out.fresh HC1.out) (HT.out.fresh HC1.out)).mono ?_;rintro e w2 ⟨rfl,hc2⟩;obtain⟨w1,hw1⟩:∃ w1,((w.alloc (.cells #[.int .i64 g.n,.slice eo g.e.length cap] 24)).alloc (.cells #[.slice ao p.v.length ac,.slice bo p.e.length bc] 29))=w1:=⟨_,rfl⟩;rw[hw1] at HC1 HBXS hc2;clear hw1 x0 x1 y0 y1 hsz;have HC2:=lh hc2;obtain⟨x0,x1,y0,y1,hsz⟩:=HBXS.out w2 hc2;clear hc2;have HCW:=lh (HC1.out.t HC2.out);by_cases hte:aA.bE g p aB=0
 ·obtain⟨hpe,hto⟩:=aA.bC hte
  have hW:aA.bV g p aB (aA.aH g p aB):=by
   rw[←aA.qT hpe hto];exact (aA.vK (aA.Pt.aQ hpe) (aA.cI (aA.Pt.aV hpe).2.2.1) hto).walks (aA.Pt.aQ hpe)
  have HTE:=lh hte;have HPE:=lh hpe;have HTO:=lh hto;have HW:=lh hW;have hrl2:(aA.roots g p).length≤1000:=by rw[←aA.eL];exact Nat.le_trans (aA.dY g p _) hpv
  rw[hte];clear hte hpe hto hW
  go_wp2_with fail
  refine (aAi _ _ _ g p aB _ hpl hpv HPE.out HTO.out HW.out HRL.out (HG.out.fresh HCW.out) (HP.out.fresh HCW.out) (HT.out.fresh HCW.out)).mono ?_;rintro e w3 ⟨ov,rfl,hrow,hc3⟩;obtain⟨oo,oc,rfl⟩:=hrow.shape;have HROW:=lh hrow;have HC3:=lh (HCW.out.t hc3);have HFL:=lh (show (∀ i,i<((aA.roots g p).map (aA.cC g p (aA.aH g p aB))).length→((aA.roots g p).map (aA.cC g p (aA.aH g p aB))).getD i 0=0)↔aA.Flat g p aB from by
   constructor
   ·intro h r hr
    obtain⟨i,hi,rfl⟩:=aA.cS hr;have:=h i (by simpa using hi);simpa[List.getD,hi] using this
   intro h i hi;have hi2:i<(aA.roots g p).length:=by simpa using hi
   have:=h ((aA.roots g p).getD i 0) (aA.aZ hi2);simpa[List.getD,hi2] using this)
  have hgl2:((aA.roots g p).map (aA.cC g p (aA.aH g p aB))).length≤1000:=by simpa using hrl2
  obtain⟨G,hG⟩:∃ G,(aA.roots g p).map (aA.cC g p (aA.aH g p aB))=G:=⟨_,rfl⟩;rw[hG] at HROW HFL hgl2 ⊢;clear x0 x1 y0 y1 hsz hrow hc3 hG;go_wp2
  go_loopw [8] (fun c wr=>∃ k:Nat,k≤G.length∧c=.int .i64 k∧Hid (∀ i,i<k→G.getD i 0=0)∧Chg [] w3 wr) (fun c _=>G.length - (intOf c).toNat)
  case atStart=>exact⟨0,Nat.zero_le _,rfl,lh (by omega),Chg.refl _ _⟩
  case round =>
   obtain⟨k,hk,rfl,hz,hc⟩:=hrel;have HC:=lh (HC3.out.t hc);have HCR:=lh hc;by_cases hlt:k<G.length
   ·obtain⟨b,off,rfl,cell⟩:=aL.cellAt (HROW.out.ints.fresh hc) hlt
    have HN:=lh (fun (h:G.getD k 0=0) i (hi:i<k+1)=>show G.getD i 0=0 from by
     by_cases e:i=k
     ·rw[e];exact h
     exact hz.out i (by omega))
    have HB:=lh (fun (h:G.getD k 0≠0)=>show decide (aA.cD g p aB=0)=false from decide_eq_false fun q=>h (HFL.out.2 (aA.bY q).2 k hlt));obtain⟨z,hzz⟩:∃ z,G.getD k 0=z:=⟨_,rfl⟩;rw[hzz] at cell HN HB;clear hc hzz;by_cases q:z=0
    ·have b1:(z != 0)=false:=by simp[q]
     have HN2:=lh (HN.out q);clear q;go_wp2
     go_roundw
     case rel=>exact⟨k+1,by omega,by go_num,HN2,HCR.out⟩
     case measure=>simp[intOf];omega
    have b1:(z != 0)=true:=by simp[q]
    have HE:=lh (HB.out q);clear q;go_wp2;go_ret;exact⟨bK HE.out.symm,HC.out⟩
   have e:k=G.length:=by omega
   subst e;have HE:=lh (show decide (aA.cD g p aB=0)=true from decide_eq_true (aA.gR HTE.out (HFL.out.1 hz.out)));clear hc;go_wp2;go_ret;exact⟨bK HE.out.symm,HC.out⟩
 have HE:=lh (show decide (aA.cD g p aB=0)=false from decide_eq_false fun q=>hte (aA.bY q).1);have b1:((aA.bE g p aB) != 0)=true:=by simp[hte]
 clear hte;generalize aA.bE g p aB=er at *;clear x0 x1 y0 y1 hsz;go_wp2;go_ret;exact⟨bK HE.out.symm,HCW.out⟩
end Go.Proofs.YtkacjmoamgjfpaaGreat
