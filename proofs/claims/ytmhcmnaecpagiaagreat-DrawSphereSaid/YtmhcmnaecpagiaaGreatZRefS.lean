/- ref07: the contracts of Corner, Genus, Sphere. Conditions: a graph, a part, turns that lie in memory and read so, of a bounded size. -/
import Derived.Test.YtmhcmnaecpagiaaGreatZPlanB
namespace Go.Proofs.YtmhcmnaecpagiaaGreat
open Go.RowKit Go.Maps
namespace Plain
theorem face_cases {g:Gr} {p:Pt} {turn:List (List Int)} {W:List Face} (hpe:p.err g=0) (hW:WalksOk g p turn W) {f:Face} (hf:f∈W) :
  (f.2=[]∧-2048<f.1∧f.1<0∧f.corner g = -1 - f.1)∨∃ (d:Nat) (l:List Int),f.1=(d:Int)∧f.2=(d:Int) :: l∧(d:Int)∈p.darts∧d / 2<g.e.length∧d<2048∧f.corner g=g.tail d:=by
 obtain⟨F,e,hT⟩:=hW.split;rw[e] at hf;rcases List.mem_append.1 hf with q | q
 ·obtain⟨v,hv,rfl⟩:=List.mem_map.1 q
  have hv:=List.mem_reverse.1 (List.mem_filter.1 hv).1;have h1:=(Pt.ok_of_err hpe).vr v hv;have h2:=(Gr.err_ok (Pt.err_ok hpe).1).2.1;exact Or.inl ⟨rfl,by show -2048 < -1 - v;omega,by show -1 - v<0;omega,rfl⟩
 obtain⟨l,hl⟩:=hT.key f q;have hd:f.1∈p.darts:=hT.sub _ (List.mem_flatten.2 ⟨f.2,List.mem_map.2 ⟨f,q,rfl⟩,by rw[hl];simp⟩);obtain⟨d,hd1,hd2,hd3⟩:=Pt.dart_nat hpe hd;refine Or.inr ⟨d,l,hd1,by rw[hl,hd1],by rw[←hd1];exact hd,hd2,hd3,?_⟩;unfold Face.corner;rw[hl];show g.tail f.1=_;rw[hd1]
end Plain
set_option maxRecDepth 100000 in
theorem refCorner_low (vg:Value) (g:Plain.Gr) (key:Int) (u:Value) (w:World) (hk:-2048<key∧key<0) (h:GrAt w vg g) :
  Calls Tryz.prog 70 #[vg,.agg #[.int .i64 key,u]] w fun e w'=>e=.returned (.int .i64 (-1 - key))∧Chg [] w w':=by
 obtain⟨eo,cap,rfl,-,-,-,-⟩:=h;have HC1:=lh (((Chg.refl [] w).alloc (.cells #[.int .i64 g.n,.slice eo g.e.length cap] 24)).alloc (.cells #[.int .i64 key,u] 108));have b1:decide (key<0)=true:=decide_eq_true hk.2;have w1:IntKind.i64.wrap (-1 - key) = -1 - key:=IntWalk.i64_in _ (by omega)
 go_enter Tryz.func70,Tryz.ntmps70
 go_wp2;go_ret;exact⟨rfl,HC1.out⟩
set_option maxRecDepth 100000 in
theorem refCorner_high (vg:Value) (g:Plain.Gr) (d:Nat) (u:Value) (w:World) (hd:d / 2<g.e.length) (hm:g.e.length<4294967296) (h:GrAt w vg g) :
  Calls Tryz.prog 70 #[vg,.agg #[.int .i64 d,u]] w fun e w'=>e=.returned (.int .i64 (g.tail d))∧Chg [] w w':=by
 have HG:=lh h;obtain⟨eo,cap,rfl,-,-,-,hcell⟩:=h;have HC1:=lh (((Chg.refl [] w).alloc (.cells #[.int .i64 g.n,.slice eo g.e.length cap] 24)).alloc (.cells #[.int .i64 d,u] 108));have b1:decide ((d:Int)<0)=false:=decide_eq_false (by omega);clear hcell
 go_enter Tryz.func70,Tryz.ntmps70
 go_wp2_with fail
 refine (tail_any _ g d _ hd hm (HG.out.fresh HC1.out)).mono ?_;rintro e w2 ⟨rfl,hc2⟩;have HCF:=lh (HC1.out.t hc2);clear hc2;go_wp2;go_ret;exact⟨rfl,HCF.out⟩
theorem refCorner_any (vg:Value) (g:Plain.Gr) (p:Plain.Pt) (turn:List (List Int)) (f:Plain.Face) (u:Value) (w:World) (hpe:p.err g=0) (hW:Plain.WalksOk g p turn (Plain.walksOf g p turn)) (hf:f∈Plain.walksOf g p turn) (h:GrAt w vg g) :
  Calls Tryz.prog 70 #[vg,.agg #[.int .i64 f.1,u]] w fun e w'=>e=.returned (.int .i64 (f.corner g))∧Chg [] w w':=by
 have hgl:=Plain.Gr.err_ok (Plain.Pt.err_ok hpe).1;rcases Plain.face_cases hpe hW hf with ⟨-,h2,h3,h4⟩ | ⟨d,l,h1,-,-,h2,h3,h4⟩
 ·rw[h4]
  exact refCorner_low vg g f.1 u w ⟨h2,h3⟩ h
 rw[h4,h1];exact refCorner_high vg g d u w h2 (by omega) h
namespace Plain
noncomputable def rest07 (g:Gr) (p:Pt) (W:List Face) (r:Int) (k:Nat):Int:=2 - ((comp g p r).length:Int)+(((p.sub g (comp g p r)).e).length:Int) - (((W.take k).filter fun f=>decide (f.corner g∈comp g p r)).length:Int)
theorem rest07_zero (g:Gr) (p:Pt) (W:List Face) (r:Int):rest07 g p W r 0=2 - ((comp g p r).length:Int)+(((p.sub g (comp g p r)).e).length:Int):=by simp[rest07]
theorem rest07_succ {g:Gr} {p:Pt} {W:List Face} {r:Int} {k:Nat} (hk:k<W.length):rest07 g p W r (k+1)=if (W.getD k (0,[])).corner g∈comp g p r then rest07 g p W r k - 1 else rest07 g p W r k:=by
 unfold rest07;rw[take_face hk,List.filter_append,List.length_append];by_cases h:(W.getD k (0,[])).corner g∈comp g p r
 ·rw[if_pos h,List.filter_cons_of_pos (by simpa using h)];simp;omega
 rw[if_neg h,List.filter_cons_of_neg (by simpa using h)];simp
theorem rest07_all {g:Gr} {p:Pt} (h:PartOk g p) (W:List Face) (r:Int):(rest07 g p W r W.length).tdiv 2=genusAt g p W r:=by
 unfold rest07 genusAt;rw[List.take_length,sub_edges h]
theorem rest07_le (g:Gr) (p:Pt) (W:List Face) (r:Int) (k:Nat):-(p.v.length:Int) - W.length≤rest07 g p W r k∧rest07 g p W r k≤2+p.e.length:=by
 unfold rest07;have h1:=comp_len g p r;have h2:(p.sub g (comp g p r)).e.length≤p.e.length:=List.length_filter_le _ _;have h3:=List.length_filter_le (fun f=>decide (Face.corner g f∈comp g p r)) (W.take k);have h4:(W.take k).length≤W.length:=by rw[List.length_take];omega
 omega
end Plain
set_option maxRecDepth 100000 in
set_option maxHeartbeats 8000000 in
theorem refGenus_any (vg vp vt:Value) (g:Plain.Gr) (p:Plain.Pt) (turn:List (List Int)) (w:World) (hpl:p.e.length≤1000) (hpv:p.v.length≤1000) (hpe:p.err g=0) (hto:Plain.TurnsOk g p turn) (hW:Plain.WalksOk g p turn (Plain.walksOf g p turn)) (hrl:∀ v,(Plain.turnAt turn v).length<4294967296) (hg:GrAt w vg g) (hp:PtAt w vp p) (ht:RowsAt w vt turn) :
  Calls Tryz.prog 54 #[vg,vp,vt] w fun e w'=>∃ ov,e=.returned ov∧RowAt w' w.heap.size ov ((Plain.roots g p).map (Plain.genusAt g p (Plain.walksOf g p turn)))∧Chg [] w w':=by
 have HT:=lh ht;have HPE:=lh hpe;have HTO:=lh hto;have HRL:=lh hrl;have HW:=lh hW;have HPO:=lh (Plain.Pt.ok_of_err hpe);have hwl:=hW.len;have hrl2:(Plain.roots g p).length≤1000:=by rw[←Plain.rootsTo_all];exact Nat.le_trans (Plain.rootsTo_len g p _) hpv
 clear hpe hto hrl hW;have HG:=lh hg;have HP:=lh hp;obtain⟨eo,cap,rfl,hn,hm,hsm,hcell⟩:=hg;obtain⟨v1,v2,rfl,hv,he⟩:=hp;obtain⟨ao,ac,rfl,has,ham,hacell⟩:=hv;obtain⟨bo,bc,rfl,hbs,hbm,hbcell⟩:=he;have HAC:=lh hacell;have HBC:=lh hbcell;have HAS:=lh has;have HBS:=lh hbs;obtain⟨-,-,hc1⟩:=box_two w #[.int .i64 g.n,.slice eo g.e.length cap] #[.slice ao p.v.length ac,.slice bo p.e.length bc] 24 27;have HC1:=lh hc1;have HBXS:=lh (fun w2 h=>two_boxes w (g:=g) (p:=p) (eo:=eo) (ao:=ao) (bo:=bo) (cap:=cap) (ac:=ac) (bc:=bc) (w2:=w2) h);clear hcell hacell hbcell hsm has hbs hn hc1;obtain⟨tno,tc,rfl,htm,-⟩:=ht;obtain⟨x0,x1,y0,y1,hsz⟩:=HBXS.out _ (Chg.refl _ _)
 go_enter Tryz.func54,Tryz.ntmps54
 go_wp2_with fail
 refine (refWalks_any _ _ _ g p turn _ (by omega) (by omega) HPE.out HTO.out HRL.out (HG.out.fresh HC1.out) (HP.out.fresh HC1.out) (HT.out.fresh HC1.out)).mono ?_;rintro e w2 ⟨wv,wx,rfl,hnw,hc2⟩;obtain⟨w1,hw1⟩:∃ w1,((w.alloc (.cells #[.int .i64 g.n,.slice eo g.e.length cap] 24)).alloc (.cells #[.slice ao p.v.length ac,.slice bo p.e.length bc] 27))=w1:=⟨_,rfl⟩;rw[hw1] at HC1 HBXS hc2 hnw;clear hw1 x0 x1 y0 y1 hsz;have HC2:=lh hc2;obtain⟨wo,wc,rfl⟩:=hnw.shape;have HNW:=lh hnw;obtain⟨x0,x1,y0,y1,hsz⟩:=HBXS.out w2 hc2;clear hc2 hnw;obtain⟨W,hWe⟩:∃ W,Plain.walksOf g p turn=W:=⟨_,rfl⟩;have HWE:=lh hWe;rw[hWe] at hwl HNW HW ⊢;clear hWe
 go_wp2_with fail
 refine (refPiecesN_any _ _ g p _ (by omega) (by omega) HPE.out ((HG.out.fresh HC1.out).fresh HC2.out) ((HP.out.fresh HC1.out).fresh HC2.out)).mono ?_;rintro e w3 ⟨pv,px,rfl,hnp,hc3⟩;obtain⟨po,pc,rfl⟩:=hnp.shape;have HC3:=lh (HC2.out.t hc3);have HNW3:=lh (HNW.out.fresh hc3);have HNP:=lh hnp;have HB3:=lh (show w.heap.size≤w3.heap.size from (HC1.out.t HC3.out).size);clear hc3 hnp x0 x1 y0 y1 hsz;obtain⟨x0,x1,y0,y1,hsz⟩:=HBXS.out w3 HC3.out;obtain⟨R,hR⟩:∃ R,Plain.roots g p=R:=⟨_,rfl⟩;have HRE:=lh hR;rw[hR] at hrl2 HNP ⊢;clear hR;go_wp2
 go_loopw [9,10] (fun ov c wr=>∃ i:Nat,i≤R.length∧c=.int .i64 i∧RowAt wr w3.heap.size ov ((R.take i).map (Plain.genusAt g p W))∧Chg [] w3 wr) (fun _ c _=>R.length - (intOf c).toNat)
 case atStart=>exact⟨0,Nat.zero_le _,rfl,by simpa using rowNil' _ _,Chg.refl _ _⟩
 case round =>
  obtain⟨i,hi,rfl,hrow,hc⟩:=hrel;have HROW:=lh hrow;obtain⟨oo,oc,rfl⟩:=hrow.shape;have HC:=lh hc;clear hrow hc x0 x1 y0 y1 hsz;obtain⟨x0,x1,y0,y1,hsz⟩:=HBXS.out wr (HC3.out.t HC.out);by_cases hil:i<R.length
  ·obtain⟨pg,pcc,va,vc,ea,ec,epo,n0,n1,nr0,-⟩:=nest_pair HNP.out rfl hil
   simp only[Value.slice.injEq] at epo;obtain⟨rfl,-,rfl⟩:=epo;have N0:=lh n0;have NR0:=lh nr0;have p0:=HC.out.c n0;have p1:=HC.out.c n1;have HTK:=lh (show (R.take (i+1)).map (Plain.genusAt g p W)=(R.take i).map (Plain.genusAt g p W)++[Plain.genusAt g p W (R.getD i 0)] by rw[Plain.take_snoc hil,List.map_append];rfl);have hol:((R.take i).map (Plain.genusAt g p W)).length≤1000:=by simp;omega
   obtain⟨OL,hOL⟩:∃ OL,(R.take i).map (Plain.genusAt g p W)=OL:=⟨_,rfl⟩;rw[hOL] at HROW HTK hol ⊢;clear hOL;have HZ:=lh (Plain.rest07_zero g p W (R.getD i 0));have HZA:=lh (Plain.rest07_all HPO.out W (R.getD i 0));have HZL:=lh (fun k=>Plain.rest07_le g p W (R.getD i 0) k);have HZS:=lh (fun k (hk:k<W.length)=>Plain.rest07_succ (g:=g) (p:=p) (r:=R.getD i 0) hk);have hcl:=Plain.comp_len g p (R.getD i 0);have hel:(p.sub g (Plain.comp g p (R.getD i 0))).e.length≤p.e.length:=List.length_filter_le _ _;obtain⟨r,hr⟩:∃ r,R.getD i 0=r:=⟨_,rfl⟩;rw[hr] at N0 NR0 p0 p1 HTK HZ HZA HZL HZS hcl hel;obtain⟨C,hC⟩:∃ C,Plain.comp g p r=C:=⟨_,rfl⟩;rw[hC] at N0 NR0 p0 p1 HZ HZS hcl hel;obtain⟨EL,hEL⟩:∃ EL,(p.sub g C).e=EL:=⟨_,rfl⟩;rw[hEL] at p1 HZ hel;have q1:IntKind.i64.wrap (2 - (C.length:Int))=2 - (C.length:Int):=IntWalk.i64_in _ (by omega);have q2:IntKind.i64.wrap (2 - (C.length:Int)+(EL.length:Int))=Plain.rest07 g p W r 0:=by rw[HZ.out,IntWalk.i64_in _ (by omega)]
   clear n0 n1 nr0 hr hC hEL;go_wp2;have hS0:Chg [] wr wr.drew:=(Chg.refl [] wr).drew;refine wp_region_way (Chg [] wr) [0,1,2,3,4,5,6,7,8,9,10,11,12,13,14] (Way.line [0,1,2,3,4,5,6,7,8,9,10,11,12,13,14] .done) (by kernel_rfl) (by kernel_rfl) ?_;simp only[Way.line]
   repeat
    first
     | (refine along_off rfl (by rfl) (by rfl) (fun _ _ _ h=>h) hS0 ?_;simp only[Act.put,Z1,Z2,Z3,Z4,Z5,Z6])
     | (refine along_read (v:=?_) rfl (by rfl) (by rfl) (fun _ _ _ h=>h) hS0 (fun w' hS'=>?_) ?_;rotate_left;(focus (have rd0:=hS'.c p0;have rd1:=hS'.c p1;clear hS';go_simp;try with_reducible rfl));simp only[Act.put,Z1,Z2,Z3,Z4,Z5,Z6])
     | (refine along_skip rfl (by rfl) (by rfl) hS0 ?_;simp only[Act.put,Z1,Z2,Z3,Z4,Z5,Z6])
   refine along_done ?_;have HC4:=lh hS0;clear p0 p1 q1 q2 x0 x1 y0 y1 hsz hS0;generalize hw4:wr.drew=w4 at *;clear hw4;go_wp2
   go_loopw [11,12] (fun nv c wi=>∃ k:Nat,k≤W.length∧c=.int .i64 k∧nv=.int .i64 (Plain.rest07 g p W r k)∧Chg [] w4 wi) (fun _ c _=>W.length - (intOf c).toNat)
   case atStart=>exact⟨0,Nat.zero_le _,rfl,rfl,Chg.refl _ _⟩
   case round =>
    rename World=>wi;obtain⟨k,hk,rfl,rfl,hc5⟩:=hrel;have HC5:=lh (HC4.out.t hc5);have HC53:=lh (HC.out.t HC5.out);have HC45:=lh hc5;clear hc5;by_cases hkl:k<W.length
    ·obtain⟨x0,x1,y0,y1,hsz⟩:=HBXS.out wi (HC3.out.t HC53.out)
     have p0:=HC53.out.c N0.out;obtain⟨wg,wcc,fa,fc,ewo,m0,m1,-⟩:=nest_face HNW3.out rfl hkl;simp only[Value.slice.injEq] at ewo;obtain⟨rfl,-,rfl⟩:=ewo;have f0:=HC53.out.c m0;have f1:=HC53.out.c m1;have hfm:W.getD k (0,[])∈W:=by simp[List.getD,hkl]
     have HZK:=lh (HZS.out k hkl);have hzl:=HZL.out k;have HFM:=lh (show W.getD k (0,[])∈Plain.walksOf g p turn by rw[HWE.out];exact hfm);obtain⟨f,hf⟩:∃ f,W.getD k (0,[])=f:=⟨_,rfl⟩;rw[hf] at f0 f1 HZK HFM;obtain⟨z,hz⟩:∃ z,Plain.rest07 g p W r k=z:=⟨_,rfl⟩;rw[hz] at hzl HZK ⊢;have HWG:=lh (HC1.out.t (HC3.out.t HC53.out));clear m0 m1 hfm hf hz;go_wp2;have hS0:Chg [] wi wi.drew:=(Chg.refl [] wi).drew;refine wp_region_way (Chg [] wi) [0,1,2,3,4,5,6,7,8,9] (Way.line [0,1,2,3,4,5,6,7,8,9,10,11] .done) (by kernel_rfl) (by kernel_rfl) ?_;simp only[Way.line]
     repeat
      first
       | (refine along_off rfl (by rfl) (by rfl) (fun _ _ _ h=>h) hS0 ?_;simp only[Act.put,Z1,Z2,Z3,Z4,Z5,Z6])
       | (refine along_read (v:=?_) rfl (by rfl) (by rfl) (fun _ _ _ h=>h) hS0 (fun w' hS'=>?_) ?_;rotate_left;(focus (have rd0:=hS'.c x0;have rd1:=hS'.c x1;have rd2:=hS'.c p0;have rd3:=hS'.c f0;have rd4:=hS'.c f1;clear hS';go_simp;try with_reducible rfl));simp only[Act.put,Z1,Z2,Z3,Z4,Z5,Z6])
       | (refine along_skip rfl (by rfl) (by rfl) hS0 ?_;simp only[Act.put,Z1,Z2,Z3,Z4,Z5,Z6])
     refine along_op rfl (by rfl) (by rfl) (fun K hK=>?_);go_simp;refine (refCorner_any _ g p turn f _ _ HPE.out (by rw[HWE.out];exact HW.out) HFM.out (HG.out.fresh (HWG.out.t hS0))).mono ?_;rintro e w6 ⟨rfl,hcx⟩;have hS1:=hS0.t hcx;clear hS0 hcx;have hS0:=hS1;clear hS1;refine hK.out _ _ (fun _=>hS0) ?_;clear hK K
     try simp only[Act.put,Z1,Z2,Z3,Z4,Z5,Z6]
     refine along_op rfl (by rfl) (by rfl) (fun K hK=>?_);go_simp;refine (in_any _ C (f.corner g) _ ((NR0.out.ints).fresh (HC53.out.t hS0))).mono ?_;rintro e w7 ⟨rfl,hcx⟩;have hS1:=hS0.t hcx;clear hS0 hcx;have hS0:=hS1;clear hS1;refine hK.out _ _ (fun _=>hS0) ?_;clear hK K
     try simp only[Act.put,Z1,Z2,Z3,Z4,Z5,Z6]
     refine along_done ?_;have HC7:=lh (HC5.out.t hS0);have HC47:=lh ((show Chg [] w4 wi from HC45.out).t hS0);clear x0 x1 y0 y1 hsz p0 f0 f1 hS0;by_cases hin:f.corner g∈C
     ·rw[decide_eq_true hin]
      have HE:=lh (HZK.out.trans (if_pos hin));have q3:IntKind.i64.wrap (z - 1)=z - 1:=IntWalk.i64_in _ (by omega);clear hin;go_wp2
      go_roundw
      case rel=>exact⟨k+1,by omega,by go_num,by rw[HE.out],HC47.out⟩
      case measure=>simp[intOf];omega
     rw[decide_eq_false hin];have HE:=lh (HZK.out.trans (if_neg hin));clear hin;go_wp2
     go_roundw
     case rel=>exact⟨k+1,by omega,by go_num,by rw[HE.out],HC47.out⟩
     case measure=>simp[intOf];omega
    have e:k=W.length:=by omega
    subst e;have hzl:=HZL.out W.length;have hza:=HZA.out;obtain⟨z,hz⟩:∃ z,Plain.rest07 g p W r W.length=z:=⟨_,rfl⟩;rw[hz] at hzl hza ⊢;have HROW5:=lh (HROW.out.chg HC5.out (by simp));have HB5:=lh (show w3.heap.size≤wi.heap.size from HC53.out.size);obtain⟨G,hG⟩:∃ G,Plain.genusAt g p W r=G:=⟨_,rfl⟩;rw[hG] at HTK hza;have hgb:G.natAbs≤z.natAbs:=by rw[←hza,Int.natAbs_tdiv];exact Nat.div_le_self _ _
    have HIG:=lh (show I64 G from I64.mk (by omega) (by omega));have hll:OL.length<4294967290:=by omega
    have q4:IntKind.i64.wrap G=G:=IntWalk.i64_in _ (by omega);clear hz hG
    go_wp2_with (at_builtin;refine wl_push rfl _ _ rfl (B:=w3.heap.size) (v:=.slice oo _ oc) rfl rfl HROW5.out HIG.out HB5.out hll rfl ?_;intro v9 w9 r9 c9 f9;have R9:=lh r9;have C9:=lh c9;clear r9 c9 f9)
    go_roundw
    case rel=>exact⟨i+1,by omega,by go_num,by rw[HTK.out];exact R9.out,HC53.out.trans C9.out (fun j hj=>Or.inr (by rw[HROW5.out.foot] at hj;exact (HROW5.out.low j hj).1))⟩
    case measure=>simp[intOf];omega
  have e:i=R.length:=by omega
  subst e;rw[List.take_length] at HROW ⊢;have HR:=lh (HROW.out.base HB3.out);have HCF:=lh (HC1.out.t (HC3.out.t HC.out));clear x0 x1 y0 y1 hsz;obtain⟨GL,hGL⟩:∃ GL,R.map (Plain.genusAt g p W)=GL:=⟨_,rfl⟩;have HGLE:=lh hGL;rw[hGL] at HR ⊢;clear hGL;go_wp2;go_ret;exact⟨_,rfl,by rw[HRE.out,HWE.out,HGLE.out];exact HR.out,HCF.out⟩
open Classical in
set_option maxRecDepth 100000 in
set_option maxHeartbeats 4000000 in
theorem refSphere_any (vg vp vt:Value) (g:Plain.Gr) (p:Plain.Pt) (turn:List (List Int)) (w:World) (hpl:p.e.length≤1000) (hpv:p.v.length≤1000) (hgl:g.e.length<4294967296) (hrl:∀ v,(Plain.turnAt turn v).length<4294967296) (hg:GrAt w vg g) (hp:PtAt w vp p) (ht:RowsAt w vt turn) :
  Calls Tryz.prog 16 #[vg,vp,vt] w fun e w'=>e=.returned (.bool (decide (Plain.flatErr g p turn=0)))∧Chg [] w w':=by
 have HT:=lh ht;have HRL:=lh hrl;clear hrl;have HG:=lh hg;have HP:=lh hp;obtain⟨eo,cap,rfl,hn,hm,hsm,hcell⟩:=hg;obtain⟨v1,v2,rfl,hv,he⟩:=hp;obtain⟨ao,ac,rfl,has,ham,hacell⟩:=hv;obtain⟨bo,bc,rfl,hbs,hbm,hbcell⟩:=he;have HAC:=lh hacell;have HBC:=lh hbcell;have HAS:=lh has;have HBS:=lh hbs;obtain⟨-,-,hc1⟩:=box_two w #[.int .i64 g.n,.slice eo g.e.length cap] #[.slice ao p.v.length ac,.slice bo p.e.length bc] 24 27;have HC1:=lh hc1;have HBXS:=lh (fun w2 h=>two_boxes w (g:=g) (p:=p) (eo:=eo) (ao:=ao) (bo:=bo) (cap:=cap) (ac:=ac) (bc:=bc) (w2:=w2) h);clear hcell hacell hbcell hsm has hbs hn hc1;obtain⟨tno,tc,rfl,htm,-⟩:=ht;obtain⟨x0,x1,y0,y1,hsz⟩:=HBXS.out _ (Chg.refl _ _)
 go_enter Tryz.func16,Tryz.ntmps16
 go_wp2_with fail
 refine (refTurn_any _ _ _ g p turn _ (by omega) (by omega) hgl (HG.out.fresh HC1.out) (HP.out.fresh HC1.out) (HT.out.fresh HC1.out)).mono ?_;rintro e w2 ⟨rfl,hc2⟩;obtain⟨w1,hw1⟩:∃ w1,((w.alloc (.cells #[.int .i64 g.n,.slice eo g.e.length cap] 24)).alloc (.cells #[.slice ao p.v.length ac,.slice bo p.e.length bc] 27))=w1:=⟨_,rfl⟩;rw[hw1] at HC1 HBXS hc2;clear hw1 x0 x1 y0 y1 hsz;have HC2:=lh hc2;obtain⟨x0,x1,y0,y1,hsz⟩:=HBXS.out w2 hc2;clear hc2;have HCW:=lh (HC1.out.t HC2.out);by_cases hte:Plain.turnErr g p turn=0
 ·obtain⟨hpe,hto⟩:=Plain.turnErr_zero hte
  have hW:Plain.WalksOk g p turn (Plain.walksOf g p turn):=by
   rw[←Plain.mins_walks hpe hto];exact (Plain.mins_trk (Plain.Pt.ok_of_err hpe) (Plain.rises_pair (Plain.Pt.err_ok hpe).2.2.1) hto).walks (Plain.Pt.ok_of_err hpe)
  have HTE:=lh hte;have HPE:=lh hpe;have HTO:=lh hto;have HW:=lh hW;have hrl2:(Plain.roots g p).length≤1000:=by rw[←Plain.rootsTo_all];exact Nat.le_trans (Plain.rootsTo_len g p _) hpv
  rw[hte];clear hte hpe hto hW
  go_wp2_with fail
  refine (refGenus_any _ _ _ g p turn _ hpl hpv HPE.out HTO.out HW.out HRL.out (HG.out.fresh HCW.out) (HP.out.fresh HCW.out) (HT.out.fresh HCW.out)).mono ?_;rintro e w3 ⟨ov,rfl,hrow,hc3⟩;obtain⟨oo,oc,rfl⟩:=hrow.shape;have HROW:=lh hrow;have HC3:=lh (HCW.out.t hc3);have HFL:=lh (show (∀ i,i<((Plain.roots g p).map (Plain.genusAt g p (Plain.walksOf g p turn))).length→((Plain.roots g p).map (Plain.genusAt g p (Plain.walksOf g p turn))).getD i 0=0)↔Plain.Flat g p turn from by
   constructor
   ·intro h r hr
    obtain⟨i,hi,rfl⟩:=Plain.mem_getD hr;have:=h i (by simpa using hi);simpa[List.getD,hi] using this
   intro h i hi;have hi2:i<(Plain.roots g p).length:=by simpa using hi
   have:=h ((Plain.roots g p).getD i 0) (Plain.getD_mem hi2);simpa[List.getD,hi2] using this)
  have hgl2:((Plain.roots g p).map (Plain.genusAt g p (Plain.walksOf g p turn))).length≤1000:=by simpa using hrl2
  obtain⟨G,hG⟩:∃ G,(Plain.roots g p).map (Plain.genusAt g p (Plain.walksOf g p turn))=G:=⟨_,rfl⟩;rw[hG] at HROW HFL hgl2 ⊢;clear x0 x1 y0 y1 hsz hrow hc3 hG;go_wp2
  go_loopw [8] (fun c wr=>∃ k:Nat,k≤G.length∧c=.int .i64 k∧Hid (∀ i,i<k→G.getD i 0=0)∧Chg [] w3 wr) (fun c _=>G.length - (intOf c).toNat)
  case atStart=>exact⟨0,Nat.zero_le _,rfl,lh (by omega),Chg.refl _ _⟩
  case round =>
   obtain⟨k,hk,rfl,hz,hc⟩:=hrel;have HC:=lh (HC3.out.t hc);have HCR:=lh hc;by_cases hlt:k<G.length
   ·obtain⟨b,off,rfl,cell⟩:=IntsAt.cellAt (HROW.out.ints.fresh hc) hlt
    have HN:=lh (fun (h:G.getD k 0=0) i (hi:i<k+1)=>show G.getD i 0=0 from by
     by_cases e:i=k
     ·rw[e];exact h
     exact hz.out i (by omega))
    have HB:=lh (fun (h:G.getD k 0≠0)=>show decide (Plain.flatErr g p turn=0)=false from decide_eq_false fun q=>h (HFL.out.2 (Plain.flatErr_zero q).2 k hlt));obtain⟨z,hzz⟩:∃ z,G.getD k 0=z:=⟨_,rfl⟩;rw[hzz] at cell HN HB;clear hc hzz;by_cases q:z=0
    ·have b1:(z != 0)=false:=by simp[q]
     have HN2:=lh (HN.out q);clear q;go_wp2
     go_roundw
     case rel=>exact⟨k+1,by omega,by go_num,HN2,HCR.out⟩
     case measure=>simp[intOf];omega
    have b1:(z != 0)=true:=by simp[q]
    have HE:=lh (HB.out q);clear q;go_wp2;go_ret;exact⟨ret_bool HE.out.symm,HC.out⟩
   have e:k=G.length:=by omega
   subst e;have HE:=lh (show decide (Plain.flatErr g p turn=0)=true from decide_eq_true (Plain.flatErr_ok HTE.out (HFL.out.1 hz.out)));clear hc;go_wp2;go_ret;exact⟨ret_bool HE.out.symm,HC.out⟩
 have HE:=lh (show decide (Plain.flatErr g p turn=0)=false from decide_eq_false fun q=>hte (Plain.flatErr_zero q).1);have b1:((Plain.turnErr g p turn) != 0)=true:=by simp[hte]
 clear hte;generalize Plain.turnErr g p turn=er at *;clear x0 x1 y0 y1 hsz;go_wp2;go_ret;exact⟨ret_bool HE.out.symm,HCW.out⟩
namespace Plain
theorem turned_at {l:List Int} {a k:Nat} (ha:a<l.length) (hk:k<l.length):(l.drop a++l.take a).getD k 0=l.getD ((a+k) % l.length) 0:=by
 unfold List.getD;by_cases h:k<l.length - a
 ·rw[List.getElem?_append_left (by simp;omega),List.getElem?_drop,Nat.mod_eq_of_lt (by omega)]
 rw[List.getElem?_append_right (by simp;omega),List.length_drop,List.getElem?_take,if_pos (by omega)];rw[show (a+k) % l.length=k - (l.length - a) by rw[Nat.mod_eq_sub_mod (by omega),Nat.mod_eq_of_lt (by omega)];omega]
theorem turned_len {l:List Int} {a:Nat} (ha:a≤l.length):(l.drop a++l.take a).length=l.length:=by simp;omega
end Plain
set_option maxRecDepth 100000 in
set_option maxHeartbeats 2000000 in
theorem refTurned_any (v:Value) (l:List Int) (a:Nat) (w:World) (ha:a<l.length∨(a=0∧l=[])) (hl:l.length<1000000000) (h:IntsAt w v l) :
  Calls Tryz.prog 117 #[v,.int .i64 a] w fun e w'=>∃ ov,e=.returned ov∧RowAt w' w.heap.size ov (l.drop a++l.take a)∧Chg [] w w':=by
 have H:=lh h;have htl:(l.drop a++l.take a).length=l.length:=Plain.turned_len (by rcases ha with q | ⟨q,-⟩ <;> omega);have HTA:=lh (fun k (hk:k<l.length)=>Plain.turned_at (l:=l) (a:=a) (k:=k) (by rcases ha with q | ⟨q,r⟩;exact q;rw[r] at hk;simp at hk) hk);have hal:a≤l.length:=by rcases ha with q | ⟨q,-⟩ <;> omega
 obtain⟨M,hM⟩:∃ M,l.drop a++l.take a=M:=⟨_,rfl⟩;rw[hM] at htl HTA ⊢;have HTL:=lh htl;obtain⟨ao,cap,rfl,hsm,hm,-⟩:=h;have HSM:=lh hsm;clear ha hM htl hsm
 go_enter Tryz.func117,Tryz.ntmps117
 go_wp2
 go_loopw [5,6] (fun ov c wr=>∃ k:Nat,k≤l.length∧c=.int .i64 k∧RowAt wr w.heap.size ov (M.take k)∧Chg [] w wr) (fun _ c _=>l.length - (intOf c).toNat)
 case atStart=>exact⟨0,Nat.zero_le _,rfl,by simpa using rowNil' _ _,Chg.refl _ _⟩
 case round =>
  obtain⟨k,hk,rfl,hrow,hc⟩:=hrel;have HROW:=lh hrow;obtain⟨oo,oc,rfl⟩:=hrow.shape;have HC:=lh hc;by_cases hlt:k<l.length
  ·have hml:(a+k) % l.length<l.length:=Nat.mod_lt _ (by omega)
   obtain⟨b,off,rfl,cell⟩:=IntsAt.cellAt (H.out.fresh hc) hml;have HTK:=lh (show M.take (k+1)=M.take k++[l.getD ((a+k) % l.length) 0] by rw[←HTA.out k hlt];exact Plain.take_snoc (by have:=HTL.out;omega));have HIX:=lh (HSM.out (l.getD ((a+k) % l.length) 0) (by simp[List.getD,hml]));obtain⟨j,hj⟩:∃ j,(a+k) % l.length=j:=⟨_,rfl⟩;have q1:IntKind.i64.wrap ((a:Int)+(k:Int))=(a:Int)+(k:Int):=IntWalk.i64_in _ (by omega);have q2:Int.tmod ((a:Int)+(k:Int)) (l.length:Int)=(j:Int):=by rw[Int.tmod_eq_emod_of_nonneg (by omega),show (a:Int)+(k:Int)=((a+k:Nat):Int) by omega,←hj];omega
   have q3:((l.length:Int)==0)=false:=by rw[beq_eq_false_iff_ne];omega
   rw[hj] at hml cell HTK HIX;obtain⟨z,hz⟩:∃ z,l.getD j 0=z:=⟨_,rfl⟩;rw[hz] at cell HTK HIX;have HB:=lh hc.size;have hll:(M.take k).length<4294967290:=by simp;omega
   obtain⟨L,hL⟩:∃ L,M.take k=L:=⟨_,rfl⟩;rw[hL] at HROW HTK hll ⊢;clear hrow hc hj hz hL
   go_wp2_with (at_builtin;refine wl_push rfl _ _ rfl (B:=w.heap.size) (v:=.slice oo _ oc) rfl rfl HROW.out HIX.out HB.out hll rfl ?_;intro v9 w9 r9 c9 f9;have R9:=lh r9;have C9:=lh c9;clear r9 c9 f9)
   go_roundw
   case rel=>exact⟨k+1,by omega,by go_num,by rw[HTK.out];exact R9.out,HC.out.trans C9.out (fun j hj=>Or.inr (by rw[HROW.out.foot] at hj;exact (HROW.out.low j hj).1))⟩
   case measure=>simp[intOf];omega
  have e:k=l.length:=by omega
  subst e;rw[←HTL.out,List.take_length] at HROW;rw[List.take_of_length_le (by rw[HTL.out];omega)];clear hrow hc;obtain⟨n,hn⟩:∃ n,M.length=n:=⟨_,rfl⟩;rw[hn] at HROW ⊢;clear hn;go_wp2;go_ret;exact⟨_,rfl,HROW.out,HC.out⟩
set_option maxRecDepth 100000 in
set_option maxHeartbeats 2000000 in
theorem refFirst_any (v:Value) (l:List Int) (w:World) (hl:l.length<1000000000) (h:IntsAt w v l) :
  Calls Tryz.prog 55 #[v] w fun e w'=>∃ ov,e=.returned ov∧RowAt w' w.heap.size ov (Plain.first l)∧Chg [] w w':=by
 have H:=lh h;obtain⟨ao,cap,rfl,hsm,hm,-⟩:=h;clear hsm
 go_enter Tryz.func55,Tryz.ntmps55
 go_wp2
 go_loopw [3,4] (fun m c wr=>∃ k:Nat,k≤l.length∧c=.int .i64 k∧m=.int .i64 (Plain.lst l k:Nat)∧Chg [] w wr) (fun _ c _=>l.length - (intOf c).toNat)
 case atStart=>exact⟨0,Nat.zero_le _,rfl,rfl,Chg.refl _ _⟩
 case round =>
  obtain⟨k,hk,rfl,rfl,hc⟩:=hrel;have HC:=lh hc;by_cases hlt:k<l.length
  ·have hll:=Plain.lst_lt (l:=l) (by omega) k hk
   obtain⟨b,off,rfl,ck⟩:=IntsAt.cellAt (H.out.fresh hc) hlt;obtain⟨b',off',e,cm⟩:=IntsAt.cellAt (H.out.fresh hc) hll;obtain⟨rfl,rfl⟩:b=b'∧off=off':=by simpa using e
   have HLS:=lh (show Plain.lst l (k+1)=if l.getD k 0<l.getD (Plain.lst l k) 0 then k else Plain.lst l k from rfl);obtain⟨m,hm2⟩:∃ m,Plain.lst l k=m:=⟨_,rfl⟩;rw[hm2] at hll cm HLS ⊢;obtain⟨x,hx⟩:∃ x,l.getD k 0=x:=⟨_,rfl⟩;obtain⟨y,hy⟩:∃ y,l.getD m 0=y:=⟨_,rfl⟩;rw[hx] at ck HLS;rw[hy] at cm HLS;clear hc e hm2 hx hy;go_wp2;have hS0:Chg [] wr wr.drew:=(Chg.refl [] wr).drew;refine wp_region_way (Chg [] wr) [0,1,2,3,4,5,6,7,8] (Way.line [0,1,2,3,4,5,6,7,8] .done) (by kernel_rfl) (by kernel_rfl) ?_;simp only[Way.line]
   repeat
    first
     | (refine along_off rfl (by rfl) (by rfl) (fun _ _ _ h=>h) hS0 ?_;simp only[Act.put,Z1,Z2,Z3,Z4,Z5,Z6])
     | (refine along_read (v:=?_) rfl (by rfl) (by rfl) (fun _ _ _ h=>h) hS0 (fun w' hS'=>?_) ?_;rotate_left;(focus (have rd0:=hS'.c ck;have rd1:=hS'.c cm;clear hS';go_simp;try with_reducible rfl));simp only[Act.put,Z1,Z2,Z3,Z4,Z5,Z6])
     | (refine along_skip rfl (by rfl) (by rfl) hS0 ?_;simp only[Act.put,Z1,Z2,Z3,Z4,Z5,Z6])
   refine along_done ?_;have HCD:=lh (HC.out.t hS0);clear hS0 ck cm;by_cases q:x<y
   ·have b1:decide (x<y)=true:=decide_eq_true q
    have HE:=lh (HLS.out.trans (if_pos q));clear b1;go_wp2
    go_roundw
    case rel=>exact⟨k+1,by omega,by go_num,by rw[HE.out],HCD.out⟩
    case measure=>simp[intOf];omega
   have b1:decide (x<y)=false:=decide_eq_false q;have HE:=lh (HLS.out.trans (if_neg q));clear b1;go_wp2
   go_roundw
   case rel=>exact⟨k+1,by omega,by go_num,by rw[HE.out],HCD.out⟩
   case measure=>simp[intOf];omega
  have e:k=l.length:=by omega
  subst e;have hm0:Plain.lst l l.length<l.length∨(Plain.lst l l.length=0∧l=[]):=by
   rcases Nat.eq_zero_or_pos l.length with q | q
   ·have:l=[]:=List.length_eq_zero_iff.1 q
    subst this;exact Or.inr ⟨rfl,rfl⟩
   exact Or.inl (Plain.lst_lt q _ (Nat.le_refl _))
  have HF:=lh (show Plain.first l=l.drop (Plain.lst l l.length)++l.take (Plain.lst l l.length) from rfl);have HB:=lh hc.size;obtain⟨m,hm2⟩:∃ m,Plain.lst l l.length=m:=⟨_,rfl⟩;rw[hm2] at hm0 HF ⊢;have HM0:=lh hm0;clear hc hm2 hm0
  go_wp2_with fail
  refine (refTurned_any _ l m _ HM0.out hl (H.out.fresh HC.out)).mono ?_;rintro e w2 ⟨ov,rfl,hrow,hc2⟩;obtain⟨oo,oc,rfl⟩:=hrow.shape;have HR:=lh (hrow.base HB.out);have HCF:=lh (HC.out.t hc2);obtain⟨n,hn⟩:∃ n,(l.drop m++l.take m).length=n:=⟨_,rfl⟩;rw[hn] at HR ⊢;clear hrow hc2 hn;go_wp2;go_ret;exact⟨_,rfl,by rw[HF.out];exact HR.out,HCF.out⟩
set_option maxRecDepth 100000 in
set_option maxHeartbeats 2000000 in
theorem refFirsts_any (vt:Value) (turn:List (List Int)) (w:World) (hTL:turn.length<1000000000) (htr:∀ i,(turn.getD i []).length<1000000000) (h:RowsAt w vt turn) :
  Calls Tryz.prog 18 #[vt] w fun e w'=>∃ ov vs,e=.returned ov∧RowsOwn w' w.heap.size ov vs (turn.map Plain.first)∧RowsAt w' ov (turn.map Plain.first)∧Chg [] w w':=by
 have HT:=lh h;have HTR:=lh htr;obtain⟨tno,tc,rfl,htm,-⟩:=h;clear htr
 go_enter Tryz.func18,Tryz.ntmps18
 go_wp2
 go_loopw [3,4] (fun ov c wr=>∃ (k:Nat) (vs:List Value),k≤turn.length∧c=.int .i64 k∧RowsOwn wr w.heap.size ov vs ((turn.take k).map Plain.first)∧Hid (∀ l∈(turn.take k).map Plain.first,(∀ x∈l,I64 x)∧l.length<4294967296)∧Chg [] w wr) (fun _ c _=>turn.length - (intOf c).toNat)
 case atStart=>exact⟨0,[],Nat.zero_le _,rfl,by simpa using RowsOwn.nil _ _,lh (by simp),Chg.refl _ _⟩
 case round =>
  obtain⟨k,vs,hk,rfl,hro,hsm,hc⟩:=hrel;have HRO:=lh hro;obtain⟨oo,oc,rfl⟩:=owns_shape hro.out;have hvl:vs.length=k:=by rw[hro.len];simp;omega
  have HC:=lh hc;by_cases hlt:k<turn.length
  ·obtain⟨tb,toff,uo,uc,rfl,tcell,hrow⟩:=(HT.out.fresh hc).row hlt
   have HMS:=lh (Plain.map_take_snoc (f:=Plain.first) hlt);have hTl:=HTR.out k;obtain⟨T,hT⟩:∃ T,turn.getD k []=T:=⟨_,rfl⟩;rw[hT] at hrow tcell HMS hTl;have HROW:=lh hrow;have HB:=lh hc.size;have HVL:=lh hvl;obtain⟨n,hn⟩:∃ n,vs.length=n:=⟨_,rfl⟩;have hnn:n<1000000000:=by omega
   have HN:=lh hn;rw[hn];clear hro hrow hc hT hvl hn
   go_wp2_with fail
   refine (refFirst_any _ T _ hTl HROW.out).mono ?_;rintro e w3 ⟨v',rfl,hrv,hc3⟩;obtain⟨vo,vc,rfl⟩:=hrv.shape;have HRV:=lh hrv;have HC3:=lh (HC.out.t hc3);have HRO3:=lh (HRO.out.chg hc3 (by simp) (by simp));have HX:=lh (row_below HRO.out);obtain⟨g5,q5,w5,hr5,hro5,hc5,-⟩:=run_row HRO3.out (by have:=HC3.out.size;omega) HRV.out HB.out HX.out (by have:=HN.out;omega) (Or.inl rfl) 30;rw[HN.out] at hr5 hro5 hc5;have HRO5:=lh hro5;have HC5:=lh (HC3.out.trans hc5 (fun j hj=>Or.inr (by have:=HRO3.out.out.lt j (by rw[HN.out];simpa using hj);exact this.1)));have HS5:=lh (show ∀ l∈(turn.take (k+1)).map Plain.first,(∀ x∈l,I64 x)∧l.length<4294967296 from fun l hl=>by
    rw[HMS.out,List.mem_append] at hl;rcases hl with q | q
    ·exact hsm.out l q
    rw[List.mem_singleton.1 q];exact HRV.out.2)
   clear tcell hrv hc3 hro5 hc5
   go_wp2_with (at_builtin;refine wl_apprun rfl (.tmp 11) (.tmp 17) 30 rfl rfl rfl hr5 ?_)
   go_roundw
   case rel=>exact⟨k+1,_,by omega,by go_num,by rw[HMS.out];exact HRO5.out,HS5,HC5.out⟩
   case measure=>simp[intOf];omega
  have e:k=turn.length:=by omega
  subst e;rw[List.take_length] at HRO hsm;have HRD:=lh (HRO.out.read hsm.out);clear hro hc;obtain⟨TT,hTT⟩:∃ TT,turn.map Plain.first=TT:=⟨_,rfl⟩;have HTT:=lh hTT;rw[hTT] at HRO HRD;clear hTT;have HVL:=lh hvl;clear hvl;obtain⟨n,hn⟩:∃ n,vs.length=n:=⟨_,rfl⟩;rw[hn] at HRO HRD ⊢;clear hn;go_wp2;go_ret;exact⟨_,vs,rfl,by rw[HTT.out];exact HRO.out,by rw[HTT.out];exact HRD.out,HC.out⟩
theorem equals_step {a b:List (List Int)} (hl:a.length=b.length):(List.range a.length).all (fun i=>decide (a.getD i []=b.getD i []))=decide (a=b):=by
 by_cases h:a=b
 ·subst h
  rw[decide_eq_true rfl,List.all_eq_true];simp
 rw[decide_eq_false h,List.all_eq_false];refine Classical.byContradiction fun q=>h (List.ext_getElem hl fun i h1 h2=>?_);refine Classical.byContradiction fun e=>q ⟨i,List.mem_range.2 h1,?_⟩;simpa[List.getD,h1,h2] using e
set_option maxRecDepth 100000 in
set_option maxHeartbeats 2000000 in
theorem refEquals_any (va vb:Value) (a b:List (List Int)) (w:World) (ha:RowsAt w va a) (hb:RowsAt w vb b) :
  Calls Tryz.prog 17 #[va,vb] w fun e w'=>e=.returned (.bool (decide (a=b)))∧Chg [] w w':=by
 have HA:=lh ha;have HB:=lh hb;obtain⟨ao,ac,rfl,ham,-⟩:=ha;obtain⟨bo,bc,rfl,hbm,-⟩:=hb;by_cases hl:a.length=b.length
 ·have HE:=lh (equals_step hl)
  have HL:=lh hl;have hb0:((a.length:Int) != (b.length:Int))=false:=by rw[hl];simp
  clear hl
  go_enter Tryz.func17,Tryz.ntmps17
  go_wp2
  go_loopw [5] (fun c wr=>∃ k:Nat,k≤a.length∧c=.int .i64 k∧Hid ((List.range k).all (fun i=>decide (a.getD i []=b.getD i []))=true)∧Chg [] w wr) (fun c _=>a.length - (intOf c).toNat)
  case atStart=>exact⟨0,Nat.zero_le _,rfl,rfl,Chg.refl _ _⟩
  case round =>
   obtain⟨k,hk,rfl,hall,hc⟩:=hrel;have HC:=lh hc;by_cases hlt:k<a.length
   ·have hkb:k<b.length:=by have:=HL.out;omega
    obtain⟨g1,o1,u1,c1,rfl,m1,r1⟩:=(HA.out.fresh hc).row hlt;obtain⟨g2,o2,u2,c2,rfl,m2,r2⟩:=(HB.out.fresh hc).row hkb;have HF:=lh (fun h=>Plain.all_range_false (p:=fun i=>decide (a.getD i []=b.getD i [])) hlt h);have HS:=lh (Plain.all_range_succ (fun i=>decide (a.getD i []=b.getD i [])) k);obtain⟨x,hx⟩:∃ x,a.getD k []=x:=⟨_,rfl⟩;obtain⟨y,hy⟩:∃ y,b.getD k []=y:=⟨_,rfl⟩;rw[hx] at m1 r1;rw[hy] at m2 r2;have HX:=lh hx;have HY:=lh hy;have R1:=lh r1;have R2:=lh r2;clear hc hx hy r1 r2;go_wp2;have hS0:Chg [] wr wr.drew:=(Chg.refl [] wr).drew;refine wp_region_way (Chg [] wr) [0,1,2,3,4,5,6,7,9] (Way.line [0,1,2,3,4,5,6,7,8,9] .done) (by kernel_rfl) (by kernel_rfl) ?_;simp only[Way.line]
    repeat
     first
      | (refine along_off rfl (by rfl) (by rfl) (fun _ _ _ h=>h) hS0 ?_;simp only[Act.put,Z1,Z2,Z3,Z4,Z5,Z6])
      | (refine along_read (v:=?_) rfl (by rfl) (by rfl) (fun _ _ _ h=>h) hS0 (fun w' hS'=>?_) ?_;rotate_left;(focus (have rd0:=hS'.c m1;have rd1:=hS'.c m2;clear hS';go_simp;try with_reducible rfl));simp only[Act.put,Z1,Z2,Z3,Z4,Z5,Z6])
      | (refine along_skip rfl (by rfl) (by rfl) hS0 ?_;simp only[Act.put,Z1,Z2,Z3,Z4,Z5,Z6])
    refine along_op rfl (by rfl) (by rfl) (fun K hK=>?_);go_simp;refine (equal_any _ _ x y _ (R1.out.fresh hS0) (R2.out.fresh hS0)).mono ?_;rintro e w3 ⟨rfl,hcx⟩;have hS1:=hS0.t hcx;clear hS0 hcx;have hS0:=hS1;clear hS1;refine hK.out _ _ (fun _=>hS0) ?_;clear hK K
    try simp only[Act.put,Z1,Z2,Z3,Z4,Z5,Z6]
    repeat
     first
      | (refine along_off rfl (by rfl) (by rfl) (fun _ _ _ h=>h) hS0 ?_;simp only[Act.put,Z1,Z2,Z3,Z4,Z5,Z6])
      | (refine along_read (v:=?_) rfl (by rfl) (by rfl) (fun _ _ _ h=>h) hS0 (fun w' hS'=>?_) ?_;rotate_left;(focus (have rd0:=hS'.c m1;have rd1:=hS'.c m2;clear hS';go_simp;try with_reducible rfl));simp only[Act.put,Z1,Z2,Z3,Z4,Z5,Z6])
      | (refine along_skip rfl (by rfl) (by rfl) hS0 ?_;simp only[Act.put,Z1,Z2,Z3,Z4,Z5,Z6])
    refine along_done ?_;have HC3:=lh (HC.out.t hS0);clear hS0 m1 m2;by_cases q:x=y
    ·rw[decide_eq_true q]
     have HK2:=lh (show (List.range (k+1)).all (fun i=>decide (a.getD i []=b.getD i []))=true by rw[HS.out,hall.out,HX.out,HY.out];simp[q]);clear q;go_wp2
     go_roundw
     case rel=>exact⟨k+1,by omega,by go_num,HK2,HC3.out⟩
     case measure=>simp[intOf];omega
    rw[decide_eq_false q];have HE2:=lh (show decide (a=b)=false by rw[←HE.out];exact HF.out (by rw[HX.out,HY.out];exact decide_eq_false q));clear q;go_wp2;go_ret;exact⟨ret_bool HE2.out.symm,HC3.out⟩
   have e:k=a.length:=by omega
   subst e;have HE2:=lh (HE.out.symm.trans hall.out);clear hc;go_wp2;go_ret;exact⟨ret_bool HE2.out.symm,HC.out⟩
 have HE:=lh (show decide (a=b)=false from decide_eq_false (fun e=>hl (by rw[e])));have hb0:((a.length:Int) != (b.length:Int))=true:=by simp only[bne_iff_ne];omega
 clear hl
 go_enter Tryz.func17,Tryz.ntmps17
 go_wp2;go_ret;exact⟨ret_bool HE.out.symm,Chg.refl _ _⟩
end Go.Proofs.YtmhcmnaecpagiaaGreat
