/- ref09.To: its contract. Conditions: a drawing, a part of its part, that lie in memory and read so, of a bounded size. -/
import Derived.Test.YtkacjmoamgjfpaaGreatYxRef09
namespace Go.Proofs.YtkacjmoamgjfpaaGreat
open Go.RowKit Go.Maps
set_option maxRecDepth 100000 in
set_option maxHeartbeats 16000000 in
theorem refTo_any (vg vp vx vq:Value) (g:Plain.Gr) (p q:Plain.Pt) (turn same:List (List Int)) (w:World) (hpl:p.e.length≤1000) (hpv:p.v.length≤1000) (hql:q.e.length≤1000) (hqv:q.v.length≤1000) (hTL:turn.length<1000000000) (hrl:∀ v,(Plain.turnAt turn v).length<1000000000) (hsl:same.length≤10000) (hz:Plain.planErr g p turn same=0) (hqe:q.err g=0) (hsub:∀ e∈q.e,e∈p.e) (hsv:∀ v∈q.v,v∈p.v) (hg:GrAt w vg g) (hp:PtAt w vp p) (hx:PlAt w vx turn same) (hq:PtAt w vq q) :
  Calls Tryz.prog 23 #[vg,vp,vx,vq] w fun e w'=>∃ ov,e=.returned ov∧PlAt w' ov (Plain.keepTurn q.e turn) (Plain.restSame g p q turn same)∧Chg [] w w':=by
 have HPZ:=lh hz;have HRL:=lh (fun v=>Nat.lt_trans (hrl v) (by decide:1000000000<4294967296));have HRL9:=lh hrl;have HQE:=lh hqe;have HSUB:=lh hsub;have HSV:=lh hsv;have HQ:=lh hq;obtain⟨hpe,hto⟩:=Plain.turnErr_zero (Plain.flatErr_zero (Plain.planErr_zero hz).1).1;have HPE:=lh hpe;have HTO:=lh hto;have HLD:=lh (fun d (hd:d∈p.darts)=>Plain.left_dart (same:=same) (turn:=turn) hz hd);have HLW:=lh (fun d hd=>Plain.lf_lt (d:=d) hz hd);have HAL:=lh (fun v r hv hr=>Plain.around_lt (v:=v) (r:=r) hz hv hr);have HA1:=lh (fun f h2 hv hn r hr=>Plain.around_one (E:=q.e) (f:=f) (r:=r) hz h2 hv hn hr);have hrn:=Plain.regs_len hpl hpv hz;have HRC:=lh (fun f hf=>Plain.rest_case (f:=f) hpe hto hqe hsub hsv hf);have HKT:=lh (Plain.keepTurn_ok hto hsub);have HKW:=lh (Plain.keep_walks hto hqe hsub);have hWL:=(Plain.walks_ok hqe (Plain.restTurn_ok hto hsub)).len;clear hz hrl hqe hsub hsv hpe hto;have HG:=lh hg;have HP:=lh hp;have HX:=lh hx;obtain⟨eo,cap,rfl,hn,hm,hsm,hcell⟩:=hg;obtain⟨v1,v2,rfl,hv,he⟩:=hp;obtain⟨ao,ac,rfl,has,ham,hacell⟩:=hv;obtain⟨bo,bc,rfl,hbs,hbm,hbcell⟩:=he;have HAC:=lh hacell;have HBC:=lh hbcell;obtain⟨t1,t2,rfl,ht,hs⟩:=hx;have HT:=lh ht;have HS:=lh hs;obtain⟨tno,tc,rfl,htm,-⟩:=ht;obtain⟨so,sc,rfl,hsm2,hsc⟩:=hs;obtain⟨-,-,hc1⟩:=box_two w #[.int .i64 g.n,.slice eo g.e.length cap] #[.slice ao p.v.length ac,.slice bo p.e.length bc] 24 29;obtain⟨-,hc3⟩:=box_three w #[.int .i64 g.n,.slice eo g.e.length cap] #[.slice ao p.v.length ac,.slice bo p.e.length bc] #[.slice tno turn.length tc,.slice so same.length sc] 24 29 32;have HC1:=lh (hc1.t hc3);have HBXS:=lh (fun w2 h=>three_boxes w (g:=g) (p:=p) (turn:=turn) (same:=same) (eo:=eo) (ao:=ao) (bo:=bo) (tno:=tno) (so:=so) (cap:=cap) (ac:=ac) (bc:=bc) (tc:=tc) (sc:=sc) (w2:=w2) h);clear hcell hacell hbcell hsm hbs has hn hc1 hc3 hsc;clear HBXS HC1;obtain⟨v3,v4,rfl,hqv1,hqe1⟩:=hq;have HQEI:=lh hqe1;obtain⟨co,cc,rfl,-,-,-⟩:=hqv1;obtain⟨fo,fc,rfl,-,-,-⟩:=hqe1;have HPEI:=lh (show IntsAt w (.slice bo p.e.length bc) p.e by obtain⟨v1,v2,e,-,he⟩:=HP.out;cases e;exact he);have HC1:=lh (five_chg w #[.int .i64 g.n,.slice eo g.e.length cap] #[.slice ao p.v.length ac,.slice bo p.e.length bc] #[.slice tno turn.length tc,.slice so same.length sc] #[.slice co q.v.length cc,.slice fo q.e.length fc] #[.slice none 0 0,.slice none 0 0] 24 29 32 29 32);have HBXS:=lh (fun w2 h=>five_boxes w (g:=g) (p:=p) (q:=q) (turn:=turn) (same:=same) (eo:=eo) (ao:=ao) (bo:=bo) (tno:=tno) (so:=so) (co:=co) (fo:=fo) (cap:=cap) (ac:=ac) (bc:=bc) (tc:=tc) (sc:=sc) (cc:=cc) (fc:=fc) (w2:=w2) h);obtain⟨⟨x0,x1,y0,y1,z0,z1⟩,q0,q1,r0,hsz⟩:=HBXS.out _ (Chg.refl _ _)
 go_enter Tryz.func23,Tryz.ntmps23
 go_wp2_with fail
 refine (refRegions8_any _ _ _ g p turn same _ hpl hpv HRL.out hsl HPZ.out (HG.out.fresh HC1.out) (HP.out.fresh HC1.out) (HX.out.fresh HC1.out)).mono ?_;rintro e w2 ⟨rv,rfl,hrr,hc2⟩;obtain⟨w1,hw1⟩:∃ w1,(((((w.alloc (.cells #[.int .i64 g.n,.slice eo g.e.length cap] 24)).alloc (.cells #[.slice ao p.v.length ac,.slice bo p.e.length bc] 29)).alloc (.cells #[.slice tno turn.length tc,.slice so same.length sc] 32)).alloc (.cells #[.slice co q.v.length cc,.slice fo q.e.length fc] 29)).alloc (.cells #[.slice none 0 0,.slice none 0 0] 32))=w1:=⟨_,rfl⟩;rw[hw1] at HC1 HBXS hc2;have HC2:=lh hc2;have HW2:=lh (HC1.out.t HC2.out);have HBX:=lh (fun wx (hx:Chg [] w2 wx)=>HBXS.out wx (HC2.out.t hx));have HSZ2:=lh (HBXS.out w2 HC2.out).2.2.2.2;obtain⟨ro,rc,rfl,-,-⟩:=hrr;obtain⟨n,hn⟩:∃ n,(Plain.regionsOf g p turn same).length=n:=⟨_,rfl⟩;rw[hn] at HLW HAL hrn ⊢;have HRS:=lh (show Plain.restSame g p q turn same=Plain.grps (Plain.oneAt (Plain.leftOf (Plain.regionsOf g p turn same) (Plain.walksOf g p turn)) p q.e turn) (Plain.walksOf g q (Plain.restTurn q.e turn)) from (Plain.grps_one _ _ _ _ _).symm);obtain⟨L,hL⟩:∃ L,Plain.leftOf (Plain.regionsOf g p turn same) (Plain.walksOf g p turn)=L:=⟨_,rfl⟩;have HLE:=lh hL;rw[hL] at HLW HAL HLD HA1 HRS;obtain⟨F,hF⟩:∃ F,Plain.walksOf g q (Plain.restTurn q.e turn)=F:=⟨_,rfl⟩;rw[hF] at HRS HRC HKW hWL;clear hw1 x0 x1 y0 y1 z0 z1 q0 q1 r0 hsz hc2 hn hL hF;have HOI:=lh (fun k (hk:k≤p.e.length) x (hx:0≤x∧x<(n:Int))=>Plain.oneF_in (L:=L) (E:=q.e) (fun e he=>HLW.out _ (HLD.out _ (Plain.edge_darts he).1)) k hk hx);go_wp2
 go_loopw [10,11] (fun ov c wr=>∃ k:Nat,k≤n∧c=.int .i64 k∧RowAt wr w2.heap.size ov (Plain.oneL L p q.e k 0)∧Chg [] w2 wr) (fun _ c _=>n - (intOf c).toNat)
 case atStart=>exact⟨0,Nat.zero_le _,rfl,rowNil' _ _,Chg.refl _ _⟩
 case round =>
  obtain⟨k,hk,rfl,hrow,hc⟩:=hrel;have HROW:=lh hrow;have HC:=lh hc;have HW:=lh (show w2.heap.size≤wr.heap.size from hc.size);obtain⟨oo,oc,rfl⟩:=hrow.shape;have hol:=Plain.oneL_len L p q.e k 0;clear hrow hc;by_cases hlt:k<n
  ·have HST:=lh (Plain.oneL_start L p q.e k)
   have IK:I64 (k:Int):=I64.mk (by omega) (by omega);obtain⟨M,hM⟩:∃ M,Plain.oneL L p q.e k 0=M:=⟨_,rfl⟩;rw[hM] at HST HROW hol ⊢;have hml:M.length<4294967290:=by omega
   clear hM hol
   go_wp2_with (at_builtin;refine wl_push rfl _ _ rfl (B:=w2.heap.size) (v:=.slice oo _ oc) rfl rfl HROW.out IK HW.out hml rfl ?_;intro v6 w6 r6 c6 f6;have R6:=lh r6;have C6:=lh c6;clear r6 c6 f6)
   go_roundw
   case rel=>exact⟨k+1,by omega,by go_num,by rw[HST.out];exact R6.out,HC.out.trans C6.out (fun j hj=>Or.inr (by rw[HROW.out.foot] at hj;exact (HROW.out.low j hj).1))⟩
   case measure=>simp[intOf];omega
  have e:k=n:=by omega
  subst e;rw[hol];clear hol;rename World=>wa;go_wp2
  go_loopw [12] (fun c wr=>∃ i:Nat,i≤p.e.length∧c=.int .i64 i∧RowAt wr w2.heap.size (.slice oo k oc) (Plain.oneL L p q.e k i)∧Chg [] w2 wr) (fun c _=>p.e.length - (intOf c).toNat)
  case atStart=>exact⟨0,Nat.zero_le _,rfl,by have:=HROW.out;rw[Plain.oneL_len] at this;exact this,HC.out⟩
  case round =>
   clear HROW HC HW;obtain⟨i,hi,rfl,hrow,hc⟩:=hrel;have HROW:=lh hrow;have HC:=lh hc;have HCW:=lh (HW2.out.t hc);obtain⟨⟨x0,x1,y0,y1,z0,z1⟩,q0,q1,r0,hsz⟩:=HBX.out _ hc;clear hrow hc r0;by_cases hlt:i<p.e.length
   ·obtain⟨eb,eoff,rfl,ec⟩:=IntsAt.cellAt HPEI.out hlt
    have ecell:=HCW.out.c ec;have hem:=Plain.getD_mem hlt;have her:=Plain.Pt.edge_in HPE.out hem;have hgl:=(Plain.Gr.err_ok (Plain.Pt.err_ok HPE.out).1).2.2.1;have hgn:=(Plain.Gr.err_ok (Plain.Pt.err_ok HPE.out).1).1;obtain⟨ne,hne⟩:∃ ne:Nat,p.e.getD i 0=(ne:Int):=⟨(p.e.getD i 0).toNat,by omega⟩;have HON:=lh (fun h=>congrArg (fun f=>(List.range k).map fun (i:Nat)=>f (i:Int)) (Plain.oneF_on (L:=L) (p:=p) (E:=q.e) (k:=i) h));have HALL:=lh (fun h=>Plain.oneM_all (L:=L) (p:=p) (E:=q.e) (n:=k) (k:=i) h);rw[hne] at ecell hem her HON HALL;have hn2:ne<2048:=by omega
    have hd0:=HLD.out _ (Plain.edge_darts hem).1;have hd1:=HLD.out _ (Plain.edge_darts hem).2;have HRD0:=lh hd0;have HRD1:=lh hd1;have hl0:=HLW.out _ hd0;have hl1:=HLW.out _ hd1;have hia:=HOI.out i (by omega) _ hl0;have hib:=HOI.out i (by omega) _ hl1;have w2n:IntKind.i64.wrap (2*(ne:Int))=2*(ne:Int):=IntWalk.i64_in _ (by omega);have w2n1:IntKind.i64.wrap (2*(ne:Int)+1)=2*(ne:Int)+1:=IntWalk.i64_in _ (by omega);clear ec hem her hne hgl hgn hd0 hd1;go_wp2;have hS0:Chg [] wr wr.drew:=(Chg.refl [] wr).drew;refine wp_region_way (Chg [] wr) [0,1,2,3,4,5,6] (Way.line [0,1,2,3,4,5,6,7] .done) (by kernel_rfl) (by kernel_rfl) ?_;simp only[Way.line]
    repeat
     first
      | (refine along_off rfl (by rfl) (by rfl) (fun _ _ _ h=>h) hS0 ?_;simp only[Act.put,Z1,Z2,Z3,Z4,Z5,Z6])
      | (refine along_read (v:=?_) rfl (by rfl) (by rfl) (fun _ _ _ h=>h) hS0 (fun w' hS'=>?_) ?_;rotate_left;(focus (have rd0:=hS'.c q1;have rd1:=hS'.c y1;have rd2:=hS'.c ecell;clear hS';go_simp;try with_reducible rfl));simp only[Act.put,Z1,Z2,Z3,Z4,Z5,Z6])
      | (refine along_skip rfl (by rfl) (by rfl) hS0 ?_;simp only[Act.put,Z1,Z2,Z3,Z4,Z5,Z6])
    refine along_op rfl (by rfl) (by rfl) (fun K hK=>?_);go_simp;refine (in_any _ q.e (ne:Int) _ (HQEI.out.fresh (HCW.out.t hS0))).mono ?_;rintro e w4 ⟨rfl,hcx⟩;have hS1:=hS0.t hcx;clear hS0 hcx;have hS0:=hS1;clear hS1;refine hK.out _ _ (fun _=>hS0) ?_;clear hK K
    try simp only[Act.put,Z1,Z2,Z3,Z4,Z5,Z6]
    refine along_done ?_;have HC4:=lh (HC.out.t hS0);have HW4:=lh (HCW.out.t hS0);have HROW4:=lh (HROW.out.chg hS0 (by simp));have ecell:=hS0.c ecell;clear x0 x1 y0 y1 z0 z1 q0 q1 hsz hS0;by_cases hon:(ne:Int)∈q.e
    ·have HNX:=lh (show Plain.oneL L p q.e k (i+1)=Plain.oneL L p q.e k i from HON.out hon)
     rw[decide_eq_true hon];clear hon ecell;go_wp2
     go_roundw
     case rel=>exact⟨i+1,by omega,by go_num,by rw[HNX.out];exact HROW4.out,HC4.out⟩
     case measure=>simp[intOf];omega
    have HNX:=lh (HALL.out hon);rw[decide_eq_false hon];obtain⟨⟨x0,x1,y0,y1,z0,z1⟩,q0,q1,r0,hsz⟩:=HBX.out _ HC4.out;obtain⟨la,hla⟩:∃ la,Plain.lf L (2*(ne:Int))=la:=⟨_,rfl⟩;obtain⟨lb,hlb⟩:∃ lb,Plain.lf L (2*(ne:Int)+1)=lb:=⟨_,rfl⟩;rw[hla] at hl0 hia HNX;rw[hlb] at hl1 hib HNX;have HLA:=lh hla;have HLB:=lh hlb;obtain⟨na,rfl⟩:∃ na:Nat,la=na:=⟨la.toNat,by omega⟩;obtain⟨nb,rfl⟩:∃ nb:Nat,lb=nb:=⟨lb.toNat,by omega⟩;have hna:na<k:=by omega
    have hnb:nb<k:=by omega
    obtain⟨mg,rfl,hmc⟩:=HROW4.out.some (by rw[Plain.oneL_len];omega);have ca:=hmc na (by rw[Plain.oneL_len];exact hna);have cb:=hmc nb (by rw[Plain.oneL_len];exact hnb);rw[Plain.oneL_at hna] at ca;rw[Plain.oneL_at hnb] at cb;obtain⟨fa,hfa⟩:∃ fa,Plain.oneF L p q.e i (na:Int)=fa:=⟨_,rfl⟩;obtain⟨fb,hfb⟩:∃ fb,Plain.oneF L p q.e i (nb:Int)=fb:=⟨_,rfl⟩;rw[hfa] at ca hia HNX;rw[hfb] at cb hib HNX;have IA:I64 fa:=I64.mk (by omega) (by omega);have HZ:=lh (Plain.oneM_zero L p q.e fa fb k i);clear hmc hfa hfb hla hlb hon r0;go_wp2;have hS0:Chg [] w4 w4.drew:=(Chg.refl [] w4).drew;refine wp_region_way (Chg [] w4) [0,1,2,3,4,5,6,7,8,9,11,12,13,14,15,16,17,18,19,20,21,22,23,25,26,27,28] (Way.line [0,1,2,3,4,5,6,7,8,9,13,14,15,16,17,18,19,20,21,22,23,10,11,12,24,25,26,27,28] .done) (by kernel_rfl) (by kernel_rfl) ?_;simp only[Way.line]
    repeat
     first
      | (refine along_off rfl (by rfl) (by rfl) (fun _ _ _ h=>h) hS0 ?_;simp only[Act.put,Z1,Z2,Z3,Z4,Z5,Z6])
      | (refine along_read (v:=?_) rfl (by rfl) (by rfl) (fun _ _ _ h=>h) hS0 (fun w' hS'=>?_) ?_;rotate_left;(focus (have rd0:=hS'.c x0;have rd1:=hS'.c x1;have rd2:=hS'.c y0;have rd3:=hS'.c y1;have rd4:=hS'.c z0;have rd5:=hS'.c z1;have rd6:=hS'.c ecell;clear hS';go_simp;try with_reducible rfl));simp only[Act.put,Z1,Z2,Z3,Z4,Z5,Z6])
      | (refine along_skip rfl (by rfl) (by rfl) hS0 ?_;simp only[Act.put,Z1,Z2,Z3,Z4,Z5,Z6])
    refine along_op rfl (by rfl) (by rfl) (fun K hK=>?_);go_simp;refine (refLeft_any _ _ _ g p turn same (2*(ne:Int)) _ hpl hpv HRL.out hsl HPZ.out (by rw[HLE.out];exact HRD0.out) (HG.out.fresh (HW4.out.t hS0)) (HP.out.fresh (HW4.out.t hS0)) (HX.out.fresh (HW4.out.t hS0))).mono ?_;rintro e w5 ⟨rfl,hcx⟩;have hS1:=hS0.t hcx;clear hS0 hcx;have hS0:=hS1;clear hS1;refine hK.out _ _ (fun _=>hS0) ?_;clear hK K
    try simp only[Act.put,Z1,Z2,Z3,Z4,Z5,Z6]
    rw[HLE.out,HLA.out]
    repeat
     first
      | (refine along_off rfl (by rfl) (by rfl) (fun _ _ _ h=>h) hS0 ?_;simp only[Act.put,Z1,Z2,Z3,Z4,Z5,Z6])
      | (refine along_read (v:=?_) rfl (by rfl) (by rfl) (fun _ _ _ h=>h) hS0 (fun w' hS'=>?_) ?_;rotate_left;(focus (have rd0:=hS'.c ca;clear hS';go_simp;try with_reducible rfl));simp only[Act.put,Z1,Z2,Z3,Z4,Z5,Z6])
      | (refine along_skip rfl (by rfl) (by rfl) hS0 ?_;simp only[Act.put,Z1,Z2,Z3,Z4,Z5,Z6])
    refine along_op rfl (by rfl) (by rfl) (fun K hK=>?_);go_simp;refine (refLeft_any _ _ _ g p turn same (2*(ne:Int)+1) _ hpl hpv HRL.out hsl HPZ.out (by rw[HLE.out];exact HRD1.out) (HG.out.fresh (HW4.out.t hS0)) (HP.out.fresh (HW4.out.t hS0)) (HX.out.fresh (HW4.out.t hS0))).mono ?_;rintro e w6 ⟨rfl,hcx⟩;have hS1:=hS0.t hcx;clear hS0 hcx;have hS0:=hS1;clear hS1;refine hK.out _ _ (fun _=>hS0) ?_;clear hK K
    try simp only[Act.put,Z1,Z2,Z3,Z4,Z5,Z6]
    rw[HLE.out,HLB.out]
    repeat
     first
      | (refine along_off rfl (by rfl) (by rfl) (fun _ _ _ h=>h) hS0 ?_;simp only[Act.put,Z1,Z2,Z3,Z4,Z5,Z6])
      | (refine along_read (v:=?_) rfl (by rfl) (by rfl) (fun _ _ _ h=>h) hS0 (fun w' hS'=>?_) ?_;rotate_left;(focus (have rd0:=hS'.c cb;clear hS';go_simp;try with_reducible rfl));simp only[Act.put,Z1,Z2,Z3,Z4,Z5,Z6])
      | (refine along_skip rfl (by rfl) (by rfl) hS0 ?_;simp only[Act.put,Z1,Z2,Z3,Z4,Z5,Z6])
    refine along_done ?_;have HC6:=lh (HC4.out.t hS0);have HROW6:=lh (HROW4.out.chg hS0 (by simp));clear x0 x1 y0 y1 z0 z1 q0 q1 hsz ecell hS0 ca cb;go_wp2
    go_loopw [15] (fun c wi=>∃ m:Nat,m≤k∧c=.int .i64 m∧RowAt wi w2.heap.size (.slice (some ⟨mg,0,none⟩) k oc) (Plain.oneM (Plain.oneF L p q.e i) fa fb k m)∧Chg [] w2 wi) (fun c _=>k - (intOf c).toNat)
    case atStart=>exact⟨0,Nat.zero_le _,rfl,by rw[←HZ.out];exact HROW6.out,HC6.out⟩
    case round =>
     rename World=>wi;obtain⟨m,hm',rfl,hgr,hc⟩:=hrel;have HGK:=lh hgr;have HCK:=lh hc;clear hgr hc;by_cases hmi:m<k
     ·obtain⟨mg',e3,gm⟩:=HGK.out.some (by rw[Plain.oneM_len];omega)
      obtain rfl:mg=mg':=by simpa using e3
      have gm:=gm m (by rw[Plain.oneM_len];exact hmi);rw[Plain.oneM_at hmi,if_neg (fun h=>Nat.lt_irrefl _ h.1)] at gm;have fr:=HGK.out.free (by rw[Plain.oneM_len];omega) m;have HS1:=lh (fun h=>Plain.oneM_on (f:=Plain.oneF L p q.e i) (a:=fa) (b:=fb) hmi h);have HS2:=lh (fun h=>Plain.oneM_off (f:=Plain.oneF L p q.e i) (a:=fa) (b:=fb) (n:=k) (m:=m) h);obtain⟨x,hx⟩:∃ x,Plain.oneF L p q.e i (m:Int)=x:=⟨_,rfl⟩;rw[hx] at gm HS1 HS2;clear e3 hx;by_cases hxb:x=fb
      ·have bx:(x==fb)=true:=by rw[beq_iff_eq];exact hxb
       have hset:Chg [mg] wi (wi.setCell ⟨mg,m,none⟩ (.int .i64 fa)):=(Chg.refl _ _).setCell (Or.inl (by simp)) _;have HN:=lh (show RowAt (wi.setCell ⟨mg,m,none⟩ (.int .i64 fa)) w2.heap.size (.slice (some ⟨mg,0,none⟩) k oc) (Plain.oneM (Plain.oneF L p q.e i) fa fb k (m+1)) from by
        rw[←HS1.out hxb];exact HGK.out.set m fa IA)
       have HCN:=lh (HCK.out.trans hset (fun y hy=>Or.inr (by simp at hy;subst hy;exact (HGK.out.low y (by simp[Value.ownBlock])).1)));clear hxb hset;go_wp2
       go_roundw
       case rel=>exact⟨m+1,by omega,by go_num,HN.out,HCN.out⟩
       case measure=>simp[intOf];omega
      have bx:(x==fb)=false:=by rw[beq_eq_false_iff_ne];exact hxb
      have HN:=lh (show RowAt wi w2.heap.size (.slice (some ⟨mg,0,none⟩) k oc) (Plain.oneM (Plain.oneF L p q.e i) fa fb k (m+1)) from by
       rw[←HS2.out hxb];exact HGK.out)
      clear hxb fr;go_wp2
      go_roundw
      case rel=>exact⟨m+1,by omega,by go_num,HN.out,HCK.out⟩
      case measure=>simp[intOf];omega
     have e:m=k:=by omega
     subst e;have HN:=lh (show RowAt wi w2.heap.size (.slice (some ⟨mg,0,none⟩) m oc) (Plain.oneL L p q.e m (i+1)) from by
      have:=HGK.out;rw[HNX.out] at this;exact this)
     go_wp2
     go_roundw
     case rel=>exact⟨i+1,by omega,by go_num,HN.out,HCK.out⟩
     case measure=>simp[intOf];omega
   have e:i=p.e.length:=by omega
   subst e;have HV0:=lh (PlanVar.made wr (wr.heap.size+1) (wr.heap.size+1));have HAC0:=lh ((Chg.refl [] wr).alloc (.cells #[.slice none 0 0,.slice none 0 0] 32));have HSB:=lh (show (wr.alloc (.cells #[.slice none 0 0,.slice none 0 0] 32)).heap.size=wr.heap.size+1 by simp);have HPB:=lh (show w2.heap.size≤wr.heap.size from HC.out.size);have HRB:=lh (HROW.out.chg HAC0.out (by simp));have HLO:=lh (fun b hb=>(HROW.out.low b hb).2);have HCB:=lh (HC.out.t HAC0.out);clear HROW HC HCW x0 x1 y0 z0 z1 q0 q1 hsz hlt;go_wp2;clear y1;generalize (wr.alloc (.cells #[.slice none 0 0,.slice none 0 0] 32))=wb at *;generalize wr.heap.size=pb at *;have HONE:=lh (fun (wx:World) (hc:Chg [pb] wb wx) (x:Nat) (hx:x<k)=>(show ∃ mg,oo=some ⟨mg,0,none⟩∧wx.cell? ⟨mg,x,none⟩=some (.int .i64 (Plain.oneF L p q.e p.e.length (x:Int))) from by
    have hr:=HRB.out.chg hc (fun b hb e=>by have:=HLO.out b hb;simp at e;omega);obtain⟨mg,e,hm⟩:=hr.some (by rw[Plain.oneL_len];omega);have hm:=hm x (by rw[Plain.oneL_len];exact hx);rw[Plain.oneL_at hx] at hm;exact⟨mg,e,hm⟩))
   clear HAC0 HRB HLO hi
   go_loopw [17] (fun c wr=>∃ v:Nat,v≤turn.length∧c=.int .i64 v∧PlanVar wr pb (pb+1) wr.heap.size ((turn.take v).map (Plain.keepOf q.e)) []∧Chg [pb] wb wr) (fun c _=>turn.length - (intOf c).toNat)
   case atStart=>exact⟨0,Nat.zero_le _,rfl,by simpa[HSB.out] using HV0.out,Chg.refl _ _⟩
   case round =>
    rename World=>wv;clear HV0;obtain⟨v,hv,rfl,hpv,hc⟩:=hrel;have HV:=lh hpv;have HC3:=lh hc;have HCV:=lh (HCB.out.trans hc (fun j hj=>Or.inr (by simp at hj;have:=HPB.out;omega)));have HWV:=lh (HW2.out.t HCV.out);obtain⟨⟨x0,x1,y0,y1,z0,z1⟩,q0,q1,r0,hsz⟩:=HBX.out _ HCV.out;have HBV:=lh (show pb+1≤wv.heap.size by have:=hc.size;have:=HSB.out;omega);clear hpv hc r0;by_cases hlt:v<turn.length
    ·obtain⟨tb,toff,uo,uc,rfl,tcell,hrow⟩:=(HT.out.fresh HWV.out).row hlt
     have HMS:=lh (Plain.map_take_snoc (f:=Plain.keepOf q.e) hlt);have HDN:=lh (fun d (hd:d∈turn.getD v [])=>Plain.Pt.dart_nat HPE.out ((HTO.out.mem (v:Int) (by omega) (by have:=HTO.out.len;omega) d).1 hd).1);have hTl:=HRL9.out (v:Int);have hTe:Plain.turnAt turn (v:Int)=turn.getD v []:=rfl;rw[hTe] at hTl;obtain⟨T,hT⟩:∃ T,turn.getD v []=T:=⟨_,rfl⟩;rw[hT] at hrow hTl HMS HDN tcell;have HROW:=lh hrow;have HTC:=lh tcell;have hml:((turn.take v).map (Plain.keepOf q.e)).length<1000000000:=by simp;omega
     obtain⟨LL,hLL⟩:∃ LL,(turn.take v).map (Plain.keepOf q.e)=LL:=⟨_,rfl⟩;rw[hLL] at HV HMS hml;clear hrow hTe hT hLL;go_wp2
     go_loopw [18,19] (fun lv c wi=>∃ j:Nat,j≤T.length∧c=.int .i64 j∧RowAt wi wv.heap.size lv (Plain.keepOf q.e (T.take j))∧Chg [] wv wi) (fun _ c _=>T.length - (intOf c).toNat)
     case atStart=>exact⟨0,Nat.zero_le _,rfl,rowNil' _ _,Chg.refl _ _⟩
     case round =>
      rename World=>wi;obtain⟨j,hj,rfl,hkr,hc⟩:=hrel;have HKR:=lh hkr;have HCI:=lh hc;have HCVI:=lh (HCV.out.t hc);have HWI:=lh (HWV.out.t hc);have HBI:=lh (show wv.heap.size≤wi.heap.size from hc.size);obtain⟨lo,lc,rfl⟩:=hkr.shape;have hkl:=Nat.le_trans (Plain.keepOf_len q.e (T.take j)) (List.length_take_le j T);have tcell:=hc.c HTC.out;clear x0 x1 y0 y1 z0 z1 q0 q1 hsz;obtain⟨⟨x0,x1,y0,y1,z0,z1⟩,q0,q1,r0,hsz⟩:=HBX.out _ HCVI.out;clear hkr hc r0;by_cases hlj:j<T.length
      ·obtain⟨rb,roff,rfl,rc⟩:=IntsAt.cellAt HROW.out hlj
       have rcell:=HCI.out.c rc;obtain⟨nd,hnd,-,hn2⟩:=HDN.out _ (Plain.getD_mem hlj);have HNX:=lh (Plain.keepOf_snoc q.e hlj);rw[hnd] at rcell HNX;have q1d:Int.tdiv (nd:Int) 2=((nd / 2:Nat):Int):=by rw[Int.tdiv_eq_ediv_of_nonneg (by omega)];rfl
       have HDV:=lh (show (nd:Int) / 2=((nd / 2:Nat):Int) from rfl);obtain⟨ee,hee⟩:∃ ee,nd / 2=ee:=⟨_,rfl⟩;rw[hee] at q1d HDV;have we:IntKind.i64.wrap (ee:Int)=ee:=IntWalk.i64_in _ (by omega);have IX:I64 (nd:Int):=I64.mk (by omega) (by omega);rw[HDV.out] at HNX;obtain⟨M,hM⟩:∃ M,Plain.keepOf q.e (T.take j)=M:=⟨_,rfl⟩;rw[hM] at HNX HKR hkl ⊢;have RCE:=lh rcell;clear rc hnd hee hM;go_wp2;have hS0:Chg [] wi wi.drew:=(Chg.refl [] wi).drew;refine wp_region_way (Chg [] wi) [0,1,2,3,4,5,6,7,8,9,10] (Way.line [0,1,2,3,4,5,6,7,8,9,10,11] .done) (by kernel_rfl) (by kernel_rfl) ?_;simp only[Way.line]
       repeat
        first
         | (refine along_off rfl (by rfl) (by rfl) (fun _ _ _ h=>h) hS0 ?_;simp only[Act.put,Z1,Z2,Z3,Z4,Z5,Z6])
         | (refine along_read (v:=?_) rfl (by rfl) (by rfl) (fun _ _ _ h=>h) hS0 (fun w' hS'=>?_) ?_;rotate_left;(focus (have rd0:=hS'.c q1;have rd1:=hS'.c z0;have rd2:=hS'.c tcell;have rd3:=hS'.c rcell;clear hS';go_simp;try with_reducible rfl));simp only[Act.put,Z1,Z2,Z3,Z4,Z5,Z6])
         | (refine along_skip rfl (by rfl) (by rfl) hS0 ?_;simp only[Act.put,Z1,Z2,Z3,Z4,Z5,Z6])
       refine along_op rfl (by rfl) (by rfl) (fun K hK=>?_);go_simp;refine (in_any _ q.e (ee:Int) _ (HQEI.out.fresh (HWI.out.t hS0))).mono ?_;rintro e w8 ⟨rfl,hcx⟩;have hS1:=hS0.t hcx;clear hS0 hcx;have hS0:=hS1;clear hS1;refine hK.out _ _ (fun _=>hS0) ?_;clear hK K
       try simp only[Act.put,Z1,Z2,Z3,Z4,Z5,Z6]
       refine along_done ?_;have HC8:=lh (HCI.out.t hS0);have HCV8:=lh (HCVI.out.t hS0);have HKR8:=lh (HKR.out.chg hS0 (by simp));have HB8:=lh (Nat.le_trans HBI.out hS0.size);have tcell:=hS0.c tcell;have rcell:=hS0.c rcell;clear x0 x1 y0 y1 z0 z1 q0 q1 hsz hS0;obtain⟨⟨x0,x1,y0,y1,z0,z1⟩,q0,q1,r0,hsz⟩:=HBX.out _ HCV8.out;by_cases hin:(ee:Int)∈q.e
       ·have HS:=lh (HNX.out.trans (if_pos hin))
        rw[decide_eq_true hin];have hml2:M.length<4294967290:=by omega
        clear hin r0
        go_wp2_with (at_builtin;refine wl_push rfl _ _ rfl (B:=wv.heap.size) (v:=.slice lo _ lc) rfl rfl HKR8.out IX HB8.out hml2 rfl ?_;intro v6 w6 r6 c6 f6;have R6:=lh r6;have C6:=lh c6;clear r6 c6 f6)
        go_roundw
        case rel=>exact⟨j+1,by omega,by go_num,by rw[HS.out];exact R6.out,HC8.out.trans C6.out (fun j hj=>Or.inr (by rw[HKR8.out.foot] at hj;exact (HKR8.out.low j hj).1))⟩
        case measure=>simp[intOf];omega
       have HS:=lh (HNX.out.trans (if_neg hin));rw[decide_eq_false hin];clear hin r0 tcell rcell x0 x1 y0 y1 z0 z1 q0 q1 hsz;go_wp2
       go_roundw
       case rel=>exact⟨j+1,by omega,by go_num,by rw[HS.out];exact HKR8.out,HC8.out⟩
       case measure=>simp[intOf];omega
      have e:j=T.length:=by omega
      subst e;rw[List.take_length] at HKR hkl ⊢;obtain⟨a1,c1,a2,c2,p0,-⟩:=(HV.out.fresh HCI.out).cells;have P0:=lh p0;obtain⟨M,hM⟩:∃ M,Plain.keepOf q.e T=M:=⟨_,rfl⟩;rw[hM] at HMS HKR hkl ⊢;clear x0 x1 y0 y1 z1 q0 q1 hsz hM;obtain⟨g5,q5,w5,hr5,hf5,⟨u5,hu5⟩,hv5,own5,hc5,ho5⟩:=(HV.out.fresh HCI.out).push0 (by have:=HBV.out;have:=HBI.out;omega) HKR.out HBV.out hml (Or.inl rfl) P0.out 30;have HV5:=lh hv5;have HC5:=lh hc5;have HO5:=lh ho5;clear hv5 hc5 ho5
      go_wp2_with (at_builtin;refine wl_apprun rfl _ _ 30 rfl rfl rfl hr5 ?_)
      clear hf5 hu5 hr5 p0;generalize (w5.setCell ⟨pb,0,none⟩ (.slice (some ⟨g5,0,none⟩) (LL.length+1) q5))=w6 at *;have HC6:=lh (show Chg [pb] wb w6 from HC3.out.trans ((HCI.out.mono (by simp)).trans HC5.out (fun j hj=>Or.inl hj):Chg own5 wv w6) (fun j hj=>(HO5.out j hj).imp (fun e=>by simp[e]) (fun h=>by have:=h.1;have:=HSB.out;omega)))
      go_roundw
      case rel=>exact⟨v+1,by omega,by go_num,by rw[HMS.out];exact HV5.out.up (Nat.le_refl _),HC6.out⟩
      case measure=>simp[intOf];omega
    have e:v=turn.length:=by omega
    subst e;rw[List.take_length] at HV;obtain⟨TT,hTT⟩:∃ TT,turn.map (Plain.keepOf q.e)=TT:=⟨_,rfl⟩;have HTT:=lh (show Plain.keepTurn q.e turn=TT from hTT);rw[hTT] at HV;have hrl2:=fun v=>Nat.lt_of_le_of_lt (Plain.keep_row q.e turn v) (HRL.out v);rw[HTT.out] at HKT HKW hrl2;have HRL2:=lh hrl2;obtain⟨a1,c1,a2,c2,p0,p1⟩:=HV.out.cells;have HRT:=lh (show RowsAt wv (.slice a1 TT.length c1) TT by
     obtain⟨_,_,e,hrt,-⟩:=HV.out.readAt p0 p1;cases e;exact hrt)
    clear hTT hrl2 hlt p1
    go_wp2_with fail
    refine (refWalks_any _ _ _ g q TT _ (by omega) (by omega) HQE.out HKT.out HRL2.out (HG.out.fresh HWV.out) (HQ.out.fresh HWV.out) HRT.out).mono ?_;rintro e w3 ⟨fv,xs,rfl,hnw,hc3⟩;rw[HKW.out] at hnw;have HNW:=lh hnw;have HC33:=lh hc3;have HV3:=lh ((HV.out.fresh hc3).up (Nat.le_refl _));have HCV3:=lh (HCV.out.t hc3);have HCB3:=lh (show Chg [pb] wb w3 from HC3.out.t hc3);have HB3:=lh (show pb+1≤w3.heap.size from Nat.le_trans HBV.out hc3.size);obtain⟨fo2,fc2,rfl⟩:=hnw.shape;have HCC:=lh (fun i (hi:i<F.length)=>(show (F.map (Plain.oneAt L p q.e turn)).getD i 0=Plain.oneAt L p q.e turn (F.getD i (0,[])) by simp[List.getD,hi]));have HCL:=lh (show (F.map (Plain.oneAt L p q.e turn)).length=F.length by simp);obtain⟨CC,hCC⟩:∃ CC,F.map (Plain.oneAt L p q.e turn)=CC:=⟨_,rfl⟩;rw[hCC] at HCC HCL;clear hnw hc3 x0 x1 y0 y1 z0 z1 q0 q1 hsz p0 hCC;go_wp2
    go_loopw [21,22] (fun av c wr=>∃ i:Nat,i≤F.length∧c=.int .i64 i∧RowAt wr w3.heap.size av (CC.take i)∧Chg [] w3 wr) (fun _ c _=>F.length - (intOf c).toNat)
    case atStart=>exact⟨0,Nat.zero_le _,rfl,rowNil' _ _,Chg.refl _ _⟩
    case round =>
     rename World=>wa;obtain⟨i,hi,rfl,hrow,hc⟩:=hrel;have HROW:=lh hrow;have HC:=lh hc;have HCA:=lh (HCV3.out.t hc);have HWA:=lh (HW2.out.t HCA.out);have HBA:=lh (show w3.heap.size≤wa.heap.size from hc.size);have HCBA:=lh (show Chg [pb] wb wa from HCB3.out.t hc);obtain⟨ho,hoc,rfl⟩:=hrow.shape;have hol:=List.length_take_le i CC;obtain⟨⟨x0,x1,y0,y1,z0,z1⟩,q0,q1,r0,hsz⟩:=HBX.out _ HCA.out;clear hrow hc r0;by_cases hlt:i<F.length
     ·obtain⟨wg,wcc,ga,gc,ewo,m0,m1,ur⟩:=nest_face HNW.out rfl hlt
      simp only[Value.slice.injEq] at ewo;obtain⟨rfl,-,rfl⟩:=ewo;have f0:=HC.out.c m0;have hfm:F.getD i (0,[])∈F:=by simp[List.getD,hlt]
      have HNX:=lh (show CC.take (i+1)=CC.take i++[Plain.oneAt L p q.e turn (F.getD i (0,[]))] by rw[←HCC.out i hlt];exact Plain.take_snoc (by rw[HCL.out];exact hlt));have hcase:=HRC.out _ hfm;have HA1F:=lh (fun h2 hv hn r hr=>HA1.out (F.getD i (0,[])) h2 hv hn r hr);have HPF:=lh (show Plain.oneAt L p q.e turn (F.getD i (0,[]))=Plain.oneF L p q.e p.e.length (Plain.lf L (Plain.place turn (F.getD i (0,[])))) from rfl);obtain⟨M,hM⟩:∃ M,CC.take i=M:=⟨_,rfl⟩;rw[hM] at HNX HROW hol ⊢;have hml:M.length<4294967290:=by have:=HCL.out;omega
      obtain⟨z,hz2⟩:∃ z,Plain.oneAt L p q.e turn (F.getD i (0,[]))=z:=⟨_,rfl⟩;rw[hz2] at HNX HA1F HPF;obtain⟨f,hf⟩:∃ f,F.getD i (0,[])=f:=⟨_,rfl⟩;rw[hf] at f0 hcase HA1F HPF;obtain⟨ky,hky⟩:∃ ky,f.1=ky:=⟨_,rfl⟩;rw[hky] at f0 hcase HA1F;have HKY:=lh hky;clear m0 m1 ur hfm hM hz2 hf hky;rcases hcase with ⟨k0,k2,k3,k4,k5⟩ | ⟨k0,k3,k4,k5⟩
      ·have b1:decide (ky<0)=true:=decide_eq_true k0
       have wvv:IntKind.i64.wrap (-1 - ky) = -1 - ky:=IntWalk.i64_in _ (by omega);have HK2:=lh k2;have HK4:=lh k4;have HK5:=lh k5;clear k2 k4 k5
       go_wp2_with fail
       refine (refAround_any _ _ _ g p turn same (-1 - ky) _ hpl hpv HRL.out hsl HPZ.out HK4.out (HG.out.fresh HWA.out) (HP.out.fresh HWA.out) (HX.out.fresh HWA.out)).mono ?_;rintro e w4 ⟨av,A,rfl,har,ha0,ham,hal,hc4⟩;obtain⟨ao2,ac2,rfl⟩:=har.shape;obtain⟨ab2,rfl,hac⟩:=har.some ha0;have acell:=hac 0 ha0;have hra:=ham _ (Plain.getD_mem ha0);rw[HLE.out] at hra;have hrb:=HAL.out _ _ HK4.out hra;have hrz:=HA1F.out HK2.out HK4.out HK5.out _ hra;obtain⟨r,hr⟩:∃ r,A.getD 0 0=r:=⟨_,rfl⟩;rw[hr] at acell hra hrb hrz;obtain⟨nr,rfl⟩:∃ nr:Nat,r=nr:=⟨r.toNat,by omega⟩;have hiz:=HOI.out p.e.length (Nat.le_refl _) _ hrb;obtain⟨mg,rfl,ocell⟩:=HONE.out w4 (HCBA.out.t hc4) nr (by omega);rw[hrz] at ocell hiz;have IZ:I64 z:=I64.mk (by omega) (by omega);have HC4:=lh (HC.out.t hc4);have HROW4:=lh (HROW.out.chg hc4 (by simp));have HB4:=lh (Nat.le_trans HBA.out hc4.size);have hnk:nr<k:=by omega
       clear har ham hac hal hra hrb hrz hr hc4 hiz x0 x1 y0 y1 z0 z1 q0 q1 hsz
       go_wp2_with (at_builtin;refine wl_push rfl _ _ rfl (B:=w3.heap.size) (v:=.slice ho _ hoc) rfl rfl HROW4.out IZ HB4.out hml rfl ?_;intro v6 w6 r6 c6 f6;have R6:=lh r6;have C6:=lh c6;clear r6 c6 f6)
       go_roundw
       case rel=>exact⟨i+1,by omega,by go_num,by rw[HNX.out];exact R6.out,HC4.out.trans C6.out (fun j hj=>Or.inr (by rw[HROW4.out.foot] at hj;exact (HROW4.out.low j hj).1))⟩
       case measure=>simp[intOf];omega
      have b1:decide (ky<0)=false:=decide_eq_false (by omega);have hld:=HLD.out _ k4;have HLDK:=lh hld;have hrb:=HLW.out _ hld;have hrz:=HPF.out;rw[k5] at hrz;obtain⟨r,hr⟩:∃ r,Plain.lf L ky=r:=⟨_,rfl⟩;rw[hr] at hrb hrz;have HRE:=lh hr;obtain⟨nr,rfl⟩:∃ nr:Nat,r=nr:=⟨r.toNat,by omega⟩;have hiz:=HOI.out p.e.length (Nat.le_refl _) _ hrb;have hnk:nr<k:=by omega
      have HRZ:=lh hrz;rw[←hrz] at hiz;have IZ:I64 z:=I64.mk (by omega) (by omega);clear k4 k5 hld hrb hrz hr hiz
      go_wp2_with fail
      refine (refLeft_any _ _ _ g p turn same ky _ hpl hpv HRL.out hsl HPZ.out (by rw[HLE.out];exact HLDK.out) (HG.out.fresh HWA.out) (HP.out.fresh HWA.out) (HX.out.fresh HWA.out)).mono ?_;rintro e w4 ⟨rfl,hc4⟩;rw[HLE.out,HRE.out];obtain⟨mg,rfl,ocell⟩:=HONE.out w4 (HCBA.out.t hc4) nr hnk;rw[←HRZ.out] at ocell;have HC4:=lh (HC.out.t hc4);have HROW4:=lh (HROW.out.chg hc4 (by simp));have HB4:=lh (Nat.le_trans HBA.out hc4.size);clear hc4 x0 x1 y0 y1 z0 z1 q0 q1 hsz
      go_wp2_with (at_builtin;refine wl_push rfl _ _ rfl (B:=w3.heap.size) (v:=.slice ho _ hoc) rfl rfl HROW4.out IZ HB4.out hml rfl ?_;intro v6 w6 r6 c6 f6;have R6:=lh r6;have C6:=lh c6;clear r6 c6 f6)
      go_roundw
      case rel=>exact⟨i+1,by omega,by go_num,by rw[HNX.out];exact R6.out,HC4.out.trans C6.out (fun j hj=>Or.inr (by rw[HROW4.out.foot] at hj;exact (HROW4.out.low j hj).1))⟩
      case measure=>simp[intOf];omega
     have e:i=F.length:=by omega
     subst e;rw[show CC.take F.length=CC by rw[←HCL.out];exact List.take_length] at HROW hol ⊢;have HNA:=lh (HNW.out.fresh HC.out);have HVA:=lh ((HV3.out.fresh HC.out).up (Nat.le_refl _));rw[HCL.out];obtain⟨CF,hCF⟩:∃ CF,Plain.oneAt L p q.e turn=CF:=⟨_,rfl⟩;rw[hCF] at HRS HCC;clear x0 x1 y0 y1 z0 z1 q0 q1 hsz hlt hol HV HV3 HNW hCF;go_wp2
     go_loopw [24] (fun c wr=>∃ i:Nat,i≤F.length∧c=.int .i64 i∧PlanVar wr pb (pb+1) wr.heap.size TT (Plain.grpsTo CF F i)∧Nest wr wv.heap.size 90 2 (.slice fo2 F.length fc2) F.length xs (faceCells F)∧RowAt wr w3.heap.size (.slice ho F.length hoc) CC∧Chg [pb] wb wr) (fun c _=>F.length - (intOf c).toNat)
     case atStart=>exact⟨0,Nat.zero_le _,rfl,HVA.out,HNA.out,by have:=HROW.out;rw[HCL.out] at this;exact this,HCBA.out⟩
     case round =>
      rename World=>wc;clear HROW HNA HVA;obtain⟨i,hi,rfl,hpv,hnw,hrow,hc⟩:=hrel;have HVC:=lh hpv;have HNC:=lh hnw;have HATC:=lh hrow;have HCC5:=lh hc;have HCC2:=lh (HCB.out.trans hc (fun j hj=>Or.inr (by simp at hj;have:=HPB.out;omega)));have HB5:=lh (show pb+1≤wc.heap.size by have:=hc.size;have:=HSB.out;omega);clear hpv hnw hrow hc;by_cases hlt:i<F.length
      ·obtain⟨wg,wcc,ga,gc,ewo,m0,m1,ur⟩:=nest_face HNC.out rfl hlt
       simp only[Value.slice.injEq] at ewo;obtain⟨rfl,-,rfl⟩:=ewo;have HGN:=lh (Plain.grpsTo_next (c:=CF) hlt);have hgl:=Plain.grpsTo_len CF F i;obtain⟨ag,rfl,hac⟩:=HATC.out.some (by rw[HCL.out];omega);have ci:=hac i (by rw[HCL.out];exact hlt);rw[HCC.out i hlt] at ci;have HAC:=lh (fun j (hj:j<F.length)=>by have h:=hac j (by rw[HCL.out];exact hj);rw[HCC.out j hj] at h;exact h);obtain⟨hh,hhe⟩:∃ hh,CF (F.getD i (0,[]))=hh:=⟨_,rfl⟩;rw[hhe] at ci HGN;obtain⟨ki,hki⟩:∃ ki,(F.getD i (0,[])).1=ki:=⟨_,rfl⟩;rw[hki] at m0 HGN;have HM0:=lh m0;have HCI0:=lh ci;clear m0 m1 ur hac ci hhe hki;go_wp2
       go_loopw [25,26] (fun lv c wi=>∃ j:Nat,j≤F.length∧c=.int .i64 j∧RowAt wi wc.heap.size lv (Plain.keysTo CF F hh j)∧Chg [] wc wi) (fun _ c _=>F.length - (intOf c).toNat)
       case atStart=>exact⟨0,Nat.zero_le _,rfl,rowNil' _ _,Chg.refl _ _⟩
       case round =>
        rename World=>wi;obtain⟨j,hj,rfl,hkr,hcw⟩:=hrel;have HKR:=lh hkr;have HCI:=lh hcw;have HBI:=lh (show wc.heap.size≤wi.heap.size from hcw.size);obtain⟨lo,lc,rfl⟩:=hkr.shape;have hkl:=Plain.keysTo_len CF F hh j;clear hkr hcw;by_cases hlj:j<F.length
        ·obtain⟨wg',wcc',ga,gc,ewo,m0,m1,ur⟩:=nest_face HNC.out rfl hlj
         cases ewo;have k0:=HCI.out.c m0;have cj:=HCI.out.c (HAC.out j hlj);have ci:=HCI.out.c HCI0.out;have HKN:=lh (Plain.keysTo_next (c:=CF) (h:=hh) hlj);have hcase:=HRC.out (F.getD j (0,[])) (by simp[List.getD,hlj]);have hkb:-2048<(F.getD j (0,[])).1∧(F.getD j (0,[])).1<2048:=by rcases hcase with ⟨h1,-,h2,-⟩ | ⟨h1,h2,-⟩ <;> omega
         obtain⟨f,hf⟩:∃ f,F.getD j (0,[])=f:=⟨_,rfl⟩;rw[hf] at k0 cj HKN hkb;obtain⟨cx,hcx⟩:∃ x,CF f=x:=⟨_,rfl⟩;rw[hcx] at cj HKN;obtain⟨ky,hky⟩:∃ ky,f.1=ky:=⟨_,rfl⟩;rw[hky] at k0 HKN hkb;have IK:I64 ky:=I64.mk (by omega) (by omega);obtain⟨M,hM⟩:∃ M,Plain.keysTo CF F hh j=M:=⟨_,rfl⟩;rw[hM] at HKN HKR hkl ⊢;have K0:=lh k0;clear m0 m1 ur hcase hkb hf hcx hky hM k0;go_wp2;have hS0:Chg [] wi wi.drew:=(Chg.refl [] wi).drew;refine wp_region_way (Chg [] wi) [0,1,2,3,4,5,6,7,8] (Way.line [0,1,2,3,4,5,6,7,8] .done) (by kernel_rfl) (by kernel_rfl) ?_;simp only[Way.line]
         repeat
          first
           | (refine along_off rfl (by rfl) (by rfl) (fun _ _ _ h=>h) hS0 ?_;simp only[Act.put,Z1,Z2,Z3,Z4,Z5,Z6])
           | (refine along_read (v:=?_) rfl (by rfl) (by rfl) (fun _ _ _ h=>h) hS0 (fun w' hS'=>?_) ?_;rotate_left;(focus (have rd0:=hS'.c cj;have rd1:=hS'.c ci;clear hS';go_simp;try with_reducible rfl));simp only[Act.put,Z1,Z2,Z3,Z4,Z5,Z6])
           | (refine along_skip rfl (by rfl) (by rfl) hS0 ?_;simp only[Act.put,Z1,Z2,Z3,Z4,Z5,Z6])
         refine along_done ?_;have HC8:=lh (HCI.out.t hS0);have HKR8:=lh (HKR.out.chg hS0 (by simp));have HB8:=lh (Nat.le_trans HBI.out hS0.size);have k0:=hS0.c K0.out;clear hS0 ci cj;generalize wi.drew=wd at *;by_cases hxe:cx=hh
         ·have bx:(cx==hh)=true:=by rw[beq_iff_eq];exact hxe
          have HS:=lh (HKN.out.trans (if_pos hxe));have hml:M.length<4294967290:=by omega
          clear hxe
          go_wp2_with (at_builtin;refine wl_push rfl _ _ rfl (B:=wc.heap.size) (v:=.slice lo _ lc) rfl rfl HKR8.out IK HB8.out hml rfl ?_;intro v6 w6 r6 c6 f6;have R6:=lh r6;have C6:=lh c6;clear r6 c6 f6)
          go_roundw
          case rel=>exact⟨j+1,by omega,by go_num,by rw[HS.out];exact R6.out,HC8.out.trans C6.out (fun j hj=>Or.inr (by rw[HKR8.out.foot] at hj;exact (HKR8.out.low j hj).1))⟩
          case measure=>simp[intOf];omega
         have bx:(cx==hh)=false:=by rw[beq_eq_false_iff_ne];exact hxe
         have HS:=lh (HKN.out.trans (if_neg hxe));clear hxe k0;go_wp2
         go_roundw
         case rel=>exact⟨j+1,by omega,by go_num,by rw[HS.out];exact HKR8.out,HC8.out⟩
         case measure=>simp[intOf];omega
        have e:j=F.length:=by omega
        subst e;rw[Plain.keysTo_all] at HKR hkl ⊢;have ki0:=HCI.out.c HM0.out;obtain⟨M,hM⟩:∃ M,Plain.keysAt CF F hh=M:=⟨_,rfl⟩;rw[hM] at HGN HKR hkl ⊢;clear hM hlj hj;by_cases h1:1<M.length
        ·have bl:decide ((M.length:Int) > 1)=true:=decide_eq_true (by omega)
         have hM0:0<M.length:=by omega
         obtain⟨lg,rfl,hlc⟩:=HKR.out.some (by omega);have l0:=hlc 0 (by omega);obtain⟨m0,hm0⟩:∃ m0,M.getD 0 0=m0:=⟨_,rfl⟩;rw[hm0] at l0 HGN;clear hlc hm0;go_wp2;have hS0:Chg [] wi wi.drew:=(Chg.refl [] wi).drew;refine wp_region_way (Chg [] wi) [0,1,2,3,4,5,6,7,8,9,10,11,12,13] (Way.line [0,1,2,3,4,5,6,7,8,9,10,11,12,13] .done) (by kernel_rfl) (by kernel_rfl) ?_;simp only[Way.line]
         repeat
          first
           | (refine along_off rfl (by rfl) (by rfl) (fun _ _ _ h=>h) hS0 ?_;simp only[Act.put,Z1,Z2,Z3,Z4,Z5,Z6])
           | (refine along_read (v:=?_) rfl (by rfl) (by rfl) (fun _ _ _ h=>h) hS0 (fun w' hS'=>?_) ?_;rotate_left;(focus (have rd0:=hS'.c l0;have rd1:=hS'.c ki0;clear hS';go_simp;try with_reducible rfl));simp only[Act.put,Z1,Z2,Z3,Z4,Z5,Z6])
           | (refine along_skip rfl (by rfl) (by rfl) hS0 ?_;simp only[Act.put,Z1,Z2,Z3,Z4,Z5,Z6])
         refine along_done ?_;have HC8:=lh (HCI.out.t hS0);have HKR8:=lh (HKR.out.chg hS0 (by simp));have HB8:=lh (Nat.le_trans HBI.out hS0.size);clear hS0 l0 ki0;generalize wi.drew=wd at *;by_cases h2:m0=ki
         ·have b2:(m0==ki)=true:=by rw[beq_iff_eq];exact h2
          have HS:=lh (HGN.out.trans (if_pos ⟨h1,h2⟩));have HVD:=lh (HVC.out.fresh HC8.out);have HND:=lh (HNC.out.fresh HC8.out);have HATD:=lh (HATC.out.chg HC8.out (by simp));obtain⟨C,hC⟩:∃ C,Plain.grpsTo CF F i=C:=⟨_,rfl⟩;rw[hC] at HS HVD hgl;obtain⟨a1,c1,a2,c2,-,p1⟩:=HVD.out.cells;have P1:=lh p1;clear h1 h2 bl hC;obtain⟨g5,q5,w5,hr5,hf5,⟨u5,hu5⟩,hv5,own5,hc5,ho5⟩:=HVD.out.push1 (by have:=HB5.out;have:=HB8.out;omega) HKR8.out HB5.out (by omega) (Or.inl rfl) P1.out 30;have HV5:=lh hv5;have HC5:=lh hc5;have HO5:=lh ho5;clear hv5 hc5 ho5
          go_wp2_with (at_builtin;refine wl_apprun rfl _ _ 30 rfl rfl rfl hr5 ?_)
          clear hf5 hu5 hr5 p1;generalize (w5.setCell ⟨pb,1,none⟩ (.slice (some ⟨g5,0,none⟩) (C.length+1) q5))=w6 at *;have hkd:∀ j∈own5,∀ cs t r,wd.heap[j]?=some (.cells cs t r)→t=32∨t=27:=fun j hj cs t r h=>(HO5.out j hj).elim (fun e=>by
           obtain⟨o1,v1,o2,v2,hh,-⟩:=HVD.out.ex;rw[e,hh] at h;simp at h;exact Or.inl h.2.1.symm) (fun ⟨_,cs2,r2,h2⟩=>by rw[h2] at h;simp at h;exact Or.inr h.2.1.symm)
          have hst:IntsStay wd w6:=IntsStay.chg HC5.out (fun j hj cs r h=>by rcases hkd j hj cs _ r h with e | e <;> cases e);have hnn:=HND.out.other HC5.out (fun j hj cs t r h=>by rcases hkd j hj cs t r h with e | e <;> (rw[e];exact⟨by decide,by decide⟩));have HC6:=lh (show Chg [pb] wb w6 from HCC5.out.trans ((HC8.out.mono (by simp)).trans HC5.out (fun j hj=>Or.inl hj):Chg own5 wc w6) (fun j hj=>(HO5.out j hj).imp (fun e=>by simp[e]) (fun h=>by have:=h.1;have:=HSB.out;omega)))
          go_roundw
          case rel=>exact⟨i+1,by omega,by go_num,by rw[HS.out];exact HV5.out.up (Nat.le_refl _),hnn,hst.row HATD.out,HC6.out⟩
          case measure=>simp[intOf];omega
         have b2:(m0==ki)=false:=by rw[beq_eq_false_iff_ne];exact h2
         have HS:=lh (HGN.out.trans (if_neg (fun h=>h2 h.2)));clear h1 h2 bl;go_wp2
         go_roundw
         case rel=>exact⟨i+1,by omega,by go_num,by rw[HS.out];exact (HVC.out.fresh HC8.out).up (Nat.le_refl _),HNC.out.fresh HC8.out,HATC.out.chg HC8.out (by simp),HCC5.out.t HC8.out⟩
         case measure=>simp[intOf];omega
        have bl:decide ((M.length:Int) > 1)=false:=decide_eq_false (by omega);have HS:=lh (HGN.out.trans (if_neg (fun h=>h1 h.1)));clear h1 ki0;go_wp2;have hS0:Chg [] wi wi.drew:=(Chg.refl [] wi).drew;refine wp_region_way (Chg [] wi) [0,1,2,3,4,5,6,7,8,9,10,11,12,13] (Way.line [0,1,2,3,4,5,6,7,8,9,10,11,12,13] .done) (by kernel_rfl) (by kernel_rfl) ?_;simp only[Way.line]
        repeat
         first
          | (refine along_off rfl (by rfl) (by rfl) (fun _ _ _ h=>h) hS0 ?_;simp only[Act.put,Z1,Z2,Z3,Z4,Z5,Z6])
          | (refine along_read (v:=?_) rfl (by rfl) (by rfl) (fun _ _ _ h=>h) hS0 (fun w' hS'=>?_) ?_;rotate_left;(focus (skip;clear hS';go_simp;try with_reducible rfl));simp only[Act.put,Z1,Z2,Z3,Z4,Z5,Z6])
          | (refine along_skip rfl (by rfl) (by rfl) hS0 ?_;simp only[Act.put,Z1,Z2,Z3,Z4,Z5,Z6])
        refine along_done ?_;have HC8:=lh (HCI.out.t hS0);clear hS0;generalize wi.drew=wd at *;go_wp2
        go_roundw
        case rel=>exact⟨i+1,by omega,by go_num,by rw[HS.out];exact (HVC.out.fresh HC8.out).up (Nat.le_refl _),HNC.out.fresh HC8.out,HATC.out.chg HC8.out (by simp),HCC5.out.t HC8.out⟩
        case measure=>simp[intOf];omega
      have e:i=F.length:=by omega
      subst e;rw[Plain.grpsTo_all,←HRS.out] at HVC;obtain⟨SS,hSS⟩:∃ SS,Plain.restSame g p q turn same=SS:=⟨_,rfl⟩;have HSS:=lh hSS;rw[hSS] at HVC;obtain⟨a1,c1,a2,c2,p0,p1⟩:=HVC.out.cells;have P0:=lh p0;have P1:=lh p1;obtain⟨-,-,-,hr8,hsz⟩:=HBX.out _ HCC2.out;have HR8:=lh hr8;have r0:=(cell_of_row _ _ 0 _ _ _ hr8).trans (show _=some (Value.slice none 0 0) from rfl);have r1:=(cell_of_row _ _ 1 _ _ _ hr8).trans (show _=some (Value.slice none 0 0) from rfl);have f0:=free_at hr8 0;have f1:=free_at hr8 1;have HSZS:=lh (show w.heap.size+4<pb by have:=HSZ2.out;have:=HPB.out;omega);have HWC:=lh (HW2.out.t HCC2.out);clear hr8 hsz hlt hSS;go_wp2;obtain⟨o0,o1,o2⟩:=out_store HR8.out (.slice a1 TT.length c1) (.slice a2 SS.length c2);have hfin:=(HVC.out.low o2 (fun j hj=>by have:j=w.heap.size+4:=(by simpa using hj);have:=HSZS.out;omega)).readAt (o2.cell P0.out (by have:=HSZS.out;simp;omega)) (o2.cell P1.out (by have:=HSZS.out;simp;omega));refine bodyPost_ret (v:=.agg #[.slice a1 TT.length c1,.slice a2 SS.length c2]) (by simp[results,Tryz.results23,go_sem,o0,o1]) rfl ?_;exact⟨_,rfl,by rw[HTT.out,HSS.out];exact hfin,HWC.out.trans o2 (fun j hj=>Or.inr (by simp at hj;omega))⟩
end Go.Proofs.YtkacjmoamgjfpaaGreat
