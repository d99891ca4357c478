/- the document's blocks: the contract of Together. Conditions: a right part that lies in memory and reads so; edges of it. -/
import Derived.Test.YtmhcmnaecpagiaaGreatZBSolid
import Derived.Test.YtmhcmnaecpagiaaGreatZSkC
namespace Go.Proofs.YtmhcmnaecpagiaaGreat
open Go.RowKit Go.Maps
namespace Plain
noncomputable def togB (g:Gr) (p:Pt) (e f:Int):Bool:=p.v.all fun v=>!apartB g p v e f
theorem togB_iff {g:Gr} {p:Pt} {e f:Int}:togB g p e f=true↔∀ v∈p.v,¬ Apart g p v e f:=by
 unfold togB;rw[List.all_eq_true];refine forall_congr' fun v=>imp_congr_right fun _=>?_;rw[Bool.not_eq_true',Bool.eq_false_iff,Ne,apartB_iff]
end Plain
set_option maxRecDepth 100000 in
set_option maxHeartbeats 4000000 in
theorem tog_any (vg vp:Value) (g:Plain.Gr) (p:Plain.Pt) (e f:Int) (w:World) (hV:p.v.length≤1000000) (hE:p.e.length≤1000000) (hr:p.err g=0) (he:e∈p.e) (hf:f∈p.e) (hg:GrAt w vg g) (hp:PtAt w vp p) :
  Calls Tryz.prog 114 #[vg,vp,.int .i64 e,.int .i64 f] w fun x w'=>x=.returned (.bool (Plain.togB g p e f))∧Chg [] w w':=by
 have HR:=lh hr;have HE2:=lh he;have HF2:=lh hf;have HG:=lh hg;have HP:=lh hp;obtain⟨eo,cap,rfl,hn,hm,hsm,hcell⟩:=hg;obtain⟨v1,v2,rfl,hv,he⟩:=hp;obtain⟨ao,ac,rfl,has,ham,hacell⟩:=hv;obtain⟨bo,bc,rfl,hbs,hbm,hbcell⟩:=he;have HAC:=lh hacell;have HBC:=lh hbcell;have HAS:=lh has;have HBS:=lh hbs;obtain⟨-,-,hc1⟩:=box_two w #[.int .i64 g.n,.slice eo g.e.length cap] #[.slice ao p.v.length ac,.slice bo p.e.length bc] 24 27;have HC1:=lh hc1;have HBXS:=lh (fun w2 h=>two_boxes w (g:=g) (p:=p) (eo:=eo) (ao:=ao) (bo:=bo) (cap:=cap) (ac:=ac) (bc:=bc) (w2:=w2) h);clear hcell hacell hbcell hsm has hbs hn hc1;obtain⟨x0,x1,y0,y1,hsz⟩:=HBXS.out _ (Chg.refl _ _);clear he hf
 go_enter Tryz.func114,Tryz.ntmps114
 go_wp2_with fail
 obtain⟨w1,hw1⟩:∃ w1,((w.alloc (.cells #[.int .i64 g.n,.slice eo g.e.length cap] 24)).alloc (.cells #[.slice ao p.v.length ac,.slice bo p.e.length bc] 27))=w1:=⟨_,rfl⟩;rw[hw1] at HC1 HBXS ⊢;clear hw1 x0 x1 y0 y1 hsz
 go_loopw [9] (fun iv wr=>∃ k:Nat,k≤p.v.length∧iv=.int .i64 k∧Hid (∀ j,j<k→Plain.apartB g p (p.v.getD j 0) e f=false)∧Chg [] w1 wr) (fun iv _=>p.v.length - (intOf iv).toNat)
 case atStart=>exact⟨0,Nat.zero_le _,rfl,lh (by omega),Chg.refl _ _⟩
 case round =>
  obtain⟨k,hk,rfl,hno,hc⟩:=hrel;have HC:=lh hc;obtain⟨x0,x1,y0,y1,hsz⟩:=HBXS.out _ hc;clear hc;by_cases hlt:k<p.v.length
  ·obtain⟨ab,aoff,rfl,hac⟩:=HAC.out (by intro q;rw[q] at hlt;simp at hlt)
   have ck:=(HC1.out.t HC.out).c (hac k hlt);have HGV:=lh (fun (h:Plain.apartB g p (p.v.getD k 0) e f=false) j (hj:j<k+1)=>show Plain.apartB g p (p.v.getD j 0) e f=false from by
    by_cases q:j=k
    ·rw[q];exact h
    exact hno.out j (by omega))
   have HFL:=lh (fun (h:Plain.apartB g p (p.v.getD k 0) e f=true)=>show Plain.togB g p e f=false from by
    rw[Bool.eq_false_iff];intro q;unfold Plain.togB at q;have:=List.all_eq_true.1 q _ (Plain.getD_mem hlt);rw[h] at this;cases this)
   obtain⟨v,hv⟩:∃ v,p.v.getD k 0=v:=⟨_,rfl⟩;rw[hv] at ck HGV HFL;clear hac hv
   go_wp2_with fail
   have hS0:Chg [] wr wr.drew:=(Chg.refl [] wr).drew;refine wp_region_way (Chg [] wr) [0,1,2,3,4,5,6,7,8] (Way.line [0,1,2,3,4,5,6,7,8,9] .done) (by kernel_rfl) (by kernel_rfl) ?_;simp only[Way.line]
   repeat
    first
     | (refine along_off rfl (by rfl) (by rfl) (fun _ _ _ h=>h) hS0 ?_;simp only[Act.put,Z1,Z2,Z3,Z4,Z5,Z6])
     | (refine along_read (v:=?_) rfl (by rfl) (by rfl) (fun _ _ _ h=>h) hS0 (fun w' hS'=>?_) ?_;rotate_left;(focus (have rd0:=hS'.c x0;have rd1:=hS'.c x1;have rd2:=hS'.c y0;have rd3:=hS'.c y1;have rd4:=hS'.c ck;clear hS';go_simp;try with_reducible rfl));simp only[Act.put,Z1,Z2,Z3,Z4,Z5,Z6])
     | (refine along_skip rfl (by rfl) (by rfl) hS0 ?_;simp only[Act.put,Z1,Z2,Z3,Z4,Z5,Z6])
   refine along_op rfl (by rfl) (by rfl) (fun K hK=>?_);go_simp;refine (apart_any _ _ g p v e f _ hV hE HR.out HE2.out HF2.out (HG.out.fresh ((HC1.out.t HC.out).t hS0)) (HP.out.fresh ((HC1.out.t HC.out).t hS0))).mono ?_;rintro e w3 ⟨rfl,hcx⟩;have hS1:=hS0.t hcx;clear hS0 hcx;have hS0:=hS1;clear hS1;refine hK.out _ _ (fun _=>hS0) ?_;clear hK K
   try simp only[Act.put,Z1,Z2,Z3,Z4,Z5,Z6]
   refine along_done ?_;have HC3:=lh (HC.out.t hS0);clear hS0 x0 x1 y0 y1 hsz ck;cases hb:Plain.apartB g p v e f with
   | true =>
    have HT:=lh (HFL.out hb);clear hb;go_wp2;go_ret;exact⟨ret_bool (by show _=Plain.togB g p e f;rw[HT.out]),HC1.out.t HC3.out⟩
   | false =>
    have HT:=lh (HGV.out hb);clear hb;go_wp2
    go_roundw
    case rel=>exact⟨k+1,by omega,by go_num,HT,HC3.out⟩
    case measure=>simp[intOf];omega
  have e1:k=p.v.length:=by omega
  subst e1;have HT:=lh (show Plain.togB g p e f=true by
   unfold Plain.togB;rw[List.all_eq_true];intro v hv;obtain⟨i,hi,rfl⟩:=Plain.mem_getD hv;rw[hno.out i hi];rfl)
  clear hno hk hlt;go_wp2;go_ret;exact⟨ret_bool (by show _=Plain.togB g p e f;rw[HT.out]),HC1.out.t HC.out⟩
namespace Plain
noncomputable def togOf (g:Gr) (p:Pt) (e:Int):List Int:=p.e.filter (togB g p e)
noncomputable def rootB (g:Gr) (p:Pt) (e:Int):Bool:=decide ((togOf g p e).getD 0 0=e)
noncomputable def rootE (g:Gr) (p:Pt):List Int:=p.e.filter (rootB g p)
noncomputable def rbV (g:Gr) (p:Pt) (e:Int):List Int:=(spanPt g (togOf g p e)).v
theorem tog_self {g:Gr} {p:Pt} {e:Int} (he:e∈p.e):e∈togOf g p e:=by
 unfold togOf;rw[List.mem_filter];refine⟨he,?_⟩;unfold togB;rw[List.all_eq_true];intro v _;rw[apartB_same];rfl
end Plain
set_option maxRecDepth 100000 in
set_option maxHeartbeats 8000000 in
theorem refBlk_any (vg vp:Value) (g:Plain.Gr) (p:Plain.Pt) (w:World) (hr:p.err g=0) (hg:GrAt w vg g) (hp:PtAt w vp p) :
  Calls Tryz.prog 51 #[vg,vp] w fun x w'=>∃ ov xs,x=.returned ov∧Nest w' w.heap.size 27 2 ov (Plain.rootE g p).length xs (pcs (Plain.rbV g p) (Plain.togOf g p) (Plain.rootE g p))∧Chg [] w w':=by
 have HR:=lh hr;have HGE:=lh (Plain.Pt.err_ok hr).1;obtain⟨hz4,hz5,hz6,-⟩:=Plain.Gr.err_ok (Plain.Pt.err_ok hr).1;have hE:p.e.length≤1024:=by have:=rises_len (Plain.Pt.err_ok hr).2.2.1;omega
 have hV:p.v.length≤1024:=by have:=rises_len (Plain.Pt.err_ok hr).2.1;omega
 have HE:=lh hE;have HVL:=lh hV;clear hz4 hz5 hz6 hr;have HG:=lh hg;have HP:=lh hp;obtain⟨eo,cap,rfl,hn,hm,hsm,hcell⟩:=hg;obtain⟨v1,v2,rfl,hv,he⟩:=hp;obtain⟨ao,ac,rfl,has,ham,hacell⟩:=hv;obtain⟨bo,bc,rfl,hbs,hbm,hbcell⟩:=he;have HAC:=lh hacell;have HBC:=lh hbcell;have HAS:=lh has;have HBS:=lh hbs;obtain⟨-,-,hc1⟩:=box_two w #[.int .i64 g.n,.slice eo g.e.length cap] #[.slice ao p.v.length ac,.slice bo p.e.length bc] 24 27;have HC1:=lh hc1;have HBXS:=lh (fun w2 h=>two_boxes w (g:=g) (p:=p) (eo:=eo) (ao:=ao) (bo:=bo) (cap:=cap) (ac:=ac) (bc:=bc) (w2:=w2) h);clear hcell hacell hbcell hsm has hbs hn hc1;obtain⟨x0,x1,y0,y1,hsz⟩:=HBXS.out _ (Chg.refl _ _)
 go_enter Tryz.func51,Tryz.ntmps51
 go_wp2_with fail
 obtain⟨w1,hw1⟩:∃ w1,((w.alloc (.cells #[.int .i64 g.n,.slice eo g.e.length cap] 24)).alloc (.cells #[.slice ao p.v.length ac,.slice bo p.e.length bc] 27))=w1:=⟨_,rfl⟩;rw[hw1] at HC1 HBXS ⊢;clear hw1 x0 x1 y0 y1 hsz;have HW1:=lh HC1.out.size
 go_loopw [5,6,7,8] (fun c5 c6 _ _ wr=>∃ i:Nat,i≤p.e.length∧c6=.int .i64 i∧∃ n xs,Hid (n=((p.e.take i).filter (Plain.rootB g p)).length)∧Nest wr w1.heap.size 27 2 c5 n xs (pcs (Plain.rbV g p) (Plain.togOf g p) ((p.e.take i).filter (Plain.rootB g p)))∧Chg [] w1 wr) (fun _ c6 _ _ _=>p.e.length - (intOf c6).toNat)
 case atStart=>exact⟨0,Nat.zero_le _,rfl,0,[],lh (by simp),Nest.nil _ _ _ _,Chg.refl _ _⟩
 case round =>
  obtain⟨i,hi,rfl,n,xs,hn,hne,hc⟩:=hrel;have HNE:=lh hne;have HC:=lh hc;obtain⟨x0,x1,y0,y1,hsz⟩:=HBXS.out _ hc;obtain⟨uo,uc,rfl⟩:=hne.shape;clear hne hc;by_cases hlt:i<p.e.length
  ·obtain⟨eb,poff,rfl,hec⟩:=HBC.out (fun q=>by rw[q] at hlt;simp at hlt)
   have HEC:=lh hec;have hem:=Plain.getD_mem hlt;have HEM:=lh hem;have HFT:=lh (Plain.filter_take_succ (Plain.rootB g p) hlt);obtain⟨e,he⟩:∃ e,p.e.getD i 0=e:=⟨_,rfl⟩;have HEE:=lh he;rw[he] at HEM HFT;have HNL:=lh (show n≤1024 by rw[hn.out];exact Nat.le_trans (List.length_filter_le _ _) (by rw[List.length_take];omega));have HBW:=lh (show w1.heap.size≤wr.heap.size from HC.out.size);clear hec hem he
   go_wp2_with fail
   rename World=>wo
   go_loopw [7,8] (fun c7 c8 wr=>∃ k:Nat,k≤p.e.length∧c8=.int .i64 k∧RowAt wr wo.heap.size c7 ((p.e.take k).filter (Plain.togB g p e))∧Chg [] wo wr) (fun _ c8 _=>p.e.length - (intOf c8).toNat)
   case atStart=>exact⟨0,Nat.zero_le _,rfl,by simpa using rowNil' _ _,Chg.refl _ _⟩
   case round =>
    obtain⟨k,hk,rfl,hrow,hcr⟩:=hrel;have HROW:=lh hrow;have HCR:=lh hcr;have HCW:=lh (HC.out.t hcr);clear x0 x1 y0 y1 hsz;obtain⟨x0,x1,y0,y1,hsz⟩:=HBXS.out _ HCW.out;obtain⟨lo,lc,rfl⟩:=hrow.shape;have HLL:=lh (show ((p.e.take k).filter (Plain.togB g p e)).length≤1024 from Nat.le_trans (List.length_filter_le _ _) (by rw[List.length_take];omega));clear hrow hcr;by_cases hlk:k<p.e.length
    ·have ci:=(HC1.out.t HCW.out).c (HEC.out i hlt)
     have ck:=(HC1.out.t HCW.out).c (HEC.out k hlk);have hfm:=Plain.getD_mem hlk;have HFM:=lh hfm;have HFK:=lh (Plain.filter_take_succ (Plain.togB g p e) hlk);have hif:I64 (p.e.getD k 0):=by have:=Plain.Pt.edge_in HR.out hfm;exact I64.mk (by omega) (by have:=(Plain.Gr.err_ok HGE.out).2.2.1;have:=(Plain.Gr.err_ok HGE.out).1;omega)
     rw[HEE.out] at ci;obtain⟨f,hf⟩:∃ f,p.e.getD k 0=f:=⟨_,rfl⟩;rw[hf] at ck HFM HFK hif;clear hfm hf
     go_wp2_with fail
     have hS0:Chg [] wr wr.drew:=(Chg.refl [] wr).drew;refine wp_region_way (Chg [] wr) [0,1,2,3,4,5,6,7,8,9,10,11] (Way.line [0,1,2,3,4,5,6,7,8,9,10,11,12] .done) (by kernel_rfl) (by kernel_rfl) ?_;simp only[Way.line]
     repeat
      first
       | (refine along_off rfl (by rfl) (by rfl) (fun _ _ _ h=>h) hS0 ?_;simp only[Act.put,Z1,Z2,Z3,Z4,Z5,Z6])
       | (refine along_read (v:=?_) rfl (by rfl) (by rfl) (fun _ _ _ h=>h) hS0 (fun w' hS'=>?_) ?_;rotate_left;(focus (have rd0:=hS'.c x0;have rd1:=hS'.c x1;have rd2:=hS'.c y0;have rd3:=hS'.c y1;have rd4:=hS'.c ci;have rd5:=hS'.c ck;clear hS';go_simp;try with_reducible rfl));simp only[Act.put,Z1,Z2,Z3,Z4,Z5,Z6])
       | (refine along_skip rfl (by rfl) (by rfl) hS0 ?_;simp only[Act.put,Z1,Z2,Z3,Z4,Z5,Z6])
     refine along_op rfl (by rfl) (by rfl) (fun K hK=>?_);go_simp;refine (tog_any _ _ g p e f _ (by have:=HVL.out;omega) (by have:=HE.out;omega) HR.out HEM.out HFM.out (HG.out.fresh ((HC1.out.t HCW.out).t hS0)) (HP.out.fresh ((HC1.out.t HCW.out).t hS0))).mono ?_;rintro e w3 ⟨rfl,hcx⟩;have hS1:=hS0.t hcx;clear hS0 hcx;have hS0:=hS1;clear hS1;refine hK.out _ _ (fun _=>hS0) ?_;clear hK K
     try simp only[Act.put,Z1,Z2,Z3,Z4,Z5,Z6]
     refine along_done ?_;have HRW3:=lh (HROW.out.chg hS0 (by simp));have HC3:=lh (HCR.out.t hS0);have y13:=hS0.c y1;have ck3:=hS0.c ck;clear hS0 x0 x1 y0 y1 hsz ci ck HROW;cases hb:Plain.togB g p e f with
     | true =>
      have HK:=lh (HFK.out.trans (by rw[hb,if_pos rfl]));clear hb;obtain⟨M,hM⟩:∃ M,(p.e.take k).filter (Plain.togB g p e)=M:=⟨_,rfl⟩;rw[hM] at HRW3 HK HLL;have HM:=lh hM;have hml:M.length<4294967290:=by have:=HLL.out;omega
      have HBO:=lh (show wo.heap.size≤w3.heap.size from HC3.out.size);rw[hM];clear hM
      go_wp2_with (at_builtin;refine wl_push rfl _ _ rfl (B:=wo.heap.size) (v:=.slice lo _ lc) rfl rfl HRW3.out hif HBO.out hml rfl ?_;intro v6 w6 r6 c6 f6;have R6:=lh r6;have C6:=lh c6;clear r6 c6 f6)
      go_roundw
      case rel=>exact⟨k+1,by omega,by go_num,by rw[HK.out];exact R6.out,HC3.out.trans C6.out (fun j hj=>Or.inr (HRW3.out.low j (by rw[←HRW3.out.foot];exact hj)).1)⟩
      case measure=>simp[intOf];omega
     | false =>
      have HK:=lh (HFK.out.trans (by rw[hb,if_neg (by simp),List.append_nil]));clear hb;go_wp2
      go_roundw
      case rel=>exact⟨k+1,by omega,by go_num,by rw[HK.out];exact HRW3.out,HC3.out⟩
      case measure=>simp[intOf];omega
    have e1:k=p.e.length:=by omega
    subst e1;have hrow2:RowAt wr wo.heap.size (.slice lo (Plain.togOf g p e).length lc) (Plain.togOf g p e):=by have:=HROW.out;rwa[List.take_length] at this
    have HTS:=lh (Plain.tog_self (g:=g) HEM.out);have HRB:=lh (show Plain.rootB g p e=decide ((Plain.togOf g p e).getD 0 0=e) from rfl);have hll:(Plain.togOf g p e).length≤1024:=by have:=HLL.out;rw[List.take_length] at this;exact this
    have HLM:=lh (show ∀ x∈Plain.togOf g p e,x∈p.e from fun x hx=>(List.mem_filter.1 hx).1);rw[show ((p.e.take p.e.length).filter (Plain.togB g p e)).length=(Plain.togOf g p e).length by rw[List.take_length];rfl];have HTV:=lh (show Plain.rbV g p e=(Plain.spanPt g (Plain.togOf g p e)).v∧(Plain.spanPt g (Plain.togOf g p e)).e=Plain.togOf g p e from⟨rfl,rfl⟩);obtain⟨L,hL⟩:∃ L,Plain.togOf g p e=L:=⟨_,rfl⟩;rw[hL] at hrow2 HTS HRB hll HLM HTV ⊢;have HL:=lh hL;have hl0:0<L.length:=List.length_pos_iff.2 (List.ne_nil_of_mem HTS.out);obtain⟨lb,rfl,hlc⟩:=hrow2.some hl0;have lcell:=hlc 0 hl0;have HROW2:=lh hrow2;have ci:=(HC1.out.t HCW.out).c (HEC.out i hlt);rw[HEE.out] at ci;obtain⟨z,hz⟩:∃ z,L.getD 0 0=z:=⟨_,rfl⟩;rw[hz] at lcell HRB;have HNE3:=lh (HNE.out.fresh HCR.out);clear hrow2 hL hlc hz HROW HLL HNE
    go_wp2_with fail
    have hS0:Chg [] wr wr.drew:=(Chg.refl [] wr).drew;refine wp_region_way (Chg [] wr) [0,1,2,3,4,5,6,7,8] (Way.line [0,1,2,3,4,5,6,7,8] .done) (by kernel_rfl) (by kernel_rfl) ?_;simp only[Way.line]
    repeat
     first
      | (refine along_off rfl (by rfl) (by rfl) (fun _ _ _ h=>h) hS0 ?_;simp only[Act.put,Z1,Z2,Z3,Z4,Z5,Z6])
      | (refine along_read (v:=?_) rfl (by rfl) (by rfl) (fun _ _ _ h=>h) hS0 (fun w' hS'=>?_) ?_;rotate_left;(focus (have rd0:=hS'.c y1;have rd1:=hS'.c lcell;have rd2:=hS'.c ci;clear hS';go_simp;try with_reducible rfl));simp only[Act.put,Z1,Z2,Z3,Z4,Z5,Z6])
      | (refine along_skip rfl (by rfl) (by rfl) hS0 ?_;simp only[Act.put,Z1,Z2,Z3,Z4,Z5,Z6])
    refine along_done ?_;have HNE4:=lh (HNE3.out.fresh hS0);have HRW4:=lh (HROW2.out.chg hS0 (by simp));have HC4:=lh (HCW.out.t hS0);clear hS0 x0 x1 y0 y1 hsz lcell ci HNE3 HROW2;obtain⟨x0,x1,y0,y1,hsz⟩:=HBXS.out _ HC4.out;generalize wr.drew=w4 at *;by_cases hze:z=e
    ·have bz:(z==e)=true:=by rw[beq_iff_eq];exact hze
     have HK:=lh (HFT.out.trans (by rw[HRB.out,decide_eq_true hze,if_pos rfl]));clear hze
     go_wp2_with fail
     refine (span_row _ _ g L _ HGE.out (by omega) (fun x hx=>Plain.Pt.edge_in HR.out (HLM.out x hx)) (HG.out.fresh (HC1.out.t HC4.out)) HRW4.out.ints).mono ?_;rintro _ w6 ⟨v1,v2,rfl,h1,h2,hap,-,hc6⟩;have HNE6:=lh (HNE4.out.fresh hc6);have H1:=lh (h1.base HC4.out.size);have H2:=lh (h2.base HC4.out.size);have H1L:=lh h1.low;have H2L:=lh h2.low;have HAP:=lh hap;have HC6:=lh (HC4.out.t hc6);have HFO:=lh (show foot v1=v1.ownBlock.toList∧foot v2=v2.ownBlock.toList from⟨h1.foot,h2.foot⟩);have hap2:v1.ownBlock=none∨v1.ownBlock≠v2.ownBlock:=by
      cases hq:v1.ownBlock with
      | none=>exact Or.inl rfl
      | some b=>exact Or.inr fun e=>hap b (by rw[h1.foot,hq];simp) (by rw[h2.foot,←e];simp)
     have hap3:v2.ownBlock=none∨v2.ownBlock≠v1.ownBlock:=by
      cases hq:v2.ownBlock with
      | none=>exact Or.inl rfl
      | some b=>exact Or.inr fun e=>hap b (by rw[h1.foot,←e];simp) (by rw[h2.foot,hq];simp)
     have HA2:=lh hap2;have HA3:=lh hap3;obtain⟨o1,c1,rfl⟩:=h1.shape;obtain⟨o2,c2,rfl⟩:=h2.shape;have HON:=lh (show ∀ u∈(#[Value.slice o1 (Plain.spanPt g L).v.length c1,Value.slice o2 (Plain.spanPt g L).e.length c2]:Array Value).toList,u.oneCell'=true from fun u hu=>by
      simp at hu;rcases hu with rfl | rfl <;> rfl)
     have HI:=lh (show n<68719476736 by have:=HNL.out;omega);clear h1 h2 hap hap2 hap3 hc6 x0 x1 y0 y1 hsz
     go_wp2_with (at_builtin;refine wp_app elemPart rfl _ _ rfl (v:=.slice uo n uc) rfl rfl rfl HNE6.out.out HC6.out.size rfl HON.out HI.out ?_;intro g4 cap4 w9 r9 c9 l9;have R9:=lh r9;have C9:=lh c9;clear r9 c9 l9)
     go_roundw
     case rel =>
      have hadd:=HNE6.out.add (us:=[.slice o1 (Plain.spanPt g L).v.length c1,.slice o2 (Plain.spanPt g L).e.length c2]) (ds:=[.row (Plain.spanPt g L).v,.row L]) (by decide) rfl rfl (fun j d hj=>by
       rcases j with _ | _ | j
       ·simp at hj;subst hj;exact H1.out
       ·simp at hj;subst hj;exact H2.out
       ·simp at hj) (fun a b ha hb hne=>by
       simp at ha hb;rcases a with _ | _ | a
       ·rcases b with _ | _ | b
        ·exact absurd rfl hne
        ·exact HA2.out
        omega
       ·rcases b with _ | _ | b
        ·exact HA3.out
        ·exact absurd rfl hne
        omega
       ·omega) (fun a b q ha hb hq e=>by
       have:=(HNE4.out.kind ha hq).2.1;simp at hb;rcases b with _ | _ | b
       ·have:=(H1L.out q (by have e:(Value.slice o1 (Plain.spanPt g L).v.length c1).ownBlock=some q:=e;rw[e];simp)).1
        omega
       ·have:=(H2L.out q (by have e:(Value.slice o2 (Plain.spanPt g L).e.length c2).ownBlock=some q:=e;rw[e];simp)).1
        omega
       omega) R9.out C9.out
      refine⟨i+1,by omega,by go_num,n+1,_,lh (by rw[HK.out,List.length_append,←hn.out];rfl),by rw[HK.out,pcs_snoc,HTV.out.1,HL.out];exact hadd,HC6.out.trans C9.out fun j hj=>Or.inr (HNE6.out.out.lt j (by simpa using hj)).1⟩
     case measure=>simp[intOf];omega
    have bz:(z==e)=false:=by rw[beq_eq_false_iff_ne];exact hze
    have HK:=lh (HFT.out.trans (by rw[HRB.out,decide_eq_false hze,if_neg (by simp),List.append_nil]));clear hze x0 x1 y0 y1 hsz;go_wp2
    go_roundw
    case rel=>exact⟨i+1,by omega,by go_num,n,xs,lh (by rw[HK.out];exact hn.out),by rw[HK.out];exact HNE4.out,HC4.out⟩
    case measure=>simp[intOf];omega
  have e1:i=p.e.length:=by omega
  subst e1;rw[List.take_length] at HNE hn;have hn2:n=(Plain.rootE g p).length:=hn.out;subst hn2;clear hn hi hlt x0 x1 y0 hsz;go_wp2;go_ret;exact⟨_,xs,rfl,HNE.out.base HW1.out,HC1.out.t HC.out⟩
namespace Plain
theorem range_rise (n:Nat):((List.range n).map fun i:Nat=>(i:Int)).Pairwise (·<·):=by
 refine List.pairwise_map.2 (List.pairwise_lt_range.imp fun h=>?_);omega
theorem spanV_ok {g:Gr} {p:Pt} (h:p.err g=0) {E:List Int} (hE:E=p.e):spanV g E g.n.toNat=p.v↔∀ v∈p.v,∃ d∈p.darts,g.tail d=v:=by
 subst hE;have hp:=Pt.ok_of_err h;obtain⟨-,hv,-,-⟩:=Pt.err_ok h;have hhit:∀ v,hitS g p.e v=true↔∃ d∈p.darts,g.tail d=v:=fun v=>by
  unfold hitS;rw[List.any_eq_true];constructor
  ·rintro ⟨e,he,q⟩
   rw[Bool.or_eq_true,decide_eq_true_iff,decide_eq_true_iff] at q;have h2:=tail_even g e;have hd:2*e∈p.darts:=mem_darts.2 (by rwa[show 2*e / 2=e by omega]);rcases q with q | q
   ·exact⟨2*e,hd,by rw[h2.1,q]⟩
   exact⟨twin (2*e),twin_mem hd,by rw[tail_twin,h2.2,q]⟩
  rintro ⟨d,hd,q⟩;refine⟨d / 2,mem_darts.1 hd,?_⟩;rw[Bool.or_eq_true,decide_eq_true_iff,decide_eq_true_iff];rcases dart_ats g d with ⟨j1,-⟩ | ⟨j1,-⟩
  ·exact Or.inl (j1.symm.trans q)
  exact Or.inr (j1.symm.trans q)
 have hmem:∀ v,v∈spanV g p.e g.n.toNat↔∃ d∈p.darts,g.tail d=v:=fun v=>by
  unfold spanV;rw[List.mem_filter,hhit,List.mem_map];refine⟨fun k=>k.2,fun ⟨d,hd,q⟩=>⟨?_,d,hd,q⟩⟩;have:=hp.vr _ (hp.tail_mem hd).1;exact⟨v.toNat,List.mem_range.2 (by omega),by omega⟩
 constructor
 ·intro q v hv'
  rw[←q,hmem] at hv';exact hv'
 intro q;refine rise_ext ((range_rise _).filter _) (rises_pair hv) fun v=>?_;rw[hmem];exact⟨fun ⟨d,hd,e⟩=>by rw[←e];exact (hp.tail_mem hd).1,q v⟩
theorem solid_ref {g:Gr} {p:Pt} (h:p.err g=0):((rootE g p).length=1∧rbV g p ((rootE g p).getD 0 0)=p.v∧togOf g p ((rootE g p).getD 0 0)=p.e)↔SolidP g p:=by
 have hp:=Pt.ok_of_err h;constructor
 ·rintro ⟨h1,h2,h3⟩
  refine⟨?_,?_⟩
  ·obtain⟨r,hr⟩:=List.length_eq_one_iff.1 h1
   rw[hr] at h3;have h3:togOf g p r=p.e:=h3;have hrm:r∈rootE g p:=by rw[hr];simp
   obtain⟨hre,hrb⟩:=List.mem_filter.1 hrm;unfold rootB at hrb;rw[decide_eq_true_iff,h3] at hrb;cases he:p.e with
   | nil=>rw[he] at hre;simp at hre
   | cons e0 l =>
    rw[he] at hrb;have hrb:e0=r:=hrb;refine⟨e0,l,rfl,fun e hem v hv=>?_⟩;have:e∈togOf g p r:=by rw[h3,he];exact hem
    rw[←hrb] at this;exact togB_iff.1 (List.mem_filter.1 this).2 v hv
  refine (spanV_ok h h3).1 h2
 intro hS;have hall:=solid_any hS;obtain⟨⟨e0,l,he,-⟩,hV⟩:=hS;have htog:∀ e∈p.e,togOf g p e=p.e:=fun e hem=>by
  unfold togOf;exact List.filter_eq_self.2 fun f hf=>togB_iff.2 fun v hv=>hall e hem f hf v hv
 have hroot:rootE g p=[e0]:=by
  unfold rootE;have hn:=hp.en;have hb:∀ e∈p.e,rootB g p e=decide (e0=e):=fun e hem=>by unfold rootB;rw[htog e hem,he];rfl
  rw[List.filter_congr hb,he];rw[he,List.nodup_cons] at hn;rw[List.filter_cons_of_pos (by simp)]
  congr 1
  rw[List.filter_eq_nil_iff];intro x hx q;rw[decide_eq_true_iff] at q;exact hn.1 (q ▸ hx)
 rw[hroot];have h0:e0∈p.e:=by rw[he];simp
 exact⟨rfl,(spanV_ok h (htog e0 h0)).2 hV,htog e0 h0⟩
end Plain
set_option maxRecDepth 100000 in
set_option maxHeartbeats 4000000 in
theorem refSol_any (vg vp:Value) (g:Plain.Gr) (p:Plain.Pt) (w:World) (hr:p.err g=0) (hg:GrAt w vg g) (hp:PtAt w vp p) :
  Calls Tryz.prog 15 #[vg,vp] w fun e w'=>e=.returned (.bool (Plain.solidB g p))∧Chg [] w w':=by
 have HR:=lh hr;clear hr;have HG:=lh hg;have HP:=lh hp;obtain⟨eo,cap,rfl,hn,hm,hsm,hcell⟩:=hg;obtain⟨v1,v2,rfl,hv,he⟩:=hp;obtain⟨ao,ac,rfl,has,ham,hacell⟩:=hv;obtain⟨bo,bc,rfl,hbs,hbm,hbcell⟩:=he;have HAC:=lh hacell;have HBC:=lh hbcell;have HAS:=lh has;have HBS:=lh hbs;obtain⟨-,-,hc1⟩:=box_two w #[.int .i64 g.n,.slice eo g.e.length cap] #[.slice ao p.v.length ac,.slice bo p.e.length bc] 24 27;have HC1:=lh hc1;have HBXS:=lh (fun w2 h=>two_boxes w (g:=g) (p:=p) (eo:=eo) (ao:=ao) (bo:=bo) (cap:=cap) (ac:=ac) (bc:=bc) (w2:=w2) h);clear hcell hacell hbcell hsm has hbs hn hc1;obtain⟨x0,x1,y0,y1,hsz⟩:=HBXS.out _ (Chg.refl _ _)
 go_enter Tryz.func15,Tryz.ntmps15
 go_wp2_with fail
 obtain⟨w1,hw1⟩:∃ w1,((w.alloc (.cells #[.int .i64 g.n,.slice eo g.e.length cap] 24)).alloc (.cells #[.slice ao p.v.length ac,.slice bo p.e.length bc] 27))=w1:=⟨_,rfl⟩;rw[hw1] at HC1 HBXS ⊢;clear hw1 x0 x1 y0 y1 hsz;refine (refBlk_any _ _ g p _ HR.out (HG.out.fresh HC1.out) (HP.out.fresh HC1.out)).mono ?_;rintro e w2 ⟨ov,xs,rfl,hne,hc2⟩;have HC2:=lh (HC1.out.t hc2);obtain⟨x0,x1,y0,y1,hsz⟩:=HBXS.out _ hc2;clear hc2;have HNE:=lh hne;have HONE:=lh (Plain.solid_ref HR.out);obtain⟨uo,uc,rfl⟩:=hne.shape;obtain⟨K,hK⟩:∃ K,Plain.rootE g p=K:=⟨_,rfl⟩;rw[hK] at HNE HONE ⊢;clear hne hK;by_cases h1:K.length=1
 ·obtain⟨gb,gc,hgb⟩:=HNE.out.some (by omega)
  simp only[Value.slice.injEq] at hgb;obtain⟨rfl,-,-⟩:=hgb;have c0:=HNE.out.cell (k:=0) (by rw[HNE.out.cells];omega);have c1:=HNE.out.cell (k:=1) (by rw[HNE.out.cells];omega);have r0:=HNE.out.row (pcs_even (Plain.rbV g p) (Plain.togOf g p) K 0 (by omega));have r1:=HNE.out.row (pcs_odd (Plain.rbV g p) (Plain.togOf g p) K 0 (by omega));obtain⟨V,hV⟩:∃ V,Plain.rbV g p (K.getD 0 0)=V:=⟨_,rfl⟩;obtain⟨E,hE⟩:∃ E,Plain.togOf g p (K.getD 0 0)=E:=⟨_,rfl⟩;rw[hV] at r0;rw[hE] at r1;rw[hV,hE] at HONE;obtain⟨u0,hu0⟩:∃ u0,xs.getD 0 undef=u0:=⟨_,rfl⟩;obtain⟨u1,hu1⟩:∃ u1,xs.getD 1 undef=u1:=⟨_,rfl⟩;have r1':RowAt w2 w1.heap.size (xs.getD 1 undef) E:=r1;have r0':RowAt w2 w1.heap.size (xs.getD 0 undef) V:=r0;rw[hu0] at c0 r0';rw[hu1] at c1 r1';have HPT:=lh (show PtAt w2 (.agg #[u0,u1]) ⟨V,E⟩ from⟨u0,u1,rfl,r0'.ints,r1'.ints⟩);have HP2:=lh (HP.out.fresh HC2.out);have bl:((K.length:Int)==1)=true:=by rw[h1];rfl
  have hlt0:0<K.length:=by omega
  have HSB:=lh (show Plain.solidB g p=(decide (V=p.v)&&decide (E=p.e)) by
   rw[Bool.eq_iff_iff,Plain.solidB_iff,Bool.and_eq_true,decide_eq_true_iff,decide_eq_true_iff,←HONE.out];exact⟨fun k=>k.2.2,fun k=>⟨HR.out,h1,k⟩⟩)
  clear r0 r1 r0' r1' hV hE hu0 hu1 x0 x1 h1 HNE
  go_wp2_with fail
  have hS0:Chg [] w2 w2.drew:=(Chg.refl [] w2).drew;refine wp_region_way (Chg [] w2) [0,1,2,3,4,5,6,7,9,10] (Way.line [0,1,2,3,4,5,6,7,8,9,10] .done) (by kernel_rfl) (by kernel_rfl) ?_;simp only[Way.line]
  repeat
   first
    | (refine along_off rfl (by rfl) (by rfl) (fun _ _ _ h=>h) hS0 ?_;simp only[Act.put,Z1,Z2,Z3,Z4,Z5,Z6])
    | (refine along_read (v:=?_) rfl (by rfl) (by rfl) (fun _ _ _ h=>h) hS0 (fun w' hS'=>?_) ?_;rotate_left;(focus (have rd0:=hS'.c c0;have rd1:=hS'.c c1;have rd2:=hS'.c y0;have rd3:=hS'.c y1;clear hS';go_simp;try with_reducible rfl));simp only[Act.put,Z1,Z2,Z3,Z4,Z5,Z6])
    | (refine along_skip rfl (by rfl) (by rfl) hS0 ?_;simp only[Act.put,Z1,Z2,Z3,Z4,Z5,Z6])
  refine along_op rfl (by rfl) (by rfl) (fun K hK=>?_);go_simp;refine (refSame4_any _ _ ⟨V,E⟩ p _ (HPT.out.fresh hS0) (HP2.out.fresh hS0)).mono ?_;rintro e w3 ⟨rfl,hcx⟩;have hS1:=hS0.t hcx;clear hS0 hcx;have hS0:=hS1;clear hS1;refine hK.out _ _ (fun _=>hS0) ?_;clear hK K
  try simp only
  repeat
   first
    | (refine along_off rfl (by rfl) (by rfl) (fun _ _ _ h=>h) hS0 ?_;simp only[Act.put,Z1,Z2,Z3,Z4,Z5,Z6])
    | (refine along_read (v:=?_) rfl (by rfl) (by rfl) (fun _ _ _ h=>h) hS0 (fun w' hS'=>?_) ?_;rotate_left;(focus (skip;clear hS';go_simp;try with_reducible rfl));simp only[Act.put,Z1,Z2,Z3,Z4,Z5,Z6])
    | (refine along_skip rfl (by rfl) (by rfl) hS0 ?_;simp only[Act.put,Z1,Z2,Z3,Z4,Z5,Z6])
  refine along_done ?_;have HC3:=lh (HC2.out.t hS0);clear hS0 c0 c1 y0 y1 hsz;go_wp2;go_ret;exact⟨ret_bool (by show _=Plain.solidB g p;rw[HSB.out]),HC3.out⟩
 have bl:((K.length:Int)==1)=false:=by rw[beq_eq_false_iff_ne];omega
 have HSB:=lh (show Plain.solidB g p=false by
  rw[Bool.eq_false_iff];intro k;exact h1 (HONE.out.2 (Plain.solidB_iff.1 k).2).1)
 clear x0 x1 h1
 go_wp2_with fail
 have hS0:Chg [] w2 w2.drew:=(Chg.refl [] w2).drew;refine wp_region_way (Chg [] w2) [0,1,2,3,4,5,6,7,9,10] (Way.line [0,1,2,3,4,5,6,7,8,9,10] .done) (by kernel_rfl) (by kernel_rfl) ?_;simp only[Way.line]
 repeat
  first
   | (refine along_off rfl (by rfl) (by rfl) (fun _ _ _ h=>h) hS0 ?_;simp only[Act.put,Z1,Z2,Z3,Z4,Z5,Z6])
   | (refine along_read (v:=?_) rfl (by rfl) (by rfl) (fun _ _ _ h=>h) hS0 (fun w' hS'=>?_) ?_;rotate_left;(focus (have rd0:=hS'.c y0;have rd1:=hS'.c y1;clear hS';go_simp;try with_reducible rfl));simp only[Act.put,Z1,Z2,Z3,Z4,Z5,Z6])
   | (refine along_skip rfl (by rfl) (by rfl) hS0 ?_;simp only[Act.put,Z1,Z2,Z3,Z4,Z5,Z6])
 refine along_done ?_;have HC3:=lh (HC2.out.t hS0);clear hS0 y0 y1 hsz;generalize w2.drew=w4 at *;go_wp2;go_ret;exact⟨ret_bool (by show _=Plain.solidB g p;rw[HSB.out]),HC3.out⟩
theorem dleaves_any (v:Value) (g:Plain.Gr) (d:Nat) (w:World) (hd:d / 2<g.e.length) (_hm:g.e.length<4294967296) (h:GrAt w v g) :
  Calls Tryz.prog 56 #[v,.int .i64 d] w fun e w'=>e=.returned (.int .i64 (g.tail d))∧Chg [] w w':=by
 obtain⟨eo,cap,rfl,-,-,-,hcell⟩:=h;obtain⟨b,off,rfl,hc0,hc1⟩:=hcell (d / 2) hd;have HC1:=lh ((Chg.refl [] w).alloc (.cells #[.int .i64 g.n,.slice (some ⟨b,off,none⟩) g.e.length cap] 24));obtain⟨e,he⟩:∃ e,d / 2=e:=⟨_,rfl⟩;rw[he] at hd hc0 hc1;have c0:=fun o=>cellNew hc0 o;have c1:=fun o=>cellNew hc1 o;clear hcell hc0 hc1;rcases (show d=2*e∨d=2*e+1 by omega) with rfl | rfl
 ·obtain⟨q1,q2⟩:=quo_even e
  have HE:=lh (dart_even g e).1;rw[HE.out];clear he;generalize ((2*e:Nat):Int)=dd at *;generalize (g.ends e).1=x at *;generalize (g.ends e).2=y at *
  go_enter Tryz.func56,Tryz.ntmps56
  go_wp2;go_ret;exact⟨rfl,HC1.out⟩
 obtain⟨q1,q2⟩:=quo_odd e;have HE:=lh (dart_odd g e).1;rw[HE.out];clear he;generalize ((2*e+1:Nat):Int)=dd at *;generalize (g.ends e).1=x at *;generalize (g.ends e).2=y at *
 go_enter Tryz.func56,Tryz.ntmps56
 go_wp2;go_ret;exact⟨rfl,HC1.out⟩
namespace Plain
theorem twins_len (l:List Int):(twins l).length=l.length:=by simp[twins]
theorem twins_take {l:List Int} {k:Nat} (hk:k<l.length):(twins l).take (k+1)=(twins l).take k++[twin (l.getD (l.length - 1 - k) 0)]:=by
 have hk2:k<(twins l).length:=by rw[twins_len];exact hk
 rw[List.take_succ_eq_append_getElem hk2]
 congr 2
 unfold twins;have h1:(l.map twin).reverse[k]'(by simpa using hk)=(l.map twin)[l.length - 1 - k]'(by simp;omega):=by rw[List.getElem_reverse];simp
 refine h1.trans ?_;rw[List.getElem_map];simp[List.getD,show l.length - 1 - k<l.length by omega]
end Plain
set_option maxRecDepth 100000 in
set_option maxHeartbeats 2000000 in
theorem twins_any (v:Value) (l:List Int) (w:World) (hl:l.length≤1000000) (hb:∀ d∈l,0≤d∧d<4294967296) (h:IntsAt w v l) :
  Calls Tryz.prog 103 #[v] w fun e w'=>∃ v',e=.returned v'∧RowAt w' w.heap.size v' (Plain.twins l)∧Chg [] w w':=by
 have HI:=lh h;have HB:=lh hb;obtain⟨ao,cap,rfl,-,hm,-⟩:=h;clear hb
 go_enter Tryz.func103,Tryz.ntmps103
 go_wp2_with (at_make;refine wl_make0 rfl _ _ rfl (B:=w.heap.size) (n:=l.length) rfl rfl (Nat.le_refl _) (by omega) ?_;intro v1 w1 r1 c1 f1;obtain⟨o1,k1,rfl⟩:=r1.shape;have R1:=lh r1;have C1:=lh c1;clear r1 c1 f1)
 have HTA:=lh (show (Plain.twins l).take (l.length - l.length)=[] by simp)
 go_loopw [3,4] (fun c3 c4 wr=>∃ i:Nat,i≤l.length∧c4=.int .i64 ((i:Int) - 1)∧RowAt wr w.heap.size c3 ((Plain.twins l).take (l.length - i))∧Chg [] w wr) (fun _ c4 _=>(intOf c4+1).toNat)
 case atStart=>exact⟨l.length,Nat.le_refl _,by go_num,by rw[HTA.out];exact R1.out,C1.out⟩
 case round =>
  obtain⟨i,hi,hc4,hrow,hc⟩:=hrel;have HROW:=lh hrow;have HC:=lh hc;obtain⟨oo,oc,rfl⟩:=hrow.shape;have HSZ:=lh hc.size;clear hrow hc;cases i with
  | succ j =>
   rw[show ((j+1:Nat):Int) - 1=(j:Int) by omega] at hc4;subst hc4;have hjl:j<l.length:=hi;obtain⟨rb,roff,rfl,rc⟩:=IntsAt.cellAt HI.out hjl;have rcell:=HC.out.c rc;have hdb:=HB.out _ (Plain.getD_mem hjl);have HTK:=lh (show (Plain.twins l).take (l.length - j)=(Plain.twins l).take (l.length - (j+1))++[Plain.twin (l.getD j 0)] by
    have:=Plain.twins_take (l:=l) (k:=l.length - (j+1)) (by omega);rw[show l.length - (j+1)+1=l.length - j by omega,show l.length - 1 - (l.length - (j+1))=j by omega] at this;exact this)
   obtain⟨d,hd⟩:∃ d:Nat,l.getD j 0=d:=⟨(l.getD j 0).toNat,by omega⟩;rw[hd] at rcell hdb HTK;have hbt:=bits_twin d (by omega);have IT:I64 (Plain.twin (d:Int)):=by unfold Plain.twin;split <;> exact I64.mk (by omega) (by omega)
   have hml:((Plain.twins l).take (l.length - (j+1))).length<4294967290:=by rw[List.length_take];omega
   obtain⟨M,hM⟩:∃ M,(Plain.twins l).take (l.length - (j+1))=M:=⟨_,rfl⟩;rw[hM] at HROW HTK hml ⊢;have HROW2:=lh (show RowAt wr w.heap.size (.slice oo M.length oc) M from HROW.out);have HJL:=lh hjl;clear rc hd hM HROW hi hdb hl;generalize Plain.twin (d:Int)=t at *
   go_wp2_with (at_builtin;refine wl_push rfl _ _ rfl (B:=w.heap.size) (v:=.slice oo _ oc) rfl rfl HROW2.out IT HSZ.out hml rfl ?_;intro v6 w6 r6 c6 f6;have R6:=lh r6;have C6:=lh c6;clear r6 c6 f6)
   go_roundw
   case rel=>exact⟨j,Nat.le_of_lt HJL.out,by go_num,by rw[HTK.out];exact R6.out,HC.out.trans C6.out (fun j hj=>Or.inr (HROW2.out.low j (by rw[←HROW2.out.foot];exact hj)).1)⟩
   case measure=>simp[intOf]
  | zero =>
   rw[show ((0:Nat):Int) - 1 = -1 by omega] at hc4;subst hc4;have HF:=lh (show (Plain.twins l).take (l.length - 0)=Plain.twins l by rw[Nat.sub_zero,List.take_of_length_le (by rw[Plain.twins_len];exact Nat.le_refl _)]);have HR2:=lh (show RowAt wr w.heap.size (.slice oo (Plain.twins l).length oc) (Plain.twins l) by have:=HROW.out;rwa[HF.out] at this);rw[HF.out];clear HROW;go_wp2;go_ret;exact⟨_,rfl,HR2.out,HC.out⟩
set_option maxRecDepth 100000 in
set_option maxHeartbeats 2000000 in
theorem without_any (ve vd:Value) (E l:List Int) (w:World) (hE:E.length≤1000000) (_hl:l.length≤1000000) (hb:∀ e∈E,0≤e∧e<1000000) (h:IntsAt w ve E) (h2:IntsAt w vd l) :
  Calls Tryz.prog 105 #[ve,vd] w fun e w'=>∃ v',e=.returned v'∧RowAt w' w.heap.size v' (Plain.without E l)∧Chg [] w w':=by
 have HI:=lh h;have HD:=lh h2;have HB:=lh hb;obtain⟨ao,cap,rfl,-,hm,-⟩:=h;obtain⟨bo,bcap,rfl,-,hm2,-⟩:=h2;clear hb
 go_enter Tryz.func105,Tryz.ntmps105
 go_wp2_with fail
 go_loopw [5,7,10] (fun c5 _ c10 wr=>∃ k:Nat,k≤E.length∧c10=.int .i64 k∧RowAt wr w.heap.size c5 (Plain.without (E.take k) l)∧Chg [] w wr) (fun _ _ c10 _=>E.length - (intOf c10).toNat)
 case atStart=>exact⟨0,Nat.zero_le _,rfl,rowNil' _ _,Chg.refl _ _⟩
 case round =>
  obtain⟨k,hk,rfl,hrow,hc⟩:=hrel;have HROW:=lh hrow;have HC:=lh hc;obtain⟨oo,oc,rfl⟩:=hrow.shape;have HSZ:=lh hc.size;clear hrow hc;by_cases hlt:k<E.length
  ·obtain⟨rb,roff,rfl,rc⟩:=IntsAt.cellAt HI.out hlt
   have rcell:=HC.out.c rc;have hdb:=HB.out _ (Plain.getD_mem hlt);have HFK:=lh (show Plain.without (E.take (k+1)) l=Plain.without (E.take k) l++(if (!(l.contains (2*E.getD k 0))&&!(l.contains (2*E.getD k 0+1)))=true then [E.getD k 0] else []) from Plain.filter_take_succ _ hlt);obtain⟨e,he⟩:∃ e,E.getD k 0=e:=⟨_,rfl⟩;rw[he] at rcell hdb HFK;have ww0:IntKind.i64.wrap (2*e)=2*e:=IntWalk.i64_in _ (by omega);have ww1:IntKind.i64.wrap (2*e+1)=2*e+1:=IntWalk.i64_in _ (by omega);have IE:I64 e:=I64.mk (by omega) (by omega);have hml:(Plain.without (E.take k) l).length<4294967290:=by have:(Plain.without (E.take k) l).length≤(E.take k).length:=List.length_filter_le _ _;rw[List.length_take] at this;omega
   obtain⟨M,hM⟩:∃ M,Plain.without (E.take k) l=M:=⟨_,rfl⟩;rw[hM] at HROW HFK hml ⊢;clear rc he hM hdb
   go_wp2_with fail
   refine (contains_any _ l (2*e) _ (HD.out.fresh HC.out)).mono ?_;rintro _ w3 ⟨rfl,rfl⟩;have HR3:=HROW;have HC3:=HC;clear rcell;cases h0:decide (2*e∈l) with
   | true =>
    have HK:=lh (HFK.out.trans (by rw[if_neg (by simp[of_decide_eq_true h0]),List.append_nil]));clear h0;go_wp2
    go_roundw
    case rel=>exact⟨k+1,by omega,by go_num,by rw[HK.out];exact HR3.out,HC3.out⟩
    case measure=>simp[intOf];omega
   | false =>
    have H0:=lh (of_decide_eq_false h0);clear h0
    go_wp2_with fail
    refine (contains_any _ l (2*e+1) _ (HD.out.fresh HC3.out)).mono ?_;rintro _ w4 ⟨rfl,rfl⟩;have HR4:=HR3;have HC4:=HC3;cases h1:decide (2*e+1∈l) with
    | true =>
     have HK:=lh (HFK.out.trans (by rw[if_neg (by simp[of_decide_eq_true h1]),List.append_nil]));clear h1;go_wp2
     go_roundw
     case rel=>exact⟨k+1,by omega,by go_num,by rw[HK.out];exact HR4.out,HC4.out⟩
     case measure=>simp[intOf];omega
    | false =>
     have HK:=lh (HFK.out.trans (by rw[if_pos (by simp[of_decide_eq_false h1,H0.out])]));have HS4:=lh HC4.out.size;clear h1
     go_wp2_with (at_builtin;refine wl_push rfl _ _ rfl (B:=w.heap.size) (v:=.slice oo _ oc) rfl rfl HR4.out IE HS4.out hml rfl ?_;intro v6 w6 r6 c6 f6;have R6:=lh r6;have C6:=lh c6;clear r6 c6 f6)
     go_roundw
     case rel=>exact⟨k+1,by omega,by go_num,by rw[HK.out];exact R6.out,HC4.out.trans C6.out (fun j hj=>Or.inr (HR4.out.low j (by rw[←HR4.out.foot];exact hj)).1)⟩
     case measure=>simp[intOf];omega
  have e:k=E.length:=by omega
  subst e;rw[List.take_length] at HROW ⊢;clear hk hlt;go_wp2;go_ret;exact⟨_,rfl,HROW.out,HC.out⟩
end Go.Proofs.YtmhcmnaecpagiaaGreat
