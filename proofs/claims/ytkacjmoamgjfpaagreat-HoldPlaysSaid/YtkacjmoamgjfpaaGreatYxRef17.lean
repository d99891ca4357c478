/- ref17.Right, ref17.And, ref04.Same, law17.Small: contracts. Conditions: parts, a case that lie in memory and read so, of a bounded size. -/
import Derived.Test.YtkacjmoamgjfpaaGreatYxHoldOf
namespace Go.Proofs.YtkacjmoamgjfpaaGreat
open Go.RowKit Go.Maps
set_option maxRecDepth 100000 in
set_option maxHeartbeats 2000000 in
theorem refRight17_any (vc:Value) (g:Plain.Gr) (p:Plain.Pt) (turn same:List (List Int)) (w:World) (hpl:p.e.length≤1000) (hpv:p.v.length≤1000) (hgl:g.e.length<4294967296) (hrl:∀ v,(Plain.turnAt turn v).length<4294967296) (hsl:same.length≤10000) (hsr:∀ i,(same.getD i []).length≤10000) (hc:CaseAt w vc g p turn same) :
  Calls Tryz.prog 15 #[vc] w fun e w'=>e=.returned (.int .i64 (Plain.planErr g p turn same))∧Chg [] w w':=by
 have HRL:=lh hrl;have HSR:=lh hsr;obtain⟨eo,cap,ao,ac,bo,bc,tno,tc,so,sc,rfl,hg,hp,hx⟩:=hc.shape;have HG:=lh hg;have HP:=lh hp.at;have HX:=lh hx;have HC1:=lh ((Chg.refl [] w).alloc (.cells #[.int .i64 g.n,.slice eo g.e.length cap,.slice ao p.v.length ac,.slice bo p.e.length bc,.slice tno turn.length tc,.slice so same.length sc] 34));obtain⟨k0,k1,k2,k3,k4,k5,hsz⟩:=case_cells (Chg.refl [] (w.alloc (.cells #[.int .i64 g.n,.slice eo g.e.length cap,.slice ao p.v.length ac,.slice bo p.e.length bc,.slice tno turn.length tc,.slice so same.length sc] 34)));have HK:=lh (fun w2 (h:Chg [] (w.alloc (.cells #[.int .i64 g.n,.slice eo g.e.length cap,.slice ao p.v.length ac,.slice bo p.e.length bc,.slice tno turn.length tc,.slice so same.length sc] 34)) w2)=>case_cells h);clear hc hg hp hx hrl hsr
 go_enter Tryz.func15,Tryz.ntmps15
 go_wp2_with fail
 generalize (w.alloc (.cells #[.int .i64 g.n,.slice eo g.e.length cap,.slice ao p.v.length ac,.slice bo p.e.length bc,.slice tno turn.length tc,.slice so same.length sc] 34))=w1 at *;refine (refGraph_any _ g _ hgl (HG.out.fresh HC1.out)).mono ?_;rintro e w2 ⟨rfl,hc2⟩;have HC2:=lh (HC1.out.t hc2);clear k0 k1 k2 k3 k4 k5 hsz;obtain⟨k0,k1,k2,k3,k4,k5,hsz⟩:=HK.out _ hc2;clear hc2;by_cases h0:g.err=0
 ·rw[h0]
  clear h0
  go_wp2_with fail
  refine (refRight8_any _ _ _ g p turn same _ hpl hpv hgl HRL.out hsl HSR.out (HG.out.fresh HC2.out) (HP.out.fresh HC2.out) (HX.out.fresh HC2.out)).mono ?_;rintro e w3 ⟨rfl,hc3⟩;have HC3:=lh (HC2.out.t hc3);clear hc3;go_wp2;go_ret;exact⟨rfl,HC3.out⟩
 have HE:=lh (Plain.planErr_graph (p:=p) (turn:=turn) (same:=same) h0);obtain⟨er,her⟩:∃ er,g.err=er:=⟨_,rfl⟩;rw[her] at h0 HE ⊢;have bz:(er != 0)=true:=by simp only[bne_iff_ne];exact h0
 clear h0 her;go_wp2;go_ret;exact⟨ret_int HE.out.symm,HC2.out⟩
set_option maxRecDepth 100000 in
set_option maxHeartbeats 2000000 in
theorem small17_any (vc:Value) (g:Plain.Gr) (p:Plain.Pt) (turn same:List (List Int)) (w:World) (hc:CaseAt w vc g p turn same) :
  Calls Tryz.prog 16 #[vc] w fun e w'=>e=.returned (.int .i64 (bit (Plain.small8 g p turn same)))∧Chg [] w w':=by
 obtain⟨eo,cap,ao,ac,bo,bc,tno,tc,so,sc,rfl,hg,hp,hx⟩:=hc.shape;have HG:=lh hg;have HP:=lh hp.at;have HX:=lh hx;have HC1:=lh ((Chg.refl [] w).alloc (.cells #[.int .i64 g.n,.slice eo g.e.length cap,.slice ao p.v.length ac,.slice bo p.e.length bc,.slice tno turn.length tc,.slice so same.length sc] 34));obtain⟨k0,k1,k2,k3,k4,k5,hsz⟩:=case_cells (Chg.refl [] (w.alloc (.cells #[.int .i64 g.n,.slice eo g.e.length cap,.slice ao p.v.length ac,.slice bo p.e.length bc,.slice tno turn.length tc,.slice so same.length sc] 34)));clear hc hg hp hx
 go_enter Tryz.func16,Tryz.ntmps16
 go_wp2_with fail
 generalize (w.alloc (.cells #[.int .i64 g.n,.slice eo g.e.length cap,.slice ao p.v.length ac,.slice bo p.e.length bc,.slice tno turn.length tc,.slice so same.length sc] 34))=w1 at *;refine (small8_any _ _ _ g p turn same _ (HG.out.fresh HC1.out) (HP.out.fresh HC1.out) (HX.out.fresh HC1.out)).mono ?_;rintro e w2 ⟨rfl,hc2⟩;have HC2:=lh (HC1.out.t hc2);clear k0 k1 k2 k3 k4 k5 hsz hc2;go_wp2;go_ret;exact⟨rfl,HC2.out⟩
set_option maxRecDepth 100000 in
set_option maxHeartbeats 2000000 in
theorem refAnd17_any (va vb:Value) (a b:Plain.Pt) (w:World) (h1:a.v.length≤1000000) (h2:a.e.length≤1000000) (_h3:b.v.length≤1000000) (_h4:b.e.length≤1000000) (ha:PtC w va a) (hb:PtC w vb b) :
  Calls Tryz.prog 20 #[va,vb] w fun e w'=>∃ ov,e=.returned ov∧(∀ own wx,Chg own w' wx→(∀ j∈own,j<w.heap.size)→PtC wx ov ⟨Plain.andOf b.v a.v,Plain.andOf b.e a.e⟩)∧Chg [] w w':=by
 have HA:=lh ha;have HB:=lh hb;obtain⟨ao,ac,bo,bc,rfl⟩:=ha.shape;obtain⟨co,cc,fo,fc,rfl⟩:=hb.shape;clear ha hb;have HXC:=lh (show Chg [] w (((w.alloc (.cells #[.slice ao a.v.length ac,.slice bo a.e.length bc] 29)).alloc (.cells #[.slice co b.v.length cc,.slice fo b.e.length fc] 29)).alloc (.cells #[.slice none 0 0,.slice none 0 0] 29)) from (show Chg [] w (((w.alloc (.cells #[.slice ao a.v.length ac,.slice bo a.e.length bc] 29)).alloc (.cells #[.slice co b.v.length cc,.slice fo b.e.length fc] 29)).alloc (.cells #[.slice none 0 0,.slice none 0 0] 29)) from ((((Chg.refl [] w).alloc _).alloc _).alloc _)));have qbx0:=heap_alloc_new w (.cells #[.slice ao a.v.length ac,.slice bo a.e.length bc] 29);replace qbx0:=(show Chg [] (w.alloc (.cells #[.slice ao a.v.length ac,.slice bo a.e.length bc] 29)) (((w.alloc (.cells #[.slice ao a.v.length ac,.slice bo a.e.length bc] 29)).alloc (.cells #[.slice co b.v.length cc,.slice fo b.e.length fc] 29)).alloc (.cells #[.slice none 0 0,.slice none 0 0] 29)) from (((Chg.refl [] (w.alloc (.cells #[.slice ao a.v.length ac,.slice bo a.e.length bc] 29))).alloc _).alloc _)).heap qbx0 (by simp);have qbx1:=heap_alloc_new (w.alloc (.cells #[.slice ao a.v.length ac,.slice bo a.e.length bc] 29)) (.cells #[.slice co b.v.length cc,.slice fo b.e.length fc] 29);rw[show (w.alloc (.cells #[.slice ao a.v.length ac,.slice bo a.e.length bc] 29)).heap.size=w.heap.size+1 by simp] at qbx1;replace qbx1:=(show Chg [] ((w.alloc (.cells #[.slice ao a.v.length ac,.slice bo a.e.length bc] 29)).alloc (.cells #[.slice co b.v.length cc,.slice fo b.e.length fc] 29)) (((w.alloc (.cells #[.slice ao a.v.length ac,.slice bo a.e.length bc] 29)).alloc (.cells #[.slice co b.v.length cc,.slice fo b.e.length fc] 29)).alloc (.cells #[.slice none 0 0,.slice none 0 0] 29)) from ((Chg.refl [] ((w.alloc (.cells #[.slice ao a.v.length ac,.slice bo a.e.length bc] 29)).alloc (.cells #[.slice co b.v.length cc,.slice fo b.e.length fc] 29))).alloc _)).heap qbx1 (by simp);have qbx2:=heap_alloc_new ((w.alloc (.cells #[.slice ao a.v.length ac,.slice bo a.e.length bc] 29)).alloc (.cells #[.slice co b.v.length cc,.slice fo b.e.length fc] 29)) (.cells #[.slice none 0 0,.slice none 0 0] 29);rw[show ((w.alloc (.cells #[.slice ao a.v.length ac,.slice bo a.e.length bc] 29)).alloc (.cells #[.slice co b.v.length cc,.slice fo b.e.length fc] 29)).heap.size=w.heap.size+2 by simp] at qbx2;have HX:=lh (fun (w2:World) (hbx:Chg [] (((w.alloc (.cells #[.slice ao a.v.length ac,.slice bo a.e.length bc] 29)).alloc (.cells #[.slice co b.v.length cc,.slice fo b.e.length fc] 29)).alloc (.cells #[.slice none 0 0,.slice none 0 0] 29)) w2)=>(⟨hbx.c ((cell_of_row _ _ 0 _ _ _ qbx0).trans rfl),hbx.c ((cell_of_row _ _ 1 _ _ _ qbx0).trans rfl),hbx.c ((cell_of_row _ _ 0 _ _ _ qbx1).trans rfl),hbx.c ((cell_of_row _ _ 1 _ _ _ qbx1).trans rfl),hbx.heap qbx2 (by simp),by have hz:=hbx.size;simpa using hz⟩:w2.cell? ⟨w.heap.size,0,none⟩=some (.slice ao a.v.length ac)∧w2.cell? ⟨w.heap.size,1,none⟩=some (.slice bo a.e.length bc)∧w2.cell? ⟨w.heap.size+1,0,none⟩=some (.slice co b.v.length cc)∧w2.cell? ⟨w.heap.size+1,1,none⟩=some (.slice fo b.e.length fc)∧w2.heap[w.heap.size+2]?=some (.cells #[.slice none 0 0,.slice none 0 0] 29 (0,0))∧w.heap.size+3≤w2.heap.size));clear qbx0 qbx1 qbx2;have HXZ:=lh (show (((w.alloc (.cells #[.slice ao a.v.length ac,.slice bo a.e.length bc] 29)).alloc (.cells #[.slice co b.v.length cc,.slice fo b.e.length fc] 29)).alloc (.cells #[.slice none 0 0,.slice none 0 0] 29)).heap.size=w.heap.size+3 by simp);have HM1:=lh (show ∀ w2,Chg [] w w2→MRow w2 (.slice ao a.v.length ac) a.v∧MRow w2 (.slice bo a.e.length bc) a.e from fun w2 h=>by
  obtain⟨v1,v2,e,k1,k2⟩:=HA.out.fresh h;cases e;exact⟨k1,k2⟩)
 have HM2:=lh (show ∀ w2,Chg [] w w2→MRow w2 (.slice co b.v.length cc) b.v∧MRow w2 (.slice fo b.e.length fc) b.e from fun w2 h=>by
  obtain⟨v1,v2,e,k1,k2⟩:=HB.out.fresh h;cases e;exact⟨k1,k2⟩)
 obtain⟨x0,x1,y0,y1,r8,hsz⟩:=HX.out _ (Chg.refl _ _);clear r8
 go_enter Tryz.func20,Tryz.ntmps20
 go_wp2;generalize (((w.alloc (.cells #[.slice ao a.v.length ac,.slice bo a.e.length bc] 29)).alloc (.cells #[.slice co b.v.length cc,.slice fo b.e.length fc] 29)).alloc (.cells #[.slice none 0 0,.slice none 0 0] 29))=w1 at *;have hS0:Chg [] w1 w1.drew:=(Chg.refl [] w1).drew;refine wp_region_way (Chg [] w1) [0,1,2,3,5,6,7,8,10] (Way.line [0,1,2,3,5,6,7,8,4,9,10,11] .done) (by kernel_rfl) (by kernel_rfl) ?_;simp only[Way.line]
 repeat
  first
   | (refine along_off rfl (by rfl) (by rfl) (fun _ _ _ h=>h) hS0 ?_;simp only[Act.put,Z1,Z2,Z3,Z4,Z5,Z6])
   | (refine along_read (v:=?_) rfl (by rfl) (by rfl) (fun _ _ _ h=>h) hS0 (fun w' hS'=>?_) ?_;rotate_left;(focus (have rd0:=hS'.c x0;have rd1:=hS'.c x1;have rd2:=hS'.c y0;have rd3:=hS'.c y1;clear hS';go_simp;try with_reducible rfl));simp only[Act.put,Z1,Z2,Z3,Z4,Z5,Z6])
   | (refine along_skip rfl (by rfl) (by rfl) hS0 ?_;simp only[Act.put,Z1,Z2,Z3,Z4,Z5,Z6])
 refine along_op rfl (by rfl) (by rfl) (fun K hK=>?_);go_simp;refine (refAnd_any _ _ a.v b.v _ (by omega) (HM1.out _ (HXC.out.t hS0)).1.1 (HM2.out _ (HXC.out.t hS0)).1.1).mono ?_;rintro e w2 ⟨o1,rfl,hr1,hcx⟩;have HR1:=lh hr1;have HBW:=lh (Nat.le_trans (HX.out _ hS0).2.2.2.2.2 (Nat.le_refl _));have hS1:=hS0.t hcx;have HO1:=lh (show w.heap.size+3≤w2.heap.size from (HX.out _ hS1).2.2.2.2.2);clear hS0 hcx hr1;have hS0:=hS1;clear hS1;refine hK.out _ _ (fun _=>hS0) ?_;clear hK K
 try simp only[Act.put,Z1,Z2,Z3,Z4,Z5,Z6]
 refine along_op rfl (by rfl) (by rfl) (fun K hK=>?_);go_simp;refine (refAnd_any _ _ a.e b.e _ (by omega) (HM1.out _ (HXC.out.t hS0)).2.1 (HM2.out _ (HXC.out.t hS0)).2.1).mono ?_;rintro e w3 ⟨o2,rfl,hr2,hcx⟩;have HR2:=lh hr2;have HR13:=lh (HR1.out.chg hcx (by simp));have hS1:=hS0.t hcx;clear hS0 hcx hr2;have hS0:=hS1;clear hS1;refine hK.out _ _ (fun _=>hS0) ?_;clear hK K
 try simp only[Act.put,Z1,Z2,Z3,Z4,Z5,Z6]
 obtain⟨p1,q1,rfl⟩:=HR13.out.shape;obtain⟨p2,q2,rfl⟩:=HR2.out.shape
 repeat
  first
   | (refine along_off rfl (by rfl) (by rfl) (fun _ _ _ h=>h) hS0 ?_;simp only[Act.put,Z1,Z2,Z3,Z4,Z5,Z6])
   | (refine along_read (v:=?_) rfl (by rfl) (by rfl) (fun _ _ _ h=>h) hS0 (fun w' hS'=>?_) ?_;rotate_left;(focus (skip;clear hS';go_simp;try with_reducible rfl));simp only[Act.put,Z1,Z2,Z3,Z4,Z5,Z6])
   | (refine along_skip rfl (by rfl) (by rfl) hS0 ?_;simp only[Act.put,Z1,Z2,Z3,Z4,Z5,Z6])
 have hr8:=(HX.out _ hS0).2.2.2.2.1;have HR8:=lh hr8;have r0:=(cell_of_row _ _ 0 _ _ _ hr8).trans (show _=some (Value.slice none 0 0) from rfl);have r1:=(cell_of_row _ _ 1 _ _ _ hr8).trans (show _=some (Value.slice none 0 0) from rfl);have f0:=free_at hr8 0;have f1:=free_at hr8 1;have HCW:=lh (HXC.out.t hS0);refine along_op rfl (by rfl) (by rfl) (fun K hK=>?_);go_simp;refine hK.out _ _ (fun h=>absurd h (Bool.eq_false_iff.1 (by kernel_rfl))) ?_;clear hK K hr8
 try simp only[Act.put,Z1,Z2,Z3,Z4,Z5,Z6]
 refine along_done ?_;clear x0 x1 y0 y1 hsz hS0 r0 r1 f0 f1;obtain⟨-,o0,o1,o2⟩:=out_store2 HR8.out (.slice p1 (Plain.andOf b.v a.v).length q1) (.slice p2 (Plain.andOf b.e a.e).length q2);have O2:=lh o2;go_wp2;refine bodyPost_ret (v:=.agg #[.slice p1 (Plain.andOf b.v a.v).length q1,.slice p2 (Plain.andOf b.e a.e).length q2]) (by simp[results,Tryz.results20,go_sem,o0,o1]) rfl ?_;refine⟨_,rfl,fun own wx hcx ho=>?_,HCW.out.trans O2.out (fun j hj=>Or.inr (by simp at hj;omega))⟩;have hcc:Chg ((w.heap.size+2) :: own) w3 wx:=(O2.out.mono (by simp)).trans hcx (fun j hj=>Or.inl (List.mem_cons_of_mem _ hj));have hS3:=HX.out;refine⟨_,_,rfl,MRow.of_row HR13.out hcc (fun j hj=>?_),MRow.of_row HR2.out hcc (fun j hj=>?_)⟩
 ·rcases List.mem_cons.1 hj with e | e
  ·have:=HBW.out;omega
  have:=ho j e;have:=HBW.out;omega
 rcases List.mem_cons.1 hj with e | e
 ·have:=HO1.out;omega
 have:=ho j e;have:=HO1.out;omega
set_option maxRecDepth 100000 in
set_option maxHeartbeats 2000000 in
theorem refSame4_any (va vb:Value) (a b:Plain.Pt) (w:World) (ha:PtAt w va a) (hb:PtAt w vb b) :
  Calls Tryz.prog 21 #[va,vb] w fun e w'=>e=.returned (.bool (decide (a.v=b.v)&&decide (a.e=b.e)))∧Chg [] w w':=by
 obtain⟨v1,v2,rfl,h1,h2⟩:=ha;obtain⟨u1,u2,rfl,k1,k2⟩:=hb;obtain⟨av,ae⟩:=a;obtain⟨bv,be⟩:=b;have H1:=lh h1;have H2:=lh h2;have K1:=lh k1;have K2:=lh k2;obtain⟨p1,c1,rfl,-⟩:=h1;obtain⟨p2,c2,rfl,-⟩:=h2;obtain⟨p3,c3,rfl,-⟩:=k1;obtain⟨p4,c4,rfl,-⟩:=k2;have HXC:=lh (show Chg [] w ((w.alloc (.cells #[.slice p1 av.length c1,.slice p2 ae.length c2] 29)).alloc (.cells #[.slice p3 bv.length c3,.slice p4 be.length c4] 29)) from (show Chg [] w ((w.alloc (.cells #[.slice p1 av.length c1,.slice p2 ae.length c2] 29)).alloc (.cells #[.slice p3 bv.length c3,.slice p4 be.length c4] 29)) from (((Chg.refl [] w).alloc _).alloc _)));have qbx0:=heap_alloc_new w (.cells #[.slice p1 av.length c1,.slice p2 ae.length c2] 29);replace qbx0:=(show Chg [] (w.alloc (.cells #[.slice p1 av.length c1,.slice p2 ae.length c2] 29)) ((w.alloc (.cells #[.slice p1 av.length c1,.slice p2 ae.length c2] 29)).alloc (.cells #[.slice p3 bv.length c3,.slice p4 be.length c4] 29)) from ((Chg.refl [] (w.alloc (.cells #[.slice p1 av.length c1,.slice p2 ae.length c2] 29))).alloc _)).heap qbx0 (by simp);have qbx1:=heap_alloc_new (w.alloc (.cells #[.slice p1 av.length c1,.slice p2 ae.length c2] 29)) (.cells #[.slice p3 bv.length c3,.slice p4 be.length c4] 29);rw[show (w.alloc (.cells #[.slice p1 av.length c1,.slice p2 ae.length c2] 29)).heap.size=w.heap.size+1 by simp] at qbx1;have HX:=lh (fun (w2:World) (hbx:Chg [] ((w.alloc (.cells #[.slice p1 av.length c1,.slice p2 ae.length c2] 29)).alloc (.cells #[.slice p3 bv.length c3,.slice p4 be.length c4] 29)) w2)=>(⟨hbx.c ((cell_of_row _ _ 0 _ _ _ qbx0).trans rfl),hbx.c ((cell_of_row _ _ 1 _ _ _ qbx0).trans rfl),hbx.c ((cell_of_row _ _ 0 _ _ _ qbx1).trans rfl),hbx.c ((cell_of_row _ _ 1 _ _ _ qbx1).trans rfl),by have hz:=hbx.size;simpa using hz⟩:w2.cell? ⟨w.heap.size,0,none⟩=some (.slice p1 av.length c1)∧w2.cell? ⟨w.heap.size,1,none⟩=some (.slice p2 ae.length c2)∧w2.cell? ⟨w.heap.size+1,0,none⟩=some (.slice p3 bv.length c3)∧w2.cell? ⟨w.heap.size+1,1,none⟩=some (.slice p4 be.length c4)∧w.heap.size+2≤w2.heap.size));clear qbx0 qbx1;have HXZ:=lh (show ((w.alloc (.cells #[.slice p1 av.length c1,.slice p2 ae.length c2] 29)).alloc (.cells #[.slice p3 bv.length c3,.slice p4 be.length c4] 29)).heap.size=w.heap.size+2 by simp);obtain⟨x0,x1,y0,y1,hsz⟩:=HX.out _ (Chg.refl _ _)
 go_enter Tryz.func21,Tryz.ntmps21
 go_wp2_with fail
 generalize ((w.alloc (.cells #[.slice p1 av.length c1,.slice p2 ae.length c2] 29)).alloc (.cells #[.slice p3 bv.length c3,.slice p4 be.length c4] 29))=w1 at *;refine (equal_any _ _ av bv _ (H1.out.fresh HXC.out) (K1.out.fresh HXC.out)).mono ?_;rintro e w2 ⟨rfl,hc2⟩;have HC2:=lh (HXC.out.t hc2);clear x0 x1 y0 y1 hsz;obtain⟨x0,x1,y0,y1,hsz⟩:=HX.out _ hc2;clear hc2;by_cases h0:av=bv
 ·have HE:=lh (show decide (av=bv)=true from decide_eq_true h0)
  rw[HE.out];clear h0
  go_wp2_with fail
  refine (equal_any _ _ ae be _ (H2.out.fresh HC2.out) (K2.out.fresh HC2.out)).mono ?_;rintro e w3 ⟨rfl,hc3⟩;have HC3:=lh (HC2.out.t hc3);clear x0 x1 y0 y1 hsz hc3;go_wp2;go_ret;exact⟨ret_bool (by show _=(decide (av=bv)&&decide (ae=be));rw[HE.out];simp),HC3.out⟩
 have HE:=lh (show decide (av=bv)=false from decide_eq_false h0);rw[HE.out];clear h0 x0 x1 y0 y1 hsz;go_wp2;go_ret;exact⟨ret_bool (by show _=(decide (av=bv)&&decide (ae=be));rw[HE.out];simp),HC2.out⟩
end Go.Proofs.YtkacjmoamgjfpaaGreat
namespace Go.Proofs.YtkacjmoamgjfpaaGreat
open Go.ChangeShapes Go.WideShapes Go.ChangeAt Go.RowKit Go.Deep Go.Joins
section
variable {H : Type} {enc : TypeId × Value → H} {w : World} {base : Nat} {held : Bool}
theorem cellsEdges:Tryz.prog.cellsOf 22=1:=by kernel_rfl
theorem cellsRows:Tryz.prog.cellsOf 30=1:=by kernel_rfl
theorem cellsGr:Tryz.prog.cellsOf 24=2:=by kernel_rfl
theorem cellsPt:Tryz.prog.cellsOf 29=2:=by kernel_rfl
theorem cellsPl:Tryz.prog.cellsOf 32=2:=by kernel_rfl
theorem cellsCase:Tryz.prog.cellsOf 34=6:=by kernel_rfl
theorem array6 {α:Type} {cs:Array α} (h:cs.size=6):∃ a b c d e f,cs=#[a,b,c,d,e,f]:=by
 obtain⟨l⟩:=cs
 match l,h with
 | [a,b,c,d,e,f],_=>exact⟨a,b,c,d,e,f,rfl⟩
set_option maxRecDepth 100000 in
theorem gr_cells {fuel:Nat} {c0 c1:Value} {x:DataW H × List MemPlace} (h:DataW.trod enc Tryz.prog w base (fun _=>true) held fuel 24 [c0,c1]=some x):∃ g,GrAt w (.agg #[c0,c1]) g:=by
 obtain⟨y0,y1,n,_,_,h0,h1⟩:=trod_struct2 Tryz.underlying24 h;simp only[cellsInt,cellsEdges,List.drop_zero,List.drop_succ_cons,List.take_succ_cons,List.take_zero] at h0 h1;obtain⟨N,e0,_,w0⟩:=DataW.trod_int Tryz.underlying3 h0;simp at e0;subst e0;rcases open_slice Tryz.underlying22 h1 with ⟨hcs,_⟩ | ⟨a,len',cap',m,n',D,Pl,hcs,_,hl,hm,hmm,_,hx⟩
 ·simp at hcs
  subst hcs;exact⟨⟨N,[]⟩,none,0,rfl,w0,Nat.zero_le _,fun i hi=>absurd hi (by simp),fun i hi=>absurd hi (by simp)⟩
 simp at hcs;subst hcs;simp only[if_true] at hmm;subst hmm;have each:∀ i,i<m→∃ y:Int × Int,(I64 y.1∧I64 y.2)∧w.cell? (a.add (i*2))=some (.int .i64 y.1)∧w.cell? (a.add (i*2+1))=some (.int .i64 y.2):=by
  intro i hi;obtain⟨cs',hc,ht⟩:=hx i hi;rw[cellsEdge] at hc;obtain⟨_,hlen,hat⟩:=World.cells?_some hc;obtain⟨y0,y1,n',_,_,k0,k1⟩:=trod_struct2 Tryz.underlying82 ht
  match cs',hlen with
  | [c0,c1],_ =>
   simp only[cellsInt,List.drop_zero,List.drop_succ_cons,List.take_succ_cons,List.take_zero] at k0 k1;obtain⟨x0,e0,_,q0⟩:=DataW.trod_int Tryz.underlying3 k0;obtain⟨x1,e1,_,q1⟩:=DataW.trod_int Tryz.underlying3 k1;simp at e0 e1;subst e0 e1;refine⟨(x0,x1),⟨q0,q1⟩,?_,?_⟩
   ·have:=hat 0 (by omega);rw[add_add] at this;simpa using this
   have:=hat 1 (by omega);rw[add_add] at this;simpa using this
 obtain⟨f,hf⟩:=choose_lt each;unfold maxLen at hm;have hg:∀ i,i<len'→((List.range len').map f).getD i (0,0)=f i:=fun i hi=>by simp[List.getD,hi]
 refine⟨⟨N,(List.range len').map f⟩,some a,m,by simp,w0,by simp;omega,fun i hi=>?_,fun i hi=>?_⟩
 ·have hi:i<len':=by simpa using hi
  show I64 (((List.range len').map f).getD i (0,0)).1∧I64 (((List.range len').map f).getD i (0,0)).2;rw[hg i hi];exact (hf i (by omega)).1
 have hi:i<len':=by simpa using hi
 obtain⟨_,k0,k1⟩:=hf i (by omega);obtain⟨b,off,spot⟩:=a;have hs:spot=none:=by
  have:=World.cell?_spot (hf 0 (by omega)).2.1;simpa[Addr.add] using this
 subst hs;refine⟨b,off,rfl,?_,?_⟩
 ·show _=some (Value.int .i64 (((List.range len').map f).getD i (0,0)).1)
  rw[hg i hi,←add_plain];exact k0
 show _=some (Value.int .i64 (((List.range len').map f).getD i (0,0)).2);rw[hg i hi,Nat.add_assoc,←add_plain];exact k1
set_option maxRecDepth 100000 in
theorem pt_cells {fuel:Nat} {c0 c1:Value} {x:DataW H × List MemPlace} (h:DataW.trod enc Tryz.prog w base (fun _=>true) held fuel 29 [c0,c1]=some x):∃ g,PtC w (.agg #[c0,c1]) g:=by
 obtain⟨y0,y1,n,_,_,h0,h1⟩:=trod_struct2 Tryz.underlying29 h;simp only[cellsRow,List.drop_zero,List.drop_succ_cons,List.take_succ_cons,List.take_zero] at h0 h1;obtain⟨l0,k0,q0⟩:=ints_open h0;obtain⟨l1,k1,q1⟩:=ints_open h1;exact⟨⟨l0,l1⟩,c0,c1,rfl,⟨k0,q0⟩,⟨k1,q1⟩⟩
set_option maxRecDepth 100000 in
theorem pl_cells {fuel:Nat} {c0 c1:Value} {x:DataW H × List MemPlace} (h:DataW.trod enc Tryz.prog w base (fun _=>true) held fuel 32 [c0,c1]=some x):∃ turn same,PlAt w (.agg #[c0,c1]) turn same:=by
 obtain⟨y0,y1,n,_,_,h0,h1⟩:=trod_struct2 Tryz.underlying32 h;simp only[cellsRows,List.drop_zero,List.drop_succ_cons,List.take_succ_cons,List.take_zero] at h0 h1;obtain⟨l0,k0⟩:=rows_open h0;obtain⟨l1,k1⟩:=rows_open h1;exact⟨l0,l1,c0,c1,rfl,k0,k1⟩
set_option maxRecDepth 100000 in
theorem ptc_open {r:Reach} {b0:Nat} {v:Value} {d:DataW H} {p:List MemPlace} (hv:Value.okWide Tryz.prog w r b0 29 v) (h:DataW.Trod enc Tryz.prog w base (fun _=>true) held 29 v d p):∃ g,PtC w v g:=by
 obtain⟨c0,c1,y0,y1,n,rfl,-,-,h0,h1⟩:=open_agg2 Tryz.underlying29 (by kernel_rfl) (by kernel_rfl) hv h;obtain⟨l0,k0,q0⟩:=ints_open h0;obtain⟨l1,k1,q1⟩:=ints_open h1;exact⟨⟨l0,l1⟩,c0,c1,rfl,⟨k0,q0⟩,⟨k1,q1⟩⟩
set_option maxRecDepth 100000 in
theorem case_open {r:Reach} {b0:Nat} {v:Value} {d:DataW H} {p:List MemPlace} (hv:Value.okWide Tryz.prog w r b0 34 v) (h:DataW.Trod enc Tryz.prog w base (fun _=>true) held 34 v d p):∃ g q turn same,CaseAt w v g q turn same:=by
 obtain⟨cs,rfl,hsz⟩:=okWide_struct Tryz.underlying34 hv;obtain⟨c0,c1,c2,c3,c4,c5,rfl⟩:=array6 (hsz.trans cellsCase);obtain⟨fuel,hf⟩:=h;obtain⟨y0,y1,y2,n,_,_,h0,h1,h2⟩:=trod_struct3 Tryz.underlying34 hf;simp only[Value.cells,cellsGr,cellsPt,cellsPl,List.drop_zero,List.drop_succ_cons,List.take_succ_cons,List.take_zero] at h0 h1 h2;obtain⟨g,hg⟩:=gr_cells h0;obtain⟨q,hq⟩:=pt_cells h1;obtain⟨t,s,hx⟩:=pl_cells h2;exact⟨g,q,t,s,c0,c1,c2,c3,c4,c5,rfl,hg,hq,hx⟩
end
end Go.Proofs.YtkacjmoamgjfpaaGreat
