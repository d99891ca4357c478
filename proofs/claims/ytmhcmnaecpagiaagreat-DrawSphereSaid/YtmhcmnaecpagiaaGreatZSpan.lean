/- ref04.Span: its contract. Conditions: a right graph that lies in memory and reads so; numbers of its edges. -/
import Derived.Test.YtmhcmnaecpagiaaGreatZDropP
namespace Go.Proofs.YtmhcmnaecpagiaaGreat
open Go.RowKit Go.Maps
namespace Plain
def hitS (g:Gr) (edges:List Int) (v:Int):Bool:=edges.any fun e=>decide ((g.at e).1=v) || decide ((g.at e).2=v)
def spanV (g:Gr) (edges:List Int) (k:Nat):List Int:=((List.range k).map fun i:Nat=>(i:Int)).filter (hitS g edges)
def spanPt (g:Gr) (edges:List Int):Pt:=⟨spanV g edges g.n.toNat,edges⟩
theorem spanV_next (g:Gr) (edges:List Int) (k:Nat):spanV g edges (k+1)=spanV g edges k++if hitS g edges (k:Int)=true then [(k:Int)] else []:=by
 unfold spanV;rw[List.range_succ,List.map_append,List.filter_append]
 congr 1
 by_cases h:hitS g edges (k:Int)=true
 ·rw[if_pos h];exact List.filter_cons_of_pos h
 rw[if_neg h];exact List.filter_cons_of_neg h
theorem spanV_len (g:Gr) (edges:List Int) (k:Nat):(spanV g edges k).length≤k:=by
 unfold spanV;exact Nat.le_trans (List.length_filter_le _ _) (by simp)
theorem hitS_at {g:Gr} {edges:List Int} {v:Int} {i:Nat} (hi:i<edges.length) (h:(g.at (edges.getD i 0)).1=v∨(g.at (edges.getD i 0)).2=v):hitS g edges v=true:=by
 unfold hitS;rw[List.any_eq_true];exact⟨_,getD_mem hi,by rw[Bool.or_eq_true,decide_eq_true_iff,decide_eq_true_iff];exact h⟩
theorem hitS_no {g:Gr} {edges:List Int} {v:Int} (h:∀ i,i<edges.length→¬ ((g.at (edges.getD i 0)).1=v∨(g.at (edges.getD i 0)).2=v)):hitS g edges v=false:=by
 unfold hitS;rw[List.any_eq_false];intro e he;obtain⟨i,hi,rfl⟩:=mem_getD he;rw[Bool.or_eq_true,decide_eq_true_iff,decide_eq_true_iff];exact h i hi
end Plain
theorem OutAt.lay0 {w w7:World} {B ob n c n' c':Nat} {uo vo:Option Addr} {V V' E:List Int} (h:OutAt w B ob V E) (h0:w.cell? ⟨ob,0,none⟩=some (.slice uo n c)) (hr:RowAt w7 B (.slice vo n' c') V') (hc:Chg (foot (.slice uo n c)) w w7) (hf:∀ b∈foot (.slice vo n' c'),b∈foot (.slice uo n c)∨w.heap.size≤b) :
  OutAt (w7.setCell ⟨ob,0,none⟩ (.slice vo n' c')) B ob V' E∧(∃ u,w7.cell? ⟨ob,0,none⟩=some u)∧w7.frozen? ⟨ob,0,none⟩=false∧∀ j∈foot (.slice uo n c),B≤j∧j≠ob:=by
 obtain⟨v1,v2,k1,k2,k3,k4,k5⟩:=h;have e1:=(cell_of_row _ _ 0 _ _ _ k1).trans (show _=some v1 from rfl);rw[h0] at e1;obtain rfl:Value.slice uo n c=v1:=by simpa using e1
 have nb:∀ {v:Value} {q:List Int},RowAt w B v q→ob ∉ foot v:=fun h e=>by
  obtain⟨cs,r,hh⟩:=row_kind h _ e;rw[k1] at hh;simp at hh
 have h7:=hc.heap k1 (nb k2);have hset:Chg [ob] w7 (w7.setCell ⟨ob,0,none⟩ (.slice vo n' c')):=(Chg.refl _ w7).setCell (Or.inl (by simp)) _;have kind7:∀ {v:Value} {q:List Int},RowAt w7 B v q→∀ b∈v.ownBlock.toList,b ∉ [ob]:=fun h b hb e=>by
  obtain⟨cs,r,hh⟩:=row_kind h b (by rw[h.foot];exact hb);simp at e;rw[e,h7] at hh;simp at hh
 have h2:=k3.chg hc (fun b hb e=>k4 b e (by rw[k3.foot];exact hb));refine⟨⟨_,v2,heap_setCell_same h7 0 _,hr.chg hset (kind7 hr),h2.chg hset (kind7 h2),fun j hj e=>?_,k5⟩,⟨_,(cell_of_row _ _ 0 _ _ _ h7).trans rfl⟩,free_at h7 0,fun j hj=>⟨(k2.low j (by rw[←k2.foot];exact hj)).1,fun e=>nb k2 (by rw[←e];exact hj)⟩⟩;rcases hf j hj with q | q
 ·exact k4 j q e
 have:=(k3.low j (by rw[←k3.foot];exact e)).2;omega
set_option maxRecDepth 100000 in
set_option maxHeartbeats 4000000 in
theorem span_row (vg vl:Value) (g:Plain.Gr) (edges:List Int) (w:World) (hge:g.err=0) (hl:edges.length≤1000000) (hes:∀ e∈edges,0≤e∧e<g.e.length) (hg:GrAt w vg g) (he:IntsAt w vl edges) :
  Calls Tryz.prog 115 #[vg,vl] w fun e w'=>∃ v1 v2,e=.returned (.agg #[v1,v2])∧RowAt w' w.heap.size v1 (Plain.spanPt g edges).v∧RowAt w' w.heap.size v2 (Plain.spanPt g edges).e∧(∀ j∈foot v1,j ∉ foot v2)∧PtC w' (.agg #[v1,v2]) (Plain.spanPt g edges)∧Chg [] w w':=by
 have HES:=lh hes;have HG:=lh hg;have HE:=lh he;have HGE:=lh (Plain.Gr.err_ok hge);obtain⟨eo,cap,rfl,-,hm,-,hcell⟩:=hg;have HCE:=lh hcell;obtain⟨lo,lc,rfl,hI,-,-⟩:=he;obtain⟨n,hn⟩:∃ n:Nat,g.n=(n:Int):=⟨g.n.toNat,by have:=HGE.out.1;omega⟩;have hn1:n≤1024:=by have:=HGE.out.2.1;omega
 have HN:=lh hn;have hglen:g.e.length<4294967296:=by have:=HGE.out.2.2.1;have:=HGE.out.1;omega
 rw[hn];clear hes hcell hI hge hn;have HXC:=lh (show Chg [] w (((w.alloc (.cells #[.int .i64 n,.slice eo g.e.length cap] 24)).alloc (.cells #[.slice none 0 0,.slice none 0 0] 27)).alloc (.cells #[.slice none 0 0,.slice none 0 0] 27)) from (show Chg [] w (((w.alloc (.cells #[.int .i64 n,.slice eo g.e.length cap] 24)).alloc (.cells #[.slice none 0 0,.slice none 0 0] 27)).alloc (.cells #[.slice none 0 0,.slice none 0 0] 27)) from ((((Chg.refl [] w).alloc _).alloc _).alloc _)));have qbx0:=heap_alloc_new w (.cells #[.int .i64 n,.slice eo g.e.length cap] 24);replace qbx0:=(show Chg [] (w.alloc (.cells #[.int .i64 n,.slice eo g.e.length cap] 24)) (((w.alloc (.cells #[.int .i64 n,.slice eo g.e.length cap] 24)).alloc (.cells #[.slice none 0 0,.slice none 0 0] 27)).alloc (.cells #[.slice none 0 0,.slice none 0 0] 27)) from (((Chg.refl [] (w.alloc (.cells #[.int .i64 n,.slice eo g.e.length cap] 24))).alloc _).alloc _)).heap qbx0 (by simp);have qbx1:=heap_alloc_new (w.alloc (.cells #[.int .i64 n,.slice eo g.e.length cap] 24)) (.cells #[.slice none 0 0,.slice none 0 0] 27);rw[show (w.alloc (.cells #[.int .i64 n,.slice eo g.e.length cap] 24)).heap.size=w.heap.size+1 by simp] at qbx1;replace qbx1:=(show Chg [] ((w.alloc (.cells #[.int .i64 n,.slice eo g.e.length cap] 24)).alloc (.cells #[.slice none 0 0,.slice none 0 0] 27)) (((w.alloc (.cells #[.int .i64 n,.slice eo g.e.length cap] 24)).alloc (.cells #[.slice none 0 0,.slice none 0 0] 27)).alloc (.cells #[.slice none 0 0,.slice none 0 0] 27)) from ((Chg.refl [] ((w.alloc (.cells #[.int .i64 n,.slice eo g.e.length cap] 24)).alloc (.cells #[.slice none 0 0,.slice none 0 0] 27))).alloc _)).heap qbx1 (by simp);have qbx2:=heap_alloc_new ((w.alloc (.cells #[.int .i64 n,.slice eo g.e.length cap] 24)).alloc (.cells #[.slice none 0 0,.slice none 0 0] 27)) (.cells #[.slice none 0 0,.slice none 0 0] 27);rw[show ((w.alloc (.cells #[.int .i64 n,.slice eo g.e.length cap] 24)).alloc (.cells #[.slice none 0 0,.slice none 0 0] 27)).heap.size=w.heap.size+2 by simp] at qbx2;have HX:=lh (fun (w2:World) (hbx:Chg [] (((w.alloc (.cells #[.int .i64 n,.slice eo g.e.length cap] 24)).alloc (.cells #[.slice none 0 0,.slice none 0 0] 27)).alloc (.cells #[.slice none 0 0,.slice none 0 0] 27)) w2)=>(⟨hbx.c ((cell_of_row _ _ 0 _ _ _ qbx0).trans rfl),hbx.c ((cell_of_row _ _ 1 _ _ _ qbx0).trans rfl),hbx.heap qbx1 (by simp),hbx.heap qbx2 (by simp),by have hz:=hbx.size;simpa using hz⟩:w2.cell? ⟨w.heap.size,0,none⟩=some (.int .i64 n)∧w2.cell? ⟨w.heap.size,1,none⟩=some (.slice eo g.e.length cap)∧w2.heap[w.heap.size+1]?=some (.cells #[.slice none 0 0,.slice none 0 0] 27 (0,0))∧w2.heap[w.heap.size+2]?=some (.cells #[.slice none 0 0,.slice none 0 0] 27 (0,0))∧w.heap.size+3≤w2.heap.size));clear qbx0 qbx1 qbx2;have HXZ:=lh (show (((w.alloc (.cells #[.int .i64 n,.slice eo g.e.length cap] 24)).alloc (.cells #[.slice none 0 0,.slice none 0 0] 27)).alloc (.cells #[.slice none 0 0,.slice none 0 0] 27)).heap.size=w.heap.size+3 by simp);obtain⟨x0,x1,r8,r9,hsz⟩:=HX.out _ (Chg.refl _ _);have HO0:=lh (show OutAt _ (w.heap.size+2) (w.heap.size+2) [] [] from⟨_,_,r9,rowNil' _ _,rowNil' _ _,by simp[foot,Value.ownBlock],Nat.le_refl _⟩);have p1:=(cell_of_row _ _ 1 _ _ _ r9).trans (show _=some (Value.slice none 0 0) from rfl);have z1:=free_at r9 1;clear r8
 go_enter Tryz.func115,Tryz.ntmps115
 go_wp2_with (at_builtin;refine wl_app_read rfl _ _ rfl (B:=w.heap.size+2) (v:=.slice none 0 0) rfl rfl (rowNil' _ _) (HE.out.fresh HXC.out) (by omega) (by simp;omega) ?_;intro v6 w6 r6 c6 f6;obtain⟨o6,k6,rfl⟩:=r6.shape;have R6:=lh r6;have C6:=lh (show Chg [] _ w6 from c6);have d1:=C6.out.c p1;have e1:=free_at (C6.out.heap r9 (by simp)) 1;clear p1 z1 r6 c6 f6)
 have hlay:=HO0.out.fresh C6.out;obtain⟨v1,v2,k1,k2,k3,k4,k5⟩:=hlay;have hv1:=(cell_of_row _ _ 0 _ _ _ (C6.out.heap r9 (by simp))).trans (show _=some (Value.slice none 0 0) from rfl);have hv1':=(cell_of_row _ _ 0 _ _ _ k1).trans (show _=some v1 from rfl);rw[hv1] at hv1';obtain rfl:Value.slice none 0 0=v1:=by simpa using hv1'
 have hset:Chg [w.heap.size+2] w6 (w6.setCell ⟨w.heap.size+2,1,none⟩ (.slice o6 edges.length k6)):=(Chg.refl _ w6).setCell (Or.inl (by simp)) _;have hrow6:RowAt w6 (w.heap.size+2) (.slice o6 edges.length k6) edges:=R6.out;have HO:=lh (show OutAt (w6.setCell ⟨w.heap.size+2,1,none⟩ (.slice o6 edges.length k6)) (w.heap.size+2) (w.heap.size+2) (Plain.spanV g edges 0) edges from⟨_,_,heap_setCell_same k1 1 _,rowNil' _ _,hrow6.chg hset (fun b hb e=>by
  obtain⟨cs,r,hh⟩:=row_kind hrow6 b (by rw[hrow6.foot];exact hb);simp at e;rw[e,k1] at hh;simp at hh),by simp[foot,Value.ownBlock],Nat.le_refl _⟩)
 have HXB:=lh (show ∀ w2,Chg [w.heap.size+2] (((w.alloc (.cells #[.int .i64 n,.slice eo g.e.length cap] 24)).alloc (.cells #[.slice none 0 0,.slice none 0 0] 27)).alloc (.cells #[.slice none 0 0,.slice none 0 0] 27)) w2→w2.cell? ⟨w.heap.size,0,none⟩=some (.int .i64 n)∧w2.cell? ⟨w.heap.size,1,none⟩=some (.slice eo g.e.length cap)∧w2.heap[w.heap.size+1]?=some (.cells #[.slice none 0 0,.slice none 0 0] 27 (0,0)) from fun w2 h=>by
  obtain⟨q0,q1,q2,-,-⟩:=HX.out _ (Chg.refl _ _);exact⟨h.c q0,h.c q1,h.heap q2 (by simp)⟩)
 have HSZ:=lh (show (((w.alloc (.cells #[.int .i64 n,.slice eo g.e.length cap] 24)).alloc (.cells #[.slice none 0 0,.slice none 0 0] 27)).alloc (.cells #[.slice none 0 0,.slice none 0 0] 27)).heap.size=w.heap.size+3 by simp);have HC7:=lh ((C6.out.mono (by simp):Chg [w.heap.size+2] _ w6).trans hset (fun j hj=>Or.inl hj));clear r9 hsz k1 k2 k3 k4 k5 hv1 hv1' hset hrow6 d1 e1;generalize w6.setCell ⟨w.heap.size+2,1,none⟩ (.slice o6 edges.length k6)=w7 at *;generalize (((w.alloc (.cells #[.int .i64 n,.slice eo g.e.length cap] 24)).alloc (.cells #[.slice none 0 0,.slice none 0 0] 27)).alloc (.cells #[.slice none 0 0,.slice none 0 0] 27))=w1 at *;clear x0 x1
 go_loopw [6] (fun c wr=>∃ v:Nat,v≤n∧c=.int .i64 v∧OutAt wr (w.heap.size+2) (w.heap.size+2) (Plain.spanV g edges v) edges∧Chg [w.heap.size+2] w1 wr) (fun c _=>n - (intOf c).toNat)
 case atStart=>exact⟨0,Nat.zero_le _,rfl,HO.out,HC7.out⟩
 case round =>
  obtain⟨v,hv,rfl,hout,hc⟩:=hrel;have HOUT:=lh hout;have HC:=lh hc;obtain⟨x0,x1,r8⟩:=HXB.out _ hc;clear r8 hout hc;by_cases hlt:v<n
  ·go_wp2
   clear x0 x1
   go_loopw [7] (fun c wi=>∃ i:Nat,i≤edges.length∧c=.int .i64 i∧OutAt wi (w.heap.size+2) (w.heap.size+2) (Plain.spanV g edges v) edges∧Hid (∀ j,j<i→¬ ((g.at (edges.getD j 0)).1=(v:Int)∨(g.at (edges.getD j 0)).2=(v:Int)))∧Chg [w.heap.size+2] w1 wi) (fun c _=>edges.length - (intOf c).toNat)
   case atStart=>exact⟨0,Nat.zero_le _,rfl,HOUT.out,lh (by omega),HC.out⟩
   case round =>
    rename World=>wi;clear HOUT HC;obtain⟨i,hi,rfl,hout,hno,hc⟩:=hrel;have HOUT:=lh hout;have HC:=lh hc;have HSI:=lh (show w.heap.size+3≤wi.heap.size by rw[←HSZ.out];exact hc.size);have HCW:=lh (show Chg [] w wi from HXC.out.trans hc (fun j hj=>Or.inr (by simp at hj;omega)));obtain⟨x0,x1,r8⟩:=HXB.out _ hc;clear r8 hout hc;by_cases hli:i<edges.length
    ·obtain⟨rb,roff,rfl,rc⟩:=IntsAt.cellAt HE.out hli
     have rcell:=HCW.out.c rc;have her:=HES.out _ (Plain.getD_mem hli);have HAT:=lh (fun h=>Plain.hitS_at (g:=g) (v:=(v:Int)) hli h);have HNO:=lh (fun (h:¬ ((g.at (edges.getD i 0)).1=(v:Int)∨(g.at (edges.getD i 0)).2=(v:Int))) j (hj:j<i+1)=>show ¬ ((g.at (edges.getD j 0)).1=(v:Int)∨(g.at (edges.getD j 0)).2=(v:Int)) from by
      by_cases e:j=i
      ·rw[e];exact h
      exact hno.out j (by omega))
     obtain⟨ei,hei⟩:∃ ei:Nat,edges.getD i 0=(ei:Int):=⟨(edges.getD i 0).toNat,by omega⟩;rw[hei] at rcell her HAT HNO;have hel:ei<g.e.length:=by omega
     obtain⟨eb,eoff,rfl,hc0,hc1⟩:=HCE.out ei hel;have c0:=HCW.out.c hc0;have c1:=HCW.out.c hc1;have hat:g.at (ei:Int)=g.ends ei:=by unfold Plain.Gr.at;rw[Int.toNat_natCast]
     rw[hat] at HAT HNO;obtain⟨x,hx⟩:∃ x,(g.ends ei).1=x:=⟨_,rfl⟩;obtain⟨y,hy⟩:∃ y,(g.ends ei).2=y:=⟨_,rfl⟩;rw[hx,hy] at HAT HNO;rw[hx] at c0;rw[hy] at c1;have HSP:=lh (Plain.spanV_next g edges v);have hsl:=Plain.spanV_len g edges v;have IVV:I64 (v:Int):=I64.mk (by omega) (by omega);clear rc her hei hc0 hc1 hat hx hy;by_cases hxy:x=(v:Int)∨y=(v:Int)
     ·have HS1:=lh (HSP.out.trans (by rw[if_pos (HAT.out hxy)]))
      obtain⟨M,hM⟩:∃ M,Plain.spanV g edges v=M:=⟨_,rfl⟩;obtain⟨M2,hM2⟩:∃ M2,Plain.spanV g edges (v+1)=M2:=⟨_,rfl⟩;rw[hM] at HS1 HOUT hsl;rw[hM2] at HS1;have HM2:=lh hM2;have hml:M.length<4294967290:=by omega
      clear hM hM2;by_cases h1:x=(v:Int)
      ·have b1:(x==(v:Int))=true:=by rw[beq_iff_eq];exact h1
       clear h1 hxy;go_wp2;have hS0:Chg [] wi wi.drew:=(Chg.refl [] wi).drew;refine wp_region_way (Chg [] wi) [0,1,2,3,4,5,6,7,8,9,10,11,12,13,14,15,16,17,18,19,20,21,22,23] (Way.line [0,1,2,3,4,5,6,7,8,9,10,11,12,13,14,15,16,17,18,19,20,21,22,23] .done) (by kernel_rfl) (by kernel_rfl) ?_;simp only[Way.line]
       repeat
        first
         | (refine along_off rfl (by rfl) (by rfl) (fun _ _ _ h=>h) hS0 ?_;simp only[Act.put,Z1,Z2,Z3,Z4,Z5,Z6])
         | (refine along_read (v:=?_) rfl (by rfl) (by rfl) (fun _ _ _ h=>h) hS0 (fun w' hS'=>?_) ?_;rotate_left;(focus (have rd0:=hS'.c x1;have rd1:=hS'.c rcell;have rd2:=hS'.c c0;have rd3:=hS'.c c1;clear hS';go_simp;try with_reducible rfl));simp only[Act.put,Z1,Z2,Z3,Z4,Z5,Z6])
         | (refine along_skip rfl (by rfl) (by rfl) hS0 ?_;simp only[Act.put,Z1,Z2,Z3,Z4,Z5,Z6])
       refine along_done ?_;have HC2:=lh (HC.out.t hS0);have HO2:=lh (HOUT.out.fresh hS0);have HSD:=lh (Nat.le_trans HSI.out hS0.size);clear hS0 x0 x1 rcell c0 c1;generalize wi.drew=wd at *;obtain⟨u1,u2,ku1,ku2,-,-,-⟩:=HO2.out;obtain⟨uo,uc,rfl⟩:=ku2.shape;have KU:=lh ku2;have o0:=(cell_of_row _ _ 0 _ _ _ ku1).trans (show _=some (Value.slice uo M.length uc) from rfl);have O0:=lh o0;clear ku1 ku2;have HB2:=lh (show w.heap.size+2≤wd.heap.size by have:=HSD.out;omega);have HS1b:=lh (HS1.out.symm)
       go_wp2_with (at_builtin;refine wl_push rfl _ _ rfl (B:=w.heap.size+2) (v:=.slice uo _ uc) rfl rfl KU.out IVV HB2.out hml rfl ?_;intro v6 w9 r6 c6 f6;rw[HS1b.out] at r6;obtain⟨o9,k9,rfl⟩:=r6.shape;have L:=lh (OutAt.lay0 HO2.out O0.out r6 c6 f6);have CC:=lh c6;obtain⟨-,⟨du,d6⟩,e6,-⟩:=L.out;clear r6 c6 f6)
       have hset:Chg [w.heap.size+2] w9 (w9.setCell ⟨w.heap.size+2,0,none⟩ (.slice o9 M2.length k9)):=(Chg.refl _ w9).setCell (Or.inl (by simp)) _;have HCF:=lh (show Chg [w.heap.size+2] w1 (w9.setCell ⟨w.heap.size+2,0,none⟩ (.slice o9 M2.length k9)) from (HC2.out.trans CC.out (fun j hj=>Or.inr (by have:=L.out.2.2.2 j hj;have:=HSZ.out;omega))).trans hset (fun j hj=>Or.inl hj));clear hset d6 e6 o0;generalize (w9.setCell ⟨w.heap.size+2,0,none⟩ (.slice o9 M2.length k9))=wF at *
       go_roundw
       case rel=>exact⟨v+1,by omega,by go_num,by rw[HM2.out];exact L.out.1,HCF.out⟩
       case measure=>simp[intOf];omega
      have b1:(x==(v:Int))=false:=by rw[beq_eq_false_iff_ne];exact h1
      have b2:(y==(v:Int))=true:=by rw[beq_iff_eq];exact hxy.resolve_left h1
      clear h1 hxy;go_wp2;have hS0:Chg [] wi wi.drew:=(Chg.refl [] wi).drew;refine wp_region_way (Chg [] wi) [0,1,2,3,4,5,6,7,8,9,10,11,12,13,14,15,16,17,18,19,20,21,22,23] (Way.line [0,1,2,3,4,5,6,7,8,9,10,11,12,13,14,15,16,17,18,19,20,21,22,23] .done) (by kernel_rfl) (by kernel_rfl) ?_;simp only[Way.line]
      repeat
       first
        | (refine along_off rfl (by rfl) (by rfl) (fun _ _ _ h=>h) hS0 ?_;simp only[Act.put,Z1,Z2,Z3,Z4,Z5,Z6])
        | (refine along_read (v:=?_) rfl (by rfl) (by rfl) (fun _ _ _ h=>h) hS0 (fun w' hS'=>?_) ?_;rotate_left;(focus (have rd0:=hS'.c x1;have rd1:=hS'.c rcell;have rd2:=hS'.c c0;have rd3:=hS'.c c1;clear hS';go_simp;try with_reducible rfl));simp only[Act.put,Z1,Z2,Z3,Z4,Z5,Z6])
        | (refine along_skip rfl (by rfl) (by rfl) hS0 ?_;simp only[Act.put,Z1,Z2,Z3,Z4,Z5,Z6])
      refine along_done ?_;have HC2:=lh (HC.out.t hS0);have HO2:=lh (HOUT.out.fresh hS0);have HSD:=lh (Nat.le_trans HSI.out hS0.size);clear hS0 x0 x1 rcell c0 c1;generalize wi.drew=wd at *;obtain⟨u1,u2,ku1,ku2,-,-,-⟩:=HO2.out;obtain⟨uo,uc,rfl⟩:=ku2.shape;have KU:=lh ku2;have o0:=(cell_of_row _ _ 0 _ _ _ ku1).trans (show _=some (Value.slice uo M.length uc) from rfl);have O0:=lh o0;clear ku1 ku2;have HB2:=lh (show w.heap.size+2≤wd.heap.size by have:=HSD.out;omega);have HS1b:=lh (HS1.out.symm)
      go_wp2_with (at_builtin;refine wl_push rfl _ _ rfl (B:=w.heap.size+2) (v:=.slice uo _ uc) rfl rfl KU.out IVV HB2.out hml rfl ?_;intro v6 w9 r6 c6 f6;rw[HS1b.out] at r6;obtain⟨o9,k9,rfl⟩:=r6.shape;have L:=lh (OutAt.lay0 HO2.out O0.out r6 c6 f6);have CC:=lh c6;obtain⟨-,⟨du,d6⟩,e6,-⟩:=L.out;clear r6 c6 f6)
      have hset:Chg [w.heap.size+2] w9 (w9.setCell ⟨w.heap.size+2,0,none⟩ (.slice o9 M2.length k9)):=(Chg.refl _ w9).setCell (Or.inl (by simp)) _;have HCF:=lh (show Chg [w.heap.size+2] w1 (w9.setCell ⟨w.heap.size+2,0,none⟩ (.slice o9 M2.length k9)) from (HC2.out.trans CC.out (fun j hj=>Or.inr (by have:=L.out.2.2.2 j hj;have:=HSZ.out;omega))).trans hset (fun j hj=>Or.inl hj));clear hset d6 e6 o0;generalize (w9.setCell ⟨w.heap.size+2,0,none⟩ (.slice o9 M2.length k9))=wF at *
      go_roundw
      case rel=>exact⟨v+1,by omega,by go_num,by rw[HM2.out];exact L.out.1,HCF.out⟩
      case measure=>simp[intOf];omega
     have b1:(x==(v:Int))=false:=by rw[beq_eq_false_iff_ne];exact fun e=>hxy (Or.inl e)
     have b2:(y==(v:Int))=false:=by rw[beq_eq_false_iff_ne];exact fun e=>hxy (Or.inr e)
     have HN1:=lh (HNO.out hxy);clear hxy;go_wp2;have hS0:Chg [] wi wi.drew:=(Chg.refl [] wi).drew;refine wp_region_way (Chg [] wi) [0,1,2,3,4,5,6,7,8,9,10,11,12,13,14,15,16,17,18,19,20,21,22,23] (Way.line [0,1,2,3,4,5,6,7,8,9,10,11,12,13,14,15,16,17,18,19,20,21,22,23] .done) (by kernel_rfl) (by kernel_rfl) ?_;simp only[Way.line]
     repeat
      first
       | (refine along_off rfl (by rfl) (by rfl) (fun _ _ _ h=>h) hS0 ?_;simp only[Act.put,Z1,Z2,Z3,Z4,Z5,Z6])
       | (refine along_read (v:=?_) rfl (by rfl) (by rfl) (fun _ _ _ h=>h) hS0 (fun w' hS'=>?_) ?_;rotate_left;(focus (have rd0:=hS'.c x1;have rd1:=hS'.c rcell;have rd2:=hS'.c c0;have rd3:=hS'.c c1;clear hS';go_simp;try with_reducible rfl));simp only[Act.put,Z1,Z2,Z3,Z4,Z5,Z6])
       | (refine along_skip rfl (by rfl) (by rfl) hS0 ?_;simp only[Act.put,Z1,Z2,Z3,Z4,Z5,Z6])
     refine along_done ?_;have HC2:=lh (HC.out.t hS0);have HO2:=lh (HOUT.out.fresh hS0);clear hS0 x0 x1 rcell c0 c1;generalize wi.drew=wd at *;go_wp2
     go_roundw
     case rel=>exact⟨i+1,by omega,by go_num,HO2.out,HN1,HC2.out⟩
     case measure=>simp[intOf];omega
    have e:i=edges.length:=by omega
    subst e;have HS1:=lh ((Plain.spanV_next g edges v).trans (by rw[Plain.hitS_no hno.out,if_neg (by simp),List.append_nil]));clear x0 x1 hli hi;go_wp2
    go_roundw
    case rel=>exact⟨v+1,by omega,by go_num,by rw[HS1.out];exact HOUT.out,HC.out⟩
    case measure=>simp[intOf];omega
  have e:v=n:=by omega
  subst e;have HSV:=lh (show Plain.spanPt g edges=⟨Plain.spanV g edges v,edges⟩ by unfold Plain.spanPt;rw[HN.out,Int.toNat_natCast]);obtain⟨V,hV⟩:∃ V,Plain.spanV g edges v=V:=⟨_,rfl⟩;rw[hV] at HOUT HSV;obtain⟨v1,v2,k1,k2,k3,k4,-⟩:=HOUT.out;have K4:=lh k4;obtain⟨a1,q1,rfl⟩:=k2.shape;obtain⟨a2,q2,rfl⟩:=k3.shape;have K2:=lh k2;have K3:=lh k3;have p0:=(cell_of_row _ _ 0 _ _ _ k1).trans (show _=some (Value.slice a1 V.length q1) from rfl);have p1:=(cell_of_row _ _ 1 _ _ _ k1).trans (show _=some (Value.slice a2 edges.length q2) from rfl);obtain⟨-,-,hr8⟩:=HXB.out _ HC.out;have HR8:=lh hr8;have r0:=(cell_of_row _ _ 0 _ _ _ hr8).trans (show _=some (Value.slice none 0 0) from rfl);have r1:=(cell_of_row _ _ 1 _ _ _ hr8).trans (show _=some (Value.slice none 0 0) from rfl);have f0:=free_at hr8 0;have f1:=free_at hr8 1;have HCW:=lh (show Chg [] w wr from HXC.out.trans HC.out (fun j hj=>Or.inr (by simp at hj;omega)));clear k1 k2 k3 k4 hr8 hlt hV;go_wp2;obtain⟨-,o0,o1,o2⟩:=out_store2 HR8.out (.slice a1 V.length q1) (.slice a2 edges.length q2);refine bodyPost_ret (v:=.agg #[.slice a1 V.length q1,.slice a2 edges.length q2]) (by simp[results,Tryz.results115,go_sem,o0,o1]) rfl ?_;have hkind:∀ {v:Value} {q:List Int},RowAt wr (w.heap.size+2) v q→∀ b∈v.ownBlock.toList,b ∉ [w.heap.size+1]:=fun h b hb e=>by have:=(h.low b hb).1;simp at e;omega
  exact⟨_,_,rfl,by rw[HSV.out];exact (K2.out.chg o2 (hkind K2.out)).base (by omega),by rw[HSV.out];exact (K3.out.chg o2 (hkind K3.out)).base (by omega),K4.out,by rw[HSV.out];exact⟨_,_,rfl,MRow.of_row K2.out o2 (fun j hj=>by simp at hj;omega),MRow.of_row K3.out o2 (fun j hj=>by simp at hj;omega)⟩,HCW.out.trans o2 (fun j hj=>Or.inr (by simp at hj;omega))⟩
set_option maxRecDepth 100000 in
set_option maxHeartbeats 2000000 in
theorem refSame4_any (va vb:Value) (a b:Plain.Pt) (w:World) (ha:PtAt w va a) (hb:PtAt w vb b) :
  Calls Tryz.prog 52 #[va,vb] w fun e w'=>e=.returned (.bool (decide (a.v=b.v)&&decide (a.e=b.e)))∧Chg [] w w':=by
 obtain⟨v1,v2,rfl,h1,h2⟩:=ha;obtain⟨u1,u2,rfl,k1,k2⟩:=hb;obtain⟨av,ae⟩:=a;obtain⟨bv,be⟩:=b;have H1:=lh h1;have H2:=lh h2;have K1:=lh k1;have K2:=lh k2;obtain⟨p1,c1,rfl,-⟩:=h1;obtain⟨p2,c2,rfl,-⟩:=h2;obtain⟨p3,c3,rfl,-⟩:=k1;obtain⟨p4,c4,rfl,-⟩:=k2;have HXC:=lh (show Chg [] w ((w.alloc (.cells #[.slice p1 av.length c1,.slice p2 ae.length c2] 27)).alloc (.cells #[.slice p3 bv.length c3,.slice p4 be.length c4] 27)) from (show Chg [] w ((w.alloc (.cells #[.slice p1 av.length c1,.slice p2 ae.length c2] 27)).alloc (.cells #[.slice p3 bv.length c3,.slice p4 be.length c4] 27)) from (((Chg.refl [] w).alloc _).alloc _)));have qbx0:=heap_alloc_new w (.cells #[.slice p1 av.length c1,.slice p2 ae.length c2] 27);replace qbx0:=(show Chg [] (w.alloc (.cells #[.slice p1 av.length c1,.slice p2 ae.length c2] 27)) ((w.alloc (.cells #[.slice p1 av.length c1,.slice p2 ae.length c2] 27)).alloc (.cells #[.slice p3 bv.length c3,.slice p4 be.length c4] 27)) from ((Chg.refl [] (w.alloc (.cells #[.slice p1 av.length c1,.slice p2 ae.length c2] 27))).alloc _)).heap qbx0 (by simp);have qbx1:=heap_alloc_new (w.alloc (.cells #[.slice p1 av.length c1,.slice p2 ae.length c2] 27)) (.cells #[.slice p3 bv.length c3,.slice p4 be.length c4] 27);rw[show (w.alloc (.cells #[.slice p1 av.length c1,.slice p2 ae.length c2] 27)).heap.size=w.heap.size+1 by simp] at qbx1;have HX:=lh (fun (w2:World) (hbx:Chg [] ((w.alloc (.cells #[.slice p1 av.length c1,.slice p2 ae.length c2] 27)).alloc (.cells #[.slice p3 bv.length c3,.slice p4 be.length c4] 27)) w2)=>(⟨hbx.c ((cell_of_row _ _ 0 _ _ _ qbx0).trans rfl),hbx.c ((cell_of_row _ _ 1 _ _ _ qbx0).trans rfl),hbx.c ((cell_of_row _ _ 0 _ _ _ qbx1).trans rfl),hbx.c ((cell_of_row _ _ 1 _ _ _ qbx1).trans rfl),by have hz:=hbx.size;simpa using hz⟩:w2.cell? ⟨w.heap.size,0,none⟩=some (.slice p1 av.length c1)∧w2.cell? ⟨w.heap.size,1,none⟩=some (.slice p2 ae.length c2)∧w2.cell? ⟨w.heap.size+1,0,none⟩=some (.slice p3 bv.length c3)∧w2.cell? ⟨w.heap.size+1,1,none⟩=some (.slice p4 be.length c4)∧w.heap.size+2≤w2.heap.size));clear qbx0 qbx1;have HXZ:=lh (show ((w.alloc (.cells #[.slice p1 av.length c1,.slice p2 ae.length c2] 27)).alloc (.cells #[.slice p3 bv.length c3,.slice p4 be.length c4] 27)).heap.size=w.heap.size+2 by simp);obtain⟨x0,x1,y0,y1,hsz⟩:=HX.out _ (Chg.refl _ _)
 go_enter Tryz.func52,Tryz.ntmps52
 go_wp2_with fail
 generalize ((w.alloc (.cells #[.slice p1 av.length c1,.slice p2 ae.length c2] 27)).alloc (.cells #[.slice p3 bv.length c3,.slice p4 be.length c4] 27))=w1 at *;refine (equal_any _ _ av bv _ (H1.out.fresh HXC.out) (K1.out.fresh HXC.out)).mono ?_;rintro e w2 ⟨rfl,hc2⟩;have HC2:=lh (HXC.out.t hc2);clear x0 x1 y0 y1 hsz;obtain⟨x0,x1,y0,y1,hsz⟩:=HX.out _ hc2;clear hc2;by_cases h0:av=bv
 ·have HE:=lh (show decide (av=bv)=true from decide_eq_true h0)
  rw[HE.out];clear h0
  go_wp2_with fail
  refine (equal_any _ _ ae be _ (H2.out.fresh HC2.out) (K2.out.fresh HC2.out)).mono ?_;rintro e w3 ⟨rfl,hc3⟩;have HC3:=lh (HC2.out.t hc3);clear x0 x1 y0 y1 hsz hc3;go_wp2;go_ret;exact⟨ret_bool (by show _=(decide (av=bv)&&decide (ae=be));rw[HE.out];simp),HC3.out⟩
 have HE:=lh (show decide (av=bv)=false from decide_eq_false h0);rw[HE.out];clear h0 x0 x1 y0 y1 hsz;go_wp2;go_ret;exact⟨ret_bool (by show _=(decide (av=bv)&&decide (ae=be));rw[HE.out];simp),HC2.out⟩
set_option maxRecDepth 100000 in
set_option maxHeartbeats 2000000 in
theorem gsame_any (va vb:Value) (a b:Plain.Pt) (w:World) (ha:PtAt w va a) (hb:PtAt w vb b) :
  Calls Tryz.prog 74 #[va,vb] w fun e w'=>e=.returned (.bool (decide (a.v=b.v)&&decide (a.e=b.e)))∧Chg [] w w':=by
 obtain⟨v1,v2,rfl,h1,h2⟩:=ha;obtain⟨u1,u2,rfl,k1,k2⟩:=hb;obtain⟨av,ae⟩:=a;obtain⟨bv,be⟩:=b;have H1:=lh h1;have H2:=lh h2;have K1:=lh k1;have K2:=lh k2;obtain⟨p1,c1,rfl,-⟩:=h1;obtain⟨p2,c2,rfl,-⟩:=h2;obtain⟨p3,c3,rfl,-⟩:=k1;obtain⟨p4,c4,rfl,-⟩:=k2;have HXC:=lh (show Chg [] w ((w.alloc (.cells #[.slice p1 av.length c1,.slice p2 ae.length c2] 27)).alloc (.cells #[.slice p3 bv.length c3,.slice p4 be.length c4] 27)) from (show Chg [] w ((w.alloc (.cells #[.slice p1 av.length c1,.slice p2 ae.length c2] 27)).alloc (.cells #[.slice p3 bv.length c3,.slice p4 be.length c4] 27)) from (((Chg.refl [] w).alloc _).alloc _)));have qbx0:=heap_alloc_new w (.cells #[.slice p1 av.length c1,.slice p2 ae.length c2] 27);replace qbx0:=(show Chg [] (w.alloc (.cells #[.slice p1 av.length c1,.slice p2 ae.length c2] 27)) ((w.alloc (.cells #[.slice p1 av.length c1,.slice p2 ae.length c2] 27)).alloc (.cells #[.slice p3 bv.length c3,.slice p4 be.length c4] 27)) from ((Chg.refl [] (w.alloc (.cells #[.slice p1 av.length c1,.slice p2 ae.length c2] 27))).alloc _)).heap qbx0 (by simp);have qbx1:=heap_alloc_new (w.alloc (.cells #[.slice p1 av.length c1,.slice p2 ae.length c2] 27)) (.cells #[.slice p3 bv.length c3,.slice p4 be.length c4] 27);rw[show (w.alloc (.cells #[.slice p1 av.length c1,.slice p2 ae.length c2] 27)).heap.size=w.heap.size+1 by simp] at qbx1;have HX:=lh (fun (w2:World) (hbx:Chg [] ((w.alloc (.cells #[.slice p1 av.length c1,.slice p2 ae.length c2] 27)).alloc (.cells #[.slice p3 bv.length c3,.slice p4 be.length c4] 27)) w2)=>(⟨hbx.c ((cell_of_row _ _ 0 _ _ _ qbx0).trans rfl),hbx.c ((cell_of_row _ _ 1 _ _ _ qbx0).trans rfl),hbx.c ((cell_of_row _ _ 0 _ _ _ qbx1).trans rfl),hbx.c ((cell_of_row _ _ 1 _ _ _ qbx1).trans rfl),by have hz:=hbx.size;simpa using hz⟩:w2.cell? ⟨w.heap.size,0,none⟩=some (.slice p1 av.length c1)∧w2.cell? ⟨w.heap.size,1,none⟩=some (.slice p2 ae.length c2)∧w2.cell? ⟨w.heap.size+1,0,none⟩=some (.slice p3 bv.length c3)∧w2.cell? ⟨w.heap.size+1,1,none⟩=some (.slice p4 be.length c4)∧w.heap.size+2≤w2.heap.size));clear qbx0 qbx1;have HXZ:=lh (show ((w.alloc (.cells #[.slice p1 av.length c1,.slice p2 ae.length c2] 27)).alloc (.cells #[.slice p3 bv.length c3,.slice p4 be.length c4] 27)).heap.size=w.heap.size+2 by simp);obtain⟨x0,x1,y0,y1,hsz⟩:=HX.out _ (Chg.refl _ _)
 go_enter Tryz.func74,Tryz.ntmps74
 go_wp2_with fail
 generalize ((w.alloc (.cells #[.slice p1 av.length c1,.slice p2 ae.length c2] 27)).alloc (.cells #[.slice p3 bv.length c3,.slice p4 be.length c4] 27))=w1 at *;refine (seq_any _ _ av bv _ (H1.out.fresh HXC.out) (K1.out.fresh HXC.out)).mono ?_;rintro e w2 ⟨rfl,hc2⟩;have HC2:=lh (HXC.out.t hc2);clear x0 x1 y0 y1 hsz;obtain⟨x0,x1,y0,y1,hsz⟩:=HX.out _ hc2;clear hc2;by_cases h0:av=bv
 ·have HE:=lh (show decide (av=bv)=true from decide_eq_true h0)
  rw[HE.out];clear h0
  go_wp2_with fail
  refine (seq_any _ _ ae be _ (H2.out.fresh HC2.out) (K2.out.fresh HC2.out)).mono ?_;rintro e w3 ⟨rfl,hc3⟩;have HC3:=lh (HC2.out.t hc3);clear x0 x1 y0 y1 hsz hc3;go_wp2;go_ret;exact⟨ret_bool (by show _=(decide (av=bv)&&decide (ae=be));rw[HE.out];simp),HC3.out⟩
 have HE:=lh (show decide (av=bv)=false from decide_eq_false h0);rw[HE.out];clear h0 x0 x1 y0 y1 hsz;go_wp2;go_ret;exact⟨ret_bool (by show _=(decide (av=bv)&&decide (ae=be));rw[HE.out];simp),HC2.out⟩
end Go.Proofs.YtmhcmnaecpagiaaGreat
