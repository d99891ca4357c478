/- ref17.Right, ref17.And, ref04.Same, law17.Small: contracts. Conditions: parts, a case that lie in memory and read so, of a bounded size. -/
import Derived.Test.YtkacjmoamgjfpaaGreatExAwk17
namespace Go.Proofs.YtkacjmoamgjfpaaGreat
open Go.RowKit Go.Maps
set_option maxRecDepth 100000 in
set_option maxHeartbeats 2000000 in
theorem refRight17_any (vc:Value) (g:Plain.Gr) (p:Plain.Pt) (turn same:List (List Int)) (w:World) (hpl:p.e.length≤1000) (hpv:p.v.length≤1000) (hgl:g.e.length<4294967296) (hrl:∀ v,(Plain.turnAt turn v).length<4294967296) (hsl:same.length≤10000) (hsr:∀ i,(same.getD i []).length≤10000) (hc:CaseAt w vc g p turn same) :
  Calls Tryz.prog 15 #[vc] w fun e w'=>e=.returned (.int .i64 (Plain.planErr g p turn same))∧Chg [] w w':=by
 have HRL:=lh hrl
 have HSR:=lh hsr
 obtain⟨eo,cap,ao,ac,bo,bc,tno,tc,so,sc,rfl,hg,hp,hx⟩:=hc.shape
 have HG:=lh hg
 have HP:=lh hp.at
 have HX:=lh hx
 have HC1:=lh ((Chg.refl [] w).alloc (.cells #[.int .i64 g.n,.slice eo g.e.length cap,.slice ao p.v.length ac,.slice bo p.e.length bc,.slice tno turn.length tc,.slice so same.length sc] 34))
 obtain⟨k0,k1,k2,k3,k4,k5,hsz⟩:=case_cells (Chg.refl [] (w.alloc (.cells #[.int .i64 g.n,.slice eo g.e.length cap,.slice ao p.v.length ac,.slice bo p.e.length bc,.slice tno turn.length tc,.slice so same.length sc] 34)))
 have HK:=lh (fun w2 (h:Chg [] (w.alloc (.cells #[.int .i64 g.n,.slice eo g.e.length cap,.slice ao p.v.length ac,.slice bo p.e.length bc,.slice tno turn.length tc,.slice so same.length sc] 34)) w2)=>case_cells h)
 clear hc hg hp hx hrl hsr
 go_enter Tryz.func15,Tryz.ntmps15
 go_wp2_with fail
 generalize (w.alloc (.cells #[.int .i64 g.n,.slice eo g.e.length cap,.slice ao p.v.length ac,.slice bo p.e.length bc,.slice tno turn.length tc,.slice so same.length sc] 34))=w1 at *
 refine (refGraph_any _ g _ hgl (HG.out.fresh HC1.out)).mono ?_
 rintro e w2 ⟨rfl,hc2⟩
 have HC2:=lh (HC1.out.trans hc2 (by simp))
 clear k0 k1 k2 k3 k4 k5 hsz
 obtain⟨k0,k1,k2,k3,k4,k5,hsz⟩:=HK.out _ hc2
 clear hc2
 by_cases h0:g.err=0
 ·rw[h0]
  clear h0
  go_wp2_with fail
  refine (refRight8_any _ _ _ g p turn same _ hpl hpv hgl HRL.out hsl HSR.out (HG.out.fresh HC2.out) (HP.out.fresh HC2.out) (HX.out.fresh HC2.out)).mono ?_
  rintro e w3 ⟨rfl,hc3⟩
  have HC3:=lh (HC2.out.trans hc3 (by simp))
  clear hc3
  go_wp2
  go_ret
  exact⟨rfl,HC3.out⟩
 have HE:=lh (Plain.planErr_graph (p:=p) (turn:=turn) (same:=same) h0)
 obtain⟨er,her⟩:∃ er,g.err=er:=⟨_,rfl⟩
 rw[her] at h0 HE ⊢
 have bz:(er != 0)=true:=by simp only[bne_iff_ne];exact h0
 clear h0 her
 go_wp2
 go_ret
 exact⟨ret_int HE.out.symm,HC2.out⟩
namespace Plain
theorem free_turnAt (n:Nat) (v:Int):turnAt (List.replicate n []) v=[]:=by
 unfold turnAt
 simp only[List.getD,List.getElem?_replicate]
 split <;> rfl
theorem free_right {g:Gr} (h:g.err=0):planErr g ⟨[],[]⟩ (List.replicate g.n.toNat []) []=0:=by
 have hn:=(Gr.err_ok h).1
 have hpe:Pt.err g ⟨[],[]⟩=0:=Pt.err_of h rfl rfl (by simp)
 have ht:TurnsOk g ⟨[],[]⟩ (List.replicate g.n.toNat []) :=
  ⟨by rw[List.length_replicate];omega,fun v=>by rw[free_turnAt];exact List.nodup_nil,fun v _ _ d=>by rw[free_turnAt];simp[Pt.darts]⟩
 have hr:roots g ⟨[],[]⟩=[]:=List.eq_nil_iff_forall_not_mem.2 fun v hv=>by have:=(mem_roots.1 hv).1;cases this
 have hf:flatErr g ⟨[],[]⟩ (List.replicate g.n.toNat [])=0:=flatErr_ok (turnErr_ok hpe ht) (fun r hr2=>by rw[hr] at hr2;cases hr2)
 rw[planErr_run hf,hr]
 rfl
end Plain
theorem elemEdge:Elem 22 82 (.agg #[.int .i64 0,.int .i64 0]) 2 16:=⟨Tryz.underlying22,by kernel_rfl,rfl,by decide,by decide⟩
def edgeCells:List (Int × Int)→List Value
 | []=>[]
 | x :: l=>.int .i64 x.1 :: .int .i64 x.2 :: edgeCells l
theorem edgeCells_len:∀ l:List (Int × Int),(edgeCells l).length=l.length*2
 | []=>rfl
 | x :: l=>by
  show (edgeCells l).length+1+1=(l.length+1)*2
  rw[edgeCells_len l];omega
theorem edgeCells_get:∀ {l:List (Int × Int)} {i:Nat},i<l.length→(edgeCells l)[i*2]?=some (.int .i64 (l.getD i (0,0)).1)∧(edgeCells l)[i*2+1]?=some (.int .i64 (l.getD i (0,0)).2)
 | [],i,h=>by simp at h
 | x :: l,0,_=>⟨rfl,rfl⟩
 | x :: l,i+1,h=>by
  have ih:=edgeCells_get (l:=l) (i:=i) (by simpa using h)
  rw[show (i+1)*2=i*2+1+1 by omega]
  refine⟨?_,?_⟩
  ·show (edgeCells l)[i*2]?=_
   rw[ih.1];rfl
  show (edgeCells l)[i*2+1]?=_
  rw[ih.2];rfl
theorem edgeCells_one (l:List (Int × Int)):∀ u∈edgeCells l,u.oneCell'=true:=by
 induction l with
 | nil=>intro u hu;cases hu
 | cons x l ih =>
  intro u hu
  rcases List.mem_cons.1 hu with rfl | hu
  ·rfl
  rcases List.mem_cons.1 hu with rfl | hu
  ·rfl
  exact ih u hu
theorem grAt_row {w w':World} {B:Nat} {v:Value} {g:Plain.Gr} (hn:I64 g.n) (hs:∀ i,i<g.e.length→I64 (g.ends i).1∧I64 (g.ends i).2) (hl:g.e.length≤100000) {own:List Nat} (h:w.ownsRow B 82 2 v g.e.length (edgeCells g.e)) (hc:Chg own w w') (ho:∀ j∈own,j<B∨w.heap.size≤j):GrAt w' (.agg #[.int .i64 g.n,v]) g:=by
 rcases h.2 with ⟨rfl,h0⟩ | ⟨b,cap,cur,rfl,hb,hh,hnc,hcm,hcs,hys⟩
 ·exact⟨none,0,by rw[h0],hn,by omega,hs,fun i hi=>by omega⟩
 have hlt:=lt_of_block hh
 have hh2:=hc.heap hh (fun q=>by have:=ho b q;omega)
 refine⟨_,cap,rfl,hn,by omega,hs,fun i hi=>⟨b,0,rfl,?_,?_⟩⟩
 ·rw[Nat.zero_add,cell_of_row w' _ (i*2) cur 82 (0,0) hh2]
  have q:=(edgeCells_get hi).1
  rw[←hys,List.getElem?_take,if_pos (by omega)] at q
  simpa[Plain.Gr.ends] using q
 rw[Nat.zero_add,cell_of_row w' _ (i*2+1) cur 82 (0,0) hh2]
 have q:=(edgeCells_get hi).2
 rw[←hys,List.getElem?_take,if_pos (by omega)] at q
 simpa[Plain.Gr.ends] using q
set_option maxRecDepth 100000 in
set_option maxHeartbeats 2000000 in
theorem cloneE_any (g:Plain.Gr) (v:Value) (w:World) (hl:g.e.length≤100000) (h:GrAt w (.agg #[.int .i64 g.n,v]) g) :
  Calls Tryz.prog 58 #[v] w fun e w'=>∃ ao c,e=.returned (.slice ao g.e.length c)∧(∀ own wx,Chg own w' wx→(∀ j∈own,j<w.heap.size∨w'.heap.size≤j)→GrAt wx (.agg #[.int .i64 g.n,.slice ao g.e.length c]) g)∧Chg [] w w':=by
 obtain⟨eo,cap,e,hn,hm,hs,hcell⟩:=h
 simp only[Value.agg.injEq,Array.mk.injEq,List.cons.injEq,and_true,true_and] at e
 subst e
 have HN:=lh hn
 have HS:=lh hs
 have HCELL:=lh hcell
 obtain⟨i0,hi,hz0,hz1,hz2⟩:=info_parts elemEdge.hi
 have q22:∀ (w:World) (a:Option Addr) (n c n' c':Nat),(binOp .eql 22 (.slice a n c) (.slice none n' c')).run Tryz.prog w=.ok (.bool a.isNone) w:=fun w a n c n' c'=>Lib.run_eql_slice_nil w _ _ a n c n' c' Tryz.underlying22
 have u22:∀ w,Sem.run Tryz.prog (underlying 22) w=.ok (TypeDesc.slice 82) w:=run_underlying Tryz.underlying22
 clear hn hs hcell
 cases eo with
 | none =>
  have hl0:g.e.length=0:=by
   rcases Nat.eq_zero_or_pos g.e.length with q | q
   ·exact q
   obtain⟨b,off,e,-⟩:=HCELL.out 0 q
   cases e
  obtain⟨n,hne⟩:∃ n,g.e.length=n:=⟨_,rfl⟩
  have HNE:=lh hne
  rw[hne] at hl0 ⊢
  subst hl0
  clear hne hm hl
  go_enter Tryz.func58,Tryz.ntmps58
  go_wp2
  go_ret
  exact⟨none,0,rfl,fun own wx _ _=>⟨none,0,by rw[HNE.out],HN.out,by rw[HNE.out];omega,HS.out,fun i hi=>by have:=HNE.out;omega⟩,Chg.refl _ _⟩
 | some ad =>
  obtain⟨n,hne⟩:∃ n,g.e.length=n:=⟨_,rfl⟩
  have HNE:=lh hne
  rw[hne] at hl ⊢
  clear hne hm
  go_enter Tryz.func58,Tryz.ntmps58
  go_wp2_with (at_builtin;refine wpList_append_own _ rfl _ _ 22 rfl w.heap.size 82 i0 (.agg #[.int .i64 0,.int .i64 0]) 2 16 Tryz.underlying22 hi hz0 hz1 hz2 rfl (by decide) _ _ _ rfl (World.ownsRow_made w #[] 0 (Nat.le_refl _) (Nat.zero_le _) rfl) ad n cap (edgeCells g.e) rfl ?qc1 ?qc2 ?qc3 ?qc4 ?qc5 ?qc6 ?_)
  case qc1=>rw[edgeCells_len,HNE.out]
  case qc2 =>
   intro j u hj
   have hjl:j<g.e.length*2:=by
    have:=(List.getElem?_eq_some_iff.1 hj).1
    rwa[edgeCells_len] at this
   obtain⟨b,off,e,c1,c2⟩:=HCELL.out (j / 2) (by omega)
   cases e
   obtain⟨d1,d2⟩:=edgeCells_get (l:=g.e) (i:=j / 2) (by omega)
   rw[Addr.add_lit]
   refine Lib.cell?_alloc_some _ ?_
   rcases Nat.mod_two_eq_zero_or_one j with q | q
   ·rw[show j / 2*2=j by omega] at c1 d1
    rw[d1] at hj
    rw[c1];exact hj
   rw[show j / 2*2+1=j by omega] at d2
   rw[show off+j / 2*2+1=off+j by omega] at c2
   rw[d2] at hj
   rw[c2];exact hj
  case qc3=>exact edgeCells_one _
  case qc4=>unfold maxLen;omega
  case qc5=>omega
  case qc6=>simp
  intro v' w1 hown hgrow hnil
  have hown2:w1.ownsRow w.heap.size 82 2 v' n (edgeCells g.e):=by simpa using hown
  obtain⟨ao,c,rfl⟩:=owns_shape hown2
  have HOWN:=lh hown2
  have HGR:=lh hgrow
  clear hown hown2 hgrow hnil
  go_wp2
  go_ret
  refine⟨ao,c,rfl,fun own wx hcx ho=>?_,?_⟩
  ·have:=HOWN.out
   rw[←HNE.out] at this ⊢
   exact grAt_row HN.out HS.out (by have:=HNE.out;omega) this hcx ho
  exact Chg.of_below (((Below.refl _ w).alloc (Nat.le_refl _) _).grown HGR.out (by simp) (by intro k hk;simp[Value.ownBlock] at hk;omega)) (Nat.le_refl _)
theorem out_store6 {wr:World} {b:Nat} {a0 a1 a2 a3 a4 a5:Value} {t:TypeId} (hb:wr.heap[b]?=some (.cells #[a0,a1,a2,a3,a4,a5] t (0,0))) (u0 u1 u2 u3 u4 u5:Value) :
  ((((((wr.setCell ⟨b,0,none⟩ u0).setCell ⟨b,1,none⟩ u1).setCell ⟨b,2,none⟩ u2).setCell ⟨b,3,none⟩ u3).setCell ⟨b,4,none⟩ u4).setCell ⟨b,5,none⟩ u5).heap[b]?=some (.cells #[u0,u1,u2,u3,u4,u5] t (0,0)) ∧
  Chg [b] wr ((((((wr.setCell ⟨b,0,none⟩ u0).setCell ⟨b,1,none⟩ u1).setCell ⟨b,2,none⟩ u2).setCell ⟨b,3,none⟩ u3).setCell ⟨b,4,none⟩ u4).setCell ⟨b,5,none⟩ u5):=by
 have h0:=heap_setCell_same hb 0 u0
 have h1:=heap_setCell_same h0 1 u1
 have h2:=heap_setCell_same h1 2 u2
 have h3:=heap_setCell_same h2 3 u3
 have h4:=heap_setCell_same h3 4 u4
 have h5:=heap_setCell_same h4 5 u5
 have hj:b∈[b]∨wr.heap.size≤b:=Or.inl (by simp)
 exact⟨h5,((((((Chg.refl [b] wr).setCell (p:=⟨b,0,none⟩) hj _).setCell (p:=⟨b,1,none⟩) hj _).setCell (p:=⟨b,2,none⟩) hj _).setCell (p:=⟨b,3,none⟩) hj _).setCell (p:=⟨b,4,none⟩) hj _).setCell (p:=⟨b,5,none⟩) hj _⟩
theorem six_cells {w:World} {b:Nat} {a0 a1 a2 a3 a4 a5:Value} {t:TypeId} (h:w.heap[b]?=some (.cells #[a0,a1,a2,a3,a4,a5] t (0,0))) :
  w.cell? ⟨b,0,none⟩=some a0∧w.cell? ⟨b,1,none⟩=some a1∧w.cell? ⟨b,2,none⟩=some a2∧w.cell? ⟨b,3,none⟩=some a3∧w.cell? ⟨b,4,none⟩=some a4∧w.cell? ⟨b,5,none⟩=some a5 :=
 ⟨(cell_of_row _ _ 0 _ _ _ h).trans rfl,(cell_of_row _ _ 1 _ _ _ h).trans rfl,(cell_of_row _ _ 2 _ _ _ h).trans rfl,(cell_of_row _ _ 3 _ _ _ h).trans rfl,(cell_of_row _ _ 4 _ _ _ h).trans rfl,(cell_of_row _ _ 5 _ _ _ h).trans rfl⟩
theorem rows_made {w w':World} {B fb n c:Nat} {own:List Nat} (h:w.ownsRow B 27 1 (.slice (some ⟨fb,0,none⟩) n c) n (madeCells (Value.slice none 0 0).cells (n*1)).toList) (hn:n<4294967296) (hc:Chg own w w') (ho:fb ∉ own):RowsAt w' (.slice (some ⟨fb,0,none⟩) n c) (List.replicate n []):=by
 have e1:(madeCells (Value.slice none 0 0).cells (n*1)).toList=List.replicate n (.slice none 0 0):=by
  show (madeCells #[Value.slice none 0 0] (n*1)).toList=_
  rw[Nat.mul_one,toList_madeCells_one]
 rw[e1] at h
 rcases h.2 with ⟨e,-⟩ | ⟨b,cap,cur,e,hb,hh,hnc,hcm,hcs,hys⟩
 ·cases e
 cases e
 have hh2:=hc.heap hh ho
 refine⟨_,c,by rw[List.length_replicate],by rw[List.length_replicate];omega,fun i hi=>⟨fb,0,.slice none 0 0,rfl,?_,⟨none,0,0,rfl,by decide,by decide⟩,?_⟩⟩
 ·rw[List.length_replicate] at hi
  rw[Nat.zero_add,cell_of_row w' _ i cur 27 (0,0) hh2]
  have q:(List.replicate n (Value.slice none 0 0))[i]?=some (.slice none 0 0):=by simp[hi]
  rw[←hys,List.getElem?_take,if_pos (by omega)] at q
  simpa using q
 rw[List.length_replicate] at hi
 rw[show (List.replicate n ([]:List Int)).getD i []=[] by simp[List.getD,hi]]
 exact IntsAt.nil _
set_option maxRecDepth 100000 in
set_option maxHeartbeats 2000000 in
theorem freeH_any (vg:Value) (g:Plain.Gr) (w:World) (hE:g.e.length≤100000) (hg:GrAt w vg g) :
  Calls Tryz.prog 13 #[vg] w fun e w'=>∃ oc,e=.returned (.tuple #[oc,.int .i64 g.err])∧(g.err≠0→oc=.agg #[.int .i64 0,.slice none 0 0,.slice none 0 0,.slice none 0 0,.slice none 0 0,.slice none 0 0]) ∧
   (g.err=0→CaseAt w' oc g ⟨[],[]⟩ (List.replicate g.n.toNat []) [])∧Chg [] w w':=by
 have HG:=lh hg
 obtain⟨eo,cap,rfl,hn,-⟩:=hg
 clear hn
 have HXC:=lh (show Chg [] w ((w.alloc (.cells #[.int .i64 g.n,.slice eo g.e.length cap] 24)).alloc (.cells #[.int .i64 0,.slice none 0 0,.slice none 0 0,.slice none 0 0,.slice none 0 0,.slice none 0 0] 34)) from (show Chg [] w ((w.alloc (.cells #[.int .i64 g.n,.slice eo g.e.length cap] 24)).alloc (.cells #[.int .i64 0,.slice none 0 0,.slice none 0 0,.slice none 0 0,.slice none 0 0,.slice none 0 0] 34)) from (((Chg.refl [] w).alloc _).alloc _)))
 have qbx0:=heap_alloc_new w (.cells #[.int .i64 g.n,.slice eo g.e.length cap] 24)
 replace qbx0:=(show Chg [] (w.alloc (.cells #[.int .i64 g.n,.slice eo g.e.length cap] 24)) ((w.alloc (.cells #[.int .i64 g.n,.slice eo g.e.length cap] 24)).alloc (.cells #[.int .i64 0,.slice none 0 0,.slice none 0 0,.slice none 0 0,.slice none 0 0,.slice none 0 0] 34)) from ((Chg.refl [] (w.alloc (.cells #[.int .i64 g.n,.slice eo g.e.length cap] 24))).alloc _)).heap qbx0 (by simp)
 have qbx1:=heap_alloc_new (w.alloc (.cells #[.int .i64 g.n,.slice eo g.e.length cap] 24)) (.cells #[.int .i64 0,.slice none 0 0,.slice none 0 0,.slice none 0 0,.slice none 0 0,.slice none 0 0] 34)
 rw[show (w.alloc (.cells #[.int .i64 g.n,.slice eo g.e.length cap] 24)).heap.size=w.heap.size+1 by simp] at qbx1
 have HX:=lh (fun (w2:World) (hbx:Chg [] ((w.alloc (.cells #[.int .i64 g.n,.slice eo g.e.length cap] 24)).alloc (.cells #[.int .i64 0,.slice none 0 0,.slice none 0 0,.slice none 0 0,.slice none 0 0,.slice none 0 0] 34)) w2)=>(⟨hbx.cell ((cell_of_row _ _ 0 _ _ _ qbx0).trans rfl) (by simp),hbx.cell ((cell_of_row _ _ 1 _ _ _ qbx0).trans rfl) (by simp),hbx.heap qbx1 (by simp),by have hz:=hbx.size;simpa using hz⟩:w2.cell? ⟨w.heap.size,0,none⟩=some (.int .i64 g.n)∧w2.cell? ⟨w.heap.size,1,none⟩=some (.slice eo g.e.length cap)∧w2.heap[w.heap.size+1]?=some (.cells #[.int .i64 0,.slice none 0 0,.slice none 0 0,.slice none 0 0,.slice none 0 0,.slice none 0 0] 34 (0,0))∧w.heap.size+2≤w2.heap.size))
 clear qbx0 qbx1
 have HXZ:=lh (show ((w.alloc (.cells #[.int .i64 g.n,.slice eo g.e.length cap] 24)).alloc (.cells #[.int .i64 0,.slice none 0 0,.slice none 0 0,.slice none 0 0,.slice none 0 0,.slice none 0 0] 34)).heap.size=w.heap.size+2 by simp)
 obtain⟨x0,x1,r8,hsz⟩:=HX.out _ (Chg.refl _ _)
 clear r8
 go_enter Tryz.func13,Tryz.ntmps13
 go_wp2_with fail
 generalize ((w.alloc (.cells #[.int .i64 g.n,.slice eo g.e.length cap] 24)).alloc (.cells #[.int .i64 0,.slice none 0 0,.slice none 0 0,.slice none 0 0,.slice none 0 0,.slice none 0 0] 34))=w1 at *
 refine (graphRight_any _ g _ (HG.out.fresh HXC.out)).mono ?_
 rintro e w2 ⟨rfl,hc2⟩
 have HC2:=lh hc2
 clear x0 x1 hsz hc2
 obtain⟨x0,x1,r8,hsz⟩:=HX.out _ HC2.out
 have HR8:=lh r8
 have HW2:=lh (HXC.out.trans HC2.out (by simp))
 by_cases h0:g.err=0
 ·have H0:=lh h0
  obtain⟨b1,b2,-,-⟩:=Plain.Gr.err_ok h0
  obtain⟨N,hN⟩:∃ N:Nat,g.n=(N:Int):=⟨g.n.toNat,by omega⟩
  have HN:=lh hN
  have HNT:=lh (show g.n.toNat=N by omega)
  have hNl:N<4294967296:=by omega
  rw[h0]
  clear h0 hN b1 b2 r8
  have HNS:=lh hsz
  go_wp2
  go_cut [5] (fun c5 wc=>∃ cb ao c,c5=.pointer (some ⟨cb,0,none⟩)∧w1.heap.size≤cb∧wc.heap[cb]?=some (.cells #[.int .i64 g.n,.slice ao g.e.length c,.slice none 0 0,.slice none 0 0,.slice none 0 0,.slice none 0 0] 34 (0,0))∧Hid (∀ own wx,Chg own wc wx→(∀ j∈own,j=cb∨j<w1.heap.size)→GrAt wx (.agg #[.int .i64 g.n,.slice ao g.e.length c]) g)∧Chg [] w1 wc)
  case first =>
   have hS0:Chg [] w1 w2.drew:=HC2.out.drew
   refine wp_region_way (Chg [] w1) [0,1,2,3,5,6] (.then_ 0 (.then_ 1 (.then_ 2 (.then_ 3 (.fork 4 7 (.then_ 5 (.then_ 6 (.then_ 7 (.then_ 8 .done)))) (.then_ 4 (.then_ 5 (.then_ 6 (.then_ 8 .done))))))))) (by kernel_rfl) (by kernel_rfl) ?_
   clear x0 x1 hsz
   obtain⟨x0,x1,-,hsz⟩:=HX.out _ (Chg.refl [] w1)
   generalize w2.drew=u0 at *
   repeat
    first
     | (refine along_off rfl (by rfl) (by rfl) (fun _ _ _ h=>h) hS0 ?_;simp only[Act.put,Z1,Z2,Z3,Z4,Z5,Z6])
     | (refine along_read (v:=?_) rfl (by rfl) (by rfl) (fun _ _ _ h=>h) hS0 (fun w' hS'=>?_) ?_;rotate_left;(focus (have rd0:=hS'.cell x0 (by simp);have rd1:=hS'.cell x1 (by simp);clear hS';go_simp;try with_reducible rfl));simp only[Act.put,Z1,Z2,Z3,Z4,Z5,Z6])
     | (refine along_skip rfl (by rfl) (by rfl) hS0 ?_;simp only[Act.put,Z1,Z2,Z3,Z4,Z5,Z6])
   clear x0 x1 hsz
   refine along_fork (by rfl) (by rfl) ?_ ?_
   ·refine along_op rfl (by rfl) (by rfl) (fun K hK=>?_)
    go_simp
    refine (cloneE_any g _ u0 hE (HG.out.fresh (HXC.out.trans hS0 (by simp)))).mono ?_
    rintro e u1 ⟨ao,c,rfl,hgr,hcx⟩
    have HGR:=lh hgr
    have HU1:=lh hS0.size
    have CX:=lh hcx
    have hS1:=hS0.trans hcx (by simp)
    clear hS0 hcx hgr
    have hS0:=hS1
    clear hS1
    refine hK.out _ _ (fun _=>hS0) ?_
    clear hK K
    try simp only[Act.put,Z1,Z2,Z3,Z4,Z5,Z6]
    repeat
     first
      | (refine along_off rfl (by rfl) (by rfl) (fun _ _ _ h=>h) hS0 ?_;simp only[Act.put,Z1,Z2,Z3,Z4,Z5,Z6])
      | (refine along_read (v:=?_) rfl (by rfl) (by rfl) (fun _ _ _ h=>h) hS0 (fun w' hS'=>?_) ?_;rotate_left;(focus (skip;clear hS';go_simp;try with_reducible rfl));simp only[Act.put,Z1,Z2,Z3,Z4,Z5,Z6])
      | (refine along_skip rfl (by rfl) (by rfl) hS0 ?_;simp only[Act.put,Z1,Z2,Z3,Z4,Z5,Z6])
    refine along_op rfl (by rfl) (by rfl) (fun K hK=>?_)
    go_simp
    have hS1:=hS0.alloc (.cells #[.int .i64 0,.slice none 0 0,.slice none 0 0,.slice none 0 0,.slice none 0 0,.slice none 0 0] 34)
    have PR:=lh (heap_alloc_new u1 (.cells #[.int .i64 0,.slice none 0 0,.slice none 0 0,.slice none 0 0,.slice none 0 0,.slice none 0 0] 34))
    have PC:=lh (show Chg [] u1 (u1.alloc (.cells #[.int .i64 0,.slice none 0 0,.slice none 0 0,.slice none 0 0,.slice none 0 0,.slice none 0 0] 34)) from (Chg.refl [] _).alloc _)
    refine hK.out _ _ (fun _=>hS1) ?_
    clear hK K hS0
    have hS0:=hS1
    clear hS1
    try simp only[Act.put,Z1,Z2,Z3,Z4,Z5,Z6]
    obtain⟨cb,hcb⟩:∃ b,u1.heap.size=b:=⟨_,rfl⟩
    have PB:=lh hcb
    have PL:=lh (show w1.heap.size≤cb by rw[←hcb];exact Nat.le_trans HU1.out CX.out.size)
    rw[hcb] at PR ⊢
    clear hcb
    generalize (u1.alloc (.cells #[.int .i64 0,.slice none 0 0,.slice none 0 0,.slice none 0 0,.slice none 0 0,.slice none 0 0] 34))=u2 at *
    obtain⟨y0,y1,y2,y3,y4,y5⟩:=six_cells PR.out
    have f0:=free_at PR.out 0
    have f1:=free_at PR.out 1
    have f2:=free_at PR.out 2
    have f3:=free_at PR.out 3
    have f4:=free_at PR.out 4
    have f5:=free_at PR.out 5
    refine along_op rfl (by rfl) (by rfl) (fun K hK=>?_)
    go_simp
    refine hK.out _ _ (fun h=>absurd h (Bool.eq_false_iff.1 (by kernel_rfl))) ?_
    clear hK K y0 y1 y2 y3 y4 y5 f0 f1 f2 f3 f4 f5
    try simp only[Act.put,Z1,Z2,Z3,Z4,Z5,Z6]
    obtain⟨o0,cst⟩:=out_store6 PR.out (.int .i64 g.n) (.slice ao g.e.length c) (.slice none 0 0) (.slice none 0 0) (.slice none 0 0) (.slice none 0 0)
    refine along_done ?_
    have O0:=lh o0
    have CST:=lh cst
    have HSF:=lh hS0
    clear o0 cst hS0
    generalize ((((((u2.setCell ⟨cb,0,none⟩ (.int .i64 g.n)).setCell ⟨cb,1,none⟩ (.slice ao g.e.length c)).setCell ⟨cb,2,none⟩ (.slice none 0 0)).setCell ⟨cb,3,none⟩ (.slice none 0 0)).setCell ⟨cb,4,none⟩ (.slice none 0 0)).setCell ⟨cb,5,none⟩ (.slice none 0 0))=uF at *
    go_wp2
    go_meet
    case rel =>
     refine⟨cb,ao,c,rfl,PL.out,O0.out,lh (fun own wx hcx ho=>HGR.out (cb :: own) wx (((PC.out.mono (by simp)).trans CST.out (fun j hj=>Or.inl (by simp at hj;simp[hj]))).trans hcx (fun j hj=>Or.inl (List.mem_cons_of_mem _ hj))) (fun j hj=>?_)),HSF.out.trans CST.out (fun j hj=>Or.inr (by rw[List.mem_singleton.1 hj];exact PL.out))⟩
     have h1:=HU1.out
     have h2:=PB.out
     rcases List.mem_cons.1 hj with q | q
     ·omega
     rcases ho j q with q | q <;> omega
   refine along_op rfl (by rfl) (by rfl) (fun K hK=>?_)
   go_simp
   have hS1:=hS0.alloc (.cells #[.int .i64 0,.slice none 0 0,.slice none 0 0,.slice none 0 0,.slice none 0 0,.slice none 0 0] 34)
   have PR:=lh (heap_alloc_new u0 (.cells #[.int .i64 0,.slice none 0 0,.slice none 0 0,.slice none 0 0,.slice none 0 0,.slice none 0 0] 34))
   have PZ:=lh (show (u0.alloc (.cells #[.int .i64 0,.slice none 0 0,.slice none 0 0,.slice none 0 0,.slice none 0 0,.slice none 0 0] 34)).heap.size=u0.heap.size+1 by simp)
   have HU0:=lh hS0.size
   refine hK.out _ _ (fun _=>hS1) ?_
   clear hK K hS0
   have hS0:=hS1
   clear hS1
   try simp only[Act.put,Z1,Z2,Z3,Z4,Z5,Z6]
   obtain⟨cb,hcb⟩:∃ b,u0.heap.size=b:=⟨_,rfl⟩
   have PL:=lh (show w1.heap.size≤cb by rw[←hcb];exact HU0.out)
   rw[hcb] at PR PZ ⊢
   clear hcb HU0
   generalize (u0.alloc (.cells #[.int .i64 0,.slice none 0 0,.slice none 0 0,.slice none 0 0,.slice none 0 0,.slice none 0 0] 34))=u1 at *
   refine along_op rfl (by rfl) (by rfl) (fun K hK=>?_)
   go_simp
   refine (cloneE_any g _ u1 hE (HG.out.fresh (HXC.out.trans hS0 (by simp)))).mono ?_
   rintro e u2 ⟨ao,c,rfl,hgr,hcx⟩
   have HGR:=lh hgr
   have PR2:=lh (hcx.heap PR.out (by simp))
   have hS1:=hS0.trans hcx (by simp)
   clear hS0 hcx hgr
   have hS0:=hS1
   clear hS1
   refine hK.out _ _ (fun _=>hS0) ?_
   clear hK K
   try simp only[Act.put,Z1,Z2,Z3,Z4,Z5,Z6]
   repeat
    first
     | (refine along_off rfl (by rfl) (by rfl) (fun _ _ _ h=>h) hS0 ?_;simp only[Act.put,Z1,Z2,Z3,Z4,Z5,Z6])
     | (refine along_read (v:=?_) rfl (by rfl) (by rfl) (fun _ _ _ h=>h) hS0 (fun w' hS'=>?_) ?_;rotate_left;(focus (skip;clear hS';go_simp;try with_reducible rfl));simp only[Act.put,Z1,Z2,Z3,Z4,Z5,Z6])
     | (refine along_skip rfl (by rfl) (by rfl) hS0 ?_;simp only[Act.put,Z1,Z2,Z3,Z4,Z5,Z6])
   obtain⟨y0,y1,y2,y3,y4,y5⟩:=six_cells PR2.out
   have f0:=free_at PR2.out 0
   have f1:=free_at PR2.out 1
   have f2:=free_at PR2.out 2
   have f3:=free_at PR2.out 3
   have f4:=free_at PR2.out 4
   have f5:=free_at PR2.out 5
   refine along_op rfl (by rfl) (by rfl) (fun K hK=>?_)
   go_simp
   refine hK.out _ _ (fun h=>absurd h (Bool.eq_false_iff.1 (by kernel_rfl))) ?_
   clear hK K y0 y1 y2 y3 y4 y5 f0 f1 f2 f3 f4 f5
   try simp only[Act.put,Z1,Z2,Z3,Z4,Z5,Z6]
   obtain⟨o0,cst⟩:=out_store6 PR2.out (.int .i64 g.n) (.slice ao g.e.length c) (.slice none 0 0) (.slice none 0 0) (.slice none 0 0) (.slice none 0 0)
   refine along_done ?_
   have O0:=lh o0
   have CST:=lh cst
   have HSF:=lh hS0
   clear o0 cst hS0
   generalize ((((((u2.setCell ⟨cb,0,none⟩ (.int .i64 g.n)).setCell ⟨cb,1,none⟩ (.slice ao g.e.length c)).setCell ⟨cb,2,none⟩ (.slice none 0 0)).setCell ⟨cb,3,none⟩ (.slice none 0 0)).setCell ⟨cb,4,none⟩ (.slice none 0 0)).setCell ⟨cb,5,none⟩ (.slice none 0 0))=uF at *
   go_wp2
   go_meet
   case rel =>
    refine⟨cb,ao,c,rfl,PL.out,O0.out,lh (fun own wx hcx ho=>HGR.out (cb :: own) wx ((CST.out.mono (fun j hj=>Or.inl (by simp at hj;simp[hj]))).trans hcx (fun j hj=>Or.inl (List.mem_cons_of_mem _ hj))) (fun j hj=>Or.inl ?_)),HSF.out.trans CST.out (fun j hj=>Or.inr (by rw[List.mem_singleton.1 hj];exact PL.out))⟩
    have h1:=PZ.out
    have h2:=PL.out
    rcases List.mem_cons.1 hj with q | q
    ·omega
    rcases ho j q with q | q <;> omega
  case rest =>
   rename World=>wc
   obtain⟨cb,ao,c,rfl,hcb,hrow,hgr,hcc⟩:=hcut
   have HROW:=lh hrow
   have HCC:=lh hcc
   have HCB:=lh hcb
   have HBC:=lh (show cb<wc.heap.size from lt_of_block hrow)
   clear x0 x1 hsz
   obtain⟨x0,x1,r8,hsz⟩:=HX.out _ hcc
   have HR8c:=lh r8
   obtain⟨y0,y1,y2,y3,y4,y5⟩:=six_cells hrow
   have f4:=free_at hrow 4
   clear r8 hrow hcc hcb
   go_upto_region 6 with (at_make;refine wp_make elemRow rfl _ _ rfl (B:=wc.heap.size) (n:=N) (by show Value.int .i64 g.n=_;rw[HN.out]) (by show Value.int .i64 g.n=_;rw[HN.out]) (Nat.le_refl _) (by omega) ?_;intro w5 ho5 hc5;have HO5:=lh ho5;have HC5:=lh hc5;have HCC5:=lh (HCC.out.trans hc5 (by simp));have z0:=hc5.cell y0 (by simp);have z1:=hc5.cell y1 (by simp);have z2:=hc5.cell y2 (by simp);have z3:=hc5.cell y3 (by simp);have z4:=hc5.cell y4 (by simp);have z5:=hc5.cell y5 (by simp);have g4:=hc5.frozen y4 f4 (by simp);clear ho5 hc5 y0 y1 y2 y3 y4 y5 f4 x0 x1 hsz)
   have hca5:Chg [cb] w5 (w5.setCell ⟨cb,4,none⟩ (.slice (some ⟨wc.heap.size,0,none⟩) N N)):=(Chg.refl [cb] w5).setCell (p:=⟨cb,4,none⟩) (Or.inl (by simp)) _
   have hrow6:=heap_setCell_same (HC5.out.heap HROW.out (by simp)) 4 (.slice (some ⟨wc.heap.size,0,none⟩) N N)
   have HC6:=lh hca5
   have HW6:=lh (show Chg [] w1 _ from HCC5.out.trans hca5 (fun j hj=>Or.inr (by rw[List.mem_singleton.1 hj];exact HCB.out)))
   have HROW6:=lh hrow6
   generalize (w5.setCell ⟨cb,4,none⟩ (.slice (some ⟨wc.heap.size,0,none⟩) N N))=w6 at *
   clear z0 z1 z2 z3 z4 z5 g4 hca5 hrow6
   obtain⟨y0,y1,y2,y3,y4,y5⟩:=six_cells (w:=w6) (b:=cb) (a0:=.int .i64 g.n) (a1:=.slice ao g.e.length c) (a2:=.slice none 0 0) (a3:=.slice none 0 0) (a4:=.slice (some ⟨wc.heap.size,0,none⟩) N N) (a5:=.slice none 0 0) HROW6.out
   obtain⟨x0,x1,r8,hsz⟩:=HX.out _ HW6.out
   have R8:=lh r8
   obtain⟨q0,q1,q2,q3,q4,q5⟩:=six_cells r8
   have f0:=free_at r8 0
   have f1:=free_at r8 1
   have f2:=free_at r8 2
   have f3:=free_at r8 3
   have f4:=free_at r8 4
   have f5:=free_at r8 5
   clear r8 x0 x1
   go_wp2
   obtain⟨o0,cst⟩:=out_store6 R8.out (.int .i64 g.n) (.slice ao g.e.length c) (.slice none 0 0) (.slice none 0 0) (.slice (some ⟨wc.heap.size,0,none⟩) N N) (.slice none 0 0)
   obtain⟨s0,s1,s2,s3,s4,s5⟩:=six_cells o0
   refine bodyPost_ret (v:=.tuple #[.agg #[.int .i64 g.n,.slice ao g.e.length c,.slice none 0 0,.slice none 0 0,.slice (some ⟨wc.heap.size,0,none⟩) N N,.slice none 0 0],.int .i64 0]) (by simp[results,Tryz.results13,go_sem,s0,s1,s2,s3,s4,s5]) rfl ?_
   have hca:Chg [cb,w.heap.size+1] w5 _:=(HC6.out.mono (fun j hj=>Or.inl (by simp at hj;simp[hj]))).trans cst (fun j hj=>Or.inl (by simp at hj;simp[hj]))
   have h1:=HCB.out
   have h2:=HNS.out
   have h3:=HXZ.out
   have h4:=HBC.out
   refine⟨_,by rw[H0.out],fun q=>absurd H0.out q,fun _=>?_,(HXC.out.trans HCC5.out (by simp)).trans hca (fun j hj=>Or.inr (by simp at hj;omega))⟩
   rw[HNT.out]
   refine⟨_,_,_,_,_,_,rfl,hgr.out _ _ ((HC5.out.mono (by simp)).trans hca (fun j hj=>Or.inl hj)) (fun j hj=>?_),⟨_,_,rfl,⟨IntsAt.nil _,none,0,0,rfl,by decide,by decide⟩,⟨IntsAt.nil _,none,0,0,rfl,by decide,by decide⟩⟩,⟨_,_,rfl,rows_made HO5.out (by omega) hca (by simp;omega),⟨none,0,rfl,by simp,fun i hi=>by simp at hi⟩⟩⟩
   simp only[List.mem_cons,List.not_mem_nil,or_false] at hj
   rcases hj with q | q
   ·exact Or.inl q
   exact Or.inr (by omega)
 have H0:=lh h0
 obtain⟨er,her⟩:∃ er,g.err=er:=⟨_,rfl⟩
 have HER:=lh her
 rw[her] at h0 H0 ⊢
 have bz:(er != 0)=true:=by simp only[bne_iff_ne];exact h0
 obtain⟨y0,y1,y2,y3,y4,y5⟩:=six_cells HR8.out
 have f0:=free_at HR8.out 0
 have f1:=free_at HR8.out 1
 have f2:=free_at HR8.out 2
 have f3:=free_at HR8.out 3
 have f4:=free_at HR8.out 4
 have f5:=free_at HR8.out 5
 clear h0 her r8
 go_wp2
 obtain⟨o0,cst⟩:=out_store6 HR8.out (.int .i64 0) (.slice none 0 0) (.slice none 0 0) (.slice none 0 0) (.slice none 0 0) (.slice none 0 0)
 obtain⟨z0,z1,z2,z3,z4,z5⟩:=six_cells o0
 refine bodyPost_ret (v:=.tuple #[.agg #[.int .i64 0,.slice none 0 0,.slice none 0 0,.slice none 0 0,.slice none 0 0,.slice none 0 0],.int .i64 er]) (by simp[results,Tryz.results13,go_sem,z0,z1,z2,z3,z4,z5]) rfl ?_
 exact⟨_,by rw[HER.out],fun _=>rfl,fun q=>absurd (HER.out.symm.trans q) H0.out,HW2.out.trans cst (fun j hj=>Or.inr (by simp at hj;omega))⟩
theorem noPart (w:World):PtAt w (.agg #[.slice none 0 0,.slice none 0 0]) ⟨[],[]⟩:=⟨_,_,rfl,IntsAt.nil _,IntsAt.nil _⟩
set_option maxRecDepth 100000 in
set_option maxHeartbeats 8000000 in
theorem holdFree_any (vg:Value) (g:Plain.Gr) (w:World) (hg:GrAt w vg g) :
  Calls Tryz.prog 3 #[vg] w fun e w'=>e=.returned (.bool true)∧Chg [] w w':=by
 have HG:=lh hg
 obtain⟨eo,cap,rfl,hn,-⟩:=hg
 clear hn
 have HXC:=lh (show Chg [] w (w.alloc (.cells #[.int .i64 g.n,.slice eo g.e.length cap] 24)) from (show Chg [] w (w.alloc (.cells #[.int .i64 g.n,.slice eo g.e.length cap] 24)) from ((Chg.refl [] w).alloc _)))
 have qbx0:=heap_alloc_new w (.cells #[.int .i64 g.n,.slice eo g.e.length cap] 24)
 have HX:=lh (fun (w2:World) (hbx:Chg [] (w.alloc (.cells #[.int .i64 g.n,.slice eo g.e.length cap] 24)) w2)=>(⟨hbx.cell ((cell_of_row _ _ 0 _ _ _ qbx0).trans rfl) (by simp),hbx.cell ((cell_of_row _ _ 1 _ _ _ qbx0).trans rfl) (by simp),by have hz:=hbx.size;simpa using hz⟩:w2.cell? ⟨w.heap.size,0,none⟩=some (.int .i64 g.n)∧w2.cell? ⟨w.heap.size,1,none⟩=some (.slice eo g.e.length cap)∧w.heap.size+1≤w2.heap.size))
 clear qbx0
 have HXZ:=lh (show (w.alloc (.cells #[.int .i64 g.n,.slice eo g.e.length cap] 24)).heap.size=w.heap.size+1 by simp)
 obtain⟨x0,x1,hsz⟩:=HX.out _ (Chg.refl _ _)
 go_enter Tryz.func3,Tryz.ntmps3
 go_wp2_with fail
 generalize (w.alloc (.cells #[.int .i64 g.n,.slice eo g.e.length cap] 24))=w1 at *
 refine (awake17_any _).mono ?_
 rintro e w2 ⟨rfl,hc2⟩
 have HC2:=lh hc2
 clear x0 x1 hsz hc2
 obtain⟨x0,x1,hsz⟩:=HX.out _ HC2.out
 go_wp2_with fail
 refine (small4_any _ _ g ⟨[],[]⟩ _ (HG.out.fresh (HXC.out.trans HC2.out (by simp))) (noPart _)).mono ?_
 rintro e w3 ⟨rfl,hc3⟩
 have HC3:=lh (HC2.out.trans hc3 (by simp))
 clear x0 x1 hsz hc3
 obtain⟨x0,x1,hsz⟩:=HX.out _ HC3.out
 cases hb1:Plain.small4 g ⟨[],[]⟩ with
 | false =>
  clear hb1
  go_wp2_with fail
  refine (awake17_any _).mono ?_
  rintro e w4 ⟨rfl,hc4⟩
  have HC4:=lh ((HXC.out.trans HC3.out (by simp)).trans hc4 (by simp))
  clear x0 x1 hsz hc4
  go_wp2
  go_ret
  exact⟨rfl,HC4.out⟩
 | true =>
 obtain⟨d1,-,-⟩:=Plain.small4_is hb1
 clear hb1
 go_wp2_with fail
 refine (freeH_any _ g _ (by omega) (HG.out.fresh (HXC.out.trans HC3.out (by simp)))).mono ?_
 rintro e w4 ⟨oc,rfl,hno,hyes,hc4⟩
 have HC4:=lh (HC3.out.trans hc4 (by simp))
 clear x0 x1 hsz
 by_cases h0:g.err=0
 ·have H0:=lh h0
  have hca:=hyes h0
  obtain⟨b1,b2,-,-⟩:=Plain.Gr.err_ok h0
  obtain⟨n,hn⟩:∃ n:Nat,g.n=(n:Int):=⟨g.n.toNat,by omega⟩
  have HNN:=lh hn
  have bn:(((n:Nat):Int)==g.n)=true:=by rw[hn];exact beq_self_eq_true _
  have HNL:=lh (show n≤1024 by omega)
  have HRT:=lh (Plain.free_right h0)
  rw[show g.n.toNat=n by omega] at hca HRT
  have HCA:=lh hca
  obtain⟨eo2,cap2,ao,ac,bo,bc,tno,tc,so,sc,rfl,-⟩:=hca.shape
  rw[h0]
  rw[List.length_replicate] at HCA ⊢
  replace HCA:Hid (CaseAt w4 (.agg #[.int .i64 g.n,.slice eo2 g.e.length cap2,.slice ao 0 ac,.slice bo 0 bc,.slice tno n tc,.slice so 0 sc]) g ⟨[],[]⟩ (List.replicate n []) []):=HCA
  rw[show (⟨[],[]⟩:Plain.Pt).v.length=0 from rfl,show ([]:List (List Int)).length=0 from rfl]
  clear hno hyes h0 hca b1 b2 hn hc4
  have HYC:=lh (show Chg [] w4 (w4.alloc (.cells #[.int .i64 g.n,.slice eo2 g.e.length cap2,.slice ao 0 ac,.slice bo 0 bc,.slice tno n tc,.slice so 0 sc] 34)) from (show Chg [] w4 (w4.alloc (.cells #[.int .i64 g.n,.slice eo2 g.e.length cap2,.slice ao 0 ac,.slice bo 0 bc,.slice tno n tc,.slice so 0 sc] 34)) from ((Chg.refl [] w4).alloc _)))
  have qbx0:=heap_alloc_new w4 (.cells #[.int .i64 g.n,.slice eo2 g.e.length cap2,.slice ao 0 ac,.slice bo 0 bc,.slice tno n tc,.slice so 0 sc] 34)
  have HY:=lh (fun (w2:World) (hbx:Chg [] (w4.alloc (.cells #[.int .i64 g.n,.slice eo2 g.e.length cap2,.slice ao 0 ac,.slice bo 0 bc,.slice tno n tc,.slice so 0 sc] 34)) w2)=>(⟨hbx.cell ((cell_of_row _ _ 0 _ _ _ qbx0).trans rfl) (by simp),hbx.cell ((cell_of_row _ _ 1 _ _ _ qbx0).trans rfl) (by simp),hbx.cell ((cell_of_row _ _ 2 _ _ _ qbx0).trans rfl) (by simp),hbx.cell ((cell_of_row _ _ 3 _ _ _ qbx0).trans rfl) (by simp),hbx.cell ((cell_of_row _ _ 4 _ _ _ qbx0).trans rfl) (by simp),hbx.cell ((cell_of_row _ _ 5 _ _ _ qbx0).trans rfl) (by simp),by have hz:=hbx.size;simpa using hz⟩:w2.cell? ⟨w4.heap.size,0,none⟩=some (.int .i64 g.n)∧w2.cell? ⟨w4.heap.size,1,none⟩=some (.slice eo2 g.e.length cap2)∧w2.cell? ⟨w4.heap.size,2,none⟩=some (.slice ao 0 ac)∧w2.cell? ⟨w4.heap.size,3,none⟩=some (.slice bo 0 bc)∧w2.cell? ⟨w4.heap.size,4,none⟩=some (.slice tno n tc)∧w2.cell? ⟨w4.heap.size,5,none⟩=some (.slice so 0 sc)∧w4.heap.size+1≤w2.heap.size))
  clear qbx0
  have HYZ:=lh (show (w4.alloc (.cells #[.int .i64 g.n,.slice eo2 g.e.length cap2,.slice ao 0 ac,.slice bo 0 bc,.slice tno n tc,.slice so 0 sc] 34)).heap.size=w4.heap.size+1 by simp)
  have HCY:=lh (HC4.out.trans HYC.out (by simp))
  obtain⟨x0,x1,hsz⟩:=HX.out _ HCY.out
  obtain⟨m0,m1,m2,m3,m4,m5,hsz2⟩:=HY.out _ (Chg.refl _ _)
  go_wp2_with fail
  generalize (w4.alloc (.cells #[.int .i64 g.n,.slice eo2 g.e.length cap2,.slice ao 0 ac,.slice bo 0 bc,.slice tno n tc,.slice so 0 sc] 34))=w5 at *
  refine (refGraph_any _ g _ (by omega) (HG.out.fresh (HXC.out.trans HCY.out (by simp)))).mono ?_
  rintro e w6 ⟨rfl,hc6⟩
  have HC56:=lh hc6
  have HC6:=lh (HCY.out.trans hc6 (by simp))
  clear x0 x1 hsz m0 m1 m2 m3 m4 m5 hsz2 hc6
  rw[H0.out]
  obtain⟨x0,x1,hsz⟩:=HX.out _ HC6.out
  obtain⟨m0,m1,m2,m3,m4,m5,hsz2⟩:=HY.out _ HC56.out
  go_wp2_with fail
  refine (refRight17_any _ g ⟨[],[]⟩ (List.replicate n []) [] _ (by simp) (by simp) (by omega) (fun v=>by rw[Plain.free_turnAt];simp) (by simp) (by simp) (HCA.out.fresh (HYC.out.trans HC56.out (by simp)))).mono ?_
  rintro e w7 ⟨rfl,hc7⟩
  have HC57:=lh (HC56.out.trans hc7 (by simp))
  have HC7:=lh (HC6.out.trans hc7 (by simp))
  clear x0 x1 hsz m0 m1 m2 m3 m4 m5 hsz2 hc7
  rw[HRT.out]
  obtain⟨x0,x1,hsz⟩:=HX.out _ HC7.out
  obtain⟨m0,m1,m2,m3,m4,m5,hsz2⟩:=HY.out _ HC57.out
  go_wp2
  go_ret
  exact⟨rfl,HXC.out.trans HC7.out (by simp)⟩
 have H0:=lh h0
 obtain⟨er,her⟩:∃ er,g.err=er:=⟨_,rfl⟩
 obtain rfl:=hno h0
 have HER:=lh her
 rw[her] at h0 ⊢
 have bz:(er != 0)=true:=by simp only[bne_iff_ne];exact h0
 clear hno hyes her hc4 h0
 have HYC:=lh (show Chg [] w4 (w4.alloc (.cells #[.int .i64 0,.slice none 0 0,.slice none 0 0,.slice none 0 0,.slice none 0 0,.slice none 0 0] 34)) from (show Chg [] w4 (w4.alloc (.cells #[.int .i64 0,.slice none 0 0,.slice none 0 0,.slice none 0 0,.slice none 0 0,.slice none 0 0] 34)) from ((Chg.refl [] w4).alloc _)))
 have qbx0:=heap_alloc_new w4 (.cells #[.int .i64 0,.slice none 0 0,.slice none 0 0,.slice none 0 0,.slice none 0 0,.slice none 0 0] 34)
 have HY:=lh (fun (w2:World) (hbx:Chg [] (w4.alloc (.cells #[.int .i64 0,.slice none 0 0,.slice none 0 0,.slice none 0 0,.slice none 0 0,.slice none 0 0] 34)) w2)=>(⟨hbx.cell ((cell_of_row _ _ 0 _ _ _ qbx0).trans rfl) (by simp),hbx.cell ((cell_of_row _ _ 1 _ _ _ qbx0).trans rfl) (by simp),hbx.cell ((cell_of_row _ _ 2 _ _ _ qbx0).trans rfl) (by simp),hbx.cell ((cell_of_row _ _ 3 _ _ _ qbx0).trans rfl) (by simp),hbx.cell ((cell_of_row _ _ 4 _ _ _ qbx0).trans rfl) (by simp),hbx.cell ((cell_of_row _ _ 5 _ _ _ qbx0).trans rfl) (by simp),by have hz:=hbx.size;simpa using hz⟩:w2.cell? ⟨w4.heap.size,0,none⟩=some (.int .i64 0)∧w2.cell? ⟨w4.heap.size,1,none⟩=some (.slice none 0 0)∧w2.cell? ⟨w4.heap.size,2,none⟩=some (.slice none 0 0)∧w2.cell? ⟨w4.heap.size,3,none⟩=some (.slice none 0 0)∧w2.cell? ⟨w4.heap.size,4,none⟩=some (.slice none 0 0)∧w2.cell? ⟨w4.heap.size,5,none⟩=some (.slice none 0 0)∧w4.heap.size+1≤w2.heap.size))
 clear qbx0
 have HYZ:=lh (show (w4.alloc (.cells #[.int .i64 0,.slice none 0 0,.slice none 0 0,.slice none 0 0,.slice none 0 0,.slice none 0 0] 34)).heap.size=w4.heap.size+1 by simp)
 have HCY:=lh (HC4.out.trans HYC.out (by simp))
 obtain⟨x0,x1,hsz⟩:=HX.out _ HCY.out
 obtain⟨m0,m1,m2,m3,m4,m5,hsz2⟩:=HY.out _ (Chg.refl _ _)
 go_wp2_with fail
 generalize (w4.alloc (.cells #[.int .i64 0,.slice none 0 0,.slice none 0 0,.slice none 0 0,.slice none 0 0,.slice none 0 0] 34))=w5 at *
 refine (refGraph_any _ g _ (by omega) (HG.out.fresh (HXC.out.trans HCY.out (by simp)))).mono ?_
 rintro e w6 ⟨rfl,hc6⟩
 have HC56:=lh hc6
 have HC6:=lh (HCY.out.trans hc6 (by simp))
 clear x0 x1 hsz m0 m1 m2 m3 m4 m5 hsz2 hc6
 rw[HER.out]
 obtain⟨x0,x1,hsz⟩:=HX.out _ HC6.out
 obtain⟨m0,m1,m2,m3,m4,m5,hsz2⟩:=HY.out _ HC56.out
 go_wp2_with fail
 refine (refGraph_any _ g _ (by omega) (HG.out.fresh (HXC.out.trans HC6.out (by simp)))).mono ?_
 rintro e w7 ⟨rfl,hc7⟩
 have HC57:=lh (HC56.out.trans hc7 (by simp))
 have HC7:=lh (HC6.out.trans hc7 (by simp))
 clear x0 x1 hsz m0 m1 m2 m3 m4 m5 hsz2 hc7
 rw[HER.out]
 obtain⟨x0,x1,hsz⟩:=HX.out _ HC7.out
 obtain⟨m0,m1,m2,m3,m4,m5,hsz2⟩:=HY.out _ HC57.out
 go_wp2
 go_ret
 exact⟨ret_bool (by simp),HXC.out.trans HC7.out (by simp)⟩
end Go.Proofs.YtkacjmoamgjfpaaGreat
