/- hold.Add at a drawing, a vertex that it lacks, a region that it has: contract. Conditions: a graph, a part, a plan that lie in memory and read so, of a bounded size. -/
import Derived.Test.YtkacjmoamgjfpaaGreatA9Ref17
namespace Go.Proofs.YtkacjmoamgjfpaaGreat
open Go.RowKit Go.Maps
theorem aR.aII {w:World} {B:Nat} (hB:B≤w.heap.size):aR (w.alloc (.cells #[.slice none 0 0] 27)) B (.slice (some ⟨w.heap.size,0,none⟩) 1 1) [.slice none 0 0] [[]] :=
 ⟨World.ownsRow_lit w #[.slice none 0 0] 1 hB (by decide) rfl,rfl,fun k hk=>by
  obtain rfl:k=0:=by simpa using hk
  exact World.ownsRow_nil _ _ _ _,fun k l hk hl hne=>by
  simp at hk hl;omega⟩
set_option maxRecDepth 100000 in
set_option maxHeartbeats 8000000 in
theorem aFQ (vg vp vx:Value) (g:aA.Gr) (p:aA.Pt) (aB same:List (List Int)) (v:Int) (n:Nat) (w:World) (hpl:p.e.length≤60) (hpv:p.v.length≤60) (hTL:aB.length≤100) (htr:∀ i,(aB.getD i []).length≤200) (hS:aA.bU aB aB.length<2147483648) (hsl:same.length≤10000) (hsr:∀ i,(same.getD i []).length≤10000)
  (hz:aA.aN g p aB same=0) (hv0:0≤v) (hv1:v<g.n) (hvn:v ∉ p.v) (hn:n<(aA.fE g p aB same).length) (hg:dW w vg g) (hp:PtC w vp p) (hx:jX w vx aB same) :
  Calls Tryz.prog 29 #[vg,vp,vx,.int .i64 v,.int .i64 n] w fun e w'=>∃ o1 o2 S,e=.returned (.tuple #[o1,o2,.int .i64 0])∧S.Perm (aA.jG (aA.fE g p aB same) n (-1 - v))∧S.Pairwise (fun a b=>a.getD 0 0≤b.getD 0 0) ∧
   (∀ own wx,Chg own w' wx→(∀ j∈own,j<w.heap.size)→PtC wx o1 (aA.eZ p ⟨[v],[]⟩)∧jX wx o2 (aB.map aA.first) S)∧Chg [] w w':=by
 have HS1:=lh hS;have HSR:=lh hsr;have HTR:=lh htr;have HZ:=lh hz;have HG:=lh hg;have HP:=lh hp;have HX0:=lh hx;have HPE:=lh (aA.eP hz).1;have HPR:=lh (aA.pV (aA.eP hz).1);have hgn:=(aA.Gr.aV (aA.Pt.aV (aA.eP hz).1).1).2.1;have HVN:=lh hvn;obtain⟨eo,cap,rfl,hnI,-⟩:=hg;obtain⟨ao,ac,bo,bc,rfl⟩:=hp.shape;obtain⟨u1,u2,rfl,ht0,⟨so,sc,rfl,-⟩⟩:=hx;have HT:=lh ht0;obtain⟨tno,tc,rfl,-⟩:=ht0;have HPVI:=lh (show aL w (.slice ao p.v.length ac) p.v by obtain⟨v1,v2,e,he,-⟩:=HP.out.at;cases e;exact he);obtain⟨hQs,hQl⟩:=aA.lO hz hpl hpv;have HRE:=lh (show p.v=[]→aA.fE g p aB same=[[]] from fun q=>if_pos q);have HRN:=lh (show p.v≠[]→aA.fE g p aB same=aA.aJ g p aB same from fun q=>if_neg q);obtain⟨Q,hQ⟩:∃ Q,aA.fE g p aB same=Q:=⟨_,rfl⟩;rw[hQ] at hn hQs hQl HRE HRN ⊢;have HQS:=lh hQs;obtain⟨x,hxv⟩:∃ x,-1 - v=x:=⟨_,rfl⟩;have HXV:=lh hxv;have IX:I64 x:=I64.mk (by omega) (by omega);have wv:IntKind.i64.wrap (-1 - v)=x:=by rw[←hxv];exact IntWalk.i64_in _ (by omega)
 have hvlt:decide (v<0)=false:=decide_eq_false (by omega);rw[hxv];clear hp hz hS hsr htr hnI hQs hQ hvn hxv;have HXC:=lh (show Chg [] w (((((w.alloc (.cells #[.int .i64 g.n,.slice eo g.e.length cap] 24)).alloc (.cells #[.slice ao p.v.length ac,.slice bo p.e.length bc] 29)).alloc (.cells #[.slice tno aB.length tc,.slice so same.length sc] 32)).alloc (.cells #[.slice none 0 0,.slice none 0 0] 29)).alloc (.cells #[.slice none 0 0,.slice none 0 0] 32)) from (show Chg [] w (((((w.alloc (.cells #[.int .i64 g.n,.slice eo g.e.length cap] 24)).alloc (.cells #[.slice ao p.v.length ac,.slice bo p.e.length bc] 29)).alloc (.cells #[.slice tno aB.length tc,.slice so same.length sc] 32)).alloc (.cells #[.slice none 0 0,.slice none 0 0] 29)).alloc (.cells #[.slice none 0 0,.slice none 0 0] 32)) from ((((((Chg.refl [] w).alloc _).alloc _).alloc _).alloc _).alloc _)));have qbx0:=heap_alloc_new w (.cells #[.int .i64 g.n,.slice eo g.e.length cap] 24);replace qbx0:=(show Chg [] (w.alloc (.cells #[.int .i64 g.n,.slice eo g.e.length cap] 24)) (((((w.alloc (.cells #[.int .i64 g.n,.slice eo g.e.length cap] 24)).alloc (.cells #[.slice ao p.v.length ac,.slice bo p.e.length bc] 29)).alloc (.cells #[.slice tno aB.length tc,.slice so same.length sc] 32)).alloc (.cells #[.slice none 0 0,.slice none 0 0] 29)).alloc (.cells #[.slice none 0 0,.slice none 0 0] 32)) from (((((Chg.refl [] (w.alloc (.cells #[.int .i64 g.n,.slice eo g.e.length cap] 24))).alloc _).alloc _).alloc _).alloc _)).heap qbx0 (by simp);have qbx1:=heap_alloc_new (w.alloc (.cells #[.int .i64 g.n,.slice eo g.e.length cap] 24)) (.cells #[.slice ao p.v.length ac,.slice bo p.e.length bc] 29);rw[show (w.alloc (.cells #[.int .i64 g.n,.slice eo g.e.length cap] 24)).heap.size=w.heap.size+1 by simp] at qbx1;replace qbx1:=(show Chg [] ((w.alloc (.cells #[.int .i64 g.n,.slice eo g.e.length cap] 24)).alloc (.cells #[.slice ao p.v.length ac,.slice bo p.e.length bc] 29)) (((((w.alloc (.cells #[.int .i64 g.n,.slice eo g.e.length cap] 24)).alloc (.cells #[.slice ao p.v.length ac,.slice bo p.e.length bc] 29)).alloc (.cells #[.slice tno aB.length tc,.slice so same.length sc] 32)).alloc (.cells #[.slice none 0 0,.slice none 0 0] 29)).alloc (.cells #[.slice none 0 0,.slice none 0 0] 32)) from ((((Chg.refl [] ((w.alloc (.cells #[.int .i64 g.n,.slice eo g.e.length cap] 24)).alloc (.cells #[.slice ao p.v.length ac,.slice bo p.e.length bc] 29))).alloc _).alloc _).alloc _)).heap qbx1 (by simp);have qbx2:=heap_alloc_new ((w.alloc (.cells #[.int .i64 g.n,.slice eo g.e.length cap] 24)).alloc (.cells #[.slice ao p.v.length ac,.slice bo p.e.length bc] 29)) (.cells #[.slice tno aB.length tc,.slice so same.length sc] 32);rw[show ((w.alloc (.cells #[.int .i64 g.n,.slice eo g.e.length cap] 24)).alloc (.cells #[.slice ao p.v.length ac,.slice bo p.e.length bc] 29)).heap.size=w.heap.size+2 by simp] at qbx2;replace qbx2:=(show Chg [] (((w.alloc (.cells #[.int .i64 g.n,.slice eo g.e.length cap] 24)).alloc (.cells #[.slice ao p.v.length ac,.slice bo p.e.length bc] 29)).alloc (.cells #[.slice tno aB.length tc,.slice so same.length sc] 32)) (((((w.alloc (.cells #[.int .i64 g.n,.slice eo g.e.length cap] 24)).alloc (.cells #[.slice ao p.v.length ac,.slice bo p.e.length bc] 29)).alloc (.cells #[.slice tno aB.length tc,.slice so same.length sc] 32)).alloc (.cells #[.slice none 0 0,.slice none 0 0] 29)).alloc (.cells #[.slice none 0 0,.slice none 0 0] 32)) from (((Chg.refl [] (((w.alloc (.cells #[.int .i64 g.n,.slice eo g.e.length cap] 24)).alloc (.cells #[.slice ao p.v.length ac,.slice bo p.e.length bc] 29)).alloc (.cells #[.slice tno aB.length tc,.slice so same.length sc] 32))).alloc _).alloc _)).heap qbx2 (by simp);have qbx3:=heap_alloc_new (((w.alloc (.cells #[.int .i64 g.n,.slice eo g.e.length cap] 24)).alloc (.cells #[.slice ao p.v.length ac,.slice bo p.e.length bc] 29)).alloc (.cells #[.slice tno aB.length tc,.slice so same.length sc] 32)) (.cells #[.slice none 0 0,.slice none 0 0] 29);rw[show (((w.alloc (.cells #[.int .i64 g.n,.slice eo g.e.length cap] 24)).alloc (.cells #[.slice ao p.v.length ac,.slice bo p.e.length bc] 29)).alloc (.cells #[.slice tno aB.length tc,.slice so same.length sc] 32)).heap.size=w.heap.size+3 by simp] at qbx3
 replace qbx3:=(show Chg [] ((((w.alloc (.cells #[.int .i64 g.n,.slice eo g.e.length cap] 24)).alloc (.cells #[.slice ao p.v.length ac,.slice bo p.e.length bc] 29)).alloc (.cells #[.slice tno aB.length tc,.slice so same.length sc] 32)).alloc (.cells #[.slice none 0 0,.slice none 0 0] 29)) (((((w.alloc (.cells #[.int .i64 g.n,.slice eo g.e.length cap] 24)).alloc (.cells #[.slice ao p.v.length ac,.slice bo p.e.length bc] 29)).alloc (.cells #[.slice tno aB.length tc,.slice so same.length sc] 32)).alloc (.cells #[.slice none 0 0,.slice none 0 0] 29)).alloc (.cells #[.slice none 0 0,.slice none 0 0] 32)) from ((Chg.refl [] ((((w.alloc (.cells #[.int .i64 g.n,.slice eo g.e.length cap] 24)).alloc (.cells #[.slice ao p.v.length ac,.slice bo p.e.length bc] 29)).alloc (.cells #[.slice tno aB.length tc,.slice so same.length sc] 32)).alloc (.cells #[.slice none 0 0,.slice none 0 0] 29))).alloc _)).heap qbx3 (by simp);have qbx4:=heap_alloc_new ((((w.alloc (.cells #[.int .i64 g.n,.slice eo g.e.length cap] 24)).alloc (.cells #[.slice ao p.v.length ac,.slice bo p.e.length bc] 29)).alloc (.cells #[.slice tno aB.length tc,.slice so same.length sc] 32)).alloc (.cells #[.slice none 0 0,.slice none 0 0] 29)) (.cells #[.slice none 0 0,.slice none 0 0] 32);rw[show ((((w.alloc (.cells #[.int .i64 g.n,.slice eo g.e.length cap] 24)).alloc (.cells #[.slice ao p.v.length ac,.slice bo p.e.length bc] 29)).alloc (.cells #[.slice tno aB.length tc,.slice so same.length sc] 32)).alloc (.cells #[.slice none 0 0,.slice none 0 0] 29)).heap.size=w.heap.size+4 by simp] at qbx4;have HX:=lh (fun (w2:World) (hbx:Chg [] (((((w.alloc (.cells #[.int .i64 g.n,.slice eo g.e.length cap] 24)).alloc (.cells #[.slice ao p.v.length ac,.slice bo p.e.length bc] 29)).alloc (.cells #[.slice tno aB.length tc,.slice so same.length sc] 32)).alloc (.cells #[.slice none 0 0,.slice none 0 0] 29)).alloc (.cells #[.slice none 0 0,.slice none 0 0] 32)) w2)=>(⟨hbx.c ((cell_of_row _ _ 0 _ _ _ qbx0).trans rfl),hbx.c ((cell_of_row _ _ 1 _ _ _ qbx0).trans rfl),hbx.c ((cell_of_row _ _ 0 _ _ _ qbx1).trans rfl),hbx.c ((cell_of_row _ _ 1 _ _ _ qbx1).trans rfl),hbx.c ((cell_of_row _ _ 0 _ _ _ qbx2).trans rfl),hbx.c ((cell_of_row _ _ 1 _ _ _ qbx2).trans rfl),hbx.heap qbx3 (by simp),hbx.heap qbx4 (by simp),by have hz:=hbx.size;simpa using hz⟩:w2.cell? ⟨w.heap.size,0,none⟩=some (.int .i64 g.n)∧w2.cell? ⟨w.heap.size,1,none⟩=some (.slice eo g.e.length cap)∧w2.cell? ⟨w.heap.size+1,0,none⟩=some (.slice ao p.v.length ac)∧w2.cell? ⟨w.heap.size+1,1,none⟩=some (.slice bo p.e.length bc)∧w2.cell? ⟨w.heap.size+2,0,none⟩=some (.slice tno aB.length tc)∧w2.cell? ⟨w.heap.size+2,1,none⟩=some (.slice so same.length sc)∧w2.heap[w.heap.size+3]?=some (.cells #[.slice none 0 0,.slice none 0 0] 29 (0,0))∧w2.heap[w.heap.size+4]?=some (.cells #[.slice none 0 0,.slice none 0 0] 32 (0,0))∧w.heap.size+5≤w2.heap.size));clear qbx0 qbx1 qbx2 qbx3 qbx4;have HXZ:=lh (show (((((w.alloc (.cells #[.int .i64 g.n,.slice eo g.e.length cap] 24)).alloc (.cells #[.slice ao p.v.length ac,.slice bo p.e.length bc] 29)).alloc (.cells #[.slice tno aB.length tc,.slice so same.length sc] 32)).alloc (.cells #[.slice none 0 0,.slice none 0 0] 29)).alloc (.cells #[.slice none 0 0,.slice none 0 0] 32)).heap.size=w.heap.size+5 by simp);obtain⟨x0,x1,y0,y1,z0,z1,-,-,hsz⟩:=HX.out _ (Chg.refl _ _)
 go_enter Tryz.func29,Tryz.ntmps29
 go_wp2_with fail
 generalize (((((w.alloc (.cells #[.int .i64 g.n,.slice eo g.e.length cap] 24)).alloc (.cells #[.slice ao p.v.length ac,.slice bo p.e.length bc] 29)).alloc (.cells #[.slice tno aB.length tc,.slice so same.length sc] 32)).alloc (.cells #[.slice none 0 0,.slice none 0 0] 29)).alloc (.cells #[.slice none 0 0,.slice none 0 0] 32))=w1 at *;refine (mO _ _ _ g p aB same _ (by omega) (by omega) (by omega) HS1.out hsl HSR.out HZ.out (HG.out.fresh HXC.out) (HP.out.at.fresh HXC.out) (HX0.out.fresh HXC.out)).mono ?_;rintro e w2 ⟨rv,vs,rfl,hro,-,hc2⟩;have HC2:=lh hc2;have HRO:=lh hro;have HW2:=lh (HXC.out.t hc2);clear x0 x1 y0 y1 z0 z1 hsz hc2 hro;obtain⟨x0,x1,y0,y1,z0,z1,-,-,hsz⟩:=HX.out _ HC2.out
 go_wp2_with fail
 refine (kL _ p.v v _ HPR.out.1 (by omega) (HPVI.out.fresh HW2.out)).mono ?_;rintro e w3 ⟨rfl,hc3⟩;have HC3:=lh (HC2.out.t hc3);have HRO3:=lh (HRO.out.chg hc3 (by simp) (by simp));rw[decide_eq_false HVN.out];clear x0 x1 y0 y1 z0 z1 hsz hc3;obtain⟨x0,x1,y0,y1,z0,z1,-,-,hsz⟩:=HX.out _ HC3.out
 go_upto_if 49 with fail
 go_cut [13] (fun c13 wc=>∃ vs,aR wc w1.heap.size c13 vs Q∧Chg [] w1 wc)
 case first =>
  by_cases hv0:p.v=[]
  ·have hvl:((p.v.length:Int)==0)=true:=by rw[hv0];rfl
   have HQ:=lh (HRE.out hv0);clear hv0;go_wp2
   go_meet
   case rel=>exact⟨_,by rw[HQ.out];exact aR.aII HC3.out.size,HC3.out.alloc _⟩
  have hvl:((p.v.length:Int)==0)=false:=by rw[beq_eq_false_iff_ne];have:=List.length_pos_iff.2 hv0;omega
  have HQ:=lh (HRN.out hv0);clear hv0;go_wp2
  go_meet
  case rel=>exact⟨vs,by rw[HQ.out];exact HRO3.out,HC3.out⟩
 case rest =>
  rename World=>w4;obtain⟨us0,hro4,hc4⟩:=hcut;have HC4:=lh hc4;have HRO4:=lh hro4;obtain⟨rg,rc,uo,uc,rfl,rcell,hus⟩:=hro4.aHR hn;have HUS:=lh hus;have hql:∀ l∈Q,l.length≤1000:=fun l hl=>(HQS.out l hl).2;have hun:=hql _ (aA.cO hn);have hrow:=hro4.rows n (by rw[hro4.len];exact hn);rw[hus] at hrow;have HROW:=lh (show aM w4 w1.heap.size (.slice uo (Q.getD n []).length uc) (Q.getD n []) from⟨hrow,fun y hy=>((HQS.out _ (aA.cO hn)).1 y hy).1,by omega⟩);obtain⟨T,hT⟩:∃ T,Q.getD n []=T:=⟨_,rfl⟩;have HT0:=lh hT;rw[hT] at HROW HUS hun rcell;clear x0 x1 y0 y1 z0 z1 hsz hc4 hro4 hus hrow hql hT;obtain⟨x0,x1,y0,y1,z0,z1,-,-,hsz⟩:=HX.out _ HC4.out;have hsl0:=fun w'=>HRO4.out.slot (k:=n) (w':=w') (by rw[HRO4.out.len];exact hn);rw[HUS.out] at hsl0;have HSL0:=lh hsl0;have HB4:=lh HC4.out.size;have hrow4:=HROW.out;obtain⟨M,hM⟩:∃ M,Q.length=M:=⟨_,rfl⟩;have HM:=lh hM;rw[hM] at hn hQl HRO4 ⊢;clear hsl0 hM;have hrg:w1.heap.size≤rg:=(HRO4.out.out.lt rg rfl).1
  go_upto_region 11 with (at_builtin;refine dS rfl _ _ rfl (B:=w1.heap.size) (v:=.slice uo T.length uc) rfl rfl hrow4 IX HB4.out (by omega) rfl ?_;intro v6 w6 r6 c6 f6;have HR6:=lh r6;have HC6:=lh c6;have HF6:=lh f6;obtain⟨k1,k2⟩:=HSL0.out _ c6;have HW6:=lh (HC4.out.trans c6 (fun j hj=>Or.inr (HROW.out.low j (by rw[HROW.out.aP] at hj;exact hj)).1));obtain⟨g6,q6,e6⟩:=dP r6.1 (by simp);rw[List.length_append,show [x].length=1 from rfl] at e6;subst e6;clear r6 c6 f6 rcell x0 x1 y0 y1 z0 z1 hsz)
  have hp7:=HRO4.out.put (w':=w6) (g':=g6) (cap':=q6) (q:=n) (x:=x) (by rw[HRO4.out.len,HM.out]) (by rw[HRO4.out.len,HM.out];exact hn) (by rw[HT0.out];have h:=HR6.out.1;rw[List.length_append,show [x].length=1 from rfl,show ints (T++[x])=ints T++[.int .i64 x] by simp[ints]] at h;exact h) (by rw[HUS.out];have h:=HC6.out;rwa[HROW.out.aP] at h) (by rw[HUS.out];exact (HF6.out g6 (by simp[aP,Value.ownBlock])).imp (fun h=>by rw[HROW.out.aP] at h;simpa using h) id);rw[HT0.out] at hp7;have HRO7:=lh hp7;have HC7:=lh (HW6.out.setCell (p:=⟨rg,n,none⟩) (Or.inr hrg) (.slice (some ⟨g6,0,none⟩) (T.length+1) q6));clear hp7 k1 k2 hrow4;generalize (w6.setCell ⟨rg,n,none⟩ (.slice (some ⟨g6,0,none⟩) (T.length+1) q6))=w7 at *;obtain⟨x0,x1,y0,y1,z0,z1,-,-,hsz⟩:=HX.out _ HC7.out
  go_upto_region 12 with fail
  have HYB:=lh (heap_alloc_new w7 (.cells #[.slice tno aB.length tc,.slice none 0 0] 32));have HAL:=lh (show Chg [] w7 (w7.alloc (.cells #[.slice tno aB.length tc,.slice none 0 0] 32)) from (Chg.refl _ _).alloc _);have HYL:=lh HC7.out.size;have HYN:=lh (show w7.heap.size<(w7.alloc (.cells #[.slice tno aB.length tc,.slice none 0 0] 32)).heap.size by simp);obtain⟨yb,hyb⟩:∃ b,w7.heap.size=b:=⟨_,rfl⟩;rw[hyb] at HYB HYL HYN ⊢;clear hyb x0 x1 y0 y1 z0 z1 hsz;generalize (w7.alloc (.cells #[.slice tno aB.length tc,.slice none 0 0] 32))=w8 at *;have HC8:=lh (HC7.out.t HAL.out);have hro8:=HRO7.out.chg HAL.out (by simp) (by simp);obtain⟨vs,hvs⟩:∃ vs,us0.set n (.slice (some ⟨g6,0,none⟩) (T.length+1) q6)=vs:=⟨_,rfl⟩;obtain⟨R,hR⟩:∃ R,Q.set n (T++[x])=R:=⟨_,rfl⟩;rw[hvs,hR] at hro8;have HRL:=lh (show R.length=M by rw[←hR,List.length_set,HM.out]);have HRS:=lh (show ∀ l∈R,(∀ y∈l,I64 y∧-1000000≤y∧y≤1000000)∧l.length≤1001 from fun l hl=>by
   rw[←hR] at hl;rcases List.mem_or_eq_of_mem_set hl with q | q
   ·have:=HQS.out l q
    exact⟨this.1,by omega⟩
   rw[q];refine⟨fun y hy=>?_,by simp;omega⟩;rcases List.mem_append.1 hy with r | r
   ·exact (HQS.out _ (by rw[←HT0.out];exact aA.cO (by rw[HM.out];exact hn))).1 y r
   rw[List.mem_singleton.1 r];exact⟨IX,by have:=HXV.out;omega,by have:=HXV.out;omega⟩)
  have HFIN:=lh (show aA.pY R R.length=aA.jG Q n x by rw[←hR,←HT0.out];exact aA.aGK Q n x);rw[←HRL.out] at hro8;have HRO8:=lh hro8;clear hro8 hvs hR;go_wp2
  go_loopw [17,77] (fun _ c wi=>∃ (k:Nat) (yo:Option Addr) (yc:Nat) (us:List Value),k≤M∧c=.int .i64 k∧vG wi yb w1.heap.size (.slice tno aB.length tc) rg rc vs R k yo yc us∧Chg [] w1 wi) (fun _ c _=>M - (intOf c).toNat)
  case atStart=>exact⟨0,none,0,[],Nat.zero_le _,rfl,⟨HYB.out,by rw[aA.aE6];exact HRO8.out,by rw[aA.aEy];exact aR.nil _ _,by simp,by simp[Value.ownBlock]⟩,HC8.out⟩
  case round =>
   rename World=>wi;obtain⟨k,yo,yc,us,hk,rfl,hv,hci⟩:=hrel;have HV:=lh hv;have HCI:=lh hci;have HUL:=lh (show us.length≤k by rw[hv.ys.len];exact aA.aBh R k);clear hv hci;by_cases hlt:k<M
   ·obtain⟨uo2,uc2,kcell,hvk,hrow⟩:=HV.out.cell (k:=k) (by rw[HRL.out];exact hlt)
    have hLm:=HRS.out _ (aA.cO (show k<R.length by rw[HRL.out];exact hlt));have HSK:=lh (fun hl=>HV.out.skip (k:=k) (by rw[HRL.out];exact hlt) hl);have HSO:=lh (fun w' hr hc=>HV.out.sort (w':=w') (k:=k) (by rw[HRL.out];exact hlt) hr hc);have HTE:=lh (fun w7 w8 g8 c8 hl hr hc h8 hc8 hg8=>HV.out.step (w7:=w7) (w8:=w8) (g8:=g8) (c8:=c8) (k:=k) (by rw[HRL.out];exact hlt) hl hr hc h8 hc8 hg8);obtain⟨L,hLe⟩:∃ L,R.getD k []=L:=⟨_,rfl⟩;rw[hLe] at kcell hvk hrow hLm HSK HSO HTE;clear hLe;by_cases hl:1<L.length
    ·have hdl:decide ((L.length:Int) > 1)=true:=decide_eq_true (by omega)
     obtain⟨y0,y1⟩:wi.cell? ⟨yb,0,none⟩=some (.slice tno aB.length tc)∧wi.cell? ⟨yb,1,none⟩=some (.slice yo us.length yc):=⟨(cell_of_row _ _ 0 _ _ _ HV.out.var).trans rfl,(cell_of_row _ _ 1 _ _ _ HV.out.var).trans rfl⟩;have HKR:=lh (show aM wi w1.heap.size (.slice uo2 L.length uc2) L from⟨by rw[←hvk];exact hrow,fun y hy=>(hLm.1 y hy).1,by omega⟩);have HVK:=lh hvk;have HL:=lh hl;have HLM:=lh hLm.2;clear hrow hvk hLm y0 y1
     go_wp2_with fail
     refine (zR _ L w1.heap.size wi (by have:=HLM.out;omega) HKR.out).mono ?_;rintro e wj ⟨rfl,hr,hcs⟩;rw[←HVK.out] at hr hcs;have hsl:=HSO.out wj hr.1 hcs;have HST:=lh hr.1;have HCS:=lh hcs;have HS1':=lh hsl.1;obtain⟨g8,c8,w9,hrun,h8,hc8,hg8⟩:=mY nC hsl.2.2.out (show w1.heap.size≤wj.heap.size from Nat.le_trans HCI.out.size hcs.size) (cs:=#[.slice uo2 L.length uc2]) rfl (lH _ _ _) (by have:=HUL.out;omega) (Or.inl rfl) 30;have hst:=HTE.out wj w9 g8 c8 HL.out HST.out HCS.out (by rw[HVK.out];exact h8) hc8 hg8;have hno:yb ∉ (Value.slice yo us.length yc).ownBlock.toList:=fun hm=>cU hsl.2.2.out HS1'.out (by decide) (by simpa using hm);have h18:=hc8.heap HS1'.out hno;have y1:=(cell_of_row _ _ 1 _ _ _ HS1'.out).trans (show _=some (Value.slice yo us.length yc) from rfl);have z1:=(cell_of_row _ _ 1 _ _ _ h18).trans (show _=some (Value.slice yo us.length yc) from rfl);have f1:=bM h18 1;have HVS:=lh hst.1;have HCX:=lh (show Chg [] w1 (w9.setCell ⟨yb,1,none⟩ (.slice (some ⟨g8,0,none⟩) (us.length+1) c8)) from (HCI.out.trans hcs (fun j hj=>Or.inr (HST.out.lt j (by simpa using hj)).1)).trans hst.2 (fun j hj=>Or.inr (by
      rcases List.mem_cons.1 hj with q | q
      ·rw[q];exact HYL.out
      exact (hsl.2.2.out.lt j (by simpa using q)).1)))
     clear hr hcs hsl h8 hc8 hg8 hst hno h18 HSK HSO HTE
     go_wp2_with (at_builtin;refine gB rfl _ _ 30 rfl rfl rfl hrun ?_)
     clear hrun y1 z1 f1 kcell;generalize (w9.setCell ⟨yb,1,none⟩ (.slice (some ⟨g8,0,none⟩) (us.length+1) c8))=wk at *
     go_roundw
     case rel=>exact⟨k+1,_,_,_,by omega,by go_num,HVS.out,HCX.out⟩
     case measure=>simp[intOf];omega
    have hdl:decide ((L.length:Int) > 1)=false:=decide_eq_false (by omega);have HVS:=lh (HSK.out hl);clear hrow hvk hLm hl HSK HSO HTE;go_wp2;clear kcell
    go_roundw
    case rel=>exact⟨k+1,_,_,_,by omega,by go_num,HVS.out,HCI.out⟩
    case measure=>simp[intOf];omega
   have e:k=M:=by omega
   subst e;have HSF:=lh (show aR wi w1.heap.size (.slice yo us.length yc) us (aA.jG Q n x) by rw[←HFIN.out,HRL.out];exact HV.out.ys);have HNE:=lh (show ∀ l∈aA.jG Q n x,l≠[]∧-1000000≤l.getD 0 0∧l.getD 0 0≤1000000 from fun l hl=>by
    rw[←HFIN.out] at hl;obtain⟨m,hm,hpm,h1⟩:=aA.aAZ hl;have hlen:0<l.length:=by rw[hpm.length_eq];omega
    have hmem:l.getD 0 0∈m:=hpm.mem_iff.1 (aA.aZ hlen);have:=(HRS.out m hm).1 _ hmem;exact⟨List.ne_nil_of_length_pos hlen,this.2.1,this.2.2⟩)
   have HSB:=lh (show ∀ l∈aA.jG Q n x,(∀ y∈l,I64 y)∧l.length<1000000000 from fun l hl=>by
    rw[←HFIN.out] at hl;obtain⟨m,hm,hpm,-⟩:=aA.aAZ hl;exact⟨fun y hy=>((HRS.out m hm).1 y (hpm.mem_iff.1 hy)).1,by have:=(HRS.out m hm).2;rw[hpm.length_eq];omega⟩)
   obtain⟨x0,x1,y0,y1,z0,z1,r8,r9,hsz⟩:=HX.out _ HCI.out;obtain⟨q0,q1⟩:wi.cell? ⟨yb,0,none⟩=some (.slice tno aB.length tc)∧wi.cell? ⟨yb,1,none⟩=some (.slice yo us.length yc):=⟨(cell_of_row _ _ 0 _ _ _ HV.out.var).trans rfl,(cell_of_row _ _ 1 _ _ _ HV.out.var).trans rfl⟩;clear hlt hk q0 x0 x1 y0 y1 z0 z1 r8 r9 hsz
   go_wp2_with fail
   refine (aCc _ us _ w1.heap.size wi (by have:=HUL.out;omega) HSF.out HNE.out).mono ?_;rintro e wj ⟨rfl,us',S,hro,hlen,hperm,hord,hcj⟩;have HCJ:=lh (show Chg [] w1 wj from HCI.out.trans hcj (fun j hj=>Or.inr (HSF.out.out.lt j (by simpa using hj)).1));have hyj:=hcj.heap HV.out.var (fun hm=>cU HSF.out.out HV.out.var (by decide) (by simpa using hm));have HYJ:=lh hyj;have HPS:=lh hperm;have HOS:=lh hord;have hsl9:S.length≤1001:=by
    rw[hperm.length_eq,←HFIN.out];have h1:=aA.aBh R R.length;have h2:=HRL.out;omega
   have HSR9:=lh (show ∀ l∈S,(∀ y∈l,I64 y)∧l.length<1000000000 from fun l hl=>HSB.out l (hperm.mem_iff.1 hl));have hul:us'.length=S.length:=hro.len;have hus:us.length=S.length:=by rw[←hlen,hul]
   rw[hus] at hro hyj HYJ;have HRS9:=lh (show cG wj (.slice yo S.length yc) S from hro.read (fun l hl=>⟨(HSR9.out l hl).1,by have:=(HSR9.out l hl).2;omega⟩));obtain⟨q0,q1⟩:wj.cell? ⟨yb,0,none⟩=some (.slice tno aB.length tc)∧wj.cell? ⟨yb,1,none⟩=some (.slice yo S.length yc):=⟨(cell_of_row _ _ 0 _ _ _ hyj).trans rfl,(cell_of_row _ _ 1 _ _ _ hyj).trans rfl⟩;obtain⟨x0,x1,y0,y1,z0,z1,r8,r9,hsz⟩:=HX.out _ HCJ.out;have HML:=lh (show (⟨aA.bL true p.v [v],aA.bL true p.e []⟩:aA.Pt)=aA.eZ p ⟨[v],[]⟩ by rw[aA.gT,aA.gT];rfl);have HT1:=lh (show ∀ i,(aB.getD i []).length<1000000000 from fun i=>Nat.lt_of_le_of_lt (HTR.out i) (by decide));have HT2:=lh (show ∀ i,(S.getD i []).length<1000000000 from fun i=>by
    by_cases hi:i<S.length
    ·exact (HSR9.out _ (aA.cO hi)).2
    rw[show S.getD i []=[] by simp[List.getD,show S.length≤i by omega]];decide)
   have HS9:=lh hsl9;have IV:I64 v:=I64.mk (by omega) (by omega);have HWJ:=lh (HXC.out.t HCJ.out);have R8:=lh r8;have R9:=lh r9;have HSJ:=lh hsz;clear hro hlen hperm hord hcj hyj hul hus x0 x1 z0 z1 r8 r9 hsz hsl9;go_wp2;have hS0:Chg [] wj wj.drew:=(Chg.refl [] wj).drew;refine aF (Chg [] wj) [0,1,3,5] (Way.line [0,1,5,2,3,4,6,7,8,9] .done) (by kernel_rfl) (by kernel_rfl) ?_;simp only[Way.line]
   repeat
    first
     | (refine aE rfl (by rfl) (by rfl) (fun _ _ _ h=>h) hS0 ?_;simp only[Act.put,Z1,Z2,Z3,Z4,Z5,Z6])
     | (refine aC (v:=?_) rfl (by rfl) (by rfl) (fun _ _ _ h=>h) hS0 (fun w' hS'=>?_) ?_;rotate_left;(focus (have rd0:=hS'.c y0;have rd1:=hS'.c y1;have rd2:=hS'.c q0;have rd3:=hS'.c q1;clear hS';go_simp;try with_reducible rfl));simp only[Act.put,Z1,Z2,Z3,Z4,Z5,Z6])
     | (refine aD rfl (by rfl) (by rfl) hS0 ?_;simp only[Act.put,Z1,Z2,Z3,Z4,Z5,Z6])
   refine aI rfl (by rfl) (by rfl) (fun K hK=>?_);go_simp;have HRV:=lh (((mM (w:=wj) (B:=wj.heap.size) (Nat.le_refl _) IV).chg ((Chg.refl [] _).drew) (by simp):aM (wj.alloc (.cells #[.int .i64 v] 3)).drew _ _ _));have hS1:=((Chg.refl [] wj).alloc (.cells #[.int .i64 v] 3)).drew;refine hK.out _ _ (fun _=>hS1) ?_;clear hK K hS0;have hS0:=hS1;clear hS1
   try simp only[Act.put,Z1,Z2,Z3,Z4,Z5,Z6]
   obtain⟨vb,hvb⟩:∃ b,wj.heap.size=b:=⟨_,rfl⟩;replace HRV:Hid (aM (wj.alloc (.cells #[.int .i64 v] 3)).drew vb (.slice (some ⟨vb,0,none⟩) 1 1) [v]):=by rw[←hvb];exact HRV
   rw[hvb];clear hvb;generalize (wj.alloc (.cells #[.int .i64 v] 3)).drew=u1 at *
   repeat
    first
     | (refine aE rfl (by rfl) (by rfl) (fun _ _ _ h=>h) hS0 ?_;simp only[Act.put,Z1,Z2,Z3,Z4,Z5,Z6])
     | (refine aC (v:=?_) rfl (by rfl) (by rfl) (fun _ _ _ h=>h) hS0 (fun w' hS'=>?_) ?_;rotate_left;(focus (skip;clear hS';go_simp;try with_reducible rfl));simp only[Act.put,Z1,Z2,Z3,Z4,Z5,Z6])
     | (refine aD rfl (by rfl) (by rfl) hS0 ?_;simp only[Act.put,Z1,Z2,Z3,Z4,Z5,Z6])
   refine aI rfl (by rfl) (by rfl) (fun K hK=>?_);go_simp;have HU1:=lh hS0.size;refine (aAI _ _ p ⟨[v],[]⟩ u1 (by omega) (by omega) (by simp) (by simp) (HP.out.fresh (HWJ.out.t hS0)) ⟨_,_,rfl,⟨HRV.out.ints,gI.row HRV.out⟩,⟨aL.nil _,none,0,0,rfl,by decide,by decide⟩⟩).mono ?_;rintro e u2 ⟨ov,rfl,hor,hcx⟩;rw[HML.out] at hor;have HOR:=lh hor;obtain⟨a1,k1,a2,k2,rfl⟩:=(hor [] u2 (Chg.refl _ _) (by simp)).shape;have OX:=lh hcx;have hS1:=hS0.t hcx;clear hS0 hcx hor;have hS0:=hS1;clear hS1;refine hK.out _ _ (fun _=>hS0) ?_;clear hK K
   try simp only[Act.put,Z1,Z2,Z3,Z4,Z5,Z6]
   repeat
    first
     | (refine aE rfl (by rfl) (by rfl) (fun _ _ _ h=>h) hS0 ?_;simp only[Act.put,Z1,Z2,Z3,Z4,Z5,Z6])
     | (refine aC (v:=?_) rfl (by rfl) (by rfl) (fun _ _ _ h=>h) hS0 (fun w' hS'=>?_) ?_;rotate_left;(focus (skip;clear hS';go_simp;try with_reducible rfl));simp only[Act.put,Z1,Z2,Z3,Z4,Z5,Z6])
     | (refine aD rfl (by rfl) (by rfl) hS0 ?_;simp only[Act.put,Z1,Z2,Z3,Z4,Z5,Z6])
   refine aI rfl (by rfl) (by rfl) (fun K hK=>?_);go_simp;have HU2:=lh hS0.size;refine (aEg _ aB S u2 (by omega) (by have:=HS9.out;omega) HT1.out HT2.out ⟨_,_,rfl,HT.out.fresh (HWJ.out.t hS0),HRS9.out.fresh hS0⟩).mono ?_;rintro e u3 ⟨vy,rfl,hcl,hcx⟩;have HCL:=lh hcl;obtain⟨c1,c2,rfl,⟨p3,k3,e3,-⟩,⟨p4,k4,rfl,-⟩⟩:=hcl [] u3 (Chg.refl _ _) (by simp);rw[List.length_map] at e3;subst e3;have CX:=lh hcx;have hS1:=hS0.t hcx;clear hS0 hcx hcl;have hS0:=hS1;clear hS1;refine hK.out _ _ (fun _=>hS0) ?_;clear hK K
   try simp only[Act.put,Z1,Z2,Z3,Z4,Z5,Z6]
   have HS03:=lh hS0;obtain⟨KV,hKV⟩:∃ KV,aA.eZ p ⟨[v],[]⟩=KV:=⟨_,rfl⟩;have HKV:=lh hKV;rw[hKV] at HOR ⊢;clear hKV y0 y1 q0 q1;have b8:u3.heap[w.heap.size+1+1+1]?=_:=hS0.heap R8.out (by simp);have b9:u3.heap[w.heap.size+1+1+1+1]?=_:=hS0.heap R9.out (by simp);obtain⟨e8,o0,o1,o2⟩:=eY b8 (.slice a1 KV.v.length k1) (.slice a2 KV.e.length k2);have b9':=o2.heap b9 (by simp);obtain⟨e9,o3,o4,o5⟩:=eY b9' (.slice p3 aB.length k3) (.slice p4 S.length k4);have o6:=o5.c o0;have o7:=o5.c o1;have HO25:=lh (show Chg [w.heap.size+1+1+1,w.heap.size+1+1+1+1] u3 _ from (o2.mono (fun j hj=>Or.inl (by simp at hj;simp[hj]))).trans o5 (fun j hj=>Or.inl (by simp at hj;simp[hj])));have z0:=(cell_of_row _ _ 0 _ _ _ b8).trans (show _=some (Value.slice none 0 0) from rfl);have z1:=(cell_of_row _ _ 1 _ _ _ b8).trans (show _=some (Value.slice none 0 0) from rfl);have z2:=bM b8 0;have z3:=bM b8 1;have t0:=(cell_of_row _ _ 0 _ _ _ b9').trans (show _=some (Value.slice none 0 0) from rfl);have t1:=(cell_of_row _ _ 1 _ _ _ b9').trans (show _=some (Value.slice none 0 0) from rfl);have t2:=bM b9' 0;have t3:=bM b9' 1;clear b8 b9 b9' e8 e9 o0 o1 o2 o5;refine aI rfl (by rfl) (by rfl) (fun K hK=>?_);go_simp;refine hK.out _ _ (fun h=>absurd h (Bool.eq_false_iff.1 (by kernel_rfl))) ?_;clear hK K z0 z1 z2 z3
   try simp only[Act.put,Z1,Z2,Z3,Z4,Z5,Z6]
   refine aI rfl (by rfl) (by rfl) (fun K hK=>?_);go_simp;refine hK.out _ _ (fun h=>absurd h (Bool.eq_false_iff.1 (by kernel_rfl))) ?_;clear hK K t0 t1 t2 t3
   try simp only[Act.put,Z1,Z2,Z3,Z4,Z5,Z6]
   refine aI rfl (by rfl) (by rfl) (fun K hK=>?_);go_simp;refine hK.out _ _ (fun h=>absurd h (Bool.eq_false_iff.1 (by kernel_rfl))) ?_;clear hK K
   try simp only[Act.put,Z1,Z2,Z3,Z4,Z5,Z6]
   refine aG ?_;go_wp2;refine bodyPost_ret (v:=.tuple #[.agg #[.slice a1 KV.v.length k1,.slice a2 KV.e.length k2],.agg #[.slice p3 aB.length k3,.slice p4 S.length k4],.int .i64 0]) (by simp[results,Tryz.results29,go_sem,o3,o4,o6,o7]) rfl ?_;have h1:=HU1.out;have h2:=HU2.out;have h3:=HSJ.out;refine⟨_,_,S,rfl,HPS.out,HOS.out,fun own wx hx hlo=>⟨?_,?_⟩,?_⟩
   ·rw[HKV.out]
    exact HOR.out ([w.heap.size+1+1+1,w.heap.size+1+1+1+1]++own) wx (((CX.out.mono (by simp)).trans (HO25.out.mono (fun j hj=>Or.inl (List.mem_append_left _ hj))) (fun j hj=>Or.inl hj)).trans hx (fun j hj=>Or.inl (List.mem_append_right _ hj))) (fun j hj=>by
     rcases List.mem_append.1 hj with q | q
     ·simp at q;omega
     have:=hlo j q;omega)
   ·exact HCL.out ([w.heap.size+1+1+1,w.heap.size+1+1+1+1]++own) wx ((HO25.out.mono (fun j hj=>Or.inl (List.mem_append_left _ hj))).trans hx (fun j hj=>Or.inl (List.mem_append_right _ hj))) (fun j hj=>by
     rcases List.mem_append.1 hj with q | q
     ·simp at q;omega
     have:=hlo j q;omega)
   exact (HWJ.out.t HS03.out).trans HO25.out (fun j hj=>Or.inr (by simp at hj;omega))
namespace aA
open Classical in
noncomputable def kF (g:Gr) (p:Pt) (aB same:List (List Int)) (v r:Int):Int :=
 if aN g p aB same≠0 then aN g p aB same else if v<0∨g.n≤v∨v∈p.v then 4 else if r<0∨((fE g p aB same).length:Int)≤r then 9 else 0
end aA
theorem aHL {wr:World} {a b:Nat} {t u:TypeId} (ha:wr.heap[a]?=some (.cells #[.slice none 0 0,.slice none 0 0] t (0,0))) (hb:wr.heap[b]?=some (.cells #[.slice none 0 0,.slice none 0 0] u (0,0))) (hab:a≠b) (x0 x1 y0 y1:Value) :
  ((((wr.setCell ⟨a,0,none⟩ x0).setCell ⟨a,1,none⟩ x1).setCell ⟨b,0,none⟩ y0).setCell ⟨b,1,none⟩ y1).cell? ⟨a,0,none⟩=some x0∧((((wr.setCell ⟨a,0,none⟩ x0).setCell ⟨a,1,none⟩ x1).setCell ⟨b,0,none⟩ y0).setCell ⟨b,1,none⟩ y1).cell? ⟨a,1,none⟩=some x1 ∧
  ((((wr.setCell ⟨a,0,none⟩ x0).setCell ⟨a,1,none⟩ x1).setCell ⟨b,0,none⟩ y0).setCell ⟨b,1,none⟩ y1).cell? ⟨b,0,none⟩=some y0∧((((wr.setCell ⟨a,0,none⟩ x0).setCell ⟨a,1,none⟩ x1).setCell ⟨b,0,none⟩ y0).setCell ⟨b,1,none⟩ y1).cell? ⟨b,1,none⟩=some y1 ∧
  Chg [a,b] wr ((((wr.setCell ⟨a,0,none⟩ x0).setCell ⟨a,1,none⟩ x1).setCell ⟨b,0,none⟩ y0).setCell ⟨b,1,none⟩ y1):=by
 obtain⟨-,o0,o1,o2⟩:=eY ha x0 x1;obtain⟨-,o3,o4,o5⟩:=eY (o2.heap hb (by simp;exact fun e=>hab e.symm)) y0 y1;exact⟨o5.cell o0 (by simp;exact hab),o5.cell o1 (by simp;exact hab),o3,o4,(o2.mono (fun j hj=>Or.inl (by simp at hj;simp[hj]))).trans o5 (fun j hj=>Or.inl (by simp at hj;simp[hj]))⟩
set_option maxRecDepth 100000 in
set_option maxHeartbeats 8000000 in
theorem aGA (vg vp vx:Value) (g:aA.Gr) (p:aA.Pt) (aB same:List (List Int)) (v r:Int) (w:World) (hpl:p.e.length≤60) (hpv:p.v.length≤60) (hTL:aB.length≤100) (hS:aA.bU aB aB.length<2147483648) (hsl:same.length≤10000) (hsr:∀ i,(same.getD i []).length≤10000)
  (hne:aA.kF g p aB same v r≠0) (hg:dW w vg g) (hp:PtC w vp p) (hx:jX w vx aB same) (_IV:I64 v) (_IR:I64 r) :
  Calls Tryz.prog 29 #[vg,vp,vx,.int .i64 v,.int .i64 r] w fun e w'=>e=.returned (.tuple #[.agg #[.slice none 0 0,.slice none 0 0],.agg #[.slice none 0 0,.slice none 0 0],.int .i64 (aA.kF g p aB same v r)])∧Chg [] w w':=by
 have HS1:=lh hS;have HSR:=lh hsr;have HG:=lh hg;have HP:=lh hp;have HX0:=lh hx;have HAE:=lh hne;obtain⟨eo,cap,rfl,hnI,-⟩:=hg;obtain⟨ao,ac,bo,bc,rfl⟩:=hp.shape;obtain⟨u1,u2,rfl,⟨tno,tc,rfl,-⟩,⟨so,sc,rfl,-⟩⟩:=hx;have HPVI:=lh (show aL w (.slice ao p.v.length ac) p.v by obtain⟨v1,v2,e,he,-⟩:=HP.out.at;cases e;exact he);clear hp hS hsr hne;have HXC:=lh (show Chg [] w (((((w.alloc (.cells #[.int .i64 g.n,.slice eo g.e.length cap] 24)).alloc (.cells #[.slice ao p.v.length ac,.slice bo p.e.length bc] 29)).alloc (.cells #[.slice tno aB.length tc,.slice so same.length sc] 32)).alloc (.cells #[.slice none 0 0,.slice none 0 0] 29)).alloc (.cells #[.slice none 0 0,.slice none 0 0] 32)) from (show Chg [] w (((((w.alloc (.cells #[.int .i64 g.n,.slice eo g.e.length cap] 24)).alloc (.cells #[.slice ao p.v.length ac,.slice bo p.e.length bc] 29)).alloc (.cells #[.slice tno aB.length tc,.slice so same.length sc] 32)).alloc (.cells #[.slice none 0 0,.slice none 0 0] 29)).alloc (.cells #[.slice none 0 0,.slice none 0 0] 32)) from ((((((Chg.refl [] w).alloc _).alloc _).alloc _).alloc _).alloc _)));have qbx0:=heap_alloc_new w (.cells #[.int .i64 g.n,.slice eo g.e.length cap] 24);replace qbx0:=(show Chg [] (w.alloc (.cells #[.int .i64 g.n,.slice eo g.e.length cap] 24)) (((((w.alloc (.cells #[.int .i64 g.n,.slice eo g.e.length cap] 24)).alloc (.cells #[.slice ao p.v.length ac,.slice bo p.e.length bc] 29)).alloc (.cells #[.slice tno aB.length tc,.slice so same.length sc] 32)).alloc (.cells #[.slice none 0 0,.slice none 0 0] 29)).alloc (.cells #[.slice none 0 0,.slice none 0 0] 32)) from (((((Chg.refl [] (w.alloc (.cells #[.int .i64 g.n,.slice eo g.e.length cap] 24))).alloc _).alloc _).alloc _).alloc _)).heap qbx0 (by simp);have qbx1:=heap_alloc_new (w.alloc (.cells #[.int .i64 g.n,.slice eo g.e.length cap] 24)) (.cells #[.slice ao p.v.length ac,.slice bo p.e.length bc] 29);rw[show (w.alloc (.cells #[.int .i64 g.n,.slice eo g.e.length cap] 24)).heap.size=w.heap.size+1 by simp] at qbx1;replace qbx1:=(show Chg [] ((w.alloc (.cells #[.int .i64 g.n,.slice eo g.e.length cap] 24)).alloc (.cells #[.slice ao p.v.length ac,.slice bo p.e.length bc] 29)) (((((w.alloc (.cells #[.int .i64 g.n,.slice eo g.e.length cap] 24)).alloc (.cells #[.slice ao p.v.length ac,.slice bo p.e.length bc] 29)).alloc (.cells #[.slice tno aB.length tc,.slice so same.length sc] 32)).alloc (.cells #[.slice none 0 0,.slice none 0 0] 29)).alloc (.cells #[.slice none 0 0,.slice none 0 0] 32)) from ((((Chg.refl [] ((w.alloc (.cells #[.int .i64 g.n,.slice eo g.e.length cap] 24)).alloc (.cells #[.slice ao p.v.length ac,.slice bo p.e.length bc] 29))).alloc _).alloc _).alloc _)).heap qbx1 (by simp);have qbx2:=heap_alloc_new ((w.alloc (.cells #[.int .i64 g.n,.slice eo g.e.length cap] 24)).alloc (.cells #[.slice ao p.v.length ac,.slice bo p.e.length bc] 29)) (.cells #[.slice tno aB.length tc,.slice so same.length sc] 32);rw[show ((w.alloc (.cells #[.int .i64 g.n,.slice eo g.e.length cap] 24)).alloc (.cells #[.slice ao p.v.length ac,.slice bo p.e.length bc] 29)).heap.size=w.heap.size+2 by simp] at qbx2;replace qbx2:=(show Chg [] (((w.alloc (.cells #[.int .i64 g.n,.slice eo g.e.length cap] 24)).alloc (.cells #[.slice ao p.v.length ac,.slice bo p.e.length bc] 29)).alloc (.cells #[.slice tno aB.length tc,.slice so same.length sc] 32)) (((((w.alloc (.cells #[.int .i64 g.n,.slice eo g.e.length cap] 24)).alloc (.cells #[.slice ao p.v.length ac,.slice bo p.e.length bc] 29)).alloc (.cells #[.slice tno aB.length tc,.slice so same.length sc] 32)).alloc (.cells #[.slice none 0 0,.slice none 0 0] 29)).alloc (.cells #[.slice none 0 0,.slice none 0 0] 32)) from (((Chg.refl [] (((w.alloc (.cells #[.int .i64 g.n,.slice eo g.e.length cap] 24)).alloc (.cells #[.slice ao p.v.length ac,.slice bo p.e.length bc] 29)).alloc (.cells #[.slice tno aB.length tc,.slice so same.length sc] 32))).alloc _).alloc _)).heap qbx2 (by simp);have qbx3:=heap_alloc_new (((w.alloc (.cells #[.int .i64 g.n,.slice eo g.e.length cap] 24)).alloc (.cells #[.slice ao p.v.length ac,.slice bo p.e.length bc] 29)).alloc (.cells #[.slice tno aB.length tc,.slice so same.length sc] 32)) (.cells #[.slice none 0 0,.slice none 0 0] 29)
 rw[show (((w.alloc (.cells #[.int .i64 g.n,.slice eo g.e.length cap] 24)).alloc (.cells #[.slice ao p.v.length ac,.slice bo p.e.length bc] 29)).alloc (.cells #[.slice tno aB.length tc,.slice so same.length sc] 32)).heap.size=w.heap.size+3 by simp] at qbx3;replace qbx3:=(show Chg [] ((((w.alloc (.cells #[.int .i64 g.n,.slice eo g.e.length cap] 24)).alloc (.cells #[.slice ao p.v.length ac,.slice bo p.e.length bc] 29)).alloc (.cells #[.slice tno aB.length tc,.slice so same.length sc] 32)).alloc (.cells #[.slice none 0 0,.slice none 0 0] 29)) (((((w.alloc (.cells #[.int .i64 g.n,.slice eo g.e.length cap] 24)).alloc (.cells #[.slice ao p.v.length ac,.slice bo p.e.length bc] 29)).alloc (.cells #[.slice tno aB.length tc,.slice so same.length sc] 32)).alloc (.cells #[.slice none 0 0,.slice none 0 0] 29)).alloc (.cells #[.slice none 0 0,.slice none 0 0] 32)) from ((Chg.refl [] ((((w.alloc (.cells #[.int .i64 g.n,.slice eo g.e.length cap] 24)).alloc (.cells #[.slice ao p.v.length ac,.slice bo p.e.length bc] 29)).alloc (.cells #[.slice tno aB.length tc,.slice so same.length sc] 32)).alloc (.cells #[.slice none 0 0,.slice none 0 0] 29))).alloc _)).heap qbx3 (by simp);have qbx4:=heap_alloc_new ((((w.alloc (.cells #[.int .i64 g.n,.slice eo g.e.length cap] 24)).alloc (.cells #[.slice ao p.v.length ac,.slice bo p.e.length bc] 29)).alloc (.cells #[.slice tno aB.length tc,.slice so same.length sc] 32)).alloc (.cells #[.slice none 0 0,.slice none 0 0] 29)) (.cells #[.slice none 0 0,.slice none 0 0] 32);rw[show ((((w.alloc (.cells #[.int .i64 g.n,.slice eo g.e.length cap] 24)).alloc (.cells #[.slice ao p.v.length ac,.slice bo p.e.length bc] 29)).alloc (.cells #[.slice tno aB.length tc,.slice so same.length sc] 32)).alloc (.cells #[.slice none 0 0,.slice none 0 0] 29)).heap.size=w.heap.size+4 by simp] at qbx4;have HX:=lh (fun (w2:World) (hbx:Chg [] (((((w.alloc (.cells #[.int .i64 g.n,.slice eo g.e.length cap] 24)).alloc (.cells #[.slice ao p.v.length ac,.slice bo p.e.length bc] 29)).alloc (.cells #[.slice tno aB.length tc,.slice so same.length sc] 32)).alloc (.cells #[.slice none 0 0,.slice none 0 0] 29)).alloc (.cells #[.slice none 0 0,.slice none 0 0] 32)) w2)=>(⟨hbx.c ((cell_of_row _ _ 0 _ _ _ qbx0).trans rfl),hbx.c ((cell_of_row _ _ 1 _ _ _ qbx0).trans rfl),hbx.c ((cell_of_row _ _ 0 _ _ _ qbx1).trans rfl),hbx.c ((cell_of_row _ _ 1 _ _ _ qbx1).trans rfl),hbx.c ((cell_of_row _ _ 0 _ _ _ qbx2).trans rfl),hbx.c ((cell_of_row _ _ 1 _ _ _ qbx2).trans rfl),hbx.heap qbx3 (by simp),hbx.heap qbx4 (by simp),by have hz:=hbx.size;simpa using hz⟩:w2.cell? ⟨w.heap.size,0,none⟩=some (.int .i64 g.n)∧w2.cell? ⟨w.heap.size,1,none⟩=some (.slice eo g.e.length cap)∧w2.cell? ⟨w.heap.size+1,0,none⟩=some (.slice ao p.v.length ac)∧w2.cell? ⟨w.heap.size+1,1,none⟩=some (.slice bo p.e.length bc)∧w2.cell? ⟨w.heap.size+2,0,none⟩=some (.slice tno aB.length tc)∧w2.cell? ⟨w.heap.size+2,1,none⟩=some (.slice so same.length sc)∧w2.heap[w.heap.size+3]?=some (.cells #[.slice none 0 0,.slice none 0 0] 29 (0,0))∧w2.heap[w.heap.size+4]?=some (.cells #[.slice none 0 0,.slice none 0 0] 32 (0,0))∧w.heap.size+5≤w2.heap.size));clear qbx0 qbx1 qbx2 qbx3 qbx4;have HXZ:=lh (show (((((w.alloc (.cells #[.int .i64 g.n,.slice eo g.e.length cap] 24)).alloc (.cells #[.slice ao p.v.length ac,.slice bo p.e.length bc] 29)).alloc (.cells #[.slice tno aB.length tc,.slice so same.length sc] 32)).alloc (.cells #[.slice none 0 0,.slice none 0 0] 29)).alloc (.cells #[.slice none 0 0,.slice none 0 0] 32)).heap.size=w.heap.size+5 by simp);obtain⟨x0,x1,y0,y1,z0,z1,-,-,hsz⟩:=HX.out _ (Chg.refl _ _)
 go_enter Tryz.func29,Tryz.ntmps29
 go_wp2_with fail
 generalize (((((w.alloc (.cells #[.int .i64 g.n,.slice eo g.e.length cap] 24)).alloc (.cells #[.slice ao p.v.length ac,.slice bo p.e.length bc] 29)).alloc (.cells #[.slice tno aB.length tc,.slice so same.length sc] 32)).alloc (.cells #[.slice none 0 0,.slice none 0 0] 29)).alloc (.cells #[.slice none 0 0,.slice none 0 0] 32))=w1 at *;have HEND:=lh (fun (wr:World) (hc:Chg [] w1 wr)=>(show _∧_∧_∧_∧_∧_∧_∧_∧_∧_∧_∧_∧Chg [] w _ from by
  obtain⟨-,-,-,-,-,-,r8,r9,-⟩:=HX.out wr hc;obtain⟨o0,o1,o2,o3,o4⟩:=aHL (a:=w.heap.size+1+1+1) (b:=w.heap.size+1+1+1+1) r8 r9 (by omega) (.slice none 0 0) (.slice none 0 0) (.slice none 0 0) (.slice none 0 0);exact⟨(cell_of_row _ _ 0 _ _ _ r8).trans (show _=some (Value.slice none 0 0) from rfl),(cell_of_row _ _ 1 _ _ _ r8).trans (show _=some (Value.slice none 0 0) from rfl),bM r8 0,bM r8 1,(cell_of_row _ _ 0 _ _ _ r9).trans (show _=some (Value.slice none 0 0) from rfl),(cell_of_row _ _ 1 _ _ _ r9).trans (show _=some (Value.slice none 0 0) from rfl),bM r9 0,bM r9 1,o0,o1,o2,o3,(HXC.out.t hc).trans o4 (fun j hj=>Or.inr (by simp at hj;omega))⟩))
 refine (oT _ _ _ g p aB same _ (by omega) (by omega) (by omega) HS1.out hsl HSR.out (HG.out.fresh HXC.out) (HP.out.at.fresh HXC.out) (HX0.out.fresh HXC.out)).mono ?_;rintro e w2 ⟨rv,rfl,hno,hyes,hc2⟩;have HC2:=lh hc2;have HW2:=lh (HXC.out.t hc2);clear x0 x1 y0 y1 z0 z1 hsz hc2;by_cases hz:aA.aN g p aB same=0
 ·obtain⟨vs,ll,hro,hperm,hord,hW⟩:=hyes hz
  have hpt:=aA.iN hz hW;have hreg:aA.iO g p aB same ll:=⟨hperm,hord⟩;have HLL:=lh (show ll.length=(aA.aJ g p aB same).length by rw[hreg.eq hpt]);have HRO:=lh hro;have HPR:=lh (aA.pV (aA.eP hz).1);obtain⟨rvo,rvc,rve⟩:=bR hro.out;rw[hro.len] at rve;subst rve;have hlen:ll.length≤1000:=by
   have h1:=hreg.eq hpt;have h2:=(aA.lO hz hpl hpv).2;unfold aA.fE at h2;by_cases q:p.v=[]
   ·have h3:=hW.len
    rw[q] at h3;have h4:p.e=[]:=by
     cases he:p.e with
     | nil=>rfl
     | cons e0 l0 =>
      have:=(aA.Pt.aQ (aA.eP hz).1).ends e0 (by rw[he];simp);rw[q] at this;simp at this
    rw[h4] at h3;have h3:(aA.aH g p aB).length≤0:=h3;have h5:=(aA.aAn (aA.lR hz));have h6:=((aA.gY hpt).perm.flatten.trans hpt.all).length_eq;rw[List.length_map] at h6;rw[h1];omega
   rw[if_neg q] at h2;rw[h1];exact h2
  have HAV:=lh (show aA.kF g p aB same v r=if v<0∨g.n≤v∨v∈p.v then 4 else if r<0∨((aA.fE g p aB same).length:Int)≤r then 9 else 0 by unfold aA.kF;rw[if_neg (by simp[hz])]);rw[hz];have HZ:=lh hz;clear hno hyes hz hperm hord hW hpt hreg hro;obtain⟨x0,x1,y0,y1,z0,z1,-,-,hsz⟩:=HX.out _ HC2.out;obtain⟨f0,f1,f2,f3,f4,f5,f6,f7,-⟩:=HEND.out _ HC2.out;by_cases hv0:v<0
  ·have b0:decide (v<0)=true:=decide_eq_true hv0
   have HE4:=lh (HAV.out.trans (if_pos (Or.inl hv0)));clear hv0;go_wp2;obtain⟨-,-,-,-,-,-,-,-,o0,o1,o2,o3,o4⟩:=HEND.out _ HC2.out;refine bodyPost_ret (v:=.tuple #[.agg #[.slice none 0 0,.slice none 0 0],.agg #[.slice none 0 0,.slice none 0 0],.int .i64 4]) (by simp[results,Tryz.results29,go_sem,o0,o1,o2,o3]) rfl ?_;exact⟨by rw[HE4.out],o4⟩
  have b0:decide (v<0)=false:=decide_eq_false hv0;by_cases hv1:g.n≤v
  ·have b1:decide (v ≥ g.n)=true:=decide_eq_true hv1
   have HE4:=lh (HAV.out.trans (if_pos (Or.inr (Or.inl hv1))));clear hv0 hv1;go_wp2;obtain⟨-,-,-,-,-,-,-,-,o0,o1,o2,o3,o4⟩:=HEND.out _ HC2.out;refine bodyPost_ret (v:=.tuple #[.agg #[.slice none 0 0,.slice none 0 0],.agg #[.slice none 0 0,.slice none 0 0],.int .i64 4]) (by simp[results,Tryz.results29,go_sem,o0,o1,o2,o3]) rfl ?_;exact⟨by rw[HE4.out],o4⟩
  have b1:decide (v ≥ g.n)=false:=decide_eq_false hv1;clear f0 f1 f2 f3 f4 f5 f6 f7
  go_wp2_with fail
  refine (kL _ p.v v _ HPR.out.1 (by omega) (HPVI.out.fresh HW2.out)).mono ?_;rintro e w3 ⟨rfl,hc3⟩;have HC3:=lh (HC2.out.t hc3);clear x0 x1 y0 y1 z0 z1 hsz;obtain⟨x0,x1,y0,y1,z0,z1,-,-,hsz⟩:=HX.out _ HC3.out;obtain⟨f0,f1,f2,f3,f4,f5,f6,f7,-⟩:=HEND.out _ HC3.out;by_cases hvp:v∈p.v
  ·rw[decide_eq_true hvp]
   have HE4:=lh (HAV.out.trans (if_pos (Or.inr (Or.inr hvp))));clear hv0 hv1 hvp;go_wp2;obtain⟨-,-,-,-,-,-,-,-,o0,o1,o2,o3,o4⟩:=HEND.out _ HC3.out;refine bodyPost_ret (v:=.tuple #[.agg #[.slice none 0 0,.slice none 0 0],.agg #[.slice none 0 0,.slice none 0 0],.int .i64 4]) (by simp[results,Tryz.results29,go_sem,o0,o1,o2,o3]) rfl ?_;exact⟨by rw[HE4.out],o4⟩
  rw[decide_eq_false hvp];have HA2:=lh (HAV.out.trans (if_neg (by rintro (q | q | q);omega;omega;exact hvp q)));clear hv0 hv1 hvp;obtain⟨Q,hQ⟩:∃ Q,(aA.fE g p aB same).length=Q:=⟨_,rfl⟩;have HQ:=lh hQ;rw[hQ] at HA2;have hRn:r<0∨(Q:Int)≤r:=Classical.byContradiction fun q=>HAE.out (HA2.out.trans (if_neg q));have HE9:=lh (HA2.out.trans (if_pos hRn));have HLQ:=lh (show (p.v=[]→Q=1)∧(p.v≠[]→Q=ll.length) by
   rw[HLL.out,←hQ];unfold aA.fE;exact⟨fun q=>by rw[if_pos q];rfl,fun q=>by rw[if_neg q]⟩)
  clear f0 f1 f2 f3 f4 f5 f6 f7 hQ
  go_upto_if 49 with fail
  go_cut [13] (fun c13 wc=>∃ so2 sc2,c13=.slice so2 Q sc2∧Chg [] w1 wc)
  case first =>
   by_cases hv0:p.v=[]
   ·have hvl:((p.v.length:Int)==0)=true:=by rw[hv0];rfl
    have HQ1:=lh (HLQ.out.1 hv0);clear hv0;go_wp2
    go_meet
    case rel=>exact⟨_,_,by rw[HQ1.out],HC3.out.alloc _⟩
   have hvl:((p.v.length:Int)==0)=false:=by rw[beq_eq_false_iff_ne];have:=List.length_pos_iff.2 hv0;omega
   have HQ1:=lh (HLQ.out.2 hv0);clear hv0;go_wp2
   go_meet
   case rel=>exact⟨_,_,by rw[HQ1.out],HC3.out⟩
  case rest =>
   rename World=>w4;obtain⟨so2,sc2,rfl,hc4⟩:=hcut;have HC4:=lh hc4;clear hc4 x0 x1 y0 y1 z0 z1 hsz;obtain⟨f0,f1,f2,f3,f4,f5,f6,f7,-⟩:=HEND.out _ HC4.out;by_cases hr0:r<0
   ·have b2:decide (r<0)=true:=decide_eq_true hr0
    clear hr0 hRn;go_wp2;obtain⟨-,-,-,-,-,-,-,-,o0,o1,o2,o3,o4⟩:=HEND.out _ HC4.out;refine bodyPost_ret (v:=.tuple #[.agg #[.slice none 0 0,.slice none 0 0],.agg #[.slice none 0 0,.slice none 0 0],.int .i64 9]) (by simp[results,Tryz.results29,go_sem,o0,o1,o2,o3]) rfl ?_;exact⟨by rw[HE9.out],o4⟩
   have b2:decide (r<0)=false:=decide_eq_false hr0;have b3:decide (r ≥ (Q:Int))=true:=decide_eq_true (by omega);clear hr0 hRn;go_wp2;obtain⟨-,-,-,-,-,-,-,-,o0,o1,o2,o3,o4⟩:=HEND.out _ HC4.out;refine bodyPost_ret (v:=.tuple #[.agg #[.slice none 0 0,.slice none 0 0],.agg #[.slice none 0 0,.slice none 0 0],.int .i64 9]) (by simp[results,Tryz.results29,go_sem,o0,o1,o2,o3]) rfl ?_;exact⟨by rw[HE9.out],o4⟩
 obtain⟨er,her⟩:∃ er,aA.aN g p aB same=er:=⟨_,rfl⟩;have HAV:=lh (show aA.kF g p aB same v r=er by unfold aA.kF;rw[if_pos hz,her]);have bz:(er != 0)=true:=by rw[←her];simpa using hz
 obtain rfl:=hno hz;rw[her];clear hno hyes hz her;obtain⟨x0,x1,y0,y1,z0,z1,-,-,hsz⟩:=HX.out _ HC2.out;obtain⟨f0,f1,f2,f3,f4,f5,f6,f7,-⟩:=HEND.out _ HC2.out;go_wp2;obtain⟨-,-,-,-,-,-,-,-,o0,o1,o2,o3,o4⟩:=HEND.out _ HC2.out;refine bodyPost_ret (v:=.tuple #[.agg #[.slice none 0 0,.slice none 0 0],.agg #[.slice none 0 0,.slice none 0 0],.int .i64 er]) (by simp[results,Tryz.results29,go_sem,o0,o1,o2,o3]) rfl ?_;exact⟨by rw[HAV.out],o4⟩
end Go.Proofs.YtkacjmoamgjfpaaGreat
namespace Go.Proofs.YtkacjmoamgjfpaaGreat.aA
theorem aFl {g:Gr} {p:Pt} {T same:List (List Int)} {v:Int} {n:Nat} {S:List (List Int)} (hz:aN g p T same=0) (hv0:0≤v) (hv1:v<g.n) (hvn:v ∉ p.v) (hn:n<(fE g p T same).length)
  (hS:S.Perm (jG (fE g p T same) n (-1 - v))) (hO:S.Pairwise fun a b=>a.getD 0 0≤b.getD 0 0):aN g (eZ p ⟨[v],[]⟩) T S=0:=by
 obtain⟨hpe,hto⟩:=eP hz;have hpk:=Pt.aQ hpe;have hvq:(⟨[v],[]⟩:Pt).err g=0:=Pt.aCA (Pt.aV hpe).1 (rI (List.pairwise_singleton _ _) (by simpa using ⟨hv0,hv1⟩)) rfl (by simp);have hke:=aBZ hpe hvq;have hkE:(eZ p ⟨[v],[]⟩).e=p.e:=pN _;have hkV:∀ u,u∈(eZ p ⟨[v],[]⟩).v↔u∈p.v∨u=v:=fun u=>by
  show u∈orL p.v [v]↔_;rw[eO,List.mem_singleton]
 obtain⟨k,hk⟩:∃ k,eZ p ⟨[v],[]⟩=k:=⟨_,rfl⟩;rw[hk] at hke hkE hkV ⊢;have hkk:=Pt.aQ hke;have hd:k.aK=p.aK:=by unfold Pt.aK;rw[hkE]
 have tK:aW g k T:=⟨hto.len,hto.nodup,fun u h1 h2 d=>by rw[hd];exact hto.mem u h1 h2 d⟩;have hm:=aDa hpe hke hto hkE hkV hvn;have hkW:=dF hpe (bS hpe hto);have hkK:=dF hke (bS hke tK);have hx:∀ f∈aH g p T,f.1≠(-1 - v):=by
  intro f hf e;obtain⟨-,k2⟩:=wK hpe hto hf;have hcm:=dG hpk (bS hpe hto).eF f hf;rw[e] at k2;have:f.aY g=v:=by
   rw[←k2];unfold oN;rw[if_pos (by omega)];omega
  rw[this] at hcm;exact hvn hcm
 have hdv:∀ d∈p.aK,g.tail d≠v∧g.head d≠v:=fun d h=>⟨fun e=>hvn (e ▸ (hpk.dN h).1),fun e=>hvn (e ▸ (hpk.dN h).2)⟩;have hnear:∀ u w,pW g k u w→u≠v∧w≠v:=fun u w h=>by
  obtain⟨d,hd2,hh⟩:=(aB2 hkk).1 h;obtain⟨h1,h2⟩:=List.mem_filter.1 hd2;rw[hd] at h1;have h2:g.tail d=u:=by simpa using h2
  exact⟨by rw[←h2];exact (hdv d h1).1,by rw[←hh];exact (hdv d h1).2⟩
 have hlone:∀ u w,dT g k (-1) u w→u≠w→u≠v∧w≠v:=fun u w h=>by
  induction h with
  | here=>intro q;exact absurd rfl q
  | step h1 hn hs ih =>
   rename_i x y;intro _;obtain⟨n1,n2⟩:=hnear _ _ hn;by_cases e:u=x
   ·exact⟨e ▸ n1,n2⟩
   exact⟨(ih e).1,n2⟩
 -- pieces
 have hroots:(roots g k).Perm (v :: roots g p):=by
  refine (List.perm_ext_iff_of_nodup (gO hkk) (List.nodup_cons.2 ⟨fun q=>hvn (dA.1 q).1,gO hpk⟩)).2 fun u=>?_;rw[List.mem_cons,dA,dA];constructor
  ·rintro ⟨h1,h2⟩
   rcases (hkV u).1 h1 with q | q
   ·exact Or.inr ⟨q,fun w hw hc=>h2 w ((hkV w).2 (Or.inl hw)) (hc.congr hkE.symm)⟩
   exact Or.inl q
  rintro (q | ⟨h1,h2⟩)
  ·refine⟨(hkV u).2 (Or.inr q),fun w hw hc=>?_⟩
   by_cases e:u=w
   ·omega
   exact absurd q (hlone u w hc e).1
  refine⟨(hkV u).2 (Or.inl h1),fun w hw hc=>?_⟩;rcases (hkV w).1 hw with r | r
  ·exact h2 w r (hc.congr hkE)
  by_cases e:u=w
  ·omega
  exact absurd r (hlone u w hc e).2
 have hrl:(roots g k).length=(roots g p).length+1:=by rw[hroots.length_eq];rfl
 have hWn:(aH g k T).Nodup:=(List.pairwise_map.1 hkK).imp fun h e=>by rw[e] at h;omega
 have hWn2:(aH g p T).Nodup:=(List.pairwise_map.1 hkW).imp fun h e=>by rw[e] at h;omega
 obtain⟨xf,hxf⟩:∃ xf:aO,xf=(-1 - v,[]):=⟨_,rfl⟩;have hx1:-1 - v=xf.1:=by rw[hxf]
 have hWp:(aH g k T).Perm (xf :: aH g p T):=by
  refine (List.perm_ext_iff_of_nodup hWn (List.nodup_cons.2 ⟨fun q=>hx xf q hx1.symm,hWn2⟩)).2 fun f=>?_;rw[hm,List.mem_cons,hxf,or_comm]
 have hWl:(aH g k T).length=(aH g p T).length+1:=by rw[hWp.length_eq];rfl
 have hVl:k.v.length=p.v.length+1:=by
  have:k.v.Perm (v :: p.v):=(List.perm_ext_iff_of_nodup hkk.vn (List.nodup_cons.2 ⟨hvn,hpk.vn⟩)).2 fun u=>by rw[hkV,List.mem_cons,or_comm]
  rw[this.length_eq];rfl
 have hfl:Flat g k T:=by
  refine aHx hke tK (bS hke tK) ?_;have:=aIv hpk hto (bS hpe hto).eF (bY (cX hz).1).2;rw[hVl,hWl,hrl,hkE];omega
 -- classes
 obtain⟨c0,hc0⟩:∃ c,cls g p T same=c:=⟨_,rfl⟩;have hsg:=zD hz;rw[hc0] at hsg;have hz2:=hz;rw[hsg] at hz2;obtain⟨H,hH,eH,cH,sH⟩:=aBT hz2;rw[←hsg] at eH;have key:∀ (N:Int) (H':List Int),H'.Nodup→(∀ f∈aH g p T,c0 f∈H')→N∈H'→(∀ h∈H',h=N∨∃ f∈aH g p T,c0 f=h)→(aH g k T).length+1=(roots g k).length+H'.length →
   (p.v≠[]→∃ f∈aH g p T,c0 f=N)→S=eT (fun f=>if f.1=xf.1 then N else c0 f) (aH g k T)→aN g k T S=0:=by
  intro N H' hH' hcov hN hall hcnt hex hSe;rw[hSe];obtain⟨c,hc⟩:∃ c,(fun f:aO=>if f.1=xf.1 then N else c0 f)=c:=⟨_,rfl⟩;have c1:c xf=N:=by rw[←hc];exact if_pos rfl
  have c2:∀ f∈aH g p T,c f=c0 f:=fun f hf=>by rw[←hc];exact if_neg (by rw[←hx1];exact hx f hf)
  rw[hc];have hm2:∀ f,f∈aH g k T↔f∈aH g p T∨f=xf:=fun f=>by rw[hm,hxf]
  have hn2:aEH c (aH g k T)=H'.length:=by
   rw[←aC1 hH'];refine (aFP hkK lZ (pl:=c) (fun f hf=>?_) (fun f _ x _=>Iff.rfl) (fun h hh=>?_)).symm
   ·rcases (hm2 f).1 hf with q | q
    ·rw[c2 f q];exact hcov f q
    rw[q,c1];exact hN
   rcases hall h hh with q | ⟨f,hf,q⟩
   ·exact⟨xf,(hm2 xf).2 (Or.inr rfl),by rw[q,c1]⟩
   exact⟨f,(hm2 f).2 (Or.inl hf),by rw[c2 f hf,q]⟩
  refine aFI hke tK hfl (by rw[hn2];exact hcnt) fun J hJ hj=>?_
  -- all pieces of k: those of p,and v
  have hpiece:∀ f∈aH g k T,gG g k T f.1=(bO g k (f.aY g):Int):=fun f hf=>rA hke tK hf;have hcor:∀ f∈aH g p T,f.aY g∈p.v:=dG hpk (bS hpe hto).eF
  let φ:Int→Int:=fun a=>(bO g k ((roots g p).getD a.toNat 0):Int)
  have hφ:∀ u∈p.v,φ (bO g p u:Int)=(bO g k u:Int):=fun u hu=>by
   obtain⟨h1,h2⟩:=sI hpk hu;have h3:=(bZ.1 h2).2;show (bO g k ((roots g p).getD ((bO g p u:Int)).toNat 0):Int)=_;rw[show ((bO g p u:Int)).toNat=bO g p u by omega];have hr:(roots g p).getD (bO g p u) 0∈roots g p:=by simp[List.getD,h1]
   rw[aCE hkk ((hkV _).2 (Or.inl (dA.1 hr).1)) ((hkV _).2 (Or.inl hu)) (h3.congr hkE.symm)]
  have hJp:=(vT hz).2 (fun a b=>J (φ a) (φ b)) (hJ.aIo φ) (fun l hl y hy=>by
   have hpt:=iN hz (bS hpe hto);have hl2:l∈eT c0 (aH g p T):=by rw[←hsg];exact hl
   obtain⟨h,rfl,hlen⟩:=eX.1 hl2;obtain⟨f1,hf1,e1,e2⟩:=cJ.1 hy;have hy0:(aT c0 (aH g p T) h).getD 0 0∈aT c0 (aH g p T) h:=aZ (by omega);obtain⟨f2,hf2,e3,e4⟩:=cJ.1 hy0;show J (φ (gG g p T _)) (φ (gG g p T y));rw[←e2,←e4,rA hpe hto hf1,rA hpe hto hf2,hφ _ (hcor f1 hf1),hφ _ (hcor f2 hf2),←hpiece f1 ((hm2 f1).2 (Or.inl hf1)),←hpiece f2 ((hm2 f2).2 (Or.inl hf2))];exact hj f2 ((hm2 f2).2 (Or.inl hf2)) f1 ((hm2 f1).2 (Or.inl hf1)) (by rw[c2 f2 hf2,c2 f1 hf1,e1,e3]))
  have hvert:∀ u∈k.v,∀ w∈k.v,J (bO g k u:Int) (bO g k w:Int):=by
   have hpp:∀ u∈p.v,∀ w∈p.v,J (bO g k u:Int) (bO g k w:Int):=fun u hu w hw=>by
    have h1:=hJp (bO g p u:Int) (iH.2 ⟨by omega,by have:=(sI hpk hu).1;omega⟩) (bO g p w:Int) (iH.2 ⟨by omega,by have:=(sI hpk hw).1;omega⟩);have h1:J (φ (bO g p u:Int)) (φ (bO g p w:Int)):=h1;rwa[hφ u hu,hφ w hw] at h1
   have hvp:∀ w∈p.v,J (bO g k v:Int) (bO g k w:Int):=fun w hw=>by
    obtain⟨f,hf,e⟩:=hex (List.ne_nil_of_mem hw);have h1:=hj xf ((hm2 xf).2 (Or.inr rfl)) f ((hm2 f).2 (Or.inl hf)) (by rw[c1,c2 f hf,e]);rw[hpiece xf ((hm2 xf).2 (Or.inr rfl)),hpiece f ((hm2 f).2 (Or.inl hf))] at h1;have hcx:xf.aY g=v:=by rw[hxf];show -1 - (-1 - v)=v;omega
    rw[hcx] at h1;exact hJ.trans h1 (hpp _ (hcor f hf) w hw)
   intro u hu w hw;rcases (hkV u).1 hu with q | q <;> rcases (hkV w).1 hw with r | r
   ·exact hpp u q w r
   ·rw[r];exact hJ.symm (hvp u q)
   ·rw[q];exact hvp w r
   rw[q,r];exact hJ.refl _
  intro a ha b hb;obtain⟨a0,a1⟩:=iH.1 ha;obtain⟨b0,b1⟩:=iH.1 hb;have ix:∀ i:Nat,i<(roots g k).length→(roots g k).getD i 0∈k.v∧bO g k ((roots g k).getD i 0)=i:=fun i hi=>by
   have hr:(roots g k).getD i 0∈roots g k:=by simp[List.getD,hi]
   have hmr:=dA.1 hr;exact⟨hmr.1,gJ hkk hi (bZ.2 ⟨hmr.1,.here⟩)⟩
  obtain⟨i1,i2⟩:=ix a.toNat (by omega);obtain⟨j1,j2⟩:=ix b.toNat (by omega);have:=hvert _ i1 _ j1;rw[i2,j2] at this;rwa[show ((a.toNat:Nat):Int)=a by omega,show ((b.toNat:Nat):Int)=b by omega] at this
 unfold fE at hn hS;by_cases hpv:p.v=[]
 ·rw[if_pos hpv] at hn hS
  have hn0:n=0:=by simpa using hn
  subst hn0;have hw:aH g p T=[]:=by
   rcases hq:aH g p T with _ | ⟨f,l⟩
   ·rfl
   have:=dG hpk (bS hpe hto).eF f (by rw[hq];simp);rw[hpv] at this;simp at this
  have hr0:roots g p=[]:=by unfold roots;rw[hpv];rfl
  refine key 0 [0] (by simp) (by rw[hw];simp) (by simp) (fun h hh=>Or.inl (List.mem_singleton.1 hh)) (by rw[hWl,hrl,hw,hr0];rfl) (fun q=>absurd hpv q) ?_;obtain⟨c,hc⟩:∃ c,(fun f:aO=>if f.1=xf.1 then (0:Int) else c0 f)=c:=⟨_,rfl⟩;have c1:c xf=0:=by rw[←hc];exact if_pos rfl
  rw[hc];refine aB9 (c:=c) (xf:=xf) (W:=[]) (H:=[0]) (n:=0) hkK (fun f=>by rw[hm,hxf,hw]) (by simp) (by simp) (by simp) (fun f hf=>?_) (by simp) c1.symm ?_ hO
  ·rcases (hm f).1 hf with q | q
   ·rw[hw] at q;cases q
   rw[q,←hxf,c1];simp
  rw[←hx1];exact hS
 rw[if_neg hpv] at hn hS;have hcount:=xQ hz hpv;rw[eH,List.length_map] at hcount;rw[eH,List.length_map] at hn;refine key H[n] H hH cH (List.getElem_mem hn) (fun h hh=>Or.inr (sH h hh)) (by rw[hWl,hrl];omega) (fun _=>sH _ (List.getElem_mem hn)) ?_;obtain⟨c,hc⟩:∃ c,(fun f:aO=>if f.1=xf.1 then H[n] else c0 f)=c:=⟨_,rfl⟩;have c1:c xf=H[n]:=by rw[←hc];exact if_pos rfl
 have c2:∀ f∈aH g p T,c f=c0 f:=fun f hf=>by rw[←hc];exact if_neg (by rw[←hx1];exact hx f hf)
 rw[hc];have hka:H.map (aT c (aH g p T))=H.map (aT c0 (aH g p T)):=List.map_congr_left fun h _=>by
  have e:(aH g p T).filter (fun f=>decide (c f=h))=(aH g p T).filter (fun f=>decide (c0 f=h)):=List.filter_congr fun f hf=>by rw[c2 f hf]
  unfold aT;rw[e]
 refine aB9 (c:=c) (xf:=xf) (W:=aH g p T) (H:=H) (n:=n) hkK (fun f=>by rw[hm,hxf]) (fun f hf=>by rw[←hx1];exact hx f hf) hkW hH (fun f hf=>?_) hn c1.symm ?_ hO
 ·rcases (hm f).1 hf with q | q
  ·rw[c2 f q];exact cH f q
  rw[q,←hxf,c1];exact List.getElem_mem hn
 rw[←hx1,hka,←eH];exact hS
end Go.Proofs.YtkacjmoamgjfpaaGreat.aA
