/- block.span: contract. Conditions: a right graph that lies in memory and reads so; numbers of its edges. -/
import Derived.Test.YtmhcmnaecpagiaaGreatZFind
import Derived.Shelf.SlIterI.Sorted
import Derived.Ground.GgzProg
namespace Go.Proofs.YtmhcmnaecpagiaaGreat
open Go.RowKit Go.Maps
namespace Plain
def endsL (g:Gr) (edges:List Int):List Int:=edges.flatMap fun e=>[(g.at e).1,(g.at e).2]
theorem endsL_snoc {g:Gr} {l:List Int} {k:Nat} (hk:k<l.length):endsL g (l.take (k+1))=endsL g (l.take k)++[(g.at (l.getD k 0)).1,(g.at (l.getD k 0)).2]:=by
 unfold endsL;rw[List.take_succ_eq_append_getElem hk,List.flatMap_append];simp[List.getD,hk]
theorem endsL_len (g:Gr):∀ l:List Int,(endsL g l).length=2*l.length
 | []=>rfl
 | e :: l=>by
  have ih:=endsL_len g l;unfold endsL at ih ⊢;rw[List.flatMap_cons,List.length_append,ih];simp only[List.length_cons,List.length_nil];omega
def bspan (g:Gr) (edges:List Int):Pt:=⟨tidy (endsL g edges),edges⟩
end Plain
set_option maxRecDepth 100000 in
set_option maxHeartbeats 4000000 in
theorem bspan_any (vg vl:Value) (g:Plain.Gr) (edges:List Int) (w:World) (hge:g.err=0) (hl:edges.length≤1024) (hes:∀ e∈edges,0≤e∧e<g.e.length) (hg:GrAt w vg g) (he:IntsAt w vl edges) :
  Calls Tryz.prog 69 #[vg,vl] w fun e w'=>∃ v1 v2,e=.returned (.agg #[v1,v2])∧RowAt w' w.heap.size v1 (Plain.bspan g edges).v∧RowAt w' w.heap.size v2 edges∧(∀ j∈foot v1,j ∉ foot v2)∧Chg [] w w':=by
 have HES:=lh hes;have HG:=lh hg;have HE:=lh he;have HGE:=lh (Plain.Gr.err_ok hge);obtain⟨eo,cap,rfl,-,hm,hsm,hcell⟩:=hg;have HCE:=lh hcell;have HSM:=lh hsm;obtain⟨lo,lc,rfl,hI,-,-⟩:=he;clear hes hcell hI hge hsm;have HXC:=lh (show Chg [] w ((w.alloc (.cells #[.int .i64 g.n,.slice eo g.e.length cap] 24)).alloc (.cells #[.slice none 0 0,.slice none 0 0] 27)) from (show Chg [] w ((w.alloc (.cells #[.int .i64 g.n,.slice eo g.e.length cap] 24)).alloc (.cells #[.slice none 0 0,.slice none 0 0] 27)) from (((Chg.refl [] w).alloc _).alloc _)));have qbx0:=heap_alloc_new w (.cells #[.int .i64 g.n,.slice eo g.e.length cap] 24);replace qbx0:=(show Chg [] (w.alloc (.cells #[.int .i64 g.n,.slice eo g.e.length cap] 24)) ((w.alloc (.cells #[.int .i64 g.n,.slice eo g.e.length cap] 24)).alloc (.cells #[.slice none 0 0,.slice none 0 0] 27)) from ((Chg.refl [] (w.alloc (.cells #[.int .i64 g.n,.slice eo g.e.length cap] 24))).alloc _)).heap qbx0 (by simp);have qbx1:=heap_alloc_new (w.alloc (.cells #[.int .i64 g.n,.slice eo g.e.length cap] 24)) (.cells #[.slice none 0 0,.slice none 0 0] 27);rw[show (w.alloc (.cells #[.int .i64 g.n,.slice eo g.e.length cap] 24)).heap.size=w.heap.size+1 by simp] at qbx1;have HX:=lh (fun (w2:World) (hbx:Chg [] ((w.alloc (.cells #[.int .i64 g.n,.slice eo g.e.length cap] 24)).alloc (.cells #[.slice none 0 0,.slice none 0 0] 27)) w2)=>(⟨hbx.c ((cell_of_row _ _ 0 _ _ _ qbx0).trans rfl),hbx.c ((cell_of_row _ _ 1 _ _ _ qbx0).trans rfl),hbx.heap qbx1 (by simp),by have hz:=hbx.size;simpa using hz⟩:w2.cell? ⟨w.heap.size,0,none⟩=some (.int .i64 g.n)∧w2.cell? ⟨w.heap.size,1,none⟩=some (.slice eo g.e.length cap)∧w2.heap[w.heap.size+1]?=some (.cells #[.slice none 0 0,.slice none 0 0] 27 (0,0))∧w.heap.size+2≤w2.heap.size));clear qbx0 qbx1;have HXZ:=lh (show ((w.alloc (.cells #[.int .i64 g.n,.slice eo g.e.length cap] 24)).alloc (.cells #[.slice none 0 0,.slice none 0 0] 27)).heap.size=w.heap.size+2 by simp)
 go_enter Tryz.func69,Tryz.ntmps69
 go_wp2_with fail
 generalize ((w.alloc (.cells #[.int .i64 g.n,.slice eo g.e.length cap] 24)).alloc (.cells #[.slice none 0 0,.slice none 0 0] 27))=w1 at *;refine (clone_any _ edges _ (by omega) (HE.out.fresh HXC.out)).mono ?_;rintro e w3 ⟨v2,rfl,hr2,hc3⟩;obtain⟨o2,c2,rfl⟩:=hr2.shape;have HR2:=lh hr2;have HC3:=lh hc3;clear hr2 hc3;have HOB:=lh (heap_alloc_new w3 (.cells #[.slice none 0 0,.slice o2 edges.length c2] 27));have HC4:=lh ((Chg.refl [] w3).alloc (.cells #[.slice none 0 0,.slice o2 edges.length c2] 27));have HLEN:=lh (Plain.endsL_len g)
 go_wp2_with fail
 go_loopw [7,13] (fun _ iv wr=>∃ k:Nat,k≤edges.length∧iv=.int .i64 k∧∃ uo uc,wr.heap[w3.heap.size]?=some (.cells #[.slice uo (2*k) uc,.slice o2 edges.length c2] 27 (0,0))∧RowAt wr w3.heap.size (.slice uo (2*k) uc) (Plain.endsL g (edges.take k))∧Chg [] w3 wr) (fun _ iv _=>edges.length - (intOf iv).toNat)
 case atStart=>exact⟨0,Nat.zero_le _,rfl,none,0,HOB.out,rowNil' _ _,HC4.out⟩
 case round =>
  obtain⟨k,hk,rfl,uo,uc,ho,hr,hc⟩:=hrel;have HO:=lh ho;have HR:=lh hr;have HC:=lh hc;have HW:=lh (HXC.out.t (HC3.out.t hc));obtain⟨x0,x1,r8,-⟩:=HX.out wr (HC3.out.t hc);have HR8:=lh r8;have o0:=(cell_of_row _ _ 0 _ _ _ ho).trans (show _=some (Value.slice uo (2*k) uc) from rfl);have o1:=(cell_of_row _ _ 1 _ _ _ ho).trans (show _=some (Value.slice o2 edges.length c2) from rfl);have f0:=free_at ho 0;have f1:=free_at ho 1;clear ho hr hc r8;by_cases hlt:k<edges.length
  ·obtain⟨rb,roff,rfl,rc⟩:=IntsAt.cellAt HE.out hlt
   have rcell:=HW.out.c rc;have her:=HES.out _ (Plain.getD_mem hlt);have HEL:=lh (Plain.endsL_snoc (g:=g) hlt);obtain⟨ei,hei⟩:∃ ei:Nat,edges.getD k 0=(ei:Int):=⟨(edges.getD k 0).toNat,by omega⟩;rw[hei] at rcell her HEL;have hel:ei<g.e.length:=by omega
   obtain⟨eb,eoff,rfl,hc0,hc1⟩:=HCE.out ei hel;obtain⟨hi1,hi2⟩:=HSM.out ei hel;have c0:=HW.out.c hc0;have c1:=HW.out.c hc1;have hat:g.at (ei:Int)=g.ends ei:=by unfold Plain.Gr.at;rw[Int.toNat_natCast]
   rw[hat] at HEL;obtain⟨x,hx⟩:∃ x,(g.ends ei).1=x:=⟨_,rfl⟩;obtain⟨y,hy⟩:∃ y,(g.ends ei).2=y:=⟨_,rfl⟩;rw[hx] at c0 hi1 HEL;rw[hy] at c1 hi2 HEL;have hnf:w3.heap.size ∉ foot (.slice uo (2*k) uc):=fun q=>by
    obtain⟨cs,r,hh⟩:=row_kind HR.out _ q;rw[HO.out] at hh;simp at hh
   have hlow:∀ j∈foot (.slice uo (2*k) uc),w3.heap.size≤j:=fun j hj=>(HR.out.low j (by rw[←HR.out.foot];exact hj)).1;have HLOW:=lh hlow;have hSB:Chg (foot (.slice uo (2*k) uc)) wr wr.drew:=(Chg.refl _ wr).drew;have hx1n:w.heap.size ∉ foot (.slice uo (2*k) uc):=fun q=>by have:=hlow _ q;have:=HC3.out.size;have:=HXZ.out;omega
   have hebn:eb ∉ foot (.slice uo (2*k) uc):=fun q=>by have:=hlow _ q;have:=HC3.out.size;have:=HXZ.out;have:=World.block_lt_of_cell? w _ hc0;simp at this;omega
   have hrbn:rb ∉ foot (.slice uo (2*k) uc):=fun q=>by have:=hlow _ q;have:=HC3.out.size;have:=HXZ.out;have:=World.block_lt_of_cell? w _ rc;simp at this;omega
   have hkl:k<1024:=by omega
   have eik:ei<1024:=by have:=HGE.out.2.2.1;have:=HGE.out.1;omega
   clear rc her hei hc0 hc1 hat hx hy hlow
   go_wp2_with fail
   refine wp_region_way (Chg (foot (.slice uo (2*k) uc)) wr) [0,1,2,3,4,5,6,7,8,9,10,11,12,13] (Way.line [0,1,2,3,4,5,6,7,8,9,10,11,12,13,14,15,16,17] .done) (by kernel_rfl) (by kernel_rfl) ?_;simp only[Way.line]
   repeat
    first
     | (refine along_off rfl (by rfl) (by rfl) (fun _ _ _ h=>h) hSB ?_;simp only[Act.put,Z1,Z2,Z3,Z4,Z5,Z6])
     | (refine along_read (v:=?_) rfl (by rfl) (by rfl) (fun _ _ _ h=>h) hSB (fun w' hS'=>?_) ?_;rotate_left;(focus (have rd0:=hS'.cell o0 (by first | exact hnf | exact hx1n | exact hebn);have rd1:=hS'.cell x1 (by first | exact hnf | exact hx1n | exact hebn);have rd2:=hS'.cell c0 (by first | exact hnf | exact hx1n | exact hebn);have rd3:=hS'.cell c1 (by first | exact hnf | exact hx1n | exact hebn);clear hS';go_simp;try with_reducible rfl));simp only[Act.put,Z1,Z2,Z3,Z4,Z5,Z6])
     | (refine along_skip rfl (by rfl) (by rfl) hSB ?_;simp only[Act.put,Z1,Z2,Z3,Z4,Z5,Z6])
   refine along_op rfl (by rfl) (by rfl) (fun K hK=>?_);go_simp;have HLI:=lh ((lit_two wr hi1 hi2).fresh (Chg.refl [] _).drew);refine hK.out _ _ (fun _=>hSB.alloc _) ?_;clear hK K
   try simp only[Act.put,Z1,Z2,Z3,Z4,Z5,Z6]
   refine along_op rfl (by rfl) (by rfl) (fun K hK=>?_);simp only[List.getElem_toArray,List.getElem_cons_zero,List.getElem_cons_succ];have ca:Chg [] wr (wr.alloc (.cells #[.int .i64 x,.int .i64 y] 3)).drew:=((Chg.refl [] wr).alloc _).drew;have hel2:(Plain.endsL g (edges.take k)).length=2*k:=by rw[HLEN.out,List.length_take];omega
   refine wp_app_readK _ _ rfl (B:=w3.heap.size) (v:=.slice uo (2*k) uc) rfl rfl (HR.out.chg ca (by simp)) HLI.out (Nat.le_trans HC.out.size ca.size) (by rw[hel2];simp;omega) fun v' w7 r7 c7 f7=>?_;rw[←HEL.out] at r7;have R7:=lh r7;have C7:=lh c7;have CA:=lh ca;have hel3:(Plain.endsL g (edges.take (k+1))).length=2*k+2:=by rw[HLEN.out,List.length_take];omega
   obtain⟨vo,vc,rfl⟩:=r7.shape;rw[hel3] at R7;refine hK.out _ _ (fun _=>(ca.mono (by simp)).trans c7 (fun j hj=>Or.inl hj)) ?_;have o7:=c7.cell (ca.c o0) hnf;have g7:=c7.frozen (ca.c o0) (free_at (ca.heap HO.out (by simp)) 0) hnf;have HO7:=lh (c7.heap (ca.heap HO.out (by simp)) hnf);rw[hel3];clear hK K r7 c7 f7 ca hel2 hel3
   try simp only[Act.put,List.setIfInBounds_toArray,List.set_cons_zero,List.set_cons_succ]
   refine along_op rfl (by rfl) (by rfl) (fun K hK=>?_);go_simp;refine hK.out _ _ (fun h=>absurd h (Bool.eq_false_iff.1 (by kernel_rfl))) ?_;clear hK K
   try simp only[Act.put,Z1,Z2,Z3,Z4,Z5,Z6]
   refine along_op rfl (by rfl) (by rfl) (fun K hK=>?_);go_simp;refine hK.out _ _ (fun h=>absurd h (Bool.eq_false_iff.1 (by kernel_rfl))) ?_;clear hK K
   try simp only[Act.put,Z1,Z2,Z3,Z4,Z5,Z6]
   refine along_done ?_;have hset:Chg [w3.heap.size] w7 (w7.setCell ⟨w3.heap.size,0,none⟩ (.slice vo (2*k+2) vc)):=(Chg.refl _ w7).setCell (Or.inl (by simp)) _;have HO8:=lh (heap_setCell_same HO7.out 0 (.slice vo (2*k+2) vc));have HR8b:=lh (R7.out.chg hset (fun b hb q=>by
    obtain⟨cs,r,hh⟩:=row_kind R7.out b (by rw[R7.out.foot];exact hb);rw[List.mem_singleton] at q;rw[q,HO7.out] at hh;simp at hh))
   have HC8:=lh (show Chg [] w3 (w7.setCell ⟨w3.heap.size,0,none⟩ (.slice vo (2*k+2) vc)) from ((HC.out.t CA.out).trans C7.out (fun j hj=>Or.inr (HLOW.out j hj))).trans hset (fun j hj=>Or.inr (by rw[List.mem_singleton] at hj;omega)));clear hset o7 g7 o0 o1 f0 f1 x0 x1 c0 c1 rcell;generalize (w7.setCell ⟨w3.heap.size,0,none⟩ (.slice vo (2*k+2) vc))=w8 at *;go_wp2
   go_roundw
   case rel=>exact⟨k+1,by omega,by go_num,vo,vc,HO8.out,HR8b.out,HC8.out⟩
   case measure=>simp[intOf];omega
  have e:k=edges.length:=by omega
  subst e;have hel2:(Plain.endsL g edges).length=2*edges.length:=HLEN.out edges;have HR9:=lh (show RowAt wr w3.heap.size (.slice uo (Plain.endsL g edges).length uc) (Plain.endsL g edges) by rw[hel2];have:=HR.out;rwa[List.take_length] at this);have HO9:=lh (show wr.heap[w3.heap.size]?=some (.cells #[.slice uo (Plain.endsL g edges).length uc,.slice o2 edges.length c2] 27 (0,0)) by rw[hel2];exact HO.out);rw[←hel2] at o0;have HEL2:=lh hel2;have HML:=lh (show (Plain.endsL g edges).length<1000000000 by rw[hel2];omega);clear HR HO hk hlt hel2 x0 x1;obtain⟨M,hM⟩:∃ M,Plain.endsL g edges=M:=⟨_,rfl⟩;rw[hM] at HR9 HO9 o0 HEL2 HML;have HM:=lh hM;have hnf:∀ (wx:World) (v:Value) (q:List Int),RowAt wx w3.heap.size v q→(∃ cs,wx.heap[w3.heap.size]?=some (.cells cs 27 (0,0)))→w3.heap.size ∉ v.ownBlock.toList:=fun _ _ _ h ⟨cs0,h0⟩ q=>by
   obtain⟨cs,r,hh⟩:=row_kind h _ (by rw[h.foot];exact q);rw[h0] at hh;simp at hh
  have HNF:=lh hnf;clear hM hnf
  go_wp2_with fail
  refine (sortI_any _ M _ _ HML.out HR9.out).mono ?_;rintro e w5 ⟨rfl,hr5,hc5⟩;have hn5:=HNF.out _ _ _ HR9.out ⟨_,HO9.out⟩;have o05:=hc5.cell o0 hn5;have HO5:=lh (hc5.heap HO9.out hn5);have hsl:(M.mergeSort fun x y=>decide (x≤y)).length=M.length:=(List.mergeSort_perm _ _).length_eq;have HTY:=lh (show Go.Lib.compact (M.mergeSort fun x y=>decide (x≤y))=Plain.tidy M from rfl);have HC5:=lh (show Chg [] w3 w5 from HC.out.trans hc5 (fun b hb=>Or.inr (HR9.out.low b hb).1));obtain⟨S,hS⟩:∃ S,(M.mergeSort fun x y=>decide (x≤y))=S:=⟨_,rfl⟩;rw[hS] at hsl hr5 HTY;have HR5:=lh hr5;have HSL:=lh hsl;clear hr5 hc5 hn5 hsl hS o0 o1 f0 f1
  go_wp2_with fail
  refine (compactI_any _ S _ _ (by rw[HSL.out];exact HML.out) HR5.out).mono ?_;rintro e w6 ⟨v6,rfl,hr6,hc6⟩;rw[HTY.out] at hr6;have hn6:=HNF.out _ _ _ HR5.out ⟨_,HO5.out⟩;have ho6:=hc6.heap HO5.out hn6;have p06:=hc6.cell o05 hn6;have g06:=free_at ho6 0;have HO6:=lh ho6;have HC6:=lh (show Chg [] w3 w6 from HC5.out.trans hc6 (fun b hb=>Or.inr (HR5.out.low b hb).1));have HR6:=lh hr6;obtain⟨o6,c6,rfl⟩:=hr6.shape;have hnv:=HNF.out _ _ _ hr6 ⟨_,ho6⟩;have hset:Chg [w3.heap.size] w6 (w6.setCell ⟨w3.heap.size,0,none⟩ (.slice o6 (Plain.tidy M).length c6)):=(Chg.refl _ w6).setCell (Or.inl (by simp)) _;have ho7:=heap_setCell_same ho6 0 (.slice o6 (Plain.tidy M).length c6);have HR7:=lh (hr6.chg hset (fun b hb q=>hnv (by rw[List.mem_singleton] at q;rw[←q];exact hb)));have HC7:=lh (show Chg [] w3 (w6.setCell ⟨w3.heap.size,0,none⟩ (.slice o6 (Plain.tidy M).length c6)) from HC6.out.trans hset (fun j hj=>Or.inr (by rw[List.mem_singleton] at hj;omega)));have HO7:=lh ho7;have p16:=(cell_of_row _ _ 1 _ _ _ ho6).trans (show _=some (Value.slice o2 edges.length c2) from rfl);obtain⟨-,-,r86,-⟩:=HX.out w6 (HC3.out.t HC6.out);have y06:=(cell_of_row _ _ 0 _ _ _ r86).trans (show _=some (Value.slice none 0 0) from rfl);have y16:=(cell_of_row _ _ 1 _ _ _ r86).trans (show _=some (Value.slice none 0 0) from rfl);have g16:=free_at r86 0;have g26:=free_at r86 1;have hne1:¬ w3.heap.size=w.heap.size+1:=fun q=>by have:=HC3.out.size;have:=HXZ.out;omega
  have hne2:¬ w.heap.size+1=w3.heap.size:=fun q=>hne1 q.symm;clear hr6 hc6 ho6 hnv hset ho7 hn6 o05;obtain⟨-,-,r87,-⟩:=HX.out (w6.setCell ⟨w3.heap.size,0,none⟩ (.slice o6 (Plain.tidy M).length c6)) (HC3.out.t HC7.out);have hs0:Chg [w.heap.size+1] (w6.setCell ⟨w3.heap.size,0,none⟩ (.slice o6 (Plain.tidy M).length c6)) (((w6.setCell ⟨w3.heap.size,0,none⟩ (.slice o6 (Plain.tidy M).length c6)).setCell ⟨w.heap.size+1,0,none⟩ (.slice o6 (Plain.tidy M).length c6)).setCell ⟨w.heap.size+1,1,none⟩ (.slice o2 edges.length c2)):=((Chg.refl _ (w6.setCell ⟨w3.heap.size,0,none⟩ (.slice o6 (Plain.tidy M).length c6))).setCell (Or.inl (by simp)) _).setCell (Or.inl (by simp)) _;have hheap:=heap_setCell_same (heap_setCell_same r87 0 (.slice o6 (Plain.tidy M).length c6)) 1 (.slice o2 edges.length c2);have q0:=(cell_of_row _ _ 0 _ _ _ hheap).trans (show _=some (Value.slice o6 (Plain.tidy M).length c6) from rfl);have q1:=(cell_of_row _ _ 1 _ _ _ hheap).trans (show _=some (Value.slice o2 edges.length c2) from rfl);have HQ0:=lh q0;have HQ1:=lh q1;have hkind:∀ {v:Value} {q:List Int} {B:Nat},RowAt (w6.setCell ⟨w3.heap.size,0,none⟩ (.slice o6 (Plain.tidy M).length c6)) B v q→∀ b∈v.ownBlock.toList,b ∉ [w.heap.size+1]:=fun h b hb e=>by
   obtain⟨cs,r,hh⟩:=row_kind h b (by rw[h.foot];exact hb);rw[List.mem_singleton] at e;rw[e,r87] at hh;simp at hh
  have hsz3:w.heap.size+2≤w3.heap.size:=by have:=HC3.out.size;have:=HXZ.out;omega
  have HRA:=lh ((HR7.out.chg hs0 (hkind HR7.out)).base (show w.heap.size≤w3.heap.size by omega));have hr2:=HR2.out.chg HC7.out (by simp);have HRB:=lh ((hr2.chg hs0 (hkind hr2)).base (show w.heap.size≤w1.heap.size by have:=HXZ.out;omega));have HAP:=lh (show ∀ j∈foot (.slice o6 (Plain.tidy M).length c6),j ∉ foot (.slice o2 edges.length c2) from fun j hj q=>by
   have h1:=(HR7.out.low j (by rw[←HR7.out.foot];exact hj)).1;have h2:=(HR2.out.low j (by rw[←HR2.out.foot];exact q)).2;omega)
  have HCF:=lh (show Chg [] w _ from (HXC.out.t (HC3.out.t HC7.out)).trans hs0 (fun j hj=>Or.inr (by rw[List.mem_singleton] at hj;omega)));have HMT:=lh (show (Plain.bspan g edges).v=Plain.tidy M by show Plain.tidy (Plain.endsL g edges)=_;rw[HM.out]);clear q0 q1 hs0 hheap hkind hr2 hsz3 r87;go_wp2;refine bodyPost_ret (v:=.agg #[.slice o6 (Plain.tidy M).length c6,.slice o2 edges.length c2]) (by have h0:=HQ0.out;have h1:=HQ1.out;simp[results,Tryz.results69,go_sem,h0,h1]) rfl ?_;rw[HMT.out];exact⟨_,_,rfl,HRA.out,HRB.out,HAP.out,HCF.out⟩
end Go.Proofs.YtmhcmnaecpagiaaGreat
namespace Go.Proofs
open Go.Shelf
def Tryz.keysM_ren:Go.Shelf.Ren:=⟨fun | 7=>68 | 10=>130 | n=>n,fun | 23=>96 | 26=>3 | 3=>25 | 28=>103 | 0=>0 | 27=>102 | 33=>124 | 4=>4 | n=>n,fun | n=>n⟩
theorem Tryz.keysM:Go.Proofs.SlLaysZI.n7 Tryz.prog Tryz.keysM_ren:={
 mixed:=by kernel_rfl
 f7:=⟨Tryz.f68.name,by decide,Tryz.func68.trans (congrArg some (by kernel_rfl))⟩
 f10:=⟨Tryz.f130.name,by decide,Tryz.func130.trans (congrArg some (by kernel_rfl))⟩
 t0:=Tryz.underlying0
 a0:=Tryz.isAgg0
 z0:=Tryz.sizeOf0
 v0:=Tryz.zeroValue0
 t4:=Tryz.underlying4
 a4:=Tryz.isAgg4
 z4:=Tryz.sizeOf4
 v4:=Tryz.zeroValue4
 t23:=Tryz.underlying96
 a23:=Tryz.isAgg96
 z23:=Tryz.sizeOf96
 v23:=Tryz.zeroValue96
 t26:=Tryz.underlying3
 a26:=Tryz.isAgg3
 z26:=Tryz.sizeOf3
 v26:=Tryz.zeroValue3
 t27:=Tryz.underlying102
 a27:=Tryz.isAgg102
 z27:=Tryz.sizeOf102
 v27:=Tryz.zeroValue102
 t28:=Tryz.underlying103
 a28:=Tryz.isAgg103
 z28:=Tryz.sizeOf103
 v28:=Tryz.zeroValue103
 t33:=Tryz.underlying124
 a33:=Tryz.isAgg124
 z33:=Tryz.sizeOf124
 v33:=Tryz.zeroValue124 }
def Tryz.sortedM_ren:Go.Shelf.Ren:=⟨fun | 6=>67 | 8=>128 | 9=>129 | 11=>167 | 13=>149 | 12=>168 | 23=>184 | 24=>185 | 14=>188 | 15=>189 | 16=>190 | 17=>191 | 18=>192 | 19=>193 | 20=>169 | 21=>194 | 22=>195 | 25=>204 | 26=>198 | 27=>199 | 28=>205 | 29=>206 | 30=>150 | 31=>208 | n=>n,fun | 26=>3 | 28=>103 | 24=>25 | 0=>0 | 3=>3 | 37=>180 | 48=>202 | 50=>204 | 4=>4 | 40=>196 | 39=>195 | 45=>76 | 5=>5 | 9=>9 | 51=>212 | 55=>216 | 57=>220 | 58=>221 | 33=>124 | n=>n,fun | n=>n⟩
theorem Tryz.sortedM:Go.Proofs.SlLaysZI.n6 Tryz.prog Tryz.sortedM_ren:={
 mixed:=by kernel_rfl
 f6:=⟨Tryz.f67.name,by decide,Tryz.func67.trans (congrArg some (by kernel_rfl))⟩
 f8:=⟨Tryz.f128.name,by decide,Tryz.func128.trans (congrArg some (by kernel_rfl))⟩
 f11:=⟨Tryz.f167.name,by decide,Tryz.func167.trans (congrArg some (by kernel_rfl))⟩
 t0:=Tryz.underlying0
 a0:=Tryz.isAgg0
 z0:=Tryz.sizeOf0
 v0:=Tryz.zeroValue0
 t24:=Tryz.underlying25
 a24:=Tryz.isAgg25
 z24:=Tryz.sizeOf25
 v24:=Tryz.zeroValue25
 t26:=Tryz.underlying3
 a26:=Tryz.isAgg3
 z26:=Tryz.sizeOf3
 v26:=Tryz.zeroValue3
 t28:=Tryz.underlying103
 a28:=Tryz.isAgg103
 z28:=Tryz.sizeOf103
 v28:=Tryz.zeroValue103
 i26:=by kernel_rfl }
end Go.Proofs
namespace Go.Proofs.YtmhcmnaecpagiaaGreat
open Go.RowKit Go.Maps Go.Sort
theorem sorts_in (m:Nat):AnyZI.SortsIn Tryz.prog Tryz.sortedM_ren Fence.wide m :=
 ⟨fun blk off cap ss W hH hblk hsz=>callsIn_wide.2 (Tryz.slices_Sort_int blk off cap ss W hH hblk hsz),
  fun p cap W=>callsIn_wide.2 (Tryz.slices_Sort_int_none p cap W)⟩
theorem keys_any (b:Nat) (w:World):Calls Tryz.prog 68 #[.map (some b)] w fun e w' =>
  e=.returned (.func (.func 130) #[] #[.pointer (some ⟨w.heap.size,0,none⟩)])∧w'=w.alloc (.cells #[.map (some b)] 96) :=
 (callsIn_wide (n:=5)).1 (AnyZI.keys_in Tryz.keysM Fence.wide 5 trivial rfl (some b) w)
theorem VMap.keys {w:World} {b n:Nat} {F:Int→Option Value} (h:VMap w b n F):∃ D:DataW Unit,w.ownsMap Tryz.prog 3 litRow b n D∧Maps.size D≤n∧(intKeys D).Nodup∧∀ x,x∈intKeys D↔I64 x∧(F x).isSome=true:=by
 obtain⟨D,hown,hD⟩:=h;obtain⟨es,rfl,hpw,_⟩:=hown.entries keyedInt;obtain⟨es',e,hko⟩:=hown.keysOf;obtain rfl:es=es':=by simpa using e
 have hk:∀ p∈es,∃ x,p.1=.int .i64 x∧I64 x:=fun p hp=>by
  obtain⟨v,hv⟩:=hko p hp;obtain⟨x,_,hx,hw⟩:=Maps.keyOf_i64 Tryz.underlying3 hv;exact⟨x,hx,hw⟩
 refine⟨_,hown,hown.size_le,?_,fun x=>?_⟩
 ·show (es.map fun p=>Go.intOf p.1).Nodup
  refine List.pairwise_map.2 (hpw.imp_of_mem fun {p q} hp' hq' hne e=>hne ?_);obtain⟨a,ha,-⟩:=hk p hp';obtain⟨c,hc,-⟩:=hk q hq';rw[ha,hc] at e ⊢;exact congrArg _ e
 show x∈es.map (fun p=>Go.intOf p.1)↔_;rw[List.mem_map];constructor
 ·rintro ⟨p,hp,rfl⟩
  obtain⟨a,ha,hi⟩:=hk p hp;rw[ha];show I64 a∧(F a).isSome=true;refine⟨hi,?_⟩;rw[←(hD a hi).1,has_eq,List.any_eq_true];exact⟨p,hp,by rw[ha];simp[Lit.sameKey]⟩
 rintro ⟨hi,hs⟩;rw[←(hD x hi).1,has_eq,List.any_eq_true] at hs;obtain⟨p,hp,hs⟩:=hs;obtain⟨a,ha,-⟩:=hk p hp;rw[ha] at hs;refine⟨p,hp,?_⟩;rw[ha];simpa[Lit.sameKey,Go.intOf] using hs
theorem sorted_any (b n:Nat) (F:Int→Option Value) (ks:List Int) (w:World) (h:VMap w b n F) (hn:n≤1000000) (hks:ks.Nodup) (hm:∀ x,x∈ks↔I64 x∧(F x).isSome=true) :
  Calls Tryz.prog 67 #[.func (.func 130) #[] #[.pointer (some ⟨w.heap.size,0,none⟩)]] (w.alloc (.cells #[.map (some b)] 96)) fun e w' =>
   ∃ v,e=.returned v∧RowAt w' w.heap.size v (ks.mergeSort fun x y=>decide (x≤y))∧Chg [] w w':=by
 obtain⟨D,hown,hsz,hnd,hmem⟩:=h.keys;have hbl:=hown.lt;have hseq:SeqGives Fence.wide 2 Tryz.prog 130 #[.pointer (some ⟨w.heap.size,0,none⟩)] encZ (fun ss=>ss.Perm (intKeys D)) (Maps.size D) (w.alloc (.cells #[.map (some b)] 96)) :=
  AnyZI.keys_gives (ρ:=Tryz.keysM_ren) { Tryz.keysM with } Fence.wide _ trivial rfl (by omega) w.heap.size b n D _ (by simp) (by simp) (by
   obtain⟨es,clock,hb,Ft,hs,hD⟩:=hown;exact⟨es,clock,(Below.heap_alloc _ _ b hbl).trans hb,Ft,hs,hD⟩)
 have cS:=AnyZI.sorted_in Tryz.sortedM Fence.wide 5 trivial trivial trivial trivial rfl (by omega) (sorts_in _) (enters_of Tryz.func129 (by kernel_rfl) rfl) 130 #[.pointer (some ⟨w.heap.size,0,none⟩)] trivial (enters_of Tryz.func130 (by kernel_rfl) rfl) _ _ (show Maps.size D≤maxLen by unfold maxLen;omega) (by omega) _ hseq;refine ((callsIn_wide (n:=5)).1 cS).mono ?_;rintro e w' ⟨v,ss,rfl,hS,hrow,-,hb⟩;have hperm:ss.Perm ks:=hS.trans ((List.perm_ext_iff_of_nodup hnd hks).2 fun x=>by rw[hmem,hm]);have hsort:(ss.mergeSort fun x y=>decide (x≤y))=ks.mergeSort fun x y=>decide (x≤y):=mergeSort_of_perm_i hperm;have hlen:ss.length=(ks.mergeSort fun x y=>decide (x≤y)).length:=by rw[hperm.length_eq,(List.mergeSort_perm _ _).length_eq]
 rw[hsort] at hrow;have hc:Chg [] w (w.alloc (.cells #[.map (some b)] 96)):=(Chg.refl _ _).alloc _;refine⟨v,rfl,⟨?_,fun x hx=>?_,?_⟩,hc.t (Chg.of_below hb (Nat.le_refl _))⟩
 ·rw[hlen] at hrow
  exact owns_base hrow hc.size
 ·exact ((hm x).1 ((List.mergeSort_perm _ _).mem_iff.1 hx)).1
 have h1:(intKeys D).length=Maps.size D:=by
  obtain⟨es,rfl,-⟩:=hown.entries keyedInt;show (es.map _).length=es.length;simp
 have:=hS.length_eq;omega
end Go.Proofs.YtmhcmnaecpagiaaGreat
namespace Go.Proofs.YtmhcmnaecpagiaaGreat.Plain
theorem setB_all {P:List Int→Prop} {l:List Int} {bl:List (List Int)} (h:∀ m∈bl,P m) (hl:P l):∀ m∈setB l bl,P m:=fun m hm=>by
 unfold setB at hm;split at hm
 ·obtain⟨k,hk,rfl⟩:=List.mem_map.1 hm
  split
  ·exact hl
  exact h k hk
 rcases List.mem_append.1 hm with q | q
 ·exact h m q
 rw[List.mem_singleton.1 q];exact hl
def Rising (s:Dfs):Prop:=∀ l∈s.bl,l.Pairwise (·≤·)
theorem srt_rise (l:List Int):(srt l).Pairwise (·≤·):=by
 unfold srt;have:=List.pairwise_mergeSort (le:=fun x y:Int=>decide (x≤y)) (fun a b c h1 h2=>by simp only[decide_eq_true_eq] at *;omega) (fun a b=>by simp only[Bool.or_eq_true,decide_eq_true_eq];omega) l;exact this.imp fun h=>of_decide_eq_true h
theorem Rising.take {s:Dfs} (h:Rising s) (e:Int):Rising (s.take e):=setB_all h (srt_rise _)
theorem Rising.lay {s:Dfs} (h:Rising s) (e:Int):Rising (s.lay e):=setB_all h (by simp)
theorem Rising.step {g:Gr} {go:Int→Int→Dfs→Dfs} (hgo:∀ v via s,Rising s→Rising (go v via s)) {v via d:Int} {s:Dfs} (h:Rising s):Rising (stepD go g v via s d):=by
 unfold stepD;split
 ·exact h.lay _
 split
 ·exact h
 split
 ·have h1:Rising (go (g.head d) (d / 2) (s.push (d / 2))):=hgo _ _ _ h
  unfold Dfs.back;split
  ·exact Rising.take (s:=Dfs.lower _ _ _) h1 _
  exact h1
 split
 ·exact h
 exact h
theorem Rising.visit {g:Gr} {p:Pt}:∀ (n:Nat) (v via:Int) (s:Dfs),Rising s→Rising (visit g p n v via s)
 | 0,_,_,_,h=>h
 | n+1,v,via,s,h=>by
  have hf:∀ (D:List Int) (t:Dfs),Rising t→Rising (D.foldl (stepD (Plain.visit g p n) g v via) t):=by
   intro D
   induction D with
   | nil=>intro t ht;exact ht
   | cons d D ih=>intro t ht;exact ih _ (ht.step (Rising.visit n))
  exact hf _ _ h
theorem rising_all (g:Gr) (p:Pt):Rising (findAll g p):=by
 have hf:∀ (l:List Int) (t:Dfs),Rising t→Rising (findR g p p.v.length l t):=by
  intro l
  induction l with
  | nil=>intro t ht;exact ht
  | cons v l ih =>
   intro t ht;unfold findR at ih ⊢;rw[List.foldl_cons];refine ih _ ?_;split
   ·exact Rising.visit _ _ _ _ ht
   exact ht
 exact hf _ _ (by intro l h;cases h)
def headsB (bl:List (List Int)):List Int:=bl.map fun l=>l.getD 0 0
def keysB (g:Gr) (p:Pt):List Int:=(headsB (findAll g p).bl).mergeSort fun x y=>decide (x≤y)
def blAt (bl:List (List Int)) (r:Int):List Int:=(bl.find? fun l=>decide (l.getD 0 0=r)).getD []
theorem heads_nodup:∀ {bl:List (List Int)},bl.flatten.Nodup→(∀ l∈bl,l≠[])→(headsB bl).Nodup
 | [],_,_=>List.nodup_nil
 | l :: bl,h,hn=>by
  rw[List.flatten_cons,List.nodup_append] at h;show ((l.getD 0 0) :: headsB bl).Nodup;rw[List.nodup_cons];refine⟨fun q=>?_,heads_nodup h.2.1 fun m hm=>hn m (List.mem_cons_of_mem _ hm)⟩;obtain⟨m,hm,e⟩:=List.mem_map.1 q;have h1:∀ k:List Int,k≠[]→k.getD 0 0∈k:=fun k hk=>by
   cases k with
   | nil=>exact absurd rfl hk
   | cons x k=>simp
  exact h.2.2 _ (h1 l (hn l (by simp))) _ (List.mem_flatten.2 ⟨m,hm,h1 m (hn m (List.mem_cons_of_mem _ hm))⟩) e.symm
theorem blAt_mem {bl:List (List Int)} {r:Int} (h:r∈headsB bl):blAt bl r∈bl∧(blAt bl r).getD 0 0=r:=by
 obtain⟨l,hl,e⟩:=List.mem_map.1 h;unfold blAt;cases hf:bl.find? fun l=>decide (l.getD 0 0=r) with
 | none =>
  have:=List.find?_eq_none.1 hf l hl;exact absurd (decide_eq_true e) this
 | some m=>exact⟨List.mem_of_find?_eq_some hf,by simpa using List.find?_some hf⟩
theorem keysB_mem {g:Gr} {p:Pt} {r:Int}:r∈keysB g p↔r∈headsB (findAll g p).bl:=(List.mergeSort_perm _ _).mem_iff
theorem keysB_len (g:Gr) (p:Pt):(keysB g p).length=(findAll g p).bl.length:=by
 unfold keysB;rw[(List.mergeSort_perm _ _).length_eq];simp[headsB]
theorem bl_small {g:Gr} {p:Pt} (hp:PartOk g p):(findAll g p).bl.length≤p.e.length∧∀ l∈(findAll g p).bl,l.length≤p.e.length∧∀ e∈l,e∈p.e:=by
 obtain⟨h1,-⟩:=find_ok hp;have h2:=blocks_perm hp;have h3:∀ {bl:List (List Int)},(∀ l∈bl,l≠[])→bl.length≤bl.flatten.length:=by
  intro bl
  induction bl with
  | nil=>intro _;simp
  | cons l bl ih =>
   intro h;have:=ih fun m hm=>h m (List.mem_cons_of_mem _ hm);have:=List.length_pos_iff.2 (h l (by simp));rw[List.flatten_cons,List.length_append,List.length_cons];omega
 refine⟨by have:=h3 h1.good.bln;rw[h2.length_eq] at this;exact this,fun l hl=>⟨?_,fun e he=>h2.mem_iff.1 (List.mem_flatten.2 ⟨l,hl,he⟩)⟩⟩;rw[←h2.length_eq];exact (List.sublist_flatten_of_mem hl).length_le
end Go.Proofs.YtmhcmnaecpagiaaGreat.Plain
namespace Go.Proofs.YtmhcmnaecpagiaaGreat
open Go.RowKit Go.Maps
namespace Plain
def blkV (g:Gr) (p:Pt) (r:Int):List Int:=(bspan g (blAt (findAll g p).bl r)).v
def blkE (g:Gr) (p:Pt) (r:Int):List Int:=blAt (findAll g p).bl r
end Plain
set_option maxRecDepth 100000 in
set_option maxHeartbeats 4000000 in
theorem blocks_any (vg vp:Value) (g:Plain.Gr) (p:Plain.Pt) (w:World) (hpl:p.v.length≤100000) (hg:GrAt w vg g) (hp:PtAt w vp p) :
  Calls Tryz.prog 24 #[vg,vp] w fun e w'=>∃ ov,e=.returned (.tuple #[ov,.int .i64 (p.err g)])∧(p.err g≠0→ov=.slice none 0 0) ∧
   (p.err g=0→∃ xs,Nest w' w.heap.size 27 2 ov (Plain.keysB g p).length xs (pcs (Plain.blkV g p) (Plain.blkE g p) (Plain.keysB g p)))∧Chg [] w w':=by
 have HG:=lh hg;have HP:=lh hp;obtain⟨eo,cap,rfl,hn,hm,hsm,hcell⟩:=hg;obtain⟨v1,v2,rfl,hv,he⟩:=hp;obtain⟨ao,ac,rfl,has,ham,hacell⟩:=hv;obtain⟨bo,bc,rfl,hbs,hbm,hbcell⟩:=he;have HAC:=lh hacell;have HBC:=lh hbcell;have HAS:=lh has;have HBS:=lh hbs;obtain⟨-,-,hc1⟩:=box_two w #[.int .i64 g.n,.slice eo g.e.length cap] #[.slice ao p.v.length ac,.slice bo p.e.length bc] 24 27;have HC1:=lh hc1;have HBXS:=lh (fun w2 h=>two_boxes w (g:=g) (p:=p) (eo:=eo) (ao:=ao) (bo:=bo) (cap:=cap) (ac:=ac) (bc:=bc) (w2:=w2) h);clear hcell hacell hbcell hsm has hbs hn hc1;obtain⟨x0,x1,y0,y1,hsz⟩:=HBXS.out _ (Chg.refl _ _)
 go_enter Tryz.func24,Tryz.ntmps24
 go_wp2_with fail
 obtain⟨w1,hw1⟩:∃ w1,((w.alloc (.cells #[.int .i64 g.n,.slice eo g.e.length cap] 24)).alloc (.cells #[.slice ao p.v.length ac,.slice bo p.e.length bc] 27))=w1:=⟨_,rfl⟩;rw[hw1] at HC1 HBXS ⊢;clear hw1 x0 x1 y0 y1 hsz;refine (rightPart_any _ _ g p _ (by omega) (HG.out.fresh HC1.out) (HP.out.fresh HC1.out)).mono ?_;rintro e w2 ⟨rfl,hc2⟩;have HC2:=lh (HC1.out.t hc2);have HCB:=lh hc2;obtain⟨x0,x1,y0,y1,hsz⟩:=HBXS.out _ hc2;clear hc2;by_cases hr:p.err g=0
 ·have HR:=lh hr
  rw[hr];have HPO:=lh (Plain.Pt.ok_of_err hr);have HGE:=lh (Plain.Pt.err_ok hr).1;obtain⟨hz4,hz5,hz6,-⟩:=Plain.Gr.err_ok (Plain.Pt.err_ok hr).1;have HEL:=lh (show p.e.length≤1024 by have:=rises_len (Plain.Pt.err_ok hr).2.2.1;omega);obtain⟨N,hN⟩:∃ N:Nat,g.n=N:=⟨g.n.toNat,by omega⟩;have HN:=lh hN;clear hz4 hz5 hz6 hr hN
  go_wp2_with fail
  have hf:=bfind_any _ _ g p w2 N HN.out HR.out (HG.out.fresh HC2.out) (HP.out.fresh HC2.out);have HFI:=lh hf;clear hf;refine HFI.out.mono ?_;rintro e w3 ⟨k,ev,m,F,rfl,-,hfin,hmm,hk,hkw,hko,hc3⟩;have HFIN:=lh hfin;have HC3:=lh (HCB.out.t hc3);obtain⟨x0,x1,y0,y1,hsz⟩:=HBXS.out _ HC3.out;obtain⟨-,-,-,-,-,-,-,a7⟩:=hfin.eight;have HTOP:=lh (Plain.find_ok HPO.out).1;have HML:=lh (show m≤100000 by omega);clear hfin hmm hko hk hc3 HFI;have HIX:=lh (show ∀ x,x∈Plain.headsB (Plain.findAll g p).bl↔I64 x∧(F x).isSome=true from fun x=>by
   constructor
   ·intro hx
    obtain⟨l,hl,rfl⟩:=List.mem_map.1 hx;obtain⟨v,h1,h2,-⟩:=HFIN.out.rel.1 l hl;have hne:=HTOP.out.good.bln l hl;have hm:l.getD 0 0∈l:=by
     cases l with
     | nil=>exact absurd rfl hne
     | cons x k=>simp
    exact⟨h2.2.1 _ hm,by rw[h1];rfl⟩
   rintro ⟨-,hs⟩;obtain⟨v,hv⟩:=Option.isSome_iff_exists.1 hs;obtain⟨l,hl,e⟩:=HFIN.out.rel.2 x v hv;exact List.mem_map.2 ⟨l,hl,e⟩)
  go_wp2_with fail
  refine (keys_any k.mp w3).mono ?_;rintro e w4 ⟨rfl,rfl⟩;have hso:=sorted_any k.mp m F (Plain.headsB (Plain.findAll g p).bl) w3 HFIN.out.map (by have:=HML.out;omega) (Plain.heads_nodup HTOP.out.nd HTOP.out.good.bln) HIX.out;have HSO:=lh hso;clear hso x0 x1 y0 y1 hsz a7
  go_wp2_with fail
  refine HSO.out.mono ?_;rintro e w5 ⟨v5,rfl,hr5,hc5⟩;have hr5:RowAt w5 w3.heap.size v5 (Plain.keysB g p):=hr5;obtain⟨o5,c5,rfl⟩:=hr5.shape;have HR5:=lh hr5;have HC5:=lh hc5;have HKL:=lh (show (Plain.keysB g p).length≤1024 by rw[Plain.keysB_len];have:=(Plain.bl_small HPO.out).1;have:=HEL.out;omega);clear hr5 hc5 HSO HIX;obtain⟨K,hK⟩:∃ K,Plain.keysB g p=K:=⟨_,rfl⟩;have HK:=lh hK;rw[hK] at HR5 HKL ⊢;clear hK;have HB5:=lh (show w.heap.size≤w5.heap.size from ((HC1.out.t HC3.out).t HC5.out).size)
  go_wp2_with fail
  go_loopw [8,10,27] (fun ov _ iv wr=>∃ i:Nat,i≤K.length∧iv=.int .i64 i∧∃ xs,Nest wr w5.heap.size 27 2 ov i xs (pcs (Plain.blkV g p) (Plain.blkE g p) (K.take i))∧Chg [] w5 wr) (fun _ _ iv _=>K.length - (intOf iv).toNat)
  case atStart=>exact⟨0,Nat.zero_le _,rfl,[],Nest.nil _ _ _ _,Chg.refl _ _⟩
  case round =>
   obtain⟨i,hi,rfl,xs,hne,hc⟩:=hrel;have HNE:=lh hne;have HC:=lh hc;have HC35:=lh (HC5.out.t hc);obtain⟨x0,x1,y0,y1,hsz⟩:=HBXS.out wr (HC3.out.t HC35.out);obtain⟨uo,uc,rfl⟩:=hne.shape;have hkl:=HKL.out;clear hne hc;by_cases hlt:i<K.length
   ·obtain⟨kb,rfl,hkc⟩:=HR5.out.some (by omega)
    have ck:=HC.out.c (hkc i hlt);have hrm:K.getD i 0∈Plain.headsB (Plain.findAll g p).bl:=by rw[←Plain.keysB_mem,HK.out];exact Plain.getD_mem hlt
    have HTK:=lh (show K.take (i+1)=K.take i++[K.getD i 0] by rw[List.take_succ_eq_append_getElem hlt];simp[List.getD,hlt]);have hi64:I64 (K.getD i 0):=HR5.out.2.1 _ (Plain.getD_mem hlt);obtain⟨r,hr⟩:∃ r,K.getD i 0=r:=⟨_,rfl⟩;rw[hr] at ck hrm HTK hi64;obtain⟨hb1,hb2⟩:=Plain.blAt_mem hrm;obtain⟨v,hv1,hv2,-⟩:=HFIN.out.rel.1 _ hb1;rw[hb2] at hv1;have hbs:=(Plain.bl_small HPO.out).2 _ hb1;obtain⟨L,hL⟩:∃ L,Plain.blAt (Plain.findAll g p).bl r=L:=⟨_,rfl⟩;rw[hL] at hv2 hbs;have HLE:=lh (show Plain.blkE g p r=L from hL);have HLV:=lh (show Plain.blkV g p r=(Plain.bspan g L).v by unfold Plain.blkV;rw[hL]);have HLI:=lh ((hv2.chg HC35.out (by simp)).ints);have HLS:=lh hbs;have hlook:=(HFIN.out.map.chg HC35.out (by simp)).look_run hi64;rw[hv1,Option.getD_some] at hlook;obtain⟨vo,vc,rfl⟩:=hv2.shape;clear hkc hr hrm hb1 hb2 hv1 hv2 hbs hL
    go_wp2_with fail
    refine (bspan_any _ _ g L _ HGE.out (by have:=HLS.out.1;have:=HEL.out;omega) (fun e he=>Plain.Pt.edge_in HR.out (HLS.out.2 e he)) (HG.out.fresh ((HC1.out.t HC3.out).t HC35.out)) HLI.out).mono ?_;rintro e w6 ⟨v1,v2,rfl,h1,h2,hap,hc6⟩;have HNE6:=lh (HNE.out.fresh hc6);have H1:=lh (h1.base HC.out.size);have H2:=lh (h2.base HC.out.size);have H1L:=lh h1.low;have H2L:=lh h2.low;have HAP:=lh hap;have HC6:=lh (HC.out.t hc6);have HFT:=lh (show foot v1=v1.ownBlock.toList∧foot v2=v2.ownBlock.toList from⟨h1.foot,h2.foot⟩);obtain⟨o1,c1,rfl⟩:=h1.shape;obtain⟨o2,c2,rfl⟩:=h2.shape;have HSW:=lh (show wr.heap.size≤w6.heap.size from hc6.size);have HON:=lh (show ∀ u∈(#[Value.slice o1 (Plain.bspan g L).v.length c1,Value.slice o2 L.length c2]:Array Value).toList,u.oneCell'=true from fun u hu=>by
     simp at hu;rcases hu with rfl | rfl <;> rfl)
    have HI:=lh (show i<68719476736 by have:=HKL.out;omega);clear h1 h2 hap hc6 x0 x1 y0 y1 hsz hlook ck
    go_wp2_with (at_builtin;refine wp_app elemPart rfl _ _ rfl (v:=.slice uo i uc) rfl rfl rfl HNE6.out.out HC6.out.size rfl HON.out HI.out ?_;intro g4 cap4 w9 r9 c9 l9;have R9:=lh r9;have C9:=lh c9;clear r9 c9 l9)
    go_roundw
    case rel =>
     have hadd:=HNE6.out.add (us:=[.slice o1 (Plain.bspan g L).v.length c1,.slice o2 L.length c2]) (ds:=[.row (Plain.bspan g L).v,.row L]) (by decide) rfl rfl (fun j d hj=>by
      rcases j with _ | _ | j
      ·simp at hj;subst hj;exact H1.out
      ·simp at hj;subst hj;exact H2.out
      ·simp at hj) (fun a b ha hb hne=>by
      have h12:(Value.slice o1 (Plain.bspan g L).v.length c1).ownBlock=none∨(Value.slice o1 (Plain.bspan g L).v.length c1).ownBlock≠(Value.slice o2 L.length c2).ownBlock:=by
       cases hq:(Value.slice o1 (Plain.bspan g L).v.length c1).ownBlock with
       | none=>exact Or.inl rfl
       | some b=>exact Or.inr fun e=>HAP.out b (by rw[HFT.out.1,hq];simp) (by rw[HFT.out.2,←e];simp)
      simp at ha hb;rcases a with _ | _ | a
      ·rcases b with _ | _ | b
       ·exact absurd rfl hne
       ·exact h12
       omega
      ·rcases b with _ | _ | b
       ·cases hq:(Value.slice o2 L.length c2).ownBlock with
        | none=>exact Or.inl hq
        | some b =>
         refine Or.inr fun e=>?_;have e:(Value.slice o2 L.length c2).ownBlock=(Value.slice o1 (Plain.bspan g L).v.length c1).ownBlock:=e;exact HAP.out b (by rw[HFT.out.1,←e,hq];simp) (by rw[HFT.out.2,hq];simp)
       ·exact absurd rfl hne
       omega
      ·omega) (fun a b q ha hb hq e=>by
      have:=(HNE.out.kind ha hq).2.1;simp at hb;rcases b with _ | _ | b
      ·have e:(Value.slice o1 (Plain.bspan g L).v.length c1).ownBlock=some q:=e
       have:=(H1L.out q (by rw[e];simp)).1;omega
      ·have e:(Value.slice o2 L.length c2).ownBlock=some q:=e
       have:=(H2L.out q (by rw[e];simp)).1;omega
      omega) R9.out C9.out
     refine⟨i+1,by omega,by go_num,_,by rw[HTK.out,pcs_snoc,HLE.out,HLV.out];exact hadd,HC6.out.trans C9.out fun j hj=>Or.inr (HNE6.out.out.lt j (by simpa using hj)).1⟩
    case measure=>simp[intOf];omega
   have e:i=K.length:=by omega
   subst e;rw[List.take_length] at HNE;clear x0 x1 y0 y1 hsz hi hlt;go_wp2;refine bodyPost_ret (v:=.tuple #[.slice uo K.length uc,.int .i64 0]) (by simp[results,Tryz.results24,go_sem]) rfl ?_;exact⟨_,by rw[HR.out],fun h=>absurd HR.out h,fun _=>⟨xs,by rw[HK.out];exact HNE.out.base HB5.out⟩,(HC1.out.t HC3.out).t HC35.out⟩
 obtain⟨er,her⟩:∃ er,p.err g=er:=⟨_,rfl⟩;rw[her] at hr ⊢;have HR:=lh hr;have HER:=lh her;have bz:(er != 0)=true:=by simp only[bne_iff_ne];exact hr
 clear hr her x0 x1 y0 y1 hsz;go_wp2;refine bodyPost_ret (v:=.tuple #[.slice none 0 0,.int .i64 er]) (by simp[results,Tryz.results24,go_sem]) rfl ?_;exact⟨_,by rw[HER.out],fun _=>rfl,fun h=>absurd (HER.out.symm.trans h) HR.out,HC2.out⟩
end Go.Proofs.YtmhcmnaecpagiaaGreat
