/- draw.single: contract: the turns of one edge. Conditions: a right graph that lies in memory and reads so; an edge of it. -/
import Derived.Test.YtbkjljffnkdcjaaS9PutP
namespace Go.Proofs.Ytbkjljffnkdcjaa
open Go.RowKit Go.Maps
namespace Plain
def oneJ (g:Gr) (e j:Nat) (v:Int):List Int:=((List.range j).map fun i=>((2*e+i:Nat):Int)).filter fun d=>decide (g.tail d=v)
theorem oneJ_succ (g:Gr) (e j:Nat) (v:Int):oneJ g e (j+1) v=if v=g.tail ((2*e+j:Nat):Int) then oneJ g e j v++[((2*e+j:Nat):Int)] else oneJ g e j v:=by
 unfold oneJ
 rw[List.range_succ,List.map_append,List.filter_append]
 by_cases h:v=g.tail ((2*e+j:Nat):Int)
 ·have hh:List.filter (fun d=>decide (g.tail d=v)) (List.map (fun i=>((2*e+i:Nat):Int)) [j])=[((2*e+j:Nat):Int)]:=by
   rw[List.map_cons,List.map_nil,List.filter_cons_of_pos (by rw[decide_eq_true_eq];exact h.symm),List.filter_nil]
  rw[if_pos h,hh]
 rw[if_neg h]
 have h2:decide (g.tail ((2*e+j:Nat):Int)=v)=false:=decide_eq_false fun q=>h q.symm
 simp only[List.map_cons,List.map_nil,List.filter_cons,List.filter_nil,h2,Bool.false_eq_true,if_false,List.append_nil]
theorem oneJ_len (g:Gr) (e j:Nat) (v:Int):(oneJ g e j v).length≤j:=by
 unfold oneJ
 have h2:=List.length_filter_le (fun d=>decide (g.tail d=v)) ((List.range j).map fun i=>((2*e+i:Nat):Int))
 rwa[List.length_map,List.length_range] at h2
end Plain
def rowsJ (g:Plain.Gr) (e j N:Nat):List Cell:=(List.range N).map fun v:Nat=>Cell.row (Plain.oneJ g e j v)
theorem rowsJ_zero (g:Plain.Gr) (e N:Nat):rowsJ g e 0 N=List.replicate N (Cell.row []):=by
 unfold rowsJ
 have:(fun v:Nat=>Cell.row (Plain.oneJ g e 0 v))=fun _=>Cell.row []:=by funext v;simp[Plain.oneJ]
 rw[this,List.map_const',List.length_range]
theorem rowsJ_set {g:Plain.Gr} {e j N v:Nat} (_hv:v<N) (ht:g.tail ((2*e+j:Nat):Int)=v):(rowsJ g e j N).set v (.row (Plain.oneJ g e j v++[((2*e+j:Nat):Int)]))=rowsJ g e (j+1) N:=by
 refine List.ext_getElem (by simp[rowsJ]) fun i h1 h2=>?_
 have hi:i<N:=by simpa[rowsJ] using h2
 rw[List.getElem_set]
 simp only[rowsJ,List.getElem_map,List.getElem_range]
 rw[Plain.oneJ_succ,ht]
 by_cases e1:v=i
 ·subst e1;simp
 rw[if_neg e1,if_neg (by omega)]
theorem rowsJ_at {g:Plain.Gr} {e j N v:Nat} (hv:v<N):(rowsJ g e j N)[v]?=some (.row (Plain.oneJ g e j v)):=by
 unfold rowsJ
 rw[List.getElem?_map,List.getElem?_range hv]
 rfl
theorem dart_nat {g:Plain.Gr} {N d:Nat} (hr:g.err=0) (hN:g.n=N) (hd:d / 2<g.e.length):∃ v:Nat,g.tail (d:Int)=v∧v<N:=by
 obtain⟨h1,h2,h3,h4⟩:=Plain.Gr.err_ok hr
 have he:=h4 _ hd
 have ht:g.tail (d:Int)=(g.ends (d / 2)).1∨g.tail (d:Int)=(g.ends (d / 2)).2:=by
  unfold Plain.Gr.tail Plain.Gr.at
  have:((d:Int) / 2).toNat=d / 2:=by omega
  rw[this]
  split
  ·exact Or.inl rfl
  exact Or.inr rfl
 refine⟨(g.tail (d:Int)).toNat,?_,?_⟩
 ·rcases ht with q | q <;> rw[q] <;> omega
 rcases ht with q | q <;> rw[q] <;> omega
namespace Plain
theorem oneJ_all {g:Gr} {p:Pt} {e:Nat} (he:p.e=[(e:Int)]) (v:Int):oneJ g e 2 v=dartsAt g p v:=by
 unfold oneJ dartsAt Pt.darts
 rw[he]
 simp[List.range_succ]
end Plain
set_option maxRecDepth 100000 in
set_option maxHeartbeats 4000000 in
theorem single_any (vg:Value) (g:Plain.Gr) (e0 N:Nat) (w:World) (hr:g.err=0) (hN:g.n=N) (he:e0<g.e.length) (hg:GrAt w vg g) :
  Calls Try.prog 13 #[vg,.int .i64 e0] w fun e w'=>∃ ob xs,e=.returned (.slice (some ⟨ob,0,none⟩) N N)∧Nest w' w.heap.size 25 1 (.slice (some ⟨ob,0,none⟩) N N) N xs (rowsJ g e0 2 N)∧Chg [] w w':=by
 have HN:=lh hN
 have HG:=lh hg
 have HGE:=lh (Plain.Gr.err_ok hr)
 have HR:=lh hr
 obtain⟨eo,cap,rfl,-,-,-,-⟩:=hg
 have HXC:=lh (show Chg [] w (w.alloc (.cells #[.int .i64 g.n,.slice eo g.e.length cap] 24)) from (show Chg [] w (w.alloc (.cells #[.int .i64 g.n,.slice eo g.e.length cap] 24)) from ((Chg.refl [] w).alloc _)))
 have qbx0:=heap_alloc_new w (.cells #[.int .i64 g.n,.slice eo g.e.length cap] 24)
 have HX:=lh (fun (w2:World) (hbx:Chg [] (w.alloc (.cells #[.int .i64 g.n,.slice eo g.e.length cap] 24)) w2)=>(⟨hbx.cell ((cell_of_row _ _ 0 _ _ _ qbx0).trans rfl) (by simp),hbx.cell ((cell_of_row _ _ 1 _ _ _ qbx0).trans rfl) (by simp),by have hz:=hbx.size;simpa using hz⟩:w2.cell? ⟨w.heap.size,0,none⟩=some (.int .i64 g.n)∧w2.cell? ⟨w.heap.size,1,none⟩=some (.slice eo g.e.length cap)∧w.heap.size+1≤w2.heap.size))
 clear qbx0
 have HXZ:=lh (show (w.alloc (.cells #[.int .i64 g.n,.slice eo g.e.length cap] 24)).heap.size=w.heap.size+1 by simp)
 obtain⟨x0,x1,-⟩:=HX.out _ (Chg.refl _ _)
 have hNN:N≤1024:=by have:=HGE.out.2.1;omega
 have hei:(e0:Int)≤1024:=by have:=HGE.out.2.2.1;have:=HGE.out.1;omega
 have hgl:g.e.length≤1024:=by have:=HGE.out.2.2.1;have:=HGE.out.1;omega
 clear hr hN
 go_enter Try.func13,Try.ntmps13
 go_wp2_with (at_make;refine wl_mk elemRow rfl _ _ rfl (B:=(w.alloc (.cells #[.int .i64 g.n,.slice eo g.e.length cap] 24)).heap.size) (n:=N) (by show Value.int .i64 g.n=_;rw[HN.out]) (by show Value.int .i64 g.n=_;rw[HN.out]) (Nat.le_refl _) (by omega) ?_;intro w2 h2 c2;have H2:=lh (nest_made h2);have C2:=lh c2;clear h2 c2)
 clear x0 x1
 have hz1:(w.alloc (.cells #[.int .i64 g.n,.slice eo g.e.length cap] 24)).heap.size=w.heap.size+1:=by simp
 generalize w.alloc (.cells #[.int .i64 g.n,.slice eo g.e.length cap] 24)=w1 at *
 obtain⟨ob,hob⟩:∃ n,w.heap.size+1=n:=⟨_,rfl⟩
 have HOB:=lh (hz1.trans hob)
 rw[hz1,hob] at H2
 rw[hob]
 clear hob hz1
 go_loopw [6,7] (fun c _ wr=>∃ j:Nat,j≤2∧c=.int .i64 ((2*e0+j:Nat):Int)∧∃ xs,Nest wr ob 25 1 (.slice (some ⟨ob,0,none⟩) N N) N xs (rowsJ g e0 j N)∧Chg [] w1 wr) (fun c _ _=>2*e0+2 - (intOf c).toNat)
 case atStart=>exact⟨0,by omega,by go_num,_,by rw[rowsJ_zero];exact H2.out,C2.out⟩
 case round =>
  obtain⟨j,hj,rfl,xs,hne,hc⟩:=hrel
  have HNE:=lh hne
  have HC:=lh hc
  clear hne hc H2 C2
  by_cases hj2:j<2
  ·obtain⟨d,hd⟩:∃ d:Nat,2*e0+j=d:=⟨_,rfl⟩
   have hd2:d / 2<g.e.length:=by omega
   obtain⟨v,hv,hvN⟩:=dart_nat HR.out HN.out hd2
   have HV:=lh hv
   have HD:=lh hd
   have hdl:(d:Int)≤2*(e0:Int)+1:=by omega
   have hdb:d<4096:=by omega
   have hvi:(v:Int)<(N:Int):=by omega
   rw[hd]
   clear hv
   obtain⟨x0,x1,-⟩:=HX.out wr HC.out
   go_wp2_with fail
   refine (dleaves_any _ g d _ hd2 (by omega) (HG.out.fresh (HXC.out.trans HC.out (by simp)))).mono ?_
   rw[HV.out]
   rintro e w3 ⟨rfl,hc3⟩
   have hne3:=HNE.out.fresh hc3
   have hxl:=hne3.cells
   obtain⟨va,vc,va',vc',w4,p1,p2,p3,p4,p5,p6,p7,p8,p9,p10,p11⟩:=nest_grow (q:=v) (x:=(d:Int)) hne3 (by decide) (Nat.le_trans (hne3.out.lt ob rfl).1 (Nat.le_of_lt (hne3.out.lt ob rfl).2)) (by rw[hxl];show v<N*1;omega) (rowsJ_at hvN) (I64.mk (by omega) (by omega)) (by have h1:=Plain.oneJ_len g e0 j (v:Int);omega)
   have hjl:=Plain.oneJ_len g e0 j (v:Int)
   obtain⟨ln,hln⟩:∃ ln,(Plain.oneJ g e0 j (v:Int)).length=ln:=⟨_,rfl⟩
   have HP5:=lh (show Nest _ ob 25 1 (.slice (some ⟨ob,0,none⟩) N N) N _ (rowsJ g e0 (j+1) N) from by
    have h1:=rowsJ_set (g:=g) (e:=e0) (j:=j) hvN (by rw[HD.out];exact HV.out)
    rw[←h1,HD.out]
    exact p5)
   have HC4:=lh (show Chg [] w1 _ from (HC.out.trans hc3 (by simp)).trans p8 (fun b hb=>by
    refine Or.inr ?_
    rw[HOB.out]
    rcases List.mem_cons.1 hb with q | q
    ·rw[q];exact Nat.le_refl _
    exact (hne3.kind (k:=v) (by rw[hxl];omega) (by rw[p7];simpa[foot] using q)).1))
   rw[hln] at p1 p2 p3 p9 p10 HP5 HC4
   have HP2:=lh p2
   clear p2 p5 p6 p7 p8 p9 p10 p11 hne3 hln
   go_wp2_with (at_builtin;refine wl_apprun rfl _ _ 25 rfl rfl rfl HP2.out ?_)
   exact⟨⟨j+1,by omega,by congr 1;omega,_,HP5.out,HC4.out⟩,by simp[intOf];omega⟩
  have e2:j=2:=by omega
  subst e2
  have hdd:¬ ((2*e0+2:Nat):Int)≤2*(e0:Int)+1:=by omega
  go_wp2
  go_ret
  exact⟨ob,rfl,⟨xs,HNE.out.base (by rw[←HOB.out];exact HXC.out.size)⟩,HXC.out.trans HC.out (by simp)⟩
theorem heap_setCells {g:Nat} {t:TypeId}:∀ (vs:List Value) (o:Nat) (w:World) (cs:Array Value),w.heap[g]?=some (.cells cs t (0,0))→o+vs.length≤cs.size →
  ∃ cs':Array Value,(w.setCells g o vs).heap[g]?=some (.cells cs' t (0,0))∧cs'.size=cs.size∧cs'.toList=cs.toList.take o++(vs++cs.toList.drop (o+vs.length))
 | [],o,w,cs,h,_=>⟨cs,h,rfl,by simp⟩
 | v :: r,o,w,cs,h,hl=>by
  rw[List.length_cons] at hl
  obtain⟨cs',h1,h2,h3⟩:=heap_setCells r (o+1) (w.setCell ⟨g,o,none⟩ v) (cs.setIfInBounds o v) (heap_setCell_same h o v) (by rw[Array.size_setIfInBounds];omega)
  refine⟨cs',h1,by simpa using h2,?_⟩
  have e:(cs.setIfInBounds o v).toList=cs.toList.take o++v :: cs.toList.drop (o+1):=by
   rw[Array.toList_setIfInBounds,List.set_eq_take_append_cons_drop,if_pos (by rw[Array.length_toList];omega)]
  rw[h3,e]
  have hA:(cs.toList.take o).length=o:=by rw[List.length_take,Array.length_toList];omega
  generalize cs.toList.take o=A at *
  subst hA
  rw[show A++v :: cs.toList.drop (A.length+1)=(A++[v])++cs.toList.drop (A.length+1) by simp]
  have hd:(A++[v]).drop (A.length+1+r.length)=[]:=List.drop_eq_nil_of_le (by simp)
  have ht:((A++[v])++cs.toList.drop (A.length+1)).take (A.length+1)=A++[v]:=by
   rw[show A.length+1=(A++[v]).length by simp,List.take_left]
  rw[ht,List.drop_append,hd,List.nil_append,List.drop_drop,List.append_assoc]
  simp only[List.length_append,List.length_cons,List.length_nil,List.nil_append,List.cons_append,Nat.zero_add]
  rw[show A.length+1+(A.length+1+r.length - (A.length+1))=A.length+(r.length+1) by omega]
theorem chg_setCells {own:List Nat} {a:World} {g:Nat} (hg:g∈own):∀ (vs:List Value) (o:Nat) {w:World},Chg own a w→Chg own a (w.setCells g o vs)
 | [],_,_,h=>h
 | v :: r,o,_w,h=>chg_setCells hg r (o+1) (h.setCell (Or.inl hg) v)
theorem run_clear_wide (w:World) (t e ty:TypeId) (z:Value) (ht:Try.prog.underlying t=some (.slice e)) (hv:∀ w,(zeroValue e).run Try.prog w=.ok z w) (b o n c:Nat) (hn:0<n) (L:List Value) (hL:(Builtin.zeroCells z.cells n).toList=L)
  (h1:∀ v∈L,v.oneCell'=true) (hc:∀ j,j<L.length→(w.cell? ⟨b,o+j,none⟩).isSome=true) (hf:∀ j,j<L.length→w.frozen? ⟨b,o+j,none⟩=false) :
  (Builtin.clear_ #[t] ty #[.slice (some ⟨b,o,none⟩) n c]).run Try.prog w=.ok (.tuple #[]) (w.setCells b o L):=by
 have hst:=run_storeCells_cells (P:=Try.prog) b o L 0 w (by simpa using hc) (by simpa using hf) h1
 simp only[Nat.add_zero] at hst
 obtain⟨m,rfl⟩:∃ m,n=m+1:=⟨n - 1,by omega⟩
 simp[Builtin.clear_,run_underlying ht,hv,hL,hst]
set_option maxRecDepth 100000 in
set_option maxHeartbeats 4000000 in
theorem delS_any (g c i B:Nat) (R:List Plain.Scrap) (xs:List Value) (w:World) (h:Nest w B 74 3 (.slice (some ⟨g,0,none⟩) R.length c) R.length xs (scr3 R)) (hi:i<R.length) (hn:R.length≤2000) :
  Calls Try.prog 33 #[.slice (some ⟨g,0,none⟩) R.length c,.int .i64 i,.int .i64 ((i:Int)+1)] w fun e w'=>e=.returned (.slice (some ⟨g,0,none⟩) (R.eraseIdx i).length c)∧Nest w' B 74 3 (.slice (some ⟨g,0,none⟩) (R.eraseIdx i).length c) (R.eraseIdx i).length (xs.take (3*i)++xs.drop (3*i+3)) (scr3 (R.eraseIdx i))∧Chg [g] w w':=by
 have hel:(R.eraseIdx i).length=R.length - 1:=List.length_eraseIdx_of_lt hi
 have HEL:=lh hel
 have HN:=lh h
 obtain⟨cur,hB,hg,hnc,hcm,hcs,hcx⟩:∃ cur,B≤g∧w.heap[g]?=some (.cells cur 74 (0,0))∧R.length≤c∧c≤maxLen∧cur.size=c*3∧cur.toList.take (R.length*3)=xs:=by
  rcases h.out.2 with ⟨q,-⟩ | ⟨g',c',cur,q,k1,k2,k3,k4,k5,k6⟩
  ·cases q
  cases q
  exact⟨cur,k1,k2,k3,k4,k5,k6⟩
 have hxl:=h.cells
 have hm:c≤9223372036854775807:=by simpa[maxLen] using hcm
 have hone:∀ u∈xs,u.oneCell'=true:=fun u hu=>by
  obtain⟨k,hk,rfl⟩:=List.mem_iff_getElem.1 hu
  obtain⟨cc,-,hcc⟩:=h.fit hk
  have:=hcc.one
  simpa[List.getD,hk] using this
 have hcellx:∀ k,k<R.length*3→w.cell? ⟨g,k,none⟩=some (xs.getD k undef):=fun k hk=>h.cell (by omega)
 obtain⟨n,hRn⟩:∃ n,R.length=n:=⟨_,rfl⟩
 rw[hRn] at hi hn hel hnc hcx hxl hcellx HEL ⊢
 rw[hel]
 -- the append
 obtain⟨i0,hi0,hz0,hz1,hz2⟩:=info_parts elemScrap.hi
 have hnl:(xs.drop (3*i+3)).length=(n - (i+1))*i0.size:=by rw[List.length_drop,hxl,hz1];omega
 have hfree:∀ k,w.drew.frozen? ⟨g,k,none⟩=false:=fun k=>by
  have:=free_at hg k
  exact this
 have hrun:∀ A:Addr,(∀ j u,(xs.drop (3*i+3))[j]?=some u→w.drew.cell? (A.add j)=some u)→(Builtin.append_ #[47,47] 47 #[.slice (some ⟨g,0,none⟩) i c,.slice (some A) (n - (i+1)) (c - (i+1))]).run Try.prog w.drew=.ok (.slice (some ⟨g,0,none⟩) (i+(n - (i+1))) c) (w.drew.setCells g (0+i*i0.size) (xs.drop (3*i+3))):=fun A hA =>
  run_append_room_cells w.drew 47 47 74 i0 elemScrap.ht hi0 g 0 i c A (n - (i+1)) (c - (i+1)) (xs.drop (3*i+3)) hnl hA (fun u hu=>hone u (List.mem_of_mem_drop hu)) (by omega) (fun j hj=>by
   rw[hnl,hz1] at hj
   rw[Nat.zero_add,hz1]
   have h1:=hcellx (i*3+j) (by omega)
   exact Option.isSome_iff_exists.2 ⟨_,h1⟩) (fun j hj=>hfree _)
 rw[hz1,Nat.zero_add] at hrun
 have HRUN:=lh hrun
 have hiN:(i:Int)<(n:Int):=by omega
 have hi0':(0:Int)≤(i:Int)+1:=by omega
 have hi1':(i:Int)+1≤(n:Int):=by omega
 obtain⟨A,hA,hsrc⟩:∃ A:Addr,(if c=i+1 then some (⟨g,0,none⟩:Addr) else some ⟨g,(i+1)*3,none⟩)=some A∧∀ (j:Nat) (u:Value),(xs.drop (3*i+3))[j]?=some u→w.drew.cell? (A.add j)=some u:=by
  have hadd:∀ o j:Nat,(⟨g,o,none⟩:Addr).add j=⟨g,o+j,none⟩:=fun o j=>by unfold Addr.add;split <;> simp_all
  by_cases q:c=i+1
  ·refine⟨⟨g,0,none⟩,by rw[if_pos q],fun j u hu=>?_⟩
   have:=(List.getElem?_eq_some_iff.1 hu).1
   rw[List.length_drop] at this
   omega
  refine⟨⟨g,(i+1)*3,none⟩,by rw[if_neg q],fun j u hu=>?_⟩
  have hj:=(List.getElem?_eq_some_iff.1 hu).1
  rw[List.length_drop] at hj
  rw[List.getElem?_drop] at hu
  rw[hadd,show (i+1)*3+j=3*i+3+j by omega]
  have h1:=hcellx (3*i+3+j) (by omega)
  rw[show xs.getD (3*i+3+j) undef=u by simp[List.getD,hu]] at h1
  exact h1
 have HSRC:=lh hsrc
 have hic:i≤c:=by omega
 have hic1:i+1≤c:=by omega
 clear hrun hone hcellx hfree hnl h hsrc
 go_enter Try.func33,Try.ntmps33
 go_wp2_with fail
 have hS0:Chg [] w w.drew:=(Chg.refl [] w).drew
 refine wp_region_way (Chg [] w) [0,1,2,3,4] (Way.line [0,1,2,3,4,5,6,7] .done) (by kernel_rfl) (by kernel_rfl) ?_
 simp only[Way.line]
 repeat
  first
   | (refine along_off rfl (by rfl) (by rfl) (fun _ _ _ h=>h) hS0 ?_;simp only[Act.put,Z1,Z2,Z3,Z4,Z5,Z6])
   | (refine along_read (v:=?_) rfl (by rfl) (by rfl) (fun _ _ _ h=>h) hS0 (fun w' hS'=>?_) ?_;rotate_left;(focus (skip;clear hS';go_simp;try with_reducible rfl));simp only[Act.put,Z1,Z2,Z3,Z4,Z5,Z6])
   | (refine along_skip rfl (by rfl) (by rfl) hS0 ?_;simp only[Act.put,Z1,Z2,Z3,Z4,Z5,Z6])
 refine along_op rfl (by rfl) (by rfl) (fun K hK=>?_)
 go_simp
 refine hK.out _ _ (fun _=>hS0) ?_
 clear hK K
 try simp only[Act.put,Z1,Z2,Z3,Z4,Z5,Z6]
 refine along_op rfl (by rfl) (by rfl) (fun K hK=>?_)
 simp only[List.getElem_toArray,List.getElem_cons_zero,List.getElem_cons_succ]
 refine wp_apprun (.tmp 22) (.tmp 25) 47 rfl rfl rfl (HRUN.out A HSRC.out) ?_
 refine hK.out _ _ (fun h=>absurd h (Bool.eq_false_iff.1 (by kernel_rfl))) ?_
 clear hK K
 try simp only[Act.put,List.setIfInBounds_toArray,List.set_cons_zero,List.set_cons_succ]
 refine along_op rfl (by rfl) (by rfl) (fun K hK=>?_)
 go_simp
 refine hK.out _ _ (fun h=>absurd h (Bool.eq_false_iff.1 (by kernel_rfl))) ?_
 clear hK K
 try simp only[Act.put,Z1,Z2,Z3,Z4,Z5,Z6]
 refine along_done ?_
 obtain⟨m,rfl⟩:∃ m,n=m+1:=⟨n - 1,by omega⟩
 rw[show i+(m+1 - (i+1))=m by omega]
 obtain⟨cs1,k1,k2,k3⟩:=heap_setCells (xs.drop (3*i+3)) (i*3) w.drew cur hg (by rw[List.length_drop];omega)
 have hch1:Chg [g] w (w.drew.setCells g (i*3) (xs.drop (3*i+3))):=chg_setCells (by simp) _ _ (Chg.refl [g] w).drew
 have HCH1:=lh hch1
 generalize w.drew.setCells g (i*3) (xs.drop (3*i+3))=w1 at *
 have HK1:=lh k1
 have HK3:=lh k3
 have hmc:m≤c:=by omega
 have hm1c:m+1≤c:=by omega
 have hcl:∀ ty,(Builtin.clear_ #[47] ty #[.slice (some ⟨g,m*3,none⟩) 1 (c - m)]).run Try.prog w1=.ok (.tuple #[]) (w1.setCells g (m*3) [.slice none 0 0,.slice none 0 0,.slice none 0 0]):=fun ty =>
  run_clear_wide w1 47 74 ty (.agg #[.slice none 0 0,.slice none 0 0,.slice none 0 0]) elemScrap.ht (fun w=>by simp[zeroValue,typeInfo,hi0,hz0]) g (m*3) 1 (c - m) (by omega) [.slice none 0 0,.slice none 0 0,.slice none 0 0] (by kernel_rfl) (fun u hu=>by
   simp at hu
   subst hu
   rfl) (fun j hj=>by
   have hj:j<3:=hj
   rw[cell_of_row _ _ _ _ _ _ k1,Array.getElem?_eq_getElem (by omega)]
   rfl) (fun j _=>free_at k1 _)
 obtain⟨cs2,l1,l2,l3⟩:=heap_setCells [.slice none 0 0,.slice none 0 0,.slice none 0 0] (m*3) w1 cs1 k1 (by simp;omega)
 have HCH2:=lh (chg_setCells (g:=g) (own:=[g]) (by simp) [.slice none 0 0,.slice none 0 0,.slice none 0 0] (m*3) HCH1.out)
 have HL1:=lh l1
 have HL3:=lh l3
 clear HRUN HSRC hA hS0 hch1 k1 k3 l1 l3
 go_wp2
 go_ret
 clear hcl
 generalize w1.setCells g (m*3) [.slice none 0 0,.slice none 0 0,.slice none 0 0]=w2 at *
 have hm':m+1 - 1=m:=by omega
 refine⟨rfl,?_,HCH2.out⟩
 rw[hm']
 have hlx:=HN.out.cells
 have htake:cs2.toList.take (m*3)=xs.take (3*i)++xs.drop (3*i+3):=by
  have e1:cs2.toList.take (m*3)=cs1.toList.take (m*3):=by
   rw[HL3.out,List.take_append_of_le_length (by rw[List.length_take,Array.length_toList];omega),List.take_take,Nat.min_self]
  have hA:(cur.toList.take (i*3)).length=i*3:=by rw[List.length_take,Array.length_toList];omega
  have hB:(xs.drop (3*i+3)).length=m*3 - i*3:=by rw[List.length_drop];omega
  rw[e1,HK3.out,←List.append_assoc,List.take_append_of_le_length (by rw[List.length_append];omega),List.take_of_length_le (by rw[List.length_append];omega)]
  congr 1
  rw[←hcx,List.take_take,Nat.min_eq_left (by omega),Nat.mul_comm]
 have hown:w2.ownsRow B 74 3 (.slice (some ⟨g,0,none⟩) m c) m (xs.take (3*i)++xs.drop (3*i+3)):=by
  refine⟨?_,Or.inr ⟨g,c,cs2,rfl,hB,HL1.out,by omega,hcm,by omega,htake⟩⟩
  rw[List.length_append,List.length_take,List.length_drop]
  omega
 rw[scr3_cut]
 exact HN.out.cut (by omega) (by omega) hown HCH2.out (fun j hj=>⟨74,by rw[List.mem_singleton.1 hj];exact⟨_,_,hg⟩,by decide⟩)
theorem wp_storeB {o:Oper} {a:Act} {K:Act→World→Prop} {Q:Exit→Act→World→Prop} {w:World} (p x:Operand) (ho:o.op=.store 68 p x) {b i n c m d:Nat} {fo go:Option Addr} {cs:Array Value} (hp:a.eval p=.pointer (some ⟨b,i,none⟩)) (hx:a.eval x=.agg #[.slice fo n c,.slice go m d])
  (hb:w.heap[b]?=some (.cells cs 68 (0,0))) (hi:i+1<cs.size)
  (hK:K (a.put o.dst undef) ((w.setCell ⟨b,i,none⟩ (.slice fo n c)).setCell ⟨b,i+1,none⟩ (.slice go m d))):o.wp Try.prog a w K Q:=by
 obtain⟨u0,hu0⟩:∃ u,cs[i]?=some u:=⟨_,Array.getElem?_eq_getElem (by omega)⟩
 obtain⟨u1,hu1⟩:∃ u,cs[i+1]?=some u:=⟨_,Array.getElem?_eq_getElem (by omega)⟩
 have c0:w.cell? ⟨b,i,none⟩=some u0:=by rw[cell_of_row _ _ _ _ _ _ hb];exact hu0
 have c1:w.cell? ⟨b,i+1,none⟩=some u1:=by rw[cell_of_row _ _ _ _ _ _ hb];exact hu1
 have z0:w.frozen? ⟨b,i,none⟩=false:=free_at hb _
 have z1:w.frozen? ⟨b,i+1,none⟩=false:=free_at hb _
 unfold Oper.wp execOp
 simp only[ho,hp,hx]
 clear hp hx hb
 go_simp
 exact hK
theorem row_cap {w:World} {B n c:Nat} {a:Addr} {l:List Int} (h:RowAt w B (.slice (some a) n c) l):n=l.length∧n≤c:=by
 rcases h.1.2 with ⟨q,-⟩ | ⟨g',c',cur,q,-,-,h3,-⟩
 ·cases q
 simp only[Value.slice.injEq] at q
 omega
theorem own_heap {w:World} {B n m c sz g:Nat} {e:TypeId} {xs:List Value} (h:w.ownsRow B e sz (.slice (some ⟨g,0,none⟩) n c) m xs):∃ cs,w.heap[g]?=some (.cells cs e (0,0)):=by
 rcases h.2 with ⟨q,-⟩ | ⟨g',c',cur,q,-,hh,-⟩
 ·cases q
 simp only[Value.slice.injEq,Option.some.injEq,Addr.mk.injEq,and_true] at q
 rw[q.1]
 exact⟨cur,hh⟩
theorem elemBorder:Elem 46 68 (.agg #[.slice none 0 0,.slice none 0 0]) 2 48:=⟨Try.underlying46,by kernel_rfl,rfl,by decide,by decide⟩
theorem FarAt.put {ob q:Nat} {xs ys:List Value} {v:Value} (h:FarAt ob xs ys) (hq:q<xs.length) (hv:∀ b,v.ownBlock=some b→b≠ob∧∀ l,l<ys.length→(ys.getD l undef).ownBlock≠some b):FarAt ob (xs.set q v) ys:=by
 refine⟨fun k hk e=>?_,fun k l b hk hl hb=>?_⟩
 ·rw[List.length_set] at hk
  rw[getD_set' _ _ _ _ _ hq] at e
  by_cases r:k=q
  ·rw[if_pos r] at e;exact (hv ob e).1 rfl
  rw[if_neg r] at e;exact h.o k hk e
 rw[List.length_set] at hk
 rw[getD_set' _ _ _ _ _ hq] at hb
 by_cases r:k=q
 ·rw[if_pos r] at hb;exact (hv b hb).2 l hl
 rw[if_neg r] at hb;exact h.y k l b hk hl hb
theorem FarAt.add {ob:Nat} {xs ys us:List Value} (h:FarAt ob xs ys) (hv:∀ k b,k<us.length→(us.getD k undef).ownBlock=some b→b≠ob∧∀ l,l<ys.length→(ys.getD l undef).ownBlock≠some b):FarAt ob (xs++us) ys:=by
 refine⟨fun k hk e=>?_,fun k l b hk hl hb=>?_⟩
 ·rw[List.length_append] at hk
  by_cases r:k<xs.length
  ·rw[getD_left r] at e;exact h.o k r e
  rw[getD_right (by omega)] at e;exact (hv _ ob (by omega) e).1 rfl
 rw[List.length_append] at hk
 by_cases r:k<xs.length
 ·rw[getD_left r] at hb;exact h.y k l b r hl hb
 rw[getD_right (by omega)] at hb;exact (hv _ b (by omega) hb).2 l hl
def mixS (t:Plain.Scrap→Plain.Scrap) (R:List Plain.Scrap) (j:Nat):List Plain.Scrap:=(R.take j).map t++R.drop j
theorem mixS_zero (t:Plain.Scrap→Plain.Scrap) (R:List Plain.Scrap):mixS t R 0=R:=by simp[mixS]
theorem mixS_all (t:Plain.Scrap→Plain.Scrap) (R:List Plain.Scrap):mixS t R R.length=R.map t:=by simp[mixS]
theorem mixS_len {t:Plain.Scrap→Plain.Scrap} {R:List Plain.Scrap} {j:Nat} (hj:j≤R.length):(mixS t R j).length=R.length:=by
 unfold mixS
 rw[List.length_append,List.length_map,List.length_take,List.length_drop]
 omega
theorem mixS_at {t:Plain.Scrap→Plain.Scrap} {R:List Plain.Scrap} {j:Nat} (hj:j<R.length) (d:Plain.Scrap):(mixS t R j).getD j d=R.getD j d:=by
 unfold mixS
 have hl:((R.take j).map t).length=j:=by rw[List.length_map,List.length_take];omega
 rw[getD_right (by omega),hl,Nat.sub_self]
 simp[List.getD]
theorem mixS_step {t:Plain.Scrap→Plain.Scrap} {R:List Plain.Scrap} {j:Nat} (hj:j<R.length) (d:Plain.Scrap):mixS t R (j+1)=(mixS t R j).set j (t (R.getD j d)):=by
 unfold mixS
 have hl:((R.take j).map t).length=j:=by rw[List.length_map,List.length_take];omega
 have e1:R.take (j+1)=R.take j++[R.getD j d]:=by
  rw[List.take_add_one]
  simp[List.getD,hj]
 have e2:R.drop j=R.getD j d :: R.drop (j+1):=by
  rw[List.drop_eq_getElem_cons hj]
  simp[List.getD,hj]
 rw[e1,e2,List.map_append,List.set_append_right _ _ (by omega),hl,Nat.sub_self,List.set_cons_zero]
 simp
theorem scr3_set:∀ {L:List Plain.Scrap} {j:Nat} {c:Plain.Scrap},j<L.length→c.edges=(L.getD j ⟨[],[],[]⟩).edges→c.ends=(L.getD j ⟨[],[],[]⟩).ends→(scr3 L).set (j*3+2) (.row c.faces)=scr3 (L.set j c)
 | [],j,_,h,_,_=>by simp at h
 | d :: l,0,c,_,h1,h2=>by
  have hs:∀ d:Plain.Scrap,scr3 (d :: l)=.row d.edges :: .row d.ends :: .row d.faces :: scr3 l:=fun d=>by simp[scr3]
  rw[List.set_cons_zero,hs,hs]
  have h1:c.edges=d.edges:=h1
  have h2:c.ends=d.ends:=h2
  rw[h1,h2]
  rfl
 | d :: l,j+1,c,h,h1,h2=>by
  have hs:∀ l:List Plain.Scrap,scr3 (d :: l)=.row d.edges :: .row d.ends :: .row d.faces :: scr3 l:=fun l=>by simp[scr3]
  have ih:=scr3_set (L:=l) (j:=j) (c:=c) (by simpa using h) h1 h2
  rw[List.set_cons_succ,hs,hs,←ih,show (j+1)*3+2=j*3+2+1+1+1 by omega]
  rfl
theorem refit_hit {g:Plain.Gr} {F:List (List Int)} {f k:Int} {r:Plain.Scrap} (h:f∈r.faces):Plain.refit g F f k r=⟨r.edges,r.ends,r.faces.erase f++Plain.fitF g F r.ends [f,k]⟩:=if_pos h
theorem refit_miss {g:Plain.Gr} {F:List (List Int)} {f k:Int} {r:Plain.Scrap} (h:f ∉ r.faces):Plain.refit g F f k r=r:=if_neg h
theorem mixS_same {t:Plain.Scrap→Plain.Scrap} {R:List Plain.Scrap} {j:Nat} (hj:j<R.length) (d:Plain.Scrap) (h:t (R.getD j d)=R.getD j d):mixS t R (j+1)=mixS t R j:=by
 rw[mixS_step hj d,h]
 have h1:=mixS_at (t:=t) hj d
 have hl:=mixS_len (t:=t) (Nat.le_of_lt hj)
 have hjl:j<(mixS t R j).length:=by omega
 have h2:R.getD j d=(mixS t R j)[j]:=by rw[←h1];simp[List.getD,hjl]
 rw[h2,List.set_getElem_self]
theorem lit2_at {w:World} {b:Nat} {x y:Int} {r:Nat × Nat} (h:w.heap[b]?=some (.cells #[.int .i64 x,.int .i64 y] 3 r)) (hx:I64 x) (hy:I64 y):IntsAt w (.slice (some ⟨b,0,none⟩) 2 2) [x,y]:=by
 refine⟨_,2,rfl,fun z hz=>?_,by simp,fun _=>⟨b,0,rfl,fun i hi=>?_⟩⟩
 ·rcases List.mem_cons.1 hz with q | q
  ·rw[q];exact hx
  rw[List.mem_singleton.1 q];exact hy
 rcases (show i=0∨i=1 by simp at hi;omega) with q | q
 ·subst q;exact (cell_of_row _ _ 0 _ _ _ h).trans rfl
 subst q;exact (cell_of_row _ _ 1 _ _ _ h).trans rfl
end Go.Proofs.Ytbkjljffnkdcjaa
