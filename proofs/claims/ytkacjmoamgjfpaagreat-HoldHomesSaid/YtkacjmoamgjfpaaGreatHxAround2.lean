/- ref09.Around whole; slices.Compact at a row; rest.Around: contracts. Conditions: a graph, a part, a plan that lie in memory and read so, of a bounded size. -/
import Derived.Test.YtkacjmoamgjfpaaGreatHxPSame
import Derived.Test.YtkacjmoamgjfpaaGreatHxMerge
namespace Go.Proofs.YtkacjmoamgjfpaaGreat
open Go.RowKit Go.Maps
namespace Plain
theorem orL_len (a b:List Int):(orL a b).length≤a.length+b.length:=by rw[←mergeL_one];exact mergeL_len true a b
end Plain
theorem owns_take {w:World} {B:Nat} {e:TypeId} {ao:Option Addr} {cap n m:Nat} {xs:List Value} (h:w.ownsRow B e 1 (.slice ao n cap) n xs) (hm:m≤n):w.ownsRow B e 1 (.slice ao m cap) m (xs.take m):=by
 have hl:=h.1
 rcases h.2 with ⟨e1,h0⟩ | ⟨g,c,cur,e1,hg,hh,hnc,hcm,hcs,hys⟩
 ·cases e1
  obtain rfl:m=0:=by omega
  exact⟨by simp,Or.inl ⟨rfl,rfl⟩⟩
 simp only[Value.slice.injEq] at e1
 obtain⟨rfl,-,rfl⟩:=e1
 refine⟨by rw[List.length_take];omega,Or.inr ⟨g,cap,cur,rfl,hg,hh,by omega,hcm,hcs,?_⟩⟩
 rw[←hys,List.take_take]
 congr 1
 omega
theorem compactI_any (v:Value) (l:List Int) (B:Nat) (w:World) (hn:l.length<1000000000) (h:RowAt w B v l) :
  Calls Tryz.prog 170 #[v] w fun e w'=>∃ v',e=.returned v'∧RowAt w' B v' (Go.Lib.compact l)∧Chg v.ownBlock.toList w w':=by
 obtain⟨ao,c,rfl⟩:=h.shape
 by_cases h0:l=[]
 ·subst h0
  refine (Tryz.slices_Compact_int_empty ao c w).mono ?_
  rintro e w' ⟨rfl,rfl⟩
  exact⟨_,rfl,h,Chg.refl _ _⟩
 obtain⟨g,cap,e⟩:=owns_some h.1 (List.length_pos_iff.2 h0)
 cases e
 have hl:(ints l).length=l.length:=by simp[ints]
 have hown:=h.1
 rw[←hl] at hown
 have hH:Go.Sort.Holds (Value.int .i64) w g 0 l.toArray:=sorted_holds hown (by simp[ints])
 have hcap:l.length≤c:=by
  rcases h.1.2 with ⟨e1,_⟩ | ⟨g',c',cur,e1,_,_,hnc,_⟩
  ·cases e1
  simp only[Value.slice.injEq] at e1
  omega
 refine (Tryz.slices_Compact_int g 0 _ l w hH (by omega) hcap).mono ?_
 rintro e w' ⟨rfl,q,rfl⟩
 have hcl:(Go.Lib.compact l).length≤l.length:=by
  unfold Go.Lib.compact Go.Lib.compactUpTo
  rw[List.length_map]
  exact Nat.le_trans (List.length_filter_le _ _) (by simp)
 have hcm:∀ x∈Go.Lib.compact l,x∈l:=by
  intro x hx
  unfold Go.Lib.compact Go.Lib.compactUpTo at hx
  obtain⟨j,hj,rfl⟩:=List.mem_map.1 hx
  have hj:=List.mem_range.1 (List.mem_filter.1 hj).1
  have:l.toArray[j]! = l[j]:=by simp[getElem!_pos,hj]
  rw[this]
  exact List.getElem_mem hj
 obtain⟨D,hD⟩:∃ D,(Go.Lib.compact l++List.replicate (l.length - (Go.Lib.compact l).length) 0).toArray=D:=⟨_,rfl⟩
 have hDs:D.size=(ints l).length:=by rw[←hD,hl];simp;omega
 have hso:=sorted_owns (enc:=Value.int .i64) (n:=q) (os:=#[]) (d:=D) hown hDs
 rw[hl] at hso
 have hpt:=owns_take hso hcl
 have htk:(D.toList.map (Value.int .i64)).take (Go.Lib.compact l).length=ints (Go.Lib.compact l):=by
  rw[←hD,List.map_append,List.take_left' (by simp)]
  rfl
 rw[htk] at hpt
 have hw:Go.Sort.putRow (Value.int .i64) (Go.Sort.ahead w q) g 0 D=sortWorld (Value.int .i64) w g 0 q D #[]:=by simp[sortWorld,Go.Sort.grow];rfl
 rw[hD,hw]
 refine⟨_,rfl,⟨?_,fun x hx=>h.2.1 x (hcm x hx),by have:=h.2.2;omega⟩,?_⟩
 ·exact hpt
 exact sorted_chg (Value.int .i64) w g q #[] D
end Go.Proofs.YtkacjmoamgjfpaaGreat
namespace Go.Proofs.YtkacjmoamgjfpaaGreat.Plain
theorem rises_of {l:List Int} {n:Int} (h:l.Pairwise (·<·)) (hb:∀ x∈l,0≤x∧x<n):rises l n=true:=by
 unfold rises
 rw[List.all_eq_true]
 intro i hi
 have hi:=List.mem_range.1 hi
 obtain⟨h1,h2⟩:=hb _ (getD_mem hi)
 unfold risesAt
 rw[decide_eq_false (by omega),decide_eq_false (by omega),Bool.false_or,Bool.false_or]
 by_cases h0:0<i
 ·have:=List.pairwise_iff_getElem.1 h (i - 1) i (by omega) hi (by omega)
  have e1:l.getD (i - 1) 0=l[i - 1]:=by simp[List.getD,(by omega:i - 1<l.length)]
  have e2:l.getD i 0=l[i]:=by simp[List.getD,hi]
  rw[decide_eq_false (p:=l.getD i 0≤l.getD (i - 1) 0) (by rw[e1,e2];omega),Bool.and_false];rfl
 rw[decide_eq_false h0,Bool.false_and];rfl
theorem rises_in {l:List Int} {n:Int} (h:rises l n=true):∀ x∈l,0≤x∧x<n:=fun x hx=>by
 obtain⟨i,hi,rfl⟩:=mem_getD hx
 have:=rises_at h hi
 exact⟨this.1,this.2.1⟩
theorem Pt.err_of {g:Gr} {p:Pt} (h0:g.err=0) (hv:rises p.v g.n=true) (he:rises p.e g.e.length=true) (hi:∀ e∈p.e,(g.ends e.toNat).1∈p.v∧(g.ends e.toNat).2∈p.v):p.err g=0:=by
 unfold Pt.err
 rw[if_neg (by simp[h0]),if_neg (by simp[hv,he]),if_pos]
 rw[List.all_eq_true]
 intro i hx
 obtain⟨h1,h2⟩:=hi _ (getD_mem (List.mem_range.1 hx))
 unfold Pt.okEdge
 rw[decide_eq_true h1,decide_eq_true h2];rfl
theorem Pt.ends_in {g:Gr} {p:Pt} (h:p.err g=0):∀ e∈p.e,(g.ends e.toNat).1∈p.v∧(g.ends e.toNat).2∈p.v:=fun e he=>by
 obtain⟨i,hi,rfl⟩:=mem_getD he
 exact (Pt.err_ok h).2.2.2 i hi
def andPt (a b:Pt):Pt:=⟨andOf b.v a.v,andOf b.e a.e⟩
def orPt (a b:Pt):Pt:=⟨orL a.v b.v,orL a.e b.e⟩
theorem mem_andOf {x:Int} {a b:List Int}:x∈andOf b a↔x∈a∧x∈b:=by unfold andOf;rw[List.mem_filter,decide_eq_true_iff]
theorem andPt_err {g:Gr} {a b:Pt} (ha:a.err g=0) (hb:b.err g=0):(andPt a b).err g=0:=by
 obtain⟨h0,h1,h2,-⟩:=Pt.err_ok ha
 refine Pt.err_of h0 (rises_filter h1 _) (rises_filter h2 _) fun e he=>?_
 obtain⟨k1,k2⟩:=mem_andOf.1 he
 have a1:=Pt.ends_in ha e k1
 have b1:=Pt.ends_in hb e k2
 exact⟨mem_andOf.2 ⟨a1.1,b1.1⟩,mem_andOf.2 ⟨a1.2,b1.2⟩⟩
theorem orPt_err {g:Gr} {a b:Pt} (ha:a.err g=0) (hb:b.err g=0):(orPt a b).err g=0:=by
 obtain⟨h0,h1,h2,-⟩:=Pt.err_ok ha
 obtain⟨-,h3,h4,-⟩:=Pt.err_ok hb
 refine Pt.err_of h0 (rises_of (orL_rise (rises_pair h1) (rises_pair h3)) fun x hx=>(mem_orL.1 hx).elim (rises_in h1 x) (rises_in h3 x)) (rises_of (orL_rise (rises_pair h2) (rises_pair h4)) fun x hx=>(mem_orL.1 hx).elim (rises_in h2 x) (rises_in h4 x)) fun e he=>?_
 rcases mem_orL.1 he with k | k
 ·have:=Pt.ends_in ha e k
  exact⟨mem_orL.2 (Or.inl this.1),mem_orL.2 (Or.inl this.2)⟩
 have:=Pt.ends_in hb e k
 exact⟨mem_orL.2 (Or.inr this.1),mem_orL.2 (Or.inr this.2)⟩
theorem andPt_left {a b:Pt}:subB (andPt a b).v a.v=true∧subB (andPt a b).e a.e=true:=⟨subB_iff.2 fun _ h=>(mem_andOf.1 h).1,subB_iff.2 fun _ h=>(mem_andOf.1 h).1⟩
theorem andPt_sub {a b:Pt} (hv:∀ x∈b.v,x∈a.v) (he:∀ x∈b.e,x∈a.e) (ra:a.v.Pairwise (·<·)) (rb:b.v.Pairwise (·<·)) (qa:a.e.Pairwise (·<·)) (qb:b.e.Pairwise (·<·)):andPt a b=b:=by
 have:∀ {x y:List Int},(∀ z∈y,z∈x)→x.Pairwise (·<·)→y.Pairwise (·<·)→andOf y x=y:=fun h h1 h2=>rise_eq (h1.filter _) h2 fun z=>by
  unfold andOf
  rw[List.mem_filter,decide_eq_true_iff]
  exact⟨fun q=>q.2,fun q=>⟨h z q,q⟩⟩
 unfold andPt
 rw[this hv ra rb,this he qa qb]
theorem part_rise {g:Gr} {p:Pt} (h:p.err g=0):p.v.Pairwise (·<·)∧p.e.Pairwise (·<·):=⟨rises_pair (Pt.err_ok h).2.1,rises_pair (Pt.err_ok h).2.2.1⟩
end Go.Proofs.YtkacjmoamgjfpaaGreat.Plain
namespace Go.Proofs.YtkacjmoamgjfpaaGreat
open Go.RowKit Go.Maps
def PtC (w:World) (v:Value) (p:Plain.Pt):Prop:=∃ v1 v2,v=.agg #[v1,v2]∧MRow w v1 p.v∧MRow w v2 p.e
theorem PtC.at {w:World} {v:Value} {p:Plain.Pt} (h:PtC w v p):PtAt w v p:=by
 obtain⟨v1,v2,e,h1,h2⟩:=h
 exact⟨v1,v2,e,h1.1,h2.1⟩
theorem PtC.fresh {w w':World} {v:Value} {p:Plain.Pt} (h:PtC w v p) (hc:Chg [] w w'):PtC w' v p:=by
 obtain⟨v1,v2,e,h1,h2⟩:=h
 exact⟨v1,v2,e,h1.fresh hc,h2.fresh hc⟩
theorem MRow.shape {w:World} {v:Value} {l:List Int} (h:MRow w v l):∃ ao c,v=.slice ao l.length c:=by
 obtain⟨⟨ao,c,e,-⟩,-⟩:=h
 exact⟨ao,c,e⟩
theorem PtC.shape {w:World} {v:Value} {p:Plain.Pt} (h:PtC w v p):∃ ao ac bo bc,v=.agg #[.slice ao p.v.length ac,.slice bo p.e.length bc]:=by
 obtain⟨v1,v2,rfl,h1,h2⟩:=h
 obtain⟨ao,ac,rfl⟩:=h1.shape
 obtain⟨bo,bc,rfl⟩:=h2.shape
 exact⟨ao,ac,bo,bc,rfl⟩
def CaseAt (w:World) (v:Value) (g:Plain.Gr) (p:Plain.Pt) (turn same:List (List Int)):Prop :=
 ∃ a b c d e f,v=.agg #[a,b,c,d,e,f]∧GrAt w (.agg #[a,b]) g∧PtC w (.agg #[c,d]) p∧PlAt w (.agg #[e,f]) turn same
theorem CaseAt.fresh {w w':World} {v:Value} {g:Plain.Gr} {p:Plain.Pt} {turn same:List (List Int)} (h:CaseAt w v g p turn same) (hc:Chg [] w w'):CaseAt w' v g p turn same:=by
 obtain⟨a,b,c,d,e,f,h0,h1,h2,h3⟩:=h
 exact⟨a,b,c,d,e,f,h0,h1.fresh hc,h2.fresh hc,h3.fresh hc⟩
theorem CaseAt.shape {w:World} {v:Value} {g:Plain.Gr} {p:Plain.Pt} {turn same:List (List Int)} (h:CaseAt w v g p turn same):∃ eo cap ao ac bo bc tno tc so sc,v=.agg #[.int .i64 g.n,.slice eo g.e.length cap,.slice ao p.v.length ac,.slice bo p.e.length bc,.slice tno turn.length tc,.slice so same.length sc] ∧
  GrAt w (.agg #[.int .i64 g.n,.slice eo g.e.length cap]) g∧PtC w (.agg #[.slice ao p.v.length ac,.slice bo p.e.length bc]) p∧PlAt w (.agg #[.slice tno turn.length tc,.slice so same.length sc]) turn same:=by
 obtain⟨a,b,c,d,e,f,rfl,h1,h2,h3⟩:=h
 have h1':=h1
 have h2':=h2
 have h3':=h3
 obtain⟨eo,cap,e1,-⟩:=h1
 obtain⟨ao,ac,bo,bc,e2⟩:=h2.shape
 obtain⟨u1,u2,e3,⟨tno,tc,rfl,-⟩,⟨so,sc,rfl,-⟩⟩:=h3
 simp only[Value.agg.injEq,Array.mk.injEq,List.cons.injEq,and_true] at e1 e2 e3
 obtain⟨rfl,rfl⟩:=e1
 obtain⟨rfl,rfl⟩:=e2
 obtain⟨rfl,rfl⟩:=e3
 exact⟨eo,cap,ao,ac,bo,bc,tno,tc,so,sc,rfl,h1',h2',h3'⟩
theorem case_cells {w w2:World} {a b c d e f:Value} (h:Chg [] (w.alloc (.cells #[a,b,c,d,e,f] 34)) w2):w2.cell? ⟨w.heap.size,0,none⟩=some a∧w2.cell? ⟨w.heap.size,1,none⟩=some b∧w2.cell? ⟨w.heap.size,2,none⟩=some c∧w2.cell? ⟨w.heap.size,3,none⟩=some d∧w2.cell? ⟨w.heap.size,4,none⟩=some e∧w2.cell? ⟨w.heap.size,5,none⟩=some f∧w.heap.size+1≤w2.heap.size:=by
 have h4:=heap_alloc_new w (.cells #[a,b,c,d,e,f] 34)
 have hz:=h.size
 refine⟨h.cell ((cell_of_row _ _ 0 _ _ _ h4).trans rfl) (by simp),h.cell ((cell_of_row _ _ 1 _ _ _ h4).trans rfl) (by simp),h.cell ((cell_of_row _ _ 2 _ _ _ h4).trans rfl) (by simp),h.cell ((cell_of_row _ _ 3 _ _ _ h4).trans rfl) (by simp),h.cell ((cell_of_row _ _ 4 _ _ _ h4).trans rfl) (by simp),h.cell ((cell_of_row _ _ 5 _ _ _ h4).trans rfl) (by simp),?_⟩
 simpa using hz
namespace Plain
theorem planErr_part {g:Gr} {p:Pt} {turn same:List (List Int)} (h:p.err g≠0):planErr g p turn same=p.err g:=by
 have h1:=turnErr_part (turn:=turn) h
 have h2:flatErr g p turn=p.err g:=by rw[flatErr_turn (by rw[h1];exact h),h1]
 unfold planErr
 rw[if_pos (by rw[h2];exact h),h2]
end Plain
set_option maxRecDepth 100000 in
set_option maxHeartbeats 2000000 in
theorem holdRight_any (vc:Value) (g:Plain.Gr) (p:Plain.Pt) (turn same:List (List Int)) (w:World) (hpl:p.e.length≤100000) (hpv:p.v.length≤100000) (hTL:turn.length<2147483648) (hS:Plain.sumLen turn turn.length<2147483648) (hsl:same.length≤10000) (hsr:∀ i,(same.getD i []).length≤10000) (hc:CaseAt w vc g p turn same) :
  Calls Tryz.prog 18 #[vc] w fun e w'=>e=.returned (.int .i64 (Plain.planErr g p turn same))∧Chg [] w w':=by
 have HS1:=lh hS
 have HSR:=lh hsr
 obtain⟨eo,cap,ao,ac,bo,bc,tno,tc,so,sc,rfl,hg,hp,hx⟩:=hc.shape
 have HG:=lh hg
 have HP:=lh hp.at
 have HX:=lh hx
 have HC1:=lh ((Chg.refl [] w).alloc (.cells #[.int .i64 g.n,.slice eo g.e.length cap,.slice ao p.v.length ac,.slice bo p.e.length bc,.slice tno turn.length tc,.slice so same.length sc] 34))
 obtain⟨k0,k1,k2,k3,k4,k5,hsz⟩:=case_cells (Chg.refl [] (w.alloc (.cells #[.int .i64 g.n,.slice eo g.e.length cap,.slice ao p.v.length ac,.slice bo p.e.length bc,.slice tno turn.length tc,.slice so same.length sc] 34)))
 have HK:=lh (fun w2 (h:Chg [] (w.alloc (.cells #[.int .i64 g.n,.slice eo g.e.length cap,.slice ao p.v.length ac,.slice bo p.e.length bc,.slice tno turn.length tc,.slice so same.length sc] 34)) w2)=>case_cells h)
 clear hc hg hp hx hS hsr
 go_enter Tryz.func18,Tryz.ntmps18
 go_wp2_with fail
 generalize (w.alloc (.cells #[.int .i64 g.n,.slice eo g.e.length cap,.slice ao p.v.length ac,.slice bo p.e.length bc,.slice tno turn.length tc,.slice so same.length sc] 34))=w1 at *
 refine (rightPart_any _ _ g p _ (by omega) (HG.out.fresh HC1.out) (HP.out.fresh HC1.out)).mono ?_
 rintro e w2 ⟨rfl,hc2⟩
 have HC2:=lh (HC1.out.trans hc2 (by simp))
 clear k0 k1 k2 k3 k4 k5 hsz
 obtain⟨k0,k1,k2,k3,k4,k5,hsz⟩:=HK.out _ hc2
 clear hc2
 by_cases h0:p.err g=0
 ·rw[h0]
  clear h0
  go_wp2_with fail
  refine (right_any _ _ _ g p turn same _ hpl hpv hTL HS1.out hsl HSR.out (HG.out.fresh HC2.out) (HP.out.fresh HC2.out) (HX.out.fresh HC2.out)).mono ?_
  rintro e w3 ⟨rfl,hc3⟩
  have HC3:=lh (HC2.out.trans hc3 (by simp))
  clear hc3
  go_wp2
  go_ret
  exact⟨rfl,HC3.out⟩
 have HE:=lh (Plain.planErr_part (turn:=turn) (same:=same) h0)
 obtain⟨er,her⟩:∃ er,p.err g=er:=⟨_,rfl⟩
 rw[her] at h0 HE ⊢
 have bz:(er != 0)=true:=by simp only[bne_iff_ne];exact h0
 clear h0 her
 go_wp2
 go_ret
 exact⟨ret_int HE.out.symm,HC2.out⟩
theorem out_store2 {wr:World} {b:Nat} {a0 a1:Value} {t:TypeId} (hb:wr.heap[b]?=some (.cells #[a0,a1] t (0,0))) (u v:Value) :
  ((wr.setCell ⟨b,0,none⟩ u).setCell ⟨b,1,none⟩ v).heap[b]?=some (.cells #[u,v] t (0,0))∧((wr.setCell ⟨b,0,none⟩ u).setCell ⟨b,1,none⟩ v).cell? ⟨b,0,none⟩=some u∧((wr.setCell ⟨b,0,none⟩ u).setCell ⟨b,1,none⟩ v).cell? ⟨b,1,none⟩=some v∧Chg [b] wr ((wr.setCell ⟨b,0,none⟩ u).setCell ⟨b,1,none⟩ v):=by
 have hh:=heap_setCell_same (heap_setCell_same hb 0 u) 1 v
 exact⟨hh,(cell_of_row _ _ 0 _ _ _ hh).trans rfl,(cell_of_row _ _ 1 _ _ _ hh).trans rfl,((Chg.refl _ wr).setCell (Or.inl (by simp)) _).setCell (Or.inl (by simp)) _⟩
end Go.Proofs.YtkacjmoamgjfpaaGreat
