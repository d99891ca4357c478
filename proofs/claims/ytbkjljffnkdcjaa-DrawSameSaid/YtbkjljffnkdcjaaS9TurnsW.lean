/- draw's turns: contract. Conditions: a sketch that is drawn whole, its block, that lie in memory and read so. -/
import Derived.Test.YtbkjljffnkdcjaaS9PutW
namespace Go.Proofs.Ytbkjljffnkdcjaa
open Go.RowKit Go.Maps
def rowsT (g:Plain.Gr) (b:Plain.Pt) (turn:List (List Int)) (N j:Nat):List Cell:=(List.range N).map fun v:Nat=>Cell.row (if Plain.dartsTo g b v j=[] then [] else Plain.first (Plain.turnAt turn v))
theorem rowsT_zero (g:Plain.Gr) (b:Plain.Pt) (turn:List (List Int)) (N:Nat):rowsT g b turn N 0=List.replicate N (Cell.row []):=by
 unfold rowsT
 have:(fun v:Nat=>Cell.row (if Plain.dartsTo g b v 0=[] then [] else Plain.first (Plain.turnAt turn v)))=fun _=>Cell.row []:=by funext v;rw[Plain.dartsTo_zero,if_pos rfl]
 rw[this,List.map_const',List.length_range]
theorem rowsT_at {g:Plain.Gr} {b:Plain.Pt} {turn:List (List Int)} {N j v:Nat} (hv:v<N):(rowsT g b turn N j)[v]?=some (.row (if Plain.dartsTo g b v j=[] then [] else Plain.first (Plain.turnAt turn v))):=by
 unfold rowsT
 rw[List.getElem?_map,List.getElem?_range hv]
 rfl
theorem rowsT_put {g:Plain.Gr} {b:Plain.Pt} {turn:List (List Int)} {N j v:Nat} (hj:j<b.darts.length) (_hv:v<N) (ht:g.tail (b.darts.getD j 0)=v):(rowsT g b turn N j).set v (.row (Plain.first (Plain.turnAt turn v)))=rowsT g b turn N (j+1):=by
 refine List.ext_getElem (by simp[rowsT]) fun i h1 h2=>?_
 have hi:i<N:=by simpa[rowsT] using h2
 rw[List.getElem_set]
 simp only[rowsT,List.getElem_map,List.getElem_range]
 rw[Plain.dartsTo_next hj,ht]
 by_cases e1:v=i
 ·subst e1
  rw[if_pos rfl,if_pos rfl,if_neg (by simp)]
 have hvi:¬ (v:Int)=(i:Int):=by omega
 rw[if_neg e1,if_neg hvi]
theorem rowsT_skip {g:Plain.Gr} {b:Plain.Pt} {turn:List (List Int)} {N j v:Nat} (hj:j<b.darts.length) (hv:v<N) (ht:g.tail (b.darts.getD j 0)=v) (h:Plain.dartsTo g b v j≠[]):rowsT g b turn N j=rowsT g b turn N (j+1):=by
 rw[←rowsT_put hj hv ht]
 refine List.ext_getElem (by simp[rowsT]) fun i h1 h2=>?_
 rw[List.getElem_set]
 by_cases e1:v=i
 ·subst e1
  rw[if_pos rfl]
  simp only[rowsT,List.getElem_map,List.getElem_range]
  rw[if_neg h]
 rw[if_neg e1]
theorem rowsT_all {g:Plain.Gr} {b:Plain.Pt} {turn:List (List Int)} {N:Nat} (ht:Plain.TurnsOk g b turn) (hN:g.n=N):rowsT g b turn N b.darts.length=(turn.map Plain.first).map Cell.row:=by
 have hl:=ht.len
 refine List.ext_getElem (by simp[rowsT];omega) fun i h1 h2=>?_
 have hi:i<N:=by simpa[rowsT] using h1
 have hit:i<turn.length:=by omega
 simp only[rowsT,List.getElem_map,List.getElem_range]
 have hta:Plain.turnAt turn (i:Int)=turn[i]:=by unfold Plain.turnAt;rw[Int.toNat_natCast];simp[List.getD,hit]
 rw[Plain.dartsTo_all,hta]
 by_cases e:Plain.dartsAt g b i=[]
 ·rw[if_pos e]
  have:turn[i]=[]:=by
   refine List.eq_nil_iff_forall_not_mem.2 fun d hd=>?_
   have h3:=(ht.mem i (by omega) (by omega) d).1 (by rw[hta];exact hd)
   have:d∈Plain.dartsAt g b i:=Plain.mem_dartsAt.2 h3
   rw[e] at this
   cases this
  rw[this];rfl
 rw[if_neg e]
namespace Plain
theorem aft_row {F:List (List Int)} {k:Nat} (_hk:k<F.length) (L:List Int):aftOut F (k+1) L=aftIn (F.getD k []) (F.getD k []).length (aftOut F k L):=rfl
end Plain
theorem rows_grow {w:World} {tb N v:Nat} {ts:List Value} {cs:List Cell} {l:List Int} {x:Int} (h:Nest w tb 25 1 (.slice (some ⟨tb,0,none⟩) N N) N ts cs) (hv:v<N) (hc:cs[v]?=some (.row l)) (hx:I64 x) (hl:l.length+1<4294967296) :
  ∃ va vc va' vc' w2,w.cell? ⟨tb,v,none⟩=some (.slice va l.length vc)∧(Builtin.append_ #[25,25] 25 #[.slice va l.length vc,.slice (some ⟨w.heap.size,0,none⟩) 1 1]).run Try.prog (w.alloc (.cells #[.int .i64 x] 3))=.ok (.slice va' (l.length+1) vc') w2 ∧
   w2.cell? ⟨tb,v,none⟩=some (.slice va l.length vc)∧w2.frozen? ⟨tb,v,none⟩=false ∧
   (∃ ts',Nest (w2.setCell ⟨tb,v,none⟩ (.slice va' (l.length+1) vc')) tb 25 1 (.slice (some ⟨tb,0,none⟩) N N) N ts' (cs.set v (.row (l++[x])))) ∧
   ∀ w0:World,Chg [] w0 w→w0.heap.size=tb→Chg [] w0 (w2.setCell ⟨tb,v,none⟩ (.slice va' (l.length+1) vc')):=by
 have hxl:=h.cells
 obtain⟨va,vc,va',vc',w2,p1,p2,p3,p4,p5,p6,p7,p8,-⟩:=nest_grow (q:=v) (x:=x) h (by decide) (Nat.le_of_lt (h.out.lt tb rfl).2) (by rw[hxl];omega) hc hx hl
 refine⟨va,vc,va',vc',w2,p1,p2,p3,p4,⟨_,p5⟩,fun w0 h0 hs=>h0.trans p8 fun b hb=>Or.inr ?_⟩
 rw[hs]
 rcases List.mem_cons.1 hb with q | q
 ·rw[q];exact Nat.le_refl _
 exact (h.kind (k:=v) (by rw[hxl];omega) (by rw[p7];simpa[foot] using q)).1
theorem set_set' {α:Type} (l:List α) (i:Nat) (a c:α):(l.set i a).set i c=l.set i c:=by simp
set_option maxRecDepth 100000 in
set_option maxHeartbeats 8000000 in
theorem turns_any (w0 w:World) (sb ob N:Nat) (vE fv rv vb:Value) (xs ys:List Value) (g:Plain.Gr) (b:Plain.Pt) (s:Plain.Sk) (turn:List (List Int)) (hO:SkOwn w0 w sb ob N g vE fv rv xs ys s) (hF:Plain.Faces g b turn s.faces) (hp:PtAt w vb b) :
  Calls Try.prog 17 #[.pointer (some ⟨sb,0,none⟩),vb] w fun e w'=>∃ tb ts,e=.returned (.slice (some ⟨tb,0,none⟩) N N)∧Nest w' w.heap.size 25 1 (.slice (some ⟨tb,0,none⟩) N N) N ts ((turn.map Plain.first).map Cell.row)∧Chg [] w w':=by
 have HB:=lh hO.base
 have HFA:=lh hO.faces
 have HF:=lh hF
 have HGI:=lh hO.base.gri
 have HSM:=lh hO.base.gri.small
 have q0:=hO.base.gri.c0
 have q1:=hO.base.gri.c1
 have q3:=hO.base.q3
 obtain⟨eo,ecap,eqE,-⟩:=HGI.out.gr
 simp only[Value.agg.injEq,Array.mk.injEq,List.cons.injEq,true_and,and_true] at eqE
 subst eqE
 obtain⟨fo,fc,hfv⟩:=hO.faces.out |> owns_shape
 subst hfv
 obtain⟨pv,pe,rfl,hpv,hpe⟩:=hp
 have HPE:=lh hpe
 have HPV:=lh hpv
 obtain⟨bo,bc,rfl,-,-,hbc⟩:=hpe
 obtain⟨ao,ac,rfl,-,-,-⟩:=hpv
 have HXC:=lh (show Chg [] w (w.alloc (.cells #[.slice ao b.v.length ac,.slice bo b.e.length bc] 27)) from (show Chg [] w (w.alloc (.cells #[.slice ao b.v.length ac,.slice bo b.e.length bc] 27)) from ((Chg.refl [] w).alloc _)))
 have qbx0:=heap_alloc_new w (.cells #[.slice ao b.v.length ac,.slice bo b.e.length bc] 27)
 have HX:=lh (fun (w2:World) (hbx:Chg [] (w.alloc (.cells #[.slice ao b.v.length ac,.slice bo b.e.length bc] 27)) w2)=>(⟨hbx.cell ((cell_of_row _ _ 0 _ _ _ qbx0).trans rfl) (by simp),hbx.cell ((cell_of_row _ _ 1 _ _ _ qbx0).trans rfl) (by simp),by have hz:=hbx.size;simpa using hz⟩:w2.cell? ⟨w.heap.size,0,none⟩=some (.slice ao b.v.length ac)∧w2.cell? ⟨w.heap.size,1,none⟩=some (.slice bo b.e.length bc)∧w.heap.size+1≤w2.heap.size))
 clear qbx0
 have HXZ:=lh (show (w.alloc (.cells #[.slice ao b.v.length ac,.slice bo b.e.length bc] 27)).heap.size=w.heap.size+1 by simp)
 obtain⟨x0,x1,-⟩:=HX.out _ (Chg.refl _ _)
 have hel:g.e.length≤1024:=HSM.out.2
 have hNN:N≤1024:=HSM.out.1
 have hFl:s.faces.length≤1026:=by
  have h1:=hF.euler
  have h2:=Plain.Pt.ok_of_err hF.pe
  have h3:=rises_len (Plain.Pt.err_ok hF.pe).2.2.1
  omega
 have hn0:0≤g.n:=by rw[hO.base.n];omega
 clear hO hF
 replace q0:=HXC.out.cell q0 (by simp)
 replace q1:=HXC.out.cell q1 (by simp)
 replace q3:=HXC.out.cell q3 (by simp)
 go_enter Try.func17,Try.ntmps17
 go_wp2_with (at_make;refine wl_mk elemInt rfl _ _ rfl (B:=w.heap.size) (n:=2*g.e.length) (by show Value.int .i64 (2*(g.e.length:Int))=_;congr 1) (by show Value.int .i64 (2*(g.e.length:Int))=_;congr 1) HXC.out.size (by omega) ?_;intro w2 h2 c2;have H2:=lh (row_made h2 (by omega));have C2:=lh c2;clear h2 c2;replace q0:=C2.out.cell q0 (by simp);replace q3:=C2.out.cell q3 (by simp);clear q1)
 have hz1:=HXC.out.size
 have hz2:(w.alloc (.cells #[.slice ao b.v.length ac,.slice bo b.e.length bc] 27)).heap.size=w.heap.size+1:=by simp
 obtain⟨ab,hab⟩:∃ n,w.heap.size+1=n:=⟨_,rfl⟩
 have HAB:=lh hab
 rw[hz2,hab] at H2
 rw[hab]
 have HXB:=lh (fun wr (h:Chg [] _ wr)=>HX.out wr h)
 have hxc:=HXC.out
 have HZ:=lh (hz2.trans hab)
 clear x0 x1 hz1 hz2 HX HXC
 have HXC:=lh hxc
 generalize w.alloc (.cells #[.slice ao b.v.length ac,.slice bo b.e.length bc] 27)=w1 at *
 obtain⟨M,hM⟩:∃ M,2*g.e.length=M:=⟨_,rfl⟩
 rw[hM] at H2 ⊢
 have HF2:=lh (HFA.out.fresh (hxc.trans C2.out (by simp)))
 have hml:M≤2048:=by omega
 have HDM:=lh (show ∀ d∈b.darts,0≤d∧d.toNat<M from fun d hd=>by
  obtain⟨i,hi,e⟩:=Plain.mem_getD (Plain.mem_darts.1 hd)
  have:=Plain.rises_at (Plain.Pt.err_ok HF.out.pe).2.2.1 hi
  omega)
 have HFC:=lh (show ∀ wr,Chg [ab] w2 wr→∀ i,i<s.faces.length→∃ u0 hb1 c1,wr.cell? ⟨(fo.getD ⟨0,0,none⟩).block,i*2,none⟩=some (.slice u0 (s.faces.getD i []).length c1)∧wr.cell? ⟨(fo.getD ⟨0,0,none⟩).block,i*2+1,none⟩=some (.slice (some ⟨hb1,0,none⟩) N N)∧fo=some ⟨(fo.getD ⟨0,0,none⟩).block,0,none⟩∧RowAt wr w0.heap.size (.slice u0 (s.faces.getD i []).length c1) (s.faces.getD i [])∧∀ b∈(Value.slice u0 (s.faces.getD i []).length c1).ownBlock.toList,b≠ab from fun wr hw i hi=>by
  have hF1:=HFA.out.fresh hxc
  have hxl:=hF1.len
  obtain⟨fb,fcc,efv⟩:=owns_some hF1.out (by omega)
  simp only[Value.slice.injEq,true_and] at efv
  obtain⟨rfl,rfl⟩:=efv
  have hblt:∀ b,KindAt w1 b 68→b ∉ [ab]:=fun b hb=>by
   rw[List.mem_singleton]
   intro e
   have:=hb.lt
   rw[HZ.out] at this
   omega
  have hrlt:∀ {v:Value} {l:List Int},RowAt w1 w0.heap.size v l→∀ b∈v.ownBlock.toList,b ∉ [ab]:=fun hr b hb=>by
   rw[List.mem_singleton]
   intro e
   have:=(hr.low b hb).2
   rw[HZ.out] at this
   omega
  have hcw:Chg [ab] w1 wr:=(C2.out.mono (by simp)).trans hw (fun j hj=>Or.inl hj)
  have hr:=hF1.row i hi
  obtain⟨hb1,e1,-⟩:=hF1.has i hi
  have k0:=hF1.cell (k:=2*i) (by omega)
  have k1:=hF1.cell (k:=2*i+1) (by omega)
  rw[e1] at k1
  obtain⟨u0,c1,e0⟩:=hr.shape
  rw[e0] at k0 hr
  have hfbk:=hblt fb (own_kind hF1.out rfl)
  rw[Nat.mul_comm 2 i] at k0 k1
  exact⟨u0,hb1,c1,hcw.cell k0 hfbk,hcw.cell k1 hfbk,rfl,hr.chg hcw (hrlt hr),fun b hb e=>hrlt hr b hb (by simp[e])⟩)
 have HPR:=lh (show ∀ i,i<s.faces.length→∀ d∈s.faces.getD i [],0≤d∧d.toNat<M from fun i hi d hd=>HDM.out d (HF.out.all.mem_iff.1 (List.mem_flatten.2 ⟨_,by simp[List.getD,hi],hd⟩)))
 have HFL:=lh (show ∀ i,i<s.faces.length→(s.faces.getD i []).length≤2048 from fun i hi=>by
  have h1:=Plain.nodup_of_map (HF.out.simple (s.faces.getD i []) (by simp[List.getD,hi]))
  have:=Plain.small_len (N:=2048) h1 fun u hu=>by
   have:=HPR.out i hi u hu
   omega
  exact this)
 clear hxc hab
 go_loopw [29] (fun c wr=>∃ k:Nat,k≤s.faces.length∧c=.int .i64 k∧RowAt wr w.heap.size (.slice (some ⟨ab,0,none⟩) M M) (Plain.aftOut s.faces k (List.replicate M 0))∧Chg [ab] w2 wr) (fun c _=>s.faces.length - (intOf c).toNat)
 case atStart=>exact⟨0,Nat.zero_le _,rfl,H2.out,Chg.refl _ _⟩
 case round =>
  obtain⟨k,hk,rfl,hrow,hc⟩:=hrel
  have HROW:=lh hrow
  have HC:=lh hc
  by_cases hlt:k<s.faces.length
  ·obtain⟨u0,hb1,c1,k0,k1,efo,hrw,hrwl⟩:=HFC.out wr hc k hlt
   obtain⟨fb,hfb⟩:∃ fb,(fo.getD ⟨0,0,none⟩).block=fb:=⟨_,rfl⟩
   rw[hfb] at k0 k1 efo
   obtain⟨q,hq⟩:∃ q,s.faces.getD k []=q:=⟨_,rfl⟩
   have HQ:=lh hq
   have hql:=HFL.out k hlt
   have HQD:=lh (HPR.out k hlt)
   rw[hq] at k0 hrw hrwl hql HQD
   have HRW:=lh hrw
   have hki:(k:Int)<(s.faces.length:Int):=by omega
   have HYC:=lh (show Chg [] wr (wr.alloc (.cells #[.slice u0 q.length c1,.slice (some ⟨hb1,0,none⟩) N N] 68)) from (show Chg [] wr (wr.alloc (.cells #[.slice u0 q.length c1,.slice (some ⟨hb1,0,none⟩) N N] 68)) from ((Chg.refl [] wr).alloc _)))
   have qbx0:=heap_alloc_new wr (.cells #[.slice u0 q.length c1,.slice (some ⟨hb1,0,none⟩) N N] 68)
   have HY:=lh (fun (w2:World) (hbx:Chg [] (wr.alloc (.cells #[.slice u0 q.length c1,.slice (some ⟨hb1,0,none⟩) N N] 68)) w2)=>(⟨hbx.cell ((cell_of_row _ _ 0 _ _ _ qbx0).trans rfl) (by simp),hbx.cell ((cell_of_row _ _ 1 _ _ _ qbx0).trans rfl) (by simp),by have hz:=hbx.size;simpa using hz⟩:w2.cell? ⟨wr.heap.size,0,none⟩=some (.slice u0 q.length c1)∧w2.cell? ⟨wr.heap.size,1,none⟩=some (.slice (some ⟨hb1,0,none⟩) N N)∧wr.heap.size+1≤w2.heap.size))
   clear qbx0
   have HYZ:=lh (show (wr.alloc (.cells #[.slice u0 q.length c1,.slice (some ⟨hb1,0,none⟩) N N] 68)).heap.size=wr.heap.size+1 by simp)
   obtain⟨y0,y1,-⟩:=HY.out _ (Chg.refl _ _)
   have hyr:=hrow.chg HYC.out (by simp)
   have hab2:ab<wr.heap.size:=(hrow.low ab (by simp[Value.ownBlock])).2
   obtain⟨A,hA⟩:∃ A,Plain.aftOut s.faces k (List.replicate M 0)=A:=⟨_,rfl⟩
   have HA:=lh (show Plain.aftOut s.faces (k+1) (List.replicate M 0)=Plain.aftIn q q.length A by rw[Plain.aft_row hlt,hq,hA])
   rw[hA] at hyr
   have HYR:=lh hyr
   have HRW3:=lh (hrw.chg HYC.out (by simp))
   have HRWL:=lh hrwl
   clear hfb hq hrw hrwl hrow hyr hA
   go_wp2_with fail
   clear y0 y1 efo k0 k1
   have HYB:=lh (fun wx (h:Chg [ab] _ wx)=>(show wx.cell? ⟨wr.heap.size,0,none⟩=some (.slice u0 q.length c1) from h.cell (HY.out _ (Chg.refl _ _)).1 (by simp;omega)))
   clear HY
   generalize (wr.alloc (.cells #[.slice u0 q.length c1,.slice (some ⟨hb1,0,none⟩) N N] 68))=w3 at *
   have hxb:wr.heap.size≠ab:=by omega
   obtain⟨xb,hxb2⟩:∃ xb,wr.heap.size=xb:=⟨_,rfl⟩
   rw[hxb2] at HYB hxb ⊢
   go_loopw [8,9,36] (fun _ _ c wx=>∃ i:Nat,i≤q.length∧c=.int .i64 i∧RowAt wx w.heap.size (.slice (some ⟨ab,0,none⟩) M M) (Plain.aftIn q i A)∧Chg [ab] w3 wx) (fun _ _ c _=>q.length - (intOf c).toNat)
   case atStart=>exact⟨0,Nat.zero_le _,rfl,HYR.out,Chg.refl _ _⟩
   case round =>
    obtain⟨i,hi,rfl,hri,hci⟩:=hrel
    have HRI:=lh hri
    have HCI:=lh hci
    by_cases hil:i<q.length
    ·have y0:=HYB.out wr hci
     have hqr:=HRW3.out.chg hci (fun b hb=>by
      rw[List.mem_singleton]
      intro e
      exact HRWL.out b (by simpa using hb) e)
     obtain⟨rb,erb,hrc⟩:=hqr.some (by omega)
     subst erb
     have hil2:(i+1) % q.length<q.length:=Nat.mod_lt _ (by omega)
     have d0:=hrc i hil
     have d1:=hrc _ hil2
     obtain⟨n,hn⟩:∃ n:Nat,q.getD i 0=n:=⟨(q.getD i 0).toNat,by have:=HQD.out _ (Plain.getD_mem hil);omega⟩
     obtain⟨m,hm⟩:∃ m:Nat,q.getD ((i+1) % q.length) 0=m:=⟨(q.getD ((i+1) % q.length) 0).toNat,by have:=HQD.out _ (Plain.getD_mem hil2);omega⟩
     have hnM:=HQD.out _ (Plain.getD_mem hil)
     have hmM:=HQD.out _ (Plain.getD_mem hil2)
     rw[hn] at d0 hnM
     rw[hm] at d1 hmM
     have hbt:=bits_twin n (by omega)
     obtain⟨t,ht⟩:∃ t:Nat,Plain.twin (n:Int)=t:=⟨(Plain.twin (n:Int)).toNat,by unfold Plain.twin;split <;> omega⟩
     rw[ht] at hbt
     have HNX:=lh (show Plain.aftIn q (i+1) A=(Plain.aftIn q i A).set m (t:Int) by
      show (Plain.aftIn q i A).set _ _=_
      rw[hm,hn,ht,Int.toNat_natCast])
     have hrem:Int.tmod ((i:Int)+1) (q.length:Int)=(((i+1) % q.length:Nat):Int):=by
      rw[Int.tmod_eq_emod_of_nonneg (by omega)]
      push_cast
      rfl
     obtain⟨j,hj⟩:∃ j,(i+1) % q.length=j:=⟨_,rfl⟩
     rw[hj] at hrem hil2 d1
     have hmM2:m<M:=by omega
     have hmi:(m:Int)<(M:Int):=by omega
     have hji:(j:Int)<(q.length:Int):=by omega
     have hii:(i:Int)<(q.length:Int):=by omega
     have hq0:¬ (q.length:Int)=0:=by omega
     have hq1:¬ q.length=0:=by omega
     have wi:IntKind.i64.wrap ((i:Int)+1)=(i:Int)+1:=IntWalk.i64_in _ (by omega)
     have it:I64 (t:Int):=I64.mk (by omega) (by unfold Plain.twin at ht;split at ht <;> omega)
     obtain⟨hML,-⟩:=row_cap hri
     obtain⟨gg,eg,hcc⟩:=hri.some (by omega)
     simp only[Option.some.injEq,Addr.mk.injEq,and_true] at eg
     subst eg
     have a0:=hcc m (by omega)
     obtain⟨acs,ahp⟩:=own_heap hri.1
     have af:=free_at ahp m
     clear hcc ahp hML
     clear hn hm ht hrc hnM hmM hqr
     go_wp2_with fail
     have hS0:Chg [] wr wr.drew:=(Chg.refl [] wr).drew
     refine wp_region_way (Chg [] wr) [0,1,2,3,4,5,6,7,8,9,10,11,12,13] (Way.line [0,1,2,3,4,5,6,7,8,9,10,11,12,13,14] .done) (by kernel_rfl) (by kernel_rfl) ?_
     simp only[Way.line]
     repeat
      first
       | (refine along_off rfl (by rfl) (by rfl) (fun _ _ _ h=>h) hS0 ?_;simp only[Act.put,Z1,Z2,Z3,Z4,Z5,Z6])
       | (refine along_read (v:=?_) rfl (by rfl) (by rfl) (fun _ _ _ h=>h) hS0 (fun w' hS'=>?_) ?_;rotate_left;(focus (have rd0:=hS'.cell y0 (by simp);have rd1:=hS'.cell d0 (by simp);have rd2:=hS'.cell d1 (by simp);clear hS';go_simp;try with_reducible rfl));simp only[Act.put,Z1,Z2,Z3,Z4,Z5,Z6])
       | (refine along_skip rfl (by rfl) (by rfl) hS0 ?_;simp only[Act.put,Z1,Z2,Z3,Z4,Z5,Z6])
     have a1:=hS0.cell a0 (by simp)
     have f1:=(show wr.drew.frozen? ⟨ab,m,none⟩=false from af)
     refine along_op rfl (by rfl) (by rfl) (fun K hK=>?_)
     go_simp
     refine hK.out _ _ (fun h=>absurd h (Bool.eq_false_iff.1 (by kernel_rfl))) ?_
     clear hK K
     try simp only[Act.put,Z1,Z2,Z3,Z4,Z5,Z6]
     refine along_done ?_
     have HR2:=lh (show RowAt (wr.setCell ⟨ab,m,none⟩ (.int .i64 (t:Int))).drew w.heap.size (.slice (some ⟨ab,0,none⟩) M M) (Plain.aftIn q (i+1) A) by rw[HNX.out];exact (HRI.out.set m (t:Int) it).chg (Chg.refl [] _).drew (by simp))
     have HC2:=lh (show Chg [ab] w3 (wr.setCell ⟨ab,m,none⟩ (.int .i64 (t:Int))).drew from (HCI.out.setCell (p:=⟨ab,m,none⟩) (Or.inl (by simp)) (.int .i64 (t:Int))).drew)
     clear hS0 a1 f1 a0 af d0 d1 y0 hri hci
     generalize (wr.setCell ⟨ab,m,none⟩ (.int .i64 (t:Int))).drew=w9 at *
     go_wp2
     go_roundw
     case rel=>exact⟨i+1,by omega,by go_num,HR2.out,HC2.out⟩
     case measure=>simp[intOf];omega
    have e:i=q.length:=by omega
    subst e
    clear hil hi
    go_wp2_with fail
    refine⟨⟨k+1,by omega,by go_num,by rw[HA.out];exact HRI.out,?_⟩,by simp[intOf];omega⟩
    exact (HC.out.trans HYC.out (by simp)).trans HCI.out (fun j hj=>Or.inl hj)
  have e:k=s.faces.length:=by omega
  subst e
  have s0:=HC.out.cell q0 (show sb ∉ [ab] from by
   rw[List.mem_singleton]
   intro e
   have:=HB.out.kind.lt
   have:=HAB.out
   omega)
  clear hlt hk
  have HAF:=lh (show RowAt wr w.heap.size (.slice (some ⟨ab,0,none⟩) M M) (Plain.afterF M s.faces) from HROW.out)
  have hcw:Chg [] w1 wr:=(C2.out.trans HC.out (fun j hj=>Or.inr (by rw[List.mem_singleton.1 hj,HZ.out];exact Nat.le_refl _)))
  have HW1:=lh hcw
  obtain⟨x0,x1,-⟩:=HXB.out wr hcw
  have HNN:=lh HB.out.n
  have hbl:b.e.length≤1024:=by
   have:=rises_len (Plain.Pt.err_ok HF.out.pe).2.2.1
   omega
  clear hcw hrow hc HROW
  go_wp2_with (at_make;refine wl_mk elemRow rfl _ _ rfl (B:=wr.heap.size) (n:=N) (by show Value.int .i64 g.n=_;rw[HNN.out]) (by show Value.int .i64 g.n=_;rw[HNN.out]) (Nat.le_refl _) (by omega) ?_;intro w4 h4 c4;have H4:=lh (nest_made h4);have C4:=lh c4;clear h4 c4;clear s0;replace x0:=C4.out.cell x0 (by simp);replace x1:=C4.out.cell x1 (by simp))
  obtain⟨tb,htb⟩:∃ tb,wr.heap.size=tb:=⟨_,rfl⟩
  have HTB:=lh htb
  rw[htb] at H4 ⊢
  clear htb
  generalize wr=wz at *
  obtain⟨A,hA⟩:∃ A,Plain.afterF M s.faces=A:=⟨_,rfl⟩
  have HAR:=lh (fun (v:Nat) (hv:v<N) (k:Nat) (hk:k<(Plain.first (Plain.turnAt turn v)).length)=>(show A.getD ((Plain.first (Plain.turnAt turn v)).getD k 0).toNat 0=(Plain.first (Plain.turnAt turn v)).getD ((k+1) % (Plain.first (Plain.turnAt turn v)).length) 0 from by
   rw[←hA]
   exact Plain.after_row HF.out HDM.out (by rw[HNN.out];omega) hk))
  rw[hA] at HAF
  clear hA
  have HDL:=lh (Plain.darts_length b)
  go_loopw [12,13,14,15,66] (fun _ _ _ _ c wx=>∃ k:Nat,k≤b.e.length∧c=.int .i64 k∧∃ ts,Nest wx tb 25 1 (.slice (some ⟨tb,0,none⟩) N N) N ts (rowsT g b turn N (2*k))∧Chg [] wz wx) (fun _ _ _ _ c _=>b.e.length - (intOf c).toNat)
  case atStart=>exact⟨0,Nat.zero_le _,rfl,_,by rw[Nat.mul_zero,rowsT_zero];exact H4.out,C4.out⟩
  case round =>
   obtain⟨k,hk,rfl,ts,hne,hcx⟩:=hrel
   have HNE:=lh hne
   have HCX:=lh hcx
   by_cases hlt:k<b.e.length
   ·have hww:=(HXC.out.trans HW1.out (by simp)).trans hcx (by simp)
    have HWW:=lh hww
    obtain⟨eb,eoff,ebo,hec⟩:=hbc (by intro q;rw[q] at hlt;simp at hlt)
    have ec:=hww.cell (hec k hlt) (by simp)
    have her:=Plain.rises_at (Plain.Pt.err_ok HF.out.pe).2.2.1 hlt
    obtain⟨en,hen⟩:∃ en:Nat,b.e.getD k 0=en:=⟨(b.e.getD k 0).toNat,by omega⟩
    rw[hen] at ec her
    have HDJ:=lh (show ∀ j,j<2→b.darts.getD (2*k+j) 0=((2*en+j:Nat):Int) from fun j hj=>by
     rw[Plain.darts_getD hlt j hj,hen]
     omega)
    have hjl:∀ j,j<2→2*k+j<b.darts.length:=fun j hj=>by have:=HDL.out;omega
    have HJL:=lh hjl
    have henl:en<g.e.length:=by omega
    have hki:(k:Int)<(b.e.length:Int):=by omega
    have hen2:(en:Int)≤1024:=by omega
    obtain⟨x0,x1,-⟩:=HXB.out wr (HW1.out.trans hcx (by simp))
    clear hec her hen hjl hww x0 x1
    subst ebo
    go_wp2_with fail
    clear ec
    go_loopw [13,14,15] (fun c _ _ wx=>∃ j:Nat,j≤2∧c=.int .i64 ((2*en+j:Nat):Int)∧∃ ts,Nest wx tb 25 1 (.slice (some ⟨tb,0,none⟩) N N) N ts (rowsT g b turn N (2*k+j))∧Chg [] wz wx) (fun c _ _ _=>2*en+2 - (intOf c).toNat)
    case atStart=>exact⟨0,by omega,by go_num,ts,HNE.out,HCX.out⟩
    case round =>
     obtain⟨j,hj,rfl,ts,hne,hcy⟩:=hrel
     have HNJ:=lh hne
     have HCY:=lh hcy
     have HCT:=lh hcy
     by_cases hj2:j<2
     ·have hcw:=(HXC.out.trans HW1.out (by simp)).trans hcy (by simp)
      have hgi:=HB.out.gri.fresh hcw
      have s0:=hgi.c0
      have s1:=hgi.c1
      have HGR:=lh hgi.gr
      obtain⟨d,hd⟩:∃ d:Nat,2*en+j=d:=⟨_,rfl⟩
      have hJ:=HJL.out j hj2
      have hdJ:=HDJ.out j hj2
      rw[hd] at hdJ ⊢
      obtain⟨J,hJe⟩:∃ J,2*k+j=J:=⟨_,rfl⟩
      rw[hJe] at hJ hdJ HNJ
      have hd2:d / 2<g.e.length:=by omega
      obtain⟨v,hv,hvN⟩:=dart_nat HB.out.err HNN.out hd2
      have hdM:=HDM.out _ (Plain.getD_mem hJ)
      rw[hdJ] at hdM
      have hdM2:d<M:=by omega
      have HTV:=lh hv
      have HJE:=lh (show 2*k+(j+1)=J+1 by omega)
      have HDE:=lh (show 2*en+(j+1)=d+1 by omega)
      have htl:g.tail (b.darts.getD J 0)=v:=by rw[hdJ];exact hv
      have hdle:(d:Int)≤2*(en:Int)+1:=by omega
      have hvi:(v:Int)<(N:Int):=by omega
      have hdi:(d:Int)<(M:Int):=by omega
      have hj3:j+1≤2:=by omega
      have hms:2*en+2 - (d+1)<2*en+2 - d:=by omega
      have tcell:=HNJ.out.cell (k:=v) (by rw[HNJ.out.cells];omega)
      have trow:=HNJ.out.row (rowsT_at hvN)
      obtain⟨R,hR⟩:∃ R,Plain.first (Plain.turnAt turn v)=R:=⟨_,rfl⟩
      have hgl:g.e.length<4294967296:=by omega
      by_cases hT:Plain.dartsTo g b v J=[]
      ·rw[if_pos hT] at trow
       obtain⟨l,hl⟩:=Plain.first_least HF.out.to_ (Plain.Pt.ok_of_err HF.out.pe) (Plain.rises_pair (Plain.Pt.err_ok HF.out.pe).2.2.1) (v:=v) (by rw[HNN.out];omega) hJ htl hT
       rw[hdJ,hR] at hl
       have HRN:=lh (show R.Nodup by rw[←hR];exact (Plain.first_perm _).nodup_iff.2 (HF.out.to_.nodup _))
       have HRM:=lh (show ∀ x∈R,0≤x∧x.toNat<M from fun x hx=>by
        rw[←hR] at hx
        exact HDM.out x ((HF.out.to_.mem v (by omega) (by rw[HNN.out];omega) x).1 ((Plain.first_perm _).mem_iff.1 hx)).1)
       have hRA:=HAR.out v hvN
       rw[hR] at hRA
       have HRA:=lh hRA
       have hRl:R.length≤2048:=by
        have:=Plain.small_len (N:=2048) HRN.out fun x hx=>by
         have:=HRM.out x hx
         omega
        exact this
       have hR0:R.getD 0 0=d:=by rw[hl];rfl
       have HR0:=lh hR0
       have hRp:0<R.length:=by rw[hl];simp
       have HR1:=lh (show R.take 1=[(d:Int)] by rw[hl];rfl)
       have HPUT:=lh (show (rowsT g b turn N J).set v (.row R)=rowsT g b turn N (J+1) by rw[←hR];exact rowsT_put hJ hvN htl)
       have HAC:=lh (show ∀ wx,Chg [] w wx∨True→∀ x:Nat,x<M→RowAt wx w.heap.size (.slice (some ⟨ab,0,none⟩) M M) A→wx.cell? ⟨ab,x,none⟩=some (.int .i64 (A.getD x 0)) from fun wx _ x hx hr=>by
        obtain⟨hML,-⟩:=row_cap hr
        obtain⟨gg,eg,hcc⟩:=hr.some (by omega)
        simp only[Option.some.injEq,Addr.mk.injEq,and_true] at eg
        subst eg
        exact hcc x (by omega))
       obtain⟨e1,he1⟩:∃ e1:Nat,R.getD (1 % R.length) 0=e1:=⟨(R.getD (1 % R.length) 0).toNat,by have:=HRM.out _ (Plain.getD_mem (show 1 % R.length<R.length from Nat.mod_lt _ hRp));omega⟩
       have HE1:=lh he1
       have hA1:A.getD d 0=(e1:Int):=by
        have h:=hRA 0 hRp
        rw[hR0,Int.toNat_natCast,Nat.zero_add,he1] at h
        exact h
       have HA1:=lh hA1
       have idx:I64 (d:Int):=I64.mk (by omega) (by omega)
       clear hv hJ hdJ hdM htl hR trow hJe hgi hcw hne hcy hd hl hR0 hRA he1 hA1 tcell
       go_wp2_with fail
       refine (dleaves_any _ g d _ hd2 hgl HGR.out).mono ?_
       rw[HTV.out]
       rintro e w9 ⟨rfl,hc9⟩
       obtain⟨va,vc,va',vc',w10,p1,p2,p3,p4,⟨ts1,p5⟩,p6⟩:=rows_grow (l:=[]) (x:=(d:Int)) (HNJ.out.fresh hc9) hvN (by rw[rowsT_at hvN,if_pos hT]) idx (by simp)
       simp only[List.length_nil,Nat.zero_add,List.nil_append] at p1 p2 p3 p4 p5 p6
       have HP2:=lh p2
       have HC10:=lh (p6 _ (HCT.out.trans hc9 (by simp)) HTB.out)
       have hrA:=HAF.out.chg HC10.out (by simp)
       have ac:=HAC.out _ (Or.inr trivial) d hdM2 hrA
       rw[HA1.out] at ac
       have HN10:=lh p5
       clear p2 p5 p6 hrA s0 s1 hc9
       go_wp2_with (at_builtin;refine wl_apprun rfl _ _ 25 rfl rfl rfl HP2.out ?_)
       clear ac p1 p3 p4 HP2
       generalize w10.setCell ⟨tb,v,none⟩ (.slice va' 1 vc')=w11 at *
       go_loopg [15] (R.length+1) (fun fuel c wx=>∃ kk:Nat,1≤kk∧kk≤R.length∧c=.int .i64 (R.getD (kk % R.length) 0)∧(∃ ts,Nest wx tb 25 1 (.slice (some ⟨tb,0,none⟩) N N) N ts ((rowsT g b turn N J).set v (.row (R.take kk))))∧Chg [] wz wx∧R.length<fuel+kk∧fuel≤R.length+1)
       case atStart=>exact⟨1,Nat.le_refl _,by omega,by rw[HE1.out],⟨ts1,by rw[HR1.out];exact HN10.out⟩,HC10.out,by omega,Nat.le_refl _⟩
       case round =>
        obtain⟨kk,hk1,hkR,rfl,⟨ts2,hn2⟩,hcz,hfu,hfl⟩:=hrel
        have HN2:=lh hn2
        have HCZ:=lh hcz
        by_cases hkl:kk<R.length
        ·have hmod:kk % R.length=kk:=Nat.mod_eq_of_lt hkl
         obtain⟨xm,hxm⟩:∃ xm:Nat,R.getD kk 0=xm:=⟨(R.getD kk 0).toNat,by have:=HRM.out _ (Plain.getD_mem hkl);omega⟩
         have hxM:=HRM.out _ (Plain.getD_mem hkl)
         rw[hxm] at hxM
         have hxM2:xm<M:=by omega
         have hne0:¬ (xm:Int)=(d:Int):=by
          intro e
          have h1:=Plain.idxOf_at HRN.out hkl
          have h2:=Plain.idxOf_at HRN.out hRp
          rw[hxm,e,←HR0.out,h2] at h1
          omega
         have hneb:((xm:Int)==(d:Int))=false:=by rw[beq_eq_false_iff_ne];exact hne0
         have hlt2:(kk+1) % R.length<R.length:=Nat.mod_lt _ hRp
         obtain⟨e2,he2⟩:∃ e2:Nat,R.getD ((kk+1) % R.length) 0=e2:=⟨(R.getD ((kk+1) % R.length) 0).toNat,by have:=HRM.out _ (Plain.getD_mem hlt2);omega⟩
         have hA2:A.getD xm 0=(e2:Int):=by
          have h:=HRA.out kk hkl
          rw[hxm,Int.toNat_natCast,he2] at h
          exact h
         have HA2:=lh hA2
         have HE2:=lh he2
         have ixx:I64 (xm:Int):=I64.mk (by omega) (by omega)
         have hlk:(R.take kk).length=kk:=by rw[List.length_take];omega
         have HTK:=lh (show R.take kk++[(xm:Int)]=R.take (kk+1) by
          rw[List.take_add_one,←hxm]
          simp[List.getD,hkl])
         obtain⟨va,vc,va',vc',w12,p1,p2,p3,p4,⟨ts3,p5⟩,p6⟩:=rows_grow (l:=R.take kk) (x:=(xm:Int)) hn2 hvN (by rw[List.getElem?_set_self (by simp[rowsT];exact hvN)]) ixx (by rw[hlk];omega)
         rw[hlk] at p1 p2 p3 p5 p6
         rw[HTK.out,set_set'] at p5
         have HP2:=lh p2
         have HC12:=lh (p6 _ hcz HTB.out)
         have hrA:=HAF.out.chg HC12.out (by simp)
         have ac:=HAC.out _ (Or.inr trivial) xm hxM2 hrA
         rw[HA2.out] at ac
         have HN12:=lh p5
         have hxi:(xm:Int)<(M:Int):=by omega
         have hgp:0<gk:=by omega
         have hg1:R.length<gk - 1+(kk+1):=by omega
         have hg2:gk - 1≤R.length+1:=by omega
         rw[hmod,hxm]
         clear p2 p5 p6 hrA hn2 hcz hxm hxM hmod hlk he2 hA2 hfu hfl hne0
         go_wp2_with (at_builtin;refine wl_apprun rfl _ _ 25 rfl rfl rfl HP2.out ?_)
         go_roundg (gk - 1)
         case measure=>omega
         case rel=>exact⟨kk+1,by omega,by omega,by rw[HE2.out],⟨ts3,HN12.out⟩,HC12.out,hg1,hg2⟩
        have e:kk=R.length:=by omega
        subst e
        have hmod:R.length % R.length=0:=Nat.mod_self _
        rw[hmod,HR0.out]
        rw[List.take_length] at HN2
        clear hmod hn2 hcz hfu hfl hkl
        go_wp2
        exact⟨⟨j+1,hj3,by have:=HDE.out;congr 1;omega,ts2,by rw[HJE.out,←HPUT.out];exact HN2.out,HCZ.out⟩,by simp[intOf];omega⟩
      have HSK:=lh (rowsT_skip (turn:=turn) (N:=N) hJ hvN htl hT)
      rw[if_neg hT,hR] at trow
      have hRl:0<R.length:=by
       obtain⟨y,hy⟩:=List.exists_mem_of_ne_nil _ hT
       unfold Plain.dartsTo at hy
       obtain⟨hy1,hy2⟩:=List.mem_filter.1 hy
       have h3:=(HF.out.to_.mem v (by omega) (by rw[HNN.out];omega) y).2 ⟨List.mem_of_mem_take hy1,of_decide_eq_true hy2⟩
       rw[←hR]
       exact List.length_pos_of_mem ((Plain.first_perm _).mem_iff.2 h3)
      obtain⟨ro,rcc,er⟩:=trow.shape
      rw[er] at tcell
      clear hv hJ hdJ hdM htl hT hR trow er hJe hgi hcw hne hcy hd
      go_wp2_with fail
      refine (dleaves_any _ g d _ hd2 hgl HGR.out).mono ?_
      rw[HTV.out]
      rintro e w9 ⟨rfl,hc9⟩
      have t9:=hc9.cell tcell (by simp)
      have HC9:=lh (HCY.out.trans hc9 (by simp))
      have HN9:=lh (HNJ.out.fresh hc9)
      clear hc9 tcell s0 s1
      go_wp2
      exact⟨⟨j+1,hj3,by have:=HDE.out;congr 1;omega,_,by rw[HJE.out,←HSK.out];exact HN9.out,HC9.out⟩,by simp[intOf];omega⟩
     have e2:j=2:=by omega
     subst e2
     have hdd:¬ ((2*en+2:Nat):Int)≤2*(en:Int)+1:=by omega
     go_wp2
     refine⟨⟨k+1,by omega,by go_num,_,by rw[show 2*(k+1)=2*k+2 by omega];exact HNJ.out,HCT.out⟩,by simp[intOf];omega⟩
   have e:k=b.e.length:=by omega
   subst e
   clear hlt hk
   go_wp2
   go_ret
   have hfin:=HNE.out
   rw[←HDL.out,rowsT_all HF.out.to_ HNN.out] at hfin
   exact⟨tb,ts,rfl,hfin.base (by rw[←HTB.out];exact Nat.le_trans HXC.out.size HW1.out.size),(HXC.out.trans HW1.out (by simp)).trans HCX.out (by simp)⟩
end Go.Proofs.Ytbkjljffnkdcjaa
namespace Go.Proofs.Ytbkjljffnkdcjaa.Plain
def edgeF (g:Gr) (e:Int):List (List Int):=if (g.at e).1=(g.at e).2 then [[2*e],[2*e+1]] else [[2*e,2*e+1]]
def drawnF (g:Gr) (b:Pt):Option (List (List Int)):=if b.e.length=1 then some (edgeF g (b.e.getD 0 0)) else (skRun g b.v b.e.length (beginF g b)).map (·.faces)
def BlockR (g:Gr) (b:Pt) (err:Int) (t:List (List Int)):Prop :=
 (b.err g≠0∧err=b.err g∧t=[])∨(b.err g=0∧¬ SolidP g b∧err=10∧t=[])∨(b.err g=0∧SolidP g b∧(2<b.e.length∧PathOk g b∧drawnF g b=none)∧err=8∧t=[]) ∨
  (b.err g=0∧SolidP g b∧err=0∧∃ turn F,drawnF g b=some F∧Faces g b turn F∧t=turn.map first)
theorem ring_same {q r:Int→Int} {f:List Int} (h:Ring q f) (k:Ring r f):∀ x∈f,q x=r x:=fun x hx=>by
 obtain⟨i,hi,rfl⟩:=mem_getD hx
 rw[←ring_nth h hi,←ring_nth k hi]
theorem faces_one {g:Gr} {p:Pt} {t u F:List (List Int)} (h:Faces g p t F) (k:Faces g p u F):t.map first=u.map first:=by
 have hp:=Pt.ok_of_err h.pe
 have hn:∀ d∈p.darts,nextDart g t d=nextDart g u d:=fun d hd=>by
  obtain⟨f,hf,hdf⟩:=List.mem_flatten.1 (h.all.mem_iff.2 hd)
  exact ring_same (h.rings.ring f hf) (k.rings.ring f hf) d hdf
 have hl1:=h.to_.len
 have hl2:=k.to_.len
 refine List.ext_getElem (by simp;omega) fun i h1 h2=>?_
 rw[List.length_map] at h1 h2
 rw[List.getElem_map,List.getElem_map]
 have e1:turnAt t i=t[i]:=by unfold turnAt;simp[List.getD,h1]
 have e2:turnAt u i=u[i]:=by unfold turnAt;simp[List.getD,h2]
 rw[←e1,←e2]
 have m1:=h.to_.mem i (by omega) (by omega)
 have m2:=k.to_.mem i (by omega) (by omega)
 refine first_turn (h.to_.nodup _) ((List.perm_ext_iff_of_nodup (h.to_.nodup _) (k.to_.nodup _)).2 fun x=>by rw[m1,m2]) fun y hy=>?_
 obtain⟨hy1,hy2⟩:=(m1 y).1 hy
 have h3:=hn (twin y) (twin_mem hy1)
 unfold nextDart before at h3
 rw[twin_twin,hy2] at h3
 exact h3
theorem BlockR.bad {g:Gr} {p:Pt} {err:Int} {t:List (List Int)} (h:BlockR g p err t) (h0:p.err g≠0):err=p.err g∧t=[]:=by
 rcases h with ⟨-,h1,h2⟩ | ⟨h,-⟩ | ⟨h,-⟩ | ⟨h,-⟩
 ·exact⟨h1,h2⟩
 ·exact absurd h h0
 ·exact absurd h h0
 exact absurd h h0
theorem BlockR.split {g:Gr} {p:Pt} {err:Int} {t:List (List Int)} (h:BlockR g p err t) (h0:p.err g=0) (hs:¬ SolidP g p):err=10∧t=[]:=by
 rcases h with ⟨h,-⟩ | ⟨-,-,h1,h2⟩ | ⟨-,h,-⟩ | ⟨-,h,-⟩
 ·exact absurd h0 h
 ·exact⟨h1,h2⟩
 ·exact absurd h hs
 exact absurd h hs
theorem solid_ne {g:Gr} {p:Pt} (h0:p.err g=0) (hs:SolidP g p):p.v≠[]:=fun q=>by
 obtain⟨e,l,he,-⟩:=hs.1
 have:=((Pt.ok_of_err h0).ends e (by rw[he];simp)).1
 rw[q] at this
 simp at this
theorem BlockR.solid {g:Gr} {p:Pt} {err:Int} {t:List (List Int)} (h:BlockR g p err t) (h0:p.err g=0) (hs:SolidP g p):((2<p.e.length∧PathOk g p∧drawnF g p=none)∧err=8∧t=[])∨(drawnF g p≠none∧err=0∧flatErr g p t=0∧TurnsOk g p t∧t.map first=t):=by
 rcases h with ⟨h,-⟩ | ⟨-,h,-⟩ | ⟨-,-,hd,h1,h2⟩ | ⟨-,-,h1,turn,F,hd,hF,h2⟩
 ·exact absurd h0 h
 ·exact absurd hs h
 ·exact Or.inl ⟨hd,h1,h2⟩
 refine Or.inr ⟨by rw[hd];simp,h1,?_,?_,?_⟩
 ·rw[h2,flatErr_first]
  exact hF.flat (solid_ne h0 hs)
 ·rw[h2];exact hF.to_.first
 rw[h2,List.map_map]
 refine List.map_congr_left fun l _=>first_first l
theorem BlockR.one {g:Gr} {p:Pt} {err err2:Int} {t t2:List (List Int)} (h:BlockR g p err t) (k:BlockR g p err2 t2):err2=err∧t2=t:=by
 by_cases h0:p.err g=0
 ·by_cases hs:SolidP g p
  ·rcases h with ⟨h,-⟩ | ⟨-,h,-⟩ | ⟨-,-,⟨-,-,hd⟩,h1,h2⟩ | ⟨-,-,h1,turn,F,hd,hF,h2⟩
   ·exact absurd h0 h
   ·exact absurd hs h
   ·rcases k with ⟨h,-⟩ | ⟨-,h,-⟩ | ⟨-,-,-,k1,k2⟩ | ⟨-,-,k1,turn,F,kd,hF,k2⟩
    ·exact absurd h0 h
    ·exact absurd hs h
    ·exact⟨by rw[h1,k1],by rw[h2,k2]⟩
    rw[hd] at kd;cases kd
   rcases k with ⟨h,-⟩ | ⟨-,h,-⟩ | ⟨-,-,⟨-,-,kd⟩,k1,k2⟩ | ⟨-,-,k1,turn2,F2,kd,kF,k2⟩
   ·exact absurd h0 h
   ·exact absurd hs h
   ·rw[hd] at kd;cases kd
   rw[hd] at kd
   cases kd
   exact⟨by rw[h1,k1],by rw[h2,k2];exact (faces_one hF kF).symm⟩
  obtain⟨a,b⟩:=h.split h0 hs
  obtain⟨c,d⟩:=k.split h0 hs
  exact⟨by rw[a,c],by rw[b,d]⟩
 obtain⟨a,b⟩:=h.bad h0
 obtain⟨c,d⟩:=k.bad h0
 exact⟨by rw[a,c],by rw[b,d]⟩
end Go.Proofs.Ytbkjljffnkdcjaa.Plain
namespace Go.Proofs.Ytbkjljffnkdcjaa
open Go.RowKit Go.Maps
theorem rows_nil (w:World):RowsAt w (.slice none 0 0) []:=⟨none,0,rfl,by simp,by simp⟩
theorem Nest.reads {w:World} {B n:Nat} {ov:Value} {xs:List Value} {ll:List (List Int)} (h:Nest w B 25 1 ov n xs (ll.map Cell.row)):RowsAt w ov ll∧n=ll.length:=by
 have hn:n=ll.length:=by
  have h1:=h.len
  have h2:=h.cells
  simp at h1
  omega
 subst hn
 refine⟨?_,rfl⟩
 obtain⟨ao,c,e⟩:=h.shape
 have hcap:ll.length≤9223372036854775807:=by
  rcases h.out.2 with ⟨-,q⟩ | ⟨g',c',cur,q,-,-,h3,h4,-⟩
  ·omega
  simp[maxLen] at h4
  omega
 refine⟨ao,c,e,hcap,fun i hi=>?_⟩
 have hxl:xs.length=ll.length:=by have:=h.cells;omega
 obtain⟨g',c',e2⟩:=h.some (by omega)
 rw[e2] at e h
 simp only[Value.slice.injEq] at e
 have hr:=h.row (k:=i) (l:=ll.getD i []) (by rw[List.getElem?_map];simp[List.getD,hi])
 refine⟨g',0,xs.getD i undef,e.1.symm,by rw[Nat.zero_add];exact h.cell (by omega),?_,hr.ints⟩
 rcases hr.1.2 with ⟨q,-⟩ | ⟨g2,c2,cur,q,-,-,h3,h4,-⟩
 ·rw[q];exact⟨none,0,0,rfl,by simp,by simp⟩
 exact⟨_,_,_,q,h3,by simpa[maxLen] using h4⟩
theorem rest_le {g:Plain.Gr} {b p:Plain.Pt} {s:Plain.Sk} {turn:List (List Int)} (h:Plain.SkOk g b s p turn):s.rest.length≤s.left:=by
 unfold Plain.Sk.left
 refine Plain.flatMap_ge (f:=fun c:Plain.Scrap=>c.edges) fun r hr=>?_
 have h2:=(h.scr r hr).two
 obtain⟨v,hv⟩:=List.exists_mem_of_length_pos (l:=r.ends) (by omega)
 rw[(h.scr r hr).ends] at hv
 obtain⟨-,e,he,-⟩:=Plain.mem_endsOf.1 hv
 exact List.ne_nil_of_mem he
theorem single_rows {g:Plain.Gr} {p:Plain.Pt} {e N:Nat} (_hp:Plain.PartOk g p) (hr:p.e.Pairwise (·<·)) (he:p.e=[(e:Int)]) (hN:g.n=N):rowsJ g e 2 N=((Plain.oneTurn g p).map Plain.first).map Cell.row:=by
 refine List.ext_getElem (by simp[rowsJ,Plain.oneTurn,hN]) fun i h1 h2=>?_
 simp only[rowsJ,Plain.oneTurn,List.getElem_map,List.getElem_range]
 rw[Plain.oneJ_all he]
 congr 1
 symm
 refine Plain.first_begun fun k hk=>?_
 have hs:(Plain.dartsAt g p i).Pairwise (·<·):=(Plain.darts_pair hr).filter _
 rcases Nat.eq_zero_or_pos k with q | q
 ·rw[q];exact Int.le_refl _
 have h0:0<(Plain.dartsAt g p i).length:=by omega
 have:=(List.pairwise_iff_getElem.1 hs) 0 k h0 hk q
 simp only[List.getD,List.getElem?_eq_getElem h0,List.getElem?_eq_getElem hk,Option.getD_some]
 omega
set_option maxRecDepth 100000 in
set_option maxHeartbeats 8000000 in
theorem block_any (vg vp:Value) (g:Plain.Gr) (p:Plain.Pt) (w:World) (hpl:p.v.length≤100000) (hg:GrAt w vg g) (hp:PtAt w vp p) :
  Calls Try.prog 6 #[vg,vp] w fun e w'=>∃ v err t,e=.returned (.tuple #[v,.int .i64 err])∧Plain.BlockR g p err t∧RowsAt w' v t∧Chg [] w w':=by
 have HG:=lh hg
 have HP:=lh hp
 obtain⟨eo,cap,rfl,hn,hm,hsm,hcell⟩:=hg
 obtain⟨v1,v2,rfl,hv,he⟩:=hp
 obtain⟨ao,ac,rfl,has,ham,hacell⟩:=hv
 obtain⟨bo,bc,rfl,hbs,hbm,hbcell⟩:=he
 have HAC:=lh hacell
 have HBC:=lh hbcell
 have HAS:=lh has
 have HBS:=lh hbs
 obtain⟨-,-,hc1⟩:=box_two w #[.int .i64 g.n,.slice eo g.e.length cap] #[.slice ao p.v.length ac,.slice bo p.e.length bc] 24 27
 have HC1:=lh hc1
 have HBXS:=lh (fun w2 h=>two_boxes w (g:=g) (p:=p) (eo:=eo) (ao:=ao) (bo:=bo) (cap:=cap) (ac:=ac) (bc:=bc) (w2:=w2) h)
 clear hcell hacell hbcell hsm has hbs hn hc1
 obtain⟨x0,x1,y0,y1,hsz⟩:=HBXS.out _ (Chg.refl _ _)
 go_enter Try.func6,Try.ntmps6
 go_wp2_with fail
 obtain⟨w1,hw1⟩:∃ w1,((w.alloc (.cells #[.int .i64 g.n,.slice eo g.e.length cap] 24)).alloc (.cells #[.slice ao p.v.length ac,.slice bo p.e.length bc] 27))=w1:=⟨_,rfl⟩
 rw[hw1] at HC1 HBXS ⊢
 clear hw1 x0 x1 y0 y1 hsz
 refine (rightPart_any _ _ g p _ (by omega) (HG.out.fresh HC1.out) (HP.out.fresh HC1.out)).mono ?_
 rintro e w2 ⟨rfl,hc2⟩
 have HC2:=lh (HC1.out.trans hc2 (by simp))
 have HC2B:=lh hc2
 obtain⟨x0,x1,y0,y1,hsz⟩:=HBXS.out _ hc2
 clear hc2
 by_cases h0:p.err g=0
 ·rw[h0]
  have H0:=lh h0
  clear h0
  go_wp2_with fail
  refine (bsolid_any _ _ g p _ hpl (HG.out.fresh HC2.out) (HP.out.fresh HC2.out)).mono ?_
  rintro e w3 ⟨rfl,hc3⟩
  have HC3:=lh (HC2.out.trans hc3 (by simp))
  have HC3B:=lh (HC2B.out.trans hc3 (by simp))
  clear hc3 x0 x1 y0 y1 hsz
  obtain⟨x0,x1,y0,y1,hsz⟩:=HBXS.out _ HC3B.out
  cases hs:Plain.solidB g p with
  | false =>
   have hns:¬ Plain.SolidP g p:=fun q=>by rw[Plain.solidB_iff.2 ⟨H0.out,q⟩] at hs;cases hs
   clear hs
   go_wp2
   refine bodyPost_ret (v:=.tuple #[.slice none 0 0,.int .i64 10]) (by simp[results,Try.results6,go_sem]) rfl ?_
   exact⟨_,10,[],rfl,Or.inr (Or.inl ⟨H0.out,hns,rfl,rfl⟩),rows_nil _,HC3.out⟩
  | true =>
   have hsol:Plain.SolidP g p:=(Plain.solidB_iff.1 hs).2
   have HSO:=lh hsol
   have he0:0<p.e.length:=by
    obtain⟨e0,l,he,-⟩:=hsol.1
    rw[he];simp
   clear hs hsol
   have HPK:=lh (Plain.Pt.ok_of_err H0.out)
   have HPO:=lh (Plain.Pt.err_ok H0.out)
   have HGE:=lh (Plain.Gr.err_ok HPO.out.1)
   obtain⟨N,hN⟩:∃ N:Nat,g.n=N:=⟨g.n.toNat,by have:=HGE.out.1;omega⟩
   have HN:=lh hN
   have hel:p.e.length≤1024:=by
    have h1:=rises_len HPO.out.2.2.1
    have h2:=HGE.out.2.2.1
    have h3:=HGE.out.1
    omega
   by_cases h1:p.e.length=1
   ·have H1:=lh h1
    obtain⟨e,he⟩:∃ e,p.e=[e]:=List.length_eq_one_iff.1 h1
    have hee:0≤e∧e<g.e.length:=by
     have:=Plain.rises_at HPO.out.2.2.1 (i:=0) (by omega)
     rw[he] at this
     exact⟨this.1,this.2.1⟩
    obtain⟨en,hen⟩:∃ en:Nat,e=en:=⟨e.toNat,by omega⟩
    subst hen
    have HE:=lh he
    have henl:en<g.e.length:=by omega
    obtain⟨bb,boff,rfl,hbc⟩:=HBC.out (by rw[he];simp)
    have ce:=HC3.out.cell (hbc 0 (by omega)) (by simp)
    rw[he,Nat.add_zero] at ce
    have hb1:((p.e.length:Int)==1)=true:=by rw[h1];rfl
    have hb0:0<p.e.length:=he0
    have ce':w3.cell? ⟨bb,boff,none⟩=some (.int .i64 (en:Nat)):=ce
    clear hbc he hee ce hN
    go_wp2_with fail
    have hS0:Chg [] w3 w3.drew:=(Chg.refl [] w3).drew
    refine wp_region_way (Chg [] w3) [0,1,2,3,4,6,7] (Way.line [0,1,2,3,4,5,6,7] .done) (by kernel_rfl) (by kernel_rfl) ?_
    simp only[Way.line]
    repeat
     first
      | (refine along_off rfl (by rfl) (by rfl) (fun _ _ _ h=>h) hS0 ?_;simp only[Act.put,Z1,Z2,Z3,Z4,Z5,Z6])
      | (refine along_read (v:=?_) rfl (by rfl) (by rfl) (fun _ _ _ h=>h) hS0 (fun w' hS'=>?_) ?_;rotate_left;(focus (have rd0:=hS'.cell x0 (by simp);have rd1:=hS'.cell x1 (by simp);have rd2:=hS'.cell y0 (by simp);have rd3:=hS'.cell y1 (by simp);have rd4:=hS'.cell ce' (by simp);clear hS';go_simp;try with_reducible rfl));simp only[Act.put,Z1,Z2,Z3,Z4,Z5,Z6])
      | (refine along_skip rfl (by rfl) (by rfl) hS0 ?_;simp only[Act.put,Z1,Z2,Z3,Z4,Z5,Z6])
    refine along_op rfl (by rfl) (by rfl) (fun K hK=>?_)
    go_simp
    refine (single_any _ g en N _ HPO.out.1 HN.out henl ((HG.out.fresh HC3.out).fresh hS0)).mono ?_
    rintro e w4 ⟨ob,ts,rfl,hns,hc4⟩
    have hS1:Chg [] w3 w4:=hS0.trans hc4 (by simp)
    refine hK.out _ _ (fun _=>hS1) ?_
    clear hK K hS0 hc4
    try simp only[Act.put,Z1,Z2,Z3,Z4,Z5,Z6]
    repeat
     first
      | (refine along_off rfl (by rfl) (by rfl) (fun _ _ _ h=>h) hS1 ?_;simp only[Act.put,Z1,Z2,Z3,Z4,Z5,Z6])
      | (refine along_read (v:=?_) rfl (by rfl) (by rfl) (fun _ _ _ h=>h) hS1 (fun w' hS'=>?_) ?_;rotate_left;(focus (skip;clear hS';go_simp;try with_reducible rfl));simp only[Act.put,Z1,Z2,Z3,Z4,Z5,Z6])
      | (refine along_skip rfl (by rfl) (by rfl) hS1 ?_;simp only[Act.put,Z1,Z2,Z3,Z4,Z5,Z6])
    refine along_done ?_
    rw[single_rows HPK.out (Plain.rises_pair HPO.out.2.2.1) HE.out HN.out] at hns
    have HNS:=lh hns
    have HC4:=lh (HC3.out.trans hS1 (by simp))
    clear hns hS1 ce' x0 x1 y0 y1
    go_wp2
    refine bodyPost_ret (v:=.tuple #[.slice (some ⟨ob,0,none⟩) N N,.int .i64 0]) (by simp[results,Try.results6,go_sem]) rfl ?_
    have HDF:=lh (show Plain.drawnF g p=some (Plain.edgeF g (en:Int)) from by unfold Plain.drawnF;rw[if_pos H1.out,HE.out];rfl)
    refine⟨_,0,_,rfl,Or.inr (Or.inr (Or.inr ⟨H0.out,HSO.out,rfl,Plain.oneTurn g p,_,HDF.out,Plain.edge_faces H0.out HE.out (fun v=>?_),rfl⟩)),HNS.out.reads.1,HC4.out⟩
    constructor
    ·intro hv
     obtain⟨d,hd,e1⟩:=HSO.out.2 v hv
     have h2:=Plain.mem_darts.1 hd
     rw[HE.out,List.mem_singleton] at h2
     rcases Plain.dart_ats g d with ⟨j1,-⟩ | ⟨j1,-⟩
     ·left;rw[←e1,j1,h2]
     right;rw[←e1,j1,h2]
    have:=HPK.out.ends (en:Int) (by rw[HE.out];simp)
    rintro (r | r)
    ·rw[r];exact this.1
    rw[r];exact this.2
   have h2:2≤p.e.length:=by omega
   have hb1:((p.e.length:Int)==1)=false:=by rw[beq_eq_false_iff_ne];omega
   clear hN
   go_wp2_with fail
   refine (begin_any _ _ g p N _ H0.out HN.out he0 (HG.out.fresh HC3.out) (HP.out.fresh HC3.out)).mono ?_
   rintro e w4 ⟨sb,ob,vE,fv,rv,xs,ys,rfl,hsk,hpo,hc4⟩
   obtain⟨p1,turn1,hok,hlf⟩:=Plain.begin_ok H0.out HSO.out h2 hpo
   have HSK:=lh hsk
   have HOK:=lh hok
   have HLF:=lh hlf
   have HPA:=lh hpo
   have HNF:=lh (show Plain.drawnF g p=(Plain.skRun g p.v p.e.length (Plain.beginF g p)).map (·.faces) from by unfold Plain.drawnF;rw[if_neg h1])
   clear hsk hpo hc4 hok hlf x0 x1 y0 y1 hsz
   go_wp2_with fail
   go_loopg [8,9] (p.e.length+1) (fun fuel c8 c9 wx=>∃ (fv rv:Value) (xs ys:List Value) (s:Plain.Sk) (p1:Plain.Pt) (turn1:List (List Int)),SkOwn w3 wx sb ob N g vE fv rv xs ys s∧Plain.SkOk g p s p1 turn1∧s.left+2≤p.e.length∧s.left<fuel∧fuel≤p.e.length+1∧Hid (∃ m,s.left≤m∧(Plain.skRun g p.v m s).map (·.faces)=Plain.drawnF g p))
   case atStart=>exact⟨fv,rv,xs,ys,_,p1,turn1,HSK.out,HOK.out,HLF.out,by have:=HLF.out;omega,Nat.le_refl _,lh ⟨p.e.length,by have:=HLF.out;omega,HNF.out.symm⟩⟩
   case round =>
    obtain⟨fv2,rv2,xs2,ys2,s,p2,turn2,hsk,hok,hl1,hl2,hl3,HM⟩:=hrel
    have HS2:=lh hsk
    have HK2:=lh hok
    have hrl:=rest_le hok
    have q4:=hsk.base.q4
    obtain⟨ro,rc,hrs⟩:=hsk.rest.shape
    subst hrs
    have HCX:=lh hsk.base.chg
    obtain⟨x0,x1,y0,y1,-⟩:=HBXS.out _ (HC3B.out.trans HCX.out (by simp))
    by_cases hr:s.rest=[]
    ·have hl0:s.rest.length=0:=by rw[hr];rfl
     have HDN:=lh (show Plain.drawnF g p=some s.faces from by
      obtain⟨m,-,hm⟩:=HM.out
      rw[←hm,Plain.skRun_end hr]
      rfl)
     have HFC:=lh (Plain.drawn_whole H0.out HSO.out hok hr)
     rw[hl0] at q4
     clear hsk hok hl1 hl2 hl3 hrl hr hl0
     go_wp2_with fail
     refine (turns_any w3 _ sb ob N vE _ _ _ xs2 ys2 g p s turn2 HS2.out HFC.out ((HP.out.fresh HC3.out).fresh HCX.out)).mono ?_
     rintro e w7 ⟨tb,ts,rfl,hns,hc7⟩
     have HNS:=lh hns
     have HC7:=lh ((HC3.out.trans HCX.out (by simp)).trans hc7 (by simp))
     clear hns hc7 q4 x0 x1 y0 y1
     go_wp2
     refine bodyPost_ret (v:=.tuple #[.slice (some ⟨tb,0,none⟩) N N,.int .i64 0]) (by simp[results,Try.results6,go_sem]) rfl ?_
     exact⟨_,0,_,rfl,Or.inr (Or.inr (Or.inr ⟨H0.out,HSO.out,rfl,turn2,_,HDN.out,HFC.out,rfl⟩)),HNS.out.reads.1,HC7.out⟩
    have hpos:0<s.rest.length:=List.length_pos_iff.2 hr
    have hlp:=Plain.left_pos hok hr
    have HR:=lh hr
    have hlim:s.rest.length<1000000:=by omega
    have h3:2<p.e.length:=by omega
    clear hsk hok hr
    go_wp2_with fail
    refine (choose_any sb w3.heap.size _ ys2 s.rest _ hlim q4 HS2.out.rest).mono ?_
    rintro e w7 ⟨rfl,rfl⟩
    cases hch:Plain.choose s.rest with
    | none =>
     rw[chooseV_none hch]
     have HDN:=lh (show Plain.drawnF g p=none from by
      obtain⟨m,hm1,hm⟩:=HM.out
      obtain⟨m',rfl⟩:∃ m',m=m'+1:=⟨m - 1,by omega⟩
      rw[←hm,Plain.skRun_none HR.out hch]
      rfl)
     clear hch
     go_wp2
     refine bodyPost_ret (v:=.tuple #[.slice none 0 0,.int .i64 8]) (by simp[results,Try.results6,go_sem]) rfl ?_
     exact⟨_,8,[],rfl,Or.inr (Or.inr (Or.inl ⟨H0.out,HSO.out,⟨h3,HPA.out,HDN.out⟩,rfl,rfl⟩)),rows_nil _,HC3.out.trans HCX.out (by simp)⟩
    | some i =>
     rw[chooseV_some hch]
     obtain⟨hi,hif⟩:=Plain.choose_some HR.out hch
     obtain⟨p3,turn3,hok3,hlt3⟩:=Plain.put_ok H0.out HSO.out HK2.out hi hif
     have HK3:=lh hok3
     have HM3:=lh (show ∃ m,(s.put g p.v i).left≤m∧(Plain.skRun g p.v m (s.put g p.v i)).map (·.faces)=Plain.drawnF g p from by
      obtain⟨m,hm1,hm⟩:=HM.out
      obtain⟨m',rfl⟩:∃ m',m=m'+1:=⟨m - 1,by omega⟩
      exact⟨m',by omega,by rw[←hm,Plain.skRun_some HR.out hch]⟩)
     have hgp:0<gk:=by omega
     have hg1:(s.put g p.v i).left<gk - 1:=by omega
     have hg2:(s.put g p.v i).left+2≤p.e.length:=by omega
     have hg3:gk - 1≤p.e.length+1:=by omega
     clear hch hok3 q4 x0 x1 y0 y1 hl1 hl2 hl3 hlt3 hrl hpos hlp h3
     go_wp2_with fail
     refine (skput_any w3 _ sb ob N i vE fv2 _ xs2 ys2 g p s p2 turn2 HS2.out H0.out HK2.out hi hif).mono ?_
     rintro e w8 ⟨rfl,fv4,rv4,xs4,ys4,hs4⟩
     have HS4:=lh hs4
     clear hs4 hi hif
     go_wp2
     go_roundg (gk - 1)
     case measure=>omega
     case rel=>exact⟨fv4,rv4,xs4,ys4,_,p3,turn3,HS4.out,HK3.out,hg2,hg1,hg3,HM3⟩
 have HNE:=lh h0
 have hcat:Hid (Plain.BlockR g p (p.err g) []):=lh (Or.inl ⟨h0,rfl,rfl⟩)
 obtain⟨er,her⟩:∃ er,p.err g=er:=⟨_,rfl⟩
 rw[her] at hcat h0 ⊢
 have hb:(er != 0)=true:=by simpa using h0
 have hb2:¬ er=0:=h0
 clear HNE her
 go_wp2
 refine bodyPost_ret (v:=.tuple #[.slice none 0 0,.int .i64 er]) (by simp[results,Try.results6,go_sem]) rfl ?_
 exact⟨_,er,[],rfl,hcat.out,rows_nil _,HC2.out⟩
end Go.Proofs.Ytbkjljffnkdcjaa
