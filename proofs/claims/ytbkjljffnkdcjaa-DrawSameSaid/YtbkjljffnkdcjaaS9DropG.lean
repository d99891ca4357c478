/- package graph: the contract of Drop. Conditions: a part that lies in memory and reads so. -/
import Derived.Test.YtbkjljffnkdcjaaS9SkQ
import Derived.Lib.AppendZeros
namespace Go.Proofs.Ytbkjljffnkdcjaa
open Go.RowKit Go.Maps
namespace Plain
def dropE (p:Pt) (x:Int):Pt:=⟨p.v,p.e.filter fun e=>e != x⟩
end Plain
set_option maxRecDepth 100000 in
set_option maxHeartbeats 2000000 in
theorem drop_any (vp:Value) (p:Plain.Pt) (x:Int) (w:World) (hvl:p.v.length<1000000) (hel:p.e.length<1000000) (hp:PtAt w vp p) :
  Calls Try.prog 27 #[vp,.int .i64 x] w fun e w'=>∃ v1 v2,e=.returned (.agg #[v1,v2])∧PtAt w' (.agg #[v1,v2]) (Plain.dropE p x)∧Chg [] w w':=by
 obtain⟨v1,v2,rfl,hv,he⟩:=hp
 have HV:=lh hv
 have HE:=lh he
 obtain⟨ao,ac,rfl,-,-,-⟩:=hv
 obtain⟨bo,bc,rfl,hbi,-,-⟩:=he
 have HBI:=lh hbi
 have HXC:=lh (show Chg [] w (((w.alloc (.cells #[.slice ao p.v.length ac,.slice bo p.e.length bc] 27)).alloc (.cells #[.slice none 0 0,.slice none 0 0] 27)).alloc (.cells #[.slice none 0 0,.slice none 0 0] 27)) from (show Chg [] w (((w.alloc (.cells #[.slice ao p.v.length ac,.slice bo p.e.length bc] 27)).alloc (.cells #[.slice none 0 0,.slice none 0 0] 27)).alloc (.cells #[.slice none 0 0,.slice none 0 0] 27)) from ((((Chg.refl [] w).alloc _).alloc _).alloc _)))
 have qbx0:=heap_alloc_new w (.cells #[.slice ao p.v.length ac,.slice bo p.e.length bc] 27)
 replace qbx0:=(show Chg [] (w.alloc (.cells #[.slice ao p.v.length ac,.slice bo p.e.length bc] 27)) (((w.alloc (.cells #[.slice ao p.v.length ac,.slice bo p.e.length bc] 27)).alloc (.cells #[.slice none 0 0,.slice none 0 0] 27)).alloc (.cells #[.slice none 0 0,.slice none 0 0] 27)) from (((Chg.refl [] (w.alloc (.cells #[.slice ao p.v.length ac,.slice bo p.e.length bc] 27))).alloc _).alloc _)).heap qbx0 (by simp)
 have qbx1:=heap_alloc_new (w.alloc (.cells #[.slice ao p.v.length ac,.slice bo p.e.length bc] 27)) (.cells #[.slice none 0 0,.slice none 0 0] 27)
 rw[show (w.alloc (.cells #[.slice ao p.v.length ac,.slice bo p.e.length bc] 27)).heap.size=w.heap.size+1 by simp] at qbx1
 replace qbx1:=(show Chg [] ((w.alloc (.cells #[.slice ao p.v.length ac,.slice bo p.e.length bc] 27)).alloc (.cells #[.slice none 0 0,.slice none 0 0] 27)) (((w.alloc (.cells #[.slice ao p.v.length ac,.slice bo p.e.length bc] 27)).alloc (.cells #[.slice none 0 0,.slice none 0 0] 27)).alloc (.cells #[.slice none 0 0,.slice none 0 0] 27)) from ((Chg.refl [] ((w.alloc (.cells #[.slice ao p.v.length ac,.slice bo p.e.length bc] 27)).alloc (.cells #[.slice none 0 0,.slice none 0 0] 27))).alloc _)).heap qbx1 (by simp)
 have qbx2:=heap_alloc_new ((w.alloc (.cells #[.slice ao p.v.length ac,.slice bo p.e.length bc] 27)).alloc (.cells #[.slice none 0 0,.slice none 0 0] 27)) (.cells #[.slice none 0 0,.slice none 0 0] 27)
 rw[show ((w.alloc (.cells #[.slice ao p.v.length ac,.slice bo p.e.length bc] 27)).alloc (.cells #[.slice none 0 0,.slice none 0 0] 27)).heap.size=w.heap.size+2 by simp] at qbx2
 have HX:=lh (fun (w2:World) (hbx:Chg [] (((w.alloc (.cells #[.slice ao p.v.length ac,.slice bo p.e.length bc] 27)).alloc (.cells #[.slice none 0 0,.slice none 0 0] 27)).alloc (.cells #[.slice none 0 0,.slice none 0 0] 27)) w2)=>(⟨hbx.cell ((cell_of_row _ _ 0 _ _ _ qbx0).trans rfl) (by simp),hbx.cell ((cell_of_row _ _ 1 _ _ _ qbx0).trans rfl) (by simp),hbx.heap qbx1 (by simp),hbx.heap qbx2 (by simp),by have hz:=hbx.size;simpa using hz⟩:w2.cell? ⟨w.heap.size,0,none⟩=some (.slice ao p.v.length ac)∧w2.cell? ⟨w.heap.size,1,none⟩=some (.slice bo p.e.length bc)∧w2.heap[w.heap.size+1]?=some (.cells #[.slice none 0 0,.slice none 0 0] 27 (0,0))∧w2.heap[w.heap.size+2]?=some (.cells #[.slice none 0 0,.slice none 0 0] 27 (0,0))∧w.heap.size+3≤w2.heap.size))
 clear qbx0 qbx1 qbx2
 have HXZ:=lh (show (((w.alloc (.cells #[.slice ao p.v.length ac,.slice bo p.e.length bc] 27)).alloc (.cells #[.slice none 0 0,.slice none 0 0] 27)).alloc (.cells #[.slice none 0 0,.slice none 0 0] 27)).heap.size=w.heap.size+3 by simp)
 clear hbi
 obtain⟨x0,x1,r4,r5,hsz⟩:=HX.out _ (Chg.refl _ _)
 have q0:=(cell_of_row _ _ 0 _ _ _ r5).trans (show _=some (Value.slice none 0 0) from rfl)
 have q1:=(cell_of_row _ _ 1 _ _ _ r5).trans (show _=some (Value.slice none 0 0) from rfl)
 have HR5:=lh r5
 have HR4:=lh r4
 clear r4 r5
 have HEV:=lh (HV.out.fresh HXC.out)
 go_enter Try.func27,Try.ntmps27
 have hvv:RowAt (((w.alloc (.cells #[.slice ao p.v.length ac,.slice bo p.e.length bc] 27)).alloc (.cells #[.slice none 0 0,.slice none 0 0] 27)).alloc (.cells #[.slice none 0 0,.slice none 0 0] 27)) (w.heap.size+3) (.slice none 0 0) []:=rowNil' _ _
 have HVV:=lh hvv
 have HSZ:=lh (show (((w.alloc (.cells #[.slice ao p.v.length ac,.slice bo p.e.length bc] 27)).alloc (.cells #[.slice none 0 0,.slice none 0 0] 27)).alloc (.cells #[.slice none 0 0,.slice none 0 0] 27)).heap.size=w.heap.size+3 by simp)
 have hvl2:p.v.length<4294967296:=by omega
 clear hvv
 go_wp2_with (at_builtin;refine wl_app_read rfl _ _ rfl (B:=w.heap.size+3) rfl rfl HVV.out HEV.out (Nat.le_of_eq HSZ.out.symm) (by simp;omega) ?_;intro v4 w4 r4 c4 f4;rw[List.nil_append] at r4;obtain⟨vo,vc,rfl⟩:=r4.shape;have c4:Chg [] _ w4:=c4;have s0:=c4.cell q0 (by simp);have s1:=c4.cell q1 (by simp);have e1:=c4.cell x1 (by simp);have g0:=free_at (c4.heap HR5.out (by simp)) 0;have R4:=lh r4;have C4:=lh (HXC.out.trans c4 (by simp));have H54:=lh (c4.heap HR5.out (by simp));have HXW:=lh (fun wx (h:Chg [w.heap.size+2] w4 wx)=>And.intro (h.cell (c4.cell x0 (by simp)) (by simp)) (And.intro (h.cell (c4.cell x1 (by simp)) (by simp)) (h.heap (c4.heap HR4.out (by simp)) (by simp))));clear r4 c4 f4)
 obtain⟨pb,hpb⟩:∃ n,w.heap.size+2=n:=⟨_,rfl⟩
 have hp11:w.heap.size+1+1=pb:=by omega
 rw[hpb] at H54 HXW
 rw[hp11]
 have HPB:=lh hpb
 have hset:Chg [pb] w4 (w4.setCell ⟨pb,0,none⟩ (.slice vo p.v.length vc)):=(Chg.refl _ w4).setCell (Or.inl (by simp)) _
 have HC5:=lh hset
 have H55:=lh (heap_setCell_same H54.out 0 (.slice vo p.v.length vc))
 have hkd:∀ (wx:World) (v:Value) (q:List Int) (B:Nat),RowAt wx B v q→(∃ cs,wx.heap[pb]?=some (.cells cs 27 (0,0)))→pb ∉ v.ownBlock.toList:=fun _ _ _ _ h ⟨cs0,h0⟩ q=>by
  obtain⟨cs,r,hh⟩:=row_kind h _ (by rw[h.foot];exact q)
  rw[h0] at hh
  simp at hh
 have HKD:=lh hkd
 have HV5:=lh (R4.out.chg hset (fun b hb q=>hkd _ _ _ _ R4.out ⟨_,H54.out⟩ (by rw[List.mem_singleton] at q;rw[←q];exact hb)))
 clear hset hkd s0 s1 e1 g0 q0 q1 x0 x1 hp11 hpb
 generalize w4.setCell ⟨pb,0,none⟩ (.slice vo p.v.length vc)=w5 at *
 go_loopw [7,17] (fun _ c wr=>∃ k:Nat,k≤p.e.length∧c=.int .i64 k∧∃ uo uc,wr.heap[pb]?=some (.cells #[.slice vo p.v.length vc,.slice uo ((p.e.take k).filter fun e=>e != x).length uc] 27 (0,0))∧RowAt wr w5.heap.size (.slice uo ((p.e.take k).filter fun e=>e != x).length uc) ((p.e.take k).filter fun e=>e != x)∧Chg [pb] w5 wr) (fun _ c _=>p.e.length - (intOf c).toNat)
 case atStart=>exact⟨0,Nat.zero_le _,rfl,none,0,H55.out,rowNil' _ _,Chg.refl _ _⟩
 case round =>
  obtain⟨k,hk,rfl,uo,uc,ho,hr,hc⟩:=hrel
  have HO:=lh ho
  have HR:=lh hr
  have HC:=lh hc
  have HC4R:=lh (HC5.out.trans hc (fun j hj=>Or.inl hj))
  have HC0R:=lh (C4.out.trans HC4R.out (fun j hj=>Or.inr (by rw[List.mem_singleton] at hj;have:=HPB.out;omega)))
  have o0:=(cell_of_row _ _ 0 _ _ _ ho).trans (show _=some (Value.slice vo p.v.length vc) from rfl)
  have o1:=(cell_of_row _ _ 1 _ _ _ ho).trans (show _=some (Value.slice uo ((p.e.take k).filter fun e=>e != x).length uc) from rfl)
  obtain⟨x0,x1,r4⟩:=HXW.out wr HC4R.out
  have HR4x:=lh r4
  clear ho hr hc r4
  by_cases hlt:k<p.e.length
  ·obtain⟨rb,roff,rfl,rc⟩:=IntsAt.cellAt HE.out hlt
   have rcell:=HC0R.out.cell rc (by simp)
   have HTK:=lh (show (p.e.take (k+1)).filter (fun e=>e != x)=(p.e.take k).filter (fun e=>e != x)++(if (p.e.getD k 0 != x)=true then [p.e.getD k 0] else []) from Plain.filter_take_succ _ hlt)
   have hi64:I64 (p.e.getD k 0):=HBI.out _ (Plain.getD_mem hlt)
   have HML:=lh (show ((p.e.take k).filter fun e=>e != x).length≤1000000 by have h1:=List.length_filter_le (fun e=>e != x) (p.e.take k);rw[List.length_take] at h1;omega)
   obtain⟨M,hM⟩:∃ M,(p.e.take k).filter (fun e=>e != x)=M:=⟨_,rfl⟩
   obtain⟨y,hy⟩:∃ y,p.e.getD k 0=y:=⟨_,rfl⟩
   rw[hM] at HO HR HTK HML o1
   rw[hy] at HTK hi64 rcell
   have hml:M.length<4294967290:=by have:=HML.out;omega
   have HB5:=lh HC.out.size
   clear rc hM hy
   cases hb:(y != x) with
   | true =>
    have HTT:=lh (show (p.e.take (k+1)).filter (fun e=>e != x)=M++[y] by rw[HTK.out,hb];rfl)
    go_wp2_with (at_builtin;refine wl_push rfl _ _ rfl (B:=w5.heap.size) (v:=.slice uo M.length uc) rfl rfl HR.out hi64 HB5.out hml rfl ?_;intro v6 w6 r6 c6 f6;obtain⟨o6,c66,rfl⟩:=r6.shape;have hn6:pb ∉ foot (Value.slice uo M.length uc):=HKD.out _ _ _ _ HR.out ⟨_,HO.out⟩;have t1:=c6.cell o1 hn6;have t0:=c6.cell o0 hn6;have t2:=free_at (c6.heap HO.out hn6) 1;have H66:=lh (c6.heap HO.out hn6);have R6:=lh r6;have C6:=lh c6;clear r6 c6 f6 hn6)
    go_roundw
    case rel =>
     have hl:(M++[y]).length=M.length+1:=by simp
     have h6:=R6.out
     rw[hl] at h6
     have hset:Chg [pb] w6 (w6.setCell ⟨pb,1,none⟩ (.slice o6 (M.length+1) c66)):=(Chg.refl [pb] w6).setCell (Or.inl (by simp)) _
     refine⟨k+1,by omega,by go_num,o6,c66,?_,?_,?_⟩
     ·rw[HTT.out,hl];exact heap_setCell_same H66.out 1 _
     ·rw[HTT.out,hl];exact h6.chg hset (fun b hb q=>HKD.out _ _ _ _ h6 ⟨_,H66.out⟩ ((List.mem_singleton.1 q) ▸ hb))
     exact (HC.out.trans C6.out (fun j hj=>Or.inr ((HR.out.low j (by rw[←HR.out.foot];exact hj)).1))).trans hset (fun j hj=>Or.inl hj)
    case measure=>simp[intOf];omega
   | false =>
    have HTT:=lh (show (p.e.take (k+1)).filter (fun e=>e != x)=M by rw[HTK.out,hb];simp)
    go_wp2
    go_roundw
    case rel=>exact⟨k+1,by omega,by go_num,uo,uc,by rw[HTT.out];exact HO.out,by rw[HTT.out];exact HR.out,HC.out⟩
    case measure=>simp[intOf];omega
  have e:k=p.e.length:=by omega
  subst e
  rw[List.take_length] at HO HR o1
  have r4:=HR4x.out
  have f0:=free_at r4 0
  have f1:=free_at r4 1
  obtain⟨tb,htb⟩:∃ n,w.heap.size+1=n:=⟨_,rfl⟩
  have HTB:=lh htb
  rw[htb] at r4 f0 f1 ⊢
  obtain⟨M,hM⟩:∃ M,p.e.filter (fun e=>e != x)=M:=⟨_,rfl⟩
  have HM:=lh hM
  rw[hM] at HO HR o1
  have r0:=(cell_of_row _ _ 0 _ _ _ r4).trans (show _=some (Value.slice none 0 0) from rfl)
  have r1:=(cell_of_row _ _ 1 _ _ _ r4).trans (show _=some (Value.slice none 0 0) from rfl)
  have hset:Chg [tb] wr ((wr.setCell ⟨tb,0,none⟩ (.slice vo p.v.length vc)).setCell ⟨tb,1,none⟩ (.slice uo M.length uc)):=((Chg.refl _ wr).setCell (Or.inl (by simp)) _).setCell (Or.inl (by simp)) _
  have hheap:=heap_setCell_same (heap_setCell_same r4 0 (.slice vo p.v.length vc)) 1 (.slice uo M.length uc)
  have HQ0:=lh ((cell_of_row _ _ 0 _ _ _ hheap).trans (show _=some (Value.slice vo p.v.length vc) from rfl))
  have HQ1:=lh ((cell_of_row _ _ 1 _ _ _ hheap).trans (show _=some (Value.slice uo M.length uc) from rfl))
  have hkt:∀ (v:Value) (q:List Int) (B:Nat),RowAt wr B v q→∀ b∈v.ownBlock.toList,b ∉ [tb]:=fun v q B h b hb e=>by
   obtain⟨cs,r,hh⟩:=row_kind h b (by rw[h.foot];exact hb)
   rw[List.mem_singleton] at e
   rw[e,r4] at hh
   simp at hh
  have hrv:=HV5.out.chg HC.out (fun b hb q=>HKD.out _ _ _ _ HV5.out ⟨_,H55.out⟩ (by rw[List.mem_singleton] at q;rw[←q];exact hb))
  have HRV:=lh ((hrv.chg hset (hkt _ _ _ hrv)).ints)
  have HRE:=lh ((HR.out.chg hset (hkt _ _ _ HR.out)).ints)
  have HCF:=lh (HC0R.out.trans hset (fun j hj=>Or.inr (by rw[List.mem_singleton] at hj;have:=HTB.out;omega)))
  have hne:¬ pb=tb:=by have:=HPB.out;omega
  have hne2:¬ tb=pb:=by have:=HPB.out;omega
  clear hset hheap hkt hrv htb hM x0 x1 hlt hk
  go_wp2
  refine bodyPost_ret (v:=.agg #[.slice vo p.v.length vc,.slice uo M.length uc]) (by have h0:=HQ0.out;have h1:=HQ1.out;simp[results,Try.results27,go_sem,h0,h1]) rfl ?_
  exact⟨_,_,rfl,⟨_,_,rfl,HRV.out,by show IntsAt _ _ (p.e.filter fun e=>e != x);rw[HM.out];exact HRE.out⟩,HCF.out⟩
set_option maxRecDepth 100000 in
set_option maxHeartbeats 1000000 in
theorem grow_any (n:Nat) (w:World) (hn:n<100000000) :
  Calls Try.prog 51 #[.slice none 0 0,.int .i64 n] w fun e w'=>∃ v',e=.returned v'∧RowAt w' w.heap.size v' []∧Chg [] w w':=by
 obtain⟨i0,hi,hz0,hz1,hz2⟩:=info_parts elemInt.hi
 go_enter Try.func51,Try.ntmps51
 rcases n with _ | n
 ·go_wp2
  go_ret
  exact⟨_,rfl,rowNil' _ _,Chg.refl _ _⟩
 have hr:=Go.Lib.run_append_nil_zeros (P:=Try.prog) w 25 3 25 3 i0 (.int .i64 0) .i64 .i64 elemInt.ht Try.underlying3 hi hz0 (n+1) (by omega) (by omega) (by omega) (by rw[hz2];omega)
 have hng:((n+1:Nat):Int) > 0:=by omega
 have hnn:¬ ((n+1:Nat):Int)<0:=by omega
 generalize hN:n+1=N at *
 go_wp2_with (at_builtin;refine Go.Lib.wpList_append_run _ rfl _ _ _ _ rfl _ _ rfl rfl _ _ hr ?_)
 have hge:=grownCap_ge w N 0 3
 have hle:=grownCap_le_maxLen w N 0 3 (by unfold maxLen;omega)
 have hsz:(Builtin.zeroCells #[Value.int .i64 0] N++Builtin.zeroCells #[Value.int .i64 0] (grownCap w N 0 3 - N)).size=grownCap w N 0 3*1:=by
  simp only[Array.size_append,size_zeroCells]
  show N*1+(grownCap w N 0 3 - N)*1=_
  omega
 generalize Builtin.zeroCells #[Value.int .i64 0] N++Builtin.zeroCells #[Value.int .i64 0] (grownCap w N 0 3 - N)=Z at *
 generalize grownCap w N 0 3=G at *
 clear hr
 have hh:=heap_alloc_new w (.cells Z 3)
 go_ret
 refine⟨_,rfl,⟨⟨by simp[ints],Or.inr ⟨w.heap.size,G,Z,rfl,Nat.le_refl _,hh,by simp,hle,hsz,by simp[ints]⟩⟩,by simp,by simp⟩,((Chg.refl [] w).alloc _).drew⟩
def catN (Ls:List (List Int)) (k:Nat):List Int:=(Ls.take k).flatten
theorem catN_snoc {Ls:List (List Int)} {k:Nat} (hk:k<Ls.length):catN Ls (k+1)=catN Ls k++Ls.getD k []:=by
 unfold catN
 rw[List.take_succ_eq_append_getElem hk,List.flatten_append]
 simp[List.getD,hk]
theorem catN_le (Ls:List (List Int)) (k:Nat):(catN Ls k).length≤Ls.flatten.length:=by
 unfold catN
 have h:(Ls.take k).flatten++(Ls.drop k).flatten=Ls.flatten:=by rw[←List.flatten_append,List.take_append_drop]
 have:=congrArg List.length h
 rw[List.length_append] at this
 omega
set_option maxRecDepth 100000 in
set_option maxHeartbeats 2000000 in
theorem concat_any (bb n c:Nat) (vs:Nat→Value) (Ls:List (List Int)) (w:World) (hn:Ls.length=n) (hnl:n<1000000) (hl:Ls.flatten.length<100000000) (hc:∀ k,k<n→w.cell? ⟨bb,k,none⟩=some (vs k)∧IntsAt w (vs k) (Ls.getD k [])) :
  Calls Try.prog 28 #[.slice (some ⟨bb,0,none⟩) n c] w fun e w'=>∃ v',e=.returned v'∧RowAt w' w.heap.size v' Ls.flatten∧Chg [] w w':=by
 have HC:=lh hc
 have HLE:=lh (catN_le Ls)
 clear hc
 go_enter Try.func28,Try.ntmps28
 go_wp2_with fail
 go_loopw [3,5,11] (fun c3 _ c wr=>∃ k:Nat,k≤n∧c=.int .i64 k∧c3=.int .i64 ((catN Ls k).length:Nat)∧wr=w) (fun _ _ c _=>n - (intOf c).toNat)
 case atStart=>exact⟨0,Nat.zero_le _,rfl,rfl,rfl⟩
 case round =>
  obtain⟨k,hk,rfl,rfl,rfl⟩:=hrel
  by_cases hlt:k<n
  ·obtain⟨hcell,hints⟩:=HC.out k hlt
   obtain⟨uo,uc,eu,-,-,-⟩:=hints
   rw[eu] at hcell
   have HSN:=lh (show (catN Ls (k+1)).length=(catN Ls k).length+(Ls.getD k []).length by rw[catN_snoc (by omega),List.length_append])
   have h1:=HLE.out k
   have h2:=HLE.out (k+1)
   rw[HSN.out] at h2
   have hs0:¬ (((catN Ls k).length:Int)+((Ls.getD k []).length:Int)<0):=by omega
   obtain⟨a,ha⟩:∃ a,(catN Ls k).length=a:=⟨_,rfl⟩
   obtain⟨b,hb⟩:∃ b,(Ls.getD k []).length=b:=⟨_,rfl⟩
   rw[ha] at HSN h1 h2 hs0 ⊢
   rw[hb] at HSN h2 hs0 hcell
   clear ha hb eu
   go_wp2
   go_roundw
   case rel=>exact⟨k+1,by omega,by go_num,by rw[HSN.out];go_num,trivial⟩
   case measure=>simp[intOf];omega
  have e:k=n:=by omega
  subst e
  have HFL:=lh (show catN Ls k=Ls.flatten by unfold catN;rw[List.take_of_length_le (by omega)])
  rw[HFL.out]
  obtain⟨T,hT⟩:∃ T,Ls.flatten.length=T:=⟨_,rfl⟩
  have HT:=lh hT
  rw[hT] at hl ⊢
  clear hT
  go_wp2_with fail
  refine (grow_any T _ hl).mono ?_
  rintro e w2 ⟨v2,rfl,hr2,hc2⟩
  obtain⟨o2,c2,rfl⟩:=hr2.shape
  obtain⟨B,hB⟩:∃ B,wr.heap.size=B:=⟨_,rfl⟩
  have HB:=lh hB
  rw[hB] at hr2
  have HR2:=lh hr2
  have HC2:=lh hc2
  clear hr2 hc2 hlt hk hB
  go_wp2_with fail
  go_loopw [6,8,27] (fun c6 _ c wx=>∃ i:Nat,i≤k∧c=.int .i64 i∧RowAt wx B c6 (catN Ls i)∧Chg [] wr wx) (fun _ _ c _=>k - (intOf c).toNat)
  case atStart=>exact⟨0,Nat.zero_le _,rfl,HR2.out,HC2.out⟩
  case round =>
   obtain⟨i,hi,rfl,hr,hcx⟩:=hrel
   have HR:=lh hr
   have HCX:=lh hcx
   obtain⟨oo,oc,rfl⟩:=hr.shape
   clear hr hcx
   by_cases hli:i<k
   ·obtain⟨hcell,hints⟩:=HC.out i hli
    have HIN:=lh (hints.fresh HCX.out)
    obtain⟨uo,uc,eu,-,-,-⟩:=hints
    have HSN:=lh (catN_snoc (Ls:=Ls) (k:=i) (by omega))
    have h2:=HLE.out (i+1)
    rw[HSN.out,HT.out,List.length_append] at h2
    have ck:=HCX.out.cell hcell (by simp)
    rw[eu] at ck
    have hIN:=HIN.out
    rw[eu] at hIN
    have HIN2:=lh hIN
    obtain⟨M,hM⟩:∃ M,catN Ls i=M:=⟨_,rfl⟩
    obtain⟨L,hL⟩:∃ L,Ls.getD i []=L:=⟨_,rfl⟩
    rw[hM] at HR HSN h2 ⊢
    rw[hL] at HSN h2 ck HIN2
    have HSZ:=lh (by have:=HCX.out.size;rwa[HB.out] at this)
    have hsum:M.length+L.length<4294967296:=by omega
    clear hcell eu hIN hM hL h2
    go_wp2_with (at_builtin;refine wl_app_read rfl _ _ rfl (B:=B) (v:=.slice oo _ oc) rfl rfl HR.out HIN2.out HSZ.out hsum ?_;intro v6 w6 r6 c6 f6;have R6:=lh r6;have C6:=lh c6;clear r6 c6 f6)
    go_roundw
    case rel=>exact⟨i+1,by omega,by go_num,by rw[HSN.out];exact R6.out,HCX.out.trans C6.out (fun j hj=>Or.inr (by rw[HB.out];exact (HR.out.low j (by rw[←HR.out.foot];exact hj)).1))⟩
    case measure=>simp[intOf];omega
   have e:i=k:=by omega
   subst e
   rw[HFL.out] at HR ⊢
   clear hi hli
   go_wp2
   go_ret
   exact⟨_,rfl,by rw[HB.out];exact HR.out,HCX.out⟩
theorem revI_any (v:Value) (l:List Int) (B:Nat) (w:World) (hn:l.length<1000000000) (h:RowAt w B v l) :
  Calls Try.prog 73 #[v] w fun e w'=>e=.returned (.tuple #[])∧RowAt w' B v l.reverse∧Chg v.ownBlock.toList w w':=by
 obtain⟨ao,c,rfl⟩:=h.shape
 by_cases h0:l=[]
 ·subst h0
  refine (Try.slices_Reverse_int_empty ao c w).mono ?_
  rintro e w' ⟨rfl,rfl⟩
  exact⟨rfl,h,Chg.refl _ _⟩
 obtain⟨g,cap,e⟩:=owns_some h.1 (List.length_pos_iff.2 h0)
 cases e
 have hl:(ints l).length=l.length:=by simp[ints]
 have hown:=h.1
 rw[←hl] at hown
 have hH:Go.Sort.Holds (Value.int .i64) w g 0 l.toArray:=sorted_holds hown (by simp[ints])
 refine (Try.slices_Reverse_int g 0 _ l w hH (by omega)).mono ?_
 rintro e w' ⟨rfl,n,rfl⟩
 have hs:l.reverse.length=l.length:=List.length_reverse
 have he:Go.Sort.putRow (Value.int .i64) (Go.Sort.ahead w n) g 0 l.reverse.toArray=sortWorld (Value.int .i64) w g 0 n l.reverse.toArray #[]:=by
  unfold sortWorld
  simp[Go.Sort.grow]
  rfl
 rw[he]
 have hso:=sorted_owns (enc:=Value.int .i64) (n:=n) (os:=#[]) (d:=l.reverse.toArray) hown (by simp[hl])
 refine⟨rfl,⟨?_,fun x hx=>h.2.1 x (List.mem_reverse.1 hx),by rw[hs];exact h.2.2⟩,?_⟩
 ·rw[hl] at hso
  rw[hs]
  exact hso
 exact sorted_chg (Value.int .i64) w g n #[] _
namespace Plain
theorem Trc.inv {g:Gr} {came:Came} {a u:Int} {l:List Int} (h:Trc g came a u l):(l=[]∧u=a)∨∃ d m,l=m++[d]∧u≠a∧came u=some d∧0≤d∧Trc g came a (g.tail d) m:=by
 cases h with
 | here=>exact Or.inl ⟨rfl,rfl⟩
 | step h1 h2 h3 h4 h5 h6=>exact Or.inr ⟨_,_,rfl,h1,h2,h3,h5⟩
end Plain
set_option maxRecDepth 100000 in
set_option maxHeartbeats 2000000 in
theorem traced_any (sb N m mb:Nat) (vE:Value) (g:Plain.Gr) (came:Plain.Came) (a:Int) (v:Nat) (l:List Int) (w:World) (hG:GrIn w sb g vE N) (hM:IMap w mb m came) (hv:v<1000000) (hb:came a=some (-1)) (ht:Plain.Trc g came a v l) (hl:l.length<1000000) (hd:∀ d∈l,0≤d∧d / 2<g.e.length) :
  Calls Try.prog 57 #[.pointer (some ⟨sb,0,none⟩),.map (some mb),.int .i64 v] w fun e w'=>∃ v',e=.returned v'∧RowAt w' w.heap.size v' l∧Chg [] w w':=by
 have HG:=lh hG
 have HM:=lh hM
 have HB:=lh hb
 have HD:=lh hd
 have HT:=lh ht
 have HSM:=lh hG.small
 have I64v:I64 (v:Int):=I64.mk (by omega) (by omega)
 have HGV:=lh (show (came (v:Int)).getD 0=(came (v:Int)).getD 0 from rfl)
 obtain⟨d0,hd0⟩:∃ d0,(came (v:Int)).getD 0=d0:=⟨_,rfl⟩
 have HD0:=lh hd0
 rw[hd0] at HGV
 clear hG hM hb hd ht hd0
 go_enter Try.func57,Try.ntmps57
 go_wp2_with (at_lookup;refine wp_look _ rfl _ _ rfl HM.out rfl I64v rfl HD0.out ?_)
 go_loopg [7,8] (l.length+1) (fun fuel c7 c8 wr=>∃ (u z:Int) (l1 M:List Int),c8=.int .i64 z∧RowAt wr w.heap.size c7 M∧Hid (z=(came u).getD 0∧Plain.Trc g came a u l1∧l=l1++M.reverse)∧l1.length<fuel∧fuel≤l.length+1∧Chg [] w wr)
 case atStart=>exact⟨v,d0,l,[],rfl,rowNil' _ _,lh ⟨HD0.out.symm,HT.out,by simp⟩,by omega,Nat.le_refl _,Chg.refl _ _⟩
 case round =>
  obtain⟨u,z,l1,M,rfl,hrow,hinv,hlf,hfl,hc⟩:=hrel
  have HROW:=lh hrow
  have HC:=lh hc
  obtain⟨oo,oc,rfl⟩:=hrow.shape
  have HML:=lh (show l1.length+M.length=l.length by have:=congrArg List.length hinv.out.2.2;simp at this;omega)
  clear hrow hc
  rcases hinv.out.2.1.inv with ⟨rfl,rfl⟩ | ⟨d,l2,rfl,hua,hcu,hd0,htr⟩
  ·have hz:z = -1:=by rw[hinv.out.1,HB.out];rfl
   subst hz
   have HE:=lh (show l=M.reverse by have:=hinv.out.2.2;simpa using this)
   have hml:M.length<1000000000:=by have:=HML.out;simp at this;omega
   clear hlf
   go_wp2_with fail
   refine (revI_any _ M w.heap.size _ hml HROW.out).mono ?_
   rintro e w2 ⟨rfl,hr2,hc2⟩
   have HR2:=lh (show RowAt w2 w.heap.size (.slice oo M.length oc) l by rw[HE.out];exact hr2)
   have HC2:=lh (HC.out.trans hc2 (fun j hj=>Or.inr (HROW.out.low j hj).1))
   clear hr2 hc2
   go_wp2
   go_ret
   exact⟨_,rfl,HR2.out,HC2.out⟩
  have hz:z=d:=by rw[hinv.out.1,hcu];rfl
  subst hz
  have hdm:=HD.out z (by rw[hinv.out.2.2];simp)
  obtain⟨n,y,hn,hn2,hy,hyN,hn4⟩:=HG.out.dart hdm.1 hdm.2
  subst hn
  have HIN:=lh (show Plain.Trc g came a (y:Int) l2∧l=l2++(M++[(n:Int)]).reverse from⟨by rw[←hy];exact htr,by rw[hinv.out.2.2];simp⟩)
  have HY:=lh hy
  have hng:(n:Int) ≥ 0:=by omega
  have I64n:I64 (n:Int):=I64.mk (by omega) (by omega)
  have I64y:I64 (y:Int):=I64.mk (by omega) (by have:=HSM.out;omega)
  obtain⟨z1,hz1⟩:∃ z1,(came (y:Int)).getD 0=z1:=⟨_,rfl⟩
  have HZ1:=lh hz1
  have hml:M.length<4294967290:=by have:=HML.out;simp at this;omega
  have HSZ:=lh HC.out.size
  have hlf2:l2.length<gk - 1:=by simp at hlf;omega
  have hgl:gk - 1≤l.length+1:=by omega
  have hgp:0<gk:=by omega
  clear hz1 hy hcu hua htr hd0 hinv hdm hlf hfl
  go_wp2_with (at_builtin;refine wl_push rfl _ _ rfl (B:=w.heap.size) (v:=.slice oo _ oc) rfl rfl HROW.out I64n HSZ.out hml rfl ?_;intro v6 w6 r6 c6 f6;have R6:=lh r6;have C6:=lh (HC.out.trans c6 (fun j hj=>Or.inr (HROW.out.low j (by rw[←HROW.out.foot];exact hj)).1));clear r6 c6 f6;have q0:=C6.out.cell HG.out.c0 (by simp);have q1:=C6.out.cell HG.out.c1 (by simp))
  refine (dleaves_any _ g n _ hn2 (by have:=HSM.out;omega) (HG.out.fresh C6.out).gr).mono ?_
  rintro _ w7 ⟨rfl,hc7⟩
  rw[HY.out]
  have HC7:=lh (C6.out.trans hc7 (by simp))
  have HR7:=lh (R6.out.chg hc7 (by simp))
  clear hc7 q0 q1
  go_wp2_with (at_lookup;refine wp_look _ rfl _ _ rfl (HM.out.chg HC7.out (by simp)) rfl I64y rfl HZ1.out ?_)
  go_roundg (gk - 1)
  case measure=>omega
  case rel=>exact⟨y,z1,l2,M++[(n:Int)],rfl,HR7.out,lh ⟨HZ1.out.symm,HIN.out.1,HIN.out.2⟩,hlf2,hgl,HC7.out⟩
end Go.Proofs.Ytbkjljffnkdcjaa
