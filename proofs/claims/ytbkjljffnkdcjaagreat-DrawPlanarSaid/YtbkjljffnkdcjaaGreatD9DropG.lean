/- package graph: the contract of Drop. Conditions: a part that lies in memory and reads so. -/
import Derived.Test.YtbkjljffnkdcjaaGreatD9SkQ
import Derived.Lib.AppendZeros
open List renaming mem_singleton→Qa,length_append→Qd,flatten_append→Qe,length→Qj
open Go.Value renaming slice→Qb,int→Qc
open Or renaming inr→Qf,inl→Qg
open Nat renaming zero_le→Qh,le_refl→Qi
namespace Go.Proofs.YtbkjljffnkdcjaaGreat
open Go.RowKit Go.Maps
namespace Plain
def fB (p:Pt) (x:Int):Pt:=⟨p.v,p.e.filter fun e=>e != x⟩
end Plain
set_option maxRecDepth 100000 in
set_option maxHeartbeats 2000000 in
theorem Ov (vp:Value) (p:Plain.Pt) (x:Int) (w:World) (EF:p.v.length<1000000) (nz:p.e.length<1000000) (hp:gD w vp p) :
  Calls Tryz.prog 48 #[vp,.int .i64 x] w fun e w'=>∃ v1 v2,e=.returned (.agg #[v1,v2])/\gD w' (.agg #[v1,v2]) (Plain.fB p x)/\ai [] w w':=by
 obtain⟨v1,v2,rfl,hv,he⟩:=hp;have HV:=lh hv;have HE:=lh he;obtain⟨ao,ac,rfl,-,-,-⟩:=hv;obtain⟨bo,bc,rfl,Rb,-,-⟩:=he;have HBI:=lh Rb;have eV:=lh (show ai [] w (((w.alloc (.cells #[.slice ao p.v.length ac,.slice bo p.e.length bc] 27)).alloc (.cells #[.slice none 0 0,.slice none 0 0] 27)).alloc (.cells #[.slice none 0 0,.slice none 0 0] 27)) from (show ai [] w (((w.alloc (.cells #[.slice ao p.v.length ac,.slice bo p.e.length bc] 27)).alloc (.cells #[.slice none 0 0,.slice none 0 0] 27)).alloc (.cells #[.slice none 0 0,.slice none 0 0] 27)) from ((((ai.refl [] w).alloc _).alloc _).alloc _)));have cK:=heap_alloc_new w (.cells #[.slice ao p.v.length ac,.slice bo p.e.length bc] 27);replace cK:=(show ai [] (w.alloc (.cells #[.slice ao p.v.length ac,.slice bo p.e.length bc] 27)) (((w.alloc (.cells #[.slice ao p.v.length ac,.slice bo p.e.length bc] 27)).alloc (.cells #[.slice none 0 0,.slice none 0 0] 27)).alloc (.cells #[.slice none 0 0,.slice none 0 0] 27)) from (((ai.refl [] (w.alloc (.cells #[.slice ao p.v.length ac,.slice bo p.e.length bc] 27))).alloc _).alloc _)).heap cK (by simp);have eN:=heap_alloc_new (w.alloc (.cells #[.slice ao p.v.length ac,.slice bo p.e.length bc] 27)) (.cells #[.slice none 0 0,.slice none 0 0] 27);rw[show (w.alloc (.cells #[.slice ao p.v.length ac,.slice bo p.e.length bc] 27)).heap.size=w.heap.size+1 by simp] at eN;replace eN:=(show ai [] ((w.alloc (.cells #[.slice ao p.v.length ac,.slice bo p.e.length bc] 27)).alloc (.cells #[.slice none 0 0,.slice none 0 0] 27)) (((w.alloc (.cells #[.slice ao p.v.length ac,.slice bo p.e.length bc] 27)).alloc (.cells #[.slice none 0 0,.slice none 0 0] 27)).alloc (.cells #[.slice none 0 0,.slice none 0 0] 27)) from ((ai.refl [] ((w.alloc (.cells #[.slice ao p.v.length ac,.slice bo p.e.length bc] 27)).alloc (.cells #[.slice none 0 0,.slice none 0 0] 27))).alloc _)).heap eN (by simp);have vf:=heap_alloc_new ((w.alloc (.cells #[.slice ao p.v.length ac,.slice bo p.e.length bc] 27)).alloc (.cells #[.slice none 0 0,.slice none 0 0] 27)) (.cells #[.slice none 0 0,.slice none 0 0] 27);rw[show ((w.alloc (.cells #[.slice ao p.v.length ac,.slice bo p.e.length bc] 27)).alloc (.cells #[.slice none 0 0,.slice none 0 0] 27)).heap.size=w.heap.size+2 by simp] at vf;have HX:=lh (fun (w2:World) (dL:ai [] (((w.alloc (.cells #[.slice ao p.v.length ac,.slice bo p.e.length bc] 27)).alloc (.cells #[.slice none 0 0,.slice none 0 0] 27)).alloc (.cells #[.slice none 0 0,.slice none 0 0] 27)) w2)=>(⟨dL.c ((cell_of_row _ _ 0 _ _ _ cK).trans rfl),dL.c ((cell_of_row _ _ 1 _ _ _ cK).trans rfl),dL.heap eN (by simp),dL.heap vf (by simp),by have hz:=dL.size;simpa using hz⟩:w2.cell? ⟨w.heap.size,0,none⟩=some (.slice ao p.v.length ac)/\w2.cell? ⟨w.heap.size,1,none⟩=some (.slice bo p.e.length bc)/\w2.heap[w.heap.size+1]?=some (.cells #[.slice none 0 0,.slice none 0 0] 27 (0,0))/\w2.heap[w.heap.size+2]?=some (.cells #[.slice none 0 0,.slice none 0 0] 27 (0,0))/\w.heap.size+3<=w2.heap.size));clear cK eN vf;have CK:=lh (show (((w.alloc (.cells #[.slice ao p.v.length ac,.slice bo p.e.length bc] 27)).alloc (.cells #[.slice none 0 0,.slice none 0 0] 27)).alloc (.cells #[.slice none 0 0,.slice none 0 0] 27)).heap.size=w.heap.size+3 by simp);clear Rb;obtain⟨x0,x1,r4,r5,di⟩:=HX.out _ (ai.refl _ _);have q0:=(cell_of_row _ _ 0 _ _ _ r5).trans (show _=some (Qb none 0 0) from rfl);have q1:=(cell_of_row _ _ 1 _ _ _ r5).trans (show _=some (Qb none 0 0) from rfl);have wR:=lh r5;have Cn:=lh r4;clear r4 r5;have HEV:=lh (HV.out.fresh eV.out)
 go_enter Tryz.func48,Tryz.ntmps48
 have Ys:ax (((w.alloc (.cells #[.slice ao p.v.length ac,.slice bo p.e.length bc] 27)).alloc (.cells #[.slice none 0 0,.slice none 0 0] 27)).alloc (.cells #[.slice none 0 0,.slice none 0 0] 27)) (w.heap.size+3) (.slice none 0 0) []:=gp _ _;have HVV:=lh Ys;have uW:=lh (show (((w.alloc (.cells #[.slice ao p.v.length ac,.slice bo p.e.length bc] 27)).alloc (.cells #[.slice none 0 0,.slice none 0 0] 27)).alloc (.cells #[.slice none 0 0,.slice none 0 0] 27)).heap.size=w.heap.size+3 by simp);have auh:p.v.length<4294967296:=by omega
 clear Ys
 go_wp2_with (at_builtin;refine b9 rfl _ _ rfl (B:=w.heap.size+3) rfl rfl HVV.out HEV.out (Nat.le_of_eq uW.out.symm) (by simp;omega) ?_;intro v4 w4 r4 c4 f4;rw[List.nil_append] at r4;obtain⟨vo,vc,rfl⟩:=r4.shape;have c4:ai [] _ w4:=c4;have s0:=c4.c q0;have s1:=c4.c q1;have e1:=c4.c x1;have g0:=bJ (c4.heap wR.out (by simp)) 0;have R4:=lh r4;have C4:=lh (eV.out.t c4);have H54:=lh (c4.heap wR.out (by simp));have HXW:=lh (fun wx (h:ai [w.heap.size+2] w4 wx)=>And.intro (h.c (c4.c x0)) (And.intro (h.c (c4.c x1)) (h.heap (c4.heap Cn.out (by simp)) (by simp))));clear r4 c4 f4)
 obtain⟨pb,pa⟩:∃ n,w.heap.size+2=n:=⟨_,rfl⟩;have af4:w.heap.size+1+1=pb:=by omega
 rw[pa] at H54 HXW;rw[af4];have rJ:=lh pa;have bw:ai [pb] w4 (w4.setCell ⟨pb,0,none⟩ (.slice vo p.v.length vc)):=(ai.refl _ w4).setCell (Qg (by simp)) _;have iP:=lh bw;have H55:=lh (heap_setCell_same H54.out 0 (.slice vo p.v.length vc));have hkd:∀ (wx:World) (v:Value) (q:List Int) (B:Nat),ax wx B v q->(∃ cs,wx.heap[pb]?=some (.cells cs 27 (0,0)))->pb ∉ v.ownBlock.toList:=fun _ _ _ _ h ⟨cs0,h0⟩ q=>by
  obtain⟨cs,r,hh⟩:=bZ h _ (by rw[h.aL];exact q);rw[h0] at hh;simp at hh
 have HKD:=lh hkd;have HV5:=lh (R4.out.aM bw (fun b hb q=>hkd _ _ _ _ R4.out ⟨_,H54.out⟩ (by rw[Qa] at q;rw[<-q];exact hb)));clear bw hkd s0 s1 e1 g0 q0 q1 x0 x1 af4 pa;generalize w4.setCell ⟨pb,0,none⟩ (.slice vo p.v.length vc)=w5 at *
 go_loopw [7,17] (fun _ c wr=>∃ k:Nat,k<=p.e.length/\c=.int .i64 k/\∃ uo uc,wr.heap[pb]?=some (.cells #[.slice vo p.v.length vc,.slice uo ((p.e.take k).filter fun e=>e != x).length uc] 27 (0,0))/\ax wr w5.heap.size (.slice uo ((p.e.take k).filter fun e=>e != x).length uc) ((p.e.take k).filter fun e=>e != x)/\ai [pb] w5 wr) (fun _ c _=>p.e.length - (intOf c).toNat)
 case atStart=>exact⟨0,Qh _,rfl,none,0,H55.out,gp _ _,ai.refl _ _⟩
 case round =>
  obtain⟨k,hk,rfl,uo,uc,ho,hr,hc⟩:=hrel;have HO:=lh ho;have HR:=lh hr;have HC:=lh hc;have abY:=lh (iP.out.trans hc (fun j hj=>Qg hj));have nO:=lh (C4.out.trans abY.out (fun j hj=>Qf (by rw[Qa] at hj;have:=rJ.out;omega)));have o0:=(cell_of_row _ _ 0 _ _ _ ho).trans (show _=some (Qb vo p.v.length vc) from rfl);have o1:=(cell_of_row _ _ 1 _ _ _ ho).trans (show _=some (Qb uo ((p.e.take k).filter fun e=>e != x).length uc) from rfl);obtain⟨x0,x1,r4⟩:=HXW.out wr abY.out;have alZ:=lh r4;clear ho hr hc r4;by_cases aU:k<p.e.length
  ·obtain⟨rb,uR,rfl,rc⟩:=aJ.cellAt HE.out aU
   have cZ:=nO.out.c rc;have sE:=lh (show (p.e.take (k+1)).filter (fun e=>e != x)=(p.e.take k).filter (fun e=>e != x)++(if (p.e.getD k 0 != x)=true then [p.e.getD k 0] else []) from Plain.jb _ aU);have NH:bn (p.e.getD k 0):=HBI.out _ (Plain.aZ aU);have xt:=lh (show ((p.e.take k).filter fun e=>e != x).length<=1000000 by have h1:=List.length_filter_le (fun e=>e != x) (p.e.take k);rw[List.length_take] at h1;omega);obtain⟨M,hM⟩:∃ M,(p.e.take k).filter (fun e=>e != x)=M:=⟨_,rfl⟩;obtain⟨y,hy⟩:∃ y,p.e.getD k 0=y:=⟨_,rfl⟩;rw[hM] at HO HR sE xt o1;rw[hy] at sE NH cZ;have ql:M.length<4294967290:=by have:=xt.out;omega
   have ze:=lh HC.out.size;clear rc hM hy;cases hb:(y != x) with
   | true =>
    have SG:=lh (show (p.e.take (k+1)).filter (fun e=>e != x)=M++[y] by rw[sE.out,hb];rfl)
    go_wp2_with (at_builtin;refine fA rfl _ _ rfl (B:=w5.heap.size) (v:=.slice uo M.length uc) rfl rfl HR.out NH ze.out ql rfl ?_;intro v6 w6 r6 c6 f6;obtain⟨o6,c66,rfl⟩:=r6.shape;have Tb:pb ∉ aL (Qb uo M.length uc):=HKD.out _ _ _ _ HR.out ⟨_,HO.out⟩;have t1:=c6.cell o1 Tb;have t0:=c6.cell o0 Tb;have t2:=bJ (c6.heap HO.out Tb) 1;have H66:=lh (c6.heap HO.out Tb);have R6:=lh r6;have C6:=lh c6;clear r6 c6 f6 Tb)
    go_roundw
    case rel =>
     have hl:(M++[y]).length=M.length+1:=by simp
     have h6:=R6.out;rw[hl] at h6;have bw:ai [pb] w6 (w6.setCell ⟨pb,1,none⟩ (.slice o6 (M.length+1) c66)):=(ai.refl [pb] w6).setCell (Qg (by simp)) _;refine⟨k+1,by omega,by go_num,o6,c66,?_,?_,?_⟩
     ·rw[SG.out,hl];exact heap_setCell_same H66.out 1 _
     ·rw[SG.out,hl];exact h6.aM bw (fun b hb q=>HKD.out _ _ _ _ h6 ⟨_,H66.out⟩ ((Qa.1 q) ▸ hb))
     exact (HC.out.trans C6.out (fun j hj=>Qf ((HR.out.low j (by rw[<-HR.out.aL];exact hj)).1))).trans bw (fun j hj=>Qg hj)
    case measure=>simp[intOf];omega
   | false =>
    have SG:=lh (show (p.e.take (k+1)).filter (fun e=>e != x)=M by rw[sE.out,hb];simp);go_wp2
    go_roundw
    case rel=>exact⟨k+1,by omega,by go_num,uo,uc,by rw[SG.out];exact HO.out,by rw[SG.out];exact HR.out,HC.out⟩
    case measure=>simp[intOf];omega
  have e:k=p.e.length:=by omega
  subst e;rw[List.take_length] at HO HR o1;have r4:=alZ.out;have f0:=bJ r4 0;have f1:=bJ r4 1;obtain⟨tb,Xv⟩:∃ n,w.heap.size+1=n:=⟨_,rfl⟩;have HTB:=lh Xv;rw[Xv] at r4 f0 f1 ⊢;obtain⟨M,hM⟩:∃ M,p.e.filter (fun e=>e != x)=M:=⟨_,rfl⟩;have HM:=lh hM;rw[hM] at HO HR o1;have r0:=(cell_of_row _ _ 0 _ _ _ r4).trans (show _=some (Qb none 0 0) from rfl);have r1:=(cell_of_row _ _ 1 _ _ _ r4).trans (show _=some (Qb none 0 0) from rfl);have bw:ai [tb] wr ((wr.setCell ⟨tb,0,none⟩ (.slice vo p.v.length vc)).setCell ⟨tb,1,none⟩ (.slice uo M.length uc)):=((ai.refl _ wr).setCell (Qg (by simp)) _).setCell (Qg (by simp)) _;have kD:=heap_setCell_same (heap_setCell_same r4 0 (.slice vo p.v.length vc)) 1 (.slice uo M.length uc);have HQ0:=lh ((cell_of_row _ _ 0 _ _ _ kD).trans (show _=some (Qb vo p.v.length vc) from rfl));have VI:=lh ((cell_of_row _ _ 1 _ _ _ kD).trans (show _=some (Qb uo M.length uc) from rfl));have hkt:∀ (v:Value) (q:List Int) (B:Nat),ax wr B v q->∀ b∈v.ownBlock.toList,b ∉ [tb]:=fun v q B h b hb e=>by
   obtain⟨cs,r,hh⟩:=bZ h b (by rw[h.aL];exact hb);rw[Qa] at e;rw[e,r4] at hh;simp at hh
  have UM:=HV5.out.aM HC.out (fun b hb q=>HKD.out _ _ _ _ HV5.out ⟨_,H55.out⟩ (by rw[Qa] at q;rw[<-q];exact hb));have SY:=lh ((UM.aM bw (hkt _ _ _ UM)).ints);have uV:=lh ((HR.out.aM bw (hkt _ _ _ HR.out)).ints);have vL:=lh (nO.out.trans bw (fun j hj=>Qf (by rw[Qa] at hj;have:=HTB.out;omega)));have bh:¬ pb=tb:=by have:=rJ.out;omega
  have Ep:¬ tb=pb:=by have:=rJ.out;omega
  clear bw kD hkt UM Xv hM x0 x1 aU hk;go_wp2;refine bodyPost_ret (v:=.agg #[.slice vo p.v.length vc,.slice uo M.length uc]) (by have h0:=HQ0.out;have h1:=VI.out;simp[results,Tryz.results48,go_sem,h0,h1]) rfl ?_;exact⟨_,_,rfl,⟨_,_,rfl,SY.out,by show aJ _ _ (p.e.filter fun e=>e != x);rw[HM.out];exact uV.out⟩,vL.out⟩
set_option maxRecDepth 100000 in
set_option maxHeartbeats 1000000 in
theorem NP (n:Nat) (w:World) (hn:n<100000000) :
  Calls Tryz.prog 163 #[.slice none 0 0,.int .i64 n] w fun e w'=>∃ v',e=.returned v'/\ax w' w.heap.size v' []/\ai [] w w':=by
 obtain⟨i0,hi,Dl,jZ,pF⟩:=info_parts cJ.hi
 go_enter Tryz.func163,Tryz.ntmps163
 rcases n with _ | n
 ·go_wp2
  go_ret;exact⟨_,rfl,gp _ _,ai.refl _ _⟩
 have hr:=Go.Lib.run_append_nil_zeros (P:=Tryz.prog) w 25 3 25 3 i0 (.int .i64 0) .i64 .i64 cJ.ht Tryz.underlying3 hi Dl (n+1) (by omega) (by omega) (by omega) (by rw[pF];omega);have hng:((n+1:Nat):Int) > 0:=by omega
 have hnn:¬ ((n+1:Nat):Int)<0:=by omega
 generalize hN:n+1=N at *
 go_wp2_with (at_builtin;refine Go.Lib.wpList_append_run _ rfl _ _ _ _ rfl _ _ rfl rfl _ _ hr ?_)
 have zt:=grownCap_ge w N 0 3;have hle:=grownCap_le_maxLen w N 0 3 (by unfold maxLen;omega);have di:(Builtin.zeroCells #[Qc .i64 0] N++Builtin.zeroCells #[Qc .i64 0] (grownCap w N 0 3 - N)).size=grownCap w N 0 3*1:=by
  simp only[Array.size_append,size_zeroCells];show N*1+(grownCap w N 0 3 - N)*1=_;omega
 generalize Builtin.zeroCells #[Qc .i64 0] N++Builtin.zeroCells #[Qc .i64 0] (grownCap w N 0 3 - N)=Z at *;generalize grownCap w N 0 3=G at *;clear hr;have hh:=heap_alloc_new w (.cells Z 3);go_ret;refine⟨_,rfl,⟨⟨by simp[ints],Qf ⟨w.heap.size,G,Z,rfl,Qi _,hh,by simp,hle,di,by simp[ints]⟩⟩,by simp,by simp⟩,((ai.refl [] w).alloc _).drew⟩
def rX (Ls:List (List Int)) (k:Nat):List Int:=(Ls.take k).flatten
theorem Ao {Ls:List (List Int)} {k:Nat} (hk:k<Ls.length):rX Ls (k+1)=rX Ls k++Ls.getD k []:=by
 unfold rX;rw[List.take_succ_eq_append_getElem hk,Qe];simp[List.getD,hk]
theorem UK (Ls:List (List Int)) (k:Nat):(rX Ls k).length<=Ls.flatten.length:=by
 unfold rX;have h:(Ls.take k).flatten++(Ls.drop k).flatten=Ls.flatten:=by rw[<-Qe,List.take_append_drop]
 have:=congrArg Qj h;rw[Qd] at this;omega
set_option maxRecDepth 100000 in
set_option maxHeartbeats 2000000 in
theorem xe (bb n c:Nat) (vs:Nat->Value) (Ls:List (List Int)) (w:World) (hn:Ls.length=n) (FO:n<1000000) (hl:Ls.flatten.length<100000000) (hc:∀ k,k<n->w.cell? ⟨bb,k,none⟩=some (vs k)/\aJ w (vs k) (Ls.getD k [])) :
  Calls Tryz.prog 114 #[.slice (some ⟨bb,0,none⟩) n c] w fun e w'=>∃ v',e=.returned v'/\ax w' w.heap.size v' Ls.flatten/\ai [] w w':=by
 have HC:=lh hc;have yd:=lh (UK Ls);clear hc
 go_enter Tryz.func114,Tryz.ntmps114
 go_wp2_with fail
 go_loopw [3,5,11] (fun c3 _ c wr=>∃ k:Nat,k<=n/\c=.int .i64 k/\c3=.int .i64 ((rX Ls k).length:Nat)/\wr=w) (fun _ _ c _=>n - (intOf c).toNat)
 case atStart=>exact⟨0,Qh _,rfl,rfl,rfl⟩
 case round =>
  obtain⟨k,hk,rfl,rfl,rfl⟩:=hrel;by_cases aU:k<n
  ·obtain⟨aO,hints⟩:=HC.out k aU
   obtain⟨uo,uc,eu,-,-,-⟩:=hints;rw[eu] at aO;have uJ:=lh (show (rX Ls (k+1)).length=(rX Ls k).length+(Ls.getD k []).length by rw[Ao (by omega),Qd]);have h1:=yd.out k;have h2:=yd.out (k+1);rw[uJ.out] at h2;have Cm:¬ (((rX Ls k).length:Int)+((Ls.getD k []).length:Int)<0):=by omega
   obtain⟨a,ha⟩:∃ a,(rX Ls k).length=a:=⟨_,rfl⟩;obtain⟨b,hb⟩:∃ b,(Ls.getD k []).length=b:=⟨_,rfl⟩;rw[ha] at uJ h1 h2 Cm ⊢;rw[hb] at uJ h2 Cm aO;clear ha hb eu;go_wp2
   go_roundw
   case rel=>exact⟨k+1,by omega,by go_num,by rw[uJ.out];go_num,trivial⟩
   case measure=>simp[intOf];omega
  have e:k=n:=by omega
  subst e;have Jq:=lh (show rX Ls k=Ls.flatten by unfold rX;rw[List.take_of_length_le (by omega)]);rw[Jq.out];obtain⟨T,hT⟩:∃ T,Ls.flatten.length=T:=⟨_,rfl⟩;have HT:=lh hT;rw[hT] at hl ⊢;clear hT
  go_wp2_with fail
  refine (NP T _ hl).mono ?_;rintro e w2 ⟨v2,rfl,cH,bG⟩;obtain⟨o2,c2,rfl⟩:=cH.shape;obtain⟨B,hB⟩:∃ B,wr.heap.size=B:=⟨_,rfl⟩;have HB:=lh hB;rw[hB] at cH;have y7:=lh cH;have cA:=lh bG;clear cH bG aU hk hB
  go_wp2_with fail
  go_loopw [6,8,27] (fun c6 _ c wx=>∃ i:Nat,i<=k/\c=.int .i64 i/\ax wx B c6 (rX Ls i)/\ai [] wr wx) (fun _ _ c _=>k - (intOf c).toNat)
  case atStart=>exact⟨0,Qh _,rfl,y7.out,cA.out⟩
  case round =>
   obtain⟨i,hi,rfl,hr,lJ⟩:=hrel;have HR:=lh hr;have Ch:=lh lJ;obtain⟨oo,oc,rfl⟩:=hr.shape;clear hr lJ;by_cases ZE:i<k
   ·obtain⟨aO,hints⟩:=HC.out i ZE
    have FE:=lh (hints.fresh Ch.out);obtain⟨uo,uc,eu,-,-,-⟩:=hints;have uJ:=lh (Ao (Ls:=Ls) (k:=i) (by omega));have h2:=yd.out (i+1);rw[uJ.out,HT.out,Qd] at h2;have ck:=Ch.out.c aO;rw[eu] at ck;have hIN:=FE.out;rw[eu] at hIN;have aeR:=lh hIN;obtain⟨M,hM⟩:∃ M,rX Ls i=M:=⟨_,rfl⟩;obtain⟨L,hL⟩:∃ L,Ls.getD i []=L:=⟨_,rfl⟩;rw[hM] at HR uJ h2 ⊢;rw[hL] at uJ h2 ck aeR;have uW:=lh (by have:=Ch.out.size;rwa[HB.out] at this);have YM:M.length+L.length<4294967296:=by omega
    clear aO eu hIN hM hL h2
    go_wp2_with (at_builtin;refine b9 rfl _ _ rfl (B:=B) (v:=.slice oo _ oc) rfl rfl HR.out aeR.out uW.out YM ?_;intro v6 w6 r6 c6 f6;have R6:=lh r6;have C6:=lh c6;clear r6 c6 f6)
    go_roundw
    case rel=>exact⟨i+1,by omega,by go_num,by rw[uJ.out];exact R6.out,Ch.out.trans C6.out (fun j hj=>Qf (by rw[HB.out];exact (HR.out.low j (by rw[<-HR.out.aL];exact hj)).1))⟩
    case measure=>simp[intOf];omega
   have e:i=k:=by omega
   subst e;rw[Jq.out] at HR ⊢;clear hi ZE;go_wp2;go_ret;exact⟨_,rfl,by rw[HB.out];exact HR.out,Ch.out⟩
theorem Py (v:Value) (l:List Int) (B:Nat) (w:World) (hn:l.length<1000000000) (h:ax w B v l) :
  Calls Tryz.prog 201 #[v] w fun e w'=>e=.returned (.tuple #[])/\ax w' B v l.reverse/\ai v.ownBlock.toList w w':=by
 obtain⟨ao,c,rfl⟩:=h.shape;by_cases h0:l=[]
 ·subst h0
  refine (Tryz.slices_Reverse_int_empty ao c w).mono ?_;rintro e w' ⟨rfl,rfl⟩;exact⟨rfl,h,ai.refl _ _⟩
 obtain⟨g,cap,e⟩:=cN h.1 (List.length_pos_iff.2 h0);cases e;have hl:(ints l).length=l.length:=by simp[ints]
 have bL:=h.1;rw[<-hl] at bL;have hH:Go.Sort.Holds (Qc .i64) w g 0 l.toArray:=j6 bL (by simp[ints]);refine (Tryz.slices_Reverse_int g 0 _ l w hH (by omega)).mono ?_;rintro e w' ⟨rfl,n,rfl⟩;have hs:l.reverse.length=l.length:=List.length_reverse;have he:Go.Sort.putRow (Qc .i64) (Go.Sort.ahead w n) g 0 l.reverse.toArray=sortWorld (Qc .i64) w g 0 n l.reverse.toArray #[]:=by
  unfold sortWorld;simp[Go.Sort.grow];rfl
 rw[he];have uL:=ly (enc:=Qc .i64) (n:=n) (os:=#[]) (d:=l.reverse.toArray) bL (by simp[hl]);refine⟨rfl,⟨?_,fun x hx=>h.2.1 x (List.mem_reverse.1 hx),by rw[hs];exact h.2.2⟩,?_⟩
 ·rw[hl] at uL
  rw[hs];exact uL
 exact nf (Qc .i64) w g n #[] _
namespace Plain
theorem Ab.inv {g:Gr} {aX:jg} {a u:Int} {l:List Int} (h:Ab g aX a u l):(l=[]/\u=a)\/∃ d m,l=m++[d]/\u≠a/\aX u=some d/\0<=d/\Ab g aX a (g.tail d) m:=by
 cases h with
 | here=>exact Qg ⟨rfl,rfl⟩
 | step h1 h2 h3 h4 h5 h6=>exact Qf ⟨_,_,rfl,h1,h2,h3,h5⟩
end Plain
set_option maxRecDepth 100000 in
set_option maxHeartbeats 2000000 in
theorem IH (sb N m mb:Nat) (vE:Value) (g:Plain.Gr) (aX:Plain.jg) (a:Int) (v:Nat) (l:List Int) (w:World) (hG:nN w sb g vE N) (hM:bN w mb m aX) (hv:v<1000000) (hb:aX a=some (-1)) (ht:Plain.Ab g aX a v l) (hl:l.length<1000000) (hd:∀ d∈l,0<=d/\d / 2<g.e.length) :
  Calls Tryz.prog 167 #[.pointer (some ⟨sb,0,none⟩),.map (some mb),.int .i64 v] w fun e w'=>∃ v',e=.returned v'/\ax w' w.heap.size v' l/\ai [] w w':=by
 have HG:=lh hG;have HM:=lh hM;have HB:=lh hb;have HD:=lh hd;have HT:=lh ht;have ir:=lh hG.small;have Gi:bn (v:Int):=bn.mk (by omega) (by omega);have HGV:=lh (show (aX (v:Int)).getD 0=(aX (v:Int)).getD 0 from rfl);obtain⟨d0,qL⟩:∃ d0,(aX (v:Int)).getD 0=d0:=⟨_,rfl⟩;have Zq:=lh qL;rw[qL] at HGV;clear hG hM hb hd ht qL
 go_enter Tryz.func167,Tryz.ntmps167
 go_wp2_with (at_lookup;refine kd _ rfl _ _ rfl HM.out rfl Gi rfl Zq.out ?_)
 go_loopg [7,8] (l.length+1) (fun fuel c7 c8 wr=>∃ (u z:Int) (l1 M:List Int),c8=.int .i64 z/\ax wr w.heap.size c7 M/\Hid (z=(aX u).getD 0/\Plain.Ab g aX a u l1/\l=l1++M.reverse)/\l1.length<fuel/\fuel<=l.length+1/\ai [] w wr)
 case atStart=>exact⟨v,d0,l,[],rfl,gp _ _,lh ⟨Zq.out.symm,HT.out,by simp⟩,by omega,Qi _,ai.refl _ _⟩
 case round =>
  obtain⟨u,z,l1,M,rfl,bd,hinv,V3,uZ,hc⟩:=hrel;have bU:=lh bd;have HC:=lh hc;obtain⟨oo,oc,rfl⟩:=bd.shape;have xt:=lh (show l1.length+M.length=l.length by have:=congrArg Qj hinv.out.2.2;simp at this;omega);clear bd hc;rcases hinv.out.2.1.inv with ⟨rfl,rfl⟩ | ⟨d,l2,rfl,I4,hcu,qL,Np⟩
  ·have hz:z = -1:=by rw[hinv.out.1,HB.out];rfl
   subst hz;have HE:=lh (show l=M.reverse by have:=hinv.out.2.2;simpa using this);have ql:M.length<1000000000:=by have:=xt.out;simp at this;omega
   clear V3
   go_wp2_with fail
   refine (Py _ M w.heap.size _ ql bU.out).mono ?_;rintro e w2 ⟨rfl,cH,bG⟩;have y7:=lh (show ax w2 w.heap.size (.slice oo M.length oc) l by rw[HE.out];exact cH);have cA:=lh (HC.out.trans bG (fun j hj=>Qf (bU.out.low j hj).1));clear cH bG;go_wp2;go_ret;exact⟨_,rfl,y7.out,cA.out⟩
  have hz:z=d:=by rw[hinv.out.1,hcu];rfl
  subst hz;have zD:=HD.out z (by rw[hinv.out.2.2];simp);obtain⟨n,y,hn,gL,hy,hyN,hn4⟩:=HG.out.MB zD.1 zD.2;subst hn;have FE:=lh (show Plain.Ab g aX a (y:Int) l2/\l=l2++(M++[(n:Int)]).reverse from⟨by rw[<-hy];exact Np,by rw[hinv.out.2.2];simp⟩);have HY:=lh hy;have hng:(n:Int) ≥ 0:=by omega
  have ajg:bn (n:Int):=bn.mk (by omega) (by omega);have amg:bn (y:Int):=bn.mk (by omega) (by have:=ir.out;omega);obtain⟨z1,jZ⟩:∃ z1,(aX (y:Int)).getD 0=z1:=⟨_,rfl⟩;have Zc:=lh jZ;have ql:M.length<4294967290:=by have:=xt.out;simp at this;omega
  have uW:=lh HC.out.size;have alF:l2.length<gk - 1:=by simp at V3;omega
  have Mk:gk - 1<=l.length+1:=by omega
  have hgp:0<gk:=by omega
  clear jZ hy hcu I4 Np qL hinv zD V3 uZ
  go_wp2_with (at_builtin;refine fA rfl _ _ rfl (B:=w.heap.size) (v:=.slice oo _ oc) rfl rfl bU.out ajg uW.out ql rfl ?_;intro v6 w6 r6 c6 f6;have R6:=lh r6;have C6:=lh (HC.out.trans c6 (fun j hj=>Qf (bU.out.low j (by rw[<-bU.out.aL];exact hj)).1));clear r6 c6 f6;have q0:=C6.out.c HG.out.c0;have q1:=C6.out.c HG.out.c1)
  refine (dy _ g n _ gL (by have:=ir.out;omega) (HG.out.fresh C6.out).gr).mono ?_;rintro _ w7 ⟨rfl,hc7⟩;rw[HY.out];have nm:=lh (C6.out.t hc7);have Sh:=lh (R6.out.aM hc7 (by simp));clear hc7 q0 q1
  go_wp2_with (at_lookup;refine kd _ rfl _ _ rfl (HM.out.aM nm.out (by simp)) rfl amg rfl Zc.out ?_)
  go_roundg (gk - 1)
  case measure=>omega
  case rel=>exact⟨y,z1,l2,M++[(n:Int)],rfl,Sh.out,lh ⟨Zc.out.symm,FE.out.1,FE.out.2⟩,alF,Mk,nm.out⟩
end Go.Proofs.YtbkjljffnkdcjaaGreat
