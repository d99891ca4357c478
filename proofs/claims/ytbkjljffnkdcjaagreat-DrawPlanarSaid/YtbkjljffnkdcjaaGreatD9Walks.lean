/- package sX: the contract of Walks: all walks around aj. Conditions: lists that lie in memory and read so, of a bounded size. -/
import Derived.Test.YtbkjljffnkdcjaaGreatD9Nest
open List renaming attach_map_subtype_val→Qa,getD→Qb,filter_append→Qc,take_succ_eq_append_getElem→Qe,getElem?_cons_succ→Qf,length_attach→Qg,filter_nil→Qh,mem_cons→Qi,mem_map→Qj,drop_eq_getElem_cons→Qk,pairwise_iff_getElem→Ql,getElem?_eq_getElem→Qm,nodup_cons→Qn,set_cons_succ→Qq,filter_cons_of_pos→Qr,filter_cons_of_neg→Qs,length_filter_le→Qt,length_map→Qv,append_nil→Qw,mem_filter→Qx,getElem_of_mem→Qy,pairwise_cons→Qz,mem_flatten→QA,take_length→QB,map_append→QC,mem_append→QD,take_append_drop→QE,pairwise_append→QF,length_reverse→QG,length_append→QI,mem_cons_self→QJ,nodup_append→QL,length_take→QN,map_cons→QR
open Classical renaming byContradiction→Qd
open Or renaming inr→Qo,inl→Qp
open Go.Value renaming slice→Qu,pointer→QH,map→QM,ownBlock→QP
open Nat renaming le_trans→QK,le_refl→QO,lt_or_ge→QS
open Go.World renaming setCell→QQ
namespace Go.Proofs.YtbkjljffnkdcjaaGreat
open Go.RowKit Go.Maps
def S5 (ds:List Int) (wr:World) (pre:List {x // x∈ds}) (W:World):Prop :=
 ∃ f,bN W wr.heap.size pre.length f/\(∀ y,f y≠none↔y∈pre.map (·.1))/\W.heap[wr.heap.size+1]?=some (.cells #[.map (some wr.heap.size)] 124 (0,0))/\ai [] wr W
theorem S5.own {ds:List Int} {wr:World} {B:Nat} (hB:wr.heap.size+2<=B):OwnFrom B (S5 ds wr) :=
 tD fun s W W' own h hc ho=>by
  obtain⟨f,h1,h2,h3,h4⟩:=h;exact⟨f,h1.aM hc (fun e=>by have:=(ho _ e).1;omega),h2,hc.heap h3 (fun e=>by have:=(ho _ e).1;omega),h4.trans hc (fun j hj=>Qo (by have:=(ho _ hj).1;omega))⟩
theorem nW.fresh {w w':World} {rb:Nat} {T:List (List Int)} {lv pl:Int->Option Int} {ds:List Int} {vt vd:Value} {lb pb n m:Nat} (h:nW w rb T lv pl ds vt vd lb pb n m) (hc:ai [] w w'):nW w' rb T lv pl ds vt vd lb pb n m :=
 ⟨hc.heap h.cells (by simp),h.aa.fresh hc,h.leaves.aM hc (by simp),h.place.aM hc (by simp),h.ag.fresh hc⟩
theorem yX {B:Nat} {W W':World} {own:List Nat} (hc:ai own W W') (ho:∀ j∈own,j<B\/∃ cs t r,W.heap[j]?=some (.cells cs t r)):KeepsFrom B W W':=by
 refine⟨hc.size,fun k o hB hk hi=>(hc.block k (lt_of_block hk) (fun e=>?_)).trans hk⟩;rcases ho k e with q | ⟨cs,t,r,q⟩
 ·omega
 rw[hk] at q;cases q;simp[Obj.isCells] at hi
def Made (g:Plain.Gr) (p:Plain.Pt) (aa:List (List Int)) (w2:World) (mb ob rb D Bs:Nat) (pre:List {x // x∈p.ag}) (W:World):Prop :=
 ∃ F f,ot w2.heap.size W ob W.heap.size (Plain.dj aa p.v++F)/\bN W mb p.ag.length f/\(∀ y,f y≠none↔y∈p.ag/\y ∉ Plain.flat F)/\Plain.yL g p aa F (pre.map (·.1)) /\
  W.heap[mb+1]?=some (.cells #[.map (some mb)] 124 (0,0))/\W.heap[w2.heap.size]?=some (.cells #[.pointer (some ⟨rb,0,none⟩)] 176 (0,0))/\W.heap[D]?=some (.deferred (some []))/\ai [] w2 W/\W.heap[Bs]?=some (.cells #[.pointer (some ⟨rb,0,none⟩)] 176 (0,0))
theorem Made.own {g:Plain.Gr} {p:Plain.Pt} {aa:List (List Int)} {w2:World} {mb ob rb D Bs B:Nat} (h2:mb+1<B) (h3:w2.heap.size<B) (h4:D<B) (h5:Bs<B):OwnFrom B (Made g p aa w2 mb ob rb D Bs) :=
 tD fun s W W' own h hc ho=>by
  obtain⟨F,f,k1,k2,k3,k4,k5,k6,k7,k8,k9⟩:=h;exact⟨F,f,(k1.keep hc (fun j hj=>Qo (ho j hj).2)).up hc.size,k2.aM hc (fun e=>by have:=(ho _ e).1;omega),k3,k4,hc.heap k5 (fun e=>by have:=(ho _ e).1;omega),hc.heap k6 (fun e=>by have:=(ho _ e).1;omega),hc.heap k7 (fun e=>by have:=(ho _ e).1;omega),k8.trans hc (fun j hj=>Qo (by have:=(ho _ hj).1;omega)),hc.heap k9 (fun e=>by have:=(ho _ e).1;omega)⟩
def rowLen (W:World) (wb:Nat):Nat:=match W.cell? ⟨wb,1,none⟩ with | some (.slice _ n _)=>n | _=>0
structure xE (g:Plain.Gr) (p:Plain.Pt) (aa:List (List Int)) (w2 W:World) (mb ob rb D wb:Nat) (L0 F:List Plain.bR) (d:Int) (L:List Int) (v:Value) (f:Int->Option Int) (wi:World):Prop where
 box:wi.heap[wb]?=some (.cells #[.int .i64 d,v] 138 (0,0))
 row:ax wi (wb+1) v L
 out:ot w2.heap.size wi ob wb (L0++F)
 left:bN wi mb p.ag.length f
 f:∀ y,f y≠none↔y∈p.ag/\y ∉ Plain.flat F/\y ∉ L
 Pg:wi.heap[mb+1]?=some (.cells #[.map (some mb)] 124 (0,0))
 O6:wi.heap[w2.heap.size]?=some (.cells #[.pointer (some ⟨rb,0,none⟩)] 176 (0,0))
 dfr:wi.heap[D]?=some (.deferred (some []))
 aM:ai [mb] W wi
theorem xE.len {g:Plain.Gr} {p:Plain.Pt} {aa:List (List Int)} {w2 W:World} {mb ob rb D wb:Nat} {L0 F:List Plain.bR} {d:Int} {L:List Int} {v:Value} {f:Int->Option Int} {wi:World} (h:xE g p aa w2 W mb ob rb D wb L0 F d L v f wi):rowLen wi wb=L.length:=by
 obtain⟨ao,c,e⟩:=h.row.shape;have hb:=h.box;rw[e] at hb;unfold rowLen;rw[(cell_of_row _ _ 1 _ _ _ hb).trans (show _=some (Qu ao L.length c) from rfl)]
theorem xE.step {g:Plain.Gr} {p:Plain.Pt} {aa:List (List Int)} {w2 W:World} {mb ob rb D:Nat} {L0 F:List Plain.bR} {d z:Int} {L:List Int} {v v':Value} {f:Int->Option Int} {wi w6 w7:World} (h:xE g p aa w2 W mb ob rb D W.heap.size L0 F d L v f wi)
  (h1:mb+1<W.heap.size) (h2:D<W.heap.size) (h3:w2.heap.size<W.heap.size) (hg:wi.grownBy w6 (some mb)) (hm:bN w6 mb p.ag.length (fun y=>if y=z then none else f y)) (hr:ax w7 (W.heap.size+1) v' (L++[z])) (hc:ai (aL v) w6 w7) :
  xE g p aa w2 W mb ob rb D W.heap.size L0 F d (L++[z]) v' (fun y=>if y=z then none else f y) (w7.setCell ⟨W.heap.size,1,none⟩ v'):=by
 have c1:ai [mb] wi w6:=(ai.refl _ _).grown hg (fun j hj=>by cases hj;exact Qp (by simp));have c3:ai [W.heap.size] w7 (w7.setCell ⟨W.heap.size,1,none⟩ v'):=(ai.refl _ _).setCell (Qp (by simp)) _;have low:∀ j∈aL v,W.heap.size+1<=j:=fun j hj=>(h.row.low j (by rw[<-h.row.aL];exact hj)).1;have heap:∀ {b:Nat} {o:Obj},wi.heap[b]?=some o->b≠mb->b<W.heap.size->(w7.setCell ⟨W.heap.size,1,none⟩ v').heap[b]?=some o:=fun hb bh aU =>
  c3.heap (hc.heap (c1.heap hb (by simpa using bh)) (fun e=>by have:=low _ e;omega)) (by simp;omega)
 have U1:=hc.heap (c1.heap h.box (by simp;omega)) (fun e=>by have:=low _ e;omega);have Jy:∀ {b:Nat} {cs:Array Value} {t:TypeId} {r:Nat × Nat},wi.heap[b]?=some (.cells cs t r)->b≠mb:=fun hb=>h.left.ne hb;refine⟨heap_setCell_same U1 1 v',hr.aM c3 (fun b hb e=>by have:=(hr.low b hb).1;simp at e;omega),((h.out.keep c1 (fun j hj=>Qo (fun cs t r e=>by simp at hj;subst hj;exact h.left.ne e rfl))).keep hc (fun j hj=>Qp (by have:=low j hj;omega))).keep c3 (fun j hj=>Qp (by simp at hj;omega)),
  (hm.aM hc (fun e=>by have:=low _ e;omega)).aM c3 (by simp;omega),fun y=>?_,heap h.Pg (by omega) h1,heap h.O6 (Jy h.O6) h3,heap h.dfr (fun e=>?_) h2,((h.aM.trans c1 (fun j hj=>Qp hj)).trans hc (fun j hj=>Qo (by have:=low j hj;omega))).trans c3 (fun j hj=>Qo (by simp at hj;omega))⟩
 ·by_cases e:y=z
  ·rw[if_pos e,e];simp
  rw[if_neg e,h.f y];simp[e]
 obtain⟨Dm,⟨es,clock,he,_⟩,_⟩:=h.left;have:=h.dfr;rw[e,he] at this;cases this
section
attribute [local go_sem] Oper.semAt_some
set_option maxRecDepth 100000 in
set_option maxHeartbeats 4000000 in
theorem L5 (vg vp vt:Value) (g:Plain.Gr) (p:Plain.Pt) (aa:List (List Int)) (w:World) (pO:p.e.length<=1000000) (vF:p.v.length<=1000000) (Pz:aa.length<2147483648) (hS:Plain.cu aa aa.length<2147483648) (hg:dU w vg g) (hp:gD w vp p) (ht:eC w vt aa) :
  Calls Tryz.prog 101 #[vg,vp,vt] w fun e w'=>∃ ov,e=.returned (.tuple #[ov,.int .i64 (Plain.bH g p aa)])/\(Plain.bH g p aa≠0->ov=.slice none 0 0) /\
   (Plain.bH g p aa=0->∃ W xs,Plain.fC g p aa W/\bF w' w.heap.size 138 2 ov W.length xs (ft W))/\ai [] w w':=by
 have HG:=lh hg;have HP:=lh hp;have HT:=lh ht;have yH:=lh hS;obtain⟨eo,cap,rfl,-,-,-,-⟩:=hg;obtain⟨v1,v2,rfl,hv,he⟩:=hp;obtain⟨ao,ac,rfl,has,yJ,cD⟩:=hv;obtain⟨bo,bc,rfl,-,-,-⟩:=he;obtain⟨T5,tc,rfl,yO,zk⟩:=ht;have IB:=lh cD;have VA:=lh has;have Xh:=lh zk;obtain⟨eG,fh,cG⟩:=dq w #[.int .i64 g.n,.slice eo g.e.length cap] #[.slice ao p.v.length ac,.slice bo p.e.length bc] 24 27;have Y0:=lh ((cell_of_row _ _ 0 _ _ _ fh).trans (show _=some (Qu ao p.v.length ac) from rfl));have b8:=lh cG;clear cD has eG fh cG zk hS;refine (callsIn_wide (n:=9)).1 (callsIn_of_wp_marks Tryz.func101 rfl trivial (wpIn_wide.2 ?_) rfl);simp only[Tryz.ntmps101,List.size_toArray,List.length_cons,List.length_nil,Nat.reduceAdd,Nat.reduceSub,Array.replicate_succ,Array.replicate_zero,List.push_toArray,List.append_toArray,List.nil_append,List.cons_append]
 go_wp2_with fail
 refine (Dw _ _ _ g p aa _ pO vF Pz yH.out (HG.out.fresh b8.out) (HP.out.fresh b8.out) (HT.out.fresh b8.out)).mono ?_;rintro e w2 ⟨r,rfl,fz,cH,bG⟩;have cA:=lh (b8.out.t bG);have zi:=lh (show w.heap.size+2<=w2.heap.size by have:=bG.size;simpa using this);have Y2:=lh (bG.c Y0.out);clear bG;by_cases hr:Plain.bH g p aa=0
 ·have HR:=lh hr
  obtain⟨rb,Sc,vd,lb,pb,n,m,rfl,MC,CB⟩:=cH hr;have uN:=lh CB;have Cr:=lh MC;have y2:=dC Y2.out (.cells #[.pointer (some ⟨rb,0,none⟩)] 176);have y3:=dC y2 (.cells #[.slice none 0 0] 135);rw[hr];clear fz cH CB MC;go_wp2;clear y2 y3;have uW:=lh (show w2.heap.size+2=((w2.alloc (.cells #[.pointer (some ⟨rb,0,none⟩)] 176)).alloc (.cells #[.slice none 0 0] 135)).heap.size by simp);have dD:=lh (((ai.refl [] w2).alloc (.cells #[.pointer (some ⟨rb,0,none⟩)] 176)).alloc (.cells #[.slice none 0 0] 135));have anD:=lh ((dq w2 #[.pointer (some ⟨rb,0,none⟩)] #[.slice none 0 0] 176 135).1);have MD:=lh ((dq w2 #[.pointer (some ⟨rb,0,none⟩)] #[.slice none 0 0] 176 135).2.1);obtain⟨ob,Bc⟩:∃ ob,w2.heap.size+1=ob:=⟨_,rfl⟩;rw[Bc] at MD ⊢;have Gx:=lh Bc;have qO:=lh (show ot w2.heap.size ((w2.alloc (.cells #[.pointer (some ⟨rb,0,none⟩)] 176)).alloc (.cells #[.slice none 0 0] 135)) ob (ob+1) [] from⟨⟨_,[],MD.out,bF.nil _ _ _ _,by simp[QP],by simp⟩,by omega⟩);generalize ((w2.alloc (.cells #[.pointer (some ⟨rb,0,none⟩)] 176)).alloc (.cells #[.slice none 0 0] 135))=w3 at *;clear Bc
  go_loopw [11] (fun c wr=>∃ k:Nat,k<=p.v.length/\c=.int .i64 ((k:Int) - 1)/\ot w2.heap.size wr ob wr.heap.size (Plain.dj aa (p.v.drop k))/\ai [] w2 wr/\Hid (wr.heap[w2.heap.size]?=some (.cells #[.pointer (some ⟨rb,0,none⟩)] 176 (0,0)))) (fun c _=>(intOf c+1).toNat)
  case atStart=>exact⟨p.v.length,QO _,by go_num,by rw[List.drop_length];exact qO.out.up (by have:=uW.out;have:=Gx.out;omega),dD.out,anD⟩
  case round =>
   obtain⟨k,hk,rfl,yK,hc,hrx⟩:=hrel;have HW:=lh yK;have HC:=lh hc;by_cases h0:0<k
   ·obtain⟨j,rfl⟩:∃ j,k=j+1:=⟨k - 1,by omega⟩
    obtain⟨ab,xQ,rfl,qt⟩:=IB.out (by intro e;rw[e] at hk;simp at hk);have Ce:=HC.out.c (cA.out.c (qt j hk));rw[show (((j+1:Nat):Int) - 1)=(j:Int) by omega];obtain⟨gJ,uE⟩:=Plain.gw HR.out;have Ef:=Plain.Pt.aF gJ;have Sr:=Ef.vr (p.v.getD j 0) (by simp[Qb,show j<p.v.length by omega]);obtain⟨v,Nq⟩:∃ v:Nat,p.v.getD j 0=(v:Int):=⟨(p.v.getD j 0).toNat,by omega⟩;have HDR:=lh (show Plain.dj aa (p.v.drop j)=Plain.dj aa (p.v.drop (j+1))++(if (aa.getD v []).isEmpty then [(-1 - (v:Int),[])] else []) by
     rw[Qk (show j<p.v.length by omega),Plain.EN];have e1:p.v[j]=(v:Int):=by rw[<-Nq];simp[Qb,show j<p.v.length by omega]
     rw[e1];unfold Plain.aI;simp)
    have V7:v<aa.length:=by have:=uE.len;omega
    have hvg:(v:Int)<=1024:=by have:=(Plain.Gr.aP (Plain.Pt.aP gJ).1).2.1;omega
    rw[Nq] at Ce;obtain⟨tb,Ub,u,rfl,hu,-,hints⟩:=Xh.out v V7;have hcu:=HC.out.c (cA.out.c hu);obtain⟨l,oW⟩:∃ l,aa.getD v []=l:=⟨_,rfl⟩;rw[oW] at hints HDR;obtain⟨uo,uc,rfl,-,-,-⟩:=hints;have hy:=HC.out.c Y2.out;have sH:j<p.v.length:=by omega
    have uZ:(Plain.dj aa (p.v.drop (j+1))).length<=p.v.length:=by
     unfold Plain.dj;rw[Qv];refine QK (Qt _ _) ?_;rw[QG,List.length_drop];omega
    clear qt gJ uE Ef Sr Nq hu oW hc h0;cases l with
    | nil =>
     obtain⟨Nr,c',g',eS,w5,p1,p2,p3,p4,p5,own,p6,p7⟩:=yK.push HC.out.size (by have:=Gx.out;omega) (-1 - (v:Int)) (v:=.slice none 0 0) (l:=[]) ⟨World.ownsRow_nil _ _ _ _,by simp,by simp⟩ (by simp[aL,QP]) (by omega);have P5:=lh p5;have P6:=lh p6;have P7:=lh p7;clear p5 p6 p7 yK;generalize Plain.dj aa (p.v.drop (j+1))=F0 at *;have vH:=lh p2;clear p2;have dL:∀ {own:List Nat},Hid (∀ j∈own,j=ob\/(w2.heap.size<=j/\∃ cs r,wr.heap[j]?=some (.cells cs 138 r)))->Hid (wr.heap[w2.heap.size]?=some (.cells #[.pointer (some ⟨rb,0,none⟩)] 176 (0,0)))->w2.heap.size ∉ own:=fun h1 h2 e=>by
      rcases h1.out _ e with q | ⟨-,cs,r,q⟩
      ·have:=Gx.out;omega
      rw[h2.out] at q;simp at q
     have mo:=lh (dL P7 hrx);clear dL
     go_wp2_with (at_builtin;refine ki rfl (.tmp 50) (.tmp 54) _ rfl rfl rfl vH.out ?_)
     have fD:∀ j∈own,w2.heap.size<=j:=fun j hj=>by
      rcases P7.out j hj with q | ⟨q,-⟩
      ·have:=Gx.out;omega
      exact (by assumption)
     go_roundw
     case rel=>exact⟨j,by omega,rfl,by rw[HDR.out];exact P5.out.up (by simp[QQ]),HC.out.trans P6.out (fun j hj=>Qo (fD j hj)),lh (P6.out.heap hrx.out mo.out)⟩
     case measure=>simp[intOf]
    | cons d0 l0 =>
     go_wp2
     go_roundw
     case rel=>exact⟨j,by omega,rfl,by rw[HDR.out];simpa using HW.out,HC.out,hrx⟩
     case measure=>simp[intOf]
   obtain rfl:k=0:=by omega
   generalize wr=wa at *;rw[List.drop_zero] at yK HW;have nq:=@run_makeMap Tryz.prog;have DJ:=(cell_of_row _ _ 0 _ _ _ hrx.out).trans (show _=some (QH (some ⟨rb,0,none⟩)) from rfl);have agx:=fun o=>dC DJ o;have akI:=fun o o'=>dC (agx o) o';clear yK hc
   go_wp2_with fail
   refine (Aw rb _).mono ?_;rintro e w5 ⟨rfl,hw5⟩;have XL:((wa.alloc (.map #[] 0)).alloc (.cells #[.map (some wa.heap.size)] 124)).heap.size=wa.heap.size+2:=by simp
   have avK:w5.heap.size=wa.heap.size+3:=by rw[hw5];simp
   rw[XL];have gJ:=(Plain.gw HR.out).1;have mH:=lh (Plain.Pt.aF gJ);have HTO:=lh (Plain.gw HR.out).2;have ZH:=lh (fun (x:Int) (hx:x∈p.ag)=>Plain.qE gJ hx);have HMB:=lh (show bN w5 wa.heap.size 0 (fun _=>none) by rw[hw5];exact ((bN.made wa).alloc _).alloc _);have HLB:=lh (show w5.heap[wa.heap.size+1]?=some (.cells #[.map (some wa.heap.size)] 124 (0,0)) by
    rw[hw5];have:=heap_alloc_new (wa.alloc (.map #[] 0)) (.cells #[.map (some wa.heap.size)] 124);simp only[World.size_alloc] at this;exact (((ai.refl [] _).alloc _).heap this (by simp)))
   have Sv:=lh (show w5.cell? ⟨wa.heap.size+2,0,none⟩=some (.pointer (some ⟨rb,0,none⟩)) by
    rw[hw5];have:=heap_alloc_new ((wa.alloc (.map #[] 0)).alloc (.cells #[.map (some wa.heap.size)] 124)) (.cells #[.pointer (some ⟨rb,0,none⟩)] 176);rw[XL] at this;exact (cell_of_row _ _ 0 _ _ _ this).trans rfl)
   have iP:=lh (show ai [] wa w5 by rw[hw5];exact (((ai.refl [] wa).alloc _).alloc _).alloc _);have MU:=lh uN.out.ag;have HRC:=lh ((cell_of_row _ _ 3 _ _ _ uN.out.cells).trans (show _=some vd from rfl));have HIT:=lh (show xK w5 (wa.heap.size+2) rb vd (p.ag.attach.map (·.1)) by
    rw[Qa];exact⟨Sv.out,(HC.out.t iP.out).c HRC.out,MU.out.fresh (HC.out.t iP.out)⟩)
   have afM:=lh (lt_of_block uN.out.cells);have F8:=lh (show w2.heap.size<=wa.heap.size from HC.out.size);have x9:p.ag.length<=2000000:=by rw[Plain.cw];omega
   clear hw5 XL nq DJ agx akI h0 hk gJ;go_wp2;refine (wpIn_wide (n:=9)).1 ?_;refine wpIn_rangeFunc_ownG rfl (by decide) (gf:=180) (lb:=#[.pointer (some ⟨wa.heap.size+2,0,none⟩)]) rfl trivial (enters_of Tryz.func180 (by kernel_rfl) rfl)
    (tU {x // x∈p.ag} (·.1) 8 (by decide) (wa.heap.size+2) rb vd p.ag.attach (by rw[Qg];omega) w5 HIT.out) pJ (fun W l o o' _ h1 h2 _=>tG h1 h2) (Below.refl _ _) (fun _=>rfl)
    (S5 p.ag wa) (fun _ _ _=>False) (S5.own (by omega))
    (fun _ _ _ _ _ hs _ _=>hs)
    ⟨_,HMB.out,by simp,HLB.out,iP.out⟩ ?a1 ?assign ?body ?done ?stop
   case assign =>
    intro l x W K hK
    gi_wp2
    exact hK
   case body =>
    rintro l pre x W ⟨f,hm,hf,J8,wU⟩ aU;have HF:=lh hf;have HM:=lh hm;have HLW:=lh J8;have xo:=lh wU;have TK:=(cell_of_row _ _ 0 _ _ _ J8).trans (show _=some (QM (some wa.heap.size)) from rfl);obtain⟨x,hx⟩:=x;have HX:=lh hx;have IX:bn x:=bn.mk (by have:=(ZH.out x hx).1;omega) (by have:=(ZH.out x hx).2;omega);have ajU:pre.length<maxLen:=by rw[Qg] at aU;unfold maxLen;omega
    clear hf hm J8 wU aU;dsimp only
    gi_wp2_with (gi_at_mapUpdate;refine NC _ rfl _ _ _ rfl HM.out ajU rfl IX IX rfl rfl ?_;intro w6 m6 g6;have M6:=lh m6;have G6:=lh g6;clear m6 g6)
    exact⟨KeepsFrom.of_grownBy G6.out (fun j e=>by cases e;omega),
     tP (w2:=w2) (by rw[Qa];exact MU.out) afM.out ((ai.refl [wa.heap.size] W).grown G6.out (fun j hj=>by cases hj;exact Qp (by simp))) (fun j hj=>by have:=F8.out;simp at hj;omega),
     _,by rw[QI];exact M6.out,fun y=>by
      rw[QC,QD];by_cases e:y=x
      ·subst e;simp
      rw[if_neg e];simp only[QR,List.map_nil,List.mem_singleton,e,or_false];exact HF.out y,
     ((ai.refl [wa.heap.size] W).grown G6.out (fun j hj=>by cases hj;exact Qp (by simp))).heap HLW.out (by simp),
     xo.out.grown G6.out (fun j hj=>by cases hj;exact Qo (QO _))⟩
   case done =>
    rintro D ys W hD rfl ⟨f,hm,hf,J8,wU⟩ hK;have TA:=lh hK;have vL:=lh (HC.out.t wU);have FI:=lh (lt_of_block hK);have HOF:=lh ((HW.out.fresh wU).up wU.size);have HXF:=lh (wU.heap hrx.out (by simp));have HMF:=lh hm;have HFF:=lh hf;have HLF:=lh J8;have Vw:=lh (show wa.heap.size+3<=W.heap.size by have:=lt_of_block hK;omega);have DJ:=(cell_of_row _ _ 0 _ _ _ HXF.out).trans (show _=some (QH (some ⟨rb,0,none⟩)) from rfl);clear hm hf J8 wU;generalize W=wf at *
    go_wp2_with fail
    refine (Aw rb _).mono ?_;rintro e w7 ⟨rfl,hw7⟩;have au6:w7.heap.size=wf.heap.size+1:=by rw[hw7];simp
    have nm:=lh (show ai [] wf w7 by rw[hw7];exact (ai.refl [] wf).alloc _);have ajC:=lh (show xK w7 wf.heap.size rb vd (p.ag.attach.map (·.1)) by
     rw[Qa];refine⟨?_,(vL.out.t nm.out).c HRC.out,MU.out.fresh (vL.out.t nm.out)⟩;rw[hw7];exact (cell_of_row _ _ 0 _ _ _ (heap_alloc_new wf _)).trans rfl)
    have Ee:=lh (show Made g p aa w2 wa.heap.size ob rb D wf.heap.size [] w7 from
     ⟨[],_,by rw[Qw];exact (HOF.out.fresh nm.out).up nm.out.size,by have:=HMF.out.aM nm.out (by simp);rwa[Qg] at this,fun y=>by rw[HFF.out y,Qa];simp[Plain.flat],Plain.yL.start g p aa,nm.out.heap HLF.out (by simp),nm.out.heap HXF.out (by simp),nm.out.heap TA.out (by simp),vL.out.t nm.out,by rw[hw7];exact heap_alloc_new wf _⟩)
    clear hw7 DJ hK;go_wp2;refine (wpIn_wide (n:=9)).1 ?_;refine wpIn_rangeFunc_ownG rfl (by decide) (gf:=180) (lb:=#[.pointer (some ⟨wf.heap.size,0,none⟩)]) rfl trivial (enters_of Tryz.func180 (by kernel_rfl) rfl)
     (tU {x // x∈p.ag} (·.1) 8 (by decide) wf.heap.size rb vd p.ag.attach (by rw[Qg];omega) w7 ajC.out) pJ (fun W l o o' _ h1 h2 _=>tG h1 h2) (Below.refl _ _) (fun _=>rfl)
     (Made g p aa w2 wa.heap.size ob rb D wf.heap.size) (fun _ _ _=>False) (Made.own (by have:=Vw.out;omega) (by have:=Vw.out;have:=F8.out;omega) (by have:=FI.out;omega) (by omega))
     (fun _ _ _ _ _ hs _ _=>hs) Ee.out ?a2 ?assign2 ?body2 ?done2 ?stop2
    case assign2 =>
     intro l x W K hK
     gi_wp2
     exact hK
    case body2 =>
     rintro l pre x W ⟨F,f,k1,k2,k3,k4,k5,k6,k7,k8,k9⟩ aU;obtain⟨x,hx⟩:=x;dsimp only;have K1:=lh k1;have K2:=lh k2;have K3:=lh k3;have K4:=lh k4;have K5:=lh k5;have K6:=lh k6;have K7:=lh k7;have K8:=lh k8;have K9:=lh k9;have HX:=lh hx;have ZL:=ZH.out x hx;have IX:bn x:=bn.mk (by omega) (by omega);have an9:=lh (show aJ w2 vd (p.ag.attach.map (·.1)) by rw[Qa];exact MU.out);have TK:=(cell_of_row _ _ 0 _ _ _ k5).trans (show _=some (QM (some wa.heap.size)) from rfl);have HPL:=lh (show pre.length<=p.ag.length by rw[Qg] at aU;omega);clear k1 k2 k3 k4 k5 k6 k7 k8 k9 aU;by_cases hxf:x∈Plain.flat F
     ·have HXF:=lh hxf
      have Xb:=lh (show f x=none from Qd fun h=>((K3.out x).1 h).2 hxf);have HV:Hid ((f x).getD 0=0):=lh (by rw[Xb.out];rfl);have HT:Hid ((f x).isSome=false):=lh (by rw[Xb.out];rfl);clear hxf
      gi_wp2_with (gi_at_lookup;refine nK _ rfl _ _ rfl K2.out rfl IX rfl HV HT ?_)
      exact⟨KeepsFrom.refl _ _,⟨Nat.le_refl _,id⟩,F,f,K1.out,K2.out,K3.out,by rw[QC];exact K4.out.skip HXF.out,K5.out,K6.out,K7.out,K8.out,K9.out⟩
     have HXF:=lh hxf;obtain⟨u,hu⟩:∃ u,f x=some u:=Option.ne_none_iff_exists'.1 ((K3.out x).2 ⟨hx,hxf⟩);have HV:Hid ((f x).getD 0=u):=lh (by rw[hu];rfl);have HT:Hid ((f x).isSome=true):=lh (by rw[hu];rfl);clear hxf hu;have aj7:=fun o=>dC TK o
     gi_wp2_with (gi_at_lookup;refine nK _ rfl _ _ rfl K2.out rfl IX rfl HV HT ?_)
     have hsw:wa.heap.size+1<W.heap.size:=lt_of_block K5.out;have hsd:D<W.heap.size:=lt_of_block K7.out;have FC:w2.heap.size<W.heap.size:=lt_of_block K6.out;have yR:=lh ((ai.refl [wa.heap.size] W).alloc (.cells #[.int .i64 x,.slice none 0 0] 138));have WL:=lh ((ai.refl [] W).alloc (.cells #[.int .i64 x,.slice none 0 0] 138));have zf:=lh (show xE g p aa w2 W wa.heap.size ob rb D W.heap.size (Plain.dj aa p.v) F x [] (.slice none 0 0) f (W.alloc (.cells #[.int .i64 x,.slice none 0 0] 138)) from
      ⟨heap_alloc_new W _,⟨World.ownsRow_nil _ _ _ _,by simp,by simp⟩,K1.out.fresh WL.out,K2.out.alloc _,fun y=>by rw[K3.out y];simp,WL.out.heap K5.out (by simp),WL.out.heap K6.out (by simp),WL.out.heap K7.out (by simp),yR.out⟩)
     clear aj7 TK WL yR
     gi_loopw [19,20] (fun c19 c20 wi=>∃ (L:List Int) (z:Int) (ok:Bool) (v:Value) (f:Int->Option Int),c19=.int .i64 z/\c20=.bool ok/\xE g p aa w2 W wa.heap.size ob rb D W.heap.size (Plain.dj aa p.v) F x L v f wi/\Hid (Plain.Tl g p aa F x L z)/\Hid (ok=true↔(z ∉ Plain.flat F/\z ∉ L))/\Hid (L=[]->ok=true)) (fun _ _ wi=>p.ag.length - rowLen wi W.heap.size)
     case atStart=>exact⟨[],x,true,_,f,rfl,rfl,zf.out,lh (Plain.Tl.start hx),lh (by simp[HXF.out]),lh (fun _=>rfl)⟩
     case round =>
      obtain⟨L,z,ok,v,f,rfl,rfl,yK,y4,jP,hL⟩:=hrel;have qO:=lh yK;cases ok with
      | true =>
       obtain⟨zn,hzn⟩:∃ zn:Nat,z=(zn:Int):=⟨z.toNat,by have:=(ZH.out z y4.out.mem).1;omega⟩;subst hzn;obtain⟨va,vc,rfl⟩:=yK.row.shape;have cb:=(cell_of_row _ _ 1 _ _ _ yK.box).trans (show _=some (Qu va L.length vc) from rfl);have cl:=(cell_of_row _ _ 0 _ _ _ yK.Pg).trans (show _=some (QM (some wa.heap.size)) from rfl);have HZD:=lh y4.out.mem;have hzr:=ZH.out (zn:Int) y4.out.mem;have IZ:bn (zn:Int):=bn.mk (by omega) (by omega);have Xn:=jP.out.1 rfl;have HOK:=lh Xn;have hLd:L.length+1<=p.ag.length:=by
        have:=Plain.bQ (l:=(zn:Int) :: L) (m:=p.ag) (Qn.2 ⟨Xn.2,y4.out.nodup⟩) (fun y hy=>by
         rcases Qi.1 hy with q | q
         ·rw[q];exact HZD.out
         exact (y4.out.sub y q).1)
        simpa using this
       have HWB:=lh (lt_of_block yK.box);clear yK Xn
       gi_wp2_with (first
        | (gi_at_delete;refine L7 _ rfl _ _ rfl qO.out.left rfl IZ rfl ?_;intro w6 m6 g6;have M6:=lh m6;have G6:=lh g6;have C6:=lh (show ai [wa.heap.size] wr w6 from (ai.refl _ _).grown g6 (fun j hj=>by cases hj;exact Qp (by simp)));have cb6:=C6.out.cell cb (by simp;omega);clear m6 g6)
        | (gi_at_builtin;obtain⟨v',w7,hr7,r7,c7,f7⟩:=iL (w:=w6.alloc (.cells #[.int .i64 (zn:Int)] 3)) (B:=W.heap.size+1) (v:=.slice va L.length vc) (l:=L) (m:=[(zn:Int)]) (u:=.slice (some ⟨w6.heap.size,0,none⟩) 1 1) (qO.out.row.aM (C6.out.alloc _) (fun b hb e=>by have:=(qO.out.row.low b hb).1;simp at e;omega)) (gP w6 IZ) (by have:=HWB.out;have:=C6.out.size;simp;omega) (by simp;omega) 25;refine Aj rfl (.tmp 87) (.tmp 89) _ rfl rfl rfl hr7 ?_;obtain⟨nt,nr,e7⟩:=r7.shape;obtain rfl:v'=.slice nt (L.length+1) nr:=(by rw[e7];simp);have R7:=lh r7;have C7:=lh (show ai (aL (.slice va L.length vc)) w6 w7 from ((ai.refl _ w6).alloc _).trans c7 (fun j hj=>Qp hj));have U1:=C7.out.heap (C6.out.heap qO.out.box (by simp;omega)) (fun e=>by have:=(qO.out.row.low _ (by rw[<-qO.out.row.aL];exact e)).1;omega);have cb7:=(cell_of_row _ _ 1 _ _ _ U1).trans (show _=some (Qu va L.length vc) from rfl);have z7:=bJ U1 1;have TS:=lh (qO.out.step hsw hsd FC G6.out M6.out R7.out C7.out);have cr8:=(cell_of_row _ _ 0 _ _ _ TS.out.O6).trans (show _=some (QH (some ⟨rb,0,none⟩)) from rfl);have cl8:=(cell_of_row _ _ 0 _ _ _ TS.out.Pg).trans (show _=some (QM (some wa.heap.size)) from rfl);clear hr7 r7 c7 f7 U1 e7))
       generalize (w7.setCell ⟨W.heap.size,1,none⟩ (.slice nt (L.length+1) nr))=w8 at *;clear cb cl cb6 cb7 z7;have HMX:=lh (show ∀ j∈[wa.heap.size],j∈([]:List Nat)\/w2.heap.size<=j from fun j hj=>Qo (by have:=F8.out;simp at hj;omega));refine⟨trivial,?_⟩;refine (CallsIn.inRound l (callsIn_wide.2 (KA rb g p aa Sc vd lb pb n m zn w8 mH.out HTO.out Pz yH.out HZD.out (by omega) (uN.out.fresh (K8.out.trans TS.out.aM HMX.out))))).mono ?_;rintro e w9 ⟨rfl,rfl⟩;have oY:=y4.out.step mH.out HTO.out HOK.out.1 HOK.out.2;obtain⟨nx,hnx⟩:∃ nx:Nat,Plain.ay g aa (zn:Int)=(nx:Int):=⟨(Plain.ay g aa (zn:Int)).toNat,by have:=(ZH.out _ oY.mem).1;omega⟩;rw[hnx] at oY ⊢;have hnr:=(ZH.out _ oY.mem).2;have IN:bn (nx:Int):=bn.mk (by omega) (by omega);have GS:=lh oY;obtain⟨u9,hu9⟩:∃ u9,(if (nx:Int)=(zn:Int) then none else f nx).getD 0=u9:=⟨_,rfl⟩;obtain⟨ok9,Zx⟩:∃ ok9,(if (nx:Int)=(zn:Int) then none else f nx).isSome=ok9:=⟨_,rfl⟩;have HV9:Hid (((fun y=>if y=(zn:Int) then none else f y) (nx:Int)).getD 0=u9):=lh hu9;have HT9:Hid (((fun y=>if y=(zn:Int) then none else f y) (nx:Int)).isSome=ok9):=lh Zx;have ajs:=lh (show ok9=true↔((nx:Int) ∉ Plain.flat F/\(nx:Int) ∉ L++[(zn:Int)]) by
        rw[<-Zx,Option.isSome_iff_ne_none,TS.out.f];exact⟨fun h=>h.2,fun h=>⟨oY.mem,h⟩⟩)
       have mU:=lh (show rowLen w8 W.heap.size=L.length+1 by rw[TS.out.len];simp);clear hu9 Zx oY hnx
       gi_wp2_with (gi_at_lookup;refine nK _ rfl _ _ rfl TS.out.left rfl IN rfl HV9 HT9 ?_)
       go_roundw
       case rel=>exact⟨L++[(zn:Int)],(nx:Int),ok9,_,_,rfl,rfl,TS.out,GS,ajs,lh (by simp)⟩
       case measure=>rw[mU.out,qO.out.len];omega
      | false =>
       have adP:L≠[]:=fun e=>by have:=hL.out e;cases this
       have Wy:z∈Plain.flat F\/z∈L:=Qd fun h=>by
        have h1:z ∉ Plain.flat F:=fun e=>h (Qp e);have h2:z ∉ L:=fun e=>h (Qo e);have:=jP.out.2 ⟨h1,h2⟩;cases this
       have alY:=lh (K4.out.add y4.out.nodup y4.out.sub (y4.out.ring mH.out HTO.out K4.out adP Wy));clear adP Wy hL jP;obtain⟨va,vc,rfl⟩:=yK.row.shape;have cb0:=(cell_of_row _ _ 0 _ _ _ yK.box).trans (show _=some (Value.int .i64 x) from rfl);have cb:=(cell_of_row _ _ 1 _ _ _ yK.box).trans (show _=some (Qu va L.length vc) from rfl);have VB:(Plain.dj aa p.v++F).length<1000000000:=by
        have h1:(Plain.dj aa p.v).length<=p.v.length:=by
         unfold Plain.dj;rw[Qv];refine QK (Qt _ _) ?_;rw[QG];exact QO _
        have h2:=K4.out.keys.length_le;rw[Qv,Qv] at h2;have h3:=HPL.out;rw[QI];omega
       have ame:=lh yK.out.ex;obtain⟨Nr,c',g',eS,w5',p1,p2,p3,p4,p5,own,p6,p7⟩:=yK.out.push (by have:=K8.out.size;have:=yK.aM.size;omega) (by have:=Gx.out;omega) x (yK.row.base (by omega)) (fun j hj=>by have:=(yK.row.low j (by rw[<-yK.row.aL];exact hj)).1;omega) VB;have vH:=lh p2;have P5:=lh p5;have P6:=lh p6;have P7:=lh p7;have U6:=lh HW.out.lt;clear p2 p5 p6 p7 yK y4;generalize hF0:Plain.dj aa p.v++F=F0 at *;have SI:=lh hF0;clear hF0
       gi_wp2_with (gi_at_builtin;refine Aj rfl (.tmp 98) (.tmp 100) _ rfl rfl rfl vH.out ?_)
       have gM:∀ {b:Nat} {o:Obj},wr.heap[b]?=some o->b≠ob->(∀ cs r,o≠.cells cs 138 r)->b ∉ own:=fun hb bh ht e=>by
        rcases P7.out _ e with q | ⟨-,cs,r,q⟩
        ·exact bh q
        rw[hb] at q;cases q;exact ht _ _ rfl
       obtain⟨ov0,xs0,anX,-⟩:=ame.out;have ana:D≠ob:=fun e=>by have:=qO.out.dfr;rw[e,anX] at this;cases this
       have amX:wa.heap.size ∉ own:=fun e=>by
        rcases P7.out _ e with q | ⟨-,cs,r,q⟩
        ·have:=U6.out;omega
        exact qO.out.left.ne q rfl
       have V1:wf.heap.size≠wa.heap.size:=by have:=Vw.out;omega
       have aes:=qO.out.aM.heap K9.out (by simpa using V1);have ai5:wf.heap.size≠ob:=by have:=U6.out;have:=Vw.out;omega
       have Kb:∀ j∈own,w2.heap.size<=j:=fun j hj=>by
        rcases P7.out _ hj with q | ⟨q,-⟩
        ·have:=Gx.out;omega
        exact q
       have adL:wf.heap.size ∉ own:=gM aes ai5 (fun cs r e=>by cases e);have aeM:ai ((wa.heap.size :: own).filter fun j=>decide (j<W.heap.size)) W _:=((qO.out.aM.mono (lY:=wa.heap.size :: own) (fun j hj=>Qp (by simp at hj;simp[hj]))).trans P6.out (fun j hj=>Qp (by simp[hj]))).mono (fun j hj=>by
        by_cases q:j<W.heap.size
        ·exact Qp (Qx.2 ⟨hj,by simpa using q⟩)
        exact Qo (by omega))
       have J9:∀ j∈(wa.heap.size :: own).filter fun j=>decide (j<W.heap.size),(j<w7.heap.size\/∃ cs t r,W.heap[j]?=some (.cells cs t r))/\w2.heap.size<=j/\j≠wf.heap.size:=fun j hj=>by
        obtain⟨h1,h2⟩:=Qx.1 hj;simp only[decide_eq_true_eq] at h2;rcases Qi.1 h1 with q | q
        ·exact⟨Or.inl (by have:=Vw.out;omega),by have:=F8.out;omega,by rw[q];exact Ne.symm V1⟩
        refine⟨?_,Kb j q,fun e=>adL (e ▸ q)⟩;rcases P7.out _ q with r | ⟨-,cs,r,hh⟩
        ·exact Qp (by have:=U6.out;have:=Vw.out;omega)
        refine Qo ⟨cs,138,r,?_⟩;rw[<-qO.out.aM.block j h2 (fun e=>by simp at e;rw[e] at hh;exact qO.out.left.ne hh rfl)];exact hh
       refine⟨yX aeM (fun j hj=>(J9 j hj).1),tP an9.out afM.out aeM (fun j hj=>(J9 j hj).2),F++[(x,L)],f,?_,qO.out.left.aM P6.out amX,fun y=>?_,by rw[QC];exact alY.out,P6.out.heap qO.out.Pg (gM qO.out.Pg (by have:=U6.out;omega) (fun cs r e=>by cases e)),P6.out.heap qO.out.O6 (gM qO.out.O6 (by have:=Gx.out;omega) (fun cs r e=>by cases e)),P6.out.heap qO.out.dfr (gM qO.out.dfr ana (fun cs r e=>by cases e)),(K8.out.trans qO.out.aM (fun j hj=>Qo (by have:=F8.out;simp at hj;omega))).trans P6.out (fun j hj=>Qo (Kb j hj)),P6.out.heap aes adL⟩
       ·rw[<-List.append_assoc,SI.out]
        exact P5.out.up (by simp[QQ])
       rw[qO.out.f y,Plain.AP,QD];simp only[not_or]
    case done2 =>
     rintro D2 ys W hD2 rfl ⟨F,f,k1,k2,k3,k4,k5,k6,k7,k8,k9⟩ hK2;rw[Qa] at k4;have HWK:=lh (k4.walks mH.out);obtain⟨⟨ov,xs,h1,h2,-,-⟩,-⟩:=k1;obtain⟨oo,oc,rfl⟩:=h2.shape;have c10:=(cell_of_row _ _ 0 _ _ _ h1).trans (show _=some (Qu oo (Plain.dj aa p.v++F).length oc) from rfl);have HN:=lh h2;have CS:=lh hK2;have HKD:=lh k7;have xf:=lh k8;have TU:=lh (lt_of_block k7);clear k2 k3 k4 k5 k6 k7 k8 k9 h1 h2 hK2;generalize Plain.dj aa p.v++F=WW at *;go_wp2;have Nj:=lh ((ai.refl [D2] W).grown (grownBy_putObj' W D2 (.deferred none)) (fun j hj=>by cases hj;exact Qp (by simp)));have aeG:=lh (Nj.out.heap HKD.out (by have:=FI.out;simp;omega));have sD:=lh ((ai.refl [D] (W.putObj D2 (.deferred none))).grown (grownBy_putObj' _ D (.deferred none)) (fun j hj=>by cases hj;exact Qp (by simp)));refine⟨by simp,.inl ⟨_,_,rfl,run_takeDeferred CS.out,?_⟩⟩;refine⟨by simp,.inl ⟨_,_,rfl,run_takeDeferred aeG.out,?_⟩⟩;refine⟨.tuple #[.slice oo WW.length oc,.int .i64 0],by simp[results,Tryz.results101,go_sem],?_⟩;rw[HR.out];refine⟨_,rfl,fun h=>absurd rfl h,fun _=>⟨WW,xs,HWK.out,?_⟩,?_⟩
     ·refine ((HN.out.other Nj.out (fun j hj cs t r hh=>?_)).other sD.out (fun j hj cs t r hh=>?_)).base (by have:=zi.out;omega)
      ·simp at hj;subst hj;rw[CS.out] at hh;cases hh
      simp at hj;subst hj;rw[aeG.out] at hh;cases hh
     exact ((cA.out.t xf.out).trans Nj.out (fun j hj=>Qo (by have:=FI.out;have:=Vw.out;have:=F8.out;have:=zi.out;simp at hj;omega))).trans sD.out (fun j hj=>Qo (by have:=Vw.out;have:=F8.out;have:=zi.out;simp at hj;omega))
    case stop2 =>
     rintro D2 c pre W _ _ h _;exact h.elim
   case stop =>
    rintro D c pre W _ _ h _;exact h.elim
 have HR:=lh hr;obtain rfl:=fz hr;clear fz cH;have Fg:=lh (cA.out.t ((ai.refl [] w2).alloc (.cells #[.pointer none] 176)));obtain⟨er,qK⟩:∃ er,Plain.bH g p aa=er:=⟨_,rfl⟩;have BG:=lh qK;rw[qK] at hr HR ⊢;clear qK;go_wp2;refine⟨.tuple #[.slice none 0 0,.int .i64 er],by simp[results,Tryz.results101,go_sem],?_⟩;rw[BG.out];exact⟨_,rfl,fun _=>rfl,fun h=>absurd h HR.out,Fg.out⟩
end
end Go.Proofs.YtbkjljffnkdcjaaGreat
namespace Go.Proofs.YtbkjljffnkdcjaaGreat.Plain
theorem kL {p:Pt} (h:p.e.Pairwise (·<·)):p.ag.Pairwise (·<·):=by
 obtain⟨v,e⟩:=p;unfold Pt.ag;dsimp only at h ⊢
 induction e with
 | nil=>simp
 | cons a l ih =>
  rw[Qz] at h;rw[List.flatMap_cons,QF];refine⟨by simp;omega,ih h.2,fun x hx y hy=>?_⟩;obtain⟨b,hb,hy⟩:=List.mem_flatMap.1 hy;have:=h.1 b hb;simp at hx hy;omega
theorem yL.Oq {g:Gr} {p:Pt} {aa:List (List Int)} {F:List bR} (h:yL g p aa F p.ag) (hr:p.e.Pairwise (·<·)) {f:bR} (hf:f∈F) {y:Int} (hy:y∈f.2):f.1<=y:=by
 obtain⟨a,b,e,ha⟩:=h.least f hf;have hd:=h.sub y (QA.2 ⟨f.2,Qj.2 ⟨f,hf,rfl⟩,hy⟩);have hp:=kL hr;rw[e] at hd hp;rcases QD.1 hd with q | q
 ·exact absurd q (ha y hy)
 rcases Qi.1 q with q | q
 ·omega
 have:=(Qz.1 (QF.1 hp).2.1).1 y q;omega
theorem yL.DO {g:Gr} {p:Pt} {aa:List (List Int)} {F:List bR} (h:yL g p aa F p.ag) (hr:p.e.Pairwise (·<·)):(F.map (·.1)).Pairwise (·<·):=(kL hr).sublist h.keys
theorem yL.afK {g:Gr} {p:Pt} {aa:List (List Int)} {F F':List bR} (h:yL g p aa F p.ag) (h':yL g p aa F' p.ag) (hr:p.e.Pairwise (·<·)) {f:bR} (hf:f∈F):f∈F':=by
 obtain⟨l,e⟩:=h.key f hf;have hd:f.1∈flat F':=h'.cover _ (h.sub _ (QA.2 ⟨f.2,Qj.2 ⟨f,hf,rfl⟩,by rw[e];simp⟩));obtain⟨c,hc,SR⟩:=QA.1 hd;obtain⟨f',uU,rfl⟩:=Qj.1 hc;obtain⟨l',e'⟩:=h'.key f' uU;have fz:=h.rings.ring f.2 (Qj.2 ⟨f,hf,rfl⟩);have cH:=h'.rings.ring f'.2 hc;obtain⟨m,hm,dA⟩:=cH.from SR;have y8:(f.1 :: l).Nodup:=by
  rw[<-e];exact (ji.1 h.rings.nodup).1 _ (Qj.2 ⟨f,hf,rfl⟩)
 have gL:f'.2.Nodup:=(ji.1 h'.rings.nodup).1 _ hc;have hn3:(f.1 :: m).Nodup:=dA.nodup_iff.2 gL;rw[e] at fz;have hlm:l=m:=Trail.det (x:=f.1) fz hm (Qn.1 y8).1 (Qn.1 hn3).1;subst hlm;have h1:f.1<=f'.1:=h.Oq hr hf (by rw[e];exact dA.mem_iff.2 (by rw[e'];simp));have h2:f'.1<=f.1:=h'.Oq hr uU SR;have hk:f.1=f'.1:=by omega
 rw[e'] at cH gL;rw[<-hk] at cH gL;have Se:l=l':=Trail.det (x:=f.1) fz cH (Qn.1 y8).1 (Qn.1 gL).1;have:f=f':=by
  obtain⟨a,b⟩:=f;obtain⟨a',b'⟩:=f';dsimp only at e e' hk;rw[e,e',hk,Se]
 rw[this];exact uU
theorem Ec:∀ {F F':List bR},(F.map (·.1)).Pairwise (·<·)->(F'.map (·.1)).Pairwise (·<·)->(∀ f,f∈F↔f∈F')->F=F'
 | [],[],_,_,_=>rfl
 | [],f :: F',_,_,h=>by have:=(h f).2 (by simp);simp at this
 | f :: F,[],_,_,h=>by have:=(h f).1 (by simp);simp at this
 | f :: F,f' :: F',h1,h2,h=>by
  rw[QR,Qz] at h1 h2;have a1:∀ x∈F,f.1<x.1:=fun x hx=>h1.1 x.1 (Qj.2 ⟨x,hx,rfl⟩);have a2:∀ x∈F',f'.1<x.1:=fun x hx=>h2.1 x.1 (Qj.2 ⟨x,hx,rfl⟩);have e:f=f':=by
   rcases Qi.1 ((h f).1 (by simp)) with q | q
   ·exact q
   rcases Qi.1 ((h f').2 (by simp)) with r | r
   ·exact r.symm
   have:=a1 _ r;have:=a2 _ q;omega
  subst e;rw[Ec h1.2 h2.2 fun x=>⟨fun hx=>?_,fun hx=>?_⟩]
  ·rcases Qi.1 ((h x).1 (by simp[hx])) with q | q
   ·subst q;have:=a1 _ hx;omega
   exact q
  rcases Qi.1 ((h x).2 (by simp[hx])) with q | q
  ·subst q;have:=a2 _ hx;omega
  exact q
theorem fC.one {g:Gr} {p:Pt} {aa:List (List Int)} {W W':List bR} (hr:p.e.Pairwise (·<·)) (h:fC g p aa W) (h':fC g p aa W'):W=W':=by
 obtain⟨F,e,k⟩:=h.split;obtain⟨F',e',k'⟩:=h'.split;rw[e,e',Ec (k.DO hr) (k'.DO hr) fun f=>⟨fun hf=>k.afK k' hr hf,fun hf=>k'.afK k hr hf⟩]
open Classical in
noncomputable def iI (g:Gr) (p:Pt) (aa:List (List Int)):List bR:=if h:∃ W,fC g p aa W then Classical.choose h else []
theorem fC.eq {g:Gr} {p:Pt} {aa:List (List Int)} {W:List bR} (hr:p.err g=0) (h:fC g p aa W):W=iI g p aa:=by
 have hex:∃ W,fC g p aa W:=⟨W,h⟩;unfold iI;rw[dif_pos hex];exact h.one (bY (Pt.aP hr).2.2.1) (Classical.choose_spec hex)
def Flat (g:Gr) (p:Pt) (aa:List (List Int)):Prop:=∀ r∈roots g p,dT g p (iI g p aa) r=0
open Classical in
noncomputable def gY (g:Gr) (p:Pt) (aa:List (List Int)):Int:=if bH g p aa≠0 then bH g p aa else if Flat g p aa then 0 else 6
theorem Bd {g:Gr} {p:Pt} {aa:List (List Int)} (h:bH g p aa≠0):gY g p aa=bH g p aa:=if_pos h
theorem F4 {g:Gr} {p:Pt} {aa:List (List Int)} (h:bH g p aa=0) (hf:Flat g p aa):gY g p aa=0:=by unfold gY;rw[if_neg (by simp[h]),if_pos hf]
theorem E7 {g:Gr} {p:Pt} {aa:List (List Int)} (h:bH g p aa=0) (hf:¬ Flat g p aa):gY g p aa=6:=by unfold gY;rw[if_neg (by simp[h]),if_neg hf]
theorem mr {g:Gr} {p:Pt} {aa:List (List Int)} (h:gY g p aa=0):bH g p aa=0/\Flat g p aa:=by
 by_cases h1:bH g p aa=0
 ·refine⟨h1,Qd fun h2=>?_⟩
  rw[E7 h1 h2] at h;cases h
 rw[Bd h1] at h;exact absurd h h1
end Go.Proofs.YtbkjljffnkdcjaaGreat.Plain
namespace Go.Proofs.YtbkjljffnkdcjaaGreat
def pI (V E:Int->List Int) (R:List Int):List Cell:=R.flatMap fun r=>[.row (V r),.row (E r)]
theorem EY (V E:Int->List Int) (R:List Int) (r:Int):pI V E (R++[r])=pI V E R++[.row (V r),.row (E r)]:=by simp[pI]
theorem eA (V E:Int->List Int) (R:List Int) (r:Int):pI V E (r :: R)=.row (V r) :: .row (E r) :: pI V E R:=rfl
theorem sq (V E:Int->List Int):∀ (R:List Int) (n:Nat),n<R.length->(pI V E R)[n*2]?=some (.row (V (R.getD n 0)))
 | [],n,h=>by simp at h
 | r :: R,0,_=>by rw[eA];rfl
 | r :: R,n+1,h=>by
  rw[eA,show (n+1)*2=n*2+1+1 by omega,Qf,Qf,sq V E R n (by simpa using h)];rfl
theorem vB (V E:Int->List Int):∀ (R:List Int) (n:Nat),n<R.length->(pI V E R)[n*2+1]?=some (.row (E (R.getD n 0)))
 | [],n,h=>by simp at h
 | r :: R,0,_=>by rw[eA];rfl
 | r :: R,n+1,h=>by
  rw[eA,show (n+1)*2+1=(n*2+1)+1+1 by omega,Qf,Qf,vB V E R n (by simpa using h)];rfl
theorem lP {V E V' E':Int->List Int}:∀ {R:List Int},(∀ r∈R,V r=V' r/\E r=E' r)->pI V E R=pI V' E' R
 | [],_=>rfl
 | r :: R,h=>by rw[eA,eA,(h r (by simp)).1,(h r (by simp)).2,lP fun s hs=>h s (by simp[hs])]
theorem rp {V V' E:Int->List Int}:∀ {R:List Int} {n:Nat},n<R.length->(∀ m,m<R.length->m≠n->V' (R.getD m 0)=V (R.getD m 0))->pI V' E R=(pI V E R).set (n*2) (.row (V' (R.getD n 0)))
 | [],n,h,_=>by simp at h
 | r :: R,0,_,hm=>by
  rw[eA,eA];show _ :: _ :: _=_ :: _ :: _
  congr 2
  refine lP fun s hs=>⟨?_,rfl⟩;obtain⟨i,hi,e⟩:=Qy hs;have:=hm (i+1) (by simpa using hi) (by omega);simpa[Qb,hi,e] using this
 | r :: R,n+1,h,hm=>by
  have ih:=rp (V:=V) (V':=V') (E:=E) (R:=R) (n:=n) (by simpa using h) (fun m mh jS=>by simpa using hm (m+1) (by simpa using mh) (by omega));have h0:=hm 0 (by simp) (by omega);rw[eA,eA,ih,show (n+1)*2=n*2+1+1 by omega,Qq,Qq];simp at h0;rw[h0];rfl
theorem tH {V E E':Int->List Int}:∀ {R:List Int} {n:Nat},n<R.length->(∀ m,m<R.length->m≠n->E' (R.getD m 0)=E (R.getD m 0))->pI V E' R=(pI V E R).set (n*2+1) (.row (E' (R.getD n 0)))
 | [],n,h,_=>by simp at h
 | r :: R,0,_,hm=>by
  rw[eA,eA];show _ :: _ :: _=_ :: _ :: _
  congr 2
  refine lP fun s hs=>⟨rfl,?_⟩;obtain⟨i,hi,e⟩:=Qy hs;have:=hm (i+1) (by simpa using hi) (by omega);simpa[Qb,hi,e] using this
 | r :: R,n+1,h,hm=>by
  have ih:=tH (V:=V) (E:=E) (E':=E') (R:=R) (n:=n) (by simpa using h) (fun m mh jS=>by simpa using hm (m+1) (by simpa using mh) (by omega));have h0:=hm 0 (by simp) (by omega);rw[eA,eA,ih,show (n+1)*2+1=(n*2+1)+1+1 by omega,Qq,Qq];simp at h0;rw[h0];rfl
namespace Plain
open Classical in
noncomputable def bt (g:Gr) (p:Pt) (k:Nat):List Int:=(p.v.take k).filter fun v=>decide (∀ u∈p.v,bP g p (-1) v u->v<=u)
theorem qT (g:Gr) (p:Pt):bt g p 0=[]:=by simp[bt]
theorem nM (g:Gr) (p:Pt):bt g p p.v.length=roots g p:=by unfold bt roots;rw[QB]
open Classical in
theorem kY {g:Gr} {p:Pt} {k:Nat} {r:Int} (h:r∈bt g p k):r∈roots g p/\r∈p.v.take k:=by
 unfold bt at h;obtain⟨h1,h2⟩:=Qx.1 h;exact⟨dX.2 ⟨List.mem_of_mem_take h1,of_decide_eq_true h2⟩,h1⟩
open Classical in
theorem B5 {g:Gr} {p:Pt} {k:Nat} (hk:k<p.v.length) (h:p.v.getD k 0∈roots g p):bt g p (k+1)=bt g p k++[p.v.getD k 0]:=by
 unfold bt;have e:p.v.take (k+1)=p.v.take k++[p.v.getD k 0]:=by rw[Qe hk];simp[Qb,hk]
 rw[e,Qc]
 congr 1
 rw[Qr (by exact decide_eq_true (dX.1 h).2),Qh]
open Classical in
theorem Bg {g:Gr} {p:Pt} {k:Nat} (hk:k<p.v.length) (h:p.v.getD k 0 ∉ roots g p):bt g p (k+1)=bt g p k:=by
 unfold bt;have e:p.v.take (k+1)=p.v.take k++[p.v.getD k 0]:=by rw[Qe hk];simp[Qb,hk]
 have hv:p.v.getD k 0∈p.v:=by simp[Qb,hk]
 rw[e,Qc,Qs (by
  intro q;exact h (dX.2 ⟨hv,of_decide_eq_true q⟩)),Qh,Qw]
theorem kV (g:Gr) (p:Pt) (k:Nat):(bt g p k).length<=p.v.length:=by
 unfold bt;exact QK (Qt _ _) (by rw[QN];omega)
theorem aZ {l:List Int} {n:Nat} (h:n<l.length):l.getD n 0∈l:=by simp[Qb,h]
def eJ (g:Gr) (p:Pt) (R:List Int) (f:Int->Option Int):Prop:=∀ y i,f y=some i↔∃ n:Nat,i=(n:Int)/\n<R.length/\bP g p (-1) (R.getD n 0) y
theorem eJ.start (g:Gr) (p:Pt):eJ g p [] (fun _=>none):=fun y i=>by simp
open Classical in
theorem eJ.root {g:Gr} {p:Pt} {k:Nat} {f:Int->Option Int} (hp:aH g p) (hr:p.v.Pairwise (·<·)) (h:eJ g p (bt g p k) f) (hk:k<p.v.length) (hf:f (p.v.getD k 0)=none):p.v.getD k 0∈roots g p:=by
 obtain⟨r,fz,hc⟩:=rK (g:=g) (fun v hv=>(hp.vr v hv).1) (aZ hk);have hle:=(dX.1 fz).2 _ (aZ hk) hc;by_cases e:r=p.v.getD k 0
 ·rw[<-e];exact fz
 exfalso;have UM:=(dX.1 fz).1;obtain⟨j,hj,hje⟩:=bO UM;have Jk:j<k:=by
  rcases QS j k with q | q
  ·exact q
  exfalso;rcases Nat.eq_or_lt_of_le q with q | q
  ·subst q;exact e hje.symm
  have:=Ql.1 hr k j hk hj q;simp[Qb,hk,hj] at hje hle;omega
 have hm:r∈bt g p k:=by
  unfold bt;refine Qx.2 ⟨?_,decide_eq_true (dX.1 fz).2⟩;rw[<-hje];have:(p.v.take k)[j]?=some p.v[j]:=by rw[List.getElem?_take,if_pos Jk,Qm hj]
  have e2:p.v.getD j 0=p.v[j]:=by simp[Qb,hj]
  rw[e2];exact List.mem_of_getElem? this
 obtain⟨n,hn,bh⟩:=bO hm;have:=(h (p.v.getD k 0) (n:Int)).2 ⟨n,rfl,hn,by rw[bh];exact hc⟩;rw[hf] at this;cases this
theorem eJ.known {g:Gr} {p:Pt} {k:Nat} {f:Int->Option Int} (hp:aH g p) (h:eJ g p (bt g p k) f) (hk:k<p.v.length) {i:Int} (hf:f (p.v.getD k 0)=some i):p.v.getD k 0 ∉ roots g p:=by
 intro hr;obtain⟨n,-,hn,hc⟩:=(h _ _).1 hf;have hm:=kY (aZ hn);have e:=nZ (fun v hv=>(hp.vr v hv).1) hm.1 hr hc .here;have h2:=hm.2;rw[e] at h2;have fs:=hp.vn;rw[<-QE k p.v,QL] at fs;have:p.v.getD k 0∈p.v.drop k:=by
  have e2:p.v.getD k 0=p.v[k]:=by simp[Qb,hk]
  rw[e2,Qk hk];exact QJ
 exact fs.2.2 _ h2 _ this rfl
theorem eJ.add {g:Gr} {p:Pt} {R:List Int} {f f':Int->Option Int} (hp:aH g p) (h:eJ g p R f) (hR:∀ r∈R,r∈roots g p) {v:Int} (hv:v∈roots g p) (hn:v ∉ R)
  (h1:∀ y,bP g p (-1) v y->f' y=some (R.length:Int)) (h2:∀ y,¬ bP g p (-1) v y->f' y=f y):eJ g p (R++[v]) f':=by
 intro y i;have gl:∀ n,n<R.length->(R++[v]).getD n 0=R.getD n 0:=fun n hn=>by simp[Qb,List.getElem?_append_left hn]
 have gr:(R++[v]).getD R.length 0=v:=by simp[Qb]
 by_cases hc:bP g p (-1) v y
 ·rw[h1 y hc]
  constructor
  ·intro e
   cases e;exact⟨R.length,rfl,by simp,by rw[gr];exact hc⟩
  rintro ⟨n,rfl,y8,gL⟩;by_cases e:n<R.length
  ·rw[gl n e] at gL
   exact absurd (nZ (fun v hv=>(hp.vr v hv).1) (hR _ (aZ e)) hv gL hc ▸ aZ e) hn
  have:n=R.length:=by simp at y8;omega
  rw[this]
 rw[h2 y hc,h y i];constructor
 ·rintro ⟨n,rfl,y8,gL⟩
  exact⟨n,rfl,by simp;omega,by rw[gl n y8];exact gL⟩
 rintro ⟨n,rfl,y8,gL⟩;by_cases e:n<R.length
 ·rw[gl n e] at gL
  exact⟨n,rfl,e,gL⟩
 have e2:n=R.length:=by simp at y8;omega
 rw[e2,gr] at gL;exact absurd gL hc
noncomputable def wJ (g:Gr) (p:Pt) (k:Nat) (r:Int):List Int:=(p.v.take k).filter fun v=>decide (v∈comp g p r)
noncomputable def rO (g:Gr) (p:Pt) (k:Nat) (r:Int):List Int:=(p.e.take k).filter fun e=>decide (g.tail (2*e)∈comp g p r)
theorem jc {l:List Int} {j:Nat} (hj:j<l.length):l.take (j+1)=l.take j++[l.getD j 0]:=by
 rw[Qe hj];simp[Qb,hj]
theorem Xi {g:Gr} {p:Pt} {k:Nat} {r:Int} (hk:k<p.v.length) (h:p.v.getD k 0∈comp g p r):wJ g p (k+1) r=wJ g p k r++[p.v.getD k 0]:=by
 unfold wJ;rw[jc hk,Qc,Qr (by simpa using h),Qh]
theorem U5 {g:Gr} {p:Pt} {k:Nat} {r:Int} (hk:k<p.v.length) (h:p.v.getD k 0 ∉ comp g p r):wJ g p (k+1) r=wJ g p k r:=by
 unfold wJ;rw[jc hk,Qc,Qs (by simpa using h),Qh,Qw]
theorem YT {g:Gr} {p:Pt} {k:Nat} {r:Int} (hk:k<p.e.length) (h:g.tail (2*p.e.getD k 0)∈comp g p r):rO g p (k+1) r=rO g p k r++[p.e.getD k 0]:=by
 unfold rO;rw[jc hk,Qc,Qr (by simpa using h),Qh]
theorem Uy {g:Gr} {p:Pt} {k:Nat} {r:Int} (hk:k<p.e.length) (h:g.tail (2*p.e.getD k 0) ∉ comp g p r):rO g p (k+1) r=rO g p k r:=by
 unfold rO;rw[jc hk,Qc,Qs (by simpa using h),Qh,Qw]
theorem rV {g:Gr} {p:Pt} (hp:aH g p) {R:List Int} (hR:∀ r∈R,r∈roots g p) (hn:R.Nodup) {v:Int} {n m:Nat} (h1:n<R.length) (h2:m<R.length) (hc:bP g p (-1) (R.getD n 0) v) (hm:v∈comp g p (R.getD m 0)):m=n:=by
 have e:=nZ (fun v hv=>(hp.vr v hv).1) (hR _ (aZ h1)) (hR _ (aZ h2)) hc (cW.1 hm).2;refine Qd fun bh=>?_;have q:=Ql.1 hn;simp only[Qb,Qm h1,Qm h2,Option.getD_some] at e;rcases QS n m with w | w
 ·exact q n m h1 h2 w e
 exact q m n h2 h1 (by omega) e.symm
theorem y9 {g:Gr} {p:Pt} (hp:aH g p) (k:Nat):(bt g p k).Nodup:=by
 unfold bt;exact ((List.take_sublist k p.v).nodup hp.vn).filter _
theorem aee {g:Gr} {p:Pt} (hp:aH g p) {k:Nat} (hk:k<p.v.length):p.v.getD k 0 ∉ p.v.take k:=by
 intro h2;have fs:=hp.vn;rw[<-QE k p.v,QL] at fs;have:p.v.getD k 0∈p.v.drop k:=by
  have e2:p.v.getD k 0=p.v[k]:=by simp[Qb,hk]
  rw[e2,Qk hk];exact QJ
 exact fs.2.2 _ h2 _ this rfl
theorem NY {g:Gr} {p:Pt} (hr:p.v.Pairwise (·<·)) {k:Nat} (hk:k<p.v.length) (h:p.v.getD k 0∈roots g p):wJ g p k (p.v.getD k 0)=[]:=by
 unfold wJ;rw[List.filter_eq_nil_iff];intro u hu hc;have hc:=(cW.1 (of_decide_eq_true hc));have h1:=(dX.1 h).2 u hc.1 hc.2;obtain⟨j,hj,e⟩:=Qy hu;rw[QN] at hj;rw[List.getElem_take] at e;have:=Ql.1 hr j k (by omega) hk (by omega);simp[Qb,hk] at h1;omega
theorem RN (g:Gr) (p:Pt) (r:Int):rO g p 0 r=[]:=by simp[rO]
open Classical in
theorem Ti (g:Gr) (p:Pt) (r:Int):wJ g p p.v.length r=comp g p r:=by
 unfold wJ;rw[QB]
 conv=>rhs;unfold comp
 refine List.filter_congr fun v hv=>?_;have:=cW (g:=g) (p:=p) (a:=r) (u:=v);simp[this,hv]
theorem TL {g:Gr} {p:Pt} (h:aH g p) (r:Int):rO g p p.e.length r=(p.sub g (comp g p r)).e:=by
 unfold rO;rw[QB,zU h r]
end Plain
end Go.Proofs.YtbkjljffnkdcjaaGreat
