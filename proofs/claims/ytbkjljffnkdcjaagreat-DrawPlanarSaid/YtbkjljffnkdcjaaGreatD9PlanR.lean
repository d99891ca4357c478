/- package plan: the contract of Right. Conditions: lists that lie in memory and read so, of a bounded size. -/
import Derived.Test.YtbkjljffnkdcjaaGreatD9Genus
import Derived.Test.YtbkjljffnkdcjaaGreatD9Spread
import Derived.Shelf.SlSortCmp.NoneTotal
open Go.Value renaming slice→Qa
open List renaming mem_cons→Qb,getElem?_take_of_lt→Qe,mem_cons_of_mem→Qh,length_append→Qj,length_cons→Ql,length_nil→Qm
open Or renaming inl→Qc
open Array renaming getElem?_eq_some_iff→Qd,getElem?_modify→Qf,getElem?_toList→Qg
open Go.World renaming frozen?→Qi
open Nat renaming zero_add→Qk,zero_le→Qn
namespace Go.Proofs.YtbkjljffnkdcjaaGreat
open Go.RowKit Go.Maps
theorem JH {w:World} {b:Nat} {o:Obj} (h:w.heap[b]?=some o):b<w.heap.size:=(Qd.1 h).1
theorem q7 {w:World} {v:Value} {n:Nat} {xs:List Value} {e:TypeId} {size base:Nat} (h:w.ownsRow base e size v n xs) {b:Nat} (hb:v.ownBlock=some b):b<w.heap.size:=by
 rcases h.2 with ⟨rfl,rfl⟩ | ⟨g,cap,cur,rfl,-,hh,-⟩
 ·cases hb
 cases hb;exact JH hh
theorem cF.lt {w:World} {own:List Nat} {pb:Nat} {s:St} (h:cF w pb own s):∀ j∈own,j<w.heap.size:=by
 obtain⟨mb,tv,uv,up,h,rfl⟩:=h;intro j hj;simp only[aW.blocks,List.mem_append,Qb,List.not_mem_nil,or_false,Option.mem_toList] at hj;rcases hj with ((rfl | rfl) | q) | q
 ·exact JH h.cells
 ·exact h.map.lt
 ·exact q7 h.eD q
 exact q7 h.E6 q
end Go.Proofs.YtbkjljffnkdcjaaGreat
namespace Go.Proofs
open Go.Shelf
end Go.Proofs
namespace Go.Proofs.YtbkjljffnkdcjaaGreat
open Go.RowKit Go.Maps
section
open Go.Sort
variable {α : Type} [Inhabited α]
theorem CQ {enc:α->Value} {w:World} {g n:Nat} {os:Array Obj} {cur:Array Value} {e:TypeId} {fr:Nat × Nat} (d:Array α) (hb:w.heap[g]?=some (.cells cur e fr)) :
  (sortWorld enc w g 0 n d os).heap[g]?=some (.cells (putCells enc 0 d cur) e fr):=by
 have hg:g<w.heap.size:=(Qd.1 hb).1;unfold sortWorld;rw[heap_grow_old _ _ (by simpa using hg)];simp[putRow,mapBlock,Sort.ahead,Qf,hb,onCells]
theorem nf (enc:α->Value) (w:World) (g n:Nat) (os:Array Obj) (d:Array α):ai [g] w (sortWorld enc w g 0 n d os):=by
 refine⟨rfl,rfl,rfl,by simp[sortWorld],fun k hk bh=>?_⟩;unfold sortWorld;rw[heap_grow_old _ _ (by simpa using hk)];have:g≠k:=fun e=>bh (by simp[e]);simp[putRow,mapBlock,Sort.ahead,Qf,this]
theorem DX (enc:α->Value) (cur:Array Value) (d:Array α) (h:d.size<=cur.size):(putCells enc 0 d cur).toList.take d.size=d.toList.map enc:=by
 apply List.ext_getElem?;intro j;by_cases hj:j<d.size
 ·rw[Qe hj,Qg]
  simp[putCells,hj,show j<cur.size by omega]
 rw[List.getElem?_take_eq_none (by omega),List.getElem?_eq_none (by simp;omega)]
theorem ly {enc:α->Value} {w:World} {base g cap n:Nat} {e:TypeId} {os:Array Obj} {xs:List Value} {d:Array α} (h:w.ownsRow base e 1 (.slice (some ⟨g,0,none⟩) xs.length cap) xs.length xs) (hd:d.size=xs.length) :
  (sortWorld enc w g 0 n d os).ownsRow base e 1 (.slice (some ⟨g,0,none⟩) xs.length cap) xs.length (d.toList.map enc):=by
 rcases h.2 with ⟨h,-⟩ | ⟨g',eS,cur,hv,hg,hh,h1,h2,h3,h4⟩
 ·cases h
 cases hv;exact⟨by simp[hd],.inr ⟨g,cap,_,rfl,hg,CQ d hh,h1,h2,by simp[putCells,h3],by rw[Nat.mul_one,<-hd];exact DX enc cur d (by omega)⟩⟩
theorem j6 {enc:α->Value} {w:World} {base g cap:Nat} {e:TypeId} {xs:List Value} {d:Array α} (h:w.ownsRow base e 1 (.slice (some ⟨g,0,none⟩) xs.length cap) xs.length xs) (hd:d.toList.map enc=xs):Holds enc w g 0 d:=by
 have hs:d.size=xs.length:=by rw[<-hd];simp
 rcases h.2 with ⟨h,-⟩ | ⟨g',eS,cur,hv,hg,hh,h1,h2,h3,h4⟩
 ·cases h
 cases hv;intro j hj;refine⟨?_,by simp[Qi,hh]⟩;have e1:(cur.toList.take (xs.length*1))[j]?=xs[j]?:=by rw[h4]
 rw[Qe (by omega)] at e1;simp only[World.cell?,hh,Qk,Option.isSome_none,Bool.false_eq_true,if_false];rw[<-Qg,e1,<-hd];simp[hj]
end
namespace Plain
def TY (W:List bR) (met:List Int):List (List Int):=(W.filter fun f=>decide (f.1 ∉ met)).map fun f=>[f.1]
end Plain
namespace Plain
end Plain
end Go.Proofs.YtbkjljffnkdcjaaGreat
namespace Go.Proofs.YtbkjljffnkdcjaaGreat
namespace Plain
def g0:Gr:=⟨2,[]⟩
def p0:Pt:=⟨[0,1],[]⟩
def t0:List (List Int):=[[],[]]
def s0:List (List Int):=[[-2,-1]]
def w0:List bR:=[(-2,[]),(-1,[])]
end Plain
end Go.Proofs.YtbkjljffnkdcjaaGreat
namespace Go.Proofs.YtbkjljffnkdcjaaGreat
open Go.RowKit Go.Maps
theorem Plain.zB (n:Nat):Plain.lH (n+1)=Plain.lH n++[(n:Int)]:=by unfold Plain.lH;rw[List.range_succ,List.map_append];rfl
theorem Plain.oq (n:Nat):(Plain.lH n).length=n:=by simp[Plain.lH]
theorem qV.aiV {w wa w7:World} {B ob:Nat} {u1 u2 v:Value} {V E m:List Int} (ho:w.heap[ob]?=some (.cells #[u1,u2] 27 (0,0))) (h1:ax w B u1 V) (h2:ax w B u2 E) (jE:∀ j∈aL u1,j ∉ aL u2) (hB:B<=ob) (ca:ai [] w wa) (c7:ai (aL u1) wa w7) (r7:ax w7 B v m) (f7:∀ j∈aL v,j∈aL u1\/wa.heap.size<=j) :
  qV (w7.setCell ⟨ob,0,none⟩ v) B ob m E/\ai (ob :: aL u1) w (w7.setCell ⟨ob,0,none⟩ v):=by
 have nob:∀ {w:World} {u:Value} {q:List Int} {x y:Value},w.heap[ob]?=some (.cells #[x,y] 27 (0,0))->ax w B u q->ob ∉ aL u:=fun hh h e=>by
  obtain⟨cs,r,h'⟩:=bZ h _ e;rw[hh] at h';simp at h'
 have Wj:=c7.heap (ca.heap ho (by simp)) (nob ho h1);have bw:ai [ob] w7 (w7.setCell ⟨ob,0,none⟩ v):=(ai.refl _ w7).setCell (Qc (by simp)) _;have h27:=(h2.aM ca (by simp)).aM c7 (fun b hb e=>jE b e (by rw[h2.aL];exact hb));have keep:∀ {u:Value} {q:List Int},ax w7 B u q->ax (w7.setCell ⟨ob,0,none⟩ v) B u q:=fun h=>h.aM bw (fun b hb e=>by
  simp at e;subst e;exact nob Wj h (by rw[h.aL];exact hb))
 refine⟨⟨v,u2,heap_setCell_same Wj 0 v,keep r7,keep h27,fun j hj e=>?_,hB⟩,((ca.mono (by simp)).trans (c7.mono (lY:=ob :: aL u1) (fun j hj=>Qc (Qh _ hj))) (fun j hj=>Qc hj)).trans (bw.mono (lY:=ob :: aL u1) (fun j hj=>Qc (by simp at hj;simp[hj]))) (fun j hj=>Qc hj)⟩;rcases f7 j hj with q | q
 ·exact jE j q e
 have:=(h2.low j (by rw[<-h2.aL];exact e)).2;have:=ca.size;omega
theorem qV.ai7 {w wa w7:World} {B ob:Nat} {u1 u2 v:Value} {V E m:List Int} (ho:w.heap[ob]?=some (.cells #[u1,u2] 27 (0,0))) (h1:ax w B u1 V) (h2:ax w B u2 E) (jE:∀ j∈aL u1,j ∉ aL u2) (hB:B<=ob) (ca:ai [] w wa) (c7:ai (aL u2) wa w7) (r7:ax w7 B v m) (f7:∀ j∈aL v,j∈aL u2\/wa.heap.size<=j) :
  qV (w7.setCell ⟨ob,1,none⟩ v) B ob V m/\ai (ob :: aL u2) w (w7.setCell ⟨ob,1,none⟩ v):=by
 have nob:∀ {w:World} {u:Value} {q:List Int} {x y:Value},w.heap[ob]?=some (.cells #[x,y] 27 (0,0))->ax w B u q->ob ∉ aL u:=fun hh h e=>by
  obtain⟨cs,r,h'⟩:=bZ h _ e;rw[hh] at h';simp at h'
 have Wj:=c7.heap (ca.heap ho (by simp)) (nob ho h2);have bw:ai [ob] w7 (w7.setCell ⟨ob,1,none⟩ v):=(ai.refl _ w7).setCell (Qc (by simp)) _;have h27:=(h1.aM ca (by simp)).aM c7 (fun b hb e=>jE b (by rw[h1.aL];exact hb) e);have keep:∀ {u:Value} {q:List Int},ax w7 B u q->ax (w7.setCell ⟨ob,1,none⟩ v) B u q:=fun h=>h.aM bw (fun b hb e=>by
  simp at e;subst e;exact nob Wj h (by rw[h.aL];exact hb))
 refine⟨⟨u1,v,heap_setCell_same Wj 1 v,keep h27,keep r7,fun j hj e=>?_,hB⟩,((ca.mono (by simp)).trans (c7.mono (lY:=ob :: aL u2) (fun j hj=>Qc (Qh _ hj))) (fun j hj=>Qc hj)).trans (bw.mono (lY:=ob :: aL u2) (fun j hj=>Qc (by simp at hj;simp[hj]))) (fun j hj=>Qc hj)⟩;rcases f7 j e with q | q
 ·exact jE j hj q
 have:=(h1.low j (by rw[<-h1.aL];exact hj)).2;have:=ca.size;omega
set_option maxRecDepth 100000 in
set_option maxHeartbeats 4000000 in
theorem zS (vg:Value) (g:Plain.Gr) (N:Nat) (w:World) (hN:g.n=(N:Int)) (hNb:N<=100000) (hE:g.e.length<=100000) (hg:dU w vg g) :
  Calls Tryz.prog 52 #[vg] w fun e w'=>∃ v1 v2,e=.returned (.agg #[v1,v2])/\ax w' w.heap.size v1 (Plain.lH N)/\ax w' w.heap.size v2 (Plain.lH g.e.length)/\ai [] w w':=by
 obtain⟨eo,cap,rfl,-,-,-,-⟩:=hg;rw[hN];have X0:=lh ((cell_of_row _ _ 0 _ _ _ (heap_alloc_new w (.cells #[.int .i64 N,.slice eo g.e.length cap] 24))).trans (show _=some (Value.int .i64 N) from rfl));have X1:=lh ((cell_of_row _ _ 1 _ _ _ (heap_alloc_new w (.cells #[.int .i64 N,.slice eo g.e.length cap] 24))).trans (show _=some (Qa eo g.e.length cap) from rfl));have DL:=lh (heap_alloc_new w (.cells #[.int .i64 N,.slice eo g.e.length cap] 24));have b8:=lh ((ai.refl [] w).alloc (.cells #[.int .i64 N,.slice eo g.e.length cap] 24));obtain⟨fz,cH,iW⟩:=dq (w.alloc (.cells #[.int .i64 N,.slice eo g.e.length cap] 24)) #[.slice none 0 0,.slice none 0 0] #[.slice none 0 0,.slice none 0 0] 27 27;have di:(w.alloc (.cells #[.int .i64 N,.slice eo g.e.length cap] 24)).heap.size=w.heap.size+1:=by simp
 rw[di] at fz cH;have Sf:=lh fz;have kh:=lh iW;have HO:=lh (show qV _ (w.heap.size+1) (w.heap.size+1+1) (Plain.lH 0) (Plain.lH 0) from⟨_,_,cH,⟨World.ownsRow_nil _ _ _ _,by simp[Plain.lH],by simp[Plain.lH]⟩,⟨World.ownsRow_nil _ _ _ _,by simp[Plain.lH],by simp[Plain.lH]⟩,by simp[aL,Value.ownBlock],by omega⟩);have yR:=lh di;clear fz cH di iW hN
 go_enter Tryz.func52,Tryz.ntmps52
 go_wp2;generalize (((w.alloc (.cells #[.int .i64 N,.slice eo g.e.length cap] 24)).alloc (.cells #[.slice none 0 0,.slice none 0 0] 27)).alloc (.cells #[.slice none 0 0,.slice none 0 0] 27))=w4 at *;generalize (w.alloc (.cells #[.int .i64 N,.slice eo g.e.length cap] 24))=w1 at *;obtain⟨E,hEE⟩:∃ E,g.e.length=E:=⟨_,rfl⟩;have HEE:=lh hEE;rw[hEE] at hE X1 DL ⊢;clear hEE
 go_loopw [4] (fun c wr=>∃ k:Nat,k<=N/\c=.int .i64 k/\qV wr (w.heap.size+1) (w.heap.size+1+1) (Plain.lH k) (Plain.lH 0)/\ai [] w1 wr/\wr.heap[w.heap.size+1]?=some (.cells #[.slice none 0 0,.slice none 0 0] 27 (0,0))) (fun c _=>N - (intOf c).toNat)
 case atStart=>exact⟨0,Qn _,rfl,HO.out,kh.out,Sf.out⟩
 case round =>
  obtain⟨k,hk,rfl,eQ,hc,MC⟩:=hrel;have HC:=lh hc;have Cr:=lh MC;have ND:=lh eQ;have xg:=hc.cell X0.out (by have:=yR.out;simp);clear MC eQ;by_cases aU:k<N
  ·obtain⟨u1,u2,ho,fz,cH,jE,hBo⟩:=ND.out
   obtain⟨ua,uc,rfl⟩:=fz.shape;simp only[Plain.oq] at ho fz cH jE;have o0:=(cell_of_row _ _ 0 _ _ _ ho).trans (show _=some (Qa ua k uc) from rfl);have n1:w.heap.size+1+1 ∉ aL (.slice ua k uc):=fun e=>by obtain⟨cs,r,hh⟩:=bZ fz _ e;rw[ho] at hh;simp at hh
   have IK:bn (k:Int):=bn.mk (by omega) (by omega);have N1:=lh n1;have HOO:=lh ho;have H1:=lh fz;have H2:=lh cH;have WE:=lh jE;have CA:=lh ((ai.refl [] wr).alloc (.cells #[.int .i64 (k:Int)] 3));have uW:=lh (show w.heap.size+1<=(wr.alloc (.cells #[.int .i64 (k:Int)] 3)).heap.size by have:=yR.out;have:=HC.out.size;have:=CA.out.size;omega);have Ug:=lh (gP wr IK);have mU:=lh (show (Plain.lH k).length+[(k:Int)].length<4294967296 by rw[Plain.oq];simp;omega);clear ho fz cH jE hBo n1 hc
   go_wp2_with (at_builtin;(refine b9 rfl _ _ rfl (B:=w.heap.size+1) (v:=.slice ua k uc) rfl rfl (H1.out.aM CA.out (by simp)) Ug.out uW.out mU.out ?_;intro v7 w7 r7 c7 f7;obtain⟨vo,vc,rfl⟩:=r7.shape;have Th:=lh (c7.heap (CA.out.heap HOO.out (by simp)) N1.out);have o7:=(cell_of_row _ _ 0 _ _ _ Th.out).trans (show _=some (Qa ua k uc) from rfl);have z7:w7.frozen? ⟨w.heap.size+1+1,0,none⟩=false:=bJ Th.out 0;have R7:=lh r7;have C7:=lh c7;have F7:=lh f7;clear r7 c7 f7 o0))
   have tg:=qV.aiV HOO.out H1.out H2.out WE.out (by omega) CA.out C7.out R7.out F7.out;simp only[Qj,Ql,Qm,Qk] at tg;have bG:=HC.out.trans tg.2 (fun j hj=>Or.inr (by
    have:=yR.out;rcases Qb.1 hj with rfl | hj
    ·omega
    have:=(H1.out.low j (by simpa[wB] using hj)).1;omega))
   have DJ:=tg.2.heap Cr.out (by
    intro e;rcases Qb.1 e with e | e
    ·omega
    obtain⟨cs,r,hh⟩:=bZ H1.out _ e;rw[Cr.out] at hh;simp at hh)
   exact⟨⟨k+1,by omega,by go_num,by rw[Plain.zB];exact tg.1,bG,DJ⟩,by simp[intOf];omega⟩
  have e:N=k:=by omega
  subst e;clear hc;go_wp2;clear xg
  go_loopw [5] (fun c wr=>∃ k:Nat,k<=E/\c=.int .i64 k/\qV wr (w.heap.size+1) (w.heap.size+1+1) (Plain.lH N) (Plain.lH k)/\ai [] w1 wr/\wr.heap[w.heap.size+1]?=some (.cells #[.slice none 0 0,.slice none 0 0] 27 (0,0))) (fun c _=>E - (intOf c).toNat)
  case atStart=>exact⟨0,Qn _,rfl,ND.out,HC.out,Cr.out⟩
  case round =>
   obtain⟨k,hk,rfl,eQ,hc,MC⟩:=hrel;have HC:=lh hc;have Cr:=lh MC;have ND:=lh eQ;have xg:=hc.cell X1.out (by have:=yR.out;simp);clear MC eQ;by_cases aU:k<E
   ·obtain⟨u1,u2,ho,fz,cH,jE,hBo⟩:=ND.out
    obtain⟨ua,uc,rfl⟩:=cH.shape;simp only[Plain.oq] at ho fz cH jE;have o0:=(cell_of_row _ _ 1 _ _ _ ho).trans (show _=some (Qa ua k uc) from rfl);have n1:w.heap.size+1+1 ∉ aL (.slice ua k uc):=fun e=>by obtain⟨cs,r,hh⟩:=bZ cH _ e;rw[ho] at hh;simp at hh
    have IK:bn (k:Int):=bn.mk (by omega) (by omega);have N1:=lh n1;have HOO:=lh ho;have H1:=lh fz;have H2:=lh cH;have WE:=lh jE;have CA:=lh ((ai.refl [] wr).alloc (.cells #[.int .i64 (k:Int)] 3));have uW:=lh (show w.heap.size+1<=(wr.alloc (.cells #[.int .i64 (k:Int)] 3)).heap.size by have:=yR.out;have:=HC.out.size;have:=CA.out.size;omega);have Ug:=lh (gP wr IK);have mU:=lh (show (Plain.lH k).length+[(k:Int)].length<4294967296 by rw[Plain.oq];simp;omega);clear ho fz cH jE hBo n1 hc
    go_wp2_with (at_builtin;(refine b9 rfl _ _ rfl (B:=w.heap.size+1) (v:=.slice ua k uc) rfl rfl (H2.out.aM CA.out (by simp)) Ug.out uW.out mU.out ?_;intro v7 w7 r7 c7 f7;obtain⟨vo,vc,rfl⟩:=r7.shape;have Th:=lh (c7.heap (CA.out.heap HOO.out (by simp)) N1.out);have o7:=(cell_of_row _ _ 1 _ _ _ Th.out).trans (show _=some (Qa ua k uc) from rfl);have z7:w7.frozen? ⟨w.heap.size+1+1,1,none⟩=false:=bJ Th.out 1;have R7:=lh r7;have C7:=lh c7;have F7:=lh f7;clear r7 c7 f7 o0))
    have tg:=qV.ai7 HOO.out H1.out H2.out WE.out (by omega) CA.out C7.out R7.out F7.out;simp only[Qj,Ql,Qm,Qk] at tg;have bG:=HC.out.trans tg.2 (fun j hj=>Or.inr (by
     have:=yR.out;rcases Qb.1 hj with rfl | hj
     ·omega
     have:=(H2.out.low j (by simpa[wB] using hj)).1;omega))
    have DJ:=tg.2.heap Cr.out (by
     intro e;rcases Qb.1 e with e | e
     ·omega
     obtain⟨cs,r,hh⟩:=bZ H2.out _ e;rw[Cr.out] at hh;simp at hh)
    exact⟨⟨k+1,by omega,by go_num,by rw[Plain.zB];exact tg.1,bG,DJ⟩,by simp[intOf];omega⟩
   have e:E=k:=by omega
   subst e;obtain⟨u1,u2,ho,fz,cH,jE,hBo⟩:=ND.out;obtain⟨a1,q1,rfl⟩:=fz.shape;obtain⟨a2,q2,rfl⟩:=cH.shape;simp only[Plain.oq] at ho fz cH jE;have o0:=(cell_of_row _ _ 0 _ _ _ ho).trans (show _=some (Qa a1 N q1) from rfl);have o1:=(cell_of_row _ _ 1 _ _ _ ho).trans (show _=some (Qa a2 E q2) from rfl);have r0:=(cell_of_row _ _ 0 _ _ _ Cr.out).trans (show _=some (Qa none 0 0) from rfl);have r1:=(cell_of_row _ _ 1 _ _ _ Cr.out).trans (show _=some (Qa none 0 0) from rfl);have z0:wr.frozen? ⟨w.heap.size+1,0,none⟩=false:=by simp[Qi,Cr.out]
   have z1:wr.frozen? ⟨w.heap.size+1,1,none⟩=false:=by simp[Qi,Cr.out]
   have bw:ai [w.heap.size+1] wr ((wr.setCell ⟨w.heap.size+1,0,none⟩ (.slice a1 N q1)).setCell ⟨w.heap.size+1,1,none⟩ (.slice a2 E q2)):=((ai.refl _ wr).setCell (Qc (by simp)) _).setCell (Qc (by simp)) _;have kD:=heap_setCell_same (heap_setCell_same Cr.out 0 (.slice a1 N q1)) 1 (.slice a2 E q2);have f0:=(cell_of_row _ _ 0 _ _ _ kD).trans (show _=some (Qa a1 N q1) from rfl);have f1:=(cell_of_row _ _ 1 _ _ _ kD).trans (show _=some (Qa a2 E q2) from rfl);have kind:∀ {v:Value} {q:List Int},ax wr (w.heap.size+1) v q->∀ b∈v.ownBlock.toList,b ∉ [w.heap.size+1]:=fun h b hb e=>by
    obtain⟨cs,r,hh⟩:=bZ h b (by rw[h.aL];exact hb);simp at e;rw[e,Cr.out] at hh;simp at hh
   have HA:=lh ((fz.aM bw (kind fz)).base (show w.heap.size<=w.heap.size+1 by omega));have HB:=lh ((cH.aM bw (kind cH)).base (show w.heap.size<=w.heap.size+1 by omega));have vL:=lh (b8.out.t (HC.out.trans bw (fun j hj=>Or.inr (by rw[yR.out];simp at hj;omega))));have SI:=lh f0;have Yj:=lh f1;clear ho fz cH jE hBo bw kD f0 f1 kind hc;go_wp2;refine bodyPost_ret (v:=.agg #[.slice a1 N q1,.slice a2 E q2]) (by have h0:=SI.out;have h1:=Yj.out;simp[results,Tryz.results52,go_sem,h0,h1]) rfl ?_;exact⟨_,_,rfl,HA.out,by rw[HEE.out];exact HB.out,vL.out⟩
end Go.Proofs.YtbkjljffnkdcjaaGreat
