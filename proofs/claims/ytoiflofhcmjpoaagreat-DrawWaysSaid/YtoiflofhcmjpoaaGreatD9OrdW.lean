/- ref12.Orders: contract. Conditions: a list that lies in memory and reads so, with at most 100000 fO. -/
import Derived.Test.YtoiflofhcmjpoaaGreatD9Round
set_option linter.unusedVariables false
set_option linter.unusedSimpArgs false
open List renaming mem_singleton→Qa,getElem?_eq_some_iff→Qb,mem_cons→Qe,length_map→Qf,mem_cons_of_mem→Qg,getD→Qh,getElem?_map→Qi,length_eq_zero_iff→Qj,length_set→Qn,length_nil→Qo,replicate→Qp,getElem?_set_ne→Qq,append_toArray→Qt,size_toArray→Qu,push_toArray→Qv,length_cons→Qx,cons_append→Qy,mem_append→QA,nodup_cons→QB,nil_append→QC,length→QG
open Go.Value renaming slice→Qc
open Nat renaming lt_of_lt_of_le→Qd,add_mul→Qz,reduceAdd→QD,reduceSub→QE,zero_mul→QF
open Or renaming inl→Qk
open Go.Act renaming put→Ql
open Go.World renaming putObj_heap_same→Qm,size_alloc→Qw
open Array renaming replicate_succ→Qr,replicate_zero→Qs
open Option renaming map→QH
-- READS ONLY
namespace Go.Proofs.YtoiflofhcmjpoaaGreat
open Go.RowKit Go.Maps
namespace Plain
end Plain
end Go.Proofs.YtoiflofhcmjpoaaGreat
-- READS ONLY
namespace Go.Proofs.YtoiflofhcmjpoaaGreat
open Go.RowKit Go.Maps
namespace Plain
def iB:List Nat->Nat
 | []=>1
 | x :: l=>x*iB l
theorem oC (x:Nat):∀ l:List Nat,iB (l++[x])=iB l*x
 | []=>by simp[iB]
 | y :: l=>by
  show y*iB (l++[x])=y*iB l*x;rw[oC x l,Nat.mul_assoc]
theorem rm:∀ l:List Nat,iB l.reverse=iB l
 | []=>rfl
 | y :: l=>by
  rw[List.reverse_cons,oC,rm l,Nat.mul_comm];rfl
theorem pL:∀ R:List (List (List Int)),dq R=iB (R.map QG)
 | []=>rfl
 | L :: R=>by
  show L.length*dq R=L.length*iB (R.map QG);rw[pL R]
theorem ye:∀ {l:List Nat},(∀ x∈l,0<x)->0<iB l
 | [],_=>by decide
 | x :: l,h=>Nat.mul_pos (h x (by simp)) (ye fun y hy=>h y (Qg _ hy))
def WH (g:Gr) (b:Pt):List Nat:=b.v.map fun v=>fact ((aF g b v).length - 1)
theorem EW (g:Gr) (b:Pt):fH g b=iB (WH g b):=by
 unfold fH;rw[pL,List.map_reverse,rm]
 congr 1
 unfold WH;rw[List.map_map];exact List.map_congr_left fun v _=>uM _
end Plain
end Go.Proofs.YtoiflofhcmjpoaaGreat
namespace Go.Proofs.YtoiflofhcmjpoaaGreat
open Go.RowKit Go.Maps
structure dw (w:World) (B:Nat) (ov:Value) (vs:List Value) (ll:List (List Int)):Prop where
 out:w.ownsRow B 25 1 ov vs.length vs
 len:vs.length=ll.length
 rows:∀ k,k<vs.length->aj w B (vs.getD k undef) (ll.getD k [])
theorem bj.toK {w:World} {B:Nat} {ov:Value} {vs:List Value} {ll:List (List Int)} (h:bj w B ov vs ll) (hi:∀ l∈ll,(∀ x∈l,aU x)/\l.length<4294967296):dw w B ov vs ll :=
 ⟨h.out,h.len,fun k hk=>⟨h.rows k hk,hi _ (by have:=h.len;simp[Qh,show k<ll.length by omega])⟩⟩
theorem dw.LG {w w':World} {B:Nat} {ov:Value} {vs:List Value} {ll:List (List Int)} {own:List Nat} (h:dw w B ov vs ll) (hc:ag own w w') (h1:∀ b,ov.ownBlock=some b->b ∉ own) (h2:∀ j∈own,¬ bp w j 3):dw w' B ov vs ll :=
 ⟨aY h.out hc h1,h.len,fun k hk=>(h.rows k hk).aD hc (fun b hb q=>h2 b q ((h.rows k hk).cA (by simpa using hb)))⟩
theorem dw.fresh {w w':World} {B:Nat} {ov:Value} {vs:List Value} {ll:List (List Int)} (h:dw w B ov vs ll) (hc:ag [] w w'):dw w' B ov vs ll:=h.LG hc (by simp) (by simp)
theorem dw.base {w:World} {B B':Nat} {ov:Value} {vs:List Value} {ll:List (List Int)} (h:dw w B' ov vs ll) (hB:B<=B'):dw w B ov vs ll:=⟨jm h.out hB,h.len,fun k hk=>(h.rows k hk).base hB⟩
theorem El {w:World} {B:Nat} {v:Value} {n:Nat} {xs:List Value} {e:TypeId} (ho:w.ownsRow B e 1 v n xs):gV v:=by
 rcases ho.2 with ⟨rfl,_⟩ | ⟨g,cap,cur,rfl,-,-,hn,hc,-,-⟩
 ·exact⟨none,0,0,rfl,by decide,by decide⟩
 exact⟨_,_,_,rfl,hn,by unfold maxLen at hc;omega⟩
theorem dw.read {w:World} {B:Nat} {ov:Value} {vs:List Value} {ll:List (List Int)} (h:dw w B ov vs ll):cf w ov ll:=by
 have hlen:=h.len;rcases h.out.2 with ⟨rfl,h0⟩ | ⟨g,cap,cur,rfl,-,-,hn,hc,-,-⟩
 ·have:ll=[]:=Qj.1 (by omega)
  subst this;exact⟨none,0,rfl,by decide,fun i hi=>absurd hi (by simp)⟩
 refine⟨_,cap,by rw[hlen],by unfold maxLen at hc;omega,fun i Av=>?_⟩;have Iv:i<vs.length:=by omega
 have aJ:=h.rows i Iv;have aK:=h.out.cellAt i (by omega);refine⟨g,0,vs.getD i undef,rfl,?_,El aJ.1,aJ.ints⟩
 grind
theorem dw.made {w:World} {B fb n:Nat} (h:w.ownsRow B 25 1 (.slice (some ⟨fb,0,none⟩) n n) n (madeCells (Qc none 0 0).cells (n*1)).toList):dw w B (.slice (some ⟨fb,0,none⟩) n n) (Qp n (.slice none 0 0)) (Qp n []):=by
 have e1:(madeCells (Qc none 0 0).cells (n*1)).toList=Qp n (.slice none 0 0):=by
  show (madeCells #[Qc none 0 0] (n*1)).toList=_;rw[Nat.mul_one,toList_madeCells_one]
 rw[e1] at h;refine⟨by grind,by simp,fun k hk=>?_⟩
 grind [eJ]
theorem dw.shape {w:World} {B:Nat} {ov:Value} {vs:List Value} {ll:List (List Int)} (h:dw w B ov vs ll):∃ ao c,ov=.slice ao ll.length c:=by
 obtain⟨a,c,e⟩:=bk h.out;exact⟨a,c,by rw[e,h.len]⟩
theorem dw.set {w:World} {B g n c k:Nat} {vs:List Value} {ll:List (List Int)} {v:Value} {l:List Int} (h:dw w B (.slice (some ⟨g,0,none⟩) n c) vs ll) (hk:k<vs.length) (hv:aj w B v l):dw (w.setCell ⟨g,k,none⟩ v) B (.slice (some ⟨g,0,none⟩) n c) (vs.set k v) (ll.set k l):=by
 obtain⟨_,_,e0⟩:=bk h.out;obtain rfl:n=vs.length:=by simp only[Qc.injEq] at e0;exact e0.2.1
 have hg:=bE h.out (b:=g) rfl;have keep:∀ {u:Value} {m:List Int},aj w B u m->aj (w.setCell ⟨g,k,none⟩ v) B u m:=fun hu=>hu.aD ((ag.refl [g] w).setCell (Qk (by simp)) _) (fun b hb q=>by
  rw[Qa] at q;exact (hu.cA (by grind)).ne hg (by decide) q)
 refine⟨?_,by rw[Qn,Qn,h.len],fun j hj=>?_⟩
 ·have:=(h.out.stored k v).1
  grind
 rw[Qn] at hj;have hl:=h.len;by_cases e:j=k
 ·subst e
  rw[show (vs.set j v).getD j undef=v by simp[Qh,hj],show (ll.set j l).getD j []=l by simp[Qh,show j<ll.length by omega]];exact keep hv
 rw[show (vs.set k v).getD j undef=vs.getD j undef by simp[Qh,Qq (Ne.symm e)],show (ll.set k l).getD j []=ll.getD j [] by simp[Qh,Qq (Ne.symm e)]];exact keep (h.rows j hj)
theorem dw.cell {w:World} {B g n c k:Nat} {vs:List Value} {ll:List (List Int)} (h:dw w B (.slice (some ⟨g,0,none⟩) n c) vs ll) (hk:k<vs.length):w.cell? ⟨g,k,none⟩=some (vs.getD k undef):=by
 obtain⟨_,_,e0⟩:=bk h.out;simp only[Qc.injEq] at e0;obtain⟨-,rfl,-⟩:=e0;have:=h.out.cellAt k (by omega)
 grind
theorem IQ {w:World} {B g n m c sz:Nat} {e:TypeId} {xs:List Value} (h:w.ownsRow B e sz (.slice (some ⟨g,0,none⟩) n c) m xs) (i:Nat):w.frozen? ⟨g,i,none⟩=false:=by
 rcases h.2 with ⟨e,h0⟩ | ⟨g',cap,cur,e,-,hh,-⟩
 ·cases e
 simp only[Qc.injEq,Option.some.injEq,Addr.mk.injEq] at e;obtain⟨⟨rfl,-⟩,-⟩:=e;simp[World.frozen?,hh]
structure gN (w:World) (B:Nat) (ov:Value) (ms:List Value) (LL:List (List (List Int))):Prop where
 out:w.ownsRow B 48 1 ov ms.length ms
 len:ms.length=LL.length
 rows:∀ k,k<ms.length->∃ vs,dw w B (ms.getD k undef) vs (LL.getD k [])
theorem MS:nh 44 48 (.slice none 0 0) 1 24:=⟨Tryz.underlying44,by kernel_rfl,rfl,by decide,by decide⟩
theorem gN.LG {w w':World} {B:Nat} {ov:Value} {ms:List Value} {LL:List (List (List Int))} {own:List Nat} (h:gN w B ov ms LL) (hc:ag own w w') (h1:∀ b,ov.ownBlock=some b->b ∉ own) (h2:∀ j∈own,¬ bp w j 3/\¬ bp w j 25):gN w' B ov ms LL :=
 ⟨aY h.out hc h1,h.len,fun k hk=>by
  obtain⟨vs,hv⟩:=h.rows k hk;exact⟨vs,hv.LG hc (fun b hb q=>(h2 b q).2 (bE hv.out hb)) fun j hj=>(h2 j hj).1⟩⟩
theorem gN.fresh {w w':World} {B:Nat} {ov:Value} {ms:List Value} {LL:List (List (List Int))} (h:gN w B ov ms LL) (hc:ag [] w w'):gN w' B ov ms LL:=h.LG hc (by simp) (by simp)
theorem gN.shape {w:World} {B:Nat} {ov:Value} {ms:List Value} {LL:List (List (List Int))} (h:gN w B ov ms LL):∃ ao c,ov=.slice ao LL.length c:=by
 obtain⟨a,c,e⟩:=bk h.out;exact⟨a,c,by rw[e,h.len]⟩
theorem gN.cell {w:World} {B g n c k:Nat} {ms:List Value} {LL:List (List (List Int))} (h:gN w B (.slice (some ⟨g,0,none⟩) n c) ms LL) (hk:k<ms.length):w.cell? ⟨g,k,none⟩=some (ms.getD k undef):=by
 obtain⟨_,_,e0⟩:=bk h.out;simp only[Qc.injEq] at e0;obtain⟨-,rfl,-⟩:=e0;have:=h.out.cellAt k (by omega)
 grind
end Go.Proofs.YtoiflofhcmjpoaaGreat
namespace Go.Proofs.YtoiflofhcmjpoaaGreat
open Go.RowKit Go.Maps
structure sy (z:Prop) (B:Nat) (J:Nat->List Nat->World->Prop):Prop where
 aD:∀ {k:Nat} {C own:List Nat} {W W':World},J k C W->ag own W W'->(∀ j∈own,B<=j/\((∀ cs t r,W.heap[j]?≠some (.cells cs t r))\/z/\j ∉ C))->J k C W'
 lt:∀ {k:Nat} {C:List Nat} {W:World},J k C W->∀ j∈C,j<W.heap.size
def Ix (C:List Nat) (W:World) (J:List Nat->World->Prop) (W':World):Prop:=∃ C',J C' W'/\ag C W W'/\∀ j∈C',j∈C\/W.heap.size<=j
def iN (v:Value):List Nat:=v.ownBlock.toList
def Nj {β:Type} (z:Prop) (g:Nat) (lb:Array Value) (xs:List β) (Rd:World->Value->β->Prop) (ms:List Nat) (w:World):Prop :=
 ∀ (l:Nat) (J:Nat->List Nat->World->Prop) (C:List Nat) (W:World),ag [] w W->sy z W.heap.size J->J 0 C W->(∀ j∈ms,j ∉ C) ->
  (∀ k C W1 v x,J k C W1->xs[k]?=some x->Rd W1 v x->(∀ j∈iN v,j ∉ C/\j<W1.heap.size)->YieldAt Fence.wide 7 Tryz.prog l #[v] W1 fun e W'=>e=.returned (.bool true)/\Ix C W1 (J (k+1)) W') ->
  Calls Tryz.prog g (#[.func (.yield l) #[] #[]]++lb) W fun e W'=>(∃ v,e=.returned v)/\∃ C',J xs.length C' W'
theorem jX {W:World} {l:Nat} (o:Obj):ag [l] W (W.putObj l o) :=
 (ag.refl [l] W).grown (grownBy_putObj' W l o) (fun j hj=>by cases hj;exact Qk (by simp))
theorem qT {β:Type} {gop:Operand} {t:Tmp} {assign body:Code} {Q:Exit->Act->World->Prop} {a:Act} {w:World} {gf:Nat} {lb:Array Value} {xs:List β} {Rd:World->Value->β->Prop} {ms:List Nat} {z:Prop}
  (hg:a.eval gop=.func (.func gf) #[] lb) (eg:∀ args w,(callFunc gf args).run Tryz.prog w=.ok (.enter gf args) w) (VD:Nj z gf lb xs Rd ms w)
  (hRd:∀ W W' v x own,Rd W v x->ag own W W'->(∀ j∈own,∀ cs t r,W.heap[j]?≠some (.cells cs t r))->Rd W' v x)
  (I:Nat->List Nat->World->Prop) (C0:List Nat) (hI:sy z w.heap.size I) (h0:I 0 C0 w) (hms:∀ j∈ms,j ∉ C0/\j<w.heap.size) (a1:Value->Act)
  (SV:∀ l W K v,K (a1 v) W->assign.wpIn (Fence.wide.inRound l) 7 Tryz.prog (Exit.then K (fun _ _ _=>False)) { tmps:=a.tmps.setIfInBounds t v,defers:=[] } W)
  (acP:∀ l k C W v x,(∃ r,W.heap[l]?=some (.loop r))->l ∉ C->I k C W->xs[k]?=some x->Rd W v x->(∀ j∈iN v,j ∉ C/\j<W.heap.size)->body.wpIn (Fence.wide.inRound l) 7 Tryz.prog (fun e _ W'=>e=.normal/\Ix C W (I (k+1)) W') (a1 v) W)
  (Cd:∀ D C W,w.heap.size<=D->D ∉ C->I xs.length C W->W.heap[D]?=some (.deferred (some []))->Q .normal { a with defers:={ target:=.collected D,args:=#[] } :: a.defers } W) :
  (Code.rangeFunc gop #[t] assign body).wpIn Fence.wide 9 Tryz.prog Q a w:=by
 refine wpIn_rangeFunc fun fn Px=>?_;obtain⟨rec,EX⟩:∃ rec:LoopState->Loop,rec=fun st=>{ state:=st,pending:=none,fn,tmps:=a.tmps,params:=#[t],assign,body,defers:=w.heap.size }:=⟨_,rfl⟩;obtain⟨W1,Bo⟩:∃ W1,(w.alloc (.deferred (some []))).alloc (.loop (rec .ready))=W1:=⟨_,rfl⟩;have c1:ag [] w W1:=by rw[<-Bo];exact ((ag.refl [] w).alloc _).alloc _
 have s1:W1.heap.size=w.heap.size+2:=by rw[<-Bo];simp
 have XW:W1.heap[w.heap.size+1]?=some (.loop (rec .ready)):=by
  rw[<-Bo];have:=heap_alloc_new (w.alloc (.deferred (some []))) (.loop (rec .ready));rwa[Qw] at this
 have hD1:W1.heap[w.heap.size]?=some (.deferred (some [])):=by
  rw[<-Bo];exact ((ag.refl [] _).alloc _).hp (heap_alloc_new w _)
 refine⟨w.heap.size+1,[{ target:=.collected w.heap.size,args:=#[] }],W1,{ target:=.fn (.func gf) lb,args:=#[.func (.yield (w.heap.size+1)) #[] #[]] },W1,gf,#[.func (.yield (w.heap.size+1)) #[] #[]]++lb,W1,?_,?_,?_,?_,fun _=>by decide,callsIn_wide.2 ?_⟩
 ·rw[<-Bo,EX];exact run_enterLoop_outer _ _ _ _ _
 ·simp only[resolve,hg]
  simp[go_sem]
 ·intro f' _;trivial
 ·simp[invoke,go_sem,eg]
 obtain⟨D,hD⟩:∃ D,w.heap.size=D:=⟨_,rfl⟩;rw[hD] at XW hD1 s1 hI Cd ⊢;have nc:∀ {W:World} {r:Loop},W.heap[D+1]?=some (.loop r)->∀ {C:List Nat},∀ j∈[D+1],D<=j/\((∀ cs t r,W.heap[j]?≠some (.cells cs t r))\/z/\j ∉ C):=fun h _ j hj=>by
  rw[Qa.1 hj,h];exact⟨by omega,Qk fun _ _ _ e=>by cases e⟩
 refine (VD (D+1) (fun k C W=>∃ C1,C=(D+1) :: C1/\I k C1 W/\D ∉ C1/\D+1 ∉ C1/\W.heap[D+1]?=some (.loop (rec .ready))/\W.heap[D]?=some (.deferred (some []))) ((D+1) :: C0) W1 c1 ⟨?_,?_⟩
  ⟨C0,rfl,hI.aD h0 c1 (by simp),fun h=>by have:=hI.lt h0 _ h;omega,fun h=>by have:=hI.lt h0 _ h;omega,XW,hD1⟩ (fun j hj h=>?_) ?_).mono ?_
 ·rintro k C own W W' ⟨C1,rfl,i1,i2,i3,i4,i5⟩ hc ho
  have hn:D+1 ∉ own/\D ∉ own:=⟨fun h=>by have:=(ho _ h).1;omega,fun h=>by have:=(ho _ h).1;omega⟩;exact⟨C1,rfl,hI.aD i1 hc fun j hj=>⟨by have:=(ho j hj).1;omega,(ho j hj).2.imp id fun q=>⟨q.1,fun r=>q.2 (by simp[r])⟩⟩,i2,i3,hc.heap i4 hn.1,hc.heap i5 hn.2⟩
 ·rintro k C W ⟨C1,rfl,i1,i2,i3,i4,i5⟩ j hj
  rcases Qe.1 hj with r | r
  ·rw[r];exact lt_of_block i4
  exact hI.lt i1 j r
 ·obtain⟨h1,h2⟩:=hms j hj
  rcases Qe.1 h with r | r
  ·omega
  exact h1 r
 ·rintro k C W v x ⟨C1,rfl,i1,i2,i3,i4,i5⟩ hx hr hv
  have hy:(Instr.yield (D+1) #[v]).run Tryz.prog W=.ok (.round (D+1) fn (a.tmps.setIfInBounds t v) assign body) W:=by
   have:=run_yield (P:=Tryz.prog) (args:=#[v]) i4 (by rw[EX];rfl);rw[EX] at this;simpa using this
  refine⟨fn,_,assign,body,hy,roundIn_of_wpIn Px (SV _ W _ v ?_)⟩;refine⟨_,run_beginRound i4 (by rw[EX]),?_⟩;have c2:=jX (W:=W) (l:=D+1) (.loop { rec .ready with state:=.busy });have l2:(W.putObj (D+1) (.loop { rec .ready with state:=.busy })).heap[D+1]?=some (.loop { rec .ready with state:=.busy }):=Qm (lt_of_block i4);have j1:=hI.aD i1 c2 (nc i4);have r2:=hRd _ _ _ _ _ hr c2 fun j hj=>by rw[Qa.1 hj,i4];exact fun _ _ _ e=>by cases e
  have sz2:(W.putObj (D+1) (.loop { rec .ready with state:=.busy })).heap.size=W.heap.size:=World.putObj_size;have d2:=c2.heap i5 (by simp);have v2:∀ j∈iN v,j ∉ C1/\j<(W.putObj (D+1) (.loop { rec .ready with state:=.busy })).heap.size:=fun j hj=>⟨fun q=>(hv j hj).1 (by simp[q]),by rw[sz2];exact (hv j hj).2⟩;generalize W.putObj (D+1) (.loop { rec .ready with state:=.busy })=W2 at *;refine wpIn_mono (acP (D+1) k C1 W2 v x ⟨_,l2⟩ i3 j1 hx r2 v2) ?_;rintro e a3 W3 ⟨rfl,C',h1,h2,h3⟩;have l3:=h2.heap l2 i3;have d3:=h2.heap d2 i2;have aL:=lt_of_block i4;have hn:D ∉ C'/\D+1 ∉ C':=⟨fun q=>by rcases h3 _ q with r | r;exact i2 r;omega,fun q=>by rcases h3 _ q with r | r;exact i3 r;omega⟩;have c4:=jX (W:=W3) (l:=D+1) (.loop (rec .ready));have TN:=run_endRound (P:=Tryz.prog) none l3;have AE:({ rec .ready with state:=.ready,pending:=none }:Loop)=rec .ready:=by rw[EX]
  refine⟨_,_,TN,rfl,(D+1) :: C',⟨C',rfl,hI.aD h1 ?_ (nc l3),hn.1,hn.2,?_,?_⟩,?_,fun j hj=>?_⟩
  ·exact jX _
  ·rw[Qm (lt_of_block l3)];exact congrArg (fun r=>some (Obj.loop r)) AE
  ·exact (jX (W:=W3) (l:=D+1) _).heap d3 (by simp)
  ·have c5:ag ((D+1) :: C1) W W3:=(c2.mono (gH:=(D+1) :: C1) fun j hj=>Qk (by simp[Qa.1 hj])).trans h2 fun j hj=>Qk (by simp[hj])
   exact c5.trans (jX _) fun j hj=>Qk (by simp[Qa.1 hj])
  rcases Qe.1 hj with r | r
  ·exact Qk (by simp[r])
  rcases h3 _ r with r | r
  ·exact Qk (by simp[r])
  exact Or.inr (by omega)
 rintro e W2 ⟨⟨v,rfl⟩,C',C1,rfl,i1,i2,i3,i4,i5⟩;have c4:=jX (W:=W2) (l:=D+1) (.loop { rec .ready with state:=.exhausted });exact⟨none,_,by have:=run_endLoop (P:=Tryz.prog) i4 (by rw[EX];simp);rw[EX] at this ⊢;exact this,Cd D C1 _ (Nat.le_refl _) i2 (hI.aD i1 c4 (nc i4)) (c4.heap i5 (by simp))⟩
end Go.Proofs.YtoiflofhcmjpoaaGreat
namespace Go.Proofs.YtoiflofhcmjpoaaGreat
open Go.RowKit Go.Maps
theorem jE {W W':World} {own:List Nat} {p:Addr} {v:Value} (h:W.cell? p=some v) (hc:ag own W W') (ho:∀ j∈own,∀ cs t r,W.heap[j]?≠some (.cells cs t r)):W'.cell? p=some v :=
 hc.cell h fun q=>by
  unfold World.cell? at h;cases e:W.heap[p.block]? with
  | none=>rw[e] at h;cases h
  | some o =>
   rw[e] at h;cases o <;> first | exact absurd e (ho _ q _ _ _) | simp at h
theorem al.own {W W':World} {own:List Nat} {v:Value} {l:List Int} (h:al W v l) (hc:ag own W W') (ho:∀ j∈iN v,j ∉ own):al W' v l :=
 h.aD hc fun b n c e=>ho _ (by rw[e];simp[iN,Value.ownBlock])
theorem al.stays {W W':World} {own:List Nat} {v:Value} {l:List Int} (h:al W v l) (hc:ag own W W') (ho:∀ j∈own,∀ cs t r,W.heap[j]?≠some (.cells cs t r)):al W' v l:=by
 obtain⟨ao,cap,rfl,h1,h2,h3⟩:=h;refine⟨ao,cap,rfl,h1,h2,fun hl=>?_⟩;obtain⟨b,off,rfl,h4⟩:=h3 hl;exact⟨b,off,rfl,fun i hi=>jE (h4 i hi) hc ho⟩
theorem Al {w:World} {b off:Nat} {l:List Int} {x:Int} (h:al w (.slice (some ⟨b,off,none⟩) l.length l.length) l) (hl:l≠[]) (hx:aU x) (hn:l.length<1000000) (ty:TypeId) :
  ∃ v' w',(Builtin.append_ #[25,25] ty #[.slice (some ⟨b,off,none⟩) l.length l.length,.slice (some ⟨w.heap.size,0,none⟩) 1 1]).run Tryz.prog (w.alloc (.cells #[.int .i64 x] 3))=.ok v' w'/\aj w' (w.heap.size+1) v' (l++[x])/\ag [] w w':=by
 obtain⟨ao,cap,e,A5,-,h3⟩:=h;obtain⟨b',oH,e2,hc⟩:=h3 hl;cases e;cases e2;obtain⟨i0,hi,y9,jq,nO⟩:=info_parts bW.hi;have dj:(w.alloc (.cells #[.int .i64 x] 3)).heap.size=w.heap.size+1:=by simp
 have sR:=heap_alloc_new w (.cells #[.int .i64 x] 3);obtain⟨v',w',hr,r1,r2⟩:=run_append_arg_grows (P:=Tryz.prog) (w.alloc (.cells #[.int .i64 x] 3)) 25 ty 3 i0 (.int .i64 0) 1 8 bW.ht hi y9 jq nO bW.hz bW.h0 ⟨b,off,none⟩ l.length l.length (ints l) (by simp[ints]) (fun j u hj=>by
   rw[Addr.add_lit];have EO:j<l.length:=by have:=(Qb.1 hj).1;simpa[ints] using this
   have:u=.int .i64 (l.getD j 0):=by
    have:=(Qb.1 hj).2;simp[ints] at this;rw[<-this];simp[Qh,EO]
   rw[this];exact bP (hc j EO) _)
  ⟨w.heap.size,0,none⟩ 1 1 [.int .i64 x] rfl (fun j u hj=>by
   have:j=0:=by have:=(Qb.1 hj).1;simpa using this
   subst this;cases hj;exact (cell_of_row _ _ _ _ _ _ sR).trans rfl) (by omega) (by unfold maxLen;omega) (by omega)
 refine⟨v',w',hr,⟨by rw[List.length_append];rw[dj] at r1;simpa[ints] using r1,fun y hy=>?_,by simp;omega⟩,(((ag.refl [] w).alloc _).grown r2 (by simp)).mono (by simp)⟩;rcases QA.1 hy with q | q
 ·exact A5 y q
 rw[Qa.1 q];exact hx
theorem rQ {c:Code} {K:Act->World->Prop} {Q:Exit->Act->World->Prop} {a:Act} {w:World} (h:c.wp Tryz.prog (Exit.then K fun _ _ _=>False) a w):c.wp Tryz.prog (Exit.then K Q) a w :=
 wp_mono h fun e a w hh=>by cases e <;> first | exact hh | exact hh.elim
theorem YieldAt.any {m m' l:Nat} {args:Array Value} {W:World} {R:Ending->World->Prop} (h:YieldAt Fence.wide m Tryz.prog l args W R):YieldAt Fence.wide m' Tryz.prog l args W R:=by
 obtain⟨fn,tmps,assign,body,hy,h1,h2⟩:=h;exact⟨fn,tmps,assign,body,hy,h1,fun c cs _=>h2 c cs (room_wide _)⟩
theorem jh {fn:Func} {tmps:Array Value} {R:Ending->World->Prop}:∀ {ds:List Nat} {W:World},ds.Nodup->(∀ D∈ds,W.heap[D]?=some (.deferred (some [])))->(∀ W',ag ds W W'->LeavesIn Fence.wide 9 Tryz.prog fn tmps R [] .returning W') ->
  LeavesInM Fence.wide 9 Tryz.prog fn tmps R (ds.map fun D=>{ target:=.collected D,args:=#[] }) .returning W
 | [],W,_,_,h=>h W (ag.refl _ _)
 | D :: ds,W,hn,hd,h=>by
  obtain⟨h1,h2⟩:=QB.1 hn;refine⟨by simp,.inl ⟨_,_,rfl,run_takeDeferred (hd D (by simp)),jh h2 (fun D' q=>(jX (W:=W) (l:=D) _).heap (hd D' (by simp[q])) (fun r=>h1 (by rw[<-Qa.1 r];exact q))) fun W' hc=>h W' ?_⟩⟩;exact ((jX (W:=W) (l:=D) (.deferred none)).mono (gH:=D :: ds) (by simp)).trans hc fun j hj=>Qk (by simp[hj])
theorem sE (ao bo:Option Addr) (n c m d:Nat) (w:World) :
  Calls Tryz.prog 116 #[.slice ao n c,.slice bo m d] w fun e w'=>e=.returned (.func (.func 167) #[] #[.pointer (some ⟨w.heap.size+1,0,none⟩),.pointer (some ⟨w.heap.size,0,none⟩)])/\w'=(w.alloc (.cells #[.slice ao n c] 25)).alloc (.cells #[.slice bo m d] 25):=by
 go_enter Tryz.func116,Tryz.ntmps116
 go_wp2;go_ret;exact⟨rfl,rfl⟩
theorem al.cells {w:World} {b off n c i:Nat} {l:List Int} (h:al w (.slice (some ⟨b,off,none⟩) n c) l) (hi:i<l.length):w.cell? ⟨b,off+i,none⟩=some (.int .i64 (l.getD i 0)):=by
 obtain⟨_,_,e,-,-,h3⟩:=h;obtain⟨b',o',e2,h4⟩:=h3 (fun q=>by rw[q] at hi;simp at hi);simp only[Qc.injEq] at e;obtain⟨e,-,-⟩:=e;rw[e2] at e;cases e;exact h4 i hi
theorem al.cap {w:World} {ao:Option Addr} {n c:Nat} {l:List Int} (h:al w (.slice ao n c) l) (c':Nat):al w (.slice ao l.length c') l:=by
 obtain⟨_,_,e,h1,h2,h3⟩:=h;simp only[Qc.injEq] at e;obtain⟨rfl,-,-⟩:=e;exact⟨ao,c',rfl,h1,h2,h3⟩
def j4 (W:World) (v:Value) (l:List Int):Prop:=al W v l/\gV v
theorem j4.stays {W W':World} {own:List Nat} {v:Value} {l:List Int} (h:j4 W v l) (hc:ag own W W') (ho:∀ j∈own,∀ cs t r,W.heap[j]?≠some (.cells cs t r)):j4 W' v l:=⟨h.1.stays hc ho,h.2⟩
structure nR (W:World) (br bs:Nat) (vs vr:Value) (s rest:List Int):Prop where
 r:W.cell? ⟨br,0,none⟩=some vr
 rr:al W vr rest
 cs:W.cell? ⟨bs,0,none⟩=some vs
 ss:al W vs s
 kr:gV vr
 ks:gV vs
def jG (br bs:Nat) (vs vr:Value):List Nat:=br :: bs :: (iN vs++iN vr)
variable {W W' : World} {br bs : Nat} {vs vr : Value} {s rest : List Int} {own : List Nat}
theorem nR.aD (h:nR W br bs vs vr s rest) (hc:ag own W W') (ho:∀ j∈jG br bs vs vr,j ∉ own):nR W' br bs vs vr s rest :=
 ⟨hc.cell h.r (ho _ (by simp[jG])),h.rr.own hc fun j hj=>ho j (by simp[jG,hj]),hc.cell h.cs (ho _ (by simp[jG])),h.ss.own hc fun j hj=>ho j (by simp[jG,hj]),h.kr,h.ks⟩
theorem nR.stays (h:nR W br bs vs vr s rest) (hc:ag own W W') (ho:∀ j∈own,∀ cs t r,W.heap[j]?≠some (.cells cs t r)):nR W' br bs vs vr s rest :=
 ⟨jE h.r hc ho,h.rr.stays hc ho,jE h.cs hc ho,h.ss.stays hc ho,h.kr,h.ks⟩
structure KQ (J:Nat->List Nat->World->Prop) (B l b3 br bs:Nat) (vs vr:Value) (s rest:List Int) (ds:List Nat) (k:Nat) (C:List Nat) (W:World):Prop where
 j:J k C W
 o:nR W br bs vs vr s rest
 y:W.cell? ⟨b3,0,none⟩=some (.func (.yield l) #[] #[])
 m:∀ j∈b3 :: jG br bs vs vr,j ∉ C/\j<W.heap.size
 d:∀ D∈ds,B<=D/\D ∉ C/\W.heap[D]?=some (.deferred (some []))
variable {J : Nat -> List Nat -> World -> Prop} {B l b3 k : Nat} {ds C C' : List Nat}
theorem KQ.stays {B':Nat} (h:KQ J B l b3 br bs vs vr s rest ds k C W) (hJ:sy False B J) (hc:ag own W W') (ho:∀ j∈own,B'<=j/\((∀ cs t r,W.heap[j]?≠some (.cells cs t r))\/False/\j ∉ C)) (hB:B<=B') (hd:∀ D∈ds,D<B'):KQ J B l b3 br bs vs vr s rest ds k C W' :=
 ⟨hJ.aD h.j hc fun j hj=>⟨Nat.le_trans hB (ho j hj).1,(ho j hj).2⟩,h.o.stays hc fun j hj=>(ho j hj).2.resolve_right fun q=>q.1,jE h.y hc fun j hj=>(ho j hj).2.resolve_right fun q=>q.1,fun j hj=>⟨(h.m j hj).1,Qd (h.m j hj).2 hc.size⟩,
  fun D hD=>⟨(h.d D hD).1,(h.d D hD).2.1,hc.heap (h.d D hD).2.2 fun q=>by have:=(ho D q).1;have:=hd D hD;omega⟩⟩
theorem KQ.Ao (h:KQ J B l b3 br bs vs vr s rest ds k C W) (hj:J (k+1) C' W') (hc:ag C W W') (hn:∀ j∈C',j∈C\/W.heap.size<=j):KQ J B l b3 br bs vs vr s rest ds (k+1) C' W' :=
 ⟨hj,h.o.aD hc fun j hj=>(h.m j (Qg _ hj)).1,hc.cell h.y (h.m b3 (by simp)).1,fun j hj=>⟨fun q=>by
  have:=h.m j hj;rcases hn j q with r | r
  ·exact this.1 r
  ·omega,Qd (h.m j hj).2 hc.size⟩,fun D hD=>⟨(h.d D hD).1,fun q=>by
  have:=lt_of_block (h.d D hD).2.2;rcases hn D q with r | r
  ·exact (h.d D hD).2.1 r
  omega,hc.heap (h.d D hD).2.2 (h.d D hD).2.1⟩⟩
namespace Plain
theorem tu {α β:Type} {f:α->List β} {c:Nat}:∀ {l:List α} {i k:Nat} {x:α},(∀ y∈l,(f y).length=c)->l[i]?=some x->k<c->(l.flatMap f)[i*c+k]?=(f x)[k]?
 | [],_,_,_,_,h,_=>by simp at h
 | a :: l,i,k,x,hc,h,hk=>by
  rw[List.flatMap_cons];have ha:=hc a (by simp);cases i with
  | zero =>
   cases h;rw[QF,Nat.zero_add,List.getElem?_append_left (by omega)]
  | succ i =>
   rw[List.getElem?_append_right (by rw[Qz];omega),ha,show (i+1)*c+k - c=i*c+k by rw[Qz];omega];exact tu (fun y hy=>hc y (Qg _ hy)) h hk
theorem I3 {n i k:Nat} {s rest m:List Int} {x:Int} (hn:rest.length=n+1) (hi:i<n+1) (h:((dR n (rest.getD i 0 :: rest.eraseIdx i)).map ((s++[x])++·))[k]?=some m):((dR (n+1) (x :: rest)).map (s++·))[i*fact n+k]?=some m:=by
 have hk:k<fact n:=by have:=(Qb.1 h).1;rwa[Qf,fu] at this
 show (((List.range (n+1)).flatMap _).map _)[_]?=_;rw[Qi,tu (c:=fact n) (x:=i) (fun y _=>by rw[Qf,fu]) (by rw[List.getElem?_range hi]) hk,Qi];rw[Qi] at h;show QH _ (QH _ (dR n (rest.getD i 0 :: rest.eraseIdx i))[k]?)=_;rw[Option.map_map];rw[<-h]
 congr 1
 funext y
 simp
end Plain
section
attribute [local go_sem] Oper.semAt_some
set_option maxRecDepth 100000 in
set_option maxHeartbeats 4000000 in
theorem wW:∀ (n:Nat) {s rest:List Int} {x:Int} {br bs:Nat} {vs vr:Value} {w:World},rest.length=n->s.length+n<1000->nR w br bs vs vr (s++[x]) rest->(∀ j∈jG br bs vs vr,j<w.heap.size) ->
  Nj False 167 #[.pointer (some ⟨br,0,none⟩),.pointer (some ⟨bs,0,none⟩)] ((Plain.dR n (x :: rest)).map (s++·)) j4 (jG br bs vs vr) w:=by
 intro n
 induction n with
 | zero =>
  intro s rest x br bs vs vr w hn hs hO hB l J C W hc hJ h0 hm hY;obtain rfl:rest=[]:=Qj.1 hn;have hO2:=hO.aD hc (by simp);obtain⟨c1,c2,c3,c4,k1,k2⟩:=hO2;obtain⟨ro,rc,rfl,-⟩:=c2;obtain⟨so,sc,rfl,-⟩:=id c4;rw[Qo] at c1;generalize (s++[x]).length=sl at *;have qJ:=(ag.refl [] W).alloc (.cells #[.func (.yield l) #[] #[]] 192);obtain⟨fn,tmps,assign,body,hy,hR⟩:=YieldAt.any (m':=8) (hY 0 C _ _ (s++[x]) (hJ.aD h0 qJ (by simp)) rfl ⟨c4.fresh qJ,k2⟩ fun j hj=>⟨hm j (by simp[jG,hj]),by have:=hB j (by simp[jG,hj]);have:=hc.size;simp;omega⟩);have HR:=lh hR;have C1:=qJ.dp c1;have C3:=qJ.dp c3;clear hY hR hO qJ c4 k1 k2;refine (callsIn_wide (n:=9)).1 (callsIn_of_wp_marks Tryz.func167 rfl trivial (wpIn_wide.2 ?_) rfl);simp only[Tryz.ntmps167,Qu,Qx,Qo,QD,QE,Qr,Qs,Qv,Qt,QC,Qy];refine (wpIn_wide (n:=9)).1 ?_
  gi_wp2
  refine HR.out.mono ?_;rintro e W3 ⟨rfl,C',h1,-⟩
  gi_wp2
  refine⟨_,results_none rfl _ _ _,⟨_,rfl⟩,C',by rw[Qf];exact h1⟩
 | succ n ih =>
  intro s rest x br bs vs vr w hn hs hO hB l J C W hc hJ h0 hm hY;have bh:rest≠[]:=fun e=>by rw[e] at hn;simp at hn
  have hO2:=hO.aD hc (by simp);have HO:=lh hO2;have HB:Hid (∀ j∈jG br bs vs vr,j<W.heap.size):=lh fun j hj=>Qd (hB j hj) hc.size;obtain⟨c1,c2,c3,c4,k1,k2⟩:=hO2;obtain⟨ro,rc,rfl,rsm,ahu,cz⟩:=c2;obtain⟨rb,iR,rfl,rcl⟩:=cz bh;obtain⟨so,sc,rfl,ssm,ahE,UH⟩:=c4;obtain⟨sb,EY,rfl,scl⟩:=UH (by simp);have qJ:=(ag.refl [] W).alloc (.cells #[.func (.yield l) #[] #[]] 192);have Yl:=(cell_of_row _ _ 0 _ _ _ (heap_alloc_new W (.cells #[.func (.yield l) #[] #[]] 192))).trans (show _=some (Value.func (.yield l) #[] #[]) from rfl);have ku:=lh (show KQ J W.heap.size l W.heap.size br bs (.slice (some ⟨sb,EY,none⟩) (s++[x]).length sc) (.slice (some ⟨rb,iR,none⟩) rest.length rc) (s++[x]) rest [] 0 C (W.alloc (.cells #[.func (.yield l) #[] #[]] 192)) from
   ⟨hJ.aD h0 qJ (by simp),HO.out.aD qJ (by simp),Yl,fun j hj=>by
    rcases Qe.1 hj with q | q
    ·subst q;exact⟨fun r=>by have:=hJ.lt h0 _ r;omega,by simp⟩
    exact⟨hm j q,by have:=HB.out j q;simp;omega⟩,by simp⟩)
  have HJ:=lh hJ;have HY:=lh hY;have C1:=qJ.dp c1;have C3:=qJ.dp c3;clear hY hJ h0 hO qJ Yl hB hm;rw[hn] at C1;have AB:(s++[x]).length<1000:=by simp;omega
  have HRS:=lh rsm;have YQ:=lh ssm;obtain⟨_,_,_,e1,k1,k3⟩:=k1;cases e1;obtain⟨_,_,_,e1,k2,k4⟩:=k2;cases e1;rw[hn] at k1;obtain⟨sl,rn⟩:∃ sl,Hid ((s++[x]).length=sl):=⟨_,lh rfl⟩;rw[rn.out] at C3 AB ku k2;have atK:0<sl:=by rw[<-rn.out];simp
  rw[hn] at ku;have HN:=lh hn;have HS:=lh hs;have iI:n<1000:=by omega
  clear c1 c3 rcl scl cz UH hn hs rsm ssm ahE ahu bh;refine (callsIn_wide (n:=9)).1 (callsIn_of_wp_marks Tryz.func167 rfl trivial (wpIn_wide.2 ?_) rfl);simp only[Tryz.ntmps167,Qu,Qx,Qo,QD,QE,Qr,Qs,Qv,Qt,QC,Qy];go_wp2;refine wp_loop (fun a' wr=>∃ (u5 u6 u7 u8 u9 u10 u11 u12 u13 u14 u15 u16 u17 u18 u19 u20 u23 u24 u25 u26 u27 u28 u29 u30 u31 u32 u33 u34 u35 u36 u37 u38 u39 u40 u41 u42 u43 u44 u45 u46 u47 u48:Value) (ds:List Nat),(∃ (i:Nat) (C':List Nat),i<=n+1/\u23=.int .i64 i/\ds.Nodup/\KQ J W.heap.size l W.heap.size br bs (.slice (some ⟨sb,EY,none⟩) sl sc) (.slice (some ⟨rb,iR,none⟩) (n+1) rc) (s++[x]) rest ds (i*Plain.fact n) C' wr) /\
   a'={ tmps:=#[.func (.yield l) #[] #[],.pointer (some ⟨br,0,none⟩),.pointer (some ⟨bs,0,none⟩),.pointer (some ⟨W.heap.size,0,none⟩),.slice (some ⟨sb,EY,none⟩) sl sl,u5,u6,u7,u8,u9,u10,u11,u12,u13,u14,u15,u16,u17,u18,u19,u20,.slice (some ⟨rb,iR,none⟩) (n+1) rc,.int .i64 ((n+1:Nat):Int),u23,u24,u25,u26,u27,u28,u29,u30,u31,u32,u33,u34,u35,u36,u37,u38,u39,u40,u41,u42,u43,u44,u45,u46,u47,u48],defers:=ds.map fun D=>{ target:=.collected D,args:=#[] } })
   (fun a' _=>n+1 - (intOf (a'.tmps.getD 23 undef)).toNat) ?_ ?_
  ·(repeat apply Exists.intro)
   refine⟨⟨0,C,by omega,rfl,List.nodup_nil,by rw[QF];exact ku.out⟩,?_⟩;rfl
  rintro _ wr ⟨u5,u6,u7,u8,u9,u10,u11,u12,u13,u14,u15,u16,u17,u18,u19,u20,u23,u24,u25,u26,u27,u28,u29,u30,u31,u32,u33,u34,u35,u36,u37,u38,u39,u40,u41,u42,u43,u44,u45,u46,u47,u48,ds,⟨i,C',hi,rfl,hds,fp⟩,rfl⟩;have Ag:=lh fp;have OY:=lh hds
  try dsimp only
  by_cases aL:i<n+1
  ·have aK:=fun i hi=>fp.o.rr.cells (i:=i) hi
   have cd:=aK i (by rw[HN.out];exact aL);have xp:rest.getD i 0∈rest:=by rw[show rest.getD i 0=rest[i]'(by rw[HN.out];exact aL) by simp[Qh,show i<rest.length by rw[HN.out];exact aL]];exact List.getElem_mem _
   have ID:=HRS.out _ xp;have LT:=lh (al.take HRS.out (by rw[HN.out];omega) aK (cap:=rc) (i:=i) (by rw[HN.out];omega));have LD:=lh (al.drop HRS.out (by rw[HN.out];omega) aK (cap:=rc - (i+1)) (i+1));rw[HN.out] at LD;have c1:=fp.o.r;have cy:=fp.y;have LS:=lh fp.o.ss;have kr:=k1;generalize hd:rest.getD i 0=d at *;have HD:=lh hd;clear aK fp hds xp
   go_wp2_with fail
   have It:(i:Int)<(n:Int)+1:=by omega
   have Av:(i:Int)<=(rc:Int):=by omega
   have hi3:i<=rc:=by omega
   have hi4:(i:Int)+1<=(n:Int)+1:=by omega
   have hi5:i+1<=n+1:=by omega
   have hi6:i<=n:=by omega
   have hi7:i+1<=rc:=by omega
   have hi8:n+1<=rc:=k1;have hi0:(0:Int)<=(i:Int)+1:=by omega
   obtain⟨Df,hao⟩:∃ Df,(if rc=i+1 then some (⟨rb,iR,none⟩:Addr) else some ⟨rb,iR+(i+1),none⟩)=Df:=⟨_,rfl⟩;have LD2:Hid (al wr (.slice Df (n - i) (rc - (i+1))) (rest.drop (i+1))):=lh (by
    have:=LD.out;rw[show n+1 - (i+1)=n - i by omega] at this;rw[<-hao];split
    ·rw[show n - i=0 by omega,List.drop_of_length_le (by rw[HN.out];omega)];exact al.none_ _ _ _
    exact this)
   clear LD;have hi9:(n:Int)+1<=(rc:Int):=by omega
   have wi:IntKind.i64.wrap ((i:Int)+1)=(i:Int)+1:=IntWalk.i64_in _ (by omega);refine rQ ?_;have aW:ag [] wr wr.drew:=(ag.refl [] wr).drew;refine ar (ag [] wr) [0,1,2,3,4,5,6,9] (Way.line [0,1,2,3,4,5,6,7,8,9] .done) (by kernel_rfl) (by kernel_rfl) ?_;simp only[Way.line]
   repeat
    first
     | (refine dA rfl (by rfl) (by rfl) (fun _ _ _ h=>h) aW ?_;simp only[Ql,Z1,Z2,Z3,Z4,Z5,Z6])
     | (refine ai (v:=?_) rfl (by rfl) (by rfl) (fun _ _ _ h=>h) aW (fun w' aI=>?_) ?_;rotate_left;(focus (have gB:=aI.c c1;clear aI;go_simp;try with_reducible rfl));simp only[Ql,Z1,Z2,Z3,Z4,Z5,Z6])
     | (refine cV rfl (by rfl) (by rfl) aW ?_;simp only[Ql,Z1,Z2,Z3,Z4,Z5,Z6])
   refine au rfl (by rfl) (by rfl) (fun K hK=>?_);go_simp;refine hK.out _ _ (fun _=>aW.alloc (.cells #[.slice (some ⟨rb,iR,none⟩) i rc,.slice Df (n - i) (rc - (i+1))] 25)) ?_;clear hK K
   try simp only[Ql,Z1,Z2,Z3,Z4,Z5,Z6]
   refine au rfl (by rfl) (by rfl) (fun K hK=>?_);go_simp;refine (jP (.slice (some ⟨rb,iR,none⟩) i rc) (.slice Df (n - i) (rc - (i+1))) (rest.take i) (rest.drop (i+1)) wr.drew (LT.out.fresh aW) (LD2.out.fresh aW) (by rw[List.length_take,List.length_drop,HN.out];omega)).mono ?_;rintro e w2 ⟨v7,rfl,OK,hc7⟩;have bF:ag [] wr w2:=aW.tr hc7;refine hK.out _ _ (fun _=>bF) ?_;clear hK K
   try simp only[Ql,Z1,Z2,Z3,Z4,Z5,Z6]
   repeat
    first
     | (refine dA rfl (by rfl) (by rfl) (fun _ _ _ h=>h) bF ?_;simp only[Ql,Z1,Z2,Z3,Z4,Z5,Z6])
     | (refine ai (v:=?_) rfl (by rfl) (by rfl) (fun _ _ _ h=>h) bF (fun w' aI=>?_) ?_;rotate_left;(focus (skip;clear aI;go_simp;try with_reducible rfl));simp only[Ql,Z1,Z2,Z3,Z4,Z5,Z6])
     | (refine cV rfl (by rfl) (by rfl) bF ?_;simp only[Ql,Z1,Z2,Z3,Z4,Z5,Z6])
   refine aC ?_;rw[<-List.eraseIdx_eq_take_drop_succ] at OK;have lR:(rest.eraseIdx i).length=n:=by rw[List.length_eraseIdx,if_pos (by rw[HN.out];exact aL),HN.out];rfl
   obtain⟨o7,p7,rfl⟩:=OK.shape;obtain⟨v8,w3,Pq,r8,c8⟩:=Al (w:=w2) (x:=d) ((LS.out.fresh bF).cap _) (by simp) ID (by rw[rn.out];omega) 25;rw[rn.out] at Pq;have R7:=lh OK;have R8:=lh r8;have C7:=lh bF;have C8:=lh c8;obtain⟨o8,p8,rfl⟩:=r8.shape;have oF:=lh lR;clear aW bF OK r8 c8 hc7 LT LD2 lR
   go_wp2_with (at_builtin;refine eU rfl (.tmp 37) (.tmp 39) 25 rfl rfl rfl Pq ?_)
   refine (sE o8 o7 _ p8 _ p7 w3).mono ?_;rintro e w4 ⟨rfl,Ju⟩;have XP:w4.heap.size=w3.heap.size+2:=by rw[Ju];simp
   have C84:=lh (show ag [] w3 w4 by rw[Ju];exact ((ag.refl [] w3).alloc _).alloc _);have CW4:=lh ((C7.out.tr C8.out).tr C84.out);have b0:w4.cell? ⟨w3.heap.size,0,none⟩=some (.slice o8 (s.length+2) p8):=by
    rw[Ju];exact bP ((cell_of_row _ _ 0 _ _ _ (heap_alloc_new w3 _)).trans rfl) _
   have b1:w4.cell? ⟨w3.heap.size+1,0,none⟩=some (.slice o7 (rest.eraseIdx i).length p7):=by
    rw[Ju];have:=heap_alloc_new (w3.alloc (.cells #[.slice o8 (s.length+2) p8] 25)) (.cells #[.slice o7 (rest.eraseIdx i).length p7] 25);rw[Qw] at this;exact (cell_of_row _ _ 0 _ _ _ this).trans rfl
   have e8:(s++[x]++[d]).length=s.length+2:=by simp
   have O4:=lh (show nR w4 (w3.heap.size+1) w3.heap.size (.slice o8 (s.length+2) p8) (.slice o7 (rest.eraseIdx i).length p7) ((s++[x])++[d]) (rest.eraseIdx i) from
    ⟨b1,R7.out.ints.fresh (C8.out.tr C84.out),b0,by have:=R8.out.ints.fresh C84.out;rwa[e8] at this,gV.row R7.out,by have:=gV.row R8.out;rwa[e8] at this⟩)
   have L4:=lh (show ∀ j∈jG (w3.heap.size+1) w3.heap.size (.slice o8 (s.length+2) p8) (.slice o7 (rest.eraseIdx i).length p7),wr.heap.size<=j/\j<w4.heap.size from fun j hj=>by
    have q1:=C7.out.size;have q2:=C8.out.size;have q3:wr.drew.heap.size=wr.heap.size:=rfl;simp only[jG,iN,Qe,QA] at hj;rcases hj with r | r | r | r
    ·omega
    ·omega
    ·have:=R8.out.low j (by rw[e8];exact r);omega
    have:=R7.out.low j r;omega)
   have HI4:=lh (Ag.out.stays (B':=w4.heap.size) HJ.out CW4.out (by simp) (by have:=Ag.out.m W.heap.size (by simp);have:=CW4.out.size;omega) fun D hD=>Qd (lt_of_block (Ag.out.d D hD).2.2) CW4.out.size);have UQ:=lh (fun D (hD:D∈ds)=>Qd (lt_of_block (Ag.out.d D hD).2.2) CW4.out.size);have ahm:i+1<=n+1:=by omega
   clear Ju XP b0 b1 e8 Pq;go_wp2;refine (wpIn_wide (n:=9)).1 ?_;refine qT (xs:=(Plain.dR n (d :: rest.eraseIdx i)).map ((s++[x])++·)) (Rd:=j4) rfl (enters_of Tryz.func167 (by kernel_rfl) rfl)
    (ih oF.out (by have:=HS.out;simp;omega) O4.out fun j hj=>(L4.out j hj).2) (fun W W' v x own h hc ho=>h.stays hc ho)
    (fun k C5 W5=>KQ J W.heap.size l W.heap.size br bs (.slice (some ⟨sb,EY,none⟩) sl sc) (.slice (some ⟨rb,iR,none⟩) (n+1) rc) (s++[x]) rest ds (i*Plain.fact n+k) C5 W5) C'
    ⟨fun h hc ho=>h.stays HJ.out hc ho (by have:=HI4.out.m W.heap.size (by simp);omega) UQ.out,fun h=>HJ.out.lt h.j⟩ HI4.out
    (fun j hj=>⟨fun q=>by have:=HJ.out.lt Ag.out.j j q;have:=(L4.out j hj).1;omega,(L4.out j hj).2⟩) ?a1 ?assign ?body ?done
   case assign =>
    intro l' W5 K v hK
    gi_wp2
    exact hK
   case body =>
    intro l' k C5 W5 v x' hl hlC hI hx hr hv;obtain⟨fn,tmps,assign,body,hy,hR⟩:=YieldAt.any (m':=6) (HY.out (i*Plain.fact n+k) C5 W5 v x' hI.j (Plain.I3 HN.out aL (by rw[HD.out];exact hx)) hr hv);have HR:=lh (show RoundIn (Fence.wide.inRound l') 6 Tryz.prog l fn tmps assign body W5 _ from hR);have HI:=lh hI;have cy5:=hI.y;clear hl hlC hI hx hr hR hv aL
    gi_wp2
    refine HR.out.mono ?_;rintro e W6 ⟨rfl,C6,h1,h2,h3⟩;have HE:=lh (show Ix C5 W5 (fun C5 W5=>KQ J W.heap.size l W.heap.size br bs (.slice (some ⟨sb,EY,none⟩) sl sc) (.slice (some ⟨rb,iR,none⟩) (n+1) rc) (s++[x]) rest ds (i*Plain.fact n+(k+1)) C5 W5) W6 from⟨C6,HI.out.Ao h1 h2 h3,h2,h3⟩);clear h1 h2 h3 hy
    gi_wp2
    exact HE.out
   case done =>
    intro D C5 W5 hD YA hI hK;have Jg:=lh (show KQ J W.heap.size l W.heap.size br bs (.slice (some ⟨sb,EY,none⟩) sl sc) (.slice (some ⟨rb,iR,none⟩) (n+1) rc) (s++[x]) rest (D :: ds) ((i+1)*Plain.fact n) C5 W5 from by
     have h2:KQ J W.heap.size l W.heap.size br bs (.slice (some ⟨sb,EY,none⟩) sl sc) (.slice (some ⟨rb,iR,none⟩) (n+1) rc) (s++[x]) rest ds ((i+1)*Plain.fact n) C5 W5:=by
      rw[Qz,Nat.one_mul];rwa[Qf,Plain.fu] at hI
     refine⟨h2.j,h2.o,h2.y,h2.m,fun D' hD'=>?_⟩;rcases Qe.1 hD' with r | r
     ·rw[r]
      exact⟨by have:=HI4.out.m W.heap.size (by simp);omega,YA,hK⟩
     exact h2.d D' r)
    have HD5:=lh (show (D :: ds).Nodup from QB.2 ⟨fun q=>by have:=UQ.out D q;omega,OY.out⟩);clear hI hK YA hD;go_wp2;refine⟨?_,by simp[intOf];omega⟩
    (repeat apply Exists.intro)
    refine⟨⟨i+1,C5,ahm,by go_num,HD5.out,Jg.out⟩,rfl⟩
  have e:i=n+1:=by omega
  subst e;have Jg:=Ag;clear fp hds hi aL;go_wp2;refine jh OY.out (fun D hD=>(Jg.out.d D hD).2.2) fun W' G5=>⟨_,results_none rfl _ _ _,⟨_,rfl⟩,C',?_⟩;rw[Qf,Plain.fu];exact HJ.out.aD Jg.out.j G5 fun j hj=>⟨(Jg.out.d j hj).1,Qk fun cs t r q=>by rw[(Jg.out.d j hj).2.2] at q;cases q⟩
end
end Go.Proofs.YtoiflofhcmjpoaaGreat
