/- draw.Ways: what its loop over all turns keeps. Conditions: what each law says. -/
import Derived.Test.YtoiflofhcmjpoaaGreatD9Choice
set_option linter.unusedVariables false
set_option linter.unusedSimpArgs false
open List renaming getD→Qa,mem_singleton→Qb,mem_filter→Qc,replicate→Qe,mem_append_left→Qf,mem_range→Qg,mem_append_right→Qh,mem_append→Qi,mem_cons_of_mem→Qk,getElem?_eq_getElem→Ql,length_eq_zero_iff→Qm,getElem?_map→Qn,mem_cons→Qr,mem_map→Qt,take_succ_eq_append_getElem→Qu,length_filter_le→Qv,map_map→Qx,reverse→Qy,getElem?_append_left→Qz,range'→QA,getElem?_inj→QD,Pairwise→QE,take_length→QF,nodup_range→QG,take_of_length_le→QH,length_pos_of_mem→QJ,length_map→QK,getElem?_range→QN,map_congr_left→QO,getElem_of_mem→QP,length_reverse→QQ,length_range→QR,pairwise_map→QT,length_cons→QU,getElem_mem→QW,range→QY,cons→Q2
open Go.Act renaming put→Qd
open Nat renaming le_trans→Qj,le_refl→Qo,lt_of_le_of_lt→Qs,zero_le→QC,le_mul_of_pos_left→QI,div_lt_of_lt_mul→QL,div_add_mod→QX,mul_le_mul→QZ,add_assoc→Q0,lt_or_ge→Q3
open Go.Value renaming ownBlock→Qp,slice→QB,int→Q4
open Or renaming inl→Qq,inr→Qw
open Int renaming toNat_of_nonneg→QM
open Bool renaming eq_false_iff→QS
open Go.World renaming size_alloc→QV
namespace Go.Proofs.YtoiflofhcmjpoaaGreat
open Go.RowKit Go.Maps
theorem cf.stays {W W':World} {own:List Nat} {v:Value} {ll:List (List Int)} (h:cf W v ll) (hc:ag own W W') (ho:∀ j∈own,∀ cs t r,W.heap[j]?≠some (.cells cs t r)):cf W' v ll:=by
 obtain⟨ao,cap,e,h1,h2⟩:=h;refine⟨ao,cap,e,h1,fun i hi=>?_⟩;obtain⟨b,off,u,e1,c1,c2,c3⟩:=h2 i hi;exact⟨b,off,u,e1,jE c1 hc ho,c2,c3.stays hc ho⟩
def lZ (Cr:List Nat) (W W':World):Prop:=∃ own,ag own W W'/\∀ j∈own,j ∉ Cr\/∀ cs t r,W.heap[j]?≠some (.cells cs t r)
theorem lZ.refl (Cr:List Nat) (W:World):lZ Cr W W:=⟨[],ag.refl _ _,by simp⟩
theorem lZ.trans {Cr Cr':List Nat} {A B C:World} (h:lZ Cr A B) (k:lZ Cr' B C) (hs:∀ j∈Cr,j∈Cr'):lZ Cr A C:=by
 obtain⟨o,h1,h2⟩:=h;obtain⟨o',k1,k2⟩:=k;refine⟨o++o',(h1.mono (gH:=o++o') fun j hj=>Qq (Qf _ hj)).trans k1 fun j hj=>Qq (Qh _ hj),fun j hj=>?_⟩;by_cases q:j∈o
 ·exact h2 j q
 rcases Qi.1 hj with r | r
 ·exact absurd r q
 rcases k2 j r with s | s
 ·exact Qq fun u=>s (hs j u)
 refine Qw fun cs t r e=>s cs t r (h1.heap e q)
theorem dw.safe {Cr:List Nat} {w w':World} {B b:Nat} {v:Value} {vs:List Value} {ll:List (List Int)} (h:dw w b v vs ll) (hs:lZ Cr w w') (hB:B<=b) (hC:∀ j,b<=j->j<w.heap.size->j∈Cr):dw w' B v vs ll:=by
 obtain⟨o,h1,h2⟩:=hs;have key:∀ {x:Nat} {t:TypeId},bp w x t->b<=x->x ∉ o:=fun {x t} hk hx q=>by
  obtain⟨cs,r,e⟩:=hk;rcases h2 x q with s | s
  ·exact s (hC x hx (lt_of_block e))
  exact s _ _ _ e
 have h3:dw w' b v vs ll:=⟨aY h.out h1 fun x hx=>key (bE h.out hx) (h.out.lt x hx).1,h.len,fun k hk=>(h.rows k hk).aD h1 fun x hx=>key ((h.rows k hk).cA (by simpa using hx)) ((h.rows k hk).low x hx).1⟩;exact h3.base hB
def KR (B lT:Nat) (w0:World) (LL:List (List (List Int))) (C:List Nat) (W:World):Prop :=
 ∃ (ov:Value) (ms:List Value) (Cr:List Nat),C=lT :: (ov.ownBlock.toList++Cr)/\W.heap[lT]?=some (.cells #[ov] 44 (0,0))/\W.ownsRow B 48 1 ov ms.length ms/\ms.length=LL.length /\
  (∀ i,i<ms.length->∀ W',lZ Cr W W'->∃ vs,dw W' B (ms.getD i undef) vs (LL.getD i []))/\lT ∉ ov.ownBlock.toList++Cr/\(∀ j∈ov.ownBlock.toList,j ∉ Cr)/\(∀ j∈C,j<W.heap.size)/\ag [lT] w0 W/\∀ j∈ov.ownBlock.toList,w0.heap.size<=j
theorem KR.lists {B lT:Nat} {w0 W:World} {LL:List (List (List Int))} {C:List Nat} (h:KR B lT w0 LL C W):∃ ov ms,W.heap[lT]?=some (.cells #[ov] 44 (0,0))/\gN W B ov ms LL/\ag [lT] w0 W:=by
 obtain⟨ov,ms,Cr,-,h1,h2,h3,h4,-,-,-,h5,-⟩:=h;exact⟨ov,ms,h1,⟨h2,h3,fun k hk=>h4 k hk W (lZ.refl _ _)⟩,h5⟩
theorem KR.stays {B lT:Nat} {w0 W W':World} {LL:List (List (List Int))} {C own:List Nat} (h:KR B lT w0 LL C W) (hc:ag own W W') (ho:∀ j∈own,w0.heap.size<=j/\((∀ cs t r,W.heap[j]?≠some (.cells cs t r))\/j ∉ C)):KR B lT w0 LL C W':=by
 obtain⟨ov,ms,Cr,rfl,h1,h2,h3,h4,h5,h6,h7,h8,h9⟩:=h;have key:∀ {x:Nat} {t:TypeId},bp W x t->x∈lT :: (ov.ownBlock.toList++Cr)->x ∉ own:=fun {x t} hk hx q=>by
  obtain⟨cs,r,e⟩:=hk;rcases (ho x q).2 with s | s
  ·exact s _ _ _ e
  exact s hx
 refine⟨ov,ms,Cr,rfl,hc.heap h1 (key ⟨_,_,h1⟩ (by simp)),aY h2 hc fun x hx=>key (bE h2 hx) (by simp[hx]),h3,fun i hi W2 hW2=>h4 i hi W2 (lZ.trans ⟨own,hc,fun j hj=>?_⟩ hW2 fun j hj=>hj),h5,h6,fun j hj=>Nat.lt_of_lt_of_le (h7 j hj) hc.size,h8.trans hc fun j hj=>Qw (ho j hj).1,h9⟩;rcases (ho j hj).2 with s | s
 ·exact Qw s
 exact Qq fun q=>s (by simp[q])
theorem yL {α:Type} {P:α->Bool} {xs:List α} {j:Nat} {x:α} (hx:xs[j]?=some x):(xs.take (j+1)).filter P=(xs.take j).filter P++if P x=true then [x] else []:=by
 obtain⟨h1,h2⟩:=List.getElem?_eq_some_iff.1 hx;rw[Qu h1,h2,List.filter_append]
 congr 1
 by_cases q:P x=true
 ·simp[q]
 simp[q]
theorem KR.add {B lT g:Nat} {w0 W W1 W2 W3:World} {LL:List (List (List Int))} {M:List (List Int)} {C:List Nat} {vs:List Value} {mv nv ov:Value} (h:KR B lT w0 LL C W) (Ye:W.heap[lT]?=some (.cells #[ov] 44 (0,0)))
  (hB:B<=W.heap.size) (FO:w0.heap.size<=W.heap.size) (c1:ag [] W W1) (hm:dw W1 W.heap.size mv vs M) (hn:∀ ms:List Value,W.ownsRow B 48 1 ov ms.length ms->W2.ownsRow B 48 1 nv (ms.length+1) (ms++[mv])) (c2:ag ov.ownBlock.toList W1 W2)
  (hg:nv.ownBlock=some g) (KC:ov.ownBlock=some g\/W1.heap.size<=g) (c3:ag [lT] W2 W3) (h3:W3.heap[lT]?=some (.cells #[nv] 44 (0,0))) :
  Ix C W (fun C' W'=>KR B lT w0 (LL++[M]) C' W') W3:=by
 obtain⟨LI,ms,Cr,rfl,h1,h2,I9,h4,h5,h6,h7,h8,mm⟩:=h;obtain rfl:LI=ov:=by rw[h1] at Ye;cases Ye;rfl
 have s1:=c1.size;have s2:=c2.size;have s3:=c3.size;have atD:lT<W.heap.size:=h7 lT (by simp);have Vl:∀ j∈LI.ownBlock.toList,j<W.heap.size/\j≠lT:=fun j hj=>⟨h7 j (Qk _ (Qf _ hj)),fun q=>h5 (by rw[<-q];exact Qf _ hj)⟩;have KT:ag (lT :: LI.ownBlock.toList) W1 W3:=(c2.mono (gH:=lT :: LI.ownBlock.toList) fun j hj=>Qq (by simp[hj])).trans c3 fun j hj=>Qq (by simp[Qb.1 hj]);have cW:ag (lT :: LI.ownBlock.toList) W W3:=(c1.mono (gH:=lT :: LI.ownBlock.toList) (by simp)).trans KT fun j hj=>Qq hj;have O7:∀ j,j∈QA W.heap.size (W1.heap.size - W.heap.size)↔W.heap.size<=j/\j<W1.heap.size:=fun j=>by rw[List.mem_range'_1];omega
 have hoC:∀ j∈lT :: LI.ownBlock.toList,j ∉ Cr++QA W.heap.size (W1.heap.size - W.heap.size):=fun j hj q=>by
  have hl:j<W.heap.size:=by
   rcases Qr.1 hj with r | r
   ·omega
   exact (Vl j r).1
  rcases Qi.1 q with r | r
  ·rcases Qr.1 hj with s | s
   ·exact h5 (by rw[<-s];exact Qh _ r)
   exact h6 j s r
  have:=(O7 j).1 r;omega
 have ED:g<W3.heap.size/\g≠lT/\g ∉ Cr++QA W.heap.size (W1.heap.size - W.heap.size):=by
  rcases KC with q | q
  ·have hj:g∈LI.ownBlock.toList:=by simp[q]
   exact⟨by have:=(Vl g hj).1;omega,(Vl g hj).2,hoC g (by simp[hj])⟩
  have:=(hn ms h2).lt g hg;refine⟨by omega,by omega,fun r=>?_⟩;rcases Qi.1 r with r | r
  ·have:=h7 g (Qk _ (Qh _ r));omega
  have:=(O7 g).1 r;omega
 have cL:∀ j∈lT :: (nv.ownBlock.toList++(Cr++QA W.heap.size (W1.heap.size - W.heap.size))),(j∈lT :: (LI.ownBlock.toList++Cr)\/W.heap.size<=j)/\j<W3.heap.size:=fun j hj=>by
  rcases Qr.1 hj with r | r
  ·exact⟨Or.inl (by simp[r]),by omega⟩
  rcases Qi.1 r with r | r
  ·obtain rfl:g=j:=(show j=g by simpa[hg] using r).symm
   refine⟨?_,ED.1⟩;rcases KC with q | q
   ·exact Qq (by simp[q])
   exact Qw (by omega)
  rcases Qi.1 r with r | r
  ·exact⟨Or.inl (by simp[r]),by have:=h7 j (Qk _ (Qh _ r));omega⟩
  have:=(O7 j).1 r;exact⟨Or.inr this.1,by omega⟩
 refine⟨_,⟨nv,ms++[mv],Cr++QA W.heap.size (W1.heap.size - W.heap.size),rfl,h3,?_,by simp[I9],fun i hi W' hW'=>?_,?_,fun j hj=>?_,fun j hj=>(cL j hj).2,?_,fun j hj=>?_⟩,cW.mono fun j hj=>Qq ?_,fun j hj=>(cL j hj).1⟩
 ·have:=aY (hn ms h2) c3 fun b hb q=>by rw[hg] at hb;cases hb;exact ED.2.1 (Qb.1 q)
  simpa using this
 ·rw[List.length_append,List.length_singleton] at hi
  by_cases e:i<ms.length
  ·rw[show (ms++[mv]).getD i undef=ms.getD i undef by simp[Qa,Qz e],show (LL++[M]).getD i []=LL.getD i [] by simp[Qa,Qz (show i<LL.length by omega)]]
   refine h4 i e W' (lZ.trans ⟨_,cW,fun j hj=>Qq fun q=>hoC j hj (Qf _ q)⟩ hW' fun j hj=>Qf _ hj)
  have e:i=ms.length:=by omega
  rw[e,show (ms++[mv]).getD ms.length undef=mv by simp[Qa],show (LL++[M]).getD ms.length []=M by rw[I9];simp[Qa]];exact⟨vs,hm.safe (lZ.trans ⟨_,KT,fun j hj=>Qq (hoC j hj)⟩ hW' fun j hj=>hj) hB fun j q1 q2=>Qh _ ((O7 j).2 ⟨q1,q2⟩)⟩
 ·rw[hg]
  intro q;rcases Qi.1 q with r | r
  ·have r:lT=g:=by simpa using r
   exact ED.2.1 r.symm
  exact hoC lT (by simp) r
 ·obtain rfl:g=j:=(show j=g by simpa[hg] using hj).symm
  exact ED.2.2
 ·exact h8.trans cW fun j hj=>by
   rcases Qr.1 hj with r | r
   ·exact Qq (by simp[r])
   exact Qw (mm j r)
 ·obtain rfl:g=j:=(show j=g by simpa[hg] using hj).symm
  rcases KC with q | q
  ·exact mm g (by simp[q])
  omega
 rcases Qr.1 hj with r | r
 ·simp[r]
 simp[r]
theorem KR.run {B lT cb k:Nat} {w0 W W7:World} {LL:List (List (List Int))} {M:List (List Int)} {C:List Nat} {vs:List Value} {oo:Option Addr} {on oc:Nat} (h:KR B lT w0 LL C W) (Ye:W.heap[lT]?=some (.cells #[.slice oo on oc] 44 (0,0)))
  (hB:B<=W.heap.size) (FO:w0.heap.size<=W.heap.size) (c1:ag [] W W7) (hm:dw W7 W.heap.size (.slice (some ⟨cb,0,none⟩) k k) vs M) (VN:LL.length<68719476736) :
  ∃ g cap W8,(Builtin.append_ #[44,44] 44 #[.slice oo on oc,.slice (some ⟨W7.heap.size,0,none⟩) 1 1]).run Tryz.prog (W7.alloc (.cells #[.slice (some ⟨cb,0,none⟩) k k] 48))=.ok (.slice (some ⟨g,0,none⟩) (on+1) cap) W8 /\
   W8.cell? ⟨lT,0,none⟩=some (.slice oo on oc)/\W8.frozen? ⟨lT,0,none⟩=false/\Ix C W (fun C' W'=>KR B lT w0 (LL++[M]) C' W') (W8.setCell ⟨lT,0,none⟩ (.slice (some ⟨g,0,none⟩) (on+1) cap)):=by
 obtain⟨LI,ms,Cr,hC,h1,h2,I9,-,h5,-,-,-,-⟩:=id h;obtain rfl:LI=.slice oo on oc:=by rw[h1] at Ye;cases Ye;rfl
 obtain⟨a',c',e'⟩:=bk h2;simp only[QB.injEq] at e';obtain⟨-,rfl,-⟩:=e';have s7:=c1.size;have h7:=aY h2 c1 (by simp);obtain⟨g,cap,W8,hr,r2,r3,r4⟩:=kZ MS h7 (by omega) (cs:=#[.slice (some ⟨cb,0,none⟩) k k]) rfl (pC _ _ _) (by omega) (Qq rfl) 44;have hb8:W8.heap[lT]?=some (.cells #[.slice oo ms.length oc] 44 (0,0)):=r3.heap (c1.hp h1) fun q=>h5 (Qf _ q);refine⟨g,cap,W8,hr,(cell_of_row _ _ 0 _ _ _ hb8).trans rfl,by simp[World.frozen?,hb8],?_⟩;refine h.add (g:=g) Ye hB FO c1 hm (fun ms' h'=>?_) r3 (by simp[Qp]) r4 ((ag.refl _ W8).setCell (Qq (by simp)) _) (heap_setCell_same hb8 _ _);obtain⟨-,hu⟩:True/\ms'=ms:=⟨trivial,by
  have e1:ms'.length=ms.length:=by
   obtain⟨_,_,e⟩:=bk h';simp only[QB.injEq] at e;exact e.2.1.symm
  rcases h'.2 with ⟨q,q2⟩ | ⟨g1,p1,u1,q,-,q3,-,-,-,q4⟩
  ·have:ms.length=0:=by omega
   rw[Qm.1 (by omega:ms'.length=0),Qm.1 this]
  rcases h2.2 with ⟨k1,k2⟩ | ⟨g2,p2,u2,k1,-,k3,-,-,-,k4⟩
  ·rw[Qm.1 (by omega:ms'.length=0),Qm.1 k2]
  rw[q] at k1;simp only[QB.injEq,Option.some.injEq,Addr.mk.injEq] at k1;rw[k1.1.1,k3] at q3;cases q3;rw[<-q4,<-k4,e1]⟩
 subst hu;exact r2
end Go.Proofs.YtoiflofhcmjpoaaGreat
namespace Go.Proofs.YtoiflofhcmjpoaaGreat
open Go.RowKit Go.Maps
variable {P : Program} {md : Region.Mode} {ops : Array Oper} {Q : Exit -> Act -> World -> Prop} {l n : Nat}
theorem acD {o:Oper} {a:Act} {w:World} {K K':Act->World->Prop} (hd:∀ c,o.op≠.defer c) (hK:∀ a w,K a w->K' a w) (h:o.wp P a w K Q):o.wpIn (Fence.wide.inRound l) n P a w K' Q:=by
 refine⟨fun _ _=>trivial,?_⟩;rw[Oper.semAt_eq _ _ _ hd];unfold Oper.wp at h
 revert h
 cases (execOp a.eval o).run P w with
 | ok x w' =>
  cases x with
  | value v=>exact hK _ _
  | skip=>exact hK _ _
  | defer d=>exact hK _ _
  | enter f args =>
   intro h;refine⟨fun q=>(by cases q),CallsIn.inRound l (callsIn_wide.2 (Calls.mono h fun e w hh=>?_))⟩;cases e with
   | returned v=>exact hK _ _ hh
   | panicked c=>exact hh
   | outgrown=>exact hh
  | row r args =>
   intro h;refine⟨fun q=>(by cases q),fun c cs hr=>?_⟩;obtain⟨v,w2,h1,h2⟩:=h c cs;exact⟨v,w2,hK _ _ h1,stepsIn_wide.2 h2⟩
  | round _ _ _ _ _=>exact fun h=>h.elim
  | _=>exact fun h=>h.elim
 | halt x w'=>cases x <;> exact fun h=>h
theorem qC (hd:∀ o∈ops.toList,∀ c,o.op≠.defer c) (hL:¬ LetsOut Q):∀ (fuel:Nat) (ax:Array Bool) (a:Act) (w:World),wpAny P md ops Q fuel ax a w->wpAnyIn (Fence.wide.inRound l) n P md ops Q fuel ax a w
 | 0,_,_,_,h=>h
 | fuel+1,ax,a,w,h=>by
  refine⟨h.1,fun i hi=>?_⟩;have h2:=h.2 i hi;unfold wpOp at h2;unfold wpOpIn;cases ho:ops[i]? with
  | none=>simp only[ho] at h2 ⊢;exact qC hd hL fuel _ _ _ h2
  | some o =>
   simp only[ho] at h2 ⊢;by_cases hw:Region.wanted o (yielded ops a.tmps)=true
   ·rw[if_pos hw] at h2 ⊢
    exact acD (hd o (by simpa using Array.mem_of_getElem? ho)) (fun a w=>qC hd hL fuel _ a w) (h2.resolve_right fun q=>hL q.2)
   rw[if_neg hw] at h2 ⊢;exact⟨fun _ _=>trivial,qC hd hL fuel _ _ _ h2⟩
theorem sP {id:Nat} {a:Act} {w:World} (S:World->Prop) (R:List Nat) (qL:Way) (hm:P.follows .mixedOrders=true)
  (hc:(Region.noSelect ops&&decide (qL.size<=ops.size)&&qL.inside ops.size&&kd .any ops R qL (Array.replicate ops.size false))=true)
  (hd:∀ o∈ops.toList,∀ c,o.op≠.defer c) (hL:¬ LetsOut Q) (h:fI P .any ops Q S R qL a w.drew):(Code.region id ops true).wpIn (Fence.wide.inRound l) n P Q a w:=by
 simp only[Bool.and_eq_true,decide_eq_true_eq] at hc;exact wpIn_region_any hm (qC hd hL _ _ _ _ (oX _ _ _ _ (gd hc.1.1.1 qL _ a _ _ hc.1.1.2 hc.1.2 hc.2 (fun j _ _ hj=>by simp[Array.getElem?_replicate] at hj;split at hj <;> simp_all) h)))
end Go.Proofs.YtoiflofhcmjpoaaGreat
namespace Go.Proofs.YtoiflofhcmjpoaaGreat
open Go.RowKit Go.Maps
namespace Plain
noncomputable def fE (g:Gr) (p:Pt) (most:Int):Int :=
 if p.err g≠0 then p.err g else if iw g p=false then 10 else if most<1\/5000<most then 1 else if most<fH g p then 17 else 0
def iV (D:List (List Int)) (k:Nat):Nat:=iB ((D.take k).map fun l=>fact (l.length - 1))
theorem lz {D:List (List Int)} {k:Nat} (hk:k<D.length):iV D (k+1)=iV D k*fact ((D.getD k []).length - 1):=by
 unfold iV;rw[Qu hk,List.map_append,List.map_cons,List.map_nil,oC];simp[Qa,hk]
theorem JS (D:List (List Int)) (k:Nat):0<iV D k:=ye fun x hx=>by
 obtain⟨l,-,rfl⟩:=Qt.1 hx;exact vB _
theorem oV {D:List (List Int)}:∀ {j k:Nat},iV D k<=iV D (k+j)
 | 0,k=>Qo _
 | j+1,k=>by
  refine Qj (oV (j:=j)) ?_;rw[<-Q0];by_cases h:k+j<D.length
  ·rw[lz h]
   exact Nat.le_mul_of_pos_right _ (vB _)
  unfold iV;rw[QH (by omega),QH (by omega)];exact Qo _
theorem Pr:∀ {m n:Nat},m<=n->fact m<=fact n:=fun {m n} h=>by
 induction n with
 | zero=>rw[Nat.le_zero.1 h];exact Qo _
 | succ n ih =>
  rcases Q3 m (n+1) with q | q
  ·exact Qj (ih (by omega)) (by show fact n<=(n+1)*fact n;exact QI _ (by omega))
  rw[show m=n+1 by omega];exact Qo _
theorem Ng {D:List (List Int)} {most k m:Nat} (hk:k<D.length) (hm:m<=(D.getD k []).length - 1) (h:most<iV D k*fact m):most<iV D D.length:=by
 have h1:iV D k*fact m<=iV D (k+1):=by rw[lz hk];exact Nat.mul_le_mul_left _ (Pr hm)
 have h2:=oV (D:=D) (j:=D.length - (k+1)) (k:=k+1);rw[show k+1+(D.length - (k+1))=D.length by omega] at h2;omega
theorem yY {D:List (List Int)} {k:Nat} (hk:k<D.length):fact ((D.getD k []).length - 1)<=iV D D.length:=by
 have h1:=lz hk;have h2:=oV (D:=D) (j:=D.length - (k+1)) (k:=k+1);rw[show k+1+(D.length - (k+1))=D.length by omega,h1] at h2;exact Qj (QI _ (JS D k)) h2
theorem Ek {l m:List Nat} (h:l.Perm m):iB l=iB m:=by
 induction h with
 | nil=>rfl
 | cons x _ ih=>show x*_=x*_;rw[ih]
 | swap x y l=>show y*(x*_)=x*(y*_);rw[Nat.mul_left_comm]
 | trans _ _ h1 h2=>rw[h1,h2]
theorem vC {α:Type} {f:α->Nat} {P:α->Bool}:∀ {l:List α},(∀ x∈l,P x=false->f x=1)->iB (l.map f)=iB ((l.filter P).map f)
 | [],_=>rfl
 | x :: l,h=>by
  have ih:=vC (f:=f) (P:=P) (l:=l) fun y hy=>h y (Qk _ hy);cases q:P x with
  | true=>rw[List.filter_cons_of_pos q];show f x*_=f x*_;rw[ih]
  | false =>
   rw[List.filter_cons_of_neg (by simp[q])];show f x*_=_;rw[h x (by simp) q,Nat.one_mul,ih]
theorem yh {g:Gr} {b:Pt} {N:Nat} (hb:b.err g=0) (hN:g.n=N):iV (eD g b N) (eD g b N).length=fH g b:=by
 have hp:=Pt.ay hb;rw[EW];unfold iV WH eD;rw[QF,Qx];rw[vC (P:=fun v:Nat=>decide ((v:Int)∈b.v)) fun v _ hv=>?_]
 ·have e:((fun l:List Int=>fact (l.length - 1)) ∘ fun v:Nat=>aF g b v)=(fun v:Int=>fact ((aF g b v).length - 1)) ∘ fun v:Nat=>(v:Int):=rfl
  rw[e,<-Qx];refine Ek (List.Perm.map _ ((List.perm_ext_iff_of_nodup (QE.map _ (fun a c L8 q=>L8 (by have q:(a:Int)=(c:Int):=q;omega)) (QG.filter _)) hp.vn).2 fun v=>?_));rw[Qt];constructor
  ·rintro ⟨i,hi,rfl⟩
   simpa using (Qc.1 hi).2
  intro h;have:=hp.vr v h;exact⟨v.toNat,Qc.2 ⟨List.mem_range.2 (by omega),by rw[QM this.1];simpa using h⟩,QM this.1⟩
 have hv:¬ (v:Int)∈b.v:=by simpa using hv
 have:aF g b v=[]:=List.filter_eq_nil_iff.2 fun d hd q=>hv (by
  have:=(hp.aO hd).1;rwa[of_decide_eq_true q] at this)
 show fact ((aF g b v).length - 1)=1;rw[this];rfl
end Plain
def zS (g:Plain.Gr) (p:Plain.Pt) (N k:Nat):List Cell:=(QY N).map fun v:Nat=>Cell.row (Plain.bG g p v k)
section
attribute [local go_sem] Oper.semAt_some
set_option maxRecDepth 100000 in
set_option maxHeartbeats 8000000 in
theorem IM (vg vp:Value) (g:Plain.Gr) (p:Plain.Pt) (most:Int) (w:World) (qM:p.v.length<=1000) (hmo:aU most) (hg:dJ w vg g) (hp:fL w vp p) :
  Calls Tryz.prog 28 #[vg,vp,.int .i64 most] w fun e w'=>∃ v er,e=.returned (.tuple #[v,.int .i64 er])/\er=Plain.fE g p most/\(er≠0->v=.slice none 0 0)/\(er=0->∃ ms,gN w' w.heap.size v ms (Plain.l7 g p))/\ag [] w w':=by
 obtain⟨eo,cap,ao,ac,bo,bc,rfl,rfl,HG,HP,hm,DA,sQ,Bq,uE,S4,Ko,b8,dh⟩:=lN hg hp;clear hg hp;obtain⟨x0,x1,y0,y1,dj⟩:=dh.out _ (ag.refl _ _);refine (callsIn_wide (n:=9)).1 (callsIn_of_wp_marks Tryz.func28 rfl trivial (wpIn_wide.2 ?_) rfl);simp only[Tryz.ntmps28,List.size_toArray,QU,List.length_nil,Nat.reduceAdd,Nat.reduceSub,Array.replicate_succ,Array.replicate_zero,List.push_toArray,List.append_toArray,List.nil_append,List.cons_append]
 go_wp2_with fail
 obtain⟨w1,qK⟩:∃ w1,((w.alloc (.cells #[.int .i64 g.n,.slice eo g.e.length cap] 24)).alloc (.cells #[.slice ao p.v.length ac,.slice bo p.e.length bc] 27))=w1:=⟨_,rfl⟩;rw[qK] at b8 dh ⊢;clear qK x0 x1 y0 y1 dj;refine (eW _ _ g p _ (by omega) (HG.out.fresh b8.out) (HP.out.fresh b8.out)).mono ?_;rintro e w2 ⟨rfl,bA⟩;have cB:=lh (b8.out.tr bA);have LP:=lh bA;obtain⟨x0,x1,y0,y1,dj⟩:=dh.out _ bA;clear bA;by_cases h0:p.err g=0
 ·rw[h0]
  have H0:=lh h0;clear h0
  go_wp2_with fail
  refine (tI _ _ g p _ (by omega) (HG.out.fresh cB.out) (HP.out.fresh cB.out)).mono ?_;rintro e w3 ⟨rfl,cT⟩;have cU:=lh (cB.out.tr cT);have sY:=lh (LP.out.tr cT);clear cT x0 x1 y0 y1 dj;obtain⟨x0,x1,y0,y1,dj⟩:=dh.out _ sY.out;cases hs:Plain.iw g p with
  | false =>
   have I7:=lh (show (10:Int)=Plain.fE g p most by unfold Plain.fE;rw[if_neg (by simp[H0.out]),if_pos hs]);clear hs;go_wp2;refine⟨.tuple #[.slice none 0 0,.int .i64 10],by simp[results,Tryz.results28,go_sem],_,_,rfl,I7.out,fun _=>rfl,fun q=>absurd q (by decide),cU.out⟩
  | true =>
   have tC:=lh hs;clear hs;by_cases nT:most<1\/5000<most
   ·have I7:=lh (show (1:Int)=Plain.fE g p most by unfold Plain.fE;rw[if_neg (by simp[H0.out]),if_neg (by simp[tC.out]),if_pos nT])
    by_cases jo:most<1
    ·clear nT
     go_wp2;refine⟨.tuple #[.slice none 0 0,.int .i64 1],by simp[results,Tryz.results28,go_sem],_,_,rfl,I7.out,fun _=>rfl,fun q=>absurd q (by decide),cU.out⟩
    have hm3:5000<most:=nT.resolve_left jo;have hm4:1<=most:=by omega
    clear nT;go_wp2;refine⟨.tuple #[.slice none 0 0,.int .i64 1],by simp[results,Tryz.results28,go_sem],_,_,rfl,I7.out,fun _=>rfl,fun q=>absurd q (by decide),cU.out⟩
   obtain⟨mn,rfl⟩:∃ mn:Nat,most=mn:=⟨most.toNat,by omega⟩;have jo:¬ (mn:Int)<1:=by omega
   have hm3:¬ 5000<(mn:Int):=by omega
   have hm4:1<=(mn:Int):=by omega
   have hm5:(mn:Int)<=5000:=by omega
   have HMN:=lh (show 1<=mn/\mn<=5000 by omega);clear nT;have nN:=lh (Plain.Pt.ay H0.out);have jN:=lh (Plain.Pt.aA H0.out);have iE:=lh (Plain.Gr.aA jN.out.1);obtain⟨N,hN⟩:∃ N:Nat,g.n=N:=⟨g.n.toNat,by have:=iE.out.1;omega⟩;have HN:=lh hN;have lR:p.e.length<=1024:=by
    have h1:=eT jN.out.2.2.1;have h2:=iE.out.2.2.1;omega
   have hNN:N<=1024:=by have:=iE.out.2.1;omega
   have ED:g.e.length<=1024:=by have:=iE.out.2.2.1;omega
   have ZG:p.e≠[]:=by
    obtain⟨e0,l,he,-⟩:=((Plain.fy.1 tC.out).2).1;rw[he];simp
   obtain⟨eb,dO,rfl,Mr⟩:=uE.out ZG;have HEC:=lh Mr;clear Mr ZG;clear hN
   go_wp2_with (at_make;refine vG ji rfl _ _ rfl (B:=w3.heap.size) (n:=N) (by show Q4 .i64 g.n=_;rw[HN.out]) (by show Q4 .i64 g.n=_;rw[HN.out]) (Qo _) (by omega) ?_;intro w4 h4 c4;have H4:=lh (nD h4);have C34:=lh c4;have C4:=lh (sY.out.tr c4);have OB:=lh (h4.lt _ rfl);obtain⟨z0,z1,z2,z3,NK⟩:=dh.out _ (sY.out.tr c4);clear h4 c4 x0 x1 y0 y1 dj)
   obtain⟨ob,qz⟩:∃ n,w3.heap.size=n:=⟨_,rfl⟩;have Ew:=lh qz;rw[qz] at H4 OB;rw[qz];have asP:=lh (show w.heap.size+2<=ob by rw[<-qz];exact (dh.out _ sY.out).2.2.2.2);clear qz z0 z1 z2 z3 NK
   go_loopw [11,42] (fun _ c wr=>∃ i:Nat,i<=p.e.length/\c=.int .i64 i/\∃ xs,bu wr ob 25 1 (.slice (some ⟨ob,0,none⟩) N N) N xs (zS g p N (2*i))/\ag [] w3 wr) (fun _ c _=>p.e.length - (intOf c).toNat)
   case atStart =>
    refine⟨0,QC _,rfl,Qe N (.slice none 0 0),?_,C34.out⟩;have h1:=H4.out;rw[show zS g p N (2*0)=Qe N (.row []) by
     unfold zS;rw[Nat.mul_zero];simp only[Plain.lM];rw[List.map_const'];simp]
    exact h1
   case round =>
    obtain⟨i,hi,rfl,xs,bh,hc⟩:=hrel;have jg:=lh bh;have HC:=lh hc;clear bh hc H4;by_cases qP:i<p.e.length
    ·obtain⟨en,kD⟩:∃ en:Nat,p.e.getD i 0=en:=⟨(p.e.getD i 0).toNat,by have:=Plain.bX jN.out.2.2.1 qP;omega⟩
     have heg:en<g.e.length:=by have:=Plain.bX jN.out.2.2.1 qP;omega
     have ce:=(cU.out.tr HC.out).dp (HEC.out i qP);rw[kD] at ce;have KW:=lh kD;clear kD;have Sh:(i:Int)<(p.e.length:Int):=by omega
     have w0:IntKind.i64.wrap (2*(en:Int))=2*(en:Int):=IntWalk.i64_in _ (by omega)
     go_wp2_with fail
     go_loopw [12] (fun c wx=>∃ j:Nat,j<=2/\c=.int .i64 ((2*en+j:Nat):Int)/\∃ xs,bu wx ob 25 1 (.slice (some ⟨ob,0,none⟩) N N) N xs (zS g p N (2*i+j))/\ag [] w3 wx) (fun c _=>2*en+2 - (intOf c).toNat)
     case atStart=>exact⟨0,by omega,by go_num,xs,jg.out,HC.out⟩
     case round =>
      obtain⟨j,hj,rfl,xs,bh,hc⟩:=hrel;have Gl:=lh bh;have kV:=lh hc;clear bh hc;have w1w:IntKind.i64.wrap (2*(en:Int)+1)=2*(en:Int)+1:=IntWalk.i64_in _ (by omega);by_cases EO:j<2
      ·obtain⟨d,hd⟩:∃ d:Nat,2*en+j=d:=⟨_,rfl⟩
       have sZ:d / 2<g.e.length:=by omega
       obtain⟨v,hv,tq⟩:=mw jN.out.1 HN.out sZ;have HV:=lh hv;have HD:=lh hd;have zR:(d:Int)<=2*(en:Int)+1:=by omega
       have mj:d<4096:=by omega
       have OR:(v:Int)<(N:Int):=by omega
       rw[hd];clear hv;obtain⟨x0,x1,-⟩:=dh.out _ (sY.out.tr kV.out)
       go_wp2_with fail
       refine (cO _ g d _ sZ (by omega) (HG.out.fresh (cU.out.tr kV.out))).mono ?_;rw[HV.out];rintro e w5 ⟨rfl,eO⟩;have JC:=Gl.out.fresh eO;have sW:=JC.cells;obtain⟨va,vc,mg,l8,w6,p1,p2,p3,p4,p5,p6,p7,p8,p9,F9,PT⟩:=kI (q:=v) (x:=(d:Int)) JC (by decide) (Qj (JC.out.lt ob rfl).1 (Nat.le_of_lt (JC.out.lt ob rfl).2)) (by rw[sW];show v<N*1;omega) (show _=some (Cell.row (Plain.bG g p v (2*i+j))) by unfold zS;rw[Qn,QN tq];rfl) (aU.mk (by omega) (by omega)) (by have:=Plain.gx g p v (2*i+j);omega);have rj:=Plain.gx g p v (2*i+j);obtain⟨ln,qG⟩:∃ ln,(Plain.bG g p v (2*i+j)).length=ln:=⟨_,rfl⟩;have RY:=lh (show bu _ ob 25 1 (.slice (some ⟨ob,0,none⟩) N N) N _ (zS g p N (2*i+(j+1))) from by
        have h1:=rG (g:=g) (p:=p) (N:=N) (k:=2*i+j) (a:=v) (d:=(d:Int)) (by rw[Plain.bL];omega) (by have:=Plain.lB qP j (by omega);rw[KW.out] at this;rw[this,<-HD.out];push_cast;rfl) HV.out;unfold zS;rw[<-Q0,<-h1];exact p5)
       have ky:=lh (show ag [] w3 _ from (kV.out.t eO).trans p8 (fun b hb=>by
        refine Qw ?_;rw[Ew.out];rcases Qr.1 hb with q | q
        ·rw[q];exact Qo _
        exact (JC.kind (k:=v) (by rw[sW];show v<N*1;omega) (by rw[p7];simpa[aE] using q)).1))
       rw[qG] at p1 p2 p3 p9 F9 RY ky;have pZ:=lh p2;clear p2 p5 p6 p7 p8 p9 F9 PT JC qG
       go_wp2_with (at_builtin;refine eU rfl _ _ 25 rfl rfl rfl pZ.out ?_)
       exact⟨⟨j+1,by omega,by grind,_,RY.out,ky.out⟩,by simp[intOf];omega⟩
      have e2:j=2:=by omega
      subst e2;have lC:¬ ((2*en+2:Nat):Int)<=2*(en:Int)+1:=by omega
      go_wp2
      go_roundw
      case rel=>exact⟨i+1,by omega,by go_num,xs,by rw[show 2*(i+1)=2*i+2 by omega];exact Gl.out,kV.out⟩
      case measure=>simp[intOf];omega
    have e:i=p.e.length:=by omega
    subst e;have Sh:¬ (p.e.length:Int)<(p.e.length:Int):=by omega
    have HD:=lh (show bu wr ob 25 1 (.slice (some ⟨ob,0,none⟩) N N) N xs ((Plain.eD g p N).map Cell.row) by
     have:=jg.out;rwa[show zS g p N (2*p.e.length)=(Plain.eD g p N).map Cell.row by
      unfold zS Plain.eD;rw[Qx];refine QO fun v _=>?_;rw[<-Plain.bL,Plain.nk];rfl] at this)
    go_wp2_with fail
    have HW:=lh (cU.out.tr HC.out);have wv:=lh (sY.out.tr HC.out);have hDl:(Plain.eD g p N).length=N:=by simp[Plain.eD]
    have rh:=lh hDl;have HXL:=lh (show xs.length=N by have:=HD.out.cells;omega);obtain⟨D,hD⟩:∃ D,Plain.eD g p N=D:=⟨_,rfl⟩;have GY:=lh hD;rw[hD] at HD rh;clear jg HC Sh hDl hD;generalize wr=wa at *
    go_loopw [14,71] (fun c14 c71 wx=>∃ k:Nat,k<=N/\c71=.int .i64 k/\ag [] wa wx/\∃ P:Nat,c14=.int .i64 (P:Nat)/\P=Plain.iV D k/\P<=mn) (fun _ c _=>N - (intOf c).toNat)
    case atStart=>exact⟨0,QC _,rfl,ag.refl _ _,1,rfl,rfl,HMN.out.1⟩
    case round =>
     obtain⟨k,hk,rfl,qU,P,rfl,hP,hPm⟩:=hrel;have kV:=lh qU;clear qU;have HP1:=lh hP;clear hP;by_cases ZZ:k<N
     ·obtain⟨row,aJ⟩:∃ row,D.getD k []=row:=⟨_,rfl⟩
      have bt:=lh aJ;have hr:=(HD.out.fresh kV.out).row (k:=k) (l:=row) (by rw[Qn,<-aJ];simp[Qa,show k<D.length by rw[rh.out];exact ZZ]);obtain⟨u,hu⟩:∃ u,xs.getD k undef=u:=⟨_,rfl⟩;have cu:=(HD.out.fresh kV.out).cell (k:=k) (by rw[HXL.out];exact ZZ);rw[hu] at hr cu;obtain⟨ro,rc,rfl⟩:=hr.shape;have ag7:(k:Int)<(N:Int):=by omega
      have yP:row.length<=2048:=by
       have h1:row=Plain.aF g p k:=by
        rw[<-aJ,<-GY.out];have:=Plain.mX (g:=g) (b:=p) (N:=N) (v:=(k:Int)) (by omega) ag7;rwa[Int.toNat_natCast] at this
       rw[h1];refine Qj (Qv _ _) ?_;rw[Plain.bL];omega
      clear aJ hu hr
      go_wp2_with fail
      generalize wr=wb at *
      go_loopw [14,17] (fun c14 c17 wx=>∃ n:Nat,2<=n/\(n<=row.length\/n=2)/\c17=.int .i64 n/\ag [] wb wx/\∃ P2:Nat,c14=.int .i64 (P2:Nat)/\P2=P*Plain.fact (n - 1)/\P2<=mn) (fun _ c _=>row.length - (intOf c).toNat)
      case atStart=>exact⟨2,Qo _,Qw rfl,rfl,ag.refl _ _,P,rfl,(Nat.mul_one P).symm,hPm⟩
      case round =>
       obtain⟨n,iI,hn3,rfl,GQ,P2,rfl,hP2,ag2⟩:=hrel;have Vg:=lh GQ;clear GQ;have pZ:=lh hP2;clear hP2;by_cases BX:n<row.length
       ·obtain⟨P3,hP3⟩:∃ P3,P2*n=P3:=⟨_,rfl⟩
        have HP3:=lh (show P3=P*Plain.fact n by
         rw[<-hP3,pZ.out,Nat.mul_assoc]
         congr 1
         obtain⟨m,rfl⟩:∃ m,n=m+1:=⟨n - 1,by omega⟩;show Plain.fact m*(m+1)=(m+1)*Plain.fact m;rw[Nat.mul_comm])
        have atZ:P3<=5000*2048:=by rw[<-hP3];exact QZ (by omega) (by omega)
        have wm:IntKind.i64.wrap ((P2:Int)*(n:Int))=(P3:Int):=by
         rw[<-Int.natCast_mul,hP3];exact IntWalk.i64_in _ (by omega)
        have hni:(n:Int)<(row.length:Int):=by omega
        clear hP3;by_cases hgt:mn<P3
        ·have U9:(mn:Int)<(P3:Int):=by omega
         have I7:=lh (show (17:Int)=Plain.fE g p mn by
          unfold Plain.fE;rw[if_neg (by simp[H0.out]),if_neg (by simp[tC.out]),if_neg (by omega),if_pos];rw[<-Plain.yh H0.out HN.out,GY.out];have:=Plain.Ng (D:=D) (most:=mn) (k:=k) (m:=n) (by rw[rh.out];exact ZZ) (by rw[bt.out];omega) (by rw[<-HP1.out,<-HP3.out];exact hgt);omega)
         go_wp2;refine⟨.tuple #[.slice none 0 0,.int .i64 17],by simp[results,Tryz.results28,go_sem],_,_,rfl,I7.out,fun _=>rfl,fun q=>absurd q (by decide),(HW.out.tr kV.out).tr Vg.out⟩
        have U9:¬ (mn:Int)<(P3:Int):=by omega
        go_wp2
        go_roundw
        case rel=>exact⟨n+1,by omega,Qq BX,by go_num,Vg.out,P3,rfl,by rw[Nat.add_sub_cancel];exact HP3.out,by omega⟩
        case measure=>simp[intOf];omega
       have hni:¬ (n:Int)<(row.length:Int):=by omega
       have HP4:=lh (show P2=Plain.iV D (k+1) by
        rw[Plain.lz (by rw[rh.out];exact ZZ),bt.out,pZ.out,HP1.out];rcases hn3 with q | q
        ·rw[show row.length=n by omega]
        subst q
        congr 1
        rcases Q3 row.length 2 with q2 | q2
        ·rw[show row.length - 1=0 by omega];rfl
        rw[show row.length=2 by omega])
       go_wp2
       go_roundw
       case rel=>exact⟨k+1,by omega,by go_num,kV.out.tr Vg.out,P2,rfl,HP4.out,ag2⟩
       case measure=>simp[intOf];omega
     have e:k=N:=by omega
     subst e;have Lo:¬ (k:Int)<(k:Int):=by omega
     have zI:=lh (show Plain.fH g p<=mn by rw[<-Plain.yh H0.out HN.out,GY.out,rh.out,<-HP1.out];exact hPm);clear hk ZZ;obtain⟨z0,z1,z2,z3,VF⟩:=dh.out _ (wv.out.tr kV.out);have z2n:=fun o=>bP z2 o;have Ui:=lh (HW.out.tr kV.out);have abG:=lh (wv.out.tr kV.out);have XI:=lh (show w.heap.size+2<=wr.heap.size from VF);clear z0 z1 z3 VF
     go_wp2_with fail
     refine (BQ (some ⟨ob,0,none⟩) ao k k p.v.length ac _).mono ?_;rintro e w5 ⟨rfl,hw5⟩;obtain⟨ox,FO⟩:∃ ox,wr.heap.size=ox:=⟨_,rfl⟩;have AA:(wr.alloc (.cells #[.slice none 0 0] 44)).heap.size=ox+1:=by rw[QV,FO]
     rw[AA];have ga:=lh (show ag [] wr w5 by rw[hw5];exact (((ag.refl [] wr).alloc _).alloc _).alloc _);have WL:=lh (show w5.heap.size=ox+3 by rw[hw5];simp[FO]);have kF:=lh (show w5.heap[ox]?=some (.cells #[.slice none 0 0] 44 (0,0)) by
      rw[hw5,<-FO];exact (((ag.refl [] _).alloc _).alloc _).hp (heap_alloc_new wr _))
     have cdb:w5.cell? ⟨ox+1,0,none⟩=some (.slice (some ⟨ob,0,none⟩) k k):=by
      rw[hw5,<-AA];exact bP ((cell_of_row _ _ 0 _ _ _ (heap_alloc_new _ _)).trans rfl) _
     have cvb:w5.cell? ⟨ox+2,0,none⟩=some (.slice ao p.v.length ac):=by
      rw[hw5];have:=heap_alloc_new ((wr.alloc (.cells #[.slice none 0 0] 44)).alloc (.cells #[.slice (some ⟨ob,0,none⟩) k k] 48)) (.cells #[.slice ao p.v.length ac] 25);rw[QV,AA] at this;exact (cell_of_row _ _ 0 _ _ _ this).trans rfl
     have Au:=lh (show adE w5 (ox+1) (ox+2) k p.v D ((QY (ox+3)).filter fun j=>decide (j≠ox)) from by
      have hms:∀ j,j<ox->j∈(QY (ox+3)).filter fun j=>decide (j≠ox):=fun j hj=>Qc.2 ⟨List.mem_range.2 (by omega),decide_eq_true (by omega)⟩;have hgn:=HN.out;have DM:=(Plain.fy.1 tC.out).2;have hN5:=(HD.out.fresh kV.out).fresh ga.out;refine⟨?_,⟨ob,0,k,cdb,hms ob ?_,fun v hv=>?_⟩,⟨List.mem_filter.2 ⟨List.mem_range.2 (by omega),decide_eq_true (by omega)⟩,Qc.2 ⟨List.mem_range.2 (by omega),decide_eq_true (by omega)⟩⟩,fun j hj=>?_,fun v hv=>?_⟩
      ·obtain⟨v1,v2,e,h1,-⟩:=HP.out
       cases e;obtain⟨b,off,rfl,qJ⟩:=Bq.out (Plain.AT H0.out DM);refine⟨_,_,cvb,h1.fresh (Ui.out.tr ga.out),fun j hj=>hms j ?_⟩;have:j=b:=by simpa[iN,Qp] using hj
       have h3:b<w.heap.size:=World.block_lt_of_cell? _ _ (qJ 0 (List.length_pos_iff.2 (Plain.AT H0.out DM)));have h4:=Ui.out.size;omega
      ·have:=((HD.out.fresh kV.out).out.lt ob rfl).2
       omega
      ·have Fb:=nN.out.vr v hv
       have tq:v.toNat<xs.length:=by rw[HXL.out];omega
       have aJ:=(HD.out.fresh kV.out).row (k:=v.toNat) (l:=D.getD v.toNat []) (by rw[Qn];simp[Qa,show v.toNat<D.length by rw[rh.out];omega]);refine⟨xs.getD v.toNat undef,by rw[Nat.zero_add];exact hN5.cell tq,⟨aJ.ints.fresh ga.out,gV.row aJ⟩,fun j hj=>hms j ?_⟩;have:=(aJ.low j hj).2;omega
      ·have:=Qg.1 (Qc.1 hj).1
       rw[WL.out];omega
      have Fb:=nN.out.vr v hv;have e1:D.getD v.toNat []=Plain.aF g p v:=by
       rw[<-GY.out];exact Plain.mX Fb.1 (by omega)
      obtain⟨d,X2,sZ⟩:=((Plain.yR nN.out).2 DM).2 v hv;have hf:=Plain.yY (D:=D) (k:=v.toNat) (by rw[rh.out];omega);rw[rh.out,<-HP1.out] at hf;have h7:=Plain.AO (Qj hf (by omega:P<=5000));refine⟨Fb.1,by omega,?_,by omega⟩;rw[e1];exact QJ (Qc.2 ⟨X2,decide_eq_true sZ⟩))
     have Lg:=lh FO;clear hw5 AA FO cdb cvb z2 z2n;go_wp2;refine (wpIn_wide (n:=9)).1 ?_;refine qT (xs:=Plain.wD D p.v (Qe k [])) (Rd:=cf) (z:=True) rfl (enters_of Tryz.func114 (by kernel_rfl) rfl)
      (uQ Au.out (by omega) (by omega)) (fun W W' v x own h hc ho=>h.stays hc ho)
      (fun j C5 W5=>KR w.heap.size ox w5 (((Plain.wD D p.v (Qe k [])).take j).filter fun t=>decide (Plain.df g p t=0)) C5 W5) [ox]
      ⟨?ab1,?ab2⟩ ?h0 ?hms ?a1 ?assign ?body ?done
     case assign =>
      intro l' W5 K v hK
      gi_wp2
      exact hK
     case ab1 =>
      intro j C5 own W5 W6 h hc ho;exact h.stays hc fun i hi=>⟨(ho i hi).1,(ho i hi).2.imp id fun q=>q.2⟩
     case ab2 =>
      rintro j C5 W5 ⟨ov,ms,Cr,-,-,-,-,-,-,-,h7,-⟩;exact h7
     case h0 =>
      refine⟨.slice none 0 0,[],[],rfl,kF.out,World.ownsRow_nil _ _ _ _,rfl,fun i hi=>absurd hi (by simp),by simp[Qp],by simp[Qp],fun j hj=>?_,ag.refl _ _,by simp[Qp]⟩;have:j=ox:=by simpa[Qp] using hj
      rw[this,WL.out];omega
     case hms =>
      intro j hj;obtain⟨h1,h2⟩:=Qc.1 hj;have h1:=Qg.1 h1;have h2:j≠ox:=of_decide_eq_true h2;exact⟨by simpa using h2,by rw[WL.out];omega⟩
     case body =>
      intro l' j C5 W5 v x' hl hlC hI hx hr hv;have HI:=lh hI;have HX:=lh hx;have HR:=lh hr;obtain⟨ov,ms0,Cr,rfl,h1,h2,-,-,h5,-,h7,h8,-⟩:=id hI;have af4:w1.heap.size<=ox:=by have:=abG.out.size;have:=Lg.out;omega
      have C15:=lh (show ag [] w1 W5 from (abG.out.tr ga.out).trans h8 fun i hi=>Qw (by rw[Qb.1 hi];exact af4));have CW5:=lh (show ag [] w W5 from (Ui.out.tr ga.out).trans h8 fun i hi=>Qw (by rw[Qb.1 hi];have:=XI.out;have:=Lg.out;omega));obtain⟨x0,x1,y0,y1,-⟩:=dh.out _ C15.out;have P0:=Plain.A8 (M:=8) (fun v hv=>by
       obtain⟨-,-,h3,-⟩:=Au.out.ok v hv;refine⟨List.length_pos_iff.1 h3,?_⟩;have Fb:=nN.out.vr v hv;have hgn:=HN.out;have hf:=Plain.yY (D:=D) (k:=v.toNat) (by rw[rh.out];omega);rw[rh.out,<-HP1.out] at hf;have h7:=Plain.AO (Qj hf (by omega:P<=5000));omega) (fun i=>by
       by_cases q:i<k
       ·simp[Qa,q]
       simp[Qa,q]) (List.mem_of_getElem? hx)
      have RP:x'.length=k:=by rw[P0.1,List.length_replicate]
      have HS:=lh (show Plain.bU x' x'.length<2147483648 from Qs (Plain.rJ P0.2 _) (by rw[RP];omega));have DD:=lh RP;have ki:=lh P0.2;have ajo:=lh h1;have HBW:=lh (show w.heap.size<=W5.heap.size from CW5.out.size);have Ko:=lh (show w5.heap.size<=W5.heap.size from h8.size);have HLL:=lh (show (((Plain.wD D p.v (Qe k [])).take j).filter fun t=>decide (Plain.df g p t=0)).length<68719476736 from by
       refine Qs (Qv _ _) (Qs (List.length_take_le' _ _) ?_);rw[<-GY.out,Plain.CZ H0.out HN.out,QK,QR];have:=zI.out;omega)
      obtain⟨vo,vc,rfl,-⟩:=id hr;have cx:=(cell_of_row _ _ 0 _ _ _ h1).trans (show _=some ov from rfl);obtain⟨oo,oc,rfl⟩:=bk h2;have atQ:=lh (show W5.cell? ⟨wr.heap.size,0,none⟩=some (.slice oo ms0.length oc) by rw[Lg.out];exact cx);rw[RP];clear hI hx hr hl hlC hv h5 h7 h8 P0 RP h1 h2
      gi_wp2
      refine⟨trivial,?_⟩;refine (CallsIn.inRound l' (callsIn_wide.2 (sj _ _ _ g p x' W5 (by omega) (by omega) (by rw[DD.out];omega) HS.out (HG.out.fresh CW5.out) (HP.out.fresh CW5.out) (by have:=HR.out;rwa[DD.out] at this)))).mono ?_;rintro e W6 ⟨rfl,hc6⟩;have ky:=lh hc6;have cx6:=hc6.dp cx;rw[<-Lg.out] at cx6;clear hc6 x0 x1 y0 y1 cx;by_cases hq:Plain.df g p x'=0
      ·rw[decide_eq_true hq]
       have HQ:=lh hq;have Sc:Tryz.prog.follows .mixedOrders=true:=by kernel_rfl
       clear hq;have HXS:=lh (show ∀ l∈x',l.length<=1000000000 from fun l hl=>by
        obtain⟨i,hi,e⟩:=QP hl;have:=ki.out i;rw[show x'.getD i []=l by simp[Qa,hi,e]] at this;omega)
       gi_wp2_with fail
       have aW:ag [] W6 W6.drew:=(ag.refl [] W6).drew;refine sP (ag [] W6) [0,1] (Way.line [0,1,2,3,4,5] .done) Sc (by kernel_rfl) (by simp) (fun ⟨_,_,h⟩=>by cases h.1) ?_;simp only[Way.line]
       repeat
        first
         | (refine dA rfl (by rfl) (by rfl) (fun _ _ _ h=>h) aW ?_;simp only[Qd,Z1,Z2,Z3,Z4,Z5,Z6])
         | (refine ai (v:=?_) rfl (by rfl) (by rfl) (fun _ _ _ h=>h) aW (fun w' aI=>?_) ?_;rotate_left;(focus (have gB:=aI.c cx6;clear aI;go_simp;try with_reducible rfl));simp only[Qd,Z1,Z2,Z3,Z4,Z5,Z6])
         | (refine cV rfl (by rfl) (by rfl) aW ?_;simp only[Qd,Z1,Z2,Z3,Z4,Z5,Z6])
       refine au rfl (by rfl) (by rfl) (fun K hK=>?_);go_simp;refine (Fz vo vc k x' _ DD.out (by omega) HXS.out (by have:=HR.out;rw[DD.out] at this;exact this.fresh ky.out.drew)).mono ?_;rintro e w7 ⟨cb,vs7,rfl,OK,hc7⟩;have C7:=lh (show ag [] W5 w7 from ky.out.drew.tr hc7);obtain⟨g8,asT,w8,Pq,c8,f8,hG8⟩:=HI.out.run (cb:=cb) (k:=k) (vs:=vs7) (M:=x') ajo.out HBW.out Ko.out C7.out (OK.base ky.out.size) HLL.out;rw[<-Lg.out] at c8 f8;have HG8:=lh hG8;have HR8:=lh Pq;have HS7:=lh (aW.tr hc7);refine hK.out _ _ (fun _=>aW.tr hc7) ?_;clear hK K OK hG8 Pq
       try simp only[Qd,Z1,Z2,Z3,Z4,Z5,Z6]
       refine au rfl (by rfl) (by rfl) (fun K hK=>?_);go_simp;refine hK.out _ _ (fun _=>HS7.out.alloc _) ?_;clear hK K
       try simp only[Qd,Z1,Z2,Z3,Z4,Z5,Z6]
       refine au rfl (by rfl) (by rfl) (fun K hK=>?_);simp only[List.getElem_toArray,List.getElem_cons_zero,List.getElem_cons_succ];refine kS (.tmp 97) (.tmp 100) 44 rfl rfl rfl HR8.out ?_;refine hK.out _ _ (fun h=>absurd h (QS.1 (by kernel_rfl))) ?_;clear hK K
       try simp only[Qd,Z1,Z2,Z3,Z4,Z5,Z6]
       refine au rfl (by rfl) (by rfl) (fun K hK=>?_);go_simp;refine hK.out _ _ (fun h=>absurd h (QS.1 (by kernel_rfl))) ?_;clear hK K
       try simp only[Qd,Z1,Z2,Z3,Z4,Z5,Z6]
       refine aC ?_;refine⟨rfl,?_⟩;have h1:(((Plain.wD D p.v (Qe k [])).take (j+1)).filter fun t=>decide (Plain.df g p t=0))=(((Plain.wD D p.v (Qe k [])).take j).filter fun t=>decide (Plain.df g p t=0))++[x']:=by
        rw[yL HX.out,if_pos (by simpa using HQ.out)]
       rw[h1,Lg.out];exact HG8.out
      rw[decide_eq_false hq];have HQ:=lh hq;clear hq
      gi_wp2
      have h1:(((Plain.wD D p.v (Qe k [])).take (j+1)).filter fun t=>decide (Plain.df g p t=0))=((Plain.wD D p.v (Qe k [])).take j).filter fun t=>decide (Plain.df g p t=0):=by
       rw[yL HX.out,if_neg (by simpa using HQ.out),List.append_nil]
      rw[h1];exact⟨_,HI.out.stays ky.out (by simp),ky.out.mono (by simp),fun i hi=>Qq hi⟩
     case done =>
      intro D5 C5 W5 hD YA hI hK;obtain⟨ov,ms0,h1,h2,h3⟩:=hI.lists;obtain⟨oo,oc,rfl⟩:=h2.shape;have cx:=(cell_of_row _ _ 0 _ _ _ h1).trans (show _=some (QB oo _ oc) from rfl);rw[<-Lg.out] at cx;have e1:(((Plain.wD D p.v (Qe k [])).take (Plain.wD D p.v (Qe k [])).length).filter fun t=>decide (Plain.df g p t=0))=Plain.l7 g p:=by
       rw[QF,<-GY.out,Plain.CZ H0.out HN.out];rfl
      rw[e1] at h2 cx;have H2:=lh h2;have HDW:=lh hD;have YZ:=lh hK;have I7:=lh (show (0:Int)=Plain.fE g p mn by
       unfold Plain.fE;rw[if_neg (by simp[H0.out]),if_neg (by simp[tC.out]),if_neg (by omega),if_neg (by have:=zI.out;omega)])
      have qh:=lh (show ag [] w W5 from (Ui.out.tr ga.out).trans h3 fun i hi=>Qw (by rw[Qb.1 hi];have:=XI.out;have:=Lg.out;omega));have U':=lh (show w.heap.size<=D5 from by have:=qh.out.size;have:=(Ui.out.tr ga.out).size;omega);clear h1 h2 h3 hI hD YA hK e1;go_wp2;refine jh (ds:=[D5]) (by simp) (by simpa using YZ.out) fun W' G5=>?_;refine⟨.tuple #[.slice oo (Plain.l7 g p).length oc,.int .i64 0],by simp[results,Tryz.results28,go_sem],_,_,rfl,I7.out,fun q=>absurd rfl q,fun _=>⟨ms0,H2.out.LG G5 (fun b hb q=>?_) fun i hi=>?_⟩,qh.out.trans G5 fun i hi=>Qw (by rw[Qb.1 hi];exact U'.out)⟩
      ·obtain⟨cs,r,e⟩:=bE H2.out.out hb
       rw[Qb.1 q,YZ.out] at e;cases e
      rw[Qb.1 hi];constructor
      all_goals (rintro ⟨cs,r,e⟩;rw[YZ.out] at e;cases e)
 have jg:=lh h0;obtain⟨er,mf⟩:∃ er,p.err g=er:=⟨_,rfl⟩;have I7:=lh (show er=Plain.fE g p most by unfold Plain.fE;rw[if_pos h0,mf]);rw[mf] at h0 ⊢;have hb:(er != 0)=true:=by simpa using h0
 have ff:¬ er=0:=h0;clear jg mf;go_wp2;refine⟨.tuple #[.slice none 0 0,.int .i64 er],by simp[results,Tryz.results28,go_sem],_,_,rfl,I7.out,fun _=>rfl,fun q=>absurd q h0,cB.out⟩
end
end Go.Proofs.YtoiflofhcmjpoaaGreat
namespace Go.Proofs.YtoiflofhcmjpoaaGreat.Plain
theorem nU:∀ {n:Nat} {l:List Int},l.length=n+1->l.Nodup->(dR n l).Nodup
 | 0,l,_,_=>by simp[dR]
 | n+1,l,hl,hn=>by
  obtain⟨a,r,rfl⟩:∃ a r,l=a :: r:=by
   cases l with
   | nil=>simp at hl
   | cons a r=>exact⟨a,r,rfl⟩
  have hr:r.length=n+1:=by simpa using hl
  have hrn:=(List.nodup_cons.1 hn).2;have hlen:∀ {j},j<n+1->(r.getD j 0 :: r.eraseIdx j).length=n+1:=fun {j} hj=>by rw[QU,List.length_eraseIdx,if_pos (by omega)];omega
  rw[dR];refine List.pairwise_flatMap.2 ⟨fun j hj=>?_,?_⟩
  ·have hj:=Qg.1 hj
   refine QT.2 ((nU (hlen hj) ((oT (by omega)).nodup_iff.2 hrn)).imp fun h q=>h ?_);exact (Q2.inj q).2
  refine QE.imp_of_mem (fun {i j} hi hj DC x hx y hy q=>DC ?_) QG;have hi:=Qg.1 hi;have hj:=Qg.1 hj;obtain⟨x',OX,rfl⟩:=Qt.1 hx;obtain⟨y',hy',rfl⟩:=Qt.1 hy;have h1:x'.getD 0 0=r.getD i 0:=((iA (hlen hi)).1 OX).2;have h2:y'.getD 0 0=r.getD j 0:=((iA (hlen hj)).1 hy').2;rw[(Q2.inj q).2,h2] at h1;have e1:r.getD i 0=r[i]:=by simp[Qa,show i<r.length by omega]
  have e2:r.getD j 0=r[j]:=by simp[Qa,show j<r.length by omega]
  rw[e1,e2] at h1;exact (QD (show i<r.length by omega) hrn).1 (by rw[Ql (show i<r.length by omega),Ql (show j<r.length by omega),h1])
theorem xR:∀ {R:List (List (List Int))} {n m:Nat},(∀ L∈R,L.Nodup)->n<dq R->m<dq R->dZ R n=dZ R m->n=m
 | [],n,m,_,hn,hm,_=>by unfold dq at hn hm;omega
 | L :: R,n,m,hN,hn,hm,e=>by
  have hn:n<L.length*dq R:=hn;have hm:m<L.length*dq R:=hm;have hL:0<L.length:=Nat.pos_of_ne_zero fun q=>by rw[q] at hn;omega
  obtain⟨e1,e2⟩:=Q2.inj (show L.getD (n % L.length) [] :: dZ R (n / L.length)=L.getD (m % L.length) [] :: dZ R (m / L.length) from e);have h1:=Nat.mod_lt n hL;have h2:=Nat.mod_lt m hL;have h3:=xR (fun K hK=>hN K (Qk _ hK)) (QL hn) (QL hm) e2;have h4:n % L.length=m % L.length:=(QD h1 (hN L List.mem_cons_self)).1 (by simpa[Qa,h1,h2] using e1);rw[<-QX n L.length,<-QX m L.length,h3,h4]
theorem oA:∀ {R:List (List (List Int))} {n:Nat},(dZ R n).length=R.length
 | [],_=>rfl
 | L :: R,n=>congrArg (·+1) (oA (R:=R) (n:=n / L.length))
theorem MQ {g:Gr} {b:Pt} (hb:b.err g=0) (hV:∀ v∈b.v,∃ d∈b.ah,g.tail d=v) {n m:Nat} (hn:n<fH g b) (hm:m<fH g b) (e:DY g b n=DY g b m):n=m:=by
 have iM:=Pt.ay hb;have N5:=(Gr.aA (Pt.aA hb).1).1;refine xR (fun L hL=>?_) hn hm (List.reverse_inj.1 (List.ext_getElem (by simp only[QQ,oA]) fun i h1 h2=>?_))
 ·rw[List.mem_reverse] at hL
  obtain⟨v,hv,rfl⟩:=Qt.1 hL;obtain⟨d,hd,XZ⟩:=hV v hv;have:0<(aF g b v).length:=QJ (bg.2 ⟨hd,XZ⟩);exact nU (by omega) (eS iM.en v)
 have hi:i<b.v.length:=by simpa[oA] using h1
 obtain⟨h0,h3⟩:=iM.vr _ (QW hi);obtain⟨k,hk⟩:∃ k:Nat,b.v[i]=k:=⟨b.v[i].toNat,by omega⟩;have Te:k<g.n.toNat:=by omega
 have:=congrArg (fun t=>t.getD k []) e;unfold DY oS at this;have hkm:(k:Int)∈b.v:=hk ▸ QW hi;have qN:b.v.idxOf (k:Int)=i:=by rw[<-hk];exact List.Nodup.idxOf_getElem iM.vn i hi
 simp only[Qa,Qn,QN Te,Option.map_some,Option.getD_some,hkm,if_true,qN] at this;rw[Ql (by simpa using h1),Ql (by simpa using h2)] at this;exact this
theorem BU {g:Gr} {b:Pt} (hb:b.err g=0) (hS:cQ g b):(l7 g b).Nodup:=by
 refine QE.filter _ (QT.2 (QE.imp_of_mem (fun {i j} hi hj DC q=>DC ?_) QG));exact MQ hb hS.2 (Qg.1 hi) (Qg.1 hj) q
theorem Kj {g:Gr} {p:Pt} {aa:List (List Int)} (dm:p.err g=0) (ht:aR g p aa) (hS:cQ g p) {r:Int} (hr:r∈roots g p):de g p (cJ g p (bY aa)) r=de g p (cJ g p aa) r:=by
 have h:=Pt.ay dm;have all:∀ {T},aR g p T->((cJ g p T).filter fun f=>decide (f.bV g∈comp g p r)).length=(cJ g p T).length:=fun {T} hT=>by
  rw[List.filter_eq_self.2 fun f hf=>?_];have hc:=ly h (mU dm hT).ak f hf;exact decide_eq_true (cE.2 ⟨hc,Fv h hS _ (ep.1 hr).1 _ hc⟩)
 unfold de;rw[all (jt ht),all ht,J2 dm ht]
theorem Oy {g:Gr} {p:Pt} {aa:List (List Int)} (hS:cQ g p) (hz:df g p aa=0):df g p (bY aa)=0:=by
 obtain⟨hte,wF⟩:=gC hz;obtain⟨dm,vx⟩:=dQ hte;refine uC ?_ fun r hr=>by rw[Kj dm vx hS hr];exact wF r hr
 unfold bB;rw[if_neg (by simp[dm]),if_pos (jt vx)]
theorem JZ {g:Gr} {b:Pt} {t:List (List Int)} (hb:b.err g=0) (hS:cQ g b) (h:t∈l7 g b):bY t∈l7 g b:=by
 have hz:=of_decide_eq_true (Qc.1 h).2;have hm:=Oy hS hz;obtain⟨n,h1,h2⟩:=Oj hb (dQ (gC hm).1).2 hS.2;have e:(bY t).map first=bY t:=by
  unfold bY;rw[Qx];exact QO fun l _=>CF _
 rw[e] at h2;exact Qc.2 ⟨List.mem_map.2 ⟨n,Qg.2 h1,h2⟩,decide_eq_true hm⟩
theorem DN {g:Gr} {b:Pt} {t:List (List Int)} (h:t∈l7 g b):t.length<=1024/\∀ i,(t.getD i []).length<=2*b.e.length:=by
 obtain⟨hb,vx⟩:=dQ (gC (of_decide_eq_true (Qc.1 h).2)).1;have hn:=(Gr.aA (Pt.aA hb).1).2.1;have hl:=vx.len;refine⟨by omega,fun i=>?_⟩;by_cases q:i<t.length
 ·rw[<-bL]
  exact AI (vx.nodup i) fun d hd=>((vx.mem i (by omega) (by omega) d).1 hd).1
 simp[Qa,q]
end Go.Proofs.YtoiflofhcmjpoaaGreat.Plain
namespace Go.Proofs.YtoiflofhcmjpoaaGreat
open Go.RowKit Go.Maps
theorem gN.adi {w:World} {B n c:Nat} {ao:Option Addr} {ms:List Value} {LL:List (List (List Int))} (h:gN w B (.slice ao n c) ms LL) (h0:0<LL.length):∃ g,ao=.some ⟨g,0,none⟩:=by
 have hl:=h.len;rcases h.out.2 with ⟨-,q⟩ | ⟨g,cap,cur,q,-⟩
 ·omega
 simp only[QB.injEq] at q;exact⟨g,q.1⟩
theorem Plain.uh {T:List Int} {n:Nat} (h:n<T.length):(T.drop n).reverse=(T.drop (n+1)).reverse++[T.getD n 0]:=by
 rw[List.drop_eq_getElem_cons h,List.reverse_cons];simp[Qa,h]
theorem Plain.zk {g:Plain.Gr} {p:Plain.Pt} {most:Int} (h:Plain.fE g p most=0):p.err g=0/\Plain.cQ g p/\(Plain.fH g p:Int)<=most:=by
 unfold Plain.fE at h;by_cases h1:p.err g=0
 ·rw[if_neg (by simp[h1])] at h
  by_cases h2:Plain.iw g p=false
  ·rw[if_pos h2] at h;cases h
  rw[if_neg h2] at h;by_cases h3:most<1\/5000<most
  ·rw[if_pos h3] at h;cases h
  rw[if_neg h3] at h;by_cases h4:most<Plain.fH g p
  ·rw[if_pos h4] at h;cases h
  exact⟨h1,(Plain.fy.1 (by simpa using h2)).2,by omega⟩
 rw[if_pos h1] at h;exact absurd h h1
set_option maxRecDepth 100000 in
set_option maxHeartbeats 8000000 in
theorem y7 (vg vp:Value) (g:Plain.Gr) (p:Plain.Pt) (w:World) (hg:dJ w vg g) (hp:fL w vp p) :
  Calls Tryz.prog 6 #[vg,vp] w fun e w'=>e=.returned (.bool true)/\ag [] w w':=by
 obtain⟨eo,cap,ao,ac,bo,bc,rfl,rfl,HG,HP,hm,DA,sQ,Bq,uE,S4,Ko,b8,dh⟩:=lN hg hp;clear hg hp
 go_enter Tryz.func6,Tryz.ntmps6
 go_wp2_with fail
 refine (rZ _).mono ?_;rintro e w2 ⟨rfl,bA⟩;obtain⟨x0,x1,y0,y1,dj⟩:=dh.out w2 bA;have cB:=lh (b8.out.t bA);have LP:=lh bA;clear bA
 go_wp2_with fail
 refine (BJ _ _ g p _ (HG.out.fresh cB.out) (HP.out.fresh cB.out)).mono ?_;rintro e w3 ⟨rfl,cT⟩;have cU:=lh (cB.out.t cT);have sY:=lh (LP.out.t cT);clear x0 x1 y0 y1 dj cT;cases hb:Plain.pR g p with
 | false =>
  clear hb
  go_wp2_with fail
  refine (rZ _).mono ?_;rintro e w4 ⟨rfl,gR⟩;have iO:=lh (cU.out.t gR);clear gR;go_wp2;go_ret;exact⟨rfl,iO.out⟩
 | true =>
  obtain⟨b1,b2,b3⟩:=Plain.Eu hb;have wB:p.v.length<=100000:=by omega
  have qM:p.e.length<=100000:=by omega
  have ag8:p.v.length<=1000:=by omega
  obtain⟨x0,x1,y0,y1,dj⟩:=dh.out w3 sY.out;clear hb
  go_wp2_with fail
  refine (IM _ _ g p 200 _ ag8 (aU.mk (by decide) (by decide)) (HG.out.fresh cU.out) (HP.out.fresh cU.out)).mono ?_;rintro e w4 ⟨v,err,rfl,mf,Ca,hls,gR⟩;have iO:=lh (cU.out.t gR);have abV:=lh (sY.out.t gR);have VO:=lh (show w3.heap.size<=w4.heap.size from gR.size);clear x0 x1 y0 y1 dj gR;obtain⟨x0,x1,y0,y1,dj⟩:=dh.out w4 abV.out;by_cases h0:err=0
  ·subst h0
   obtain⟨ms,hl⟩:=hls rfl;have HL:=lh hl;obtain⟨h1,h2,h3⟩:=Plain.zk mf.symm;have pj:=lh (fun (t:List (List Int)) (h:t∈Plain.l7 g p)=>Plain.DN h);have HND:=lh (Plain.BU h1 h2);have Yn:=lh (fun (t:List (List Int)) (h:t∈Plain.l7 g p)=>Plain.JZ h1 h2 h);have G9:=lh (fun (t:List (List Int)) (h:t∈Plain.l7 g p)=>of_decide_eq_true (Qc.1 h).2);have hn:(Plain.l7 g p).length<=200:=by
    refine Qj (Qv _ _) ?_;rw[QK,QR];omega
   obtain⟨vo,vc,rfl⟩:=hl.shape;obtain⟨LL,VN⟩:∃ LL,Plain.l7 g p=LL:=⟨_,rfl⟩;rw[VN] at pj HND Yn G9 hn HL ⊢;obtain⟨ln,qG⟩:∃ ln,LL.length=ln:=⟨_,rfl⟩;have zV:=lh qG;rw[qG] at hn HL ⊢;clear hls Ca mf hl h1 h2 h3 VN qG;go_wp2
   go_loopw [7] (fun c wr=>∃ i:Nat,i<=ln/\c=.int .i64 i/\ag [] w4 wr) (fun c _=>ln - (intOf c).toNat)
   case atStart=>exact⟨0,QC _,rfl,ag.refl _ _⟩
   case round =>
    obtain⟨i,hi,rfl,vN⟩:=hrel;have j9:=lh vN;have J':=lh (iO.out.tr vN);obtain⟨x0,x1,y0,y1,dj⟩:=dh.out wr (abV.out.tr vN);clear vN;by_cases aL:i<ln
    ·have VJ:(i:Int)<(ln:Int):=by omega
     have Z7:=aL;obtain⟨gv,rfl⟩:=HL.out.adi (by rw[zV.out];omega);have hLr:=HL.out.fresh j9.out;obtain⟨vs,hv⟩:=hLr.rows i (by rw[hLr.len,zV.out];exact aL);have c1:=hLr.cell (k:=i) (by rw[hLr.len,zV.out];exact aL);have cL:LL.getD i []∈LL:=by simp[Qa,zV.out,aL]
     obtain⟨DK,hTR⟩:=pj.out _ cL;have Br:=lh (Yn.out _ cL);have wF:=G9.out _ cL;obtain⟨a1,h1⟩:∃ a,ms.getD i undef=a:=⟨_,rfl⟩;rw[h1] at hv c1;obtain⟨o1,k1,rfl⟩:=hv.shape;obtain⟨T,hT⟩:∃ T,LL.getD i []=T:=⟨_,rfl⟩;have HTE:=lh hT;rw[hT] at hv c1 DK hTR Br wF;have RV:=lh hv.read;have HV:=lh hv;have hSL:Plain.bU T T.length<2147483648:=Qs (Plain.rJ hTR _) (by
      have:T.length*(2*p.e.length)<=1024*48:=QZ DK (by omega);omega)
     have rn:=lh hSL;have Sa:=lh (fun j=>Qj (hTR j) (show 2*p.e.length<=48 by omega));have HF:=lh wF;clear hLr hv h1 hT cL hTR hSL wF
     go_wp2_with fail
     have aW:ag [] wr wr.drew:=(ag.refl [] wr).drew;refine ar (ag [] wr) [0,1,2,3,4,5,7] (Way.line [0,1,2,3,4,5,6,7] .done) (by kernel_rfl) (by kernel_rfl) ?_;simp only[Way.line]
     repeat
      first
       | (refine dA rfl (by rfl) (by rfl) (fun _ _ _ h=>h) aW ?_;simp only[Qd,Z1,Z2,Z3,Z4,Z5,Z6])
       | (refine ai (v:=?_) rfl (by rfl) (by rfl) (fun _ _ _ h=>h) aW (fun w' aI=>?_) ?_;rotate_left;(focus (have gB:=aI.c c1;have gQ:=aI.c x0;have np:=aI.c x1;have Hg:=aI.c y0;have rd4:=aI.c y1;clear aI;go_simp;try with_reducible rfl));simp only[Qd,Z1,Z2,Z3,Z4,Z5,Z6])
       | (refine cV rfl (by rfl) (by rfl) aW ?_;simp only[Qd,Z1,Z2,Z3,Z4,Z5,Z6])
     refine au rfl (by rfl) (by rfl) (fun K hK=>?_);go_simp;refine (sj _ _ _ g p T _ qM wB (by omega) rn.out (HG.out.fresh (J'.out.tr aW)) (HP.out.fresh (J'.out.tr aW)) (RV.out.fresh aW)).mono ?_;rw[HF.out,show decide ((0:Int)=0)=true from rfl];rintro e w5 ⟨rfl,eO⟩;have bF:ag [] wr w5:=aW.tr eO;refine hK.out _ _ (fun _=>bF) ?_;clear hK K
     try simp only[Qd,Z1,Z2,Z3,Z4,Z5,Z6]
     repeat
      first
       | (refine dA rfl (by rfl) (by rfl) (fun _ _ _ h=>h) bF ?_;simp only[Qd,Z1,Z2,Z3,Z4,Z5,Z6])
       | (refine ai (v:=?_) rfl (by rfl) (by rfl) (fun _ _ _ h=>h) bF (fun w' aI=>?_) ?_;rotate_left;(focus (skip;clear aI;go_simp;try with_reducible rfl));simp only[Qd,Z1,Z2,Z3,Z4,Z5,Z6])
       | (refine cV rfl (by rfl) (by rfl) bF ?_;simp only[Qd,Z1,Z2,Z3,Z4,Z5,Z6])
     refine aC ?_;have ga:=lh bF;have ahz:=lh (j9.out.tr bF);have C1:=lh (bF.c c1);have RV5:=lh (RV.out.fresh bF);clear aW bF eO c1 x0 x1 y0 y1 dj;go_wp2
     go_loopw [8,9] (fun ov c wa=>∃ (k:Nat) (us:List Value),k<=T.length/\c=.int .i64 k/\bj wa w5.heap.size ov us ((T.take k).map Qy)/\Hid (∀ l∈(T.take k).map Qy,(∀ x∈l,aU x)/\l.length<4294967296)/\ag [] w5 wa) (fun _ c _=>T.length - (intOf c).toNat)
     case atStart=>exact⟨0,[],QC _,rfl,by simpa using bj.nil _ _,lh (by simp),ag.refl _ _⟩
     case round =>
      rename World=>wa;obtain⟨k,us,hk,rfl,gG,dK,hc⟩:=hrel;have lQ:=lh gG;obtain⟨oo,oc,rfl⟩:=bk gG.out;have sM:us.length=k:=by rw[gG.len];simp;omega
      have HC:=lh hc;have c1:=hc.c C1.out;by_cases aL:k<T.length
      ·have nS:(k:Int)<(T.length:Int):=by omega
       obtain⟨tb,IB,u,rfl,mG,-,aJ⟩:=(RV5.out.fresh hc).adN aL;have Uf:=lh (Plain.ot (f:=Qy) aL);have RP:=Sa.out k;obtain⟨R,hR⟩:∃ R,T.getD k []=R:=⟨_,rfl⟩;rw[hR] at aJ Uf RP;have bt:=lh aJ;obtain⟨uo,uc,rfl,hI,-⟩:=aJ;have HTI:=lh hI;have Pb:=lh mG;have HB:=lh hc.size;have HVS:=lh sM;obtain⟨n0,N5⟩:∃ n,us.length=n:=⟨_,rfl⟩;have Ys:n0<1000000000:=by omega
       have HN:=lh N5;rw[N5];have wl:IntKind.i64.wrap ((R.length:Int) - 1)=(R.length:Int) - 1:=IntWalk.i64_in _ (by omega);have C1A:=lh c1;clear gG hc hR sM N5 hI;go_wp2;clear mG c1
       go_loopw [10,11] (fun lv c wi=>∃ m:Nat,m<=R.length/\c=.int .i64 ((m:Int) - 1)/\aj wi wa.heap.size lv (R.drop m).reverse/\ag [] wa wi) (fun _ c _=>(intOf c+1).toNat)
       case atStart=>exact⟨R.length,Qo _,by go_num,by rw[List.drop_length];exact eJ _ _,ag.refl _ _⟩
       case round =>
        rename World=>wi;obtain⟨m,hm,rfl,Yz,GU⟩:=hrel;have TG:=lh Yz;have Kf:=lh GU;have Uy:=lh (show wa.heap.size<=wi.heap.size from GU.size);obtain⟨lo,lc,rfl⟩:=Yz.shape;have WN:(R.drop m).reverse.length<=R.length:=by rw[QQ,List.length_drop];omega
        have c1:=GU.c C1A.out;clear Yz GU;by_cases h0:0<m
        ·obtain⟨n,rfl⟩:∃ n,m=n+1:=⟨m - 1,by omega⟩
         rw[show (((n+1:Nat):Int) - 1)=(n:Int) by omega];have LU:n<R.length:=by omega
         obtain⟨rb,iR,rfl,rc⟩:=al.cellAt bt.out LU;have cz:=Kf.out.c rc;have mG:=Kf.out.c Pb.out;have IX:aU (R.getD n 0):=HTI.out _ (Plain.aQ LU);have Gl:=lh (Plain.uh LU);have wm:IntKind.i64.wrap ((n:Int) - 1)=(n:Int) - 1:=IntWalk.i64_in _ (by omega);obtain⟨x,hx⟩:∃ x,R.getD n 0=x:=⟨_,rfl⟩;rw[hx] at cz IX Gl;obtain⟨M,hM⟩:∃ M,(R.drop (n+1)).reverse=M:=⟨_,rfl⟩;rw[hM] at Gl TG WN ⊢;have nI:M.length<4294967290:=by omega
         clear rc hx hM h0
         go_wp2_with (at_builtin;refine gA rfl _ _ rfl (B:=wa.heap.size) (v:=.slice lo _ lc) rfl rfl TG.out IX Uy.out nI rfl ?_;intro v6 w6 r6 c6 f6;have R6:=lh r6;have C6:=lh c6;clear r6 c6 f6)
         go_roundw
         case rel=>exact⟨n,by omega,rfl,by rw[Gl.out];exact R6.out,Kf.out.trans C6.out (fun j hj=>Qw (by rw[TG.out.aE] at hj;exact (TG.out.low j hj).1))⟩
         case measure=>simp[intOf]
        have e:m=0:=by omega
        subst e;rw[show (((0:Nat):Int) - 1) = -1 by omega];rw[List.drop_zero] at TG WN ⊢;obtain⟨M,hM⟩:∃ M,R.reverse=M:=⟨_,rfl⟩;rw[hM] at TG WN Uf ⊢;have Ai:=lh (lQ.out.aD Kf.out (by simp) (by simp));have HX:=lh (yU lQ.out);obtain⟨g5,q5,w6,pf,Ec,eO,-⟩:=Hb Ai.out (by have:=HB.out;have:=Uy.out;omega) TG.out HB.out HX.out (by have:=HN.out;omega) (Qq rfl) 48;rw[HN.out] at pf Ec eO;have WQ:=lh Ec;have ga:=lh ((HC.out.t Kf.out).trans eO (fun j hj=>Qw (by have:=Ai.out.out.lt j (by rw[HN.out];simpa using hj);exact this.1)));have WL:=lh (show ∀ l∈(T.take (k+1)).map Qy,(∀ x∈l,aU x)/\l.length<4294967296 from fun l hl=>by
         rw[Uf.out,Qi] at hl;rcases hl with q | q
         ·exact dK.out l q
         rw[Qb.1 q];exact TG.out.2)
        clear Ec eO hM h0
        go_wp2_with (at_builtin;refine eU rfl _ _ 48 rfl rfl rfl pf ?_)
        go_roundw
        case rel=>exact⟨k+1,_,by omega,by go_num,by rw[Uf.out];exact WQ.out,WL,ga.out⟩
        case measure=>simp[intOf];omega
      have e:k=T.length:=by omega
      subst e;have nS:¬ (T.length:Int)<(T.length:Int):=by omega
      rw[QF] at lQ dK;obtain⟨RT,MG⟩:∃ RT,T.map Qy=RT:=⟨_,rfl⟩;have Uv:RT.map Plain.first=Plain.bY T:=by
       rw[<-MG];unfold Plain.bY;rw[Qx];rfl
      have HLR:=lh (show RT.length=T.length by rw[<-MG,QK]);have ajB:=lh (fun i=>(show (RT.getD i []).length<1000000000 by
       have h:=Sa.out i;rw[<-MG];unfold Qa;rw[Qn]
       revert h
       unfold Qa;cases T[i]? <;> simp
       omega))
      rw[MG] at lQ dK;have Aj:=lh (lQ.out.read dK.out);have Dg:∀ l∈RT.map Plain.first,(∀ x∈l,aU x)/\l.length<4294967296:=fun l hl=>by
       obtain⟨r,hr,rfl⟩:=Qt.1 hl;exact⟨fun x hx=>(dK.out r hr).1 x ((Plain.cI r).mem_iff.1 hx),by rw[(Plain.cI r).length_eq];exact (dK.out r hr).2⟩
      rw[Uv] at Dg;clear gG hc MG;rw[sM] at Aj ⊢
      go_wp2_with fail
      refine (xy _ RT _ (by have:=HLR.out;omega) ajB.out Aj.out).mono ?_;rintro e w6 ⟨ov,vs2,rfl,xk,-,hc6⟩;rw[Uv] at xk;obtain⟨MT,hMT⟩:∃ MT,Plain.bY T=MT:=⟨_,rfl⟩;rw[hMT] at xk Dg Br;have RM:=lh (xk.read Dg);have ky:=lh (ahz.out.tr (HC.out.tr hc6));have Y9:=lh (HC.out.tr hc6);obtain⟨mo,mc,rfl⟩:=bk xk.out;obtain⟨ml,nI⟩:∃ ml,vs2.length=ml:=⟨_,rfl⟩;rw[nI] at RM ⊢;clear xk Dg hc6 Uv hMT nI sM c1;go_wp2
      go_loopw [12,13] (fun v c wk=>∃ (k:Nat) (fd:Bool),k<=ln/\c=.int .i64 k/\v=.bool fd/\Hid (fd=true↔∃ j,j<k/\LL.getD j []=MT)/\ag [] w6 wk) (fun _ c _=>ln - (intOf c).toNat)
      case atStart=>exact⟨0,false,QC _,rfl,rfl,lh (by simp),ag.refl _ _⟩
      case round =>
       rename World=>wk;obtain⟨k,fd,hk,rfl,rfl,hfd,Sg⟩:=hrel;have Jj:=lh Sg;have Zh:=lh (ky.out.tr Sg);clear Sg;by_cases l6:k<ln
       ·have ahx:(k:Int)<(ln:Int):=by omega
        have hLk:=HL.out.fresh Zh.out;obtain⟨vsk,hvk⟩:=hLk.rows k (by rw[hLk.len,zV.out];exact l6);have ck:=hLk.cell (k:=k) (by rw[hLk.len,zV.out];exact l6);have ci:wk.cell? ⟨gv,i,none⟩=some (.slice o1 T.length k1):=(Y9.out.tr Jj.out).c C1.out;obtain⟨a2,h2⟩:∃ a,ms.getD k undef=a:=⟨_,rfl⟩;rw[h2] at hvk ck;obtain⟨o2,k2,rfl⟩:=hvk.shape;obtain⟨T2,hT2⟩:∃ T2,LL.getD k []=T2:=⟨_,rfl⟩;have DF:=lh hT2;rw[hT2] at hvk ck;have RK:=lh hvk.read;have CK:=lh ck;have CI:=lh ci;clear hLk hvk h2 hT2 ck ci
        go_upto_region 26 with fail
        go_cut [12] (fun v wc=>∃ fd2:Bool,v=.bool fd2/\Hid (fd2=true↔∃ j,j<k+1/\LL.getD j []=MT)/\ag [] wk wc)
        case first =>
         cases fd with
         | true =>
          go_wp2
          go_meet
          case rel=>exact⟨true,rfl,lh ⟨fun _=>by
           obtain⟨j,h1,h2⟩:=hfd.out.1 (by trivial);exact⟨j,by omega,h2⟩,fun _=>rfl⟩,ag.refl _ _⟩
         | false =>
          have ck:=CK.out
          go_wp2_with fail
          refine (kC _ _ T2 MT _ RK.out (RM.out.fresh Jj.out)).mono ?_;rintro e w7 ⟨rfl,bF⟩;have Ly:=lh bF;have HN:=lh (show decide (T2=MT)=true↔∃ j,j<k+1/\LL.getD j []=MT from⟨fun h=>⟨k,by omega,by rw[DF.out];exact of_decide_eq_true h⟩,fun ⟨j,h1,h2⟩=>by
           by_cases q:j=k
           ·subst q;rw[DF.out] at h2;exact decide_eq_true h2
           have:=hfd.out.2 ⟨j,by omega,h2⟩;cases this⟩)
          obtain⟨b2,ff⟩:∃ b,decide (T2=MT)=b:=⟨_,rfl⟩;rw[ff] at HN ⊢;clear bF ck ff;go_wp2
          go_meet
          case rel=>exact⟨b2,rfl,HN,Ly.out⟩
        case rest =>
         obtain⟨fd2,rfl,V5,ka⟩:=hcut;have FC:=lh ka;have oh:=lh V5;clear ka V5;by_cases Wf:k=i
         ·subst Wf
          have kV:=lh (Jj.out.tr FC.out)
          go_wp2_with fail
          have aW:ag [] wc wc.drew:=(ag.refl [] wc).drew;refine ar (ag [] wc) [0,1,2,3,4,5,6,7,8,9,10,11,12,13] (Way.line [0,1,2,3,4,5,6,7,8,9,10,11,12,13] .done) (by kernel_rfl) (by kernel_rfl) ?_;simp only[Way.line]
          repeat
           first
            | (refine dA rfl (by rfl) (by rfl) (fun _ _ _ h=>h) aW ?_;simp only[Qd,Z1,Z2,Z3,Z4,Z5,Z6])
            | (refine ai (v:=?_) rfl (by rfl) (by rfl) (fun _ _ _ h=>h) aW (fun w' aI=>?_) ?_;rotate_left;(focus (skip;clear aI;go_simp;try with_reducible rfl));simp only[Qd,Z1,Z2,Z3,Z4,Z5,Z6])
            | (refine cV rfl (by rfl) (by rfl) aW ?_;simp only[Qd,Z1,Z2,Z3,Z4,Z5,Z6])
          refine aC ?_;have kV:=lh (kV.out.tr aW);clear aW;go_wp2
          go_roundw
          case rel=>exact⟨k+1,fd2,by omega,by go_num,rfl,oh.out,kV.out⟩
          case measure=>simp[intOf];omega
         have Te:¬ (k:Int)=(i:Int):=by omega
         have ck:=FC.out.c CK.out;have ci:=FC.out.c CI.out;have bh:decide (T2=T)=false:=decide_eq_false fun q=>by
          rw[<-DF.out,<-HTE.out] at q;have h1:k<LL.length:=by rw[zV.out];exact l6
          have h2:i<LL.length:=by rw[zV.out];exact Z7
          exact Wf ((QD h1 HND.out).1 (by simpa[Qa,h1,h2] using q))
         go_wp2_with fail
         have aW:ag [] wc wc.drew:=(ag.refl [] wc).drew;refine ar (ag [] wc) [0,1,2,3,4,5,6,7,8,9,10,11,13] (Way.line [0,1,2,3,4,5,6,7,8,9,10,11,12,13] .done) (by kernel_rfl) (by kernel_rfl) ?_;simp only[Way.line]
         repeat
          first
           | (refine dA rfl (by rfl) (by rfl) (fun _ _ _ h=>h) aW ?_;simp only[Qd,Z1,Z2,Z3,Z4,Z5,Z6])
           | (refine ai (v:=?_) rfl (by rfl) (by rfl) (fun _ _ _ h=>h) aW (fun w' aI=>?_) ?_;rotate_left;(focus (skip;clear aI;go_simp;try with_reducible rfl));simp only[Qd,Z1,Z2,Z3,Z4,Z5,Z6])
           | (refine cV rfl (by rfl) (by rfl) aW ?_;simp only[Qd,Z1,Z2,Z3,Z4,Z5,Z6])
         rw[show ((k:Int) != (i:Int))=true from bne_iff_ne.2 Te]
         repeat
          first
           | (refine dA rfl (by rfl) (by rfl) (fun _ _ _ h=>h) aW ?_;simp only[Qd,Z1,Z2,Z3,Z4,Z5,Z6])
           | (refine ai (v:=?_) rfl (by rfl) (by rfl) (fun _ _ _ h=>h) aW (fun w' aI=>?_) ?_;rotate_left;(focus (have gB:=aI.c ck;have gQ:=aI.c ci;clear aI;go_simp;try with_reducible rfl));simp only[Qd,Z1,Z2,Z3,Z4,Z5,Z6])
           | (refine cV rfl (by rfl) (by rfl) aW ?_;simp only[Qd,Z1,Z2,Z3,Z4,Z5,Z6])
         refine au rfl (by rfl) (by rfl) (fun K hK=>?_);go_simp;refine (kC _ _ T2 T _ (RK.out.fresh (FC.out.tr aW)) (RV5.out.fresh ((Y9.out.tr (Jj.out.tr FC.out)).tr aW))).mono ?_;rw[bh];rintro e w7 ⟨rfl,hc7⟩;have bF:ag [] wc w7:=aW.tr hc7;refine hK.out _ _ (fun _=>bF) ?_;clear hK K
         try simp only[Qd,Z1,Z2,Z3,Z4,Z5,Z6]
         repeat
          first
           | (refine dA rfl (by rfl) (by rfl) (fun _ _ _ h=>h) bF ?_;simp only[Qd,Z1,Z2,Z3,Z4,Z5,Z6])
           | (refine ai (v:=?_) rfl (by rfl) (by rfl) (fun _ _ _ h=>h) bF (fun w' aI=>?_) ?_;rotate_left;(focus (skip;clear aI;go_simp;try with_reducible rfl));simp only[Qd,Z1,Z2,Z3,Z4,Z5,Z6])
           | (refine cV rfl (by rfl) (by rfl) bF ?_;simp only[Qd,Z1,Z2,Z3,Z4,Z5,Z6])
         refine aC ?_;have kV:=lh ((Jj.out.tr FC.out).tr bF);clear aW bF hc7 ck ci bh;go_wp2
         go_roundw
         case rel=>exact⟨k+1,fd2,by omega,by go_num,rfl,oh.out,kV.out⟩
         case measure=>simp[intOf];omega
       have e:k=ln:=by omega
       subst e;have ahx:¬ (k:Int)<(k:Int):=by omega
       obtain⟨j,hj,hje⟩:=QP Br.out;obtain rfl:fd=true:=hfd.out.2 ⟨j,by rw[<-zV.out];exact hj,by simp[Qa,hj,hje]⟩;go_wp2
       go_roundw
       case rel=>exact⟨i+1,by omega,by go_num,Zh.out⟩
       case measure=>simp[intOf];omega
    have e:i=ln:=by omega
    subst e;have VJ:¬ (i:Int)<(i:Int):=by omega
    go_wp2;go_ret;exact⟨rfl,J'.out⟩
  have hb:(err==0)=false:=by simpa using h0
  have ff:(err != 0)=true:=by simpa using h0
  obtain rfl:=Ca h0;clear mf Ca hls;go_wp2;go_ret;exact⟨rfl,iO.out⟩
end Go.Proofs.YtoiflofhcmjpoaaGreat
