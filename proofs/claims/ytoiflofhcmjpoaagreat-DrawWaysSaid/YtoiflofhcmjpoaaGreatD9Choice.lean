/- draw.choices: the contract of the iterator that Ao through all turns of some vertices. Conditions: lists that lie in memory and read so. -/
import Derived.Test.YtoiflofhcmjpoaaGreatD9OrdW
set_option linter.unusedVariables false
set_option linter.unusedSimpArgs false
open List renaming mem_cons→Qa,mem_append_right→Qb,mem_cons_of_mem→Qc,mem_singleton→Qd,getD→Qe,replicate→Qf,mem_append_left→Qi,mem_append→Qj,getElem?_set→Qk,length_replicate→Qm,getElem?_map→Qn,length_set→Qr,length_map→Qs,flatMap→Qt,getElem?_eq_getElem→Qv,take_of_length_le→Qx,nil_append→Qy,getElem?_eq_none→Qz,mem_of_getElem?→QC,append_toArray→QD,getElem?_range→QE,size_toArray→QH,push_toArray→QI,ext_getElem→QJ,length_cons→QK,cons_append→QL,mem_flatMap→QM,length_nil→QP,idxOf_cons→QQ,range→Q4
open Go.World renaming size_alloc→Qg,frozen?→QF,setCell→QR
open Or renaming inl→Qh,inr→Qu
open Nat renaming lt_of_lt_of_le→Ql,le_of_not_lt→Qw,zero_add→QG,le_refl→QN,add_assoc→QS,reduceAdd→QT,reduceSub→QU,mul_comm→QY,sub_self→QZ,le_of_eq→Q0,mul_one→Q2
open Go.Value renaming ownBlock→Qo,pointer→Qq,slice→QO,int→QW,bool→Q3
open Int renaming toNat_natCast→Qp,toNat→QV
open Array renaming replicate_succ→QA,replicate_zero→QB
open Go.Act renaming put→QX
namespace Go.Proofs.YtoiflofhcmjpoaaGreat
open Go.RowKit Go.Maps
namespace Plain
def wD (D:List (List Int)):List Int->List (List Int)->List (List (List Int))
 | [],T=>[T]
 | v :: V,T=>(fO (D.getD v.toNat [])).flatMap fun l=>wD D V (T.set v.toNat l)
def xq (D:List (List Int)):List Int->Nat
 | []=>1
 | v :: V=>fact ((D.getD v.toNat []).length - 1)*xq D V
theorem tf {D:List (List Int)}:∀ {V:List Int} {T:List (List Int)},(wD D V T).length=xq D V
 | [],_=>rfl
 | v :: V,T=>by
  show (Qt _ _).length=_;rw[jY (c:=xq D V) fun l _=>tf,uM];rfl
theorem Ho {D:List (List Int)}:∀ {V:List Int} {T T':List (List Int)},T.length=T'.length->(∀ i:Nat,(∀ v∈V,v.toNat≠i)->T.getD i []=T'.getD i [])->wD D V T=wD D V T'
 | [],T,T',hl,h=>by
  have:T=T':=QJ hl fun i h1 h2=>by
   have:=h i (by simp);simpa[Qe,h1,h2] using this
  rw[this]
 | v :: V,T,T',hl,h=>by
  show Qt _ _=Qt _ _
  congr 1
  funext l
  refine Ho (by simp[hl]) fun i hi=>?_;by_cases e:v.toNat=i
  ·subst e
   by_cases q:v.toNat<T.length
   ·simp[Qe,q,show v.toNat<T'.length by omega]
   simp[Qe,q,show ¬ v.toNat<T'.length by omega]
  have:=h i fun u hu=>by
   rcases Qa.1 hu with r | r
   ·rw[r];exact e
   exact hi u r
  simpa[Qe,Qk,e] using this
end Plain
def Kept (ms:List Nat) (W0 W:World):Prop:=∃ own,ag own W0 W/\∀ j∈ms,j ∉ own
section
variable {ms own C C' : List Nat} {W0 W W' : World} {v : Value} {l : List Int} {tb : Nat} {T : List (List Int)}
theorem Kept.aD (h:Kept ms W0 W) (hc:ag own W W') (ho:∀ j∈ms,j ∉ own):Kept ms W0 W':=by
 obtain⟨o,h1,h2⟩:=h;refine⟨o++own,(h1.mono (gH:=o++own) fun j hj=>Qh (Qi _ hj)).trans hc fun j hj=>Qh (Qb _ hj),fun j hj q=>?_⟩;rcases Qj.1 q with r | r
 ·exact h2 j hj r
 exact ho j hj r
theorem Kept.cell (h:Kept ms W0 W) {p:Addr} (hp:W0.cell? p=some v) (hm:p.block∈ms):W.cell? p=some v:=by
 obtain⟨o,h1,h2⟩:=h;exact h1.cell hp (h2 _ hm)
theorem Kept.ints (h:Kept ms W0 W) (hi:al W0 v l) (hm:∀ j∈iN v,j∈ms):al W v l:=by
 obtain⟨o,h1,h2⟩:=h;exact hi.own h1 fun j hj=>h2 j (hm j hj)
theorem Kept.size (h:Kept ms W0 W):W0.heap.size<=W.heap.size:=by
 obtain⟨o,h1,h2⟩:=h;exact h1.size
def gL (W:World) (tb:Nat) (C:List Nat) (T:List (List Int)):Prop :=
 ∃ cs:Array Value,W.heap[tb]?=some (.cells cs 25 (0,0))/\cs.size=T.length/\∀ i,i<T.length->∃ v,cs[i]?=some v/\j4 W v (T.getD i [])/\∀ j∈iN v,j ∉ C/\j≠tb/\j<W.heap.size
theorem j4.keep (h:j4 W v l) (hc:ag own W W') (ho:∀ j∈iN v,j ∉ own):j4 W' v l:=⟨h.1.own hc ho,h.2⟩
theorem gL.Ao (h:gL W tb C T) (ht:tb ∉ C) (hc:ag C W W') (hn:∀ j∈C',j∈C\/W.heap.size<=j):gL W' tb C' T:=by
 obtain⟨cs,h1,h2,h3⟩:=h;refine⟨cs,hc.heap h1 ht,h2,fun i hi=>?_⟩;obtain⟨v,k1,k2,k3⟩:=h3 i hi;exact⟨v,k1,k2.keep hc fun j hj=>(k3 j hj).1,fun j hj=>⟨fun q=>(hn j q).elim (k3 j hj).1 fun r=>by have:=(k3 j hj).2.2;omega,(k3 j hj).2.1,Ql (k3 j hj).2.2 hc.size⟩⟩
theorem gL.stays (h:gL W tb C T) (hc:ag own W W') (ho:∀ j∈own,∀ cs t r,W.heap[j]?≠some (.cells cs t r)):gL W' tb C T:=by
 obtain⟨cs,h1,h2,h3⟩:=h;refine⟨cs,hc.heap h1 fun q=>ho _ q _ _ _ h1,h2,fun i hi=>?_⟩;obtain⟨v,k1,k2,k3⟩:=h3 i hi;exact⟨v,k1,k2.stays hc ho,fun j hj=>⟨(k3 j hj).1,(k3 j hj).2.1,Ql (k3 j hj).2.2 hc.size⟩⟩
theorem gL.set {k:Nat} (h:gL W tb C T) (hk:k<T.length) (hv:j4 W v l) (hb:∀ j∈iN v,j ∉ C/\j≠tb/\j<W.heap.size):gL (W.setCell ⟨tb,k,none⟩ v) tb C (T.set k l):=by
 obtain⟨cs,h1,h2,h3⟩:=h;have hc:ag [tb] W (W.setCell ⟨tb,k,none⟩ v):=(ag.refl _ W).setCell (Qh (by simp)) _;have bh:∀ {u:Value},(∀ j∈iN u,j ∉ C/\j≠tb/\j<W.heap.size)->∀ j∈iN u,j ∉ [tb]:=fun h j hj q=>(h j hj).2.1 (Qd.1 q);refine⟨cs.setIfInBounds k v,heap_setCell_same h1 _ _,by simp[h2],fun i hi=>?_⟩;rw[Qr] at hi;by_cases e:k=i
 ·subst e
  exact⟨v,by simp[h2,hk],by simpa[Qe,hk] using hv.keep hc (bh hb),fun j hj=>by simpa[QR] using hb j hj⟩
 obtain⟨u,k1,k2,k3⟩:=h3 i hi;exact⟨u,by rw[Array.getElem?_setIfInBounds_ne e];exact k1,by simpa[Qe,Qk,e] using k2.keep hc (bh k3),fun j hj=>by simpa[QR] using k3 j hj⟩
theorem gL.rows (h:gL W tb C T) (hT:T.length<=9223372036854775807):cf W (.slice (some ⟨tb,0,none⟩) T.length T.length) T:=by
 obtain⟨cs,h1,h2,h3⟩:=h;refine⟨_,_,rfl,hT,fun i hi=>?_⟩;obtain⟨v,k1,k2,-⟩:=h3 i hi;exact⟨tb,0,v,rfl,by rw[QG,cell_of_row _ _ _ _ _ _ h1];exact k1,k2.2,k2.1⟩
end
structure ZB (W0:World) (vb yb tv db cb tb l N:Nat) (V:List Int) (dl:List (List Int)) (ms:List Nat):Prop where
 v:∃ vo vc,W0.cell? ⟨vb,0,none⟩=some (.slice vo V.length vc)/\al W0 (.slice vo V.length vc) V/\∀ j∈iN (.slice vo V.length vc),j∈ms
 y:W0.cell? ⟨yb,0,none⟩=some (.func (.yield l) #[] #[])
 t:W0.cell? ⟨tv,0,none⟩=some (.slice (some ⟨tb,0,none⟩) N N)
 d:∃ dB zc dc,W0.cell? ⟨db,0,none⟩=some (.slice (some ⟨dB,zc,none⟩) N dc)/\dB∈ms/\∀ v∈V,∃ u,W0.cell? ⟨dB,zc+v.toNat,none⟩=some u/\j4 W0 u (dl.getD v.toNat [])/\∀ j∈iN u,j∈ms
 c:W0.cell? ⟨cb,0,none⟩=some (.func (.func 115) #[] #[.pointer (some ⟨vb,0,none⟩),.pointer (some ⟨yb,0,none⟩),.pointer (some ⟨tv,0,none⟩),.pointer (some ⟨db,0,none⟩),.pointer (some ⟨cb,0,none⟩)])
 m:vb∈ms/\yb∈ms/\tv∈ms/\db∈ms/\cb∈ms
 lt:∀ j∈ms,j<W0.heap.size/\j≠tb
 ok:∀ v∈V,0<=v/\v<N/\0<(dl.getD v.toNat []).length/\(dl.getD v.toNat []).length<1000
structure n5 (J:Nat->List Nat->World->Prop) (W0:World) (tb N:Nat) (ms X:List Nat) (k:Nat) (C:List Nat) (T:List (List Int)) (W:World):Prop where
 j:J k C W
 k:Kept ms W0 W
 c:(∀ j∈ms,j ∉ X++C)/\tb ∉ X++C
 x:∀ j∈X++C,j<W.heap.size
 t:gL W tb (X++C) T
 n:T.length=N
theorem BV {X C C':List Nat} {n:Nat} (h:∀ j∈C',j∈C\/n<=j):∀ j∈X++C',j∈X++C\/n<=j:=fun j hj=>by
 rcases Qj.1 hj with r | r
 ·exact Qh (Qi _ r)
 exact (h j r).imp (fun q=>Qb _ q) id
theorem ui {J:Nat->List Nat->World->Prop} {W0 W W1 W3:World} {tb N B k' b7:Nat} {ms X C C' C0:List Nat} {T:List (List Int)} (hC0:∀ j∈C,j∈C0\/W.heap.size<=j) (hB:B<=tb/\tb<W0.heap.size) (hJ:sy True B J) (hk:Kept ms W0 W1) (hc:(∀ j∈ms,j ∉ X++C)/\tb ∉ X++C) (aL:∀ j∈ms,j<W0.heap.size/\j≠tb) (hn:T.length=N)
  (c1:ag (tb :: C0) W W1) (hb:W.heap.size<=b7/\W0.heap.size<=b7/\b7<W1.heap.size) (hbC:b7 ∉ X++C) (hCl:∀ j∈X++C,j<W1.heap.size) (ht:gL W1 tb (b7 :: (X++C)) T) (h1:J k' C' W3) (h2:ag C W1 W3) (h3:∀ j∈C',j∈C\/W1.heap.size<=j) (v:Value) :
  n5 J W0 tb N ms X k' C' T (W3.setCell ⟨b7,0,none⟩ v)/\ag (tb :: C0) W (W3.setCell ⟨b7,0,none⟩ v)/\∀ j∈C',j∈C0\/W.heap.size<=j:=by
 have I9:∀ j∈C',j∈C0\/W.heap.size<=j:=fun j hj=>(h3 j hj).elim (hC0 j) fun q=>Qu (by have:=c1.size;omega);have hx3:=BV (X:=X) h3;have AD:b7 ∉ X++C':=fun q=>(hx3 _ q).elim hbC fun r=>by omega
 have Hs:b7≠tb:=by omega
 have c4:ag [b7] W3 (W3.setCell ⟨b7,0,none⟩ v):=(ag.refl _ W3).setCell (Qh (by simp)) _;have Dw:tb ∉ X++C':=fun q=>(hx3 _ q).elim hc.2 fun r=>by have:=hk.size;omega
 refine⟨⟨hJ.aD h1 c4 fun j hj=>?_,(hk.aD h2 fun j hj q=>hc.1 j hj (Qb _ q)).aD c4 fun j hj q=>?_,⟨fun j hj q=>?_,Dw⟩,fun j hj=>?_,?_,hn⟩,?_,I9⟩
 ·rw[Qd.1 hj];exact⟨by omega,Qu ⟨trivial,fun q=>AD (Qb _ q)⟩⟩
 ·have:=aL j hj;have:=Qd.1 q;omega
 ·exact (hx3 j q).elim (hc.1 j hj) fun r=>by have:=aL j hj;have:=hk.size;omega
 ·rcases Qj.1 hj with r | r
  ·have:=hCl j (Qi _ r);have:=h2.size;have:=c4.size;omega
  have:=hJ.lt h1 j r;have:=c4.size;omega
 ·have t3:=ht.Ao (C':=b7 :: (X++C')) (fun q=>by rcases Qa.1 q with r | r;exact Hs r.symm;exact hc.2 r) (h2.mono fun j hj=>Qh (by simp[hj])) fun j hj=>by
   rcases Qa.1 hj with r | r
   ·exact Qh (by simp[r])
   exact (hx3 j r).imp (fun q=>Qc _ q) id
  exact t3.Ao (fun q=>by rcases Qa.1 q with r | r;exact Hs r.symm;exact Dw r) (c4.mono fun j hj=>Qh (by simp[Qd.1 hj])) fun j hj=>Qh (Qc _ hj)
 exact (c1.trans h2 fun j hj=>(hC0 j hj).imp (fun q=>by simp[q]) id).trans c4 fun j hj=>Qu (by rw[Qd.1 hj];omega)
theorem n5.stays {J:Nat->List Nat->World->Prop} {W0 W W':World} {tb N B k:Nat} {ms X C own:List Nat} {T:List (List Int)} (h:n5 J W0 tb N ms X k C T W) (hB:B<=tb/\tb<W0.heap.size) (hJ:sy True B J) (aL:∀ j∈ms,j<W0.heap.size/\j≠tb) (hc:ag own W W') (ho:∀ j∈own,W0.heap.size<=j/\∀ cs t r,W.heap[j]?≠some (.cells cs t r)):n5 J W0 tb N ms X k C T W' :=
 ⟨hJ.aD h.j hc fun j hj=>⟨by have:=(ho j hj).1;omega,Qh (ho j hj).2⟩,h.k.aD hc fun j hj q=>by have:=aL j hj;have:=(ho j q).1;omega,h.c,fun j hj=>Ql (h.x j hj) hc.size,h.t.stays hc fun j hj=>(ho j hj).2,h.n⟩
structure BA (J:Nat->List Nat->World->Prop) (W0 W W1:World) (tb N b7:Nat) (ms X C:List Nat) (V:List Int) (T:List (List Int)) (k:Nat) (Cu:List Nat) (T5:List (List Int)) (W5:World):Prop where
 a:n5 J W0 tb N ms (b7 :: X) k Cu T5 W5
 o:∀ i:Nat,(∀ v∈V,v.toNat≠i)->T5.getD i []=T.getD i []
 b:∃ own,ag own W1 W5/\∀ j∈own,j≠W.heap.size/\j≠W.heap.size+1/\j≠W.heap.size+1+1
 bc:W.heap.size ∉ Cu/\W.heap.size+1 ∉ Cu/\W.heap.size+1+1 ∉ Cu
 g:ag (tb :: C) W W5
 n:∀ j∈Cu,j∈C\/W.heap.size<=j
theorem BA.stays {J:Nat->List Nat->World->Prop} {W0 W W1 W5 W6:World} {tb N B b7 k:Nat} {ms X C Cu own:List Nat} {V:List Int} {T T5:List (List Int)} (h:BA J W0 W W1 tb N b7 ms X C V T k Cu T5 W5) (hB:B<=tb/\tb<W0.heap.size) (hJ:sy True B J) (aL:∀ j∈ms,j<W0.heap.size/\j≠tb) (hc:ag own W5 W6)
  (ho:∀ j∈own,W0.heap.size<=j/\W.heap.size+3<=j/\∀ cs t r,W5.heap[j]?≠some (.cells cs t r)):BA J W0 W W1 tb N b7 ms X C V T k Cu T5 W6:=by
 obtain⟨o,h1,h2⟩:=h.b;refine⟨h.a.stays hB hJ aL hc fun j hj=>⟨(ho j hj).1,(ho j hj).2.2⟩,h.o,⟨o++own,(h1.mono fun j hj=>Qh (Qi _ hj)).trans hc fun j hj=>Qh (Qb _ hj),fun j hj=>?_⟩,h.bc,h.g.trans hc fun j hj=>Qu (by have:=(ho j hj).2.1;omega),h.n⟩;rcases Qj.1 hj with r | r
 ·exact h2 j r
 have:=(ho j r).2.1;omega
theorem BA.Ao {J:Nat->List Nat->World->Prop} {W0 W W1 W5 W6 W7:World} {tb N B b7 k k' vn:Nat} {ms X C Cu C':List Nat} {V V' x:List Int} {T T5 T':List (List Int)} (h:BA J W0 W W1 tb N b7 ms X C V T k Cu T5 W5) (hB:B<=tb/\tb<W0.heap.size) (s1:W1.heap.size=W.heap.size+3) (s0:W0.heap.size<=W.heap.size) (O1:b7=W.heap.size+1)
  (zl:(vn:Int)∈V) (hV:∀ v∈V',v∈V) (aZ:ag [tb] W5 W6) (h1:n5 J W0 tb N ms (b7 :: X) k' C' T' W7) (h2:∀ i:Nat,(∀ v∈V',v.toNat≠i)->T'.getD i []=(T5.set vn x).getD i []) (h3:ag (tb :: Cu) W6 W7) (h4:∀ j∈C',j∈Cu\/W6.heap.size<=j) :
  BA J W0 W W1 tb N b7 ms X C V T k' C' T' W7/\ag (tb :: ((b7 :: X)++Cu)) W5 W7/\∀ j∈tb :: ((b7 :: X)++C'),j∈tb :: ((b7 :: X)++Cu)\/W5.heap.size<=j:=by
 obtain⟨o,Cy,Ds⟩:=h.b;have z5:=Cy.size;have z6:=aZ.size;have c57:ag (tb :: Cu) W5 W7:=(aZ.mono (gH:=tb :: Cu) fun j hj=>Qh (by simp[Qd.1 hj])).trans h3 fun j hj=>Qh hj;have h5:∀ j∈C',j∈Cu\/W5.heap.size<=j:=fun j hj=>(h4 j hj).imp id fun q=>by omega
 refine⟨⟨h1,fun i hi=>?_,⟨o++(tb :: Cu),(Cy.mono fun j hj=>Qh (Qi _ hj)).trans c57 fun j hj=>Qh (Qb _ hj),fun j hj=>?_⟩,?_,h.g.trans c57 fun j hj=>?_,fun j hj=>(h5 j hj).elim (h.n j) fun q=>Qu (by omega)⟩,c57.mono fun j hj=>Qh ?_,fun j hj=>?_⟩
 ·rw[h2 i fun v hv=>hi v (hV v hv),<-h.o i hi]
  have:=hi _ zl;simp only[Qp] at this;simp[Qe,Qk,this]
 ·rcases Qj.1 hj with r | r
  ·exact Ds j r
  rcases Qa.1 r with r | r
  ·omega
  exact⟨fun e=>h.bc.1 (e ▸ r),fun e=>h.bc.2.1 (e ▸ r),fun e=>h.bc.2.2 (e ▸ r)⟩
 ·exact⟨fun q=>(h5 _ q).elim h.bc.1 fun r=>by omega,fun q=>(h5 _ q).elim h.bc.2.1 fun r=>by omega,fun q=>(h5 _ q).elim h.bc.2.2 fun r=>by omega⟩
 ·rcases Qa.1 hj with r | r
  ·exact Qh (by simp[r])
  exact (h.n j r).imp (fun q=>by simp[q]) id
 ·rcases Qa.1 hj with r | r
  ·simp[r]
  exact Qc _ (Qb _ r)
 rcases Qa.1 hj with r | r
 ·exact Qh (by simp[r])
 exact (BV h5 j r).imp (fun q=>Qc _ q) id
theorem Eb {J:Nat->List Nat->World->Prop} {W0 W:World} {tb N B k vn:Nat} {ms X C:List Nat} {T:List (List Int)} {v:Value} {x:List Int} (hB:B<=tb/\tb<W0.heap.size) (hJ:sy True B J) (aL:∀ j∈ms,j<W0.heap.size/\j≠tb) (h:n5 J W0 tb N ms X k C T W) (hn:vn<N) (hr:j4 W v x) (hv:∀ j∈iN v,j ∉ tb :: (X++C)/\j<W.heap.size) :
  n5 J W0 tb N ms X k C (T.set vn x) (W.setCell ⟨tb,vn,none⟩ v):=by
 have hc:ag [tb] W (W.setCell ⟨tb,vn,none⟩ v):=(ag.refl _ W).setCell (Qh (by simp)) _;refine⟨hJ.aD h.j hc fun j hj=>?_,h.k.aD hc fun j hj q=>(aL j hj).2 (Qd.1 q),h.c,fun j hj=>Ql (h.x j hj) hc.size,h.t.set (by rw[h.n];exact hn) hr fun j hj=>⟨fun q=>(hv j hj).1 (Qc _ q),fun q=>(hv j hj).1 (by simp[q]),(hv j hj).2⟩,by rw[Qr];exact h.n⟩;rw[Qd.1 hj];exact⟨hB.1,Qu ⟨trivial,fun q=>h.c.2 (Qb _ q)⟩⟩
theorem AK {dl:List (List Int)} {V:List Int} {k vn off j:Nat} {T T5:List (List Int)} {x0:Int} {rest x':List Int} {xs:List (List (List Int))} (E7:V.drop k=(vn:Int) :: V.drop (k+1)) (aJ:dl.getD vn []=x0 :: rest) (OX:((Plain.dR rest.length (x0 :: rest)).map (([]:List Int)++·))[j]?=some x')
  (hx:∀ i y,(Plain.wD dl (V.drop k) T)[i]?=some y->xs[off+i]?=some y) (ho:∀ i:Nat,(∀ v∈V.drop k,v.toNat≠i)->T5.getD i []=T.getD i []) (hl:T5.length=T.length) :
  ∀ i y,(Plain.wD dl (V.drop (k+1)) (T5.set vn x'))[i]?=some y->xs[off+j*Plain.xq dl (V.drop (k+1))+i]?=some y:=by
 intro i y hy;rw[QS];refine hx _ y ?_;rw[E7];show ((Plain.fO (dl.getD (QV vn) [])).flatMap fun l=>Plain.wD dl (V.drop (k+1)) (T.set (QV vn) l))[_]?=_;rw[Qp,aJ];have hi:i<Plain.xq dl (V.drop (k+1)):=by have:=(List.getElem?_eq_some_iff.1 hy).1;rwa[Plain.tf] at this
 have hj:(Plain.fO (x0 :: rest))[j]?=some x':=by
  rw[Qn] at OX;simpa[Plain.fO] using OX
 rw[Plain.tu (fun l _=>Plain.tf) hj hi,<-hy]
 congr 1
 refine Plain.Ho (by simp[hl]) fun m hm=>?_;by_cases e:vn=m
 ·subst e
  by_cases q:vn<T.length
  ·simp[Qe,q,hl]
  simp[Qe,q,hl]
 have:=ho m fun v hv=>by
  rw[E7] at hv;rcases Qa.1 hv with r | r
  ·rw[r];simpa using e
  exact hm v r
 simpa[Qe,Qk,e] using this.symm
section
attribute [local go_sem] Oper.semAt_some
set_option maxRecDepth 100000 in
set_option maxHeartbeats 4000000 in
theorem Bj {W0:World} {vb yb tv db cb tb l N B:Nat} {V:List Int} {dl:List (List Int)} {ms:List Nat} (hIn:ZB W0 vb yb tv db cb tb l N V dl ms) {J:Nat->List Nat->World->Prop} (hJ:sy True B J) (hB:B<=tb/\tb<W0.heap.size) (hN:N<1000000) (hVl:V.length<1000000) {xs:List (List (List Int))}
  (hY:∀ k C W1 v x,J k C W1->xs[k]?=some x->cf W1 v x->(∀ j∈iN v,j ∉ C/\j<W1.heap.size)->YieldAt Fence.wide 7 Tryz.prog l #[v] W1 fun e W'=>e=.returned (.bool true)/\Ix C W1 (J (k+1)) W') :
  ∀ (n k off:Nat) (X C:List Nat) (T:List (List Int)) (W:World),k+n=V.length->n5 J W0 tb N ms X off C T W->(∀ i y,(Plain.wD dl (V.drop k) T)[i]?=some y->xs[off+i]?=some y) ->
   Calls Tryz.prog 115 #[.int .i64 k,.pointer (some ⟨vb,0,none⟩),.pointer (some ⟨yb,0,none⟩),.pointer (some ⟨tv,0,none⟩),.pointer (some ⟨db,0,none⟩),.pointer (some ⟨cb,0,none⟩)] W fun e W' =>
    e=.returned (.bool true)/\∃ C' T',n5 J W0 tb N ms X (off+Plain.xq dl (V.drop k)) C' T' W'/\(∀ i:Nat,(∀ v∈V.drop k,v.toNat≠i)->T'.getD i []=T.getD i [])/\ag (tb :: C) W W'/\∀ j∈C',j∈C\/W.heap.size<=j:=by
 have HY:=lh hY;have HJ:=lh hJ;have ku:=lh hIn;have HB:=lh hB;clear hY hJ hB hIn;intro n
 induction n with
 | zero =>
  intro k off X C T W hk hA hx;obtain⟨vo,vc,v1,v2,v3⟩:=ku.out.v;have E7:V.drop k=[]:=List.drop_of_length_le (by omega);have HA:=lh hA;have kU:=((ag.refl [] W).alloc (.cells #[.int .i64 k] 3)).alloc (.cells #[.bool false] 4);have cv:=kU.dp (hA.k.cell v1 ku.out.m.1);have cy:=kU.dp (hA.k.cell ku.out.y ku.out.m.2.1);have ct:=kU.dp (hA.k.cell ku.out.t ku.out.m.2.2.1);obtain⟨W1,Bo⟩:∃ W1,(W.alloc (.cells #[.int .i64 k] 3)).alloc (.cells #[.bool false] 4)=W1:=⟨_,rfl⟩;have Y5:W1.heap.size=W.heap.size+2:=by rw[<-Bo];simp
  have b7:W1.heap[W.heap.size+1]?=some (.cells #[.bool false] 4 (0,0)):=by
   rw[<-Bo];have:=heap_alloc_new (W.alloc (.cells #[.int .i64 k] 3)) (.cells #[.bool false] 4);rwa[Qg] at this
  rw[Bo] at kU;have hbC:W.heap.size+1 ∉ X++C:=fun q=>by have:=hA.x _ q;omega
  have TA:=hA.t.Ao hA.c.2 (kU.mono (gH:=X++C) (by simp)) (C':=(W.heap.size+1) :: (X++C)) (fun j hj=>by
   rcases Qa.1 hj with r | r
   ·exact Qu (by omega)
   exact Qh r)
  have hJ1:=HJ.out.aD hA.j kU (by simp);have hx0:=hx 0 T (by rw[E7];rfl);obtain⟨fn,tmps,assign,body,hy,hR⟩:=YieldAt.any (m':=8) (HY.out off C W1 _ T hJ1 hx0 (TA.rows (by rw[hA.n];omega)) (fun j hj=>by
   simp[iN,Qo] at hj;subst hj;exact⟨fun q=>hA.c.2 (Qb _ q),by have:=HB.out;have:=hA.k.size;omega⟩))
  rw[hA.n] at hy;have HR:=lh hR;have b8:=lh kU;have DI:=lh TA;have Lh:=lh E7;have HB7:=lh b7;have pj:=lh Y5;subst Bo;have X8:k=V.length:=by omega
  have uE:=lh hbC;clear hR kU TA hJ1 hx0 hx hA v1 v2 v3 b7 E7 Y5 hk hbC;subst X8;refine (callsIn_wide (n:=9)).1 (callsIn_of_wp_marks Tryz.func115 rfl trivial (wpIn_wide.2 ?_) rfl);simp only[Tryz.ntmps115,QH,QK,QP,QT,QU,QA,QB,QI,QD,Qy,QL];refine (wpIn_wide (n:=9)).1 ?_
  gi_wp2
  refine HR.out.mono ?_;rintro e W3 ⟨rfl,C',h1,h2,h3⟩;have B3:=h2.heap HB7.out fun q=>uE.out (Qb _ q);have c7:=(cell_of_row _ _ 0 _ _ _ B3).trans (show _=some (Q3 false) from rfl);have f7:W3.frozen? ⟨W.heap.size+1,0,none⟩=false:=by simp[QF,B3]
  have HE:=lh (ui (C0:=C) (fun j hj=>Qh hj) HB.out HJ.out (HA.out.k.aD b8.out (by simp)) HA.out.c ku.out.lt HA.out.n (b8.out.mono (gH:=tb :: C) (by simp)) ⟨by omega,by have:=HA.out.k.size;omega,by have:=pj.out;omega⟩ uE.out (fun j hj=>Ql (HA.out.x j hj) b8.out.size) DI.out h1 h2 h3 (.bool true));have HW3:=lh (show (W3.setCell ⟨W.heap.size+1,0,none⟩ (.bool true)).cell? ⟨W.heap.size+1,0,none⟩=some (.bool true) from (cell_of_row _ _ 0 _ _ _ (heap_setCell_same B3 _ _)).trans rfl);clear h1 h2 h3 B3
  gi_wp2
  have hw3:=HW3.out;refine⟨.bool true,by simp[results,Tryz.results115,go_sem,hw3],rfl,C',T,?_⟩;rw[Lh.out];exact⟨HE.out.1,fun _ _=>rfl,HE.out.2⟩
 | succ n ih =>
  intro k off X C T W hk hA hx;have X8:k<V.length:=by omega
  obtain⟨v,hv⟩:∃ v,V[k]?=some v:=⟨V[k],Qv X8⟩;have Ax:v∈V:=QC hv;have E7:V.drop k=v :: V.drop (k+1):=by
   rw[List.drop_eq_getElem_cons X8];rw[Qv X8] at hv;cases hv;rfl
  obtain⟨o1,o2,o3,o4⟩:=ku.out.ok v Ax;obtain⟨vn,rfl⟩:∃ vn:Nat,v=vn:=⟨v.toNat,by omega⟩;obtain⟨vo,vc,v1,v2,v3⟩:=ku.out.v;obtain⟨dB,zc,dc,d1,d2,d3⟩:=ku.out.d;obtain⟨u,d4,d5,d6⟩:=d3 _ Ax;rw[Qp] at o3 o4 d4 d5;obtain⟨row,aJ⟩:∃ row,dl.getD vn []=row:=⟨_,rfl⟩;rw[aJ] at o3 o4 d5;have hU:=d5.1;obtain⟨⟨uo,uc,rfl,u1,u2,u3⟩,⟨_,_,_,e,u4,u5⟩⟩:=d5;cases e;obtain⟨ub,wK,rfl,u6⟩:=u3 (List.length_pos_iff.1 o3);obtain⟨x0,rest,rfl⟩:∃ x0 rest,row=x0 :: rest:=by
   cases row with
   | nil=>simp at o3
   | cons a r=>exact⟨a,r,rfl⟩
  have kv:=hA.k.ints v2 v3;obtain⟨vbk,ZV,rfl,rX⟩:=kv.cellAt X8;have hgv:V.getD k 0=vn:=by rw[List.getD_eq_getElem?_getD,hv];rfl
  rw[hgv] at rX;have kU:=(((ag.refl [] W).alloc (.cells #[.int .i64 k] 3)).alloc (.cells #[.bool false] 4)).alloc (.cells #[.int .i64 vn] 3);have cv:=fun o=>bP (bP (hA.k.cell v1 ku.out.m.1) (.cells #[.int .i64 k] 3)) o;have ce:=fun o=>bP (bP rX (.cells #[.int .i64 k] 3)) o;have HA:=lh hA;have Hc:=lh kU;have HX:=lh hx;have Lh:=lh E7;have HIH:=lh @ih;have Wf:(k:Int)<(V.length:Int):=by omega
  clear hA kU kv rX v1 v2 v3 E7 hx Ax hv d3 u3 ih;refine (callsIn_wide (n:=9)).1 (callsIn_of_wp_marks Tryz.func115 rfl trivial (wpIn_wide.2 ?_) rfl);simp only[Tryz.ntmps115,QH,QK,QP,QT,QU,QA,QB,QI,QD,Qy,QL];obtain⟨W1,Bo⟩:∃ W1,((W.alloc (.cells #[.int .i64 k] 3)).alloc (.cells #[.bool false] 4)).alloc (.cells #[.int .i64 vn] 3)=W1:=⟨_,rfl⟩;have cY:=Hc.out;rw[Bo] at cY;have Y5:W1.heap.size=W.heap.size+3:=by rw[<-Bo];simp
  have B7:W1.heap[W.heap.size+1]?=some (.cells #[.bool false] 4 (0,0)):=by
   rw[<-Bo];have:=heap_alloc_new (W.alloc (.cells #[.int .i64 k] 3)) (.cells #[.bool false] 4);rw[Qg] at this;exact ((ag.refl [] _).alloc _).hp this
  have B6:W1.heap[W.heap.size]?=some (.cells #[.int .i64 k] 3 (0,0)):=by
   rw[<-Bo];exact (((ag.refl [] _).alloc _).alloc _).hp (heap_alloc_new W _)
  have B8:W1.heap[W.heap.size+1+1]?=some (.cells #[.int .i64 vn] 3 (0,0)):=by
   rw[<-Bo];have:=heap_alloc_new ((W.alloc (.cells #[.int .i64 k] 3)).alloc (.cells #[.bool false] 4)) (.cells #[.int .i64 vn] 3);rwa[Qg,Qg] at this
  have cd1:=cY.dp (HA.out.k.cell d1 ku.out.m.2.2.2.1);have cr1:=cY.dp (HA.out.k.cell d4 d2);have c8:=(cell_of_row _ _ 0 _ _ _ B8).trans (show _=some (QW .i64 vn) from rfl);have hU1:=(HA.out.k.ints hU d6).fresh cY;have S1:(x0 :: rest).length=rest.length+1:=rfl;rw[S1] at cr1 hU1 u4;have LT:=lh (show al W1 (.slice (some ⟨ub,wK,none⟩) 1 uc) ([]++[x0]) from al.take u1 (by simp at o4 ⊢;omega) (fun i hi=>hU1.cells hi) (cap:=uc) (i:=1) (by simp));obtain⟨Df,hao⟩:∃ Df,(if uc=1 then some (⟨ub,wK,none⟩:Addr) else some ⟨ub,wK+1,none⟩)=Df:=⟨_,rfl⟩;have LD:=lh (show al W1 (.slice Df rest.length (uc - 1)) rest by
   have:=al.drop u1 (by simp at o4 ⊢;omega) (fun i hi=>hU1.cells hi) (cap:=uc - 1) 1;rw[<-hao];split
   ·have X3:rest=[]:=List.length_eq_zero_iff.1 (by omega)
    subst X3;exact al.none_ _ _ _
   exact this)
  have nr:Hid (∀ j∈iN (.slice Df rest.length (uc - 1)),j=ub):=lh fun j hj=>by
   rw[<-hao] at hj;split at hj <;> simpa[iN,Qo] using hj
  have HUM:=lh (d6 ub (by simp[iN,Qo]));have q1:(1:Int)<=(uc:Int):=by omega
  have q2:1<=uc:=by omega
  have q3:(1:Int)<=(rest.length:Int)+1:=by omega
  have q4:(rest.length:Int)+1<=(uc:Int):=by omega
  have q5:rest.length+1<=uc:=by omega
  have q6:vn<N:=by omega
  have q7:(vn:Int)<(N:Int):=by omega
  have b8:=lh cY;have bt:=lh aJ;have HU4:=lh u4;have yP:rest.length<1000:=by simp at o4;omega
  clear cY hU hU1 aJ u6 d1 d2 d4 d6
  go_wp2_with fail
  clear cv ce Bo;refine rQ ?_;have aW:ag [] W1 W1.drew:=(ag.refl [] W1).drew;refine ar (ag [] W1) [0,1,2,3,4,5,6,7,8,9] (Way.line [0,1,2,3,4,5,6,7,8,9,10] .done) (by kernel_rfl) (by kernel_rfl) ?_;simp only[Way.line]
  repeat
   first
    | (refine dA rfl (by rfl) (by rfl) (fun _ _ _ h=>h) aW ?_;simp only[QX,Z1,Z2,Z3,Z4,Z5,Z6])
    | (refine ai (v:=?_) rfl (by rfl) (by rfl) (fun _ _ _ h=>h) aW (fun w' aI=>?_) ?_;rotate_left;(focus (have gB:=aI.c cd1;have gQ:=aI.c cr1;have np:=aI.c c8;clear aI;go_simp;try with_reducible rfl));simp only[QX,Z1,Z2,Z3,Z4,Z5,Z6])
    | (refine cV rfl (by rfl) (by rfl) aW ?_;simp only[QX,Z1,Z2,Z3,Z4,Z5,Z6])
  refine au rfl (by rfl) (by rfl) (fun K hK=>?_);go_simp;refine (sE (some ⟨ub,wK,none⟩) Df 1 uc rest.length (uc - 1) _).mono ?_;rintro e w4 ⟨rfl,Ju⟩;have bF:ag [] W1 w4:=by rw[Ju];exact (aW.alloc _).alloc _
  refine hK.out _ _ (fun _=>bF) ?_;clear hK K
  try simp only[QX,Z1,Z2,Z3,Z4,Z5,Z6]
  refine aC ?_;have sz4:w4.heap.size=W1.heap.size+2:=by rw[Ju,Qg,Qg];rfl
  have b0:w4.cell? ⟨W1.heap.size,0,none⟩=some (.slice (some ⟨ub,wK,none⟩) 1 uc):=by
   rw[Ju];exact bP ((cell_of_row _ _ 0 _ _ _ (heap_alloc_new W1.drew _)).trans rfl) _
  have b1:w4.cell? ⟨W1.heap.size+1,0,none⟩=some (.slice Df rest.length (uc - 1)):=by
   rw[Ju];have:=heap_alloc_new (W1.drew.alloc (.cells #[.slice (some ⟨ub,wK,none⟩) 1 uc] 25)) (.cells #[.slice Df rest.length (uc - 1)] 25);rw[Qg] at this;exact (cell_of_row _ _ 0 _ _ _ this).trans rfl
  have O4:=lh (show nR w4 (W1.heap.size+1) W1.heap.size (.slice (some ⟨ub,wK,none⟩) 1 uc) (.slice Df rest.length (uc - 1)) ([]++[x0]) rest from
   ⟨b1,LD.out.fresh bF,b0,LT.out.fresh bF,⟨_,_,_,rfl,by omega,by omega⟩,⟨_,_,_,rfl,by omega,by omega⟩⟩)
  have hsW:=HA.out.k.size;have SH:=lh (ku.out.lt ub HUM.out);have L4:=lh (show ∀ j∈jG (W1.heap.size+1) W1.heap.size (.slice (some ⟨ub,wK,none⟩) 1 uc) (.slice Df rest.length (uc - 1)),j=ub\/W1.heap.size<=j/\j<w4.heap.size from fun j hj=>by
   simp only[jG,Qa,Qj] at hj;rcases hj with r | r | r | r
   ·exact Qu ⟨by omega,by omega⟩
   ·exact Qu ⟨by omega,by omega⟩
   ·exact Qh (by simpa[iN,Qo] using r)
   exact Qh (nr.out j r))
  have iO:=lh (b8.out.tr bF);have VO:=lh bF;have b7C:W.heap.size+1 ∉ X++C:=fun q=>by have:=HA.out.x _ q;omega
  have Xq:=lh (show BA J W0 W W1 tb N (W.heap.size+1) ms X C (V.drop k) T off C T w4 from by
   have hm:=ku.out.lt;have hb:=HB.out;refine⟨⟨HJ.out.aD HA.out.j iO.out (by simp),HA.out.k.aD iO.out (by simp),⟨fun j hj q=>?_,fun q=>?_⟩,fun j hj=>?_,?_,HA.out.n⟩,fun _ _=>rfl,⟨[],bF,by simp⟩,?_,iO.out.mono (by simp),fun j hj=>Qh hj⟩
   ·rcases Qa.1 q with r | r
    ·have:=hm j hj;omega
    exact HA.out.c.1 j hj r
   ·rcases Qa.1 q with r | r
    ·omega
    exact HA.out.c.2 r
   ·rcases Qa.1 hj with r | r
    ·omega
    have:=HA.out.x j r;have:=iO.out.size;omega
   ·refine HA.out.t.Ao HA.out.c.2 (iO.out.mono (by simp)) fun j hj=>?_
    rcases Qa.1 hj with r | r
    ·exact Qu (by omega)
    exact Qh r
   have hx:=fun (j:Nat) (q:j∈C)=>HA.out.x j (Qb _ q);exact⟨fun q=>by have:=hx _ q;omega,fun q=>by have:=hx _ q;omega,fun q=>by have:=hx _ q;omega⟩)
  have MD:=lh (show W1.heap[W.heap.size]?=some (.cells #[.int .i64 k] 3 (0,0))/\W1.heap[W.heap.size+1]?=some (.cells #[.bool false] 4 (0,0))/\W1.heap[W.heap.size+1+1]?=some (.cells #[.int .i64 vn] 3 (0,0)) from⟨B6,B7,B8⟩);have Cv:=lh Y5;have Wq:=lh sz4;clear Ju b0 b1 sz4 Y5 bF aW B6 B7 B8 cd1 cr1 c8 S1 LT LD nr;go_wp2;refine (wpIn_wide (n:=9)).1 ?_;refine qT (xs:=(Plain.dR rest.length (x0 :: rest)).map (([]:List Int)++·)) (Rd:=j4) (z:=False) rfl (enters_of Tryz.func167 (by kernel_rfl) rfl)
   (wW rest.length rfl (by simp;omega) O4.out fun j hj=>(L4.out j hj).elim (fun r=>by have:=SH.out;have:=iO.out.size;omega) fun r=>r.2) (fun W W' v x own h hc ho=>h.stays hc ho)
   (fun j C5 W5=>∃ Cu T5,C5=tb :: (((W.heap.size+1) :: X)++Cu)/\BA J W0 W W1 tb N (W.heap.size+1) ms X C (V.drop k) T (off+j*Plain.xq dl (V.drop (k+1))) Cu T5 W5) (tb :: (((W.heap.size+1) :: X)++C))
   ⟨?ab1,?ab2⟩ ⟨C,T,rfl,by rw[Nat.zero_mul];exact Xq.out⟩ ?hms ?a1 ?assign ?body ?done
  case assign =>
   intro l' W5 K v hK
   gi_wp2
   exact hK
  case ab1 =>
   rintro j C5 own W5 W6 ⟨Cu,T5,rfl,hR⟩ hc ho;have s4:=Wq.out;have s1:=Cv.out;have s0:=HA.out.k.size;exact⟨Cu,T5,rfl,hR.stays HB.out HJ.out ku.out.lt hc fun j hj=>⟨by have:=(ho j hj).1;omega,by have:=(ho j hj).1;omega,(ho j hj).2.resolve_right fun q=>q.1⟩⟩
  case ab2 =>
   rintro j C5 W5 ⟨Cu,T5,rfl,hR⟩ i hi;rcases Qa.1 hi with r | r
   ·have:=hR.a.k.size;have:=HB.out;omega
   exact hR.a.x i r
  case hms =>
   intro j hj;have s4:=Wq.out;have s1:=Cv.out;rcases L4.out j hj with rfl | r
   ·refine⟨fun q=>?_,by have:=SH.out;omega⟩
    rcases Qa.1 q with q | q
    ·exact SH.out.2 q
    exact Xq.out.a.c.1 _ HUM.out q
   refine⟨fun q=>?_,r.2⟩;rcases Qa.1 q with q | q
   ·have:=HB.out;omega
   rcases Qa.1 q with q | q
   ·omega
   have:=HA.out.x j q;omega
  case body =>
   rintro l' j C5 W5 v x' hl hlC ⟨Cu,T5,rfl,hR⟩ OX hr hv;have HR:=lh hR;have hm:=ku.out.m;have ct5:=hR.a.k.cell ku.out.t hm.2.2.1;have ckb:=hR.a.k.cell ku.out.c hm.2.2.2.2;obtain⟨o5,Cy,Ds⟩:=hR.b;have c65:=(cell_of_row _ _ 0 _ _ _ (Cy.heap MD.out.1 fun q=>(Ds _ q).1 rfl)).trans (show _=some (QW .i64 k) from rfl);have c85:=(cell_of_row _ _ 0 _ _ _ (Cy.heap MD.out.2.2 fun q=>(Ds _ q).2.2 rfl)).trans (show _=some (QW .i64 vn) from rfl);obtain⟨cs5,t1,t2,t3⟩:=id hR.a.t;obtain⟨u0,t4,-,-⟩:=t3 vn (by rw[hR.a.n];exact q6);have cu5:=(cell_of_row W5 tb vn _ _ _ t1).trans (show _=some u0 from t4);have fu5:W5.frozen? ⟨tb,vn,none⟩=false:=by simp[QF,t1]
   have aZ:ag [tb] W5 (W5.setCell ⟨tb,vn,none⟩ v):=(ag.refl _ W5).setCell (Qh (by simp)) _;have akf:=aZ.cell ckb (by simpa using (ku.out.lt _ hm.2.2.2.2).2);have PV:W.heap.size≠tb:=by have:=HB.out;have:=HA.out.k.size;omega
   have c66:=aZ.cell c65 (by simpa using PV);have Nc:k+1+n=V.length:=by omega
   obtain⟨so5,sc5,rfl⟩:∃ so sc,v=.slice so x'.length sc:=by obtain⟨⟨ao,cap,e,-⟩,-⟩:=hr;exact⟨ao,cap,e⟩
   have hA6:=Eb HB.out HJ.out ku.out.lt hR.a q6 hr hv;have HG:=lh (AK Lh.out bt.out OX HX.out hR.o (hR.a.n.trans HA.out.n.symm));have Hx:=lh (HIH.out (k+1) (off+j*Plain.xq dl (V.drop (k+1))) ((W.heap.size+1) :: X) Cu (T5.set vn x') _ Nc hA6 HG.out);have Ps:=lh aZ;have hkw:IntKind.i64.wrap ((k:Int)+1)=(k:Int)+1:=IntWalk.i64_in _ (by omega);clear hl hlC hR OX hr hv hm Cy Ds t1 t2 t3 t4 aZ hA6 c65
   gi_wp2
   refine⟨trivial,?_⟩;rw[show ((k:Int)+1)=((k+1:Nat):Int) by omega];refine (CallsIn.inRound l' (callsIn_wide.2 Hx.out)).mono ?_;rintro e W7 ⟨rfl,C',T',h1,h2,h3,h4⟩;have HE:=lh (HR.out.Ao HB.out Cv.out HA.out.k.size rfl (vn:=vn) (x:=x') (by rw[Lh.out];simp) (V':=V.drop (k+1)) (fun v hv=>by rw[Lh.out];exact Qc _ hv) Ps.out h1 h2 h3 h4);clear h1 h2 h3 h4 cu5 fu5 akf c66 ct5 ckb c85
   gi_wp2
   obtain⟨e1,e2,e3⟩:=HE.out;refine⟨_,⟨C',rfl,T',?_⟩,e2,e3⟩;rw[Nat.add_mul,Nat.one_mul,<-QS];exact e1
  case done =>
   rintro D C5 W5 hD YA ⟨Cu,T5,rfl,hR⟩ hK;obtain⟨o5,Cy,Ds⟩:=hR.b;have B75:=Cy.heap MD.out.2.1 fun q=>(Ds _ q).2.1 rfl;have c7:=(cell_of_row _ _ 0 _ _ _ B75).trans (show _=some (Q3 false) from rfl);have f7:W5.frozen? ⟨W.heap.size+1,0,none⟩=false:=by simp[QF,B75]
   have s1:=Cv.out;have s4:=Wq.out;have s0:=HA.out.k.size;have hb:=HB.out;have nt:off+((Plain.dR rest.length (x0 :: rest)).map (([]:List Int)++·)).length*Plain.xq dl (V.drop (k+1))=off+Plain.xq dl (V.drop k):=by
    rw[Qs,Plain.fu,Lh.out];show _=off+Plain.fact ((dl.getD (QV vn) []).length - 1)*_;rw[Qp,bt.out];rfl
   rw[nt] at hR;have HE:=lh (ui (W3:=W5) (C':=Cu) hR.n HB.out HJ.out hR.a.k ⟨fun j hj q=>hR.a.c.1 j hj (Qc _ q),fun q=>hR.a.c.2 (Qc _ q)⟩ ku.out.lt hR.a.n hR.g (b7:=W.heap.size+1) ⟨by omega,by omega,by have:=lt_of_block B75;omega⟩
    (fun q=>by
     rcases Qj.1 q with r | r
     ·have:=HA.out.x _ (Qi _ r);omega
     exact hR.bc.2.1 r) (fun j hj=>hR.a.x j (Qc _ hj)) hR.a.t hR.a.j (ag.refl _ _) (fun j hj=>Qh hj) (.bool true))
   have aZ:ag [W.heap.size+1] W5 (W5.setCell ⟨W.heap.size+1,0,none⟩ (.bool true)):=(ag.refl _ W5).setCell (Qh (by simp)) _;have adK:=lh (aZ.heap hK (by simp;omega));have Se:=lh (show (W5.setCell ⟨W.heap.size+1,0,none⟩ (.bool true)).cell? ⟨W.heap.size+1,0,none⟩=some (.bool true) from (cell_of_row _ _ 0 _ _ _ (heap_setCell_same B75 _ _)).trans rfl);have HO:=lh hR.o;have HDW:=lh (show W.heap.size+3<=D/\W0.heap.size<=D by omega);clear hR Cy Ds B75 hD YA hK aZ nt s1 s4 s0 hb;go_wp2;generalize W5.setCell ⟨W.heap.size+1,0,none⟩ (.bool true)=W6 at *;refine jh (ds:=[D]) (by simp) (by simpa using adK.out) fun W' G5=>?_;have hw':=G5.cell Se.out (by have:=HDW.out;simp;omega);refine⟨.bool true,by simp[results,Tryz.results115,go_sem,hw'],rfl,Cu,T5,HE.out.1.stays HB.out HJ.out ku.out.lt G5 (fun j hj=>?_),HO.out,HE.out.2.1.trans G5 (fun j hj=>Qu (by rw[Qd.1 hj];have:=HDW.out;omega)),HE.out.2.2⟩;rw[Qd.1 hj];exact⟨HDW.out.2,fun cs t r q=>by rw[adK.out] at q;cases q⟩
end
end Go.Proofs.YtoiflofhcmjpoaaGreat
namespace Go.Proofs.YtoiflofhcmjpoaaGreat.Plain
theorem nn (R:List (List (List Int))):dq R.reverse=dq R:=by
 rw[pL,pL,List.map_reverse,rm]
theorem yJ:∀ {A B:List (List (List Int))} {n:Nat},dZ (A++B) n=dZ A n++dZ B (n / dq A)
 | [],B,n=>by show dZ B n=dZ B (n / 1);rw[Nat.div_one]
 | L :: A,B,n=>by
  show L.getD (n % L.length) [] :: dZ (A++B) (n / L.length)=L.getD (n % L.length) [] :: (dZ A (n / L.length)++dZ B (n / (L.length*dq A)));rw[yJ,Nat.div_div_eq_div_mul]
theorem y5:∀ {A:List (List (List Int))} {n:Nat},dZ A (n % dq A)=dZ A n
 | [],n=>rfl
 | L :: A,n=>by
  show L.getD (n % (L.length*dq A) % L.length) [] :: dZ A (n % (L.length*dq A) / L.length)=L.getD (n % L.length) [] :: dZ A (n / L.length);rw[Nat.mod_mul_right_mod,Nat.mod_mul_right_div_self,y5]
def YO:List (List (List Int))->List (List (List Int))
 | []=>[[]]
 | L :: R=>L.flatMap fun l=>(YO R).map (l :: ·)
theorem zj:∀ {R:List (List (List Int))},(YO R).length=dq R
 | []=>rfl
 | L :: R=>jY fun l _=>by rw[Qs,zj]
theorem Ez:∀ {R:List (List (List Int))} {n:Nat},n<dq R->(YO R)[n]?=some (dZ R.reverse n).reverse
 | [],n,h=>by
  have:n=0:=by have:n<1:=h;omega
  subst this;rfl
 | L :: R,n,h=>by
  have h:n<L.length*dq R:=h;have hp:0<dq R:=Nat.pos_of_ne_zero fun e=>by rw[e,Nat.mul_zero] at h;omega
  have hj:n / dq R<L.length:=Nat.div_lt_of_lt_mul (by rwa[QY]);have hx:L[n / dq R]?=some (L.getD (n / dq R) []):=by simp[Qe,hj]
  have e:n=n / dq R*dq R+n % dq R:=by rw[QY];exact (Nat.div_add_mod _ _).symm
  show (L.flatMap fun l=>(YO R).map (l :: ·))[n]?=_
  conv=>lhs;rw[e]
  rw[tu (c:=dq R) (fun l _=>by rw[Qs,zj]) hx (Nat.mod_lt _ hp),Qn,Ez (Nat.mod_lt _ hp),List.reverse_cons,yJ,nn];have e2:dZ R.reverse (n % dq R)=dZ R.reverse n:=by have:=y5 (A:=R.reverse) (n:=n);rwa[nn] at this
  rw[e2];show some _=some (dZ R.reverse n++[L.getD (n / dq R % L.length) []]).reverse;rw[Nat.mod_eq_of_lt hj];simp
theorem AH:∀ {R:List (List (List Int))} {r:List (List Int)},r∈YO R->r.length=R.length
 | [],r,h=>by rw[Qd.1 h];rfl
 | L :: R,r,h=>by
  obtain⟨l,-,h2⟩:=QM.1 h;obtain⟨r',h3,rfl⟩:=List.mem_map.1 h2;simp[AH h3]
def qV:List Int->List (List Int)->List (List Int)->List (List Int)
 | v :: V,r :: R,T=>qV V R (T.set v.toNat r)
 | _,_,T=>T
theorem Hf {D:List (List Int)}:∀ {V:List Int} {T:List (List Int)},wD D V T=(YO (V.map fun v=>fO (D.getD v.toNat []))).map fun R=>qV V R T
 | [],T=>rfl
 | v :: V,T=>by
  show Qt _ _=(Qt _ _).map _;rw[List.map_flatMap]
  congr 1
  funext l
  rw[Hf,List.map_map];rfl
theorem yN:∀ {V:List Int} {R T:List (List Int)} {i:Nat},R.length=V.length->V.Nodup->(∀ v∈V,0<=v)->i<T.length->(qV V R T).getD i []=if (i:Int)∈V then R.getD (V.idxOf (i:Int)) [] else T.getD i []
 | [],R,T,i,_,_,_,_=>by cases R <;> rfl
 | v :: V,[],T,i,h,_,_,_=>by simp at h
 | v :: V,r :: R,T,i,h,hn,h0,hi=>by
  obtain⟨h1,h2⟩:=List.nodup_cons.1 hn;show (qV V R (T.set v.toNat r)).getD i []=_;rw[yN (by simpa using h) h2 (fun u hu=>h0 u (Qc _ hu)) (by simpa using hi)];by_cases e:(i:Int)=v
  ·rw[if_neg (by rw[e];exact h1),if_pos (by simp[e]),<-e]
   simp[Qe,QQ,hi]
  have e2:v.toNat≠i:=fun q=>e (by have:=h0 v (by simp);omega);have e3:(i:Int)∈v :: V↔(i:Int)∈V:=by simp[e]
  simp only[e3];by_cases q:(i:Int)∈V
  ·rw[if_pos q,if_pos q,QQ]
   have:(v==(i:Int))=false:=by simpa using fun q=>e q.symm
   simp[this,Qe]
  rw[if_neg q,if_neg q];simp[Qe,Qk,e2]
theorem oM:∀ {V:List Int} {R T:List (List Int)},(qV V R T).length=T.length
 | [],R,T=>by cases R <;> rfl
 | v :: V,[],T=>rfl
 | v :: V,r :: R,T=>by
  show (qV V R (T.set v.toNat r)).length=_;rw[oM,Qr]
def eD (g:Gr) (b:Pt) (N:Nat):List (List Int):=(Q4 N).map fun v:Nat=>aF g b v
theorem mX {g:Gr} {b:Pt} {N:Nat} {v:Int} (h0:0<=v) (h1:v<N):(eD g b N).getD v.toNat []=aF g b v:=by
 have:v.toNat<N:=by omega
 simp only[eD,Qe,Qn,QE this];simp[Int.toNat_of_nonneg h0]
theorem CZ {g:Gr} {b:Pt} {N:Nat} (hb:b.err g=0) (hN:g.n=N):wD (eD g b N) b.v (Qf N [])=(Q4 (fH g b)).map (DY g b):=by
 have hp:=Pt.ay hb;have hv:∀ v∈b.v,0<=v/\v<N:=fun v h=>by have:=hp.vr v h;omega
 have e1:(b.v.map fun v=>fO ((eD g b N).getD v.toNat []))=b.v.map fun v=>fO (aF g b v):=List.map_congr_left fun v h=>by rw[mX (hv v h).1 (hv v h).2]
 rw[Hf,e1];refine List.ext_getElem? fun n=>?_;rw[Qn,Qn];by_cases hn:n<fH g b
 ·have iI:n<dq (b.v.map fun v=>fO (aF g b v)):=by rw[<-nn];exact hn
  rw[Ez iI,QE hn];have hR:=AH (QC (Ez iI));rw[Qs] at hR;show some _=some (oS g.n.toNat b.v (dZ (b.v.map fun v=>fO (aF g b v)).reverse n).reverse)
  congr 1
  generalize (dZ (b.v.map fun v=>fO (aF g b v)).reverse n).reverse=R at hR ⊢;rw[show g.n.toNat=N by omega];refine QJ (by rw[oM];simp[oS]) fun i h1 h2=>?_;have hi:i<N:=by rw[oM,Qm] at h1;exact h1
  have e2:∀ {l:List (List Int)} {h:i<l.length},l[i]=l.getD i []:=fun {l h}=>by simp[Qe,h]
  rw[e2,yN hR hp.vn (fun v h=>(hv v h).1) (by simpa using hi)];simp[oS,Qe,hi]
 rw[Qz (by rw[zj,<-nn];exact Qw hn),Qz (by simpa using Qw hn)];rfl
theorem A8 {D:List (List Int)} {M:Nat}:∀ {V:List Int} {T t:List (List Int)},(∀ v∈V,D.getD v.toNat []≠[]/\(D.getD v.toNat []).length<=M)->(∀ i,(T.getD i []).length<=M)->t∈wD D V T->t.length=T.length/\∀ i,(t.getD i []).length<=M
 | [],T,t,_,hT,h=>by rw[Qd.1 h];exact⟨rfl,hT⟩
 | v :: V,T,t,hV,hT,h=>by
  obtain⟨l,h1,h2⟩:=QM.1 h;have hl:=((uy (hV v (by simp)).1).1 h1).1.length_eq;have:=A8 (fun u hu=>hV u (Qc _ hu)) (fun i=>by
   by_cases e:v.toNat=i
   ·subst e
    by_cases q:v.toNat<T.length
    ·have:=(hV v (by simp)).2
     simp[Qe,q];omega
    simp[Qe,q]
   have:=hT i;simpa[Qe,Qk,e] using this) h2
  rwa[Qr] at this
theorem AO {n:Nat} (h:fact n<=5000):n<=7:=Qw fun q=>by
 have h1:∀ {m n:Nat},m<=n->fact m<=fact n:=fun {m n} h=>by
  induction n with
  | zero=>rw[Nat.le_zero.1 h];exact QN _
  | succ n ih =>
   rcases Nat.lt_or_ge m (n+1) with q | q
   ·exact Nat.le_trans (ih (by omega)) (by show fact n<=(n+1)*fact n;exact Nat.le_mul_of_pos_left _ (by omega))
   rw[show m=n+1 by omega];exact QN _
 have h2:fact 8<=fact n:=h1 q;have h3:fact 8=40320:=by decide
 omega
end Go.Proofs.YtoiflofhcmjpoaaGreat.Plain
namespace Go.Proofs.YtoiflofhcmjpoaaGreat
open Go.RowKit Go.Maps
theorem xK {w:World} {B g N:Nat} (C:List Nat) (h:w.ownsRow B 25 1 (.slice (some ⟨g,0,none⟩) N N) N (madeCells (QO none 0 0).cells (N*1)).toList):gL w g C (Qf N []):=by
 rcases h.2 with ⟨e,-⟩ | ⟨g',cap,cur,e,-,hh,-,-,hs,ht⟩
 ·cases e
 cases e;have e1:(madeCells (QO none 0 0).cells (N*1)).toList=Qf N (.slice none 0 0):=by
  show (madeCells #[QO none 0 0] (N*1)).toList=_;rw[Q2,toList_madeCells_one]
 rw[e1,Q2,Qx (by simp[hs])] at ht;refine⟨cur,hh,by simp[hs],fun i hi=>⟨.slice none 0 0,?_,⟨?_,⟨_,_,_,rfl,by omega,by omega⟩⟩,by simp[iN,Qo]⟩⟩
 ·rw[<-Array.getElem?_toList,ht]
  rw[Qm] at hi;simp[hi]
 rw[Qm] at hi;have:(Qf N ([]:List Int)).getD i []=[]:=by simp[Qe,hi]
 rw[this];exact al.nil w
structure adE (w:World) (db vb N:Nat) (V:List Int) (dl:List (List Int)) (ms:List Nat):Prop where
 v:∃ vo vc,w.cell? ⟨vb,0,none⟩=some (.slice vo V.length vc)/\al w (.slice vo V.length vc) V/\∀ j∈iN (.slice vo V.length vc),j∈ms
 d:∃ dB zc dc,w.cell? ⟨db,0,none⟩=some (.slice (some ⟨dB,zc,none⟩) N dc)/\dB∈ms/\∀ v∈V,∃ u,w.cell? ⟨dB,zc+v.toNat,none⟩=some u/\j4 w u (dl.getD v.toNat [])/\∀ j∈iN u,j∈ms
 m:vb∈ms/\db∈ms
 lt:∀ j∈ms,j<w.heap.size
 ok:∀ v∈V,0<=v/\v<N/\0<(dl.getD v.toNat []).length/\(dl.getD v.toNat []).length<1000
theorem BQ (ao bo:Option Addr) (n c m d:Nat) (w:World) :
  Calls Tryz.prog 67 #[.slice ao n c,.slice bo m d] w fun e w'=>e=.returned (.func (.func 114) #[] #[.pointer (some ⟨w.heap.size,0,none⟩),.pointer (some ⟨w.heap.size+1,0,none⟩)])/\w'=(w.alloc (.cells #[.slice ao n c] 48)).alloc (.cells #[.slice bo m d] 25):=by
 go_enter Tryz.func67,Tryz.ntmps67
 go_wp2;go_ret;exact⟨rfl,rfl⟩
set_option maxRecDepth 100000 in
set_option maxHeartbeats 4000000 in
theorem uQ {w:World} {db vb N:Nat} {V:List Int} {dl:List (List Int)} {ms:List Nat} (h:adE w db vb N V dl ms) (hN:N<1000000) (hVl:V.length<1000000) :
  Nj True 114 #[.pointer (some ⟨db,0,none⟩),.pointer (some ⟨vb,0,none⟩)] (Plain.wD dl V (Qf N [])) cf ms w:=by
 intro l J C W hc hJ h0 hm hY;have H:=lh h;have HJ:=lh hJ;have H0:=lh h0;have HM:=lh hm;have HY:=lh hY;have HC:=lh hc;obtain⟨dB,zc,dc,d1,d2,d3⟩:=h.d;have cd:=fun o=>bP (hc.dp d1) o;clear h hJ h0 hm hY hc d2 d3;have rsf:∀ (x:World) (a:Addr) (fn:Fn) (f c:Array Value) (m:Mode),(store a (.func fn f c) m).run Tryz.prog x=stored Tryz.prog x a (.func fn f c) m:=fun x a fn f c m=>run_store _ x a _ m rfl
 go_enter Tryz.func114,Tryz.ntmps114
 go_wp2_with (at_make;refine vG ji rfl _ _ rfl (B:=W.heap.size) (n:=N) rfl rfl (by simp) (by omega) ?_;intro w2 h2 c2;have H2:=lh h2;have C2:=lh c2;clear h2 c2)
 have H2:=H2.out;rw[Qg] at H2;have dj:W.heap.size+2<=w2.heap.size:=by
  obtain⟨cs,q,-⟩:=xK [] H2;have:=lt_of_block q;omega
 have HD:=H.out;have hCl:=HJ.out.lt H0.out;obtain⟨fv,Es⟩:∃ fv,Value.func (Fn.func 115) #[] #[Qq (some ⟨vb,0,none⟩),Qq (some ⟨W.heap.size,0,none⟩),Qq (some ⟨w2.heap.size,0,none⟩),Qq (some ⟨db,0,none⟩),Qq (some ⟨w2.heap.size+1,0,none⟩)]=fv:=⟨_,rfl⟩;have c0:ag [] w2 ((w2.alloc (.cells #[.slice (some ⟨W.heap.size+1,0,none⟩) N N] 48)).alloc (.cells #[fv] 80)):=((ag.refl [] w2).alloc _).alloc _;have e1:((w2.alloc (.cells #[.slice (some ⟨W.heap.size+1,0,none⟩) N N] 48)).alloc (.cells #[fv] 80)).cell? ⟨w2.heap.size,0,none⟩=some (.slice (some ⟨W.heap.size+1,0,none⟩) N N) :=
  bP ((cell_of_row _ _ 0 _ _ _ (heap_alloc_new w2 _)).trans rfl) _
 have e2:((w2.alloc (.cells #[.slice (some ⟨W.heap.size+1,0,none⟩) N N] 48)).alloc (.cells #[fv] 80)).cell? ⟨w2.heap.size+1,0,none⟩=some fv:=by
  have:=heap_alloc_new (w2.alloc (.cells #[.slice (some ⟨W.heap.size+1,0,none⟩) N N] 48)) (.cells #[fv] 80);rw[Qg] at this;exact (cell_of_row _ _ 0 _ _ _ this).trans rfl
 have z0:((w2.alloc (.cells #[.slice (some ⟨W.heap.size+1,0,none⟩) N N] 48)).alloc (.cells #[fv] 80)).heap.size=w2.heap.size+2:=by simp
 rw[Es];generalize (w2.alloc (.cells #[.slice (some ⟨W.heap.size+1,0,none⟩) N N] 48)).alloc (.cells #[fv] 80)=W0 at *;have c20:=C2.out.tr c0;have cW0:ag [] W W0:=((ag.refl [] W).alloc _).tr c20;have YX:=HC.out.tr cW0;have ja:=HC.out.size;refine (Bj (W0:=W0) (vb:=vb) (yb:=W.heap.size) (tv:=w2.heap.size) (db:=db) (cb:=w2.heap.size+1) (tb:=W.heap.size+1) (l:=l) (N:=N) (B:=W.heap.size) (V:=V) (dl:=dl) (ms:=W.heap.size :: w2.heap.size :: (w2.heap.size+1) :: ms)
  ⟨?_,?_,e1,?_,by rw[Es];exact e2,⟨by simp[HD.m.1],by simp,by simp,by simp[HD.m.2],by simp⟩,fun j hj=>?_,HD.ok⟩ HJ.out ⟨by omega,by omega⟩ hN hVl (xs:=Plain.wD dl V (Qf N [])) HY.out V.length 0 0 [] C (Qf N []) W0 (by omega)
  ⟨HJ.out.aD H0.out cW0 (by simp),⟨[],ag.refl _ _,by simp⟩,⟨fun j hj q=>?_,fun q=>?_⟩,fun j hj=>?_,?_,Qm⟩ (fun i y hy=>by rw[QG];exact hy)).mono ?_
 ·obtain⟨vo,vc,k1,k2,k3⟩:=HD.v
  exact⟨vo,vc,YX.dp k1,k2.fresh YX,fun j hj=>by simp[k3 j hj]⟩
 ·exact c20.dp ((cell_of_row _ _ 0 _ _ _ (heap_alloc_new W _)).trans rfl)
 ·obtain⟨dB,zc,dc,k1,k2,k3⟩:=HD.d
  refine⟨dB,zc,dc,YX.dp k1,by simp[k2],fun v hv=>?_⟩;obtain⟨u,k4,k5,k6⟩:=k3 v hv;exact⟨u,YX.dp k4,⟨k5.1.fresh YX,k5.2⟩,fun j hj=>by simp[k6 j hj]⟩
 ·simp only[Qa] at hj
  rcases hj with r | r | r | r
  ·omega
  ·omega
  ·omega
  have:=HD.lt j r;omega
 ·have q:j∈C:=by simpa using q
  have:=hCl j q;simp only[Qa] at hj;rcases hj with r | r | r | r
  ·omega
  ·omega
  ·omega
  exact HM.out j r q
 ·have q:W.heap.size+1∈C:=by simpa using q
  have:=hCl _ q;omega
 ·have hj:j∈C:=by simpa using hj
  have:=hCl j hj;omega
 ·exact (xK ([]++C) H2).stays c0 (by simp)
 rintro e w3 ⟨rfl,C',T',h1,-,-,-⟩;have HE:=lh h1.j;clear h1 e1 e2 z0 c0 c20 cW0 YX;go_wp2
 go_end0
 exact⟨⟨_,rfl⟩,C',by have:=HE.out;rwa[QG,List.drop_zero,<-Plain.tf (T:=Qf N [])] at this⟩
end Go.Proofs.YtoiflofhcmjpoaaGreat
namespace Go.Proofs.YtoiflofhcmjpoaaGreat
open Go.RowKit Go.Maps
theorem Mv {T:List (List Int)} {k:Nat} {row:List Int} (hk:k<T.length) (hr:T.getD k []=row):(T.take k++Qf (T.length - k) []).set k row=T.take (k+1)++Qf (T.length - (k+1)) []:=by
 have e:T.take (k+1)=T.take k++[row]:=by
  rw[List.take_succ_eq_append_getElem hk,<-hr];simp[Qe,hk]
 rw[e,List.set_append_right _ _ (by simp;omega),show T.length - k=(T.length - (k+1))+1 by omega,List.replicate_succ,List.length_take,Nat.min_eq_left (by omega),QZ,List.set_cons_zero];simp
set_option maxRecDepth 100000 in
set_option maxHeartbeats 4000000 in
theorem Fz (ao:Option Addr) (tc n:Nat) (T:List (List Int)) (w:World) (hn:T.length=n) (hT:n<100000) (hl:∀ l∈T,l.length<=1000000000) (ht:cf w (.slice ao n tc) T) :
  Calls Tryz.prog 68 #[.slice ao n tc] w fun e w'=>∃ ob vs,e=.returned (.slice (some ⟨ob,0,none⟩) n n)/\dw w' w.heap.size (.slice (some ⟨ob,0,none⟩) n n) vs T/\ag [] w w':=by
 have HT:=lh ht;have HN:=lh hn;have HL:=lh hl;clear ht hn hl
 go_enter Tryz.func68,Tryz.ntmps68
 go_wp2_with (at_make;refine vG ji rfl _ _ rfl (B:=w.heap.size) (n:=n) rfl rfl (QN _) (by omega) ?_;intro w2 h2 c2;have H2:=lh (dw.made h2);have C2:=lh c2;clear h2 c2)
 obtain⟨ob,qz⟩:∃ ob,w.heap.size=ob:=⟨_,rfl⟩;rw[qz] at H2 ⊢
 go_loopw [11] (fun c wr=>∃ k:Nat,k<=n/\c=.int .i64 k/\∃ vs,dw wr ob (.slice (some ⟨ob,0,none⟩) n n) vs (T.take k++Qf (T.length - k) [])/\ag [] w wr) (fun c _=>n - (intOf c).toNat)
 case atStart=>exact⟨0,Nat.zero_le _,rfl,_,by have:=H2.out;rwa[List.take_zero,Qy,Nat.sub_zero,HN.out],C2.out⟩
 case round =>
  obtain⟨k,hk,rfl,vs,hr,hc⟩:=hrel;have HR:=lh hr;have HC:=lh hc;by_cases aL:k<n
  ·obtain⟨b,off,u,e,u1,u2,u3⟩:=(HT.out.fresh hc).adN (k:=k) (by rw[HN.out];exact aL)
   subst e;have U3:=lh u3;have sM:vs.length=n:=by have:=hr.len;rw[this];simp[HN.out];omega
   have HUL:=lh (HL.out (T.getD k []) (by simp[Qe,show k<T.length by rw[HN.out];exact aL]));obtain⟨row,aJ⟩:∃ row,T.getD k []=row:=⟨_,rfl⟩;rw[aJ] at u3 U3 HUL;have bt:=lh aJ;obtain⟨uo,uc,rfl,-⟩:=id u3;clear hr hc u2 u3 H2 C2 aJ
   go_wp2_with fail
   refine (yn _ row _ HUL.out U3.out).mono ?_;rintro e w5 ⟨v5,rfl,pf,eO⟩;obtain⟨o5,q5,rfl⟩:=pf.shape;have c5:=(HR.out.fresh eO).cell (k:=k) (by omega);have f5:=IQ (HR.out.fresh eO).out k;have O6:=lh ((HR.out.fresh eO).set (k:=k) (by omega) (pf.base (by have:=HC.out.size;omega)));have ky:=lh ((HC.out.tr eO).setCell (p:=⟨ob,k,none⟩) (Qu (Q0 qz)) (.slice o5 row.length q5));clear pf eO;obtain⟨x5,hx5⟩:∃ x5,vs.getD k undef=x5:=⟨_,rfl⟩;rw[hx5] at c5;go_wp2
   go_roundw
   case rel =>
    refine⟨k+1,by omega,by go_num,vs.set k (.slice o5 row.length q5),?_,ky.out⟩;have:=O6.out;rwa[Mv (by rw[HN.out];exact aL) bt.out] at this
   case measure=>simp[intOf];omega
  have e:k=n:=by omega
  subst e;have yH:=lh (show dw wr ob (.slice (some ⟨ob,0,none⟩) k k) vs T by
   have:=hr;rwa[HN.out,QZ,List.replicate_zero,List.append_nil,Qx (Q0 HN.out)] at this)
  clear hr hc H2 C2 HR;go_wp2;go_ret;exact⟨ob,vs,rfl,by rw[qz];exact yH.out,HC.out⟩
end Go.Proofs.YtoiflofhcmjpoaaGreat
