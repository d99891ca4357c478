/- Counting classes, and edges taken out of a map of turns: Euler's formula. No program here. -/
import Derived.Test.YtkacjmoamgjfpaaGreatA9Around9
namespace Go.Proofs.YtkacjmoamgjfpaaGreat.aA
structure Eqv (R:Int→Int→Prop):Prop where
 refl:∀ x,R x x
 symm:∀ {x y},R x y→R y x
 trans:∀ {x y z},R x y→R y z→R x z
structure aGd (R:Int→Int→Prop) (K T:List Int):Prop where
 sub:∀ t∈T,t∈K
 all:∀ x∈K,∃ t∈T,R x t
 one:T.Pairwise fun a b=>¬ R a b
theorem zV {R:Int→Int→Prop} (h:Eqv R):∀ {T T':List Int},(T.Pairwise fun a b=>¬ R a b)→(∀ t∈T,∃ t'∈T',R t t')→T.length≤T'.length
 | [],_,_,_=>Nat.zero_le _
 | a :: T,T',hp,hm=>by
  rw[List.pairwise_cons] at hp;obtain⟨b,hb,hab⟩:=hm a (by simp);have h1:=zV h (T:=T) (T':=T'.erase b) hp.2 (fun t ht=>by
   obtain⟨c,hc,htc⟩:=hm t (by simp[ht]);refine⟨c,?_,htc⟩;have hne:c≠b:=fun e=>hp.1 t ht (h.trans hab (h.symm (e ▸ htc)));exact (List.mem_erase_of_ne hne).2 hc)
  have h2:=List.length_erase_of_mem hb;have h3:0<T'.length:=List.length_pos_of_mem hb;rw[List.length_cons];omega
open Classical in
noncomputable def nB (R:Int→Int→Prop):List Int→List Int
 | []=>[]
 | x :: K=>if ∃ y∈nB R K,R x y then nB R K else x :: nB R K
noncomputable def cnt (R:Int→Int→Prop) (K:List Int):Nat:=(nB R K).length
theorem pS {R:Int→Int→Prop} (h:Eqv R):∀ K:List Int,aGd R K (nB R K)
 | []=>⟨by simp[nB],by simp,by simp[nB]⟩
 | x :: K=>by
  have ih:=pS h K;by_cases hx:∃ y∈nB R K,R x y
  ·have e:nB R (x :: K)=nB R K:=by simp only[nB];rw[if_pos hx]
   rw[e];refine⟨fun t ht=>List.mem_cons_of_mem _ (ih.sub t ht),fun y hy=>?_,ih.one⟩;rcases List.mem_cons.1 hy with rfl | hy
   ·exact hx
   exact ih.all y hy
  have e:nB R (x :: K)=x :: nB R K:=by simp only[nB];rw[if_neg hx]
  rw[e];refine⟨fun t ht=>?_,fun y hy=>?_,?_⟩
  ·rcases List.mem_cons.1 ht with rfl | ht
   ·simp
   exact List.mem_cons_of_mem _ (ih.sub t ht)
  ·rcases List.mem_cons.1 hy with rfl | hy
   ·exact⟨y,by simp,h.refl y⟩
   obtain⟨t,ht,hr⟩:=ih.all y hy;exact⟨t,List.mem_cons_of_mem _ ht,hr⟩
  rw[List.pairwise_cons];exact⟨fun y hy hr=>hx ⟨y,hy,hr⟩,ih.one⟩
theorem zW {R:Int→Int→Prop} (h:Eqv R) {K T:List Int} (hT:aGd R K T):cnt R K=T.length:=by
 have h1:=pS h K;exact Nat.le_antisymm (zV h h1.one fun t ht=>hT.all t (h1.sub t ht)) (zV h hT.one fun t ht=>h1.all t (hT.sub t ht))
theorem aA8 {R Q:Int→Int→Prop} (hR:Eqv R) (hQ:Eqv Q) {K:List Int} (h:∀ x∈K,∀ y∈K,R x y→Q x y):cnt Q K≤cnt R K:=by
 have h1:=pS hR K;have h2:=pS hQ K;refine zV hQ h2.one fun t ht=>?_;obtain⟨u,hu,hr⟩:=h1.all t (h2.sub t ht);exact⟨u,hu,h t (h2.sub t ht) u (h1.sub u hu) hr⟩
theorem aEl {R Q:Int→Int→Prop} (hR:Eqv R) (hQ:Eqv Q) {K:List Int} (h:∀ x∈K,∀ y∈K,R x y↔Q x y):cnt R K=cnt Q K :=
 Nat.le_antisymm (aA8 hQ hR fun x hx y hy=>(h x hx y hy).2) (aA8 hR hQ fun x hx y hy=>(h x hx y hy).1)
theorem vP {R:Int→Int→Prop} (h:Eqv R) {K:List Int} (ht:∀ x∈K,∀ y∈K,R x y):cnt R K≤1:=by
 have hr:=pS h K;unfold cnt
 match e:nB R K with
 | []=>simp
 | [x]=>simp
 | x :: y :: l =>
  rw[e] at hr;exact absurd (ht x (hr.sub x (by simp)) y (hr.sub y (by simp))) ((List.pairwise_cons.1 hr.one).1 y (by simp))
def Jn (R:Int→Int→Prop) (a b x y:Int):Prop:=R x y∨(R x a∧R b y)∨(R x b∧R a y)
theorem Jn.eqv {R:Int→Int→Prop} (h:Eqv R) (a b:Int):Eqv (Jn R a b):=by
 refine⟨fun x=>Or.inl (h.refl x),fun {x y} hxy=>?_,fun {x y z} hxy hyz=>?_⟩
 ·rcases hxy with q | ⟨q,r⟩ | ⟨q,r⟩
  ·exact Or.inl (h.symm q)
  ·exact Or.inr (Or.inr ⟨h.symm r,h.symm q⟩)
  exact Or.inr (Or.inl ⟨h.symm r,h.symm q⟩)
 rcases hxy with q | ⟨q,r⟩ | ⟨q,r⟩ <;> rcases hyz with s | ⟨s,t⟩ | ⟨s,t⟩
 ·exact Or.inl (h.trans q s)
 ·exact Or.inr (Or.inl ⟨h.trans q s,t⟩)
 ·exact Or.inr (Or.inr ⟨h.trans q s,t⟩)
 ·exact Or.inr (Or.inl ⟨q,h.trans r s⟩)
 ·exact Or.inr (Or.inl ⟨q,t⟩)
 ·exact Or.inl (h.trans q t)
 ·exact Or.inr (Or.inr ⟨q,h.trans r s⟩)
 ·exact Or.inl (h.trans q t)
 exact Or.inr (Or.inr ⟨q,t⟩)
theorem aCy {R:Int→Int→Prop} (h:Eqv R):∀ {T:List Int},(T.Pairwise fun a b=>¬ R a b)→∀ {u w:Int},u∈T→w∈T→R u w→u=w
 | [],_,_,_,hu,_,_=>by simp at hu
 | a :: T,hp,u,w,hu,hw,hr=>by
  rw[List.pairwise_cons] at hp;rcases List.mem_cons.1 hu with e1 | hu <;> rcases List.mem_cons.1 hw with e2 | hw
  ·rw[e1,e2]
  ·exact absurd (e1 ▸ hr) (hp.1 w hw)
  ·exact absurd (h.symm (e2 ▸ hr)) (hp.1 u hu)
  exact aCy h hp.2 hu hw hr
theorem lT {R:Int→Int→Prop} (h:Eqv R) {K:List Int} {a b:Int} (hab:R a b):cnt (Jn R a b) K=cnt R K:=by
 refine aEl (Jn.eqv h a b) h fun x _ y _=>⟨fun q=>?_,Or.inl⟩;rcases q with q | ⟨q,r⟩ | ⟨q,r⟩
 ·exact q
 ·exact h.trans (h.trans q hab) r
 exact h.trans (h.trans q (h.symm hab)) r
theorem aG3 {R:Int→Int→Prop} (h:Eqv R) {K:List Int} {a b:Int} (ha:a∈K) (hb:b∈K) (hab:¬ R a b):cnt (Jn R a b) K+1=cnt R K:=by
 have hr:=pS h K;obtain⟨s,hs,has⟩:=hr.all a ha;obtain⟨t,ht,hbt⟩:=hr.all b hb;have hst:s≠t:=fun e=>hab (h.trans has (h.symm (e ▸ hbt)));have hnd:(nB R K).Nodup:=hr.one.imp fun {a b} (hn:¬ R a b) (e:a=b)=>hn (by rw[e];exact h.refl _);have hT:aGd (Jn R a b) K ((nB R K).erase t):=by
  refine⟨fun u hu=>hr.sub u (List.mem_of_mem_erase hu),fun x hx=>?_,?_⟩
  ·obtain⟨u,hu,hxu⟩:=hr.all x hx
   by_cases e:u=t
   ·subst e
    exact⟨s,(List.mem_erase_of_ne hst).2 hs,Or.inr (Or.inr ⟨h.trans hxu (h.symm hbt),has⟩)⟩
   exact⟨u,(List.mem_erase_of_ne e).2 hu,Or.inl hxu⟩
  refine (hr.one.sublist List.erase_sublist).imp_of_mem fun {u w} hu hw hn hj=>?_;have hut:u≠t:=fun e=>by rw[e] at hu;exact (List.Nodup.not_mem_erase hnd) hu
  have hwt:w≠t:=fun e=>by rw[e] at hw;exact (List.Nodup.not_mem_erase hnd) hw
  rcases hj with q | ⟨q,r⟩ | ⟨q,r⟩
  ·exact hn q
  ·exact hwt (aCy h hr.one (List.mem_of_mem_erase hw) ht (h.trans (h.symm r) hbt))
  exact hut (aCy h hr.one (List.mem_of_mem_erase hu) ht (h.trans q hbt))
 rw[zW (Jn.eqv h a b) hT,List.length_erase_of_mem ht];have:=List.length_pos_of_mem ht;show (nB R K).length - 1+1=(nB R K).length;omega
theorem tN {R:Int→Int→Prop} (h:Eqv R) {K:List Int} {a b:Int} (ha:a∈K) (hb:b∈K):cnt R K≤cnt (Jn R a b) K+1∧cnt (Jn R a b) K≤cnt R K:=by
 by_cases hab:R a b
 ·rw[lT h hab];omega
 have:=aG3 h ha hb hab;omega
def Gen (R:Int→Int→Prop):List Int→Int→Int→Prop
 | []=>R
 | e :: E=>Jn (Gen R E) (2*e) (2*e+1)
theorem Gen.eqv {R:Int→Int→Prop} (h:Eqv R):∀ E,Eqv (Gen R E)
 | []=>h
 | _ :: E=>Jn.eqv (Gen.eqv h E) _ _
theorem Gen.base {R:Int→Int→Prop} {x y:Int} (h:R x y):∀ E,Gen R E x y
 | []=>h
 | _ :: E=>Or.inl (Gen.base h E)
theorem Gen.aH4 {R:Int→Int→Prop} (h:Eqv R) {e:Int}:∀ {E:List Int},e∈E→Gen R E (2*e) (2*e+1)
 | [],he=>by simp at he
 | a :: E,he=>by
  rcases List.mem_cons.1 he with rfl | he
  ·exact Or.inr (Or.inl ⟨(Gen.eqv h E).refl _,(Gen.eqv h E).refl _⟩)
  exact Or.inl (Gen.aH4 h he)
def Same (C:List (List Int)) (x y:Int):Prop:=x=y∨∃ c∈C,x∈c∧y∈c
theorem wX:∀ {C:List (List Int)},C.flatten.Nodup→∀ {l m:List Int} {x:Int},l∈C→m∈C→x∈l→x∈m→l=m
 | [],_,_,_,_,hl,_,_,_=>by simp at hl
 | c :: C,hn,l,m,x,hl,hm,h1,h2=>by
  rw[List.flatten_cons,List.nodup_append] at hn;rcases List.mem_cons.1 hl with e1 | hl <;> rcases List.mem_cons.1 hm with e2 | hm
  ·rw[e1,e2]
  ·exact absurd rfl (hn.2.2 x (e1 ▸ h1) x (List.mem_flatten.2 ⟨m,hm,h2⟩))
  ·exact absurd rfl (hn.2.2 x (e2 ▸ h2) x (List.mem_flatten.2 ⟨l,hl,h1⟩))
  exact wX hn.2.1 hl hm h1 h2
theorem Same.eqv {C:List (List Int)} (hn:C.flatten.Nodup):Eqv (Same C):=by
 refine⟨fun x=>Or.inl rfl,fun {x y} h=>?_,fun {x y z} h k=>?_⟩
 ·rcases h with rfl | ⟨c,hc,h1,h2⟩
  ·exact Or.inl rfl
  exact Or.inr ⟨c,hc,h2,h1⟩
 rcases h with rfl | ⟨c,hc,h1,h2⟩
 ·exact k
 rcases k with rfl | ⟨d,hd,k1,k2⟩
 ·exact Or.inr ⟨c,hc,h1,h2⟩
 obtain rfl:=wX hn hc hd h2 k1;exact Or.inr ⟨c,hc,h1,k2⟩
theorem zJ {Q:Int→Int→Prop} (hQ:Eqv Q) {p:Int→Int} {z:Int}:∀ {l:List Int} {x:Int},Trail p x l z→(∀ w∈x :: l,Q w (p w))→∀ y∈x :: l,Q x y
 | [],x,_,_,y,hy=>by simp at hy;rw[hy];exact hQ.refl x
 | a :: l,x,h,hs,y,hy=>by
  have e:Q x a:=by rw[←h.1];exact hs x (by simp)
  rcases List.mem_cons.1 hy with rfl | hy
  ·exact hQ.refl y
  exact hQ.trans e (zJ hQ h.2 (fun w hw=>hs w (List.mem_cons_of_mem _ hw)) y hy)
theorem aF4 {Q:Int→Int→Prop} (hQ:Eqv Q) {p:Int→Int} {c:List Int} (h:Ring p c) (hs:∀ w∈c,Q w (p w)):∀ x∈c,∀ y∈c,Q x y:=by
 intro x hx y hy;obtain⟨l,hr,hp⟩:=h.from hx;exact zJ hQ (show Trail p x l x from hr) (fun w hw=>hs w (hp.mem_iff.1 hw)) y (hp.mem_iff.2 hy)
theorem Same.least {Q:Int→Int→Prop} (hQ:Eqv Q) {p:Int→Int} {C:List (List Int)} (h:cF p C) (hs:∀ w∈C.flatten,Q w (p w)) {x y:Int} (hxy:Same C x y):Q x y:=by
 rcases hxy with rfl | ⟨c,hc,h1,h2⟩
 ·exact hQ.refl x
 exact aF4 hQ (h.ring c hc) (fun w hw=>hs w (List.mem_flatten.2 ⟨c,hc,hw⟩)) x h1 y h2
theorem Same.step {p:Int→Int} {C:List (List Int)} (h:cF p C) {x:Int} (hx:x∈C.flatten):Same C x (p x):=by
 obtain⟨c,hc,hxc⟩:=List.mem_flatten.1 hx;exact Or.inr ⟨c,hc,hxc,((h.ring c hc).aBz).mem_iff.1 (List.mem_map.2 ⟨x,hxc,rfl⟩)⟩
theorem aGe {p:Int→Int} {C:List (List Int)} {K:List Int} (h:cF p C) (hp:C.flatten.Perm K):cnt (Same C) K=C.length:=by
 have hne:∀ c∈C,c.headD 0∈c:=by
  intro c hc;have:=h.ring c hc;cases c with
  | nil=>exact absurd this (by simp[Ring])
  | cons x l=>simp
 have hT:aGd (Same C) K (C.map (·.headD 0)):=by
  refine⟨fun t ht=>?_,fun x hx=>?_,?_⟩
  ·obtain⟨c,hc,rfl⟩:=List.mem_map.1 ht
   exact hp.mem_iff.1 (List.mem_flatten.2 ⟨c,hc,hne c hc⟩)
  ·obtain⟨c,hc,hxc⟩:=List.mem_flatten.1 (hp.mem_iff.2 hx)
   exact⟨_,List.mem_map.2 ⟨c,hc,rfl⟩,Or.inr ⟨c,hc,hxc,hne c hc⟩⟩
  rw[List.pairwise_map];have hpw:=(List.pairwise_flatten.1 h.nodup).2;refine hpw.imp_of_mem fun {c d} hc hd hn hs=>?_;rcases hs with e | ⟨m,hm,h1,h2⟩
  ·exact hn _ (hne c hc) _ (hne d hd) e
  obtain rfl:=wX h.nodup hm hc h1 (hne c hc);exact hn _ h2 _ (hne d hd) rfl
 rw[zW (Same.eqv h.nodup) hT,List.length_map]
def tw:List Int→Int→Int
 | [],d=>d
 | e :: S,d=>tw S (swp (2*e) (2*e+1) d)
theorem aHy {a b x:Int} {K:List Int} (ha:a∈K) (hb:b∈K) (hx:x∈K):swp a b x∈K:=by
 unfold swp;split
 ·exact hb
 split
 ·exact ha
 exact hx
theorem aF3 {K:List Int}:∀ {S:List Int},(∀ e∈S,2*e∈K∧2*e+1∈K)→∀ {x:Int},x∈K→tw S x∈K
 | [],_,_,hx=>hx
 | e :: S,h,x,hx=>aF3 (fun f hf=>h f (List.mem_cons_of_mem _ hf)) (aHy (h e (by simp)).1 (h e (by simp)).2 hx)
theorem aHw {R:Int→Int→Prop} (h:Eqv R) (e:Int) (E:List Int) (x:Int):Gen R (e :: E) x (swp (2*e) (2*e+1) x):=by
 have hE:=Gen.eqv h (e :: E);have he:=Gen.aH4 h (e:=e) (E:=e :: E) (by simp);unfold swp;split
 ·rename_i q;rw[q];exact he
 split
 ·rename_i q;rw[q];exact hE.symm he
 exact hE.refl x
theorem aFO {R:Int→Int→Prop} (h:Eqv R):∀ (S:List Int) (x:Int),Gen R S x (tw S x)
 | [],x=>h.refl x
 | e :: S,x=>(Gen.eqv h (e :: S)).trans (aHw h e S x) (Or.inl (aFO h S _))
theorem aGc {b:Int→Int} {B C:List (List Int)} {K S:List Int} (hb:cF b B) (hB:B.flatten.Perm K) (hS:∀ e∈S,2*e∈K∧2*e+1∈K)
  (hC:cF (fun x=>b (tw S x)) C) (hCK:C.flatten.Perm K) {x y:Int} (h:Same C x y):Gen (Same B) S x y:=by
 have hE:=Same.eqv hb.nodup;refine Same.least (Gen.eqv hE S) hC (fun w hw=>?_) h;have hwK:=hCK.mem_iff.1 hw;exact (Gen.eqv hE S).trans (aFO hE S w) (Gen.base (Same.step hb (hB.mem_iff.2 (aF3 hS hwK))) S)
theorem aBR (e:Int):(2*e:Int)≠2*e+1:=by omega
theorem aIi (e:Int) (S:List Int) (x:Int):tw (e :: S) (swp (2*e) (2*e+1) x)=tw S x:=by
 show tw S (swp _ _ (swp _ _ x))=tw S x;rw[aDN]
theorem aBD {b:Int→Int} {B:List (List Int)} {K:List Int} (hb:cF b B) (hB:B.flatten.Perm K):∀ {S:List Int},(∀ e∈S,2*e∈K∧2*e+1∈K) →
  ∀ {C:List (List Int)},cF (fun x=>b (tw S x)) C→C.flatten.Perm K→B.length+C.length≤2*cnt (Gen (Same B) S) K+S.length
 | [],_,C,hC,hCK=>by
  have h1:=cF.count hb hC (hB.trans hCK.symm);have h2:cnt (Gen (Same B) []) K=B.length:=aGe hb hB;rw[h2,List.length_nil];omega
 | e :: S,hS,C,hC,hCK=>by
  have hE:=Same.eqv hb.nodup;have hS':∀ f∈S,2*f∈K∧2*f+1∈K:=fun f hf=>hS f (List.mem_cons_of_mem _ hf);obtain⟨he1,he2⟩:=hS e (by simp);obtain⟨D,hD,hDC,hcase⟩:=hC.aHV (hCK.mem_iff.2 he1) (hCK.mem_iff.2 he2) (aBR e);have hD':cF (fun x=>b (tw S x)) D:=hD.congr fun x _=>by show b (tw (e :: S) (swp _ _ x))=_;rw[aIi]
  have ih:=aBD hb hB hS' hD' (hDC.trans hCK);have hj:=tN (Gen.eqv hE S) (K:=K) he1 he2;have hg:cnt (Gen (Same B) (e :: S)) K=cnt (Jn (Gen (Same B) S) (2*e) (2*e+1)) K:=rfl;rw[hg,List.length_cons];rcases hcase with ⟨h1,_⟩ | ⟨h1,c,hc,h2,h3⟩
  ·omega
  have hs:=aGc hb hB hS' hD' (hDC.trans hCK) (Or.inr ⟨c,hc,h2,h3⟩);rw[lT (Gen.eqv hE S) hs];omega
structure Cut (b:Int→Int) (B:List (List Int)) (K:List Int) (R:Int→Int→Prop) (T S:List Int):Prop where
 out:∀ e∈T,2*e∈K∧2*e+1∈K
 kept:∀ e∈S,2*e∈K∧2*e+1∈K
 left:∀ x∈K,Gen R T x (b (tw S x))
 flat:∀ C,cF (fun x=>b (tw S x)) C→C.flatten.Perm K→B.length+C.length=2*cnt (Gen (Same B) S) K+S.length∧cnt (Gen (Same B) S) K+cnt (Gen R T) K=C.length+1
def dU (R:Int→Int→Prop):List (Int × Int)→Int→Int→Prop
 | []=>R
 | a :: L=>dU (Jn R a.1 a.2) L
theorem dU.append (R:Int→Int→Prop):∀ (L M:List (Int × Int)),dU R (L++M)=dU (dU R L) M
 | [],_=>rfl
 | a :: L,M=>dU.append (Jn R a.1 a.2) L M
theorem dU.eqv {R:Int→Int→Prop} (h:Eqv R):∀ L,Eqv (dU R L)
 | []=>h
 | a :: L=>dU.eqv (Jn.eqv h a.1 a.2) L
theorem dU.base:∀ (L:List (Int × Int)) {R:Int→Int→Prop} {x y:Int},R x y→dU R L x y
 | [],_,_,_,h=>h
 | _ :: L,_,_,_,h=>dU.base L (Or.inl h)
theorem dU.pair:∀ {L:List (Int × Int)} {R:Int→Int→Prop} (_:Eqv R) {a:Int × Int},a∈L→dU R L a.1 a.2
 | [],_,_,_,ha=>by simp at ha
 | b :: L,R,h,a,ha=>by
  rcases List.mem_cons.1 ha with rfl | ha
  ·exact dU.base L (Or.inr (Or.inl ⟨h.refl _,h.refl _⟩))
  exact dU.pair (L:=L) (Jn.eqv h b.1 b.2) ha
theorem dU.cnt {K:List Int}:∀ {L:List (Int × Int)} {R:Int→Int→Prop},Eqv R→(∀ a∈L,a.1∈K∧a.2∈K)→aA.cnt R K≤aA.cnt (dU R L) K+L.length
 | [],_,_,_=>by simp[dU]
 | a :: L,R,h,hK=>by
  have h1:=dU.cnt (L:=L) (Jn.eqv h a.1 a.2) (fun b hb=>hK b (List.mem_cons_of_mem _ hb));have h2:=tN h (hK a (by simp)).1 (hK a (by simp)).2;show aA.cnt R K≤aA.cnt (dU (Jn R a.1 a.2) L) K+(a :: L).length;rw[List.length_cons];omega
theorem dU.tight {K:List Int} {L M:List (Int × Int)} {a:Int × Int} {R:Int→Int→Prop} (h:Eqv R) (hK:∀ b∈L++a :: M,b.1∈K∧b.2∈K) (ht:aA.cnt R K=aA.cnt (dU R (L++a :: M)) K+(L++a :: M).length):¬ dU R L a.1 a.2:=by
 intro hr;have e:dU R (L++a :: M)=dU (Jn (dU R L) a.1 a.2) M:=dU.append R L (a :: M);rw[e,List.length_append,List.length_cons] at ht;have hL:=dU.eqv h L;have h1:=dU.cnt (K:=K) (L:=L) h (fun b hb=>hK b (by simp[hb]));have h2:=dU.cnt (K:=K) (L:=M) (Jn.eqv hL a.1 a.2) (fun b hb=>hK b (by simp[hb]));rw[lT hL hr] at h2;omega
theorem lZ:Eqv (fun x y:Int=>x=y):=⟨fun _=>rfl,fun h=>h.symm,fun h k=>h.trans k⟩
theorem aC1 {K:List Int} (h:K.Nodup):cnt (fun x y:Int=>x=y) K=K.length:=by
 refine zW lZ ⟨fun t ht=>ht,fun x hx=>⟨x,hx,rfl⟩,h⟩
theorem St.aEd {s:St} {x y:Int} (hx:x∈s.all) (hy:y∈s.all):s.jB x y=true↔¬ s.rel x y:=by
 unfold St.jB;rw[St.gM hx,St.gM hy];unfold St.rel;rw[St.cT];simp only[bne_iff_ne,ne_eq,not_or,not_and];constructor
 ·intro h
  exact⟨fun e=>h (by rw[e]),fun _ _=>h⟩
 intro h;exact h.2 hx hy
theorem aDE (n:Nat):(bJ n).Nodup:=by
 unfold bJ;rw[List.Nodup,List.pairwise_map];exact List.nodup_range.imp fun h e=>h (by omega)
theorem St.aBM (n:Nat) (x y:Int):(St.new (bJ n)).rel x y↔x=y:=by
 rw[St.vJ];constructor
 ·rintro (h | h)
  ·exact h
  rw[St.cT] at h;obtain⟨h1,h2,h3⟩:=h;have hl:(bJ n).length=n:=by simp[bJ]
  have i1:=List.idxOf_lt_length_of_mem (show x∈bJ n from h1);have i2:=List.idxOf_lt_length_of_mem (show y∈bJ n from h2);have h3:(List.range n).getD ((bJ n).idxOf x) 0=(List.range n).getD ((bJ n).idxOf y) 0:=h3;have e3:(bJ n).idxOf x=(bJ n).idxOf y:=by
   have q1:(bJ n).idxOf x<n:=by rw[hl] at i1;exact i1
   have q2:(bJ n).idxOf y<n:=by rw[hl] at i2;exact i2
   simpa[List.getD,q1,q2] using h3
  have g1:=List.getElem_idxOf i1;have g2:=List.getElem_idxOf i2;rw[←g1,←g2];simp only[e3]
 intro h;exact Or.inl h
def dQ (own:Int→Int) (l:List Int):List (Int × Int):=(l.drop 1).map fun k=>(own (l.getD 0 0),own k)
def cZ (own:Int→Int) (same:List (List Int)):List (Int × Int):=same.flatMap (dQ own)
theorem aDq (own:Int→Int) (l:List Int):(dQ own l).length=l.length - 1:=by simp[dQ]
theorem uR (own:Int→Int):∀ {same:List (List Int)},(∀ l∈same,2≤l.length)→(cZ own same).length+same.length=same.flatten.length
 | [],_=>rfl
 | l :: same,h=>by
  have ih:=uR own (same:=same) (fun m hm=>h m (by simp[hm]));have h2:=h l (by simp);show ((dQ own l)++cZ own same).length+_=_;rw[List.length_append,aDq,List.flatten_cons,List.length_append,List.length_cons];omega
theorem xP (own:Int→Int) {l:List Int} {k:Nat} (h0:0<k) (hk:k<l.length):dQ own l=dQ own (l.take k)++(own (l.getD 0 0),own (l.getD k 0)) :: (l.drop (k+1)).map fun y=>(own (l.getD 0 0),own y):=by
 unfold dQ;have e1:l=l.take k++l.getD k 0 :: l.drop (k+1):=by
  have:l.getD k 0=l[k]:=by simp[List.getD,hk]
  rw[this];simp
 have e2:(l.take k).getD 0 0=l.getD 0 0:=by
  cases l with
  | nil=>simp at hk
  | cons a l=>cases k with
   | zero=>omega
   | succ k=>rfl
 have e3:l.drop 1=(l.take k).drop 1++l.getD k 0 :: l.drop (k+1):=by
  have hl:1≤(l.take k).length:=by rw[List.length_take];omega
  conv=>lhs;rw[e1]
  rw[List.drop_append_of_le_length hl]
 rw[e3,e2];simp
theorem aG7 (own:Int→Int) {l:List Int}:dQ own (l.take 1)=[]:=by
 cases l <;> simp[dQ]
theorem aEo (own:Int→Int) {l:List Int} {k:Nat} (h0:0<k) (hk:k<l.length):dQ own (l.take (k+1))=dQ own (l.take k)++[(own (l.getD 0 0),own (l.getD k 0))]:=by
 have hk2:k<(l.take (k+1)).length:=by rw[List.length_take];omega
 have h:=xP own (l:=l.take (k+1)) h0 hk2;have e1:(l.take (k+1)).take k=l.take k:=by rw[List.take_take];congr 1;omega
 have e2:(l.take (k+1)).getD k 0=l.getD k 0:=by simp[List.getD]
 have e3:(l.take (k+1)).getD 0 0=l.getD 0 0:=by simp[List.getD]
 have e4:(l.take (k+1)).drop (k+1)=[]:=by simp
 rw[e1,e2,e3,e4] at h;exact h
structure aGf (n:Nat) (R:Int→Int→Prop) (c:St × List Int) (met:List Int):Prop where
 ok:c.1.Ok
 all:c.1.all=bJ n
 met:c.2=met
 rel:∀ x y,c.1.rel x y↔R x y
theorem St.aGQ {s:St} {x y:Int} (hx:x∈s.all) (hy:y∈s.all):(s.join x y).all=s.all:=by
 rw[St.join_eq,St.gM hx,St.gM hy]
theorem rK {ow:Int→Option Int} {own:Int→Int} {n:Nat} {l met:List Int} {R:Int→Int→Prop} {c:St × List Int} {M:List (Int × Int)} (hR:Eqv R)
  (hown:∀ k∈l,ow k=some (own k)∧own k∈bJ n) (hrise:l.Pairwise (·<·)) (hnm:∀ k∈l,k ∉ met) (hc:aGf n R c met) (hM:∀ b∈M,b.1∈bJ n∧b.2∈bJ n)
  (ht:cnt R (bJ n)=cnt (dU R (dQ own l++M)) (bJ n)+(dQ own l++M).length) :
  ∀ k,k≤l.length→∃ d,cN ow l c k=some d∧aGf n (dU R (dQ own (l.take k))) d (met++l.take k)
 | 0,_=>⟨c,rfl,by simpa[dQ,dU] using hc⟩
 | k+1,hk=>by
  obtain⟨d,hd,hdo⟩:=rK hR hown hrise hnm hc hM ht k (by omega);have hkl:k<l.length:=by omega
  have hmem:l.getD k 0∈l:=aZ hkl;obtain⟨ho1,ho2⟩:=hown _ hmem;have htk:l.take (k+1)=l.take k++[l.getD k 0]:=eD hkl;have hpw:=List.pairwise_iff_getElem.1 hrise;have hget:∀ i (hi:i<l.length),l.getD i 0=l[i]:=fun i hi=>by simp[List.getD,hi]
  have hnot:l.getD k 0 ∉ d.2:=by
   rw[hdo.met];intro q;rcases List.mem_append.1 q with q | q
   ·exact hnm _ hmem q
   obtain⟨i,hi,e⟩:=List.getElem_of_mem q;rw[List.length_take] at hi;have h1:=hpw i k (by omega) hkl (by omega);rw[List.getElem_take] at e;rw[hget k hkl] at e;omega
  by_cases h0:k=0
  ·subst h0
   refine⟨_,jE hd (jU ho1 hnot),hdo.ok,hdo.all,?_,fun x y=>?_⟩
   ·show d.2++_=_
    rw[hdo.met,htk];simp
   have:=hdo.rel x y;rw[aG7];simpa[dQ] using this
  have hk0:0<k:=by omega
  have hl0:l.getD 0 0∈l:=aZ (by omega);obtain⟨ha1,ha2⟩:=hown _ hl0;have hr:l.getD (k - 1) 0<l.getD k 0:=by
   rw[hget _ hkl,hget (k - 1) (by omega)];exact hpw (k - 1) k (by omega) hkl (by omega)
  have hm1:own (l.getD 0 0)∈d.1.all:=by rw[hdo.all];exact ha2
  have hm2:own (l.getD k 0)∈d.1.all:=by rw[hdo.all];exact ho2
  have hsp:=xP own hk0 hkl;rw[hsp,List.append_assoc,List.cons_append] at ht;have hj:d.1.jB (own (l.getD 0 0)) (own (l.getD k 0))=true:=by
   rw[St.aEd hm1 hm2,hdo.rel];refine dU.tight hR (fun b hb=>?_) ht;have hb:b∈dQ own l++M:=by rw[hsp,List.append_assoc,List.cons_append];exact hb
   rcases List.mem_append.1 hb with q | q
   ·unfold dQ at q
    obtain⟨y,hy,rfl⟩:=List.mem_map.1 q;exact⟨ha2,(hown y (List.mem_of_mem_drop hy)).2⟩
   exact hM b q
  refine⟨_,jE hd (kQ hk0 ho1 hnot hr (b:=own (l.getD 0 0)) (by rw[ha1];rfl) hj),hdo.ok.join _ _,?_,?_,fun x y=>?_⟩
  ·show (d.1.join _ _).all=_
   rw[St.aGQ hm1 hm2,hdo.all]
  ·show d.2++_=_
   rw[hdo.met,htk,List.append_assoc]
  show (d.1.join _ _).rel x y↔_;rw[St.sA hdo.ok,aEo own hk0 hkl,dU.append];show _↔Jn (dU R (dQ own (l.take k))) _ _ x y;unfold Jn;rw[hdo.rel,hdo.rel,hdo.rel,hdo.rel,hdo.rel]
theorem aDw {same:List (List Int)} {i:Nat} (hi:i<same.length):same.take (i+1)=same.take i++[same.getD i []]:=by
 have:same.getD i []=same[i]:=by simp[List.getD,hi]
 rw[this];simp
theorem rN {ow:Int→Option Int} {own:Int→Int} {n:Nat} {same:List (List Int)} (hown:∀ k∈same.flatten,ow k=some (own k)∧own k∈bJ n) (two:∀ l∈same,2≤l.length) (aCY:∀ l∈same,l.Pairwise (·<·)) (wE:same.Pairwise fun a b=>a.getD 0 0<b.getD 0 0)
  (hn:same.flatten.Nodup) (ht:cnt (fun x y:Int=>x=y) (bJ n)=cnt (dU (fun x y:Int=>x=y) (cZ own same)) (bJ n)+(cZ own same).length) :
  ∀ i,i≤same.length→∃ d,cB ow same (St.new (bJ n),[]) i=some d∧aGf n (dU (fun x y:Int=>x=y) (cZ own (same.take i))) d (same.take i).flatten
 | 0,_=>⟨_,rfl,by
   have h:=kJ.start ow n;exact⟨h.ok,h.all,rfl,fun x y=>by simpa[cZ,dU] using St.aBM n x y⟩⟩
 | i+1,hi=>by
  obtain⟨c,hc,hco⟩:=rN hown two aCY wE hn ht i (by omega);have hil:i<same.length:=by omega
  have hg:same.getD i []=same[i]:=by simp[List.getD,hil]
  have hmem:same.getD i []∈same:=by rw[hg];exact List.getElem_mem _
  have hnb:¬ bX same i:=by
   rintro (h | ⟨h0,h⟩)
   ·have:=two _ hmem;omega
   have h1:=List.pairwise_iff_getElem.1 wE (i - 1) i (by omega) hil (by omega);have hg1:same.getD (i - 1) []=same[i - 1]:=by
    have:i - 1<same.length:=by omega
    simp[List.getD,this]
   rw[hg,hg1] at h;omega
  have hsplit:same=same.take i++same.getD i [] :: same.drop (i+1):=by rw[hg];simp
  have hst:cZ own same=cZ own (same.take i)++(dQ own (same.getD i [])++cZ own (same.drop (i+1))):=by
   conv=>lhs;rw[hsplit]
   unfold cZ;rw[List.flatMap_append,List.flatMap_cons]
  have hb:∀ m∈same,∀ b∈dQ own m,b.1∈bJ n∧b.2∈bJ n:=by
   intro m hm b hb;unfold dQ at hb;obtain⟨y,hy,rfl⟩:=List.mem_map.1 hb;exact⟨(hown _ (List.mem_flatten.2 ⟨m,hm,aZ (by have:=two m hm;omega)⟩)).2,(hown _ (List.mem_flatten.2 ⟨m,hm,List.mem_of_mem_drop hy⟩)).2⟩
  have hbs:∀ s:List (List Int),(∀ m∈s,m∈same)→∀ b∈cZ own s,b.1∈bJ n∧b.2∈bJ n:=by
   intro s hs b hb2;unfold cZ at hb2;obtain⟨m,hm,hb3⟩:=List.mem_flatMap.1 hb2;exact hb m (hs m hm) b hb3
  have ht2:cnt (dU (fun x y:Int=>x=y) (cZ own (same.take i))) (bJ n)=cnt (dU (dU (fun x y:Int=>x=y) (cZ own (same.take i))) (dQ own (same.getD i [])++cZ own (same.drop (i+1)))) (bJ n)+(dQ own (same.getD i [])++cZ own (same.drop (i+1))).length:=by
   have h1:=dU.cnt (K:=bJ n) lZ (hbs (same.take i) (fun m hm=>List.mem_of_mem_take hm));have h2:=dU.cnt (K:=bJ n) (L:=dQ own (same.getD i [])++cZ own (same.drop (i+1))) (dU.eqv lZ (cZ own (same.take i))) (fun b hb2=>by
    rcases List.mem_append.1 hb2 with q | q
    ·exact hb _ hmem b q
    exact hbs _ (fun m hm=>List.mem_of_mem_drop hm) b q)
   rw[hst,dU.append,List.length_append] at ht;omega
  have hnd:same.flatten.Nodup:=hn;rw[hsplit,List.flatten_append,List.flatten_cons,List.nodup_append] at hnd;obtain⟨d,hd,hdo⟩:=rK (own:=own) (dU.eqv lZ _) (fun k hk=>hown k (List.mem_flatten.2 ⟨_,hmem,hk⟩)) (aCY _ hmem) (fun k hk q=>hnd.2.2 k q k (by simp only[List.mem_append];exact Or.inl hk) rfl) hco
   (hbs _ (fun m hm=>List.mem_of_mem_drop hm)) ht2 _ (Nat.le_refl _)
  refine⟨d,nK hc hnb hd,?_⟩;rw[List.take_length] at hdo;rw[aDw hil];have e1:cZ own (same.take i++[same.getD i []])=cZ own (same.take i)++dQ own (same.getD i []):=by
   unfold cZ;rw[List.flatMap_append];simp
  rw[e1,dU.append];simpa using hdo
noncomputable def gG (g:Gr) (p:Pt) (aB:List (List Int)) (k:Int):Int:=(bH g p (aH g p aB) k).getD 0
theorem aCF {g:Gr} {p:Pt} {W:List aO} {k:Int} (h:k∈W.map (·.1)):(bH g p W k).isSome=true:=by
 unfold bH;rw[Option.isSome_map,List.find?_isSome];obtain⟨f,hf,e⟩:=List.mem_map.1 h;exact⟨f,hf,by simp[e]⟩
theorem aDs {g:Gr} {p:Pt} {aB same:List (List Int)} (hpe:p.err g=0) (hto:aW g p aB) (hfl:Flat g p aB) (two:∀ l∈same,2≤l.length) (wE:same.Pairwise fun a b=>a.getD 0 0<b.getD 0 0) (hn:same.flatten.Nodup)
  (keys:∀ x∈same.flatten,x∈(aH g p aB).map (·.1)) (aCY:∀ l∈same,l.Pairwise (·<·)) (hcount:same.flatten.length+1=(roots g p).length+same.length)
  (tot:∀ J,Eqv J→(∀ l∈same,∀ k∈l,J (gG g p aB (l.getD 0 0)) (gG g p aB k))→∀ a∈bJ (roots g p).length,∀ b∈bJ (roots g p).length,J a b):aN g p aB same=0:=by
 have hpo:=Pt.aQ hpe;have hW:=bS hpe hto;have hte:bE g p aB=0:=fV hpe hto;obtain⟨n,hne⟩:∃ n,(roots g p).length=n:=⟨_,rfl⟩;have hown:∀ k∈same.flatten,bH g p (aH g p aB) k=some (gG g p aB k)∧gG g p aB k∈bJ n:=by
  intro k hk;obtain⟨a,ha⟩:=Option.isSome_iff_exists.1 (aCF (g:=g) (p:=p) (keys k hk));have e:gG g p aB k=a:=by unfold gG;rw[ha];rfl
  rw[e];refine⟨ha,?_⟩;rw[iH,←hne];exact fO hpo hW ha
 rw[fM (gR hte hfl)];rw[hne] at tot hcount ⊢;have hlen:=uR (gG g p aB) two;have hnd:=aDE n;have hul:(bJ n).length=n:=by simp[bJ]
 have hstar:∀ l∈same,∀ k∈l,dU (fun x y:Int=>x=y) (cZ (gG g p aB) same) (gG g p aB (l.getD 0 0)) (gG g p aB k):=by
  intro l hl k hk;have h2:=two l hl;cases l with
  | nil=>simp at h2
  | cons a m =>
   rcases List.mem_cons.1 hk with rfl | hk
   ·exact (dU.eqv lZ _).refl _
   refine dU.pair (a:=(gG g p aB ((a :: m).getD 0 0),gG g p aB k)) lZ (List.mem_flatMap.2 ⟨a :: m,hl,?_⟩);unfold dQ;exact List.mem_map.2 ⟨k,by simpa using hk,rfl⟩
 have h1:=tot _ (dU.eqv lZ (cZ (gG g p aB) same)) hstar;have h2:=vP (dU.eqv lZ (cZ (gG g p aB) same)) h1;have h3:=dU.cnt (K:=bJ n) (L:=cZ (gG g p aB) same) lZ (fun b hb=>by
  unfold cZ at hb;obtain⟨l,hl,hb⟩:=List.mem_flatMap.1 hb;unfold dQ at hb;obtain⟨y,hy,rfl⟩:=List.mem_map.1 hb;exact⟨(hown _ (List.mem_flatten.2 ⟨l,hl,aZ (by have:=two l hl;omega)⟩)).2,(hown _ (List.mem_flatten.2 ⟨l,hl,List.mem_of_mem_drop hy⟩)).2⟩)
 rw[aC1 hnd,hul] at h3;obtain⟨c,hc,hco⟩:=rN hown two aCY wE hn (by rw[aC1 hnd,hul];omega) same.length (Nat.le_refl _);rw[hc];obtain⟨hok,hmet,-⟩:=iR (fun y a h=>by rw[←hne];exact fO hpo hW h) _ c (Nat.le_refl _) hc;have hnum:=hok.num;rw[hmet,List.take_length] at hnum;show (if 1<c.1.count then (7:Int) else 0)=0;rw[if_neg (by omega)]
theorem tY {ow:Int→Option Int} {n t:Nat} {l:List Int} {J:Int→Int→Prop} (hJ:Eqv J) (hb:∀ y a,ow y=some a→0≤a∧a<n) (h:∀ k∈l,J ((ow (l.getD 0 0)).getD 0) ((ow k).getD 0)) {c:St × List Int} (hok:kJ ow n t c) (hc:∀ x y,c.1.rel x y→J x y) :
  ∀ {k:Nat} {d:St × List Int},k≤l.length→cN ow l c k=some d→∀ x y,d.1.rel x y→J x y
 | 0,d,_,e,x,y,hr=>by cases e;exact hc x y hr
 | k+1,d,hk,e,x,y,hr=>by
  have e:(cN ow l c k).bind (dR ow l k)=some d:=e;cases hm:cN ow l c k with
  | none=>rw[hm] at e;cases e
  | some m =>
   rw[hm] at e;have ih:=tY hJ hb h hok hc (k:=k) (by omega) hm;obtain⟨a,ha,-,-,-,hcase⟩:=kS (show dR ow l k m=some d from e);rcases hcase with ⟨-,e1⟩ | ⟨-,-,e1⟩
   ·rw[e1] at hr;exact ih x y hr
   rw[e1] at hr;have hmo:m.1.Ok:=(nA hb hok k m hm).1.ok;have hab:=h _ (aZ (l:=l) (n:=k) (by omega));rw[ha] at hab;rcases (St.sA hmo _ _ x y).1 hr with q | ⟨q,r⟩ | ⟨q,r⟩
   ·exact ih x y q
   ·exact hJ.trans (hJ.trans (ih _ _ q) hab) (ih _ _ r)
   exact hJ.trans (hJ.trans (ih _ _ q) (hJ.symm hab)) (ih _ _ r)
theorem uP {ow:Int→Option Int} {n:Nat} {same:List (List Int)} {J:Int→Int→Prop} (hJ:Eqv J) (hb:∀ y a,ow y=some a→0≤a∧a<n) (h:∀ l∈same,∀ k∈l,J ((ow (l.getD 0 0)).getD 0) ((ow k).getD 0)) :
  ∀ {i:Nat} {d:St × List Int},i≤same.length→cB ow same (St.new (bJ n),[]) i=some d→∀ x y,d.1.rel x y→J x y
 | 0,d,_,e,x,y,hr=>by
  cases e;rw[(St.aBM n x y).1 hr];exact hJ.refl y
 | i+1,d,hi,e,x,y,hr=>by
  have e:(cB ow same (St.new (bJ n),[]) i).bind _=some d:=e;cases hm:cB ow same (St.new (bJ n),[]) i with
  | none=>rw[hm] at e;cases e
  | some m =>
   rw[hm] at e;have e:(if bX same i then none else cN ow (same.getD i []) m (same.getD i []).length)=some d:=e;split at e
   ·cases e
   have hg:same.getD i []=same[i]:=by simp[List.getD,show i<same.length by omega]
   have hmem:same.getD i []∈same:=by rw[hg];exact List.getElem_mem _
   exact tY hJ hb (h _ hmem) (iR hb i m (by omega) hm).1 (uP hJ hb h (by omega) hm) (Nat.le_refl _) e x y hr
theorem St.aFb {s:St} (hs:s.Ok) (h:s.count≤1):∀ x∈s.all,∀ y∈s.all,s.rel x y:=by
 intro x hx y hy;refine Or.inr (St.cT.2 ⟨hx,hy,?_⟩);have i1:=List.idxOf_lt_length_of_mem hx;have i2:=List.idxOf_lt_length_of_mem hy;rw[hs.len] at i1 i2;have a1:=hs.le _ i1;have a2:=hs.le _ i2;have b1:=hs.own _ i1;have b2:=hs.own _ i2;by_cases e:s.hd (s.all.idxOf x)=s.hd (s.all.idxOf y)
 ·exact e
 exfalso;unfold St.count at h;rw[List.countP_eq_length_filter] at h;have m1:s.hd (s.all.idxOf x)∈(List.range s.grp.length).filter fun i=>s.grp.getD i 0==i:=List.mem_filter.2 ⟨List.mem_range.2 (by omega),by simpa[St.hd] using b1⟩;have m2:s.hd (s.all.idxOf y)∈(List.range s.grp.length).filter fun i=>s.grp.getD i 0==i:=List.mem_filter.2 ⟨List.mem_range.2 (by omega),by simpa[St.hd] using b2⟩
 revert m1 m2 h
 generalize (List.range s.grp.length).filter (fun i=>s.grp.getD i 0==i)=F;intro h m1 m2
 match F,h with
 | [],_=>simp at m1
 | [a],_ =>
  simp at m1 m2;exact e (by rw[m1,m2])
 | _ :: _ :: _,h=>simp at h
theorem vT {g:Gr} {p:Pt} {aB same:List (List Int)} (h:aN g p aB same=0):((roots g p).length≠0→same.flatten.length+1=(roots g p).length+same.length) ∧
  ∀ J,Eqv J→(∀ l∈same,∀ k∈l,J (gG g p aB (l.getD 0 0)) (gG g p aB k))→∀ a∈bJ (roots g p).length,∀ b∈bJ (roots g p).length,J a b:=by
 obtain⟨hf,c,hc,hcnt⟩:=cX h;obtain⟨hte,-⟩:=bY hf;obtain⟨hpe,hto⟩:=bC hte;have hpo:=Pt.aQ hpe;have hW:=bS hpe hto;have hb:∀ y a,bH g p (aH g p aB) y=some a→0≤a∧a<(roots g p).length:=fun y a h=>fO hpo hW h;obtain⟨hok,hmet,-⟩:=iR hb _ c (Nat.le_refl _) hc;refine⟨fun h0=>?_,fun J hJ hj a ha b hbm=>?_⟩
 ·have hnum:=hok.num
  rw[hmet,List.take_length] at hnum;have hgl:c.1.grp.length=(roots g p).length:=by rw[←hok.ok.len,hok.all];simp[bJ]
  have:=yR hok.ok (by omega);omega
 exact uP hJ hb hj (Nat.le_refl _) hc a b (St.aFb hok.ok hcnt a (by rw[hok.all];exact ha) b (by rw[hok.all];exact hbm))
theorem aCx {g:Gr} {p:Pt} {aB same:List (List Int)} (h:aN g p aB same=0):same.Pairwise fun a b=>a.getD 0 0<b.getD 0 0:=by
 obtain⟨hf,c,hc,-⟩:=cX h;obtain⟨hte,-⟩:=bY hf;obtain⟨hpe,hto⟩:=bC hte;obtain⟨-,-,hl⟩:=iR (fun y a h=>fO (Pt.aQ hpe) (bS hpe hto) h) _ c (Nat.le_refl _) hc;have step:∀ i,i+1<same.length→(same.getD i []).getD 0 0<(same.getD (i+1) []).getD 0 0:=by
  intro i hi;have:=(hl (i+1) hi).1;unfold bX at this;rw[not_or] at this;have h2:=this.2;simp only[Nat.add_sub_cancel,not_and] at h2;have:=h2 (by omega);omega
 have all:∀ d i,i+d+1<same.length→(same.getD i []).getD 0 0<(same.getD (i+d+1) []).getD 0 0:=by
  intro d
  induction d with
  | zero=>exact fun i hi=>step i hi
  | succ d ih =>
   intro i hi;have h1:=ih i (by omega);have h2:=step (i+d+1) (by omega);have e:i+(d+1)+1=i+d+1+1:=by omega
   rw[e];omega
 rw[List.pairwise_iff_getElem];intro i j hi hj hij;have:=all (j - i - 1) i (by omega);have e:i+(j - i - 1)+1=j:=by omega
 rw[e] at this;simpa[List.getD,hi,hj] using this
theorem aFN:∀ {S:List Int},S.Nodup→∀ x,tw S x=if x / 2∈S then dE x else x
 | [],_,x=>by simp[tw]
 | e :: S,h,x=>by
  rw[List.nodup_cons] at h;show tw S (swp (2*e) (2*e+1) x)=_;rw[aFN h.2];by_cases h1:x=2*e
  ·subst h1
   have a1:(2*e+1) / 2=e:=by omega
   have a2:2*e / 2=e:=by omega
   rw[swp_left,a1,a2,if_neg h.1,if_pos (by simp)];unfold dE;rw[if_pos (by omega)]
  by_cases h2:x=2*e+1
  ·subst h2
   have a1:(2*e+1) / 2=e:=by omega
   have a2:2*e / 2=e:=by omega
   rw[swp_right,a1,a2,if_neg h.1,if_pos (by simp)];unfold dE;rw[if_neg (by omega)];omega
  rw[fC h1 h2];have hne:x / 2≠e:=by omega
  by_cases h3:x / 2∈S
  ·rw[if_pos h3,if_pos (by simp[h3])]
  rw[if_neg h3,if_neg (by simp[h3,hne])]
theorem dT.congr {g:Gr} {p q:Pt} {s a b:Int} (he:p.e=q.e) (h:dT g p s a b):dT g q s a b:=by
 induction h with
 | here=>exact .here
 | step _ hn hs ih =>
  obtain⟨e,h1,h2⟩:=hn;exact ih.step ⟨e,he ▸ h1,h2⟩ hs
theorem aHJ {g:Gr} {p:Pt} (h:bB g p) {u:Int} (hc:dT g p (-1) (-1) u) (hu:u≠-1):False:=by
 induction hc with
 | here=>exact hu rfl
 | @step u w _ hn hs ih =>
  by_cases e:u = -1
  ·obtain⟨f,hf,q⟩:=hn
   have h1:=h.ends f hf;have h2:=h.vr _ h1.1;have h3:=h.vr _ h1.2;rcases q with q | q
   ·rw[q] at h2;simp only at h2;omega
   rw[q] at h3;simp only at h3;omega
  exact ih e
def oN (g:Gr) (d:Int):Int:=if d<0 then -1 - d else g.tail d
def ground (g:Gr) (p:Pt) (aB:List (List Int)) (U:List Int):List Int:=leaving g p U++(U.filter fun v=>(aX aB v).isEmpty).map fun v=>-1 - v
def bef (g:Gr) (aB:List (List Int)) (d:Int):Int:=if d<0 then d else before g aB d
def lC (aB:List (List Int)) (U:List Int):List (List Int):=((busy aB U).map fun v=>(aX aB v).reverse)++(U.filter fun v=>(aX aB v).isEmpty).map fun v=>[-1 - v]
def lJ (g:Gr) (p:Pt) (U:List Int):List Int:=p.e.filter fun e=>decide (g.tail (2*e)∈U)
def nH (g:Gr) (W:List aO) (U:List Int):List (List Int):=(W.filter fun f=>decide (f.aY g∈U)).map marks
structure fP (g:Gr) (p:Pt) (U:List Int):Prop where
 nodup:U.Nodup
 sub:∀ v∈U,v∈p.v
 closed:vW g p U
theorem rJ {g:Gr} {p:Pt} (h:bB g p) {d:Int} (hd:d∈p.aK):0≤d:=by
 have:=h.er _ (bN.1 hd);omega
theorem dV {g:Gr} {p:Pt} {aB:List (List Int)} {U:List Int} {x:Int}:x∈ground g p aB U↔(x∈p.aK∧g.tail x∈U)∨∃ v∈U,aX aB v=[]∧x = -1 - v:=by
 unfold ground leaving;rw[List.mem_append,List.mem_filter,List.mem_map];simp only[decide_eq_true_eq,List.mem_filter,List.isEmpty_iff];constructor
 ·rintro (h | ⟨v,⟨h1,h2⟩,h3⟩)
  ·exact Or.inl h
  exact Or.inr ⟨v,h1,h2,h3.symm⟩
 rintro (h | ⟨v,h1,h2,h3⟩)
 ·exact Or.inl h
 exact Or.inr ⟨v,⟨h1,h2⟩,h3.symm⟩
theorem gA {g:Gr} {p:Pt} (h:bB g p) {d:Int} (hd:d∈p.aK):oN g d=g.tail d:=by
 unfold oN;rw[if_neg (by have:=rJ h hd;omega)]
theorem jM {g:Gr} {v:Int} (h:0≤v):oN g (-1 - v)=v:=by
 unfold oN;rw[if_pos (by omega)];omega
theorem oZ {g:Gr} {p:Pt} {aB:List (List Int)} {U:List Int} (h:bB g p) (hU:fP g p U) {x:Int} (hx:x∈ground g p aB U):oN g x∈U:=by
 rcases dV.1 hx with ⟨h1,h2⟩ | ⟨v,h1,-,rfl⟩
 ·rw[gA h h1];exact h2
 rw[jM (h.vr v (hU.sub v h1)).1];exact h1
theorem fP.all {g:Gr} {p:Pt} (h:bB g p):fP g p p.v:=⟨h.vn,fun _ hv=>hv,fun _d hd _=>(h.dN hd).2⟩
theorem fP.comp {g:Gr} {p:Pt} (h:bB g p) (r:Int):fP g p (comp g p r):=⟨wU h r,fun _ hv=>(bZ.1 hv).1,pD h r⟩
theorem aCd (aB:List (List Int)):∀ U:List Int,(busy aB U).length+(U.filter fun v=>(aX aB v).isEmpty).length=U.length
 | []=>rfl
 | v :: U=>by
  have ih:=aCd aB U;unfold busy at ih ⊢;simp only[List.filter_cons,List.length_cons];cases (aX aB v).isEmpty <;> simp <;> omega
theorem aDL (aB:List (List Int)) (U:List Int):(lC aB U).length=U.length:=by
 unfold lC;rw[List.length_append,List.length_map,List.length_map,aCd]
theorem nO (f:Int→Int):∀ L:List Int,(L.map fun v=>[f v]).flatten=L.map f
 | []=>rfl
 | v :: L=>by rw[List.map_cons,List.flatten_cons,nO f L];rfl
theorem sE {g:Gr} {p:Pt} {aB:List (List Int)} {U:List Int} (h:bB g p) (hU:fP g p U):(ground g p aB U).Nodup:=by
 unfold ground;rw[List.nodup_append];refine⟨(eR h.en).filter _,List.Pairwise.map _ (fun a b (hab:a≠b) (e:-1 - a = -1 - b)=>hab (by omega)) (hU.nodup.filter _),fun a ha b hb e=>?_⟩;obtain⟨v,hv,e2⟩:=List.mem_map.1 hb;have h1:=rJ h (List.mem_filter.1 ha).1;have h2:=(h.vr v (hU.sub v (List.mem_filter.1 hv).1)).1;omega
theorem zP {g:Gr} {p:Pt} {aB:List (List Int)} {U:List Int} (h:bB g p) (ht:aW g p aB) (hU:fP g p U):cF (bef g aB) (lC aB U)∧(lC aB U).flatten.Perm (ground g p aB U):=by
 obtain⟨h1,h2⟩:=kP ht h.en hU.nodup (fun v hv=>h.vr v (hU.sub v hv));have hp:(lC aB U).flatten.Perm (ground g p aB U):=by
  unfold lC ground;rw[List.flatten_append,nO];exact h2.append_right _
 refine⟨⟨fun c hc=>?_,hp.nodup_iff.2 (sE h hU)⟩,hp⟩;unfold lC at hc;rcases List.mem_append.1 hc with q | q
 ·refine (h1.ring c q).congr fun x hx=>?_
  have hxd:x∈p.aK:=(List.mem_filter.1 (h2.mem_iff.1 (List.mem_flatten.2 ⟨c,q,hx⟩))).1;unfold bef;rw[if_neg (by have:=rJ h hxd;omega)]
 obtain⟨v,hv,rfl⟩:=List.mem_map.1 q;have:=(h.vr v (hU.sub v (List.mem_filter.1 hv).1)).1;show bef g aB (-1 - v) = -1 - v;unfold bef;rw[if_pos (by omega)]
theorem aGw {g:Gr} {p:Pt} {aB:List (List Int)} {U:List Int} (_h:bB g p) (hU:fP g p U) {e:Int} (he:e∈lJ g p U):2*e∈ground g p aB U∧2*e+1∈ground g p aB U:=by
 unfold lJ at he;obtain⟨h1,h2⟩:=List.mem_filter.1 he;have h2:=of_decide_eq_true h2;have d1:2*e∈p.aK:=bN.2 (by rwa[show 2*e / 2=e by omega]);have d2:2*e+1∈p.aK:=bN.2 (by rwa[show (2*e+1) / 2=e by omega]);have e2:dE (2*e)=2*e+1:=by unfold dE;rw[if_pos (by omega)]
 refine⟨dV.2 (Or.inl ⟨d1,h2⟩),dV.2 (Or.inl ⟨d2,?_⟩)⟩;rw[←e2,fH];exact hU.closed _ d1 h2
theorem aHv {g:Gr} {p:Pt} {U:List Int} (hU:fP g p U) {x:Int} (hx:x∈p.aK) (ht:g.tail x∈U):x / 2∈lJ g p U:=by
 unfold lJ;refine List.mem_filter.2 ⟨bN.1 hx,decide_eq_true ?_⟩;rcases aDM x with ⟨e,-⟩ | ⟨e,e2⟩
 ·rw[←e];exact ht
 rw[←e2,fH];exact hU.closed x hx ht
theorem aEJ {g:Gr} {p:Pt} (h:bB g p) {d:Int} (hd:d∈p.aK):0≤g.tail d∧g.tail d<g.n:=h.vr _ (h.dN hd).1
theorem qU {g:Gr} {p:Pt} {aB:List (List Int)} {W:List aO} {U:List Int} (h:bB g p) (ht:aW g p aB) (hW:kM g p aB W) (hC:vW g p U) {f:aO} (hf:f∈W) {x:Int} (hx:x∈f.2):x∈p.aK∧(g.tail x∈U↔f.aY g∈U):=by
 have hne:f.2≠[]:=fun e=>by rw[e] at hx;simp at hx
 have hc:f.2∈(W.filter fun f=>!f.2.isEmpty).map (·.2):=List.mem_map.2 ⟨f,List.mem_filter.2 ⟨hf,by simp[hne]⟩,rfl⟩;have hd:∀ y∈f.2,y∈p.aK:=fun y hy=>hW.all.mem_iff.1 (List.mem_flatten.2 ⟨f.2,hc,hy⟩);have hk:=xE (f:=fun d=>decide (g.tail d∈U)) (hW.rings.ring f.2 hc) (fun y hy=>by
  have h2:=(sP ht (fun d hd=>aEJ h hd) (hd y hy)).2;simp only[h2,kA hC (hd y hy)])
 refine⟨hd x hx,?_⟩
 match e:f.2 with
 | []=>exact absurd e hne
 | d :: l =>
  have hcr:f.aY g=g.tail f.1:=by unfold aO.aY;rw[e]
  rw[hcr,hW.key f hf d l e];have:=hk x hx d (by rw[e];simp);simpa using this
theorem zE {g:Gr} {p:Pt} {aB:List (List Int)} {W:List aO} (hW:kM g p aB W) {v:Int} (hv:v∈p.v) (h0:aX aB v=[]):(-1 - v,[])∈W:=by
 have:-1 - v∈(W.filter fun f=>f.2.isEmpty).map (·.1):=hW.lone.mem_iff.2 (List.mem_map.2 ⟨v,List.mem_filter.2 ⟨hv,by simp[h0]⟩,rfl⟩);obtain⟨f,hf,e⟩:=List.mem_map.1 this;obtain⟨h1,h2⟩:=List.mem_filter.1 hf;have h2:f.2=[]:=by simpa using h2
 have:f=(-1 - v,[]):=Prod.ext e h2;rw[←this];exact h1
theorem aAO {g:Gr} {p:Pt} {aB:List (List Int)} {W:List aO} (hW:kM g p aB W) {f:aO} (hf:f∈W) (h0:f.2=[]):∃ v∈p.v,aX aB v=[]∧f.1 = -1 - v:=by
 have:f.1∈(W.filter fun f=>f.2.isEmpty).map (·.1):=List.mem_map.2 ⟨f,List.mem_filter.2 ⟨hf,by simp[h0]⟩,rfl⟩;obtain⟨v,hv,e⟩:=List.mem_map.1 (hW.lone.mem_iff.1 this);obtain⟨h1,h2⟩:=List.mem_filter.1 hv;exact⟨v,h1,by simpa using h2,e.symm⟩
theorem aHh {g:Gr} {p:Pt} {aB:List (List Int)} {W:List aO} (hW:kM g p aB W) {x:Int} (hx:x∈p.aK):∃ f∈W,x∈f.2:=by
 obtain⟨c,hc,hxc⟩:=List.mem_flatten.1 (hW.all.mem_iff.2 hx);obtain⟨f,hf,rfl⟩:=List.mem_map.1 hc;exact⟨f,(List.mem_filter.1 hf).1,hxc⟩
theorem qP {g:Gr} {p:Pt} {aB:List (List Int)} {W:List aO} {U:List Int} (hpe:p.err g=0) (ht:aW g p aB) (hW:bV g p aB W) (hU:fP g p U) :
  cF (fun x=>bef g aB (tw (lJ g p U) x)) (nH g W U)∧(nH g W U).flatten.Perm (ground g p aB U):=by
 have h:=Pt.aQ hpe;have hSn:(lJ g p U).Nodup:=h.en.filter _;have hnd:(nH g W U).flatten.Nodup:=by
  have h8:=kU hpe hW;have hs:(nH g W U).Sublist (dK W):=(List.filter_sublist).map marks;rw[cV] at h8 ⊢;exact⟨fun l hl=>h8.1 l (hs.subset hl),h8.2.sublist hs⟩
 refine⟨⟨fun c hc=>?_,hnd⟩,?_⟩
 ·obtain⟨f,hf,rfl⟩:=List.mem_map.1 hc
  obtain⟨hfW,hfU⟩:=List.mem_filter.1 hf;have hfU:=of_decide_eq_true hfU;by_cases e:f.2=[]
  ·obtain⟨v,hv,-,e1⟩:=aAO hW.eF hfW e
   rw[iZ e,e1];have hv0:=(h.vr v hv).1;show bef g aB (tw _ (-1 - v)) = -1 - v;rw[aFN hSn,if_neg (fun q=>by
    have:=h.er _ (List.mem_filter.1 q).1;omega)]
   unfold bef;rw[if_pos (by omega)]
  rw[fU e];have hc2:f.2∈(W.filter fun f=>!f.2.isEmpty).map (·.2):=List.mem_map.2 ⟨f,List.mem_filter.2 ⟨hfW,by simp[e]⟩,rfl⟩;refine (hW.eF.rings.ring f.2 hc2).congr fun x hx=>?_;obtain⟨hxd,hxU⟩:=qU h ht hW.eF hU.closed hfW hx;rw[aFN hSn,if_pos (aHv hU hxd (hxU.2 hfU))];have:=rJ h (jD hxd);unfold bef;rw[if_neg (by omega)];rfl
 refine (List.perm_ext_iff_of_nodup hnd (sE h hU)).2 fun x=>?_;rw[dV,List.mem_flatten];constructor
 ·rintro ⟨c,hc,hxc⟩
  obtain⟨f,hf,rfl⟩:=List.mem_map.1 hc;obtain⟨hfW,hfU⟩:=List.mem_filter.1 hf;have hfU:=of_decide_eq_true hfU;by_cases e:f.2=[]
  ·rw[iZ e] at hxc
   obtain⟨v,hv,e2,e1⟩:=aAO hW.eF hfW e;refine Or.inr ⟨v,?_,e2,by rw[←e1];simpa using hxc⟩;have:f.aY g = -1 - f.1:=by unfold aO.aY;rw[e]
   rw[this,e1,show -1 - (-1 - v)=v by omega] at hfU;exact hfU
  rw[fU e] at hxc;obtain⟨hxd,hxU⟩:=qU h ht hW.eF hU.closed hfW hxc;exact Or.inl ⟨hxd,hxU.2 hfU⟩
 rintro (⟨h1,h2⟩ | ⟨v,h1,h2,rfl⟩)
 ·obtain⟨f,hf,hxf⟩:=aHh hW.eF h1
  obtain⟨-,hxU⟩:=qU h ht hW.eF hU.closed hf hxf;exact⟨marks f,List.mem_map.2 ⟨f,List.mem_filter.2 ⟨hf,decide_eq_true (hxU.1 h2)⟩,rfl⟩,by rw[fU (fun e=>by rw[e] at hxf;simp at hxf)];exact hxf⟩
 have hf:=zE hW.eF (hU.sub v h1) h2;refine⟨marks (-1 - v,[]),List.mem_map.2 ⟨_,List.mem_filter.2 ⟨hf,decide_eq_true ?_⟩,rfl⟩,by rw[iZ rfl];simp⟩;show -1 - (-1 - v)∈U;rw[show -1 - (-1 - v)=v by omega];exact h1
theorem aFC {g:Gr} {p:Pt} {aB:List (List Int)} {U:List Int} (h:bB g p) (ht:aW g p aB) (hU:fP g p U) {x y:Int} (hx:x∈ground g p aB U) (hy:y∈ground g p aB U) (e:oN g x=oN g y):Same (lC aB U) x y:=by
 have key:∀ {x y v:Int},x∈p.aK→g.tail x=v→v∈U→y∈ground g p aB U→oN g y=v→Same (lC aB U) x y:=by
  intro x y v hx e1 hv hy e2;have hb:=h.vr v (hU.sub v hv);have hxt:x∈aX aB v:=(ht.mem v hb.1 hb.2 x).2 ⟨hx,e1⟩;rcases dV.1 hy with ⟨q1,-⟩ | ⟨u,q1,q2,rfl⟩
  ·rw[gA h q1] at e2
   have hyt:y∈aX aB v:=(ht.mem v hb.1 hb.2 y).2 ⟨q1,e2⟩;refine Or.inr ⟨(aX aB v).reverse,?_,by simpa using hxt,by simpa using hyt⟩;unfold lC busy;refine List.mem_append.2 (Or.inl (List.mem_map.2 ⟨v,List.mem_filter.2 ⟨hv,?_⟩,rfl⟩));cases hq:aX aB v with
   | nil=>rw[hq] at hxt;simp at hxt
   | cons _ _=>rfl
  rw[jM (h.vr u (hU.sub u q1)).1] at e2;subst e2;rw[q2] at hxt;simp at hxt
 have hB:=(zP h ht hU).1.nodup;rcases dV.1 hx with ⟨q1,q2⟩ | ⟨u,q1,q2,rfl⟩
 ·exact key q1 rfl q2 hy (by rw[←e,gA h q1])
 rw[jM (h.vr u (hU.sub u q1)).1] at e;rcases dV.1 hy with ⟨r1,r2⟩ | ⟨w,r1,r2,rfl⟩
 ·rw[gA h r1] at e
  exact (Same.eqv hB).symm (key r1 e.symm q1 hx (jM (h.vr u (hU.sub u q1)).1))
 rw[jM (h.vr w (hU.sub w r1)).1] at e;rw[e];exact Or.inl rfl
theorem aGL {g:Gr} {p:Pt} {aB:List (List Int)} {U S:List Int} (h:bB g p) (hU:fP g p U) {G:Int→Int→Prop} (hG:Eqv G) (h1:∀ x∈ground g p aB U,∀ y∈ground g p aB U,oN g x=oN g y→G x y)
  (hS:∀ e∈S,e∈p.e) (h2:∀ e∈S,g.tail (2*e)∈U→G (2*e) (2*e+1)) {a v:Int} (hc:dT g ⟨p.v,S⟩ (-1) a v):∀ x∈ground g p aB U,oN g x=a→∀ y∈ground g p aB U,oN g y=v→G x y:=by
 induction hc with
 | here=>exact fun x hx e1 y hy e2=>h1 x hx y hy (e1.trans e2.symm)
 | @step u w _ hn _ ih =>
  intro x hx e1 y hy e2;obtain⟨e,he,hends⟩:=hn;have d1:2*e∈p.aK:=bN.2 (by rw[show 2*e / 2=e by omega];exact hS e he);have d2:2*e+1∈p.aK:=bN.2 (by rw[show (2*e+1) / 2=e by omega];exact hS e he);have t1:=pL g e;have t2:g.tail (2*e+1)=(g.at e).2:=by
   have e2:dE (2*e)=2*e+1:=by unfold dE;rw[if_pos (by omega)]
   rw[←e2,fH];exact t1.2
  have hyU:w∈U:=by rw[←e2];exact oZ h hU hy
  rcases hends with q | q
  .-- 2e at u,its dE at w
   have a1:g.tail (2*e)=u:=by rw[t1.1,q]
   have a2:g.tail (2*e+1)=w:=by rw[t2,q]
   have aU:u∈U:=by
    have e2':dE (2*e)=2*e+1:=by unfold dE;rw[if_pos (by omega)]
    rw[←a1];refine (kA hU.closed d1).1 ?_;rw[←fH,e2',a2];exact hyU
   have g1:2*e∈ground g p aB U:=dV.2 (Or.inl ⟨d1,by rw[a1];exact aU⟩);have g2:2*e+1∈ground g p aB U:=dV.2 (Or.inl ⟨d2,by rw[a2];exact hyU⟩);exact hG.trans (hG.trans (ih x hx e1 _ g1 (by rw[gA h d1,a1])) (h2 e he (by rw[a1];exact aU))) (h1 _ g2 y hy (by rw[gA h d2,a2,e2]))
  have a1:g.tail (2*e)=w:=by rw[t1.1,q]
  have a2:g.tail (2*e+1)=u:=by rw[t2,q]
  have aU:u∈U:=by
   have e2':dE (2*e)=2*e+1:=by unfold dE;rw[if_pos (by omega)]
   rw[←a2,←e2',fH];exact hU.closed _ d1 (by rw[a1];exact hyU)
  have g1:2*e∈ground g p aB U:=dV.2 (Or.inl ⟨d1,by rw[a1];exact hyU⟩);have g2:2*e+1∈ground g p aB U:=dV.2 (Or.inl ⟨d2,by rw[a2];exact aU⟩);exact hG.trans (hG.trans (ih x hx e1 _ g2 (by rw[gA h d2,a2])) (hG.symm (h2 e he (by rw[a1];exact hyU)))) (h1 _ g1 y hy (by rw[gA h d1,a1,e2]))
theorem aGo {g:Gr} {p:Pt} {aB:List (List Int)} {W:List aO} (hpe:p.err g=0) (ht:aW g p aB) (hW:bV g p aB W) (r:Int) :
  (comp g p r).length+(W.filter fun f=>decide (f.aY g∈comp g p r)).length≤2+(p.e.filter fun e=>decide (g.tail (2*e)∈comp g p r)).length:=by
 have h:=Pt.aQ hpe;have hU:=fP.comp h r;obtain⟨b1,b2⟩:=zP h ht hU;obtain⟨w1,w2⟩:=qP hpe ht hW hU;have hle:=aBD b1 b2 (fun e he=>aGw (aB:=aB) h hU he) w1 w2;rw[aDL] at hle;have hE:=Same.eqv b1.nodup;have h1:cnt (Gen (Same (lC aB (comp g p r))) (lJ g p (comp g p r))) (ground g p aB (comp g p r))≤1:=by
  refine vP (Gen.eqv hE _) fun x hx y hy=>?_;have vx:=bZ.1 (oZ h hU hx);have vy:=bZ.1 (oZ h hU hy);have hc:=((vx.2.symm (by
   intro e;have:r = -1:=e;have h2:=h.vr _ vx.1;have h3:dT g p (-1) (-1) (oN g x):=by rw[←this];exact this ▸ vx.2
   exact aHJ h h3 (by omega))).2).trans vy.2
  exact aGL (S:=p.e) h hU (Gen.eqv hE _) (fun u hu w hw e=>Gen.base (aFC h ht hU hu hw e) _) (fun _ he=>he) (fun e he ht2=>Gen.aH4 hE (List.mem_filter.2 ⟨he,decide_eq_true ht2⟩)) (dT.congr (q:=⟨p.v,p.e⟩) rfl hc) x hx rfl y hy rfl
 unfold nH at hle;rw[List.length_map] at hle;unfold lJ at hle h1;omega
def aEH (c:aO→Int) (W:List aO):Nat:=(W.filter fun f=>decide ((aT c W (c f)).getD 0 0=f.1)).length
theorem cJ {c:aO→Int} {W:List aO} {h k:Int}:k∈aT c W h↔∃ f∈W,c f=h∧f.1=k:=by
 unfold aT;rw[List.mem_map];constructor
 ·rintro ⟨f,hf,e⟩
  obtain⟨h1,h2⟩:=List.mem_filter.1 hf;exact⟨f,h1,of_decide_eq_true h2,e⟩
 rintro ⟨f,h1,h2,e⟩;exact⟨f,List.mem_filter.2 ⟨h1,decide_eq_true h2⟩,e⟩
theorem vU (c:aO→Int) (W:List aO) (h:Int):(aT c W h).Sublist (W.map (·.1)):=(List.filter_sublist).map _
theorem eV {c:aO→Int} {W:List aO} (hk:(W.map (·.1)).Pairwise (·<·)) (h:Int):(aT c W h).Pairwise (·<·):=hk.sublist (vU c W h)
theorem jY {W:List aO} (hk:(W.map (·.1)).Pairwise (·<·)) {f x:aO} (hf:f∈W) (hx:x∈W) (e:f.1=x.1):f=x:=by
 induction W with
 | nil=>simp at hf
 | cons a W ih =>
  rw[List.map_cons,List.pairwise_cons] at hk;rcases List.mem_cons.1 hf with e1 | h1 <;> rcases List.mem_cons.1 hx with e2 | h2
  ·rw[e1,e2]
  ·have:=hk.1 x.1 (List.mem_map.2 ⟨x,h2,rfl⟩);rw[e1] at e;omega
  ·have:=hk.1 f.1 (List.mem_map.2 ⟨f,h1,rfl⟩);rw[e2] at e;omega
  exact ih hk.2 h1 h2
theorem aF1 {c:aO→Int} {W:List aO}:∀ l∈eT c W,2≤l.length:=fun l hl=>by
 obtain⟨h,-,h2⟩:=eX.1 hl;omega
theorem yK {c:aO→Int} {W:List aO} (hk:(W.map (·.1)).Pairwise (·<·)):∀ l∈eT c W,l.Pairwise (·<·):=fun l hl=>by
 obtain⟨h,rfl,-⟩:=eX.1 hl;exact eV hk h
theorem aFs {c:aO→Int} {W:List aO}:∀ x∈(eT c W).flatten,x∈W.map (·.1):=by
 intro x hx;obtain⟨l,hl,hxl⟩:=List.mem_flatten.1 hx;obtain⟨h,rfl,-⟩:=eX.1 hl;exact (vU c W h).subset hxl
theorem aC6 {c:aO→Int} {W:List aO} (hk:(W.map (·.1)).Pairwise (·<·)):(eT c W).flatten.Nodup:=by
 rw[cV];refine⟨fun l hl=>(yK hk l hl).imp fun h=>by omega,(qQ hk).imp_of_mem fun {a b} ha hb hlt x hx y hy e=>?_⟩;subst e;obtain⟨h1,rfl,-⟩:=eX.1 ha;obtain⟨h2,rfl,-⟩:=eX.1 hb;obtain⟨f,hf,e1,e2⟩:=cJ.1 hx;obtain⟨f',hf',e3,e4⟩:=cJ.1 hy;have:=jY hk hf hf' (e2.trans e4.symm);subst this;rw[e1] at e3;subst e3;omega
theorem zB {α:Type} (a:α→Nat):∀ {H:List α},(∀ x∈H,1≤a x)→(H.map a).sum+(H.filter fun x=>decide (1<a x)).length=((H.filter fun x=>decide (1<a x)).map a).sum+H.length
 | [],_=>rfl
 | x :: H,h=>by
  have ih:=zB a (H:=H) fun y hy=>h y (by simp[hy]);have hx:=h x (by simp);by_cases q:1<a x
  ·rw[List.filter_cons_of_pos (by simpa using q)]
   simp only[List.map_cons,List.sum_cons,List.length_cons];omega
  rw[List.filter_cons_of_neg (by simpa using q)];simp only[List.map_cons,List.sum_cons,List.length_cons];omega
theorem aDU {c:aO→Int} {W:List aO} {f:aO} (hf:f∈W):∃ r∈W,c r=c f∧(aT c W (c r)).getD 0 0=r.1:=by
 have hm:f∈W.filter fun x=>decide (c x=c f):=List.mem_filter.2 ⟨hf,by simp⟩;cases e:W.filter fun x=>decide (c x=c f) with
 | nil=>rw[e] at hm;simp at hm
 | cons r l =>
  have hr:r∈W.filter fun x=>decide (c x=c f):=by rw[e];simp
  obtain⟨h1,h2⟩:=List.mem_filter.1 hr;have h2:=of_decide_eq_true h2;refine⟨r,h1,h2,?_⟩;rw[h2];unfold aT;rw[e];rfl
theorem aFJ {c:aO→Int} {W:List aO} (h:Int):(aT c W h).length=(W.filter fun x=>decide (c x=h)).length:=by simp[aT]
theorem aC7 {c:aO→Int} {W:List aO} (hk:(W.map (·.1)).Pairwise (·<·)):(eT c W).flatten.length+aEH c W=W.length+(eT c W).length:=by
 obtain⟨H,hH⟩:∃ H,(W.filter fun f=>decide ((aT c W (c f)).getD 0 0=f.1))=H:=⟨_,rfl⟩;have hmH:∀ r,r∈H↔r∈W∧(aT c W (c r)).getD 0 0=r.1:=fun r=>by rw[←hH,List.mem_filter,decide_eq_true_iff]
 have hWn:W.Nodup:=by
  rw[List.pairwise_map] at hk;exact hk.imp fun h e=>by rw[e] at h;omega
 have hHn:H.Nodup:=by rw[←hH];exact hWn.filter _
 have hsum:(H.map fun r=>(W.filter fun x=>decide (c x=c r)).length).sum=W.length:=by
  refine oL (fun x r=>decide (c x=c r)) hHn fun x hx=>⟨?_,fun r hr s hs h1 h2=>?_⟩
  ·obtain⟨r,hr,e,h⟩:=aDU (c:=c) hx
   exact⟨r,(hmH r).2 ⟨hr,h⟩,decide_eq_true e.symm⟩
  have e:c r=c s:=(of_decide_eq_true h1).symm.trans (of_decide_eq_true h2);obtain⟨r1,r2⟩:=(hmH r).1 hr;obtain⟨s1,s2⟩:=(hmH s).1 hs;rw[e] at r2;exact jY hk r1 s1 (r2.symm.trans s2)
 have hpos:∀ r∈H,1≤(aT c W (c r)).length:=fun r hr=>List.length_pos_of_mem (cJ.2 ⟨r,((hmH r).1 hr).1,rfl,rfl⟩);have hs:=zB (fun r=>(aT c W (c r)).length) hpos;have e1:(H.map fun r=>(aT c W (c r)).length).sum=W.length:=by
  rw[←hsum]
  congr 1
  exact List.map_congr_left fun r _=>aFJ _
 have e2:eT c W=(H.filter fun r=>decide (1<(aT c W (c r)).length)).map fun r=>aT c W (c r):=by
  unfold eT;rw[←hH,List.filter_filter]
  congr 1
  refine List.filter_congr fun f _=>?_;by_cases h1:1<(aT c W (c f)).length <;> by_cases h2:(aT c W (c f)).getD 0 0=f.1 <;> simp[h1]
 have e3:(eT c W).flatten.length=((H.filter fun r=>decide (1<(aT c W (c r)).length)).map fun r=>(aT c W (c r)).length).sum:=by
  rw[e2,List.length_flatten,List.map_map];rfl
 have e4:(eT c W).length=(H.filter fun r=>decide (1<(aT c W (c r)).length)).length:=by rw[e2,List.length_map]
 have e5:aEH c W=H.length:=by unfold aEH;rw[hH]
 rw[e1] at hs;omega
theorem aFP {c:aO→Int} {W:List aO} (hk:(W.map (·.1)).Pairwise (·<·)) {R:Int→Int→Prop} (hR:Eqv R) {K:List Int} {pl:aO→Int} (hpl:∀ f∈W,pl f∈K) (h:∀ f∈W,∀ x∈W,c f=c x↔R (pl f) (pl x)) (hall:∀ k∈K,∃ f∈W,R k (pl f)):cnt R K=aEH c W:=by
 have hT:aGd R K ((W.filter fun f=>decide ((aT c W (c f)).getD 0 0=f.1)).map pl):=by
  refine⟨fun t ht=>?_,fun k hkK=>?_,?_⟩
  ·obtain⟨f,hf,rfl⟩:=List.mem_map.1 ht
   exact hpl f (List.mem_filter.1 hf).1
  ·obtain⟨f,hf,hr⟩:=hall k hkK
   obtain⟨r,hr1,hr2,hr3⟩:=aDU (c:=c) hf;exact⟨pl r,List.mem_map.2 ⟨r,List.mem_filter.2 ⟨hr1,decide_eq_true hr3⟩,rfl⟩,hR.trans hr ((h f hf r hr1).1 hr2.symm)⟩
  rw[List.pairwise_map];have hk2:=hk;rw[List.pairwise_map] at hk2;refine (hk2.filter _).imp_of_mem fun {a b} ha hb hlt hr=>?_;obtain⟨a1,a2⟩:=List.mem_filter.1 ha;obtain⟨b1,b2⟩:=List.mem_filter.1 hb;have e:=(h a a1 b b1).2 hr;have a2:=of_decide_eq_true a2;have b2:=of_decide_eq_true b2;rw[e] at a2;omega
 rw[zW hR hT,List.length_map];rfl
theorem rA {g:Gr} {p:Pt} {aB:List (List Int)} (hpe:p.err g=0) (hto:aW g p aB) {f:aO} (hf:f∈aH g p aB):gG g p aB f.1=(bO g p (f.aY g):Int):=by
 have hW:=bS hpe hto;unfold gG bH;have hfind:(aH g p aB).find? (fun x=>decide (x.1=f.1))=some f:=by
  cases e:(aH g p aB).find? (fun x=>decide (x.1=f.1)) with
  | none=>exact absurd (List.find?_eq_none.1 e f hf) (by simp)
  | some x =>
   have h1:=List.mem_of_find?_eq_some e;have h3:=List.find?_some e;have h2:x.1=f.1:=by simpa using h3
   rw[jY (dF hpe hW) h1 hf h2]
 rw[hfind];rfl
theorem aFI {g:Gr} {p:Pt} {aB:List (List Int)} {c:aO→Int} (hpe:p.err g=0) (hto:aW g p aB) (hfl:Flat g p aB) (hcount:(aH g p aB).length+1=(roots g p).length+aEH c (aH g p aB))
  (tot:∀ J,Eqv J→(∀ f∈aH g p aB,∀ x∈aH g p aB,c f=c x→J (gG g p aB f.1) (gG g p aB x.1))→∀ a∈bJ (roots g p).length,∀ b∈bJ (roots g p).length,J a b):aN g p aB (eT c (aH g p aB))=0:=by
 have hk:=dF hpe (bS hpe hto);have hc:=aC7 (c:=c) hk;refine aDs hpe hto hfl aF1 (qQ hk) (aC6 hk) aFs (yK hk) (by omega) fun J hJ hj=>?_;refine tot J hJ fun f hf x hx e=>?_;by_cases hfx:f=x
 ·rw[hfx];exact hJ.refl _
 have m1:f.1∈aT c (aH g p aB) (c f):=cJ.2 ⟨f,hf,rfl,rfl⟩;have m2:x.1∈aT c (aH g p aB) (c f):=cJ.2 ⟨x,hx,e.symm,rfl⟩;have hlen:1<(aT c (aH g p aB) (c f)).length:=by
  match hq:aT c (aH g p aB) (c f) with
  | []=>rw[hq] at m1;simp at m1
  | [a] =>
   rw[hq] at m1 m2;simp at m1 m2;exact absurd (jY hk hf hx (m1.trans m2.symm)) hfx
  | _ :: _ :: _=>simp
 have hg:aT c (aH g p aB) (c f)∈eT c (aH g p aB):=eX.2 ⟨_,rfl,hlen⟩;exact hJ.trans (hJ.symm (hj _ hg _ m1)) (hj _ hg _ m2)
theorem gY {g:Gr} {p:Pt} {aB same:List (List Int)} (_h:fS g p aB same):iO g p aB same (aJ g p aB same):=by
 unfold aJ;have hex:∃ ll,iO g p aB same ll:=by
  refine⟨(eQ g p aB same).mergeSort fun a b=>decide (a.getD 0 0≤b.getD 0 0),List.mergeSort_perm _ _,?_⟩;have:=List.pairwise_mergeSort (le:=fun a b:List Int=>decide (a.getD 0 0≤b.getD 0 0)) (fun a b c h1 h2=>by simp only[decide_eq_true_eq] at h1 h2 ⊢;omega) (fun a b=>by simp only[Bool.or_eq_true,decide_eq_true_eq];omega) (eQ g p aB same);exact this.imp fun h=>of_decide_eq_true h
 rw[dif_pos hex];exact Classical.choose_spec hex
noncomputable def cls (g:Gr) (p:Pt) (aB same:List (List Int)) (f:aO):Int:=numOf (aJ g p aB same) f.1
theorem vF {g:Gr} {p:Pt} {aB same:List (List Int)} (h:fS g p aB same):(aJ g p aB same).flatten.Nodup:=((gY h).perm.flatten).nodup_iff.2 h.oJ
theorem aGy {g:Gr} {p:Pt} {aB same:List (List Int)} (h:fS g p aB same) {i:Nat} (hi:i<(aJ g p aB same).length) {f:aO} (hf:f.1∈(aJ g p aB same).getD i []):cls g p aB same f=i:=by
 unfold cls numOf;rw[hZ (vF h) hi hf];rfl
theorem aD1 {g:Gr} {p:Pt} {aB same:List (List Int)} (h:fS g p aB same) {f:aO} (hf:f∈aH g p aB):∃ i,i<(aJ g p aB same).length∧f.1∈(aJ g p aB same).getD i []∧cls g p aB same f=i:=by
 have hm:f.1∈(aJ g p aB same).flatten:=((gY h).perm.flatten.trans h.all).mem_iff.2 (List.mem_map.2 ⟨f,hf,rfl⟩);obtain⟨l,hl,hfl⟩:=List.mem_flatten.1 hm;obtain⟨i,hi,e⟩:=List.getElem_of_mem hl;have hg:(aJ g p aB same).getD i []=l:=by simp[List.getD,hi,e]
 rw[←hg] at hfl;exact⟨i,hi,hfl,aGy h hi hfl⟩
theorem vO {g:Gr} {p:Pt} {aB same:List (List Int)} (h:fS g p aB same) {i:Nat} (hi:i<(aJ g p aB same).length):∀ x,x∈aT (cls g p aB same) (aH g p aB) i↔x∈(aJ g p aB same).getD i []:=by
 intro x;rw[cJ];constructor
 ·rintro ⟨f,hf,e,rfl⟩
  obtain⟨j,hj,hfj,ej⟩:=aD1 h hf;have:i=j:=by rw[e] at ej;exact Int.ofNat.inj ej
  rw[this];exact hfj
 intro hx;have hgi:(aJ g p aB same).getD i []=(aJ g p aB same)[i]:=by simp[List.getD,hi]
 have hm:x∈(aJ g p aB same).flatten:=List.mem_flatten.2 ⟨_,List.getElem_mem hi,by rw[←hgi];exact hx⟩;obtain⟨f,hf,rfl⟩:=List.mem_map.1 (((gY h).perm.flatten.trans h.all).mem_iff.1 hm);exact⟨f,hf,aGy h hi hx,rfl⟩
theorem rL:∀ {l m:List Int},l.Pairwise (·<·)→m.Pairwise (·<·)→(∀ x,x∈l↔x∈m)→l=m
 | [],[],_,_,_=>rfl
 | [],y :: m,_,_,h=>by have:=(h y).2 (by simp);simp at this
 | x :: l,[],_,_,h=>by have:=(h x).1 (by simp);simp at this
 | x :: l,y :: m,h1,h2,h=>by
  rw[List.pairwise_cons] at h1 h2;have e:x=y:=by
   rcases List.mem_cons.1 ((h x).1 (by simp)) with q | q
   ·exact q
   rcases List.mem_cons.1 ((h y).2 (by simp)) with r | r
   ·exact r.symm
   have:=h1.1 y r;have:=h2.1 x q;omega
  subst e;rw[rL h1.2 h2.2 fun z=>?_];constructor
  ·intro hz
   rcases List.mem_cons.1 ((h z).1 (by simp[hz])) with q | q
   ·have:=h1.1 z hz;omega
   exact q
  intro hz;rcases List.mem_cons.1 ((h z).2 (by simp[hz])) with q | q
  ·have:=h2.1 z hz;omega
  exact q
theorem zD {g:Gr} {p:Pt} {aB same:List (List Int)} (hz:aN g p aB same=0):same=eT (cls g p aB same) (aH g p aB):=by
 obtain⟨hpe,hto⟩:=bC (bY (cX hz).1).1;have hpt:=iN hz (bS hpe hto);have hk:=dF hpe (bS hpe hto);have hnds:same.Nodup:=by
  have h1:=(cV.1 hpt.nodup).2;refine h1.imp_of_mem fun {a b} ha hb hd e=>?_;subst e;have:=hpt.two a ha
  match a,this with
  | x :: l,_=>exact hd x (by simp) x (by simp) rfl
 have hheads:same.Pairwise fun a b=>a.getD 0 0≤b.getD 0 0:=by
  have h1:=aCx hz;exact h1.imp fun h=>by omega
 refine aAE hk hnds (fun l=>⟨fun hl=>?_,fun ⟨h,e,h1⟩=>?_⟩) (List.Perm.refl _) hheads
 ·have hla:l∈aJ g p aB same:=(gY hpt).perm.mem_iff.2 (List.mem_append.2 (Or.inl hl))
  obtain⟨i,hi,e⟩:=List.getElem_of_mem hla;have hg:(aJ g p aB same).getD i []=l:=by simp[List.getD,hi,e]
  refine⟨i,?_,by have:=hpt.two l hl;omega⟩;refine rL (hpt.aCY l hl) (eV hk _) fun x=>?_;rw[vO hpt hi,hg]
 have hne:l≠[]:=by intro q;rw[q] at h1;simp at h1
 obtain⟨k,hkl⟩:=List.exists_mem_of_ne_nil l hne;rw[e] at hkl;obtain⟨f,hf,e2,rfl⟩:=cJ.1 hkl;obtain⟨i,hi,hfi,ei⟩:=aD1 hpt hf;rw[e2] at ei;subst ei;have hg:(aJ g p aB same).getD i []=(aJ g p aB same)[i]:=by simp[List.getD,hi]
 have hmem:(aJ g p aB same).getD i []∈eQ g p aB same:=(gY hpt).perm.mem_iff.1 (by rw[hg];exact List.getElem_mem hi);rcases List.mem_append.1 hmem with q | q
 ·have:l=(aJ g p aB same).getD i []:=by
   rw[e];exact rL (eV hk _) (hpt.aCY _ q) fun x=>vO hpt hi x
  rw[this];exact q
 exfalso;unfold dM at q;obtain⟨f',-,e3⟩:=List.mem_map.1 q;have hx:=vO hpt hi;rw[←e3] at hx;have hnd:l.Nodup:=by rw[e];exact (eV hk _).imp fun h=>by omega
 match l,h1,e,hnd with
 | a :: b :: m,_,e,hnd =>
  have ha:=(hx a).1 (by rw[←e];simp);have hb:=(hx b).1 (by rw[←e];simp);simp at ha hb;rw[ha,hb] at hnd;simp at hnd
end Go.Proofs.YtkacjmoamgjfpaaGreat.aA
