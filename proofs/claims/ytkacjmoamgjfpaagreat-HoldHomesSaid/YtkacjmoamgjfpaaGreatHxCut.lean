/- Counting classes, and edges taken out of a map of turns: Euler's formula. No program here. -/
import Derived.Test.YtkacjmoamgjfpaaGreatHxSideE
namespace Go.Proofs.YtkacjmoamgjfpaaGreat.Plain
structure Eqv (R:Int→Int→Prop):Prop where
 refl:∀ x,R x x
 symm:∀ {x y},R x y→R y x
 trans:∀ {x y z},R x y→R y z→R x z
structure Reps (R:Int→Int→Prop) (K T:List Int):Prop where
 sub:∀ t∈T,t∈K
 all:∀ x∈K,∃ t∈T,R x t
 one:T.Pairwise fun a b=>¬ R a b
theorem pigeon {R:Int→Int→Prop} (h:Eqv R):∀ {T T':List Int},(T.Pairwise fun a b=>¬ R a b)→(∀ t∈T,∃ t'∈T',R t t')→T.length≤T'.length
 | [],_,_,_=>Nat.zero_le _
 | a :: T,T',hp,hm=>by
  rw[List.pairwise_cons] at hp
  obtain⟨b,hb,hab⟩:=hm a (by simp)
  have h1:=pigeon h (T:=T) (T':=T'.erase b) hp.2 (fun t ht=>by
   obtain⟨c,hc,htc⟩:=hm t (by simp[ht])
   refine⟨c,?_,htc⟩
   have hne:c≠b:=fun e=>hp.1 t ht (h.trans hab (h.symm (e ▸ htc)))
   exact (List.mem_erase_of_ne hne).2 hc)
  have h2:=List.length_erase_of_mem hb
  have h3:0<T'.length:=List.length_pos_of_mem hb
  rw[List.length_cons]
  omega
open Classical in
noncomputable def reps (R:Int→Int→Prop):List Int→List Int
 | []=>[]
 | x :: K=>if ∃ y∈reps R K,R x y then reps R K else x :: reps R K
noncomputable def cnt (R:Int→Int→Prop) (K:List Int):Nat:=(reps R K).length
theorem reps_ok {R:Int→Int→Prop} (h:Eqv R):∀ K:List Int,Reps R K (reps R K)
 | []=>⟨by simp[reps],by simp,by simp[reps]⟩
 | x :: K=>by
  have ih:=reps_ok h K
  by_cases hx:∃ y∈reps R K,R x y
  ·have e:reps R (x :: K)=reps R K:=by simp only[reps];rw[if_pos hx]
   rw[e]
   refine⟨fun t ht=>List.mem_cons_of_mem _ (ih.sub t ht),fun y hy=>?_,ih.one⟩
   rcases List.mem_cons.1 hy with rfl | hy
   ·exact hx
   exact ih.all y hy
  have e:reps R (x :: K)=x :: reps R K:=by simp only[reps];rw[if_neg hx]
  rw[e]
  refine⟨fun t ht=>?_,fun y hy=>?_,?_⟩
  ·rcases List.mem_cons.1 ht with rfl | ht
   ·simp
   exact List.mem_cons_of_mem _ (ih.sub t ht)
  ·rcases List.mem_cons.1 hy with rfl | hy
   ·exact⟨y,by simp,h.refl y⟩
   obtain⟨t,ht,hr⟩:=ih.all y hy
   exact⟨t,List.mem_cons_of_mem _ ht,hr⟩
  rw[List.pairwise_cons]
  exact⟨fun y hy hr=>hx ⟨y,hy,hr⟩,ih.one⟩
theorem cnt_eq {R:Int→Int→Prop} (h:Eqv R) {K T:List Int} (hT:Reps R K T):cnt R K=T.length:=by
 have h1:=reps_ok h K
 exact Nat.le_antisymm (pigeon h h1.one fun t ht=>hT.all t (h1.sub t ht)) (pigeon h hT.one fun t ht=>h1.all t (hT.sub t ht))
theorem cnt_mono {R Q:Int→Int→Prop} (hR:Eqv R) (hQ:Eqv Q) {K:List Int} (h:∀ x∈K,∀ y∈K,R x y→Q x y):cnt Q K≤cnt R K:=by
 have h1:=reps_ok hR K
 have h2:=reps_ok hQ K
 refine pigeon hQ h2.one fun t ht=>?_
 obtain⟨u,hu,hr⟩:=h1.all t (h2.sub t ht)
 exact⟨u,hu,h t (h2.sub t ht) u (h1.sub u hu) hr⟩
theorem cnt_congr {R Q:Int→Int→Prop} (hR:Eqv R) (hQ:Eqv Q) {K:List Int} (h:∀ x∈K,∀ y∈K,R x y↔Q x y):cnt R K=cnt Q K :=
 Nat.le_antisymm (cnt_mono hQ hR fun x hx y hy=>(h x hx y hy).2) (cnt_mono hR hQ fun x hx y hy=>(h x hx y hy).1)
theorem cnt_via {R Q:Int→Int→Prop} (hR:Eqv R) (hQ:Eqv Q) {K L:List Int} (f:Int→Int) (h1:∀ x∈K,f x∈L) (h2:∀ x∈K,∀ y∈K,R x y↔Q (f x) (f y)) (h3:∀ z∈L,∃ x∈K,Q z (f x)):cnt R K=cnt Q L:=by
 have hr:=reps_ok hR K
 have:Reps Q L ((reps R K).map f):=by
  refine⟨fun t ht=>?_,fun z hz=>?_,?_⟩
  ·obtain⟨x,hx,rfl⟩:=List.mem_map.1 ht
   exact h1 x (hr.sub x hx)
  ·obtain⟨x,hx,hq⟩:=h3 z hz
   obtain⟨t,ht,hxt⟩:=hr.all x hx
   exact⟨f t,List.mem_map.2 ⟨t,ht,rfl⟩,hQ.trans hq ((h2 x hx t (hr.sub t ht)).1 hxt)⟩
  rw[List.pairwise_map]
  exact hr.one.imp_of_mem fun ha hb hn hq=>hn ((h2 _ (hr.sub _ ha) _ (hr.sub _ hb)).2 hq)
 rw[cnt_eq hQ this,List.length_map]
 rfl
theorem cnt_le_one {R:Int→Int→Prop} (h:Eqv R) {K:List Int} (ht:∀ x∈K,∀ y∈K,R x y):cnt R K≤1:=by
 have hr:=reps_ok h K
 unfold cnt
 match e:reps R K with
 | []=>simp
 | [x]=>simp
 | x :: y :: l =>
  rw[e] at hr
  exact absurd (ht x (hr.sub x (by simp)) y (hr.sub y (by simp))) ((List.pairwise_cons.1 hr.one).1 y (by simp))
def Jn (R:Int→Int→Prop) (a b x y:Int):Prop:=R x y∨(R x a∧R b y)∨(R x b∧R a y)
theorem Jn.eqv {R:Int→Int→Prop} (h:Eqv R) (a b:Int):Eqv (Jn R a b):=by
 refine⟨fun x=>Or.inl (h.refl x),fun {x y} hxy=>?_,fun {x y z} hxy hyz=>?_⟩
 ·rcases hxy with q | ⟨q,r⟩ | ⟨q,r⟩
  ·exact Or.inl (h.symm q)
  ·exact Or.inr (Or.inr ⟨h.symm r,h.symm q⟩)
  exact Or.inr (Or.inl ⟨h.symm r,h.symm q⟩)
 rcases hxy with q | ⟨q,r⟩ | ⟨q,r⟩ <;> rcases hyz with s | ⟨s,t⟩ | ⟨s,t⟩
 ·exact Or.inl (h.trans q s)
 ·exact Or.inr (Or.inl ⟨h.trans q s,t⟩)
 ·exact Or.inr (Or.inr ⟨h.trans q s,t⟩)
 ·exact Or.inr (Or.inl ⟨q,h.trans r s⟩)
 ·exact Or.inr (Or.inl ⟨q,t⟩)
 ·exact Or.inl (h.trans q t)
 ·exact Or.inr (Or.inr ⟨q,h.trans r s⟩)
 ·exact Or.inl (h.trans q t)
 exact Or.inr (Or.inr ⟨q,t⟩)
theorem pw_one {R:Int→Int→Prop} (h:Eqv R):∀ {T:List Int},(T.Pairwise fun a b=>¬ R a b)→∀ {u w:Int},u∈T→w∈T→R u w→u=w
 | [],_,_,_,hu,_,_=>by simp at hu
 | a :: T,hp,u,w,hu,hw,hr=>by
  rw[List.pairwise_cons] at hp
  rcases List.mem_cons.1 hu with e1 | hu <;> rcases List.mem_cons.1 hw with e2 | hw
  ·rw[e1,e2]
  ·exact absurd (e1 ▸ hr) (hp.1 w hw)
  ·exact absurd (h.symm (e2 ▸ hr)) (hp.1 u hu)
  exact pw_one h hp.2 hu hw hr
theorem cnt_join_same {R:Int→Int→Prop} (h:Eqv R) {K:List Int} {a b:Int} (hab:R a b):cnt (Jn R a b) K=cnt R K:=by
 refine cnt_congr (Jn.eqv h a b) h fun x _ y _=>⟨fun q=>?_,Or.inl⟩
 rcases q with q | ⟨q,r⟩ | ⟨q,r⟩
 ·exact q
 ·exact h.trans (h.trans q hab) r
 exact h.trans (h.trans q (h.symm hab)) r
theorem cnt_join {R:Int→Int→Prop} (h:Eqv R) {K:List Int} {a b:Int} (ha:a∈K) (hb:b∈K) (hab:¬ R a b):cnt (Jn R a b) K+1=cnt R K:=by
 have hr:=reps_ok h K
 obtain⟨s,hs,has⟩:=hr.all a ha
 obtain⟨t,ht,hbt⟩:=hr.all b hb
 have hst:s≠t:=fun e=>hab (h.trans has (h.symm (e ▸ hbt)))
 have hnd:(reps R K).Nodup:=hr.one.imp fun {a b} (hn:¬ R a b) (e:a=b)=>hn (by rw[e];exact h.refl _)
 have hT:Reps (Jn R a b) K ((reps R K).erase t):=by
  refine⟨fun u hu=>hr.sub u (List.mem_of_mem_erase hu),fun x hx=>?_,?_⟩
  ·obtain⟨u,hu,hxu⟩:=hr.all x hx
   by_cases e:u=t
   ·subst e
    exact⟨s,(List.mem_erase_of_ne hst).2 hs,Or.inr (Or.inr ⟨h.trans hxu (h.symm hbt),has⟩)⟩
   exact⟨u,(List.mem_erase_of_ne e).2 hu,Or.inl hxu⟩
  refine (hr.one.sublist List.erase_sublist).imp_of_mem fun {u w} hu hw hn hj=>?_
  have hut:u≠t:=fun e=>by rw[e] at hu;exact (List.Nodup.not_mem_erase hnd) hu
  have hwt:w≠t:=fun e=>by rw[e] at hw;exact (List.Nodup.not_mem_erase hnd) hw
  rcases hj with q | ⟨q,r⟩ | ⟨q,r⟩
  ·exact hn q
  ·exact hwt (pw_one h hr.one (List.mem_of_mem_erase hw) ht (h.trans (h.symm r) hbt))
  exact hut (pw_one h hr.one (List.mem_of_mem_erase hu) ht (h.trans q hbt))
 rw[cnt_eq (Jn.eqv h a b) hT,List.length_erase_of_mem ht]
 have:=List.length_pos_of_mem ht
 show (reps R K).length - 1+1=(reps R K).length
 omega
theorem cnt_join_le {R:Int→Int→Prop} (h:Eqv R) {K:List Int} {a b:Int} (ha:a∈K) (hb:b∈K):cnt R K≤cnt (Jn R a b) K+1∧cnt (Jn R a b) K≤cnt R K:=by
 by_cases hab:R a b
 ·rw[cnt_join_same h hab];omega
 have:=cnt_join h ha hb hab;omega
def Gen (R:Int→Int→Prop):List Int→Int→Int→Prop
 | []=>R
 | e :: E=>Jn (Gen R E) (2*e) (2*e+1)
theorem Gen.eqv {R:Int→Int→Prop} (h:Eqv R):∀ E,Eqv (Gen R E)
 | []=>h
 | _ :: E=>Jn.eqv (Gen.eqv h E) _ _
theorem Gen.base {R:Int→Int→Prop} {x y:Int} (h:R x y):∀ E,Gen R E x y
 | []=>h
 | _ :: E=>Or.inl (Gen.base h E)
theorem Gen.edge {R:Int→Int→Prop} (h:Eqv R) {e:Int}:∀ {E:List Int},e∈E→Gen R E (2*e) (2*e+1)
 | [],he=>by simp at he
 | a :: E,he=>by
  rcases List.mem_cons.1 he with rfl | he
  ·exact Or.inr (Or.inl ⟨(Gen.eqv h E).refl _,(Gen.eqv h E).refl _⟩)
  exact Or.inl (Gen.edge h he)
theorem Gen.least {R Q:Int→Int→Prop} (hQ:Eqv Q) (h1:∀ x y,R x y→Q x y):∀ {E:List Int},(∀ e∈E,Q (2*e) (2*e+1))→∀ {x y:Int},Gen R E x y→Q x y
 | [],_,_,_,h=>h1 _ _ h
 | a :: E,h2,x,y,h=>by
  have ih:∀ {x y:Int},Gen R E x y→Q x y:=fun {x y}=>Gen.least (R:=R) hQ h1 (E:=E) (fun e he=>h2 e (List.mem_cons_of_mem _ he)) (x:=x) (y:=y)
  rcases h with q | ⟨q,r⟩ | ⟨q,r⟩
  ·exact ih q
  ·exact hQ.trans (hQ.trans (ih q) (h2 a (by simp))) (ih r)
  exact hQ.trans (hQ.trans (ih q) (hQ.symm (h2 a (by simp)))) (ih r)
theorem Gen.mono {R:Int→Int→Prop} (h:Eqv R) {E F:List Int} (hs:∀ e∈E,e∈F) {x y:Int} (hx:Gen R E x y):Gen R F x y :=
 Gen.least (Gen.eqv h F) (fun _ _ q=>Gen.base q F) (fun _ he=>Gen.edge h (hs _ he)) hx
def Same (C:List (List Int)) (x y:Int):Prop:=x=y∨∃ c∈C,x∈c∧y∈c
theorem list_one:∀ {C:List (List Int)},C.flatten.Nodup→∀ {l m:List Int} {x:Int},l∈C→m∈C→x∈l→x∈m→l=m
 | [],_,_,_,_,hl,_,_,_=>by simp at hl
 | c :: C,hn,l,m,x,hl,hm,h1,h2=>by
  rw[List.flatten_cons,List.nodup_append] at hn
  rcases List.mem_cons.1 hl with e1 | hl <;> rcases List.mem_cons.1 hm with e2 | hm
  ·rw[e1,e2]
  ·exact absurd rfl (hn.2.2 x (e1 ▸ h1) x (List.mem_flatten.2 ⟨m,hm,h2⟩))
  ·exact absurd rfl (hn.2.2 x (e2 ▸ h2) x (List.mem_flatten.2 ⟨l,hl,h1⟩))
  exact list_one hn.2.1 hl hm h1 h2
theorem Same.eqv {C:List (List Int)} (hn:C.flatten.Nodup):Eqv (Same C):=by
 refine⟨fun x=>Or.inl rfl,fun {x y} h=>?_,fun {x y z} h k=>?_⟩
 ·rcases h with rfl | ⟨c,hc,h1,h2⟩
  ·exact Or.inl rfl
  exact Or.inr ⟨c,hc,h2,h1⟩
 rcases h with rfl | ⟨c,hc,h1,h2⟩
 ·exact k
 rcases k with rfl | ⟨d,hd,k1,k2⟩
 ·exact Or.inr ⟨c,hc,h1,h2⟩
 obtain rfl:=list_one hn hc hd h2 k1
 exact Or.inr ⟨c,hc,h1,k2⟩
theorem trail_rel {Q:Int→Int→Prop} (hQ:Eqv Q) {p:Int→Int} {z:Int}:∀ {l:List Int} {x:Int},Trail p x l z→(∀ w∈x :: l,Q w (p w))→∀ y∈x :: l,Q x y
 | [],x,_,_,y,hy=>by simp at hy;rw[hy];exact hQ.refl x
 | a :: l,x,h,hs,y,hy=>by
  have e:Q x a:=by rw[←h.1];exact hs x (by simp)
  rcases List.mem_cons.1 hy with rfl | hy
  ·exact hQ.refl y
  exact hQ.trans e (trail_rel hQ h.2 (fun w hw=>hs w (List.mem_cons_of_mem _ hw)) y hy)
theorem ring_rel {Q:Int→Int→Prop} (hQ:Eqv Q) {p:Int→Int} {c:List Int} (h:Ring p c) (hs:∀ w∈c,Q w (p w)):∀ x∈c,∀ y∈c,Q x y:=by
 intro x hx y hy
 obtain⟨l,hr,hp⟩:=h.from hx
 exact trail_rel hQ (show Trail p x l x from hr) (fun w hw=>hs w (hp.mem_iff.1 hw)) y (hp.mem_iff.2 hy)
theorem Same.least {Q:Int→Int→Prop} (hQ:Eqv Q) {p:Int→Int} {C:List (List Int)} (h:Rings p C) (hs:∀ w∈C.flatten,Q w (p w)) {x y:Int} (hxy:Same C x y):Q x y:=by
 rcases hxy with rfl | ⟨c,hc,h1,h2⟩
 ·exact hQ.refl x
 exact ring_rel hQ (h.ring c hc) (fun w hw=>hs w (List.mem_flatten.2 ⟨c,hc,hw⟩)) x h1 y h2
theorem Same.step {p:Int→Int} {C:List (List Int)} (h:Rings p C) {x:Int} (hx:x∈C.flatten):Same C x (p x):=by
 obtain⟨c,hc,hxc⟩:=List.mem_flatten.1 hx
 exact Or.inr ⟨c,hc,hxc,((h.ring c hc).map_perm).mem_iff.1 (List.mem_map.2 ⟨x,hxc,rfl⟩)⟩
theorem cnt_same {p:Int→Int} {C:List (List Int)} {K:List Int} (h:Rings p C) (hp:C.flatten.Perm K):cnt (Same C) K=C.length:=by
 have hne:∀ c∈C,c.headD 0∈c:=by
  intro c hc
  have:=h.ring c hc
  cases c with
  | nil=>exact absurd this (by simp[Ring])
  | cons x l=>simp
 have hT:Reps (Same C) K (C.map (·.headD 0)):=by
  refine⟨fun t ht=>?_,fun x hx=>?_,?_⟩
  ·obtain⟨c,hc,rfl⟩:=List.mem_map.1 ht
   exact hp.mem_iff.1 (List.mem_flatten.2 ⟨c,hc,hne c hc⟩)
  ·obtain⟨c,hc,hxc⟩:=List.mem_flatten.1 (hp.mem_iff.2 hx)
   exact⟨_,List.mem_map.2 ⟨c,hc,rfl⟩,Or.inr ⟨c,hc,hxc,hne c hc⟩⟩
  rw[List.pairwise_map]
  have hpw:=(List.pairwise_flatten.1 h.nodup).2
  refine hpw.imp_of_mem fun {c d} hc hd hn hs=>?_
  rcases hs with e | ⟨m,hm,h1,h2⟩
  ·exact hn _ (hne c hc) _ (hne d hd) e
  obtain rfl:=list_one h.nodup hm hc h1 (hne c hc)
  exact hn _ h2 _ (hne d hd) rfl
 rw[cnt_eq (Same.eqv h.nodup) hT,List.length_map]
def tw:List Int→Int→Int
 | [],d=>d
 | e :: S,d=>tw S (swp (2*e) (2*e+1) d)
theorem swp_mem {a b x:Int} {K:List Int} (ha:a∈K) (hb:b∈K) (hx:x∈K):swp a b x∈K:=by
 unfold swp
 split
 ·exact hb
 split
 ·exact ha
 exact hx
theorem tw_mem {K:List Int}:∀ {S:List Int},(∀ e∈S,2*e∈K∧2*e+1∈K)→∀ {x:Int},x∈K→tw S x∈K
 | [],_,_,hx=>hx
 | e :: S,h,x,hx=>tw_mem (fun f hf=>h f (List.mem_cons_of_mem _ hf)) (swp_mem (h e (by simp)).1 (h e (by simp)).2 hx)
theorem gen_swp {R:Int→Int→Prop} (h:Eqv R) (e:Int) (E:List Int) (x:Int):Gen R (e :: E) x (swp (2*e) (2*e+1) x):=by
 have hE:=Gen.eqv h (e :: E)
 have he:=Gen.edge h (e:=e) (E:=e :: E) (by simp)
 unfold swp
 split
 ·rename_i q;rw[q];exact he
 split
 ·rename_i q;rw[q];exact hE.symm he
 exact hE.refl x
theorem gen_tw {R:Int→Int→Prop} (h:Eqv R):∀ (S:List Int) (x:Int),Gen R S x (tw S x)
 | [],x=>h.refl x
 | e :: S,x=>(Gen.eqv h (e :: S)).trans (gen_swp h e S x) (Or.inl (gen_tw h S _))
theorem same_gen {b:Int→Int} {B C:List (List Int)} {K S:List Int} (hb:Rings b B) (hB:B.flatten.Perm K) (hS:∀ e∈S,2*e∈K∧2*e+1∈K)
  (hC:Rings (fun x=>b (tw S x)) C) (hCK:C.flatten.Perm K) {x y:Int} (h:Same C x y):Gen (Same B) S x y:=by
 have hE:=Same.eqv hb.nodup
 refine Same.least (Gen.eqv hE S) hC (fun w hw=>?_) h
 have hwK:=hCK.mem_iff.1 hw
 exact (Gen.eqv hE S).trans (gen_tw hE S w) (Gen.base (Same.step hb (hB.mem_iff.2 (tw_mem hS hwK))) S)
theorem even_odd_ne (e:Int):(2*e:Int)≠2*e+1:=by omega
theorem tw_swp (e:Int) (S:List Int) (x:Int):tw (e :: S) (swp (2*e) (2*e+1) x)=tw S x:=by
 show tw S (swp _ _ (swp _ _ x))=tw S x
 rw[swp_swp]
theorem euler_le {b:Int→Int} {B:List (List Int)} {K:List Int} (hb:Rings b B) (hB:B.flatten.Perm K):∀ {S:List Int},(∀ e∈S,2*e∈K∧2*e+1∈K) →
  ∀ {C:List (List Int)},Rings (fun x=>b (tw S x)) C→C.flatten.Perm K→B.length+C.length≤2*cnt (Gen (Same B) S) K+S.length
 | [],_,C,hC,hCK=>by
  have h1:=Rings.count hb hC (hB.trans hCK.symm)
  have h2:cnt (Gen (Same B) []) K=B.length:=cnt_same hb hB
  rw[h2,List.length_nil]
  omega
 | e :: S,hS,C,hC,hCK=>by
  have hE:=Same.eqv hb.nodup
  have hS':∀ f∈S,2*f∈K∧2*f+1∈K:=fun f hf=>hS f (List.mem_cons_of_mem _ hf)
  obtain⟨he1,he2⟩:=hS e (by simp)
  obtain⟨D,hD,hDC,hcase⟩:=hC.swap2 (hCK.mem_iff.2 he1) (hCK.mem_iff.2 he2) (even_odd_ne e)
  have hD':Rings (fun x=>b (tw S x)) D:=hD.congr fun x _=>by show b (tw (e :: S) (swp _ _ x))=_;rw[tw_swp]
  have ih:=euler_le hb hB hS' hD' (hDC.trans hCK)
  have hj:=cnt_join_le (Gen.eqv hE S) (K:=K) he1 he2
  have hg:cnt (Gen (Same B) (e :: S)) K=cnt (Jn (Gen (Same B) S) (2*e) (2*e+1)) K:=rfl
  rw[hg,List.length_cons]
  rcases hcase with ⟨h1,_⟩ | ⟨h1,c,hc,h2,h3⟩
  ·omega
  have hs:=same_gen hb hB hS' hD' (hDC.trans hCK) (Or.inr ⟨c,hc,h2,h3⟩)
  rw[cnt_join_same (Gen.eqv hE S) hs]
  omega
theorem conn_le {Q:Int→Int→Prop} (hQ:Eqv Q) {K:List Int}:∀ (n:Nat) {P R:Int→Int→Prop},cnt R K=n→Eqv P→Eqv R→(∀ x∈K,∀ y∈K,R x y→P x y)→(∀ x∈K,∀ y∈K,R x y→Q x y) →
  (∀ J,Eqv J→(∀ x∈K,∀ y∈K,P x y→J x y)→(∀ x∈K,∀ y∈K,Q x y→J x y)→∀ x∈K,∀ y∈K,J x y)→cnt P K+cnt Q K≤cnt R K+1:=by
 intro n
 induction n with
 | zero =>
  intro P R hn hP hR h1 h2 ht
  have a1:=cnt_mono hR hP h1
  have a2:=cnt_mono hR hQ h2
  omega
 | succ n ih =>
  intro P R hn hP hR h1 h2 ht
  by_cases hc:∀ x∈K,∀ y∈K,Q x y→R x y
  ·have a1:=cnt_le_one hP (ht P hP (fun x _ y _ q=>q) (fun x hx y hy q=>h1 x hx y hy (hc x hx y hy q)))
   have a2:=cnt_mono hR hQ h2
   omega
  simp only[Classical.not_forall] at hc
  obtain⟨x,hx,y,hy,hq,hr⟩:=hc
  have a1:=cnt_join hR hx hy hr
  have a2:=cnt_join_le hP hx hy
  have a3:=ih (P:=Jn P x y) (R:=Jn R x y) (by omega) (Jn.eqv hP x y) (Jn.eqv hR x y) (fun u hu w hw h=>by
    rcases h with q | ⟨q,r⟩ | ⟨q,r⟩
    ·exact Or.inl (h1 u hu w hw q)
    ·exact Or.inr (Or.inl ⟨h1 u hu x hx q,h1 y hy w hw r⟩)
    ·exact Or.inr (Or.inr ⟨h1 u hu y hy q,h1 x hx w hw r⟩)) (fun u hu w hw h=>by
    rcases h with q | ⟨q,r⟩ | ⟨q,r⟩
    ·exact h2 u hu w hw q
    ·exact hQ.trans (hQ.trans (h2 u hu x hx q) hq) (h2 y hy w hw r)
    exact hQ.trans (hQ.trans (h2 u hu y hy q) (hQ.symm hq)) (h2 x hx w hw r)) (fun J hJ j1 j2=>ht J hJ (fun u hu w hw h=>j1 u hu w hw (Or.inl h)) j2)
  omega
structure Cut (b:Int→Int) (B:List (List Int)) (K:List Int) (R:Int→Int→Prop) (T S:List Int):Prop where
 out:∀ e∈T,2*e∈K∧2*e+1∈K
 kept:∀ e∈S,2*e∈K∧2*e+1∈K
 left:∀ x∈K,Gen R T x (b (tw S x))
 flat:∀ C,Rings (fun x=>b (tw S x)) C→C.flatten.Perm K→B.length+C.length=2*cnt (Gen (Same B) S) K+S.length∧cnt (Gen (Same B) S) K+cnt (Gen R T) K=C.length+1
theorem Cut.step {b:Int→Int} {B:List (List Int)} {K:List Int} (hb:Rings b B) (hB:B.flatten.Perm K) {R:Int→Int→Prop} (hR:Eqv R) {e:Int} {T S:List Int}
  (ht:∀ J,Eqv J→(∀ x∈K,J x (b x))→(∀ f,f∈T∨f∈e :: S→J (2*f) (2*f+1))→(∀ x∈K,∀ y∈K,R x y→J x y)→∀ x∈K,∀ y∈K,J x y)
  (h:Cut b B K R T (e :: S)):Cut b B K R (e :: T) S:=by
 obtain⟨he1,he2⟩:=h.kept e (by simp)
 have hE:=Same.eqv hb.nodup
 have hS':∀ f∈S,2*f∈K∧2*f+1∈K:=fun f hf=>h.kept f (List.mem_cons_of_mem _ hf)
 have hT':∀ f∈e :: T,2*f∈K∧2*f+1∈K:=fun f hf=>by
  rcases List.mem_cons.1 hf with rfl | hf
  ·exact⟨he1,he2⟩
  exact h.out f hf
 have hleft:∀ x∈K,Gen R (e :: T) x (b (tw S x)):=fun x hx=>by
  have h1:=gen_swp hR e T x
  have h2:=h.left _ (swp_mem he1 he2 hx)
  rw[tw_swp] at h2
  exact (Gen.eqv hR (e :: T)).trans h1 (Or.inl h2)
 refine⟨hT',hS',hleft,fun D hD hDK=>?_⟩
 obtain⟨C,hC,hCD,hcase⟩:=hD.swap2 (hDK.mem_iff.2 he1) (hDK.mem_iff.2 he2) (even_odd_ne e)
 have hC':Rings (fun x=>b (tw (e :: S) x)) C:=hC
 have hCK:=hCD.trans hDK
 obtain⟨f1,f2⟩:=h.flat C hC' hCK
 have le:=euler_le hb hB hS' hD hDK
 have hj:=cnt_join_le (Gen.eqv hE S) (K:=K) he1 he2
 have hr:=cnt_join_le (Gen.eqv hR T) (K:=K) he1 he2
 have hg:cnt (Gen (Same B) (e :: S)) K=cnt (Jn (Gen (Same B) S) (2*e) (2*e+1)) K:=rfl
 have hg2:cnt (Gen R (e :: T)) K=cnt (Jn (Gen R T) (2*e) (2*e+1)) K:=rfl
 rw[List.length_cons,hg] at f1
 rw[hg] at f2
 rw[hg2]
 rcases hcase with ⟨h1,_⟩ | ⟨h1,c,hc,h2,h3⟩
 ·have hcn:=conn_le (K:=K) (Gen.eqv hR (e :: T)) _ (P:=Gen (Same B) S) (R:=Same D) rfl (Gen.eqv hE S) (Same.eqv hD.nodup) (fun x _ y _ q=>same_gen hb hB hS' hD hDK q)
   (fun x _ y _ q=>Same.least (Gen.eqv hR (e :: T)) hD (fun w hw=>hleft w (hDK.mem_iff.1 hw)) q) (fun J hJ j1 j2=>by
    refine ht J hJ (fun x hx=>j1 x hx _ (hB.mem_iff.1 (hb.next (hB.mem_iff.2 hx))) (Gen.base (Same.step hb (hB.mem_iff.2 hx)) S)) (fun f hf=>?_) (fun x hx y hy q=>j2 x hx y hy (Gen.base q _))
    by_cases hfe:f∈e :: T
    ·exact j2 _ (hT' f hfe).1 _ (hT' f hfe).2 (Gen.edge hR hfe)
    have hfS:f∈S:=by
     rcases hf with q | q
     ·exact absurd (List.mem_cons_of_mem _ q) hfe
     rcases List.mem_cons.1 q with rfl | q
     ·exact absurd (by simp) hfe
     exact q
    exact j1 _ (hS' f hfS).1 _ (hS' f hfS).2 (Gen.edge hE hfS))
  rw[cnt_same hD hDK,hg2] at hcn
  omega
 have hs:Gen R T (2*e) (2*e+1):=Same.least (Gen.eqv hR T) hC' (fun w hw=>h.left w (hCK.mem_iff.1 hw)) (Or.inr ⟨c,hc,h2,h3⟩)
 rw[cnt_join_same (Gen.eqv hR T) hs] at *
 omega
theorem Cut.all {b:Int→Int} {B:List (List Int)} {K:List Int} (hb:Rings b B) (hB:B.flatten.Perm K) {R:Int→Int→Prop} (hR:Eqv R) {A:List Int}
  (ht:∀ J,Eqv J→(∀ x∈K,J x (b x))→(∀ f∈A,J (2*f) (2*f+1))→(∀ x∈K,∀ y∈K,R x y→J x y)→∀ x∈K,∀ y∈K,J x y) :
  ∀ {T U S:List Int},(∀ f∈A,f∈U∨f∈T++S)→Cut b B K R U (T++S)→Cut b B K R (T.reverse++U) S
 | [],U,S,_,h=>h
 | e :: T,U,S,hA,h=>by
  have h1:Cut b B K R (e :: U) (T++S):=Cut.step hb hB hR (fun J hJ j1 j2 j3=>ht J hJ j1 (fun f hf=>j2 f (hA f hf)) j3) h
  have h2:=Cut.all hb hB hR ht (T:=T) (U:=e :: U) (S:=S) (fun f hf=>by
   rcases hA f hf with q | q
   ·exact Or.inl (List.mem_cons_of_mem _ q)
   rcases List.mem_cons.1 (show f∈e :: (T++S) from q) with rfl | q
   ·exact Or.inl (by simp)
   exact Or.inr q) h1
  rw[List.reverse_cons,List.append_assoc]
  exact h2
def GenL (R:Int→Int→Prop):List (Int × Int)→Int→Int→Prop
 | []=>R
 | a :: L=>GenL (Jn R a.1 a.2) L
theorem GenL.append (R:Int→Int→Prop):∀ (L M:List (Int × Int)),GenL R (L++M)=GenL (GenL R L) M
 | [],_=>rfl
 | a :: L,M=>GenL.append (Jn R a.1 a.2) L M
theorem GenL.eqv {R:Int→Int→Prop} (h:Eqv R):∀ L,Eqv (GenL R L)
 | []=>h
 | a :: L=>GenL.eqv (Jn.eqv h a.1 a.2) L
theorem GenL.base:∀ (L:List (Int × Int)) {R:Int→Int→Prop} {x y:Int},R x y→GenL R L x y
 | [],_,_,_,h=>h
 | _ :: L,_,_,_,h=>GenL.base L (Or.inl h)
theorem GenL.pair:∀ {L:List (Int × Int)} {R:Int→Int→Prop} (_:Eqv R) {a:Int × Int},a∈L→GenL R L a.1 a.2
 | [],_,_,_,ha=>by simp at ha
 | b :: L,R,h,a,ha=>by
  rcases List.mem_cons.1 ha with rfl | ha
  ·exact GenL.base L (Or.inr (Or.inl ⟨h.refl _,h.refl _⟩))
  exact GenL.pair (L:=L) (Jn.eqv h b.1 b.2) ha
theorem GenL.cnt {K:List Int}:∀ {L:List (Int × Int)} {R:Int→Int→Prop},Eqv R→(∀ a∈L,a.1∈K∧a.2∈K)→Plain.cnt R K≤Plain.cnt (GenL R L) K+L.length
 | [],_,_,_=>by simp[GenL]
 | a :: L,R,h,hK=>by
  have h1:=GenL.cnt (L:=L) (Jn.eqv h a.1 a.2) (fun b hb=>hK b (List.mem_cons_of_mem _ hb))
  have h2:=cnt_join_le h (hK a (by simp)).1 (hK a (by simp)).2
  show Plain.cnt R K≤Plain.cnt (GenL (Jn R a.1 a.2) L) K+(a :: L).length
  rw[List.length_cons]
  omega
theorem GenL.tight {K:List Int} {L M:List (Int × Int)} {a:Int × Int} {R:Int→Int→Prop} (h:Eqv R) (hK:∀ b∈L++a :: M,b.1∈K∧b.2∈K) (ht:Plain.cnt R K=Plain.cnt (GenL R (L++a :: M)) K+(L++a :: M).length):¬ GenL R L a.1 a.2:=by
 intro hr
 have e:GenL R (L++a :: M)=GenL (Jn (GenL R L) a.1 a.2) M:=GenL.append R L (a :: M)
 rw[e,List.length_append,List.length_cons] at ht
 have hL:=GenL.eqv h L
 have h1:=GenL.cnt (K:=K) (L:=L) h (fun b hb=>hK b (by simp[hb]))
 have h2:=GenL.cnt (K:=K) (L:=M) (Jn.eqv hL a.1 a.2) (fun b hb=>hK b (by simp[hb]))
 rw[cnt_join_same hL hr] at h2
 omega
theorem eqv_eq:Eqv (fun x y:Int=>x=y):=⟨fun _=>rfl,fun h=>h.symm,fun h k=>h.trans k⟩
theorem cnt_id {K:List Int} (h:K.Nodup):cnt (fun x y:Int=>x=y) K=K.length:=by
 refine cnt_eq eqv_eq ⟨fun t ht=>ht,fun x hx=>⟨x,hx,rfl⟩,h⟩
theorem St.joins_iff {s:St} {x y:Int} (hx:x∈s.all) (hy:y∈s.all):s.joins x y=true↔¬ s.rel x y:=by
 unfold St.joins
 rw[St.put_in hx,St.put_in hy]
 unfold St.rel
 rw[St.same_iff]
 simp only[bne_iff_ne,ne_eq,not_or,not_and]
 constructor
 ·intro h
  exact⟨fun e=>h (by rw[e]),fun _ _=>h⟩
 intro h
 exact h.2 hx hy
theorem upTo_nodup (n:Nat):(upTo n).Nodup:=by
 unfold upTo
 rw[List.Nodup,List.pairwise_map]
 exact List.nodup_range.imp fun h e=>h (by omega)
theorem St.rel_upTo (n:Nat) (x y:Int):(St.new (upTo n)).rel x y↔x=y:=by
 rw[St.new_upTo]
 constructor
 ·rintro (h | h)
  ·exact h
  rw[St.same_iff] at h
  obtain⟨h1,h2,h3⟩:=h
  have hl:(upTo n).length=n:=by simp[upTo]
  have i1:=List.idxOf_lt_length_of_mem (show x∈upTo n from h1)
  have i2:=List.idxOf_lt_length_of_mem (show y∈upTo n from h2)
  have h3:(List.range n).getD ((upTo n).idxOf x) 0=(List.range n).getD ((upTo n).idxOf y) 0:=h3
  have e3:(upTo n).idxOf x=(upTo n).idxOf y:=by
   have q1:(upTo n).idxOf x<n:=by rw[hl] at i1;exact i1
   have q2:(upTo n).idxOf y<n:=by rw[hl] at i2;exact i2
   simpa[List.getD,q1,q2] using h3
  have g1:=List.getElem_idxOf i1
  have g2:=List.getElem_idxOf i2
  rw[←g1,←g2]
  simp only[e3]
 intro h;exact Or.inl h
def starOf (own:Int→Int) (l:List Int):List (Int × Int):=(l.drop 1).map fun k=>(own (l.getD 0 0),own k)
def starsOf (own:Int→Int) (same:List (List Int)):List (Int × Int):=same.flatMap (starOf own)
theorem starOf_len (own:Int→Int) (l:List Int):(starOf own l).length=l.length - 1:=by simp[starOf]
theorem starsOf_len (own:Int→Int):∀ {same:List (List Int)},(∀ l∈same,2≤l.length)→(starsOf own same).length+same.length=same.flatten.length
 | [],_=>rfl
 | l :: same,h=>by
  have ih:=starsOf_len own (same:=same) (fun m hm=>h m (by simp[hm]))
  have h2:=h l (by simp)
  show ((starOf own l)++starsOf own same).length+_=_
  rw[List.length_append,starOf_len,List.flatten_cons,List.length_append,List.length_cons]
  omega
theorem star_split (own:Int→Int) {l:List Int} {k:Nat} (h0:0<k) (hk:k<l.length):starOf own l=starOf own (l.take k)++(own (l.getD 0 0),own (l.getD k 0)) :: (l.drop (k+1)).map fun y=>(own (l.getD 0 0),own y):=by
 unfold starOf
 have e1:l=l.take k++l.getD k 0 :: l.drop (k+1):=by
  have:l.getD k 0=l[k]:=by simp[List.getD,hk]
  rw[this];simp
 have e2:(l.take k).getD 0 0=l.getD 0 0:=by
  cases l with
  | nil=>simp at hk
  | cons a l=>cases k with
   | zero=>omega
   | succ k=>rfl
 have e3:l.drop 1=(l.take k).drop 1++l.getD k 0 :: l.drop (k+1):=by
  have hl:1≤(l.take k).length:=by rw[List.length_take];omega
  conv=>lhs;rw[e1]
  rw[List.drop_append_of_le_length hl]
 rw[e3,e2]
 simp
theorem star_one (own:Int→Int) {l:List Int}:starOf own (l.take 1)=[]:=by
 cases l <;> simp[starOf]
theorem star_next (own:Int→Int) {l:List Int} {k:Nat} (h0:0<k) (hk:k<l.length):starOf own (l.take (k+1))=starOf own (l.take k)++[(own (l.getD 0 0),own (l.getD k 0))]:=by
 have hk2:k<(l.take (k+1)).length:=by rw[List.length_take];omega
 have h:=star_split own (l:=l.take (k+1)) h0 hk2
 have e1:(l.take (k+1)).take k=l.take k:=by rw[List.take_take];congr 1;omega
 have e2:(l.take (k+1)).getD k 0=l.getD k 0:=by simp[List.getD]
 have e3:(l.take (k+1)).getD 0 0=l.getD 0 0:=by simp[List.getD]
 have e4:(l.take (k+1)).drop (k+1)=[]:=by simp
 rw[e1,e2,e3,e4] at h
 exact h
structure RunOk (n:Nat) (R:Int→Int→Prop) (c:St × List Int) (met:List Int):Prop where
 ok:c.1.Ok
 all:c.1.all=upTo n
 met:c.2=met
 rel:∀ x y,c.1.rel x y↔R x y
theorem St.join_all {s:St} {x y:Int} (hx:x∈s.all) (hy:y∈s.all):(s.join x y).all=s.all:=by
 rw[St.join_eq,St.put_in hx,St.put_in hy]
theorem listRun_goes {ow:Int→Option Int} {own:Int→Int} {n:Nat} {l met:List Int} {R:Int→Int→Prop} {c:St × List Int} {M:List (Int × Int)} (hR:Eqv R)
  (hown:∀ k∈l,ow k=some (own k)∧own k∈upTo n) (hrise:l.Pairwise (·<·)) (hnm:∀ k∈l,k ∉ met) (hc:RunOk n R c met) (hM:∀ b∈M,b.1∈upTo n∧b.2∈upTo n)
  (ht:cnt R (upTo n)=cnt (GenL R (starOf own l++M)) (upTo n)+(starOf own l++M).length) :
  ∀ k,k≤l.length→∃ d,listRun ow l c k=some d∧RunOk n (GenL R (starOf own (l.take k))) d (met++l.take k)
 | 0,_=>⟨c,rfl,by simpa[starOf,GenL] using hc⟩
 | k+1,hk=>by
  obtain⟨d,hd,hdo⟩:=listRun_goes hR hown hrise hnm hc hM ht k (by omega)
  have hkl:k<l.length:=by omega
  have hmem:l.getD k 0∈l:=getD_mem hkl
  obtain⟨ho1,ho2⟩:=hown _ hmem
  have htk:l.take (k+1)=l.take k++[l.getD k 0]:=take_snoc hkl
  have hpw:=List.pairwise_iff_getElem.1 hrise
  have hget:∀ i (hi:i<l.length),l.getD i 0=l[i]:=fun i hi=>by simp[List.getD,hi]
  have hnot:l.getD k 0 ∉ d.2:=by
   rw[hdo.met]
   intro q
   rcases List.mem_append.1 q with q | q
   ·exact hnm _ hmem q
   obtain⟨i,hi,e⟩:=List.getElem_of_mem q
   rw[List.length_take] at hi
   have h1:=hpw i k (by omega) hkl (by omega)
   rw[List.getElem_take] at e
   rw[hget k hkl] at e
   omega
  by_cases h0:k=0
  ·subst h0
   refine⟨_,listRun_next hd (keyStep_first ho1 hnot),hdo.ok,hdo.all,?_,fun x y=>?_⟩
   ·show d.2++_=_
    rw[hdo.met,htk];simp
   have:=hdo.rel x y
   rw[star_one]
   simpa[starOf] using this
  have hk0:0<k:=by omega
  have hl0:l.getD 0 0∈l:=getD_mem (by omega)
  obtain⟨ha1,ha2⟩:=hown _ hl0
  have hr:l.getD (k - 1) 0<l.getD k 0:=by
   rw[hget _ hkl,hget (k - 1) (by omega)]
   exact hpw (k - 1) k (by omega) hkl (by omega)
  have hm1:own (l.getD 0 0)∈d.1.all:=by rw[hdo.all];exact ha2
  have hm2:own (l.getD k 0)∈d.1.all:=by rw[hdo.all];exact ho2
  have hsp:=star_split own hk0 hkl
  rw[hsp,List.append_assoc,List.cons_append] at ht
  have hj:d.1.joins (own (l.getD 0 0)) (own (l.getD k 0))=true:=by
   rw[St.joins_iff hm1 hm2,hdo.rel]
   refine GenL.tight hR (fun b hb=>?_) ht
   have hb:b∈starOf own l++M:=by rw[hsp,List.append_assoc,List.cons_append];exact hb
   rcases List.mem_append.1 hb with q | q
   ·unfold starOf at q
    obtain⟨y,hy,rfl⟩:=List.mem_map.1 q
    exact⟨ha2,(hown y (List.mem_of_mem_drop hy)).2⟩
   exact hM b q
  refine⟨_,listRun_next hd (keyStep_join hk0 ho1 hnot hr (b:=own (l.getD 0 0)) (by rw[ha1];rfl) hj),hdo.ok.join _ _,?_,?_,fun x y=>?_⟩
  ·show (d.1.join _ _).all=_
   rw[St.join_all hm1 hm2,hdo.all]
  ·show d.2++_=_
   rw[hdo.met,htk,List.append_assoc]
  show (d.1.join _ _).rel x y↔_
  rw[St.rel_join hdo.ok,star_next own hk0 hkl,GenL.append]
  show _↔Jn (GenL R (starOf own (l.take k))) _ _ x y
  unfold Jn
  rw[hdo.rel,hdo.rel,hdo.rel,hdo.rel,hdo.rel]
theorem take_nextR {same:List (List Int)} {i:Nat} (hi:i<same.length):same.take (i+1)=same.take i++[same.getD i []]:=by
 have:same.getD i []=same[i]:=by simp[List.getD,hi]
 rw[this];simp
theorem sameRun_goes {ow:Int→Option Int} {own:Int→Int} {n:Nat} {same:List (List Int)} (hown:∀ k∈same.flatten,ow k=some (own k)∧own k∈upTo n) (two:∀ l∈same,2≤l.length) (rise:∀ l∈same,l.Pairwise (·<·)) (heads:same.Pairwise fun a b=>a.getD 0 0<b.getD 0 0)
  (hn:same.flatten.Nodup) (ht:cnt (fun x y:Int=>x=y) (upTo n)=cnt (GenL (fun x y:Int=>x=y) (starsOf own same)) (upTo n)+(starsOf own same).length) :
  ∀ i,i≤same.length→∃ d,sameRun ow same (St.new (upTo n),[]) i=some d∧RunOk n (GenL (fun x y:Int=>x=y) (starsOf own (same.take i))) d (same.take i).flatten
 | 0,_=>⟨_,rfl,by
   have h:=PlanOk.start ow n
   exact⟨h.ok,h.all,rfl,fun x y=>by simpa[starsOf,GenL] using St.rel_upTo n x y⟩⟩
 | i+1,hi=>by
  obtain⟨c,hc,hco⟩:=sameRun_goes hown two rise heads hn ht i (by omega)
  have hil:i<same.length:=by omega
  have hg:same.getD i []=same[i]:=by simp[List.getD,hil]
  have hmem:same.getD i []∈same:=by rw[hg];exact List.getElem_mem _
  have hnb:¬ listBad same i:=by
   rintro (h | ⟨h0,h⟩)
   ·have:=two _ hmem;omega
   have h1:=List.pairwise_iff_getElem.1 heads (i - 1) i (by omega) hil (by omega)
   have hg1:same.getD (i - 1) []=same[i - 1]:=by
    have:i - 1<same.length:=by omega
    simp[List.getD,this]
   rw[hg,hg1] at h
   omega
  have hsplit:same=same.take i++same.getD i [] :: same.drop (i+1):=by rw[hg];simp
  have hst:starsOf own same=starsOf own (same.take i)++(starOf own (same.getD i [])++starsOf own (same.drop (i+1))):=by
   conv=>lhs;rw[hsplit]
   unfold starsOf
   rw[List.flatMap_append,List.flatMap_cons]
  have hb:∀ m∈same,∀ b∈starOf own m,b.1∈upTo n∧b.2∈upTo n:=by
   intro m hm b hb
   unfold starOf at hb
   obtain⟨y,hy,rfl⟩:=List.mem_map.1 hb
   exact⟨(hown _ (List.mem_flatten.2 ⟨m,hm,getD_mem (by have:=two m hm;omega)⟩)).2,(hown _ (List.mem_flatten.2 ⟨m,hm,List.mem_of_mem_drop hy⟩)).2⟩
  have hbs:∀ s:List (List Int),(∀ m∈s,m∈same)→∀ b∈starsOf own s,b.1∈upTo n∧b.2∈upTo n:=by
   intro s hs b hb2
   unfold starsOf at hb2
   obtain⟨m,hm,hb3⟩:=List.mem_flatMap.1 hb2
   exact hb m (hs m hm) b hb3
  have ht2:cnt (GenL (fun x y:Int=>x=y) (starsOf own (same.take i))) (upTo n)=cnt (GenL (GenL (fun x y:Int=>x=y) (starsOf own (same.take i))) (starOf own (same.getD i [])++starsOf own (same.drop (i+1)))) (upTo n)+(starOf own (same.getD i [])++starsOf own (same.drop (i+1))).length:=by
   have h1:=GenL.cnt (K:=upTo n) eqv_eq (hbs (same.take i) (fun m hm=>List.mem_of_mem_take hm))
   have h2:=GenL.cnt (K:=upTo n) (L:=starOf own (same.getD i [])++starsOf own (same.drop (i+1))) (GenL.eqv eqv_eq (starsOf own (same.take i))) (fun b hb2=>by
    rcases List.mem_append.1 hb2 with q | q
    ·exact hb _ hmem b q
    exact hbs _ (fun m hm=>List.mem_of_mem_drop hm) b q)
   rw[hst,GenL.append,List.length_append] at ht
   omega
  have hnd:same.flatten.Nodup:=hn
  rw[hsplit,List.flatten_append,List.flatten_cons,List.nodup_append] at hnd
  obtain⟨d,hd,hdo⟩:=listRun_goes (own:=own) (GenL.eqv eqv_eq _) (fun k hk=>hown k (List.mem_flatten.2 ⟨_,hmem,hk⟩)) (rise _ hmem) (fun k hk q=>hnd.2.2 k q k (by simp only[List.mem_append];exact Or.inl hk) rfl) hco
   (hbs _ (fun m hm=>List.mem_of_mem_drop hm)) ht2 _ (Nat.le_refl _)
  refine⟨d,sameRun_next hc hnb hd,?_⟩
  rw[List.take_length] at hdo
  rw[take_nextR hil]
  have e1:starsOf own (same.take i++[same.getD i []])=starsOf own (same.take i)++starOf own (same.getD i []):=by
   unfold starsOf
   rw[List.flatMap_append];simp
  rw[e1,GenL.append]
  simpa using hdo
noncomputable def ownAt (g:Gr) (p:Pt) (turn:List (List Int)) (k:Int):Int:=(ownerOf g p (walksOf g p turn) k).getD 0
theorem ownerOf_of {g:Gr} {p:Pt} {W:List Face} {k:Int} (h:k∈W.map (·.1)):(ownerOf g p W k).isSome=true:=by
 unfold ownerOf
 rw[Option.isSome_map,List.find?_isSome]
 obtain⟨f,hf,e⟩:=List.mem_map.1 h
 exact⟨f,hf,by simp[e]⟩
theorem plan_right {g:Gr} {p:Pt} {turn same:List (List Int)} (hpe:p.err g=0) (hto:TurnsOk g p turn) (hfl:Flat g p turn) (two:∀ l∈same,2≤l.length) (heads:same.Pairwise fun a b=>a.getD 0 0<b.getD 0 0) (hn:same.flatten.Nodup)
  (keys:∀ x∈same.flatten,x∈(walksOf g p turn).map (·.1)) (rise:∀ l∈same,l.Pairwise (·<·)) (hcount:same.flatten.length+1=(roots g p).length+same.length)
  (tot:∀ J,Eqv J→(∀ l∈same,∀ k∈l,J (ownAt g p turn (l.getD 0 0)) (ownAt g p turn k))→∀ a∈upTo (roots g p).length,∀ b∈upTo (roots g p).length,J a b):planErr g p turn same=0:=by
 have hpo:=Pt.ok_of_err hpe
 have hW:=walks_ok hpe hto
 have hte:turnErr g p turn=0:=turnErr_ok hpe hto
 obtain⟨n,hne⟩:∃ n,(roots g p).length=n:=⟨_,rfl⟩
 have hown:∀ k∈same.flatten,ownerOf g p (walksOf g p turn) k=some (ownAt g p turn k)∧ownAt g p turn k∈upTo n:=by
  intro k hk
  obtain⟨a,ha⟩:=Option.isSome_iff_exists.1 (ownerOf_of (g:=g) (p:=p) (keys k hk))
  have e:ownAt g p turn k=a:=by unfold ownAt;rw[ha];rfl
  rw[e]
  refine⟨ha,?_⟩
  rw[mem_upTo,←hne]
  exact ownerOf_lt hpo hW ha
 rw[planErr_run (flatErr_ok hte hfl)]
 rw[hne] at tot hcount ⊢
 have hlen:=starsOf_len (ownAt g p turn) two
 have hnd:=upTo_nodup n
 have hul:(upTo n).length=n:=by simp[upTo]
 have hstar:∀ l∈same,∀ k∈l,GenL (fun x y:Int=>x=y) (starsOf (ownAt g p turn) same) (ownAt g p turn (l.getD 0 0)) (ownAt g p turn k):=by
  intro l hl k hk
  have h2:=two l hl
  cases l with
  | nil=>simp at h2
  | cons a m =>
   rcases List.mem_cons.1 hk with rfl | hk
   ·exact (GenL.eqv eqv_eq _).refl _
   refine GenL.pair (a:=(ownAt g p turn ((a :: m).getD 0 0),ownAt g p turn k)) eqv_eq (List.mem_flatMap.2 ⟨a :: m,hl,?_⟩)
   unfold starOf
   exact List.mem_map.2 ⟨k,by simpa using hk,rfl⟩
 have h1:=tot _ (GenL.eqv eqv_eq (starsOf (ownAt g p turn) same)) hstar
 have h2:=cnt_le_one (GenL.eqv eqv_eq (starsOf (ownAt g p turn) same)) h1
 have h3:=GenL.cnt (K:=upTo n) (L:=starsOf (ownAt g p turn) same) eqv_eq (fun b hb=>by
  unfold starsOf at hb
  obtain⟨l,hl,hb⟩:=List.mem_flatMap.1 hb
  unfold starOf at hb
  obtain⟨y,hy,rfl⟩:=List.mem_map.1 hb
  exact⟨(hown _ (List.mem_flatten.2 ⟨l,hl,getD_mem (by have:=two l hl;omega)⟩)).2,(hown _ (List.mem_flatten.2 ⟨l,hl,List.mem_of_mem_drop hy⟩)).2⟩)
 rw[cnt_id hnd,hul] at h3
 obtain⟨c,hc,hco⟩:=sameRun_goes hown two rise heads hn (by rw[cnt_id hnd,hul];omega) same.length (Nat.le_refl _)
 rw[hc]
 obtain⟨hok,hmet,-⟩:=sameRun_ok (fun y a h=>by rw[←hne];exact ownerOf_lt hpo hW h) _ c (Nat.le_refl _) hc
 have hnum:=hok.num
 rw[hmet,List.take_length] at hnum
 show (if 1<c.1.count then (7:Int) else 0)=0
 rw[if_neg (by omega)]
theorem listRun_rel {ow:Int→Option Int} {n t:Nat} {l:List Int} {J:Int→Int→Prop} (hJ:Eqv J) (hb:∀ y a,ow y=some a→0≤a∧a<n) (h:∀ k∈l,J ((ow (l.getD 0 0)).getD 0) ((ow k).getD 0)) {c:St × List Int} (hok:PlanOk ow n t c) (hc:∀ x y,c.1.rel x y→J x y) :
  ∀ {k:Nat} {d:St × List Int},k≤l.length→listRun ow l c k=some d→∀ x y,d.1.rel x y→J x y
 | 0,d,_,e,x,y,hr=>by cases e;exact hc x y hr
 | k+1,d,hk,e,x,y,hr=>by
  have e:(listRun ow l c k).bind (keyStep ow l k)=some d:=e
  cases hm:listRun ow l c k with
  | none=>rw[hm] at e;cases e
  | some m =>
   rw[hm] at e
   have ih:=listRun_rel hJ hb h hok hc (k:=k) (by omega) hm
   obtain⟨a,ha,-,-,-,hcase⟩:=keyStep_some (show keyStep ow l k m=some d from e)
   rcases hcase with ⟨-,e1⟩ | ⟨-,-,e1⟩
   ·rw[e1] at hr;exact ih x y hr
   rw[e1] at hr
   have hmo:m.1.Ok:=(listRun_ok hb hok k m hm).1.ok
   have hab:=h _ (getD_mem (l:=l) (n:=k) (by omega))
   rw[ha] at hab
   rcases (St.rel_join hmo _ _ x y).1 hr with q | ⟨q,r⟩ | ⟨q,r⟩
   ·exact ih x y q
   ·exact hJ.trans (hJ.trans (ih _ _ q) hab) (ih _ _ r)
   exact hJ.trans (hJ.trans (ih _ _ q) (hJ.symm hab)) (ih _ _ r)
theorem sameRun_rel {ow:Int→Option Int} {n:Nat} {same:List (List Int)} {J:Int→Int→Prop} (hJ:Eqv J) (hb:∀ y a,ow y=some a→0≤a∧a<n) (h:∀ l∈same,∀ k∈l,J ((ow (l.getD 0 0)).getD 0) ((ow k).getD 0)) :
  ∀ {i:Nat} {d:St × List Int},i≤same.length→sameRun ow same (St.new (upTo n),[]) i=some d→∀ x y,d.1.rel x y→J x y
 | 0,d,_,e,x,y,hr=>by
  cases e
  rw[(St.rel_upTo n x y).1 hr]
  exact hJ.refl y
 | i+1,d,hi,e,x,y,hr=>by
  have e:(sameRun ow same (St.new (upTo n),[]) i).bind _=some d:=e
  cases hm:sameRun ow same (St.new (upTo n),[]) i with
  | none=>rw[hm] at e;cases e
  | some m =>
   rw[hm] at e
   have e:(if listBad same i then none else listRun ow (same.getD i []) m (same.getD i []).length)=some d:=e
   split at e
   ·cases e
   have hg:same.getD i []=same[i]:=by simp[List.getD,show i<same.length by omega]
   have hmem:same.getD i []∈same:=by rw[hg];exact List.getElem_mem _
   exact listRun_rel hJ hb (h _ hmem) (sameRun_ok hb i m (by omega) hm).1 (sameRun_rel hJ hb h (by omega) hm) (Nat.le_refl _) e x y hr
theorem St.count_one {s:St} (hs:s.Ok) (h:s.count≤1):∀ x∈s.all,∀ y∈s.all,s.rel x y:=by
 intro x hx y hy
 refine Or.inr (St.same_iff.2 ⟨hx,hy,?_⟩)
 have i1:=List.idxOf_lt_length_of_mem hx
 have i2:=List.idxOf_lt_length_of_mem hy
 rw[hs.len] at i1 i2
 have a1:=hs.le _ i1
 have a2:=hs.le _ i2
 have b1:=hs.own _ i1
 have b2:=hs.own _ i2
 by_cases e:s.hd (s.all.idxOf x)=s.hd (s.all.idxOf y)
 ·exact e
 exfalso
 unfold St.count at h
 rw[List.countP_eq_length_filter] at h
 have m1:s.hd (s.all.idxOf x)∈(List.range s.grp.length).filter fun i=>s.grp.getD i 0==i:=List.mem_filter.2 ⟨List.mem_range.2 (by omega),by simpa[St.hd] using b1⟩
 have m2:s.hd (s.all.idxOf y)∈(List.range s.grp.length).filter fun i=>s.grp.getD i 0==i:=List.mem_filter.2 ⟨List.mem_range.2 (by omega),by simpa[St.hd] using b2⟩
 revert m1 m2 h
 generalize (List.range s.grp.length).filter (fun i=>s.grp.getD i 0==i)=F
 intro h m1 m2
 match F,h with
 | [],_=>simp at m1
 | [a],_ =>
  simp at m1 m2
  exact e (by rw[m1,m2])
 | _ :: _ :: _,h=>simp at h
theorem plan_tot {g:Gr} {p:Pt} {turn same:List (List Int)} (h:planErr g p turn same=0):((roots g p).length≠0→same.flatten.length+1=(roots g p).length+same.length) ∧
  ∀ J,Eqv J→(∀ l∈same,∀ k∈l,J (ownAt g p turn (l.getD 0 0)) (ownAt g p turn k))→∀ a∈upTo (roots g p).length,∀ b∈upTo (roots g p).length,J a b:=by
 obtain⟨hf,c,hc,hcnt⟩:=planErr_zero h
 obtain⟨hte,-⟩:=flatErr_zero hf
 obtain⟨hpe,hto⟩:=turnErr_zero hte
 have hpo:=Pt.ok_of_err hpe
 have hW:=walks_ok hpe hto
 have hb:∀ y a,ownerOf g p (walksOf g p turn) y=some a→0≤a∧a<(roots g p).length:=fun y a h=>ownerOf_lt hpo hW h
 obtain⟨hok,hmet,-⟩:=sameRun_ok hb _ c (Nat.le_refl _) hc
 refine⟨fun h0=>?_,fun J hJ hj a ha b hbm=>?_⟩
 ·have hnum:=hok.num
  rw[hmet,List.take_length] at hnum
  have hgl:c.1.grp.length=(roots g p).length:=by rw[←hok.ok.len,hok.all];simp[upTo]
  have:=count_pos hok.ok (by omega)
  omega
 exact sameRun_rel hJ hb hj (Nat.le_refl _) hc a b (St.count_one hok.ok hcnt a (by rw[hok.all];exact ha) b (by rw[hok.all];exact hbm))
theorem same_heads {g:Gr} {p:Pt} {turn same:List (List Int)} (h:planErr g p turn same=0):same.Pairwise fun a b=>a.getD 0 0<b.getD 0 0:=by
 obtain⟨hf,c,hc,-⟩:=planErr_zero h
 obtain⟨hte,-⟩:=flatErr_zero hf
 obtain⟨hpe,hto⟩:=turnErr_zero hte
 obtain⟨-,-,hl⟩:=sameRun_ok (fun y a h=>ownerOf_lt (Pt.ok_of_err hpe) (walks_ok hpe hto) h) _ c (Nat.le_refl _) hc
 have step:∀ i,i+1<same.length→(same.getD i []).getD 0 0<(same.getD (i+1) []).getD 0 0:=by
  intro i hi
  have:=(hl (i+1) hi).1
  unfold listBad at this
  rw[not_or] at this
  have h2:=this.2
  simp only[Nat.add_sub_cancel,not_and] at h2
  have:=h2 (by omega)
  omega
 have all:∀ d i,i+d+1<same.length→(same.getD i []).getD 0 0<(same.getD (i+d+1) []).getD 0 0:=by
  intro d
  induction d with
  | zero=>exact fun i hi=>step i hi
  | succ d ih =>
   intro i hi
   have h1:=ih i (by omega)
   have h2:=step (i+d+1) (by omega)
   have e:i+(d+1)+1=i+d+1+1:=by omega
   rw[e];omega
 rw[List.pairwise_iff_getElem]
 intro i j hi hj hij
 have:=all (j - i - 1) i (by omega)
 have e:i+(j - i - 1)+1=j:=by omega
 rw[e] at this
 simpa[List.getD,hi,hj] using this
theorem tw_eq:∀ {S:List Int},S.Nodup→∀ x,tw S x=if x / 2∈S then twin x else x
 | [],_,x=>by simp[tw]
 | e :: S,h,x=>by
  rw[List.nodup_cons] at h
  show tw S (swp (2*e) (2*e+1) x)=_
  rw[tw_eq h.2]
  by_cases h1:x=2*e
  ·subst h1
   have a1:(2*e+1) / 2=e:=by omega
   have a2:2*e / 2=e:=by omega
   rw[swp_left,a1,a2,if_neg h.1,if_pos (by simp)]
   unfold twin;rw[if_pos (by omega)]
  by_cases h2:x=2*e+1
  ·subst h2
   have a1:(2*e+1) / 2=e:=by omega
   have a2:2*e / 2=e:=by omega
   rw[swp_right,a1,a2,if_neg h.1,if_pos (by simp)]
   unfold twin;rw[if_neg (by omega)];omega
  rw[swp_none h1 h2]
  have hne:x / 2≠e:=by omega
  by_cases h3:x / 2∈S
  ·rw[if_pos h3,if_pos (by simp[h3])]
  rw[if_neg h3,if_neg (by simp[h3,hne])]
theorem Come.congr {g:Gr} {p q:Pt} {s a b:Int} (he:p.e=q.e) (h:Come g p s a b):Come g q s a b:=by
 induction h with
 | here=>exact .here
 | step _ hn hs ih =>
  obtain⟨e,h1,h2⟩:=hn
  exact ih.step ⟨e,he ▸ h1,h2⟩ hs
theorem no_come {g:Gr} {p:Pt} (h:PartOk g p) {u:Int} (hc:Come g p (-1) (-1) u) (hu:u≠-1):False:=by
 induction hc with
 | here=>exact hu rfl
 | @step u w _ hn hs ih =>
  by_cases e:u = -1
  ·obtain⟨f,hf,q⟩:=hn
   have h1:=h.ends f hf
   have h2:=h.vr _ h1.1
   have h3:=h.vr _ h1.2
   rcases q with q | q
   ·rw[q] at h2;simp only at h2;omega
   rw[q] at h3;simp only at h3;omega
  exact ih e
def vert (g:Gr) (d:Int):Int:=if d<0 then -1 - d else g.tail d
def ground (g:Gr) (p:Pt) (turn:List (List Int)) (U:List Int):List Int:=leaving g p U++(U.filter fun v=>(turnAt turn v).isEmpty).map fun v=>-1 - v
def bef (g:Gr) (turn:List (List Int)) (d:Int):Int:=if d<0 then d else before g turn d
def bRings (turn:List (List Int)) (U:List Int):List (List Int):=((busy turn U).map fun v=>(turnAt turn v).reverse)++(U.filter fun v=>(turnAt turn v).isEmpty).map fun v=>[-1 - v]
def edgesOf (g:Gr) (p:Pt) (U:List Int):List Int:=p.e.filter fun e=>decide (g.tail (2*e)∈U)
def walksIn (g:Gr) (W:List Face) (U:List Int):List (List Int):=(W.filter fun f=>decide (f.corner g∈U)).map marks
structure Stretch (g:Gr) (p:Pt) (U:List Int):Prop where
 nodup:U.Nodup
 sub:∀ v∈U,v∈p.v
 closed:Closed g p U
theorem dart_pos {g:Gr} {p:Pt} (h:PartOk g p) {d:Int} (hd:d∈p.darts):0≤d:=by
 have:=h.er _ (mem_darts.1 hd);omega
theorem mem_ground {g:Gr} {p:Pt} {turn:List (List Int)} {U:List Int} {x:Int}:x∈ground g p turn U↔(x∈p.darts∧g.tail x∈U)∨∃ v∈U,turnAt turn v=[]∧x = -1 - v:=by
 unfold ground leaving
 rw[List.mem_append,List.mem_filter,List.mem_map]
 simp only[decide_eq_true_eq,List.mem_filter,List.isEmpty_iff]
 constructor
 ·rintro (h | ⟨v,⟨h1,h2⟩,h3⟩)
  ·exact Or.inl h
  exact Or.inr ⟨v,h1,h2,h3.symm⟩
 rintro (h | ⟨v,h1,h2,h3⟩)
 ·exact Or.inl h
 exact Or.inr ⟨v,⟨h1,h2⟩,h3.symm⟩
theorem vert_dart {g:Gr} {p:Pt} (h:PartOk g p) {d:Int} (hd:d∈p.darts):vert g d=g.tail d:=by
 unfold vert;rw[if_neg (by have:=dart_pos h hd;omega)]
theorem vert_lone {g:Gr} {v:Int} (h:0≤v):vert g (-1 - v)=v:=by
 unfold vert;rw[if_pos (by omega)];omega
theorem ground_vert {g:Gr} {p:Pt} {turn:List (List Int)} {U:List Int} (h:PartOk g p) (hU:Stretch g p U) {x:Int} (hx:x∈ground g p turn U):vert g x∈U:=by
 rcases mem_ground.1 hx with ⟨h1,h2⟩ | ⟨v,h1,-,rfl⟩
 ·rw[vert_dart h h1];exact h2
 rw[vert_lone (h.vr v (hU.sub v h1)).1];exact h1
theorem Stretch.all {g:Gr} {p:Pt} (h:PartOk g p):Stretch g p p.v:=⟨h.vn,fun _ hv=>hv,fun _d hd _=>(h.tail_mem hd).2⟩
theorem Stretch.comp {g:Gr} {p:Pt} (h:PartOk g p) (r:Int):Stretch g p (comp g p r):=⟨comp_nodup h r,fun _ hv=>(mem_comp.1 hv).1,comp_closed h r⟩
theorem busy_len (turn:List (List Int)):∀ U:List Int,(busy turn U).length+(U.filter fun v=>(turnAt turn v).isEmpty).length=U.length
 | []=>rfl
 | v :: U=>by
  have ih:=busy_len turn U
  unfold busy at ih ⊢
  simp only[List.filter_cons,List.length_cons]
  cases (turnAt turn v).isEmpty <;> simp <;> omega
theorem bRings_len (turn:List (List Int)) (U:List Int):(bRings turn U).length=U.length:=by
 unfold bRings
 rw[List.length_append,List.length_map,List.length_map,busy_len]
theorem flatten_singles (f:Int→Int):∀ L:List Int,(L.map fun v=>[f v]).flatten=L.map f
 | []=>rfl
 | v :: L=>by rw[List.map_cons,List.flatten_cons,flatten_singles f L];rfl
theorem ground_nodup {g:Gr} {p:Pt} {turn:List (List Int)} {U:List Int} (h:PartOk g p) (hU:Stretch g p U):(ground g p turn U).Nodup:=by
 unfold ground
 rw[List.nodup_append]
 refine⟨(darts_nodup h.en).filter _,List.Pairwise.map _ (fun a b (hab:a≠b) (e:-1 - a = -1 - b)=>hab (by omega)) (hU.nodup.filter _),fun a ha b hb e=>?_⟩
 obtain⟨v,hv,e2⟩:=List.mem_map.1 hb
 have h1:=dart_pos h (List.mem_filter.1 ha).1
 have h2:=(h.vr v (hU.sub v (List.mem_filter.1 hv).1)).1
 omega
theorem bef_rings {g:Gr} {p:Pt} {turn:List (List Int)} {U:List Int} (h:PartOk g p) (ht:TurnsOk g p turn) (hU:Stretch g p U):Rings (bef g turn) (bRings turn U)∧(bRings turn U).flatten.Perm (ground g p turn U):=by
 obtain⟨h1,h2⟩:=before_rings ht h.en hU.nodup (fun v hv=>h.vr v (hU.sub v hv))
 have hp:(bRings turn U).flatten.Perm (ground g p turn U):=by
  unfold bRings ground
  rw[List.flatten_append,flatten_singles]
  exact h2.append_right _
 refine⟨⟨fun c hc=>?_,hp.nodup_iff.2 (ground_nodup h hU)⟩,hp⟩
 unfold bRings at hc
 rcases List.mem_append.1 hc with q | q
 ·refine (h1.ring c q).congr fun x hx=>?_
  have hxd:x∈p.darts:=(List.mem_filter.1 (h2.mem_iff.1 (List.mem_flatten.2 ⟨c,q,hx⟩))).1
  unfold bef
  rw[if_neg (by have:=dart_pos h hxd;omega)]
 obtain⟨v,hv,rfl⟩:=List.mem_map.1 q
 have:=(h.vr v (hU.sub v (List.mem_filter.1 hv).1)).1
 show bef g turn (-1 - v) = -1 - v
 unfold bef
 rw[if_pos (by omega)]
theorem edges_in {g:Gr} {p:Pt} {turn:List (List Int)} {U:List Int} (_h:PartOk g p) (hU:Stretch g p U) {e:Int} (he:e∈edgesOf g p U):2*e∈ground g p turn U∧2*e+1∈ground g p turn U:=by
 unfold edgesOf at he
 obtain⟨h1,h2⟩:=List.mem_filter.1 he
 have h2:=of_decide_eq_true h2
 have d1:2*e∈p.darts:=mem_darts.2 (by rwa[show 2*e / 2=e by omega])
 have d2:2*e+1∈p.darts:=mem_darts.2 (by rwa[show (2*e+1) / 2=e by omega])
 have e2:twin (2*e)=2*e+1:=by unfold twin;rw[if_pos (by omega)]
 refine⟨mem_ground.2 (Or.inl ⟨d1,h2⟩),mem_ground.2 (Or.inl ⟨d2,?_⟩)⟩
 rw[←e2,tail_twin]
 exact hU.closed _ d1 h2
theorem half_in {g:Gr} {p:Pt} {U:List Int} (hU:Stretch g p U) {x:Int} (hx:x∈p.darts) (ht:g.tail x∈U):x / 2∈edgesOf g p U:=by
 unfold edgesOf
 refine List.mem_filter.2 ⟨mem_darts.1 hx,decide_eq_true ?_⟩
 rcases twin_cases x with ⟨e,-⟩ | ⟨e,e2⟩
 ·rw[←e];exact ht
 rw[←e2,tail_twin];exact hU.closed x hx ht
theorem dart_ends {g:Gr} {p:Pt} (h:PartOk g p) {d:Int} (hd:d∈p.darts):0≤g.tail d∧g.tail d<g.n:=h.vr _ (h.tail_mem hd).1
theorem walk_const {g:Gr} {p:Pt} {turn:List (List Int)} {W:List Face} {U:List Int} (h:PartOk g p) (ht:TurnsOk g p turn) (hW:FacesOk g p turn W) (hC:Closed g p U) {f:Face} (hf:f∈W) {x:Int} (hx:x∈f.2):x∈p.darts∧(g.tail x∈U↔f.corner g∈U):=by
 have hne:f.2≠[]:=fun e=>by rw[e] at hx;simp at hx
 have hc:f.2∈(W.filter fun f=>!f.2.isEmpty).map (·.2):=List.mem_map.2 ⟨f,List.mem_filter.2 ⟨hf,by simp[hne]⟩,rfl⟩
 have hd:∀ y∈f.2,y∈p.darts:=fun y hy=>hW.all.mem_iff.1 (List.mem_flatten.2 ⟨f.2,hc,hy⟩)
 have hk:=ring_const (f:=fun d=>decide (g.tail d∈U)) (hW.rings.ring f.2 hc) (fun y hy=>by
  have h2:=(next_tail ht (fun d hd=>dart_ends h hd) (hd y hy)).2
  simp only[h2,closed_back hC (hd y hy)])
 refine⟨hd x hx,?_⟩
 match e:f.2 with
 | []=>exact absurd e hne
 | d :: l =>
  have hcr:f.corner g=g.tail f.1:=by unfold Face.corner;rw[e]
  rw[hcr,hW.key f hf d l e]
  have:=hk x hx d (by rw[e];simp)
  simpa using this
theorem lone_walk {g:Gr} {p:Pt} {turn:List (List Int)} {W:List Face} (hW:FacesOk g p turn W) {v:Int} (hv:v∈p.v) (h0:turnAt turn v=[]):(-1 - v,[])∈W:=by
 have:-1 - v∈(W.filter fun f=>f.2.isEmpty).map (·.1):=hW.lone.mem_iff.2 (List.mem_map.2 ⟨v,List.mem_filter.2 ⟨hv,by simp[h0]⟩,rfl⟩)
 obtain⟨f,hf,e⟩:=List.mem_map.1 this
 obtain⟨h1,h2⟩:=List.mem_filter.1 hf
 have h2:f.2=[]:=by simpa using h2
 have:f=(-1 - v,[]):=Prod.ext e h2
 rw[←this];exact h1
theorem lone_of {g:Gr} {p:Pt} {turn:List (List Int)} {W:List Face} (hW:FacesOk g p turn W) {f:Face} (hf:f∈W) (h0:f.2=[]):∃ v∈p.v,turnAt turn v=[]∧f.1 = -1 - v:=by
 have:f.1∈(W.filter fun f=>f.2.isEmpty).map (·.1):=List.mem_map.2 ⟨f,List.mem_filter.2 ⟨hf,by simp[h0]⟩,rfl⟩
 obtain⟨v,hv,e⟩:=List.mem_map.1 (hW.lone.mem_iff.1 this)
 obtain⟨h1,h2⟩:=List.mem_filter.1 hv
 exact⟨v,h1,by simpa using h2,e.symm⟩
theorem walk_of {g:Gr} {p:Pt} {turn:List (List Int)} {W:List Face} (hW:FacesOk g p turn W) {x:Int} (hx:x∈p.darts):∃ f∈W,x∈f.2:=by
 obtain⟨c,hc,hxc⟩:=List.mem_flatten.1 (hW.all.mem_iff.2 hx)
 obtain⟨f,hf,rfl⟩:=List.mem_map.1 hc
 exact⟨f,(List.mem_filter.1 hf).1,hxc⟩
theorem walk_rings {g:Gr} {p:Pt} {turn:List (List Int)} {W:List Face} {U:List Int} (hpe:p.err g=0) (ht:TurnsOk g p turn) (hW:WalksOk g p turn W) (hU:Stretch g p U) :
  Rings (fun x=>bef g turn (tw (edgesOf g p U) x)) (walksIn g W U)∧(walksIn g W U).flatten.Perm (ground g p turn U):=by
 have h:=Pt.ok_of_err hpe
 have hSn:(edgesOf g p U).Nodup:=h.en.filter _
 have hnd:(walksIn g W U).flatten.Nodup:=by
  have h8:=places_nodup hpe hW
  have hs:(walksIn g W U).Sublist (places8 W):=(List.filter_sublist).map marks
  rw[nodup_flat] at h8 ⊢
  exact⟨fun l hl=>h8.1 l (hs.subset hl),h8.2.sublist hs⟩
 refine⟨⟨fun c hc=>?_,hnd⟩,?_⟩
 ·obtain⟨f,hf,rfl⟩:=List.mem_map.1 hc
  obtain⟨hfW,hfU⟩:=List.mem_filter.1 hf
  have hfU:=of_decide_eq_true hfU
  by_cases e:f.2=[]
  ·obtain⟨v,hv,-,e1⟩:=lone_of hW.faces hfW e
   rw[marks_nil e,e1]
   have hv0:=(h.vr v hv).1
   show bef g turn (tw _ (-1 - v)) = -1 - v
   rw[tw_eq hSn,if_neg (fun q=>by
    have:=h.er _ (List.mem_filter.1 q).1
    omega)]
   unfold bef
   rw[if_pos (by omega)]
  rw[marks_some e]
  have hc2:f.2∈(W.filter fun f=>!f.2.isEmpty).map (·.2):=List.mem_map.2 ⟨f,List.mem_filter.2 ⟨hfW,by simp[e]⟩,rfl⟩
  refine (hW.faces.rings.ring f.2 hc2).congr fun x hx=>?_
  obtain⟨hxd,hxU⟩:=walk_const h ht hW.faces hU.closed hfW hx
  rw[tw_eq hSn,if_pos (half_in hU hxd (hxU.2 hfU))]
  have:=dart_pos h (twin_mem hxd)
  unfold bef
  rw[if_neg (by omega)]
  rfl
 refine (List.perm_ext_iff_of_nodup hnd (ground_nodup h hU)).2 fun x=>?_
 rw[mem_ground,List.mem_flatten]
 constructor
 ·rintro ⟨c,hc,hxc⟩
  obtain⟨f,hf,rfl⟩:=List.mem_map.1 hc
  obtain⟨hfW,hfU⟩:=List.mem_filter.1 hf
  have hfU:=of_decide_eq_true hfU
  by_cases e:f.2=[]
  ·rw[marks_nil e] at hxc
   obtain⟨v,hv,e2,e1⟩:=lone_of hW.faces hfW e
   refine Or.inr ⟨v,?_,e2,by rw[←e1];simpa using hxc⟩
   have:f.corner g = -1 - f.1:=by unfold Face.corner;rw[e]
   rw[this,e1,show -1 - (-1 - v)=v by omega] at hfU
   exact hfU
  rw[marks_some e] at hxc
  obtain⟨hxd,hxU⟩:=walk_const h ht hW.faces hU.closed hfW hxc
  exact Or.inl ⟨hxd,hxU.2 hfU⟩
 rintro (⟨h1,h2⟩ | ⟨v,h1,h2,rfl⟩)
 ·obtain⟨f,hf,hxf⟩:=walk_of hW.faces h1
  obtain⟨-,hxU⟩:=walk_const h ht hW.faces hU.closed hf hxf
  exact⟨marks f,List.mem_map.2 ⟨f,List.mem_filter.2 ⟨hf,decide_eq_true (hxU.1 h2)⟩,rfl⟩,by rw[marks_some (fun e=>by rw[e] at hxf;simp at hxf)];exact hxf⟩
 have hf:=lone_walk hW.faces (hU.sub v h1) h2
 refine⟨marks (-1 - v,[]),List.mem_map.2 ⟨_,List.mem_filter.2 ⟨hf,decide_eq_true ?_⟩,rfl⟩,by rw[marks_nil rfl];simp⟩
 show -1 - (-1 - v)∈U
 rw[show -1 - (-1 - v)=v by omega];exact h1
theorem same_vert {g:Gr} {p:Pt} {turn:List (List Int)} {U:List Int} (h:PartOk g p) (ht:TurnsOk g p turn) (hU:Stretch g p U) {x y:Int} (hx:x∈ground g p turn U) (hy:y∈ground g p turn U) (e:vert g x=vert g y):Same (bRings turn U) x y:=by
 have key:∀ {x y v:Int},x∈p.darts→g.tail x=v→v∈U→y∈ground g p turn U→vert g y=v→Same (bRings turn U) x y:=by
  intro x y v hx e1 hv hy e2
  have hb:=h.vr v (hU.sub v hv)
  have hxt:x∈turnAt turn v:=(ht.mem v hb.1 hb.2 x).2 ⟨hx,e1⟩
  rcases mem_ground.1 hy with ⟨q1,-⟩ | ⟨u,q1,q2,rfl⟩
  ·rw[vert_dart h q1] at e2
   have hyt:y∈turnAt turn v:=(ht.mem v hb.1 hb.2 y).2 ⟨q1,e2⟩
   refine Or.inr ⟨(turnAt turn v).reverse,?_,by simpa using hxt,by simpa using hyt⟩
   unfold bRings busy
   refine List.mem_append.2 (Or.inl (List.mem_map.2 ⟨v,List.mem_filter.2 ⟨hv,?_⟩,rfl⟩))
   cases hq:turnAt turn v with
   | nil=>rw[hq] at hxt;simp at hxt
   | cons _ _=>rfl
  rw[vert_lone (h.vr u (hU.sub u q1)).1] at e2
  subst e2
  rw[q2] at hxt;simp at hxt
 have hB:=(bef_rings h ht hU).1.nodup
 rcases mem_ground.1 hx with ⟨q1,q2⟩ | ⟨u,q1,q2,rfl⟩
 ·exact key q1 rfl q2 hy (by rw[←e,vert_dart h q1])
 rw[vert_lone (h.vr u (hU.sub u q1)).1] at e
 rcases mem_ground.1 hy with ⟨r1,r2⟩ | ⟨w,r1,r2,rfl⟩
 ·rw[vert_dart h r1] at e
  exact (Same.eqv hB).symm (key r1 e.symm q1 hx (vert_lone (h.vr u (hU.sub u q1)).1))
 rw[vert_lone (h.vr w (hU.sub w r1)).1] at e
 rw[e];exact Or.inl rfl
theorem vert_bef {g:Gr} {p:Pt} {turn:List (List Int)} {U:List Int} (h:PartOk g p) (ht:TurnsOk g p turn) (hU:Stretch g p U) {x:Int} (hx:x∈ground g p turn U):bef g turn x∈ground g p turn U∧vert g (bef g turn x)=vert g x:=by
 obtain⟨h1,h2⟩:=bef_rings h ht hU
 have hm:=h2.mem_iff.1 (h1.next (h2.mem_iff.2 hx))
 refine⟨hm,?_⟩
 rcases Same.step h1 (h2.mem_iff.2 hx) with e | ⟨c,hc,c1,c2⟩
 ·rw[←e]
 unfold bRings at hc
 rcases List.mem_append.1 hc with q | q
 ·obtain⟨v,hv,rfl⟩:=List.mem_map.1 q
  have hb:=h.vr v (hU.sub v (List.mem_filter.1 hv).1)
  obtain⟨a1,a2⟩:=(ht.mem v hb.1 hb.2 _).1 (by simpa using c1)
  obtain⟨b1,b2⟩:=(ht.mem v hb.1 hb.2 _).1 (by simpa using c2)
  rw[vert_dart h a1,vert_dart h b1,a2,b2]
 obtain⟨v,hv,rfl⟩:=List.mem_map.1 q
 simp at c1 c2
 rw[c2,c1]
theorem come_gen {g:Gr} {p:Pt} {turn:List (List Int)} {U S:List Int} (h:PartOk g p) (hU:Stretch g p U) {G:Int→Int→Prop} (hG:Eqv G) (h1:∀ x∈ground g p turn U,∀ y∈ground g p turn U,vert g x=vert g y→G x y)
  (hS:∀ e∈S,e∈p.e) (h2:∀ e∈S,g.tail (2*e)∈U→G (2*e) (2*e+1)) {a v:Int} (hc:Come g ⟨p.v,S⟩ (-1) a v):∀ x∈ground g p turn U,vert g x=a→∀ y∈ground g p turn U,vert g y=v→G x y:=by
 induction hc with
 | here=>exact fun x hx e1 y hy e2=>h1 x hx y hy (e1.trans e2.symm)
 | @step u w _ hn _ ih =>
  intro x hx e1 y hy e2
  obtain⟨e,he,hends⟩:=hn
  have d1:2*e∈p.darts:=mem_darts.2 (by rw[show 2*e / 2=e by omega];exact hS e he)
  have d2:2*e+1∈p.darts:=mem_darts.2 (by rw[show (2*e+1) / 2=e by omega];exact hS e he)
  have t1:=tail_even g e
  have t2:g.tail (2*e+1)=(g.at e).2:=by
   have e2:twin (2*e)=2*e+1:=by unfold twin;rw[if_pos (by omega)]
   rw[←e2,tail_twin];exact t1.2
  have hyU:w∈U:=by rw[←e2];exact ground_vert h hU hy
  rcases hends with q | q
  .-- 2e at u,its twin at w
   have a1:g.tail (2*e)=u:=by rw[t1.1,q]
   have a2:g.tail (2*e+1)=w:=by rw[t2,q]
   have aU:u∈U:=by
    have e2':twin (2*e)=2*e+1:=by unfold twin;rw[if_pos (by omega)]
    rw[←a1]
    refine (closed_back hU.closed d1).1 ?_
    rw[←tail_twin,e2',a2];exact hyU
   have g1:2*e∈ground g p turn U:=mem_ground.2 (Or.inl ⟨d1,by rw[a1];exact aU⟩)
   have g2:2*e+1∈ground g p turn U:=mem_ground.2 (Or.inl ⟨d2,by rw[a2];exact hyU⟩)
   exact hG.trans (hG.trans (ih x hx e1 _ g1 (by rw[vert_dart h d1,a1])) (h2 e he (by rw[a1];exact aU))) (h1 _ g2 y hy (by rw[vert_dart h d2,a2,e2]))
  have a1:g.tail (2*e)=w:=by rw[t1.1,q]
  have a2:g.tail (2*e+1)=u:=by rw[t2,q]
  have aU:u∈U:=by
   have e2':twin (2*e)=2*e+1:=by unfold twin;rw[if_pos (by omega)]
   rw[←a2,←e2',tail_twin]
   exact hU.closed _ d1 (by rw[a1];exact hyU)
  have g1:2*e∈ground g p turn U:=mem_ground.2 (Or.inl ⟨d1,by rw[a1];exact hyU⟩)
  have g2:2*e+1∈ground g p turn U:=mem_ground.2 (Or.inl ⟨d2,by rw[a2];exact aU⟩)
  exact hG.trans (hG.trans (ih x hx e1 _ g2 (by rw[vert_dart h d2,a2])) (hG.symm (h2 e he (by rw[a1];exact hyU)))) (h1 _ g1 y hy (by rw[vert_dart h d1,a1,e2]))
theorem piece_le {g:Gr} {p:Pt} {turn:List (List Int)} {W:List Face} (hpe:p.err g=0) (ht:TurnsOk g p turn) (hW:WalksOk g p turn W) (r:Int) :
  (comp g p r).length+(W.filter fun f=>decide (f.corner g∈comp g p r)).length≤2+(p.e.filter fun e=>decide (g.tail (2*e)∈comp g p r)).length:=by
 have h:=Pt.ok_of_err hpe
 have hU:=Stretch.comp h r
 obtain⟨b1,b2⟩:=bef_rings h ht hU
 obtain⟨w1,w2⟩:=walk_rings hpe ht hW hU
 have hle:=euler_le b1 b2 (fun e he=>edges_in (turn:=turn) h hU he) w1 w2
 rw[bRings_len] at hle
 have hE:=Same.eqv b1.nodup
 have h1:cnt (Gen (Same (bRings turn (comp g p r))) (edgesOf g p (comp g p r))) (ground g p turn (comp g p r))≤1:=by
  refine cnt_le_one (Gen.eqv hE _) fun x hx y hy=>?_
  have vx:=mem_comp.1 (ground_vert h hU hx)
  have vy:=mem_comp.1 (ground_vert h hU hy)
  have hc:=((vx.2.symm (by
   intro e
   have:r = -1:=e
   have h2:=h.vr _ vx.1
   have h3:Come g p (-1) (-1) (vert g x):=by rw[←this];exact this ▸ vx.2
   exact no_come h h3 (by omega))).2).trans vy.2
  exact come_gen (S:=p.e) h hU (Gen.eqv hE _) (fun u hu w hw e=>Gen.base (same_vert h ht hU hu hw e) _) (fun _ he=>he) (fun e he ht2=>Gen.edge hE (List.mem_filter.2 ⟨he,decide_eq_true ht2⟩)) (Come.congr (q:=⟨p.v,p.e⟩) rfl hc) x hx rfl y hy rfl
 unfold walksIn at hle
 rw[List.length_map] at hle
 unfold edgesOf at hle h1
 omega
end Go.Proofs.YtkacjmoamgjfpaaGreat.Plain
