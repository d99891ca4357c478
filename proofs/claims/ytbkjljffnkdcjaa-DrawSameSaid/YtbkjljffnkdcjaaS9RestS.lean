/- rest.To: its contract. Conditions: a graph, two parts, a plan that lie in memory and read so, of a bounded size. -/
import Derived.Test.YtbkjljffnkdcjaaS9Or9
namespace Go.Proofs.Ytbkjljffnkdcjaa
open Go.RowKit Go.Maps
structure Apart (L:Int→Option Int) (left:Lit→Bool) (s:St):Prop where
 ok:s.Ok
 rel:∀ x y,s.rel x y↔x=y
 small:∀ x∈s.all,0≤x∧x<1000000000
 met:∀ y,I64 y→(L y).isSome=true→left (.int .i64 y)=false→Plain.lf L y∈s.all
theorem nodup_small {l:List Int} {N:Nat} (hn:l.Nodup) (h:∀ x∈l,0≤x∧x<N):l.length≤N:=by
 have:=Plain.len_le_of_sub (m:=(List.range N).map fun (k:Nat)=>(k:Int)) hn fun x hx=>List.mem_map.2 ⟨x.toNat,List.mem_range.2 (by have:=h x hx;omega),by have:=h x hx;omega⟩
 simpa using this
namespace Plain
end Plain
namespace Plain
theorem lst_min (l:List Int):∀ k,∀ i,i<k→l.getD (lst l k) 0≤l.getD i 0
 | 0,i,hi=>by omega
 | k+1,i,hi=>by
  have ih:=lst_min l k
  unfold lst
  split
  ·rename_i h
   by_cases e:i=k
   ·rw[e];exact Int.le_refl _
   have:=ih i (by omega);omega
  rename_i h
  by_cases e:i=k
  ·rw[e];omega
  exact ih i (by omega)
theorem lst_zero {l:List Int} (h:∀ i,i<l.length→l.getD 0 0≤l.getD i 0):∀ k,k≤l.length→lst l k=0
 | 0,_=>rfl
 | k+1,hk=>by
  have ih:=lst_zero h k (by omega)
  have:=h k (by omega)
  unfold lst
  rw[ih,if_neg (by omega)]
theorem first_begun {l:List Int} (h:∀ k,k<l.length→l.getD 0 0≤l.getD k 0):first l=l:=by
 unfold first
 rw[lst_zero h _ (Nat.le_refl _)]
 simp
theorem first_first (l:List Int):first (first l)=first l:=by
 refine first_begun fun k hk=>?_
 have hm:(first l).getD k 0∈l:=(first_perm l).mem_iff.1 (getD_mem hk)
 obtain⟨i,hi,e⟩:=mem_getD hm
 have h0:0<l.length:=by omega
 have hl:=lst_lt h0 l.length (Nat.le_refl _)
 have e0:(first l).getD 0 0=l.getD (lst l l.length) 0:=by
  unfold first
  have hd:0<l.length - lst l l.length:=by omega
  simp[List.getD,List.getElem?_append,hl,hd]
 rw[e0,←e]
 exact lst_min l l.length i hi
end Plain
namespace Plain
end Plain
namespace Plain
end Plain
end Go.Proofs.Ytbkjljffnkdcjaa
namespace Go.Proofs.Ytbkjljffnkdcjaa.Plain
structure Eqv (R:Int→Int→Prop):Prop where
 refl:∀ x,R x x
 symm:∀ {x y},R x y→R y x
 trans:∀ {x y z},R x y→R y z→R x z
structure Reps (R:Int→Int→Prop) (K T:List Int):Prop where
 sub:∀ t∈T,t∈K
 all:∀ x∈K,∃ t∈T,R x t
 one:T.Pairwise fun a b=>¬ R a b
theorem pigeon {R:Int→Int→Prop} (h:Eqv R):∀ {T T':List Int},(T.Pairwise fun a b=>¬ R a b)→(∀ t∈T,∃ t'∈T',R t t')→T.length≤T'.length
 | [],_,_,_=>Nat.zero_le _
 | a :: T,T',hp,hm=>by
  rw[List.pairwise_cons] at hp
  obtain⟨b,hb,hab⟩:=hm a (by simp)
  have h1:=pigeon h (T:=T) (T':=T'.erase b) hp.2 (fun t ht=>by
   obtain⟨c,hc,htc⟩:=hm t (by simp[ht])
   refine⟨c,?_,htc⟩
   have hne:c≠b:=fun e=>hp.1 t ht (h.trans hab (h.symm (e ▸ htc)))
   exact (List.mem_erase_of_ne hne).2 hc)
  have h2:=List.length_erase_of_mem hb
  have h3:0<T'.length:=List.length_pos_of_mem hb
  rw[List.length_cons]
  omega
open Classical in
noncomputable def reps (R:Int→Int→Prop):List Int→List Int
 | []=>[]
 | x :: K=>if ∃ y∈reps R K,R x y then reps R K else x :: reps R K
noncomputable def cnt (R:Int→Int→Prop) (K:List Int):Nat:=(reps R K).length
theorem reps_ok {R:Int→Int→Prop} (h:Eqv R):∀ K:List Int,Reps R K (reps R K)
 | []=>⟨by simp[reps],by simp,by simp[reps]⟩
 | x :: K=>by
  have ih:=reps_ok h K
  by_cases hx:∃ y∈reps R K,R x y
  ·have e:reps R (x :: K)=reps R K:=by simp only[reps];rw[if_pos hx]
   rw[e]
   refine⟨fun t ht=>List.mem_cons_of_mem _ (ih.sub t ht),fun y hy=>?_,ih.one⟩
   rcases List.mem_cons.1 hy with rfl | hy
   ·exact hx
   exact ih.all y hy
  have e:reps R (x :: K)=x :: reps R K:=by simp only[reps];rw[if_neg hx]
  rw[e]
  refine⟨fun t ht=>?_,fun y hy=>?_,?_⟩
  ·rcases List.mem_cons.1 ht with rfl | ht
   ·simp
   exact List.mem_cons_of_mem _ (ih.sub t ht)
  ·rcases List.mem_cons.1 hy with rfl | hy
   ·exact⟨y,by simp,h.refl y⟩
   obtain⟨t,ht,hr⟩:=ih.all y hy
   exact⟨t,List.mem_cons_of_mem _ ht,hr⟩
  rw[List.pairwise_cons]
  exact⟨fun y hy hr=>hx ⟨y,hy,hr⟩,ih.one⟩
theorem cnt_eq {R:Int→Int→Prop} (h:Eqv R) {K T:List Int} (hT:Reps R K T):cnt R K=T.length:=by
 have h1:=reps_ok h K
 exact Nat.le_antisymm (pigeon h h1.one fun t ht=>hT.all t (h1.sub t ht)) (pigeon h hT.one fun t ht=>h1.all t (hT.sub t ht))
theorem cnt_mono {R Q:Int→Int→Prop} (hR:Eqv R) (hQ:Eqv Q) {K:List Int} (h:∀ x∈K,∀ y∈K,R x y→Q x y):cnt Q K≤cnt R K:=by
 have h1:=reps_ok hR K
 have h2:=reps_ok hQ K
 refine pigeon hQ h2.one fun t ht=>?_
 obtain⟨u,hu,hr⟩:=h1.all t (h2.sub t ht)
 exact⟨u,hu,h t (h2.sub t ht) u (h1.sub u hu) hr⟩
theorem cnt_congr {R Q:Int→Int→Prop} (hR:Eqv R) (hQ:Eqv Q) {K:List Int} (h:∀ x∈K,∀ y∈K,R x y↔Q x y):cnt R K=cnt Q K :=
 Nat.le_antisymm (cnt_mono hQ hR fun x hx y hy=>(h x hx y hy).2) (cnt_mono hR hQ fun x hx y hy=>(h x hx y hy).1)
theorem cnt_le_one {R:Int→Int→Prop} (h:Eqv R) {K:List Int} (ht:∀ x∈K,∀ y∈K,R x y):cnt R K≤1:=by
 have hr:=reps_ok h K
 unfold cnt
 match e:reps R K with
 | []=>simp
 | [x]=>simp
 | x :: y :: l =>
  rw[e] at hr
  exact absurd (ht x (hr.sub x (by simp)) y (hr.sub y (by simp))) ((List.pairwise_cons.1 hr.one).1 y (by simp))
def Jn (R:Int→Int→Prop) (a b x y:Int):Prop:=R x y∨(R x a∧R b y)∨(R x b∧R a y)
theorem Jn.eqv {R:Int→Int→Prop} (h:Eqv R) (a b:Int):Eqv (Jn R a b):=by
 refine⟨fun x=>Or.inl (h.refl x),fun {x y} hxy=>?_,fun {x y z} hxy hyz=>?_⟩
 ·rcases hxy with q | ⟨q,r⟩ | ⟨q,r⟩
  ·exact Or.inl (h.symm q)
  ·exact Or.inr (Or.inr ⟨h.symm r,h.symm q⟩)
  exact Or.inr (Or.inl ⟨h.symm r,h.symm q⟩)
 rcases hxy with q | ⟨q,r⟩ | ⟨q,r⟩ <;> rcases hyz with s | ⟨s,t⟩ | ⟨s,t⟩
 ·exact Or.inl (h.trans q s)
 ·exact Or.inr (Or.inl ⟨h.trans q s,t⟩)
 ·exact Or.inr (Or.inr ⟨h.trans q s,t⟩)
 ·exact Or.inr (Or.inl ⟨q,h.trans r s⟩)
 ·exact Or.inr (Or.inl ⟨q,t⟩)
 ·exact Or.inl (h.trans q t)
 ·exact Or.inr (Or.inr ⟨q,h.trans r s⟩)
 ·exact Or.inl (h.trans q t)
 exact Or.inr (Or.inr ⟨q,t⟩)
theorem pw_one {R:Int→Int→Prop} (h:Eqv R):∀ {T:List Int},(T.Pairwise fun a b=>¬ R a b)→∀ {u w:Int},u∈T→w∈T→R u w→u=w
 | [],_,_,_,hu,_,_=>by simp at hu
 | a :: T,hp,u,w,hu,hw,hr=>by
  rw[List.pairwise_cons] at hp
  rcases List.mem_cons.1 hu with e1 | hu <;> rcases List.mem_cons.1 hw with e2 | hw
  ·rw[e1,e2]
  ·exact absurd (e1 ▸ hr) (hp.1 w hw)
  ·exact absurd (h.symm (e2 ▸ hr)) (hp.1 u hu)
  exact pw_one h hp.2 hu hw hr
theorem cnt_join_same {R:Int→Int→Prop} (h:Eqv R) {K:List Int} {a b:Int} (hab:R a b):cnt (Jn R a b) K=cnt R K:=by
 refine cnt_congr (Jn.eqv h a b) h fun x _ y _=>⟨fun q=>?_,Or.inl⟩
 rcases q with q | ⟨q,r⟩ | ⟨q,r⟩
 ·exact q
 ·exact h.trans (h.trans q hab) r
 exact h.trans (h.trans q (h.symm hab)) r
theorem cnt_join {R:Int→Int→Prop} (h:Eqv R) {K:List Int} {a b:Int} (ha:a∈K) (hb:b∈K) (hab:¬ R a b):cnt (Jn R a b) K+1=cnt R K:=by
 have hr:=reps_ok h K
 obtain⟨s,hs,has⟩:=hr.all a ha
 obtain⟨t,ht,hbt⟩:=hr.all b hb
 have hst:s≠t:=fun e=>hab (h.trans has (h.symm (e ▸ hbt)))
 have hnd:(reps R K).Nodup:=hr.one.imp fun {a b} (hn:¬ R a b) (e:a=b)=>hn (by rw[e];exact h.refl _)
 have hT:Reps (Jn R a b) K ((reps R K).erase t):=by
  refine⟨fun u hu=>hr.sub u (List.mem_of_mem_erase hu),fun x hx=>?_,?_⟩
  ·obtain⟨u,hu,hxu⟩:=hr.all x hx
   by_cases e:u=t
   ·subst e
    exact⟨s,(List.mem_erase_of_ne hst).2 hs,Or.inr (Or.inr ⟨h.trans hxu (h.symm hbt),has⟩)⟩
   exact⟨u,(List.mem_erase_of_ne e).2 hu,Or.inl hxu⟩
  refine (hr.one.sublist List.erase_sublist).imp_of_mem fun {u w} hu hw hn hj=>?_
  have hut:u≠t:=fun e=>by rw[e] at hu;exact (List.Nodup.not_mem_erase hnd) hu
  have hwt:w≠t:=fun e=>by rw[e] at hw;exact (List.Nodup.not_mem_erase hnd) hw
  rcases hj with q | ⟨q,r⟩ | ⟨q,r⟩
  ·exact hn q
  ·exact hwt (pw_one h hr.one (List.mem_of_mem_erase hw) ht (h.trans (h.symm r) hbt))
  exact hut (pw_one h hr.one (List.mem_of_mem_erase hu) ht (h.trans q hbt))
 rw[cnt_eq (Jn.eqv h a b) hT,List.length_erase_of_mem ht]
 have:=List.length_pos_of_mem ht
 show (reps R K).length - 1+1=(reps R K).length
 omega
theorem cnt_join_le {R:Int→Int→Prop} (h:Eqv R) {K:List Int} {a b:Int} (ha:a∈K) (hb:b∈K):cnt R K≤cnt (Jn R a b) K+1∧cnt (Jn R a b) K≤cnt R K:=by
 by_cases hab:R a b
 ·rw[cnt_join_same h hab];omega
 have:=cnt_join h ha hb hab;omega
def Gen (R:Int→Int→Prop):List Int→Int→Int→Prop
 | []=>R
 | e :: E=>Jn (Gen R E) (2*e) (2*e+1)
theorem Gen.eqv {R:Int→Int→Prop} (h:Eqv R):∀ E,Eqv (Gen R E)
 | []=>h
 | _ :: E=>Jn.eqv (Gen.eqv h E) _ _
theorem Gen.base {R:Int→Int→Prop} {x y:Int} (h:R x y):∀ E,Gen R E x y
 | []=>h
 | _ :: E=>Or.inl (Gen.base h E)
theorem Gen.edge {R:Int→Int→Prop} (h:Eqv R) {e:Int}:∀ {E:List Int},e∈E→Gen R E (2*e) (2*e+1)
 | [],he=>by simp at he
 | a :: E,he=>by
  rcases List.mem_cons.1 he with rfl | he
  ·exact Or.inr (Or.inl ⟨(Gen.eqv h E).refl _,(Gen.eqv h E).refl _⟩)
  exact Or.inl (Gen.edge h he)
def Same (C:List (List Int)) (x y:Int):Prop:=x=y∨∃ c∈C,x∈c∧y∈c
theorem list_one:∀ {C:List (List Int)},C.flatten.Nodup→∀ {l m:List Int} {x:Int},l∈C→m∈C→x∈l→x∈m→l=m
 | [],_,_,_,_,hl,_,_,_=>by simp at hl
 | c :: C,hn,l,m,x,hl,hm,h1,h2=>by
  rw[List.flatten_cons,List.nodup_append] at hn
  rcases List.mem_cons.1 hl with e1 | hl <;> rcases List.mem_cons.1 hm with e2 | hm
  ·rw[e1,e2]
  ·exact absurd rfl (hn.2.2 x (e1 ▸ h1) x (List.mem_flatten.2 ⟨m,hm,h2⟩))
  ·exact absurd rfl (hn.2.2 x (e2 ▸ h2) x (List.mem_flatten.2 ⟨l,hl,h1⟩))
  exact list_one hn.2.1 hl hm h1 h2
theorem Same.eqv {C:List (List Int)} (hn:C.flatten.Nodup):Eqv (Same C):=by
 refine⟨fun x=>Or.inl rfl,fun {x y} h=>?_,fun {x y z} h k=>?_⟩
 ·rcases h with rfl | ⟨c,hc,h1,h2⟩
  ·exact Or.inl rfl
  exact Or.inr ⟨c,hc,h2,h1⟩
 rcases h with rfl | ⟨c,hc,h1,h2⟩
 ·exact k
 rcases k with rfl | ⟨d,hd,k1,k2⟩
 ·exact Or.inr ⟨c,hc,h1,h2⟩
 obtain rfl:=list_one hn hc hd h2 k1
 exact Or.inr ⟨c,hc,h1,k2⟩
theorem trail_rel {Q:Int→Int→Prop} (hQ:Eqv Q) {p:Int→Int} {z:Int}:∀ {l:List Int} {x:Int},Trail p x l z→(∀ w∈x :: l,Q w (p w))→∀ y∈x :: l,Q x y
 | [],x,_,_,y,hy=>by simp at hy;rw[hy];exact hQ.refl x
 | a :: l,x,h,hs,y,hy=>by
  have e:Q x a:=by rw[←h.1];exact hs x (by simp)
  rcases List.mem_cons.1 hy with rfl | hy
  ·exact hQ.refl y
  exact hQ.trans e (trail_rel hQ h.2 (fun w hw=>hs w (List.mem_cons_of_mem _ hw)) y hy)
theorem ring_rel {Q:Int→Int→Prop} (hQ:Eqv Q) {p:Int→Int} {c:List Int} (h:Ring p c) (hs:∀ w∈c,Q w (p w)):∀ x∈c,∀ y∈c,Q x y:=by
 intro x hx y hy
 obtain⟨l,hr,hp⟩:=h.from hx
 exact trail_rel hQ (show Trail p x l x from hr) (fun w hw=>hs w (hp.mem_iff.1 hw)) y (hp.mem_iff.2 hy)
theorem Same.least {Q:Int→Int→Prop} (hQ:Eqv Q) {p:Int→Int} {C:List (List Int)} (h:Rings p C) (hs:∀ w∈C.flatten,Q w (p w)) {x y:Int} (hxy:Same C x y):Q x y:=by
 rcases hxy with rfl | ⟨c,hc,h1,h2⟩
 ·exact hQ.refl x
 exact ring_rel hQ (h.ring c hc) (fun w hw=>hs w (List.mem_flatten.2 ⟨c,hc,hw⟩)) x h1 y h2
theorem Same.step {p:Int→Int} {C:List (List Int)} (h:Rings p C) {x:Int} (hx:x∈C.flatten):Same C x (p x):=by
 obtain⟨c,hc,hxc⟩:=List.mem_flatten.1 hx
 exact Or.inr ⟨c,hc,hxc,((h.ring c hc).map_perm).mem_iff.1 (List.mem_map.2 ⟨x,hxc,rfl⟩)⟩
theorem cnt_same {p:Int→Int} {C:List (List Int)} {K:List Int} (h:Rings p C) (hp:C.flatten.Perm K):cnt (Same C) K=C.length:=by
 have hne:∀ c∈C,c.headD 0∈c:=by
  intro c hc
  have:=h.ring c hc
  cases c with
  | nil=>exact absurd this (by simp[Ring])
  | cons x l=>simp
 have hT:Reps (Same C) K (C.map (·.headD 0)):=by
  refine⟨fun t ht=>?_,fun x hx=>?_,?_⟩
  ·obtain⟨c,hc,rfl⟩:=List.mem_map.1 ht
   exact hp.mem_iff.1 (List.mem_flatten.2 ⟨c,hc,hne c hc⟩)
  ·obtain⟨c,hc,hxc⟩:=List.mem_flatten.1 (hp.mem_iff.2 hx)
   exact⟨_,List.mem_map.2 ⟨c,hc,rfl⟩,Or.inr ⟨c,hc,hxc,hne c hc⟩⟩
  rw[List.pairwise_map]
  have hpw:=(List.pairwise_flatten.1 h.nodup).2
  refine hpw.imp_of_mem fun {c d} hc hd hn hs=>?_
  rcases hs with e | ⟨m,hm,h1,h2⟩
  ·exact hn _ (hne c hc) _ (hne d hd) e
  obtain rfl:=list_one h.nodup hm hc h1 (hne c hc)
  exact hn _ h2 _ (hne d hd) rfl
 rw[cnt_eq (Same.eqv h.nodup) hT,List.length_map]
def tw:List Int→Int→Int
 | [],d=>d
 | e :: S,d=>tw S (swp (2*e) (2*e+1) d)
theorem swp_mem {a b x:Int} {K:List Int} (ha:a∈K) (hb:b∈K) (hx:x∈K):swp a b x∈K:=by
 unfold swp
 split
 ·exact hb
 split
 ·exact ha
 exact hx
theorem tw_mem {K:List Int}:∀ {S:List Int},(∀ e∈S,2*e∈K∧2*e+1∈K)→∀ {x:Int},x∈K→tw S x∈K
 | [],_,_,hx=>hx
 | e :: S,h,x,hx=>tw_mem (fun f hf=>h f (List.mem_cons_of_mem _ hf)) (swp_mem (h e (by simp)).1 (h e (by simp)).2 hx)
theorem gen_swp {R:Int→Int→Prop} (h:Eqv R) (e:Int) (E:List Int) (x:Int):Gen R (e :: E) x (swp (2*e) (2*e+1) x):=by
 have hE:=Gen.eqv h (e :: E)
 have he:=Gen.edge h (e:=e) (E:=e :: E) (by simp)
 unfold swp
 split
 ·rename_i q;rw[q];exact he
 split
 ·rename_i q;rw[q];exact hE.symm he
 exact hE.refl x
theorem gen_tw {R:Int→Int→Prop} (h:Eqv R):∀ (S:List Int) (x:Int),Gen R S x (tw S x)
 | [],x=>h.refl x
 | e :: S,x=>(Gen.eqv h (e :: S)).trans (gen_swp h e S x) (Or.inl (gen_tw h S _))
theorem same_gen {b:Int→Int} {B C:List (List Int)} {K S:List Int} (hb:Rings b B) (hB:B.flatten.Perm K) (hS:∀ e∈S,2*e∈K∧2*e+1∈K)
  (hC:Rings (fun x=>b (tw S x)) C) (hCK:C.flatten.Perm K) {x y:Int} (h:Same C x y):Gen (Same B) S x y:=by
 have hE:=Same.eqv hb.nodup
 refine Same.least (Gen.eqv hE S) hC (fun w hw=>?_) h
 have hwK:=hCK.mem_iff.1 hw
 exact (Gen.eqv hE S).trans (gen_tw hE S w) (Gen.base (Same.step hb (hB.mem_iff.2 (tw_mem hS hwK))) S)
theorem even_odd_ne (e:Int):(2*e:Int)≠2*e+1:=by omega
theorem tw_swp (e:Int) (S:List Int) (x:Int):tw (e :: S) (swp (2*e) (2*e+1) x)=tw S x:=by
 show tw S (swp _ _ (swp _ _ x))=tw S x
 rw[swp_swp]
theorem euler_le {b:Int→Int} {B:List (List Int)} {K:List Int} (hb:Rings b B) (hB:B.flatten.Perm K):∀ {S:List Int},(∀ e∈S,2*e∈K∧2*e+1∈K) →
  ∀ {C:List (List Int)},Rings (fun x=>b (tw S x)) C→C.flatten.Perm K→B.length+C.length≤2*cnt (Gen (Same B) S) K+S.length
 | [],_,C,hC,hCK=>by
  have h1:=Rings.count hb hC (hB.trans hCK.symm)
  have h2:cnt (Gen (Same B) []) K=B.length:=cnt_same hb hB
  rw[h2,List.length_nil]
  omega
 | e :: S,hS,C,hC,hCK=>by
  have hE:=Same.eqv hb.nodup
  have hS':∀ f∈S,2*f∈K∧2*f+1∈K:=fun f hf=>hS f (List.mem_cons_of_mem _ hf)
  obtain⟨he1,he2⟩:=hS e (by simp)
  obtain⟨D,hD,hDC,hcase⟩:=hC.swap2 (hCK.mem_iff.2 he1) (hCK.mem_iff.2 he2) (even_odd_ne e)
  have hD':Rings (fun x=>b (tw S x)) D:=hD.congr fun x _=>by show b (tw (e :: S) (swp _ _ x))=_;rw[tw_swp]
  have ih:=euler_le hb hB hS' hD' (hDC.trans hCK)
  have hj:=cnt_join_le (Gen.eqv hE S) (K:=K) he1 he2
  have hg:cnt (Gen (Same B) (e :: S)) K=cnt (Jn (Gen (Same B) S) (2*e) (2*e+1)) K:=rfl
  rw[hg,List.length_cons]
  rcases hcase with ⟨h1,_⟩ | ⟨h1,c,hc,h2,h3⟩
  ·omega
  have hs:=same_gen hb hB hS' hD' (hDC.trans hCK) (Or.inr ⟨c,hc,h2,h3⟩)
  rw[cnt_join_same (Gen.eqv hE S) hs]
  omega
structure Cut (b:Int→Int) (B:List (List Int)) (K:List Int) (R:Int→Int→Prop) (T S:List Int):Prop where
 out:∀ e∈T,2*e∈K∧2*e+1∈K
 kept:∀ e∈S,2*e∈K∧2*e+1∈K
 left:∀ x∈K,Gen R T x (b (tw S x))
 flat:∀ C,Rings (fun x=>b (tw S x)) C→C.flatten.Perm K→B.length+C.length=2*cnt (Gen (Same B) S) K+S.length∧cnt (Gen (Same B) S) K+cnt (Gen R T) K=C.length+1
structure RunOk (n:Nat) (R:Int→Int→Prop) (c:St × List Int) (met:List Int):Prop where
 ok:c.1.Ok
 all:c.1.all=upTo n
 met:c.2=met
 rel:∀ x y,c.1.rel x y↔R x y
end Go.Proofs.Ytbkjljffnkdcjaa.Plain
