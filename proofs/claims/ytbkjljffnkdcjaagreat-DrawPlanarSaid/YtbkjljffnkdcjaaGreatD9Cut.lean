/- Counting classes, and ah taken out of a map of turns: Euler's formula. No program here. -/
import Derived.Test.YtbkjljffnkdcjaaGreatD9Or9
open List renaming mem_cons→Qa,mem_cons_of_mem→Qb,mem_reverse→Qd,mem_flatten→Qf,pairwise_cons→Qg,eq_nil_or_concat→Qh,length_pos_of_mem→Qi,mem_of_mem_erase→Qj,concat_eq_append→Qk,mem_erase_of_ne→Ql,nodup_append→Qm,length_erase_of_mem→Qn,length_cons→Qo,filter_cons_of_pos→Qp,length_eq_zero_iff→Qq,mem_map→Qr,ne_nil_of_mem→Qs,filter_append→Qt,append_assoc→Qu,take_length→Qw,length_nil→Qy,Nodup→QA
open Or renaming inr→Qc,inl→Qe
open Nat renaming mod_eq_of_lt→Qv,le_antisymm→Qx,le_refl→Qz
namespace Go.Proofs.YtbkjljffnkdcjaaGreat.Plain
structure qw (R:Int->Int->Prop):Prop where
 refl:∀ x,R x x
 symm:∀ {x y},R x y->R y x
 trans:∀ {x y z},R x y->R y z->R x z
structure SM (R:Int->Int->Prop) (K T:List Int):Prop where
 sub:∀ t∈T,t∈K
 all:∀ x∈K,∃ t∈T,R x t
 one:T.Pairwise fun a b=>¬ R a b
theorem BN {R:Int->Int->Prop} (h:qw R):∀ {T T':List Int},(T.Pairwise fun a b=>¬ R a b)->(∀ t∈T,∃ t'∈T',R t t')->T.length<=T'.length
 | [],_,_,_=>Nat.zero_le _
 | a :: T,T',hp,hm=>by
  rw[Qg] at hp;obtain⟨b,hb,lT⟩:=hm a (by simp);have h1:=BN h (T:=T) (T':=T'.erase b) hp.2 (fun t ht=>by
   obtain⟨c,hc,zk⟩:=hm t (by simp[ht]);refine⟨c,?_,zk⟩;have bh:c≠b:=fun e=>hp.1 t ht (h.trans lT (h.symm (e ▸ zk)));exact (Ql bh).2 hc)
  have h2:=Qn hb;have h3:0<T'.length:=Qi hb;rw[Qo];omega
open Classical in
noncomputable def mG (R:Int->Int->Prop):List Int->List Int
 | []=>[]
 | x :: K=>if ∃ y∈mG R K,R x y then mG R K else x :: mG R K
noncomputable def dK (R:Int->Int->Prop) (K:List Int):Nat:=(mG R K).length
theorem oU {R:Int->Int->Prop} (h:qw R):∀ K:List Int,SM R K (mG R K)
 | []=>⟨by simp[mG],by simp,by simp[mG]⟩
 | x :: K=>by
  have ih:=oU h K;by_cases hx:∃ y∈mG R K,R x y
  ·have e:mG R (x :: K)=mG R K:=by simp only[mG];rw[if_pos hx]
   rw[e];refine⟨fun t ht=>Qb _ (ih.sub t ht),fun y hy=>?_,ih.one⟩;rcases Qa.1 hy with rfl | hy
   ·exact hx
   exact ih.all y hy
  have e:mG R (x :: K)=x :: mG R K:=by simp only[mG];rw[if_neg hx]
  rw[e];refine⟨fun t ht=>?_,fun y hy=>?_,?_⟩
  ·rcases Qa.1 ht with rfl | ht
   ·simp
   exact Qb _ (ih.sub t ht)
  ·rcases Qa.1 hy with rfl | hy
   ·exact⟨y,by simp,h.refl y⟩
   obtain⟨t,ht,hr⟩:=ih.all y hy;exact⟨t,Qb _ ht,hr⟩
  rw[Qg];exact⟨fun y hy hr=>hx ⟨y,hy,hr⟩,ih.one⟩
theorem Pf {R:Int->Int->Prop} (h:qw R) {K T:List Int} (hT:SM R K T):dK R K=T.length:=by
 have h1:=oU h K;exact Qx (BN h h1.one fun t ht=>hT.all t (h1.sub t ht)) (BN h hT.one fun t ht=>h1.all t (hT.sub t ht))
theorem Dh {R Q:Int->Int->Prop} (hR:qw R) (hQ:qw Q) {K:List Int} (h:∀ x∈K,∀ y∈K,R x y->Q x y):dK Q K<=dK R K:=by
 have h1:=oU hR K;have h2:=oU hQ K;refine BN hQ h2.one fun t ht=>?_;obtain⟨u,hu,hr⟩:=h1.all t (h2.sub t ht);exact⟨u,hu,h t (h2.sub t ht) u (h1.sub u hu) hr⟩
theorem Mb {R Q:Int->Int->Prop} (hR:qw R) (hQ:qw Q) {K:List Int} (h:∀ x∈K,∀ y∈K,R x y↔Q x y):dK R K=dK Q K :=
 Qx (Dh hQ hR fun x hx y hy=>(h x hx y hy).2) (Dh hR hQ fun x hx y hy=>(h x hx y hy).1)
theorem H8 {R:Int->Int->Prop} (h:qw R) {K:List Int} (ht:∀ x∈K,∀ y∈K,R x y):dK R K<=1:=by
 have hr:=oU h K;unfold dK
 match e:mG R K with
 | []=>simp
 | [x]=>simp
 | x :: y :: l =>
  rw[e] at hr;exact absurd (ht x (hr.sub x (by simp)) y (hr.sub y (by simp))) ((Qg.1 hr.one).1 y (by simp))
def Jn (R:Int->Int->Prop) (a b x y:Int):Prop:=R x y\/(R x a/\R b y)\/(R x b/\R a y)
theorem Jn.eqv {R:Int->Int->Prop} (h:qw R) (a b:Int):qw (Jn R a b):=by
 refine⟨fun x=>Qe (h.refl x),fun {x y} fW=>?_,fun {x y z} fW qn=>?_⟩
 ·rcases fW with q | ⟨q,r⟩ | ⟨q,r⟩
  ·exact Qe (h.symm q)
  ·exact Qc (Qc ⟨h.symm r,h.symm q⟩)
  exact Qc (Qe ⟨h.symm r,h.symm q⟩)
 rcases fW with q | ⟨q,r⟩ | ⟨q,r⟩ <;> rcases qn with s | ⟨s,t⟩ | ⟨s,t⟩
 ·exact Qe (h.trans q s)
 ·exact Qc (Qe ⟨h.trans q s,t⟩)
 ·exact Qc (Qc ⟨h.trans q s,t⟩)
 ·exact Qc (Qe ⟨q,h.trans r s⟩)
 ·exact Qc (Qe ⟨q,t⟩)
 ·exact Qe (h.trans q t)
 ·exact Qc (Qc ⟨q,h.trans r s⟩)
 ·exact Qe (h.trans q t)
 exact Qc (Qc ⟨q,t⟩)
theorem Hq {R:Int->Int->Prop} (h:qw R):∀ {T:List Int},(T.Pairwise fun a b=>¬ R a b)->∀ {u w:Int},u∈T->w∈T->R u w->u=w
 | [],_,_,_,hu,_,_=>by simp at hu
 | a :: T,hp,u,w,hu,hw,hr=>by
  rw[Qg] at hp;rcases Qa.1 hu with e1 | hu <;> rcases Qa.1 hw with e2 | hw
  ·rw[e1,e2]
  ·exact absurd (e1 ▸ hr) (hp.1 w hw)
  ·exact absurd (h.symm (e2 ▸ hr)) (hp.1 u hu)
  exact Hq h hp.2 hu hw hr
theorem pV {R:Int->Int->Prop} (h:qw R) {K:List Int} {a b:Int} (lT:R a b):dK (Jn R a b) K=dK R K:=by
 refine Mb (Jn.eqv h a b) h fun x _ y _=>⟨fun q=>?_,Qe⟩;rcases q with q | ⟨q,r⟩ | ⟨q,r⟩
 ·exact q
 ·exact h.trans (h.trans q lT) r
 exact h.trans (h.trans q (h.symm lT)) r
theorem Pa {R:Int->Int->Prop} (h:qw R) {K:List Int} {a b:Int} (ha:a∈K) (hb:b∈K) (lT:¬ R a b):dK (Jn R a b) K+1=dK R K:=by
 have hr:=oU h K;obtain⟨s,hs,has⟩:=hr.all a ha;obtain⟨t,ht,BV⟩:=hr.all b hb;have uP:s≠t:=fun e=>lT (h.trans has (h.symm (e ▸ BV)));have fs:(mG R K).Nodup:=hr.one.imp fun {a b} (hn:¬ R a b) (e:a=b)=>hn (by rw[e];exact h.refl _);have hT:SM (Jn R a b) K ((mG R K).erase t):=by
  refine⟨fun u hu=>hr.sub u (Qj hu),fun x hx=>?_,?_⟩
  ·obtain⟨u,hu,hxu⟩:=hr.all x hx
   by_cases e:u=t
   ·subst e
    exact⟨s,(Ql uP).2 hs,Qc (Qc ⟨h.trans hxu (h.symm BV),has⟩)⟩
   exact⟨u,(Ql e).2 hu,Qe hxu⟩
  refine (hr.one.sublist List.erase_sublist).imp_of_mem fun {u w} hu hw hn hj=>?_;have ZI:u≠t:=fun e=>by rw[e] at hu;exact (QA.not_mem_erase fs) hu
  have Xr:w≠t:=fun e=>by rw[e] at hw;exact (QA.not_mem_erase fs) hw
  rcases hj with q | ⟨q,r⟩ | ⟨q,r⟩
  ·exact hn q
  ·exact Xr (Hq h hr.one (Qj hw) ht (h.trans (h.symm r) BV))
  exact ZI (Hq h hr.one (Qj hu) ht (h.trans q BV))
 rw[Pf (Jn.eqv h a b) hT,Qn ht];have:=Qi ht;show (mG R K).length - 1+1=(mG R K).length;omega
theorem CY {R:Int->Int->Prop} (h:qw R) {K:List Int} {a b:Int} (ha:a∈K) (hb:b∈K):dK R K<=dK (Jn R a b) K+1/\dK (Jn R a b) K<=dK R K:=by
 by_cases lT:R a b
 ·rw[pV h lT];omega
 have:=Pa h ha hb lT;omega
def nU (R:Int->Int->Prop):List Int->Int->Int->Prop
 | []=>R
 | e :: E=>Jn (nU R E) (2*e) (2*e+1)
theorem nU.eqv {R:Int->Int->Prop} (h:qw R):∀ E,qw (nU R E)
 | []=>h
 | _ :: E=>Jn.eqv (nU.eqv h E) _ _
theorem nU.base {R:Int->Int->Prop} {x y:Int} (h:R x y):∀ E,nU R E x y
 | []=>h
 | _ :: E=>Qe (nU.base h E)
theorem nU.BU {R:Int->Int->Prop} (h:qw R) {e:Int}:∀ {E:List Int},e∈E->nU R E (2*e) (2*e+1)
 | [],he=>by simp at he
 | a :: E,he=>by
  rcases Qa.1 he with rfl | he
  ·exact Qc (Qe ⟨(nU.eqv h E).refl _,(nU.eqv h E).refl _⟩)
  exact Qe (nU.BU h he)
def Same (C:List (List Int)) (x y:Int):Prop:=x=y\/∃ c∈C,x∈c/\y∈c
theorem dP:∀ {C:List (List Int)},C.flatten.Nodup->∀ {l m:List Int} {x:Int},l∈C->m∈C->x∈l->x∈m->l=m
 | [],_,_,_,_,hl,_,_,_=>by simp at hl
 | c :: C,hn,l,m,x,hl,hm,h1,h2=>by
  rw[List.flatten_cons,Qm] at hn;rcases Qa.1 hl with e1 | hl <;> rcases Qa.1 hm with e2 | hm
  ·rw[e1,e2]
  ·exact absurd rfl (hn.2.2 x (e1 ▸ h1) x (Qf.2 ⟨m,hm,h2⟩))
  ·exact absurd rfl (hn.2.2 x (e2 ▸ h2) x (Qf.2 ⟨l,hl,h1⟩))
  exact dP hn.2.1 hl hm h1 h2
theorem Same.eqv {C:List (List Int)} (hn:C.flatten.Nodup):qw (Same C):=by
 refine⟨fun x=>Qe rfl,fun {x y} h=>?_,fun {x y z} h k=>?_⟩
 ·rcases h with rfl | ⟨c,hc,h1,h2⟩
  ·exact Qe rfl
  exact Qc ⟨c,hc,h2,h1⟩
 rcases h with rfl | ⟨c,hc,h1,h2⟩
 ·exact k
 rcases k with rfl | ⟨d,hd,k1,k2⟩
 ·exact Qc ⟨c,hc,h1,h2⟩
 obtain rfl:=dP hn hc hd h2 k1;exact Qc ⟨c,hc,h1,k2⟩
theorem s9 {Q:Int->Int->Prop} (hQ:qw Q) {p:Int->Int} {z:Int}:∀ {l:List Int} {x:Int},Trail p x l z->(∀ w∈x :: l,Q w (p w))->∀ y∈x :: l,Q x y
 | [],x,_,_,y,hy=>by simp at hy;rw[hy];exact hQ.refl x
 | a :: l,x,h,hs,y,hy=>by
  have e:Q x a:=by rw[<-h.1];exact hs x (by simp)
  rcases Qa.1 hy with rfl | hy
  ·exact hQ.refl y
  exact hQ.trans e (s9 hQ h.2 (fun w hw=>hs w (Qb _ hw)) y hy)
theorem Eh {Q:Int->Int->Prop} (hQ:qw Q) {p:Int->Int} {c:List Int} (h:Ring p c) (hs:∀ w∈c,Q w (p w)):∀ x∈c,∀ y∈c,Q x y:=by
 intro x hx y hy;obtain⟨l,hr,hp⟩:=h.from hx;exact s9 hQ (show Trail p x l x from hr) (fun w hw=>hs w (hp.mem_iff.1 hw)) y (hp.mem_iff.2 hy)
theorem Same.least {Q:Int->Int->Prop} (hQ:qw Q) {p:Int->Int} {C:List (List Int)} (h:bC p C) (hs:∀ w∈C.flatten,Q w (p w)) {x y:Int} (fW:Same C x y):Q x y:=by
 rcases fW with rfl | ⟨c,hc,h1,h2⟩
 ·exact hQ.refl x
 exact Eh hQ (h.ring c hc) (fun w hw=>hs w (Qf.2 ⟨c,hc,hw⟩)) x h1 y h2
theorem Same.step {p:Int->Int} {C:List (List Int)} (h:bC p C) {x:Int} (hx:x∈C.flatten):Same C x (p x):=by
 obtain⟨c,hc,Fw⟩:=Qf.1 hx;exact Qc ⟨c,hc,Fw,((h.ring c hc).l8).mem_iff.1 (Qr.2 ⟨x,Fw,rfl⟩)⟩
theorem Ro {p:Int->Int} {C:List (List Int)} {K:List Int} (h:bC p C) (hp:C.flatten.Perm K):dK (Same C) K=C.length:=by
 have bh:∀ c∈C,c.headD 0∈c:=by
  intro c hc;have:=h.ring c hc;cases c with
  | nil=>exact absurd this (by simp[Ring])
  | cons x l=>simp
 have hT:SM (Same C) K (C.map (·.headD 0)):=by
  refine⟨fun t ht=>?_,fun x hx=>?_,?_⟩
  ·obtain⟨c,hc,rfl⟩:=Qr.1 ht
   exact hp.mem_iff.1 (Qf.2 ⟨c,hc,bh c hc⟩)
  ·obtain⟨c,hc,Fw⟩:=Qf.1 (hp.mem_iff.2 hx)
   exact⟨_,Qr.2 ⟨c,hc,rfl⟩,Qc ⟨c,hc,Fw,bh c hc⟩⟩
  rw[List.pairwise_map];have hpw:=(List.pairwise_flatten.1 h.nodup).2;refine hpw.imp_of_mem fun {c d} hc hd hn hs=>?_;rcases hs with e | ⟨m,hm,h1,h2⟩
  ·exact hn _ (bh c hc) _ (bh d hd) e
  obtain rfl:=dP h.nodup hm hc h1 (bh c hc);exact hn _ h2 _ (bh d hd) rfl
 rw[Pf (Same.eqv h.nodup) hT,List.length_map]
def tw:List Int->Int->Int
 | [],d=>d
 | e :: S,d=>tw S (swp (2*e) (2*e+1) d)
theorem TB {a b x:Int} {K:List Int} (ha:a∈K) (hb:b∈K) (hx:x∈K):swp a b x∈K:=by
 unfold swp;split
 ·exact hb
 split
 ·exact ha
 exact hx
theorem OS {K:List Int}:∀ {S:List Int},(∀ e∈S,2*e∈K/\2*e+1∈K)->∀ {x:Int},x∈K->tw S x∈K
 | [],_,_,hx=>hx
 | e :: S,h,x,hx=>OS (fun f hf=>h f (Qb _ hf)) (TB (h e (by simp)).1 (h e (by simp)).2 hx)
theorem TC {R:Int->Int->Prop} (h:qw R) (e:Int) (E:List Int) (x:Int):nU R (e :: E) x (swp (2*e) (2*e+1) x):=by
 have hE:=nU.eqv h (e :: E);have he:=nU.BU h (e:=e) (E:=e :: E) (by simp);unfold swp;split
 ·rename_i q;rw[q];exact he
 split
 ·rename_i q;rw[q];exact hE.symm he
 exact hE.refl x
theorem Hc {R:Int->Int->Prop} (h:qw R):∀ (S:List Int) (x:Int),nU R S x (tw S x)
 | [],x=>h.refl x
 | e :: S,x=>(nU.eqv h (e :: S)).trans (TC h e S x) (Qe (Hc h S _))
theorem P4 {b:Int->Int} {B C:List (List Int)} {K S:List Int} (hb:bC b B) (hB:B.flatten.Perm K) (hS:∀ e∈S,2*e∈K/\2*e+1∈K)
  (hC:bC (fun x=>b (tw S x)) C) (N4:C.flatten.Perm K) {x y:Int} (h:Same C x y):nU (Same B) S x y:=by
 have hE:=Same.eqv hb.nodup;refine Same.least (nU.eqv hE S) hC (fun w hw=>?_) h;have hwK:=N4.mem_iff.1 hw;exact (nU.eqv hE S).trans (Hc hE S w) (nU.base (Same.step hb (hB.mem_iff.2 (OS hS hwK))) S)
theorem Df (e:Int):(2*e:Int)≠2*e+1:=by omega
theorem XH (e:Int) (S:List Int) (x:Int):tw (e :: S) (swp (2*e) (2*e+1) x)=tw S x:=by
 show tw S (swp _ _ (swp _ _ x))=tw S x;rw[J1]
theorem CO {b:Int->Int} {B:List (List Int)} {K:List Int} (hb:bC b B) (hB:B.flatten.Perm K):∀ {S:List Int},(∀ e∈S,2*e∈K/\2*e+1∈K) ->
  ∀ {C:List (List Int)},bC (fun x=>b (tw S x)) C->C.flatten.Perm K->B.length+C.length<=2*dK (nU (Same B) S) K+S.length
 | [],_,C,hC,N4=>by
  have h1:=bC.count hb hC (hB.trans N4.symm);have h2:dK (nU (Same B) []) K=B.length:=Ro hb hB;rw[h2,Qy];omega
 | e :: S,hS,C,hC,N4=>by
  have hE:=Same.eqv hb.nodup;have aK:∀ f∈S,2*f∈K/\2*f+1∈K:=fun f hf=>hS f (Qb _ hf);obtain⟨uF,JU⟩:=hS e (by simp);obtain⟨D,hD,hDC,J9⟩:=hC.VP (N4.mem_iff.2 uF) (N4.mem_iff.2 JU) (Df e);have hD':bC (fun x=>b (tw S x)) D:=hD.congr fun x _=>by show b (tw (e :: S) (swp _ _ x))=_;rw[XH]
  have ih:=CO hb hB aK hD' (hDC.trans N4);have hj:=CY (nU.eqv hE S) (K:=K) uF JU;have hg:dK (nU (Same B) (e :: S)) K=dK (Jn (nU (Same B) S) (2*e) (2*e+1)) K:=rfl;rw[hg,Qo];rcases J9 with ⟨h1,_⟩ | ⟨h1,c,hc,h2,h3⟩
  ·omega
  have hs:=P4 hb hB aK hD' (hDC.trans N4) (Qc ⟨c,hc,h2,h3⟩);rw[pV (nU.eqv hE S) hs];omega
structure Cut (b:Int->Int) (B:List (List Int)) (K:List Int) (R:Int->Int->Prop) (T S:List Int):Prop where
 out:∀ e∈T,2*e∈K/\2*e+1∈K
 kept:∀ e∈S,2*e∈K/\2*e+1∈K
 left:∀ x∈K,nU R T x (b (tw S x))
 flat:∀ C,bC (fun x=>b (tw S x)) C->C.flatten.Perm K->B.length+C.length=2*dK (nU (Same B) S) K+S.length/\dK (nU (Same B) S) K+dK (nU R T) K=C.length+1
structure aox (n:Nat) (R:Int->Int->Prop) (c:St × List Int) (met:List Int):Prop where
 ok:c.1.Ok
 all:c.1.all=lH n
 met:c.2=met
 rel:∀ x y,c.1.rel x y↔R x y
theorem W0:∀ {S:List Int},S.Nodup->∀ x,tw S x=if x / 2∈S then aE x else x
 | [],_,x=>by simp[tw]
 | e :: S,h,x=>by
  rw[List.nodup_cons] at h;show tw S (swp (2*e) (2*e+1) x)=_;rw[W0 h.2];by_cases h1:x=2*e
  ·subst h1
   have a1:(2*e+1) / 2=e:=by omega
   have a2:2*e / 2=e:=by omega
   rw[swp_left,a1,a2,if_neg h.1,if_pos (by simp)];unfold aE;rw[if_pos (by omega)]
  by_cases h2:x=2*e+1
  ·subst h2
   have a1:(2*e+1) / 2=e:=by omega
   have a2:2*e / 2=e:=by omega
   rw[swp_right,a1,a2,if_neg h.1,if_pos (by simp)];unfold aE;rw[if_neg (by omega)];omega
  rw[eM h1 h2];have bh:x / 2≠e:=by omega
  by_cases h3:x / 2∈S
  ·rw[if_pos h3,if_pos (by simp[h3])]
  rw[if_neg h3,if_neg (by simp[h3,bh])]
theorem bP.congr {g:Gr} {p q:Pt} {s a b:Int} (he:p.e=q.e) (h:bP g p s a b):bP g q s a b:=by
 induction h with
 | here=>exact .here
 | step _ hn hs ih =>
  obtain⟨e,h1,h2⟩:=hn;exact ih.step ⟨e,he ▸ h1,h2⟩ hs
def ground (g:Gr) (p:Pt) (aa:List (List Int)) (U:List Int):List Int:=leaving g p U++(U.filter fun v=>(aI aa v).isEmpty).map fun v=>-1 - v
def bef (g:Gr) (aa:List (List Int)) (d:Int):Int:=if d<0 then d else before g aa d
structure ahJ (g:Gr) (p:Pt) (U:List Int):Prop where
 nodup:U.Nodup
 sub:∀ v∈U,v∈p.v
 closed:B6 g p U
noncomputable def cls (g:Gr) (p:Pt) (aa same:List (List Int)) (f:bR):Int:=numOf (MK g p aa same) f.1
theorem nE:∀ {l m:List Int},l.Pairwise (·<·)->m.Pairwise (·<·)->(∀ x,x∈l↔x∈m)->l=m
 | [],[],_,_,_=>rfl
 | [],y :: m,_,_,h=>by have:=(h y).2 (by simp);simp at this
 | x :: l,[],_,_,h=>by have:=(h x).1 (by simp);simp at this
 | x :: l,y :: m,h1,h2,h=>by
  rw[Qg] at h1 h2;have e:x=y:=by
   rcases Qa.1 ((h x).1 (by simp)) with q | q
   ·exact q
   rcases Qa.1 ((h y).2 (by simp)) with r | r
   ·exact r.symm
   have:=h1.1 y r;have:=h2.1 x q;omega
  subst e;rw[nE h1.2 h2.2 fun z=>?_];constructor
  ·intro hz
   rcases Qa.1 ((h z).1 (by simp[hz])) with q | q
   ·have:=h1.1 z hz;omega
   exact q
  intro hz;rcases Qa.1 ((h z).2 (by simp[hz])) with q | q
  ·have:=h2.1 z hz;omega
  exact q
def back (l:List Int) (u:Int):List Int:=(l.take (l.idxOf u+1)).reverse++(l.drop (l.idxOf u+1)).reverse
theorem jD {a c:List Int} {u:Int} (h:u ∉ a):(a++u :: c).idxOf u=a.length:=by
 rw[List.idxOf_append,if_neg h];simp
theorem ie {a c:List Int} {u:Int} (h:u ∉ a):back (a++u :: c) u=u :: (a.reverse++c.reverse):=by
 unfold back;rw[jD h];have e1:(a++u :: c).take (a.length+1)=a++[u]:=by
  rw[show a++u :: c=(a++[u])++c by simp];exact List.take_left' (by simp)
 have e2:(a++u :: c).drop (a.length+1)=c:=by
  rw[show a++u :: c=(a++[u])++c by simp];exact List.drop_left' (by simp)
 rw[e1,e2];simp
theorem jF {l:List Int} {u:Int} (h:u∈l):∃ a c,l=a++u :: c/\u ∉ a:=by
 induction l with
 | nil=>simp at h
 | cons x l ih =>
  by_cases e:u=x
  ·exact⟨[],l,by rw[e];rfl,by simp⟩
  obtain⟨a,c,e1,h1⟩:=ih ((Qa.1 h).resolve_left e);exact⟨x :: a,c,by rw[e1];rfl,by simp[e,h1]⟩
theorem fK {a c:List Int} {u:Int} (h:u ∉ a):ahead (a++u :: c) u=(a.reverse++(c.reverse++[u])).getD 0 0:=by
 unfold ahead;rw[jD h,show (a++u :: c).length=a.length+c.length+1 by simp;omega];rcases Qh a with rfl | ⟨a,z,rfl⟩
 ·rcases Qh c with rfl | ⟨c,y,rfl⟩
  ·simp
  have e1:([]:List Int).length+(([]:List Int).length+(c.concat y).length+1) - 1=c.length+1:=by simp
  have e2:([]:List Int).length+(c.concat y).length+1=c.length+2:=by simp
  rw[e1,e2,Qv (by omega)];simp[List.getD]
 simp only[Qk,List.length_append,Qo,Qy,List.reverse_append,List.reverse_cons,List.reverse_nil];rw[show a.length+(0+1)+(a.length+(0+1)+c.length+1) - 1=a.length+(a.length+(0+1)+c.length+1) by omega,Nat.add_mod_right,Qv (by omega)];simp[List.getD]
theorem yc {l:List Int} (hn:l.Nodup) {u:Int} (hu:u∈l):∃ t,back l u=u :: t/\back l (ahead l u)=t++[u]:=by
 obtain⟨a,c,rfl,I4⟩:=jF hu;refine⟨a.reverse++c.reverse,ie I4,?_⟩;rw[fK I4];rcases Qh a with rfl | ⟨a,z,rfl⟩
 ·rcases Qh c with rfl | ⟨c,y,rfl⟩
  ·have h0:=ie (a:=[]) (c:=[]) (u:=u) (by simp)
   simpa using h0
  have hy:y ∉ u :: c:=by
   rw[List.nil_append,Qk,<-List.cons_append,Qm] at hn;exact fun h=>hn.2.2 y h y (by simp) rfl
  have e:([]:List Int).reverse++((c.concat y).reverse++[u])=y :: (c.reverse++[u]):=by simp
  rw[e];show back ([]++u :: c.concat y) y=_;have h2:=ie (c:=[]) hy;rw[show []++u :: c.concat y=(u :: c)++[y] by simp,h2];simp
 have hz:z ∉ a:=by
  rw[Qk,Qu,Qm] at hn;exact fun h=>hn.2.2 z h z (by simp) rfl
 have e:(a.concat z).reverse++(c.reverse++[u])=z :: (a.reverse++(c.reverse++[u])):=by simp
 rw[e];show back (a.concat z++u :: c) z=_;have h2:=ie (c:=u :: c) hz;rw[show a.concat z++u :: c=a++z :: (u :: c) by simp,h2];simp
theorem Kr {l:List Int} {u:Int} (hu:u∈l):∃ t,back l u=u :: t:=by
 obtain⟨a,c,rfl,I4⟩:=jF hu;exact⟨_,ie I4⟩
theorem Oo {l:List Int} {u x:Int} (hu:u∈l):x∈back l u↔x∈l:=by
 obtain⟨a,c,rfl,I4⟩:=jF hu;rw[ie I4];simp only[Qa,List.mem_append,Qd];constructor
 ·rintro (h | h | h)
  ·exact Qc (Qe h)
  ·exact Qe h
  exact Qc (Qc h)
 rintro (h | h | h)
 ·exact Qc (Qe h)
 ·exact Qe h
 exact Qc (Qc h)
theorem po {l:List Int} (hn:l.Nodup) {u:Int} (hu:u∈l):ahead l u∈l:=by
 have h:=jl hn (Qs hu);exact Qd.1 (h.l8.mem_iff.1 (Qr.2 ⟨u,Qd.2 hu,rfl⟩))
theorem A7 {P:Int->Bool} {l:List Int} {z:Int} (h:l.find? P=some z):(l.filter P).getD 0 0=z:=by
 rw[<-List.head?_filter] at h;cases e:l.filter P with
 | nil=>rw[e] at h;cases h
 | cons a m=>rw[e] at h;cases h;rfl
theorem FX {l:List Int} (hn:l.Nodup) {P:Int->Bool} {d:Int} (hd:d∈l) (hp:P d=true):(back l (ahead l d)).find? P=some (ahead (l.filter P) d):=by
 obtain⟨a,c,rfl,ZD⟩:=jF hd;obtain⟨t,e1,e2⟩:=yc hn hd;rw[ie ZD] at e1;obtain rfl:a.reverse++c.reverse=t:=by simpa using e1
 rw[e2];have e3:(a++d :: c).filter P=a.filter P++d :: c.filter P:=by rw[Qt,Qp hp]
 have ak6:d ∉ a.filter P:=fun h=>ZD (List.mem_filter.1 h).1;rw[e3,fK ak6];have hs:((a.reverse++c.reverse++[d]).find? P).isSome=true:=by
  rw[List.find?_isSome];exact⟨d,by simp,hp⟩
 obtain⟨z,hz⟩:=Option.isSome_iff_exists.1 hs;rw[hz];have h4:=A7 hz;rw[<-h4]
 congr 2
 simp only[Qt,List.filter_reverse,Qu];rw[Qp hp];simp
theorem NR {l:List Int} (hn:l.Nodup) {P:Int->Bool} {R:Int->Int->Prop} (hR:qw R) (h:∀ y∈l,P y=false->R y (ahead l y)) {u:Int} (hu:u∈l):R u (((back l u).find? P).getD (l.getD 0 0)):=by
 cases e:(back l u).find? P with
 | none =>
  have gM:∀ y∈l,P y=false:=fun y hy=>by
   have:=List.find?_eq_none.1 e y ((Oo hu).2 hy);simpa using this
  have hr:=Eh hR (jl hn (Qs hu)) (fun w hw=>h w (Qd.1 hw) (gM w (Qd.1 hw)));have hl:0<l.length:=Qi hu;exact hr u (Qd.2 hu) _ (Qd.2 (aZ hl))
 | some z =>
  obtain⟨hz,s,r,e2,hs⟩:=List.find?_eq_some_iff_append.1 e;show R u z;clear e
  induction s generalizing u r with
  | nil =>
   obtain⟨t,e3⟩:=Kr hu;rw[e3] at e2;have:u=z:=by simpa using (List.cons.inj e2).1
   rw[this];exact hR.refl z
  | cons y s ih =>
   obtain⟨t,e3,e4⟩:=yc hn hu;rw[e3] at e2;obtain⟨rfl,e5⟩:=List.cons.inj e2;have hy:P u=false:=by have:=hs u (by simp);simpa using this
   rw[e5] at e4;exact hR.trans (h u hu hy) (ih (po hn hu) (r:=r++[u]) (by rw[e4];simp) (fun x hx=>hs x (Qb _ hx)))
structure avY (g:Gr) (p q:Pt) (aa:List (List Int)):Prop where
 pe:p.err g=0
 qe:q.err g=0
 js:aT g p aa
 avl:∀ e∈q.e,e∈p.e
 auY:∀ v∈q.v,v∈p.v
section
variable {g : Gr} {p q : Pt} {aa : List (List Int)}
end
section
variable {g : Gr} {p q : Pt} {aa : List (List Int)}
structure ahB (g:Gr) (p q:Pt) (aa:List (List Int)) (C:List (List Int)):Prop where
 rings:bC (fun x=>bef g aa (tw q.e x)) C
 all:C.flatten.Perm (ground g p aa p.v)
end
section
variable {g : Gr} {p q : Pt} {aa same : List (List Int)}
end
end Go.Proofs.YtbkjljffnkdcjaaGreat.Plain
namespace Go.Proofs.YtbkjljffnkdcjaaGreat
open Go.RowKit Go.Maps
theorem Ju (va vb:Value) (a b:List Int) (w:World) (ha:aJ w va a) (hb:aJ w vb b) :
  Calls Tryz.prog 142 #[va,vb] w fun e w'=>e=.returned (.bool (decide (a=b)))/\ai [] w w':=by
 obtain⟨ao,ac,rfl,-,KZ,Sp⟩:=ha;obtain⟨bo,bc,rfl,-,vD,rR⟩:=hb;by_cases hl:a.length=b.length
 ·by_cases h0:a=[]
  ·subst h0
   have Cd:b=[]:=Qq.1 hl.symm;subst Cd;refine (Tryz.slices_Equal_int_empty ao bo ac 0 bc w (by decide)).mono ?_;rintro e w' ⟨rfl,rfl⟩;exact⟨rfl,ai.refl _ _⟩
  have Cd:b≠[]:=fun e=>h0 (Qq.1 (by rw[hl,e];rfl));obtain⟨ba,oa,rfl,ca⟩:=Sp h0;obtain⟨bb,ob,rfl,cb⟩:=rR Cd;refine (Tryz.slices_Equal_int ba oa a.length ac bb ob b.length bc a b w (Qz _) (Qz _) (by omega) (by omega) ca cb).mono ?_;rintro e w' ⟨rfl,n,rfl⟩;refine⟨?_,?_⟩
  ·rw[Qw,Qw]
   by_cases h:a=b
   ·subst h;simp
   have h1:(a==b)=false:=beq_eq_false_iff_ne.2 h;rw[h1,decide_eq_false (show ¬ a=b from h)]
  exact (ai.refl [] w).drewN _
 refine (Tryz.slices_Equal_int_lens ao bo a.length ac b.length bc w hl).mono ?_;rintro e w' ⟨rfl,rfl⟩;exact⟨by simp[show ¬ a=b from fun e=>hl (by rw[e])],ai.refl _ _⟩
namespace Plain
end Plain
end Go.Proofs.YtbkjljffnkdcjaaGreat
