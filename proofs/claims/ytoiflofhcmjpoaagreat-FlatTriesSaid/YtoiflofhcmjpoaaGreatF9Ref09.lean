/- law 09's small; the document's And: contracts. Conditions: a graph, parts, a plan, lists that lie in memory and read so. -/
import Derived.Test.YtoiflofhcmjpoaaGreatF9RestS
open List renaming mem_filter→Qa,mem_map→Qb,mem_cons_of_mem→Qc,mem_cons→Qd,mem_flatten→Qe,pairwise_cons→Qh,eq_nil_or_concat→Qi,length_cons→Qj,length_eq_zero_iff→Qk,mem_of_mem_erase→Ql,mem_reverse→Qm,mem_erase_of_ne→Qn,nodup_append→Qo,length_erase_of_mem→Qp,length_pos_of_mem→Qq,concat_eq_append→Qr,ne_nil_of_mem→Qt,flatten_cons→Qu,take_length→Qw,length_nil→Qy,mem_append→Qz,map_cons→QA,Nodup→QB
open Or renaming inl→Qf,inr→Qg
open Nat renaming le_refl→Qs,mod_eq_of_lt→Qv,le_antisymm→Qx
namespace Go.Proofs.YtoiflofhcmjpoaaGreat
open Go.RowKit Go.Maps
namespace Plain
end Plain
namespace Plain
theorem Lp (l:List Int):∀ k,∀ i,i<k->l.getD (LC l k) 0<=l.getD i 0
 | 0,i,hi=>by omega
 | k+1,i,hi=>by
  have ih:=Lp l k;unfold LC;split
  ·rename_i h
   by_cases e:i=k
   ·rw[e];exact Int.le_refl _
   have:=ih i (by omega);omega
  rename_i h;by_cases e:i=k
  ·rw[e];omega
  exact ih i (by omega)
theorem Hg {l:List Int} (h:∀ i,i<l.length->l.getD 0 0<=l.getD i 0):∀ k,k<=l.length->LC l k=0
 | 0,_=>rfl
 | k+1,hk=>by
  have ih:=Hg h k (by omega);have:=h k (by omega);unfold LC;rw[ih,if_neg (by omega)]
theorem ED {l:List Int} (h:∀ k,k<l.length->l.getD 0 0<=l.getD k 0):first l=l:=by
 unfold first;rw[Hg h _ (Qs _)];simp
end Plain
namespace Plain
end Plain
def M7 (w:World) (v:Value) (l:List Int):Prop:=aI w v l/\rE v
namespace Plain
end Plain
end Go.Proofs.YtoiflofhcmjpoaaGreat
namespace Go.Proofs.YtoiflofhcmjpoaaGreat.Plain
variable {R Q G:Int->Int->Prop} {K T S U l:List Int} {a b x y e u d v z:Int} {C B:List (List Int)} {p q:Pt} {g:Gr} {W:List bP} {f:bP} {P:Int->Bool}
structure oS (R:Int->Int->Prop):Prop where
 refl:∀ x,R x x
 symm:∀ {x y},R x y->R y x
 trans:∀ {x y z},R x y->R y z->R x z
structure V6 (R:Int->Int->Prop) (K T:List Int):Prop where
 sub:∀ t∈T,t∈K
 all:∀ x∈K,∃ t∈T,R x t
 one:T.Pairwise λa b=>¬ R a b
theorem Dp {R:Int->Int->Prop} (h:oS R):∀ {T T':List Int},(T.Pairwise λa b=>¬ R a b)->(∀ t∈T,∃ t'∈T',R t t')->T.length<=T'.length
 | [],_,_,_=>Nat.zero_le _
 | a :: T,T',hp,hm=>by
  rw[Qh] at hp;obtain⟨b,hb,qD⟩:=hm a (by simp);have h1:=Dp h (T:=T) (T':=T'.erase b) hp.2 (λt ht=>by
   obtain⟨c,hc,htc⟩:=hm t (by simp[ht]);refine⟨c,?_,htc⟩;have bn:c≠b:=λe=>hp.1 t ht (h.trans qD (h.symm (e ▸ htc)));exact (Qn bn).2 hc)
  have h2:=Qp hb;have h3:0<T'.length:=Qq hb;rw[Qj];omega
open Classical in
noncomputable def nH (R:Int->Int->Prop):List Int->List Int
 | []=>[]
 | x :: K=>if ∃ y∈nH R K,R x y then nH R K else x :: nH R K
noncomputable def et (R:Int->Int->Prop) (K:List Int):Nat:=(nH R K).length
theorem nI {R:Int->Int->Prop} (h:oS R):∀ K:List Int,V6 R K (nH R K)
 | []=>⟨by simp[nH],by simp,by simp[nH]⟩
 | x :: K=>by
  have ih:=nI h K;by_cases hx:∃ y∈nH R K,R x y
  ·have e:nH R (x :: K)=nH R K:=by simp only[nH];rw[if_pos hx]
   rw[e];refine⟨λt ht=>Qc _ (ih.sub t ht),λy hy=>?_,ih.one⟩;rcases Qd.1 hy with rfl | hy
   ·exact hx
   exact ih.all y hy
  have e:nH R (x :: K)=x :: nH R K:=by simp only[nH];rw[if_neg hx]
  rw[e];refine⟨λt ht=>?_,λy hy=>?_,?_⟩
  ·rcases Qd.1 ht with rfl | ht
   ·simp
   exact Qc _ (ih.sub t ht)
  ·rcases Qd.1 hy with rfl | hy
   ·exact⟨y,by simp,h.refl y⟩
   obtain⟨t,ht,hr⟩:=ih.all y hy;exact⟨t,Qc _ ht,hr⟩
  rw[Qh];exact⟨λy hy hr=>hx ⟨y,hy,hr⟩,ih.one⟩
theorem Rh (h:oS R) (hT:V6 R K T):et R K=T.length:=by
 have h1:=nI h K;exact Qx (Dp h h1.one λt ht=>hT.all t (h1.sub t ht)) (Dp h hT.one λt ht=>h1.all t (hT.sub t ht))
theorem GX (hR:oS R) (hQ:oS Q) (h:∀ x∈K,∀ y∈K,R x y->Q x y):et Q K<=et R K:=by
 have h1:=nI hR K;have h2:=nI hQ K;refine Dp hQ h2.one λt ht=>?_;obtain⟨u,hu,hr⟩:=h1.all t (h2.sub t ht);exact⟨u,hu,h t (h2.sub t ht) u (h1.sub u hu) hr⟩
theorem O8 (hR:oS R) (hQ:oS Q) (h:∀ x∈K,∀ y∈K,R x y↔Q x y):et R K=et Q K :=
 Qx (GX hQ hR λx hx y hy=>(h x hx y hy).2) (GX hR hQ λx hx y hy=>(h x hx y hy).1)
theorem sg (h:oS R) (ht:∀ x∈K,∀ y∈K,R x y):et R K<=1:=by
 have hr:=nI h K;unfold et
 match e:nH R K with
 | []=>simp
 | [x]=>simp
 | x :: y :: l =>
  rw[e] at hr;exact absurd (ht x (hr.sub x (by simp)) y (hr.sub y (by simp))) ((Qh.1 hr.one).1 y (by simp))
def Jn (R:Int->Int->Prop) (a b x y:Int):Prop:=R x y\/(R x a/\R b y)\/(R x b/\R a y)
theorem Jn.eqv (h:oS R) (a b:Int):oS (Jn R a b):=by
 refine⟨λx=>Qf (h.refl x),λ{x y} jj=>?_,λ{x y z} jj wX=>?_⟩
 ·rcases jj with q | ⟨q,r⟩ | ⟨q,r⟩
  ·exact Qf (h.symm q)
  ·exact Qg (Qg ⟨h.symm r,h.symm q⟩)
  exact Qg (Qf ⟨h.symm r,h.symm q⟩)
 rcases jj with q | ⟨q,r⟩ | ⟨q,r⟩ <;> rcases wX with s | ⟨s,t⟩ | ⟨s,t⟩
 ·exact Qf (h.trans q s)
 ·exact Qg (Qf ⟨h.trans q s,t⟩)
 ·exact Qg (Qg ⟨h.trans q s,t⟩)
 ·exact Qg (Qf ⟨q,h.trans r s⟩)
 ·exact Qg (Qf ⟨q,t⟩)
 ·exact Qf (h.trans q t)
 ·exact Qg (Qg ⟨q,h.trans r s⟩)
 ·exact Qf (h.trans q t)
 exact Qg (Qg ⟨q,t⟩)
theorem Ks {R:Int->Int->Prop} (h:oS R):∀ {T:List Int},(T.Pairwise λa b=>¬ R a b)->∀ {u w:Int},u∈T->w∈T->R u w->u=w
 | [],_,_,_,hu,_,_=>by simp at hu
 | a :: T,hp,u,w,hu,hw,hr=>by
  rw[Qh] at hp;rcases Qd.1 hu with e1 | hu <;> rcases Qd.1 hw with e2 | hw
  ·rw[e1,e2]
  ·exact absurd (e1 ▸ hr) (hp.1 w hw)
  ·exact absurd (h.symm (e2 ▸ hr)) (hp.1 u hu)
  exact Ks h hp.2 hu hw hr
theorem ru (h:oS R) (qD:R a b):et (Jn R a b) K=et R K:=by
 refine O8 (Jn.eqv h a b) h λx _ y _=>⟨λq=>?_,Qf⟩;rcases q with q | ⟨q,r⟩ | ⟨q,r⟩
 ·exact q
 ·exact h.trans (h.trans q qD) r
 exact h.trans (h.trans q (h.symm qD)) r
theorem Ht (h:oS R) (ha:a∈K) (hb:b∈K) (qD:¬ R a b):et (Jn R a b) K+1=et R K:=by
 have hr:=nI h K;obtain⟨s,hs,has⟩:=hr.all a ha;obtain⟨t,ht,Io⟩:=hr.all b hb;have xC:s≠t:=λe=>qD (h.trans has (h.symm (e ▸ Io)));have gp:(nH R K).Nodup:=hr.one.imp λ{a b} (hn:¬ R a b) (e:a=b)=>hn (by rw[e];exact h.refl _);have hT:V6 (Jn R a b) K ((nH R K).erase t):=by
  refine⟨λu hu=>hr.sub u (Ql hu),λx hx=>?_,?_⟩
  ·obtain⟨u,hu,hxu⟩:=hr.all x hx
   by_cases e:u=t
   ·subst e
    exact⟨s,(Qn xC).2 hs,Qg (Qg ⟨h.trans hxu (h.symm Io),has⟩)⟩
   exact⟨u,(Qn e).2 hu,Qf hxu⟩
  refine (hr.one.sublist List.erase_sublist).imp_of_mem λ{u w} hu hw hn hj=>?_;have hut:u≠t:=λe=>by rw[e] at hu;exact (QB.not_mem_erase gp) hu
  have hwt:w≠t:=λe=>by rw[e] at hw;exact (QB.not_mem_erase gp) hw
  rcases hj with q | ⟨q,r⟩ | ⟨q,r⟩
  ·exact hn q
  ·exact hwt (Ks h hr.one (Ql hw) ht (h.trans (h.symm r) Io))
  exact hut (Ks h hr.one (Ql hu) ht (h.trans q Io))
 rw[Rh (Jn.eqv h a b) hT,Qp ht];have:=Qq ht;show (nH R K).length - 1+1=(nH R K).length;omega
theorem E8 (h:oS R) (ha:a∈K) (hb:b∈K):et R K<=et (Jn R a b) K+1/\et (Jn R a b) K<=et R K:=by
 by_cases qD:R a b
 all_goals grind [ru,Ht]
def gK (R:Int->Int->Prop):List Int->Int->Int->Prop
 | []=>R
 | e :: E=>Jn (gK R E) (2*e) (2*e+1)
theorem gK.eqv (h:oS R):∀ E,oS (gK R E)
 | []=>h
 | _ :: E=>Jn.eqv (gK.eqv h E) _ _
theorem gK.base (h:R x y):∀ E,gK R E x y
 | []=>h
 | _ :: E=>Qf (gK.base h E)
theorem gK.oO (h:oS R) :∀ {E:List Int},e∈E->gK R E (2*e) (2*e+1)
 | [],he=>by simp at he
 | a :: E,he=>by
  rcases Qd.1 he with rfl | he
  ·exact Qg (Qf ⟨(gK.eqv h E).refl _,(gK.eqv h E).refl _⟩)
  exact Qf (gK.oO h he)
theorem gK.least {R Q:Int->Int->Prop} (hQ:oS Q) (h1:∀ x y,R x y->Q x y):∀ {E:List Int},(∀ e∈E,Q (2*e) (2*e+1))->∀ {x y:Int},gK R E x y->Q x y
 | [],_,_,_,h=>h1 _ _ h
 | a :: E,h2,x,y,h=>by
  have ih:∀ {x y:Int},gK R E x y->Q x y:=λ{x y}=>gK.least (R:=R) hQ h1 (E:=E) (λe he=>h2 e (Qc _ he)) (x:=x) (y:=y);rcases h with q | ⟨q,r⟩ | ⟨q,r⟩
  ·exact ih q
  ·exact hQ.trans (hQ.trans (ih q) (h2 a (by simp))) (ih r)
  exact hQ.trans (hQ.trans (ih q) (hQ.symm (h2 a (by simp)))) (ih r)
def Same (C:List (List Int)) (x y:Int):Prop:=x=y\/∃ c∈C,x∈c/\y∈c
theorem eD:∀ {C:List (List Int)},C.flatten.Nodup->∀ {l m:List Int} {x:Int},l∈C->m∈C->x∈l->x∈m->l=m
 | [],_,_,_,_,hl,_,_,_=>by simp at hl
 | c :: C,hn,l,m,x,hl,hm,h1,h2=>by
  rw[Qu,Qo] at hn;rcases Qd.1 hl with e1 | hl <;> rcases Qd.1 hm with e2 | hm
  ·rw[e1,e2]
  ·exact absurd rfl (hn.2.2 x (e1 ▸ h1) x (Qe.2 ⟨m,hm,h2⟩))
  ·exact absurd rfl (hn.2.2 x (e2 ▸ h2) x (Qe.2 ⟨l,hl,h1⟩))
  exact eD hn.2.1 hl hm h1 h2
theorem Same.eqv (hn:C.flatten.Nodup):oS (Same C):=by
 refine⟨λx=>Qf rfl,λ{x y} h=>?_,λ{x y z} h k=>?_⟩
 ·rcases h with rfl | ⟨c,hc,h1,h2⟩
  ·exact Qf rfl
  exact Qg ⟨c,hc,h2,h1⟩
 rcases h with rfl | ⟨c,hc,h1,h2⟩
 ·exact k
 rcases k with rfl | ⟨d,hd,k1,k2⟩
 ·exact Qg ⟨c,hc,h1,h2⟩
 obtain rfl:=eD hn hc hd h2 k1;exact Qg ⟨c,hc,h1,k2⟩
theorem vF {Q:Int->Int->Prop} (hQ:oS Q) {p:Int->Int} {z:Int}:∀ {l:List Int} {x:Int},Trail p x l z->(∀ w∈x :: l,Q w (p w))->∀ y∈x :: l,Q x y
 | [],x,_,_,y,hy=>by simp at hy;rw[hy];exact hQ.refl x
 | a :: l,x,h,hs,y,hy=>by
  have e:Q x a:=by rw[<-h.1];exact hs x (by simp)
  rcases Qd.1 hy with rfl | hy
  ·exact hQ.refl y
  exact hQ.trans e (vF hQ h.2 (λw hw=>hs w (Qc _ hw)) y hy)
theorem GA (hQ:oS Q) {p:Int->Int} {c:List Int} (h:Ring p c) (hs:∀ w∈c,Q w (p w)):∀ x∈c,∀ y∈c,Q x y:=by
 intro x hx y hy;obtain⟨l,hr,hp⟩:=h.from hx;exact vF hQ (show Trail p x l x from hr) (λw hw=>hs w (hp.mem_iff.1 hw)) y (hp.mem_iff.2 hy)
theorem Same.least (hQ:oS Q) {p:Int->Int} (h:bw p C) (hs:∀ w∈C.flatten,Q w (p w)) (jj:Same C x y):Q x y:=by
 rcases jj with rfl | ⟨c,hc,h1,h2⟩
 ·exact hQ.refl x
 exact GA hQ (h.ring c hc) (λw hw=>hs w (Qe.2 ⟨c,hc,hw⟩)) x h1 y h2
theorem Same.step {p:Int->Int} {C:List (List Int)} (h:bw p C) {x:Int} (hx:x∈C.flatten):Same C x (p x):=by
 obtain⟨c,hc,AS⟩:=Qe.1 hx;exact Qg ⟨c,hc,AS,((h.ring c hc).mI).mem_iff.1 (Qb.2 ⟨x,AS,rfl⟩)⟩
theorem zt {p:Int->Int} (h:bw p C) (hp:C.flatten.Perm K):et (Same C) K=C.length:=by
 have bn:∀ c∈C,c.headD 0∈c:=by
  intro c hc;have:=h.ring c hc;cases c with
  | nil=>exact absurd this (by simp[Ring])
  | cons x l=>simp
 have hT:V6 (Same C) K (C.map (·.headD 0)):=by
  refine⟨λt ht=>?_,λx hx=>?_,?_⟩
  ·obtain⟨c,hc,rfl⟩:=Qb.1 ht
   exact hp.mem_iff.1 (Qe.2 ⟨c,hc,bn c hc⟩)
  ·obtain⟨c,hc,AS⟩:=Qe.1 (hp.mem_iff.2 hx)
   exact⟨_,Qb.2 ⟨c,hc,rfl⟩,Qg ⟨c,hc,AS,bn c hc⟩⟩
  rw[List.pairwise_map];have hpw:=(List.pairwise_flatten.1 h.nodup).2;refine hpw.imp_of_mem λ{c d} hc hd hn hs=>?_;rcases hs with e | ⟨m,hm,h1,h2⟩
  ·exact hn _ (bn c hc) _ (bn d hd) e
  obtain rfl:=eD h.nodup hm hc h1 (bn c hc);exact hn _ h2 _ (bn d hd) rfl
 rw[Rh (Same.eqv h.nodup) hT,List.length_map]
def tw:List Int->Int->Int
 | [],d=>d
 | e :: S,d=>tw S (swp (2*e) (2*e+1) d)
theorem Xs (ha:a∈K) (hb:b∈K) (hx:x∈K):swp a b x∈K:=by
 all_goals grind [swp]
theorem S' {K:List Int}:∀ {S:List Int},(∀ e∈S,2*e∈K/\2*e+1∈K)->∀ {x:Int},x∈K->tw S x∈K
 | [],_,_,hx=>hx
 | e :: S,h,x,hx=>S' (λf hf=>h f (Qc _ hf)) (Xs (h e (by simp)).1 (h e (by simp)).2 hx)
theorem Xz (h:oS R) (e:Int) (E:List Int) (x:Int):gK R (e :: E) x (swp (2*e) (2*e+1) x):=by
 have hE:=gK.eqv h (e :: E);have he:=gK.oO h (e:=e) (E:=e :: E) (by simp);unfold swp;split
 ·rename_i q;rw[q];exact he
 split
 ·rename_i q;rw[q];exact hE.symm he
 exact hE.refl x
theorem JU {R:Int->Int->Prop} (h:oS R):∀ (S:List Int) (x:Int),gK R S x (tw S x)
 | [],x=>h.refl x
 | e :: S,x=>(gK.eqv h (e :: S)).trans (Xz h e S x) (Qf (JU h S _))
theorem Sx {b:Int->Int} (hb:bw b B) (hB:B.flatten.Perm K) (hS:∀ e∈S,2*e∈K/\2*e+1∈K)
  (hC:bw (λx=>b (tw S x)) C) (RW:C.flatten.Perm K) (h:Same C x y):gK (Same B) S x y:=by
 have hE:=Same.eqv hb.nodup;refine Same.least (gK.eqv hE S) hC (λw hw=>?_) h;have hwK:=RW.mem_iff.1 hw;exact (gK.eqv hE S).trans (JU hE S w) (gK.base (Same.step hb (hB.mem_iff.2 (S' hS hwK))) S)
theorem Gy (e:Int):(2*e:Int)≠2*e+1:=by omega
theorem abH (e:Int) (S:List Int) (x:Int):tw (e :: S) (swp (2*e) (2*e+1) x)=tw S x:=by
 show tw S (swp _ _ (swp _ _ x))=tw S x;rw[LN]
theorem tW {b:Int->Int} {B:List (List Int)} {K:List Int} (hb:bw b B) (hB:B.flatten.Perm K):∀ {S:List Int},(∀ e∈S,2*e∈K/\2*e+1∈K) ->
  ∀ {C:List (List Int)},bw (λx=>b (tw S x)) C->C.flatten.Perm K->B.length+C.length<=2*et (gK (Same B) S) K+S.length
 | [],_,C,hC,RW=>by
  have h1:=bw.count hb hC (hB.trans RW.symm);have h2:et (gK (Same B) []) K=B.length:=zt hb hB;rw[h2,Qy];omega
 | e :: S,hS,C,hC,RW=>by
  have hE:=Same.eqv hb.nodup;have aB:∀ f∈S,2*f∈K/\2*f+1∈K:=λf hf=>hS f (Qc _ hf);obtain⟨AO,Es⟩:=hS e (by simp);obtain⟨D,hD,hDC,af6⟩:=hC.X3 (RW.mem_iff.2 AO) (RW.mem_iff.2 Es) (Gy e);have hD':bw (λx=>b (tw S x)) D:=hD.congr λx _=>by show b (tw (e :: S) (swp _ _ x))=_;rw[abH]
  have ih:=tW hb hB aB hD' (hDC.trans RW);have hj:=E8 (gK.eqv hE S) (K:=K) AO Es;have hg:et (gK (Same B) (e :: S)) K=et (Jn (gK (Same B) S) (2*e) (2*e+1)) K:=rfl;rw[hg,Qj];rcases af6 with ⟨h1,_⟩ | ⟨h1,c,hc,h2,h3⟩
  ·omega
  have hs:=Sx hb hB aB hD' (hDC.trans RW) (Qg ⟨c,hc,h2,h3⟩);rw[ru (gK.eqv hE S) hs];omega
structure Cut (b:Int->Int) (B:List (List Int)) (K:List Int) (R:Int->Int->Prop) (T S:List Int):Prop where
 out:∀ e∈T,2*e∈K/\2*e+1∈K
 kept:∀ e∈S,2*e∈K/\2*e+1∈K
 left:∀ x∈K,gK R T x (b (tw S x))
 flat:∀ C,bw (λx=>b (tw S x)) C->C.flatten.Perm K->B.length+C.length=2*et (gK (Same B) S) K+S.length/\et (gK (Same B) S) K+et (gK R T) K=C.length+1
structure atM (n:Nat) (R:Int->Int->Prop) (c:St × List Int) (met:List Int):Prop where
 ok:c.1.Ok
 all:c.1.all=mr n
 met:c.2=met
 rel:∀ x y,c.1.rel x y↔R x y
theorem Fk:∀ {S:List Int},S.Nodup->∀ x,tw S x=if x / 2∈S then aH x else x
 | [],_,x=>by simp[tw]
 | e :: S,h,x=>by
  rw[List.nodup_cons] at h;show tw S (swp (2*e) (2*e+1) x)=_;rw[Fk h.2];by_cases h1:x=2*e
  ·subst h1
   have a1:(2*e+1) / 2=e:=by omega
   have a2:2*e / 2=e:=by omega
   rw[swp_left,a1,a2,if_neg h.1,if_pos (by simp)];unfold aH;rw[if_pos (by omega)]
  by_cases h2:x=2*e+1
  ·subst h2
   have a1:(2*e+1) / 2=e:=by omega
   have a2:2*e / 2=e:=by omega
   rw[swp_right,a1,a2,if_neg h.1,if_pos (by simp)];unfold aH;rw[if_neg (by omega)];omega
  rw[fe h1 h2];have bn:x / 2≠e:=by omega
  by_cases h3:x / 2∈S
  ·rw[if_pos h3,if_pos (by simp[h3])]
  rw[if_neg h3,if_neg (by simp[h3,bn])]
theorem bS.congr {s:Int} (he:p.e=q.e) (h:bS g p s a b):bS g q s a b:=by
 induction h with
 | here=>exact .here
 | step _ hn hs ih =>
  obtain⟨e,h1,h2⟩:=hn;exact ih.step ⟨e,he ▸ h1,h2⟩ hs
theorem VC (h:aD g p) (hc:bS g p (-1) (-1) u) (hu:u≠-1):False:=by
 induction hc with
 | here=>exact hu rfl
 | @step u w _ hn hs ih =>
  by_cases e:u = -1
  ·obtain⟨f,hf,q⟩:=hn
   have h1:=h.ends f hf;have h2:=h.vr _ h1.1;have h3:=h.vr _ h1.2
   all_goals grind
  exact ih e
def uU (g:Gr) (d:Int):Int:=if d<0 then -1 - d else g.tail d
def ground (g:Gr) (p:Pt) (aa:List (List Int)) (U:List Int):List Int:=leaving g p U++(U.filter λv=>(ay aa v).isEmpty).map λv=>-1 - v
def WN (g:Gr) (aa:List (List Int)) (d:Int):Int:=if d<0 then d else before g aa d
def lj (aa:List (List Int)) (U:List Int):List (List Int):=((busy aa U).map λv=>(ay aa v).reverse)++(U.filter λv=>(ay aa v).isEmpty).map λv=>[-1 - v]
def l6 (g:Gr) (p:Pt) (U:List Int):List Int:=p.e.filter λe=>decide (g.tail (2*e)∈U)
def tB (g:Gr) (W:List bP) (U:List Int):List (List Int):=(W.filter λf=>decide (f.cu g∈U)).map marks
structure jb (g:Gr) (p:Pt) (U:List Int):Prop where
 nodup:U.Nodup
 sub:∀ v∈U,v∈p.v
 closed:yw g p U
theorem sZ (h:aD g p) (hd:d∈p.ah):0<=d:=by
 have:=h.er _ (au.1 hd);omega
theorem eC {aa:List (List Int)} :x∈ground g p aa U↔(x∈p.ah/\g.tail x∈U)\/∃ v∈U,ay aa v=[]/\x = -1 - v:=by
 unfold ground leaving;rw[Qz,Qa,Qb];simp only[decide_eq_true_eq,Qa,List.isEmpty_iff]
 all_goals grind
theorem iG (h:aD g p) (hd:d∈p.ah):uU g d=g.tail d:=by
 unfold uU;rw[if_neg (by have:=sZ h hd;omega)]
theorem mT (h:0<=v):uU g (-1 - v)=v:=by
 grind [uU]
theorem pq {aa:List (List Int)} (h:aD g p) (hU:jb g p U) (hx:x∈ground g p aa U):uU g x∈U:=by
 rcases eC.1 hx with ⟨h1,h2⟩ | ⟨v,h1,-,rfl⟩
 ·rw[iG h h1];exact h2
 rw[mT (h.vr v (hU.sub v h1)).1];exact h1
theorem jb.comp {g:Gr} {p:Pt} (h:aD g p) (r:Int):jb g p (comp g p r):=⟨yk h r,λ_ hv=>(eQ.1 hv).1,pQ h r⟩
theorem Gv (aa:List (List Int)):∀ U:List Int,(busy aa U).length+(U.filter λv=>(ay aa v).isEmpty).length=U.length
 | []=>rfl
 | v :: U=>by
  have ih:=Gv aa U;unfold busy at ih ⊢;simp only[List.filter_cons,Qj];cases (ay aa v).isEmpty <;> simp <;> omega
theorem KA (aa:List (List Int)) (U:List Int):(lj aa U).length=U.length:=by
 grind [lj,Gv]
theorem oD (f:Int->Int):∀ L:List Int,(L.map λv=>[f v]).flatten=L.map f
 | []=>rfl
 | v :: L=>by rw[QA,Qu,oD f L];rfl
theorem tf {aa:List (List Int)} (h:aD g p) (hU:jb g p U):(ground g p aa U).Nodup:=by
 unfold ground;rw[Qo];refine⟨(cV h.en).filter _,List.Pairwise.map _ (λa b (qD:a≠b) (e:-1 - a = -1 - b)=>qD (by omega)) (hU.nodup.filter _),λa ha b hb e=>?_⟩;obtain⟨v,hv,e2⟩:=Qb.1 hb;have h1:=sZ h (Qa.1 ha).1;have h2:=(h.vr v (hU.sub v (Qa.1 hv).1)).1;omega
theorem B9 {aa:List (List Int)} (h:aD g p) (ht:aK g p aa) (hU:jb g p U):bw (WN g aa) (lj aa U)/\(lj aa U).flatten.Perm (ground g p aa U):=by
 obtain⟨h1,h2⟩:=kH ht h.en hU.nodup (λv hv=>h.vr v (hU.sub v hv));have hp:(lj aa U).flatten.Perm (ground g p aa U):=by
  grind [lj,ground,oD]
 refine⟨⟨λc hc=>?_,hp.nodup_iff.2 (tf h hU)⟩,hp⟩;unfold lj at hc;rcases Qz.1 hc with q | q
 ·refine (h1.ring c q).congr λx hx=>?_
  have J0:x∈p.ah:=(Qa.1 (h2.mem_iff.1 (Qe.2 ⟨c,q,hx⟩))).1;unfold WN;rw[if_neg (by have:=sZ h J0;omega)]
 obtain⟨v,hv,rfl⟩:=Qb.1 q;have:=(h.vr v (hU.sub v (Qa.1 hv).1)).1;show WN g aa (-1 - v) = -1 - v
 grind [WN]
theorem Rx {aa:List (List Int)} (_h:aD g p) (hU:jb g p U) (he:e∈l6 g p U):2*e∈ground g p aa U/\2*e+1∈ground g p aa U:=by
 unfold l6 at he;obtain⟨h1,h2⟩:=Qa.1 he;have h2:=of_decide_eq_true h2;have d1:2*e∈p.ah:=au.2 (by rwa[show 2*e / 2=e by omega]);have d2:2*e+1∈p.ah:=au.2 (by rwa[show (2*e+1) / 2=e by omega]);have e2:aH (2*e)=2*e+1:=by unfold aH;rw[if_pos (by omega)]
 refine⟨eC.2 (Qf ⟨d1,h2⟩),eC.2 (Qf ⟨d2,?_⟩)⟩;rw[<-e2,az];exact hU.closed _ d1 h2
theorem XO (hU:jb g p U) (hx:x∈p.ah) (ht:g.tail x∈U):x / 2∈l6 g p U:=by
 unfold l6;refine Qa.2 ⟨au.1 hx,decide_eq_true ?_⟩;rcases yE x with ⟨e,-⟩ | ⟨e,e2⟩
 ·rw[<-e];exact ht
 rw[<-e2,az];exact hU.closed x hx ht
theorem Oc (h:aD g p) (hd:d∈p.ah):0<=g.tail d/\g.tail d<g.n:=h.vr _ (h.aP hd).1
theorem sD {aa:List (List Int)} (h:aD g p) (ht:aK g p aa) (hW:kE g p aa W) (hC:yw g p U) (hf:f∈W) (hx:x∈f.2):x∈p.ah/\(g.tail x∈U↔f.cu g∈U):=by
 have bn:f.2≠[]:=λe=>by rw[e] at hx;simp at hx
 have hc:f.2∈(W.filter λf=>!f.2.isEmpty).map (·.2):=Qb.2 ⟨f,Qa.2 ⟨hf,by simp[bn]⟩,rfl⟩;have hd:∀ y∈f.2,y∈p.ah:=λy hy=>hW.all.mem_iff.1 (Qe.2 ⟨f.2,hc,hy⟩);have hk:=sl (f:=λd=>decide (g.tail d∈U)) (hW.rings.ring f.2 hc) (λy hy=>by
  have h2:=(mG ht (λd hd=>Oc h hd) (hd y hy)).2
  grind [j8])
 refine⟨hd x hx,?_⟩
 match e:f.2 with
 | []=>exact absurd e bn
 | d :: l =>
  have AB:f.cu g=g.tail f.1:=by unfold bP.cu;rw[e]
  rw[AB,hW.key f hf d l e]
  grind
theorem NJ {aa:List (List Int)} (hW:kE g p aa W) (hv:v∈p.v) (h0:ay aa v=[]):(-1 - v,[])∈W:=by
 have:-1 - v∈(W.filter λf=>f.2.isEmpty).map (·.1):=hW.lone.mem_iff.2 (Qb.2 ⟨v,Qa.2 ⟨hv,by simp[h0]⟩,rfl⟩)
 grind
theorem L8 {aa:List (List Int)} (hW:kE g p aa W) (hf:f∈W) (h0:f.2=[]):∃ v∈p.v,ay aa v=[]/\f.1 = -1 - v:=by
 have:f.1∈(W.filter λf=>f.2.isEmpty).map (·.1):=Qb.2 ⟨f,Qa.2 ⟨hf,by simp[h0]⟩,rfl⟩;obtain⟨v,hv,e⟩:=Qb.1 (hW.lone.mem_iff.1 this)
 grind
theorem WH {aa:List (List Int)} (hW:kE g p aa W) (hx:x∈p.ah):∃ f∈W,x∈f.2:=by
 obtain⟨c,hc,AS⟩:=Qe.1 (hW.all.mem_iff.2 hx)
 grind
theorem Jc {aa:List (List Int)} (dk:p.err g=0) (ht:aK g p aa) (hW:cN g p aa W) (hU:jb g p U) :
  bw (λx=>WN g aa (tw (l6 g p U) x)) (tB g W U)/\(tB g W U).flatten.Perm (ground g p aa U):=by
 have h:=Pt.ax dk;have hSn:(l6 g p U).Nodup:=h.en.filter _;have gp:(tB g W U).flatten.Nodup:=by
  have h8:=DC dk hW
  grind [tB,Db,marks,iD]
 refine⟨⟨λc hc=>?_,gp⟩,?_⟩
 ·obtain⟨f,hf,rfl⟩:=Qb.1 hc
  obtain⟨hfW,hfU⟩:=Qa.1 hf;have hfU:=of_decide_eq_true hfU;by_cases e:f.2=[]
  ·obtain⟨v,hv,-,e1⟩:=L8 hW.ak hfW e
   rw[mQ e,e1];have hv0:=(h.vr v hv).1;show WN g aa (tw _ (-1 - v)) = -1 - v;rw[Fk hSn,if_neg (λq=>by
    have:=h.er _ (Qa.1 q).1;omega)]
   grind [WN]
  rw[k8 e];have bI:f.2∈(W.filter λf=>!f.2.isEmpty).map (·.2):=Qb.2 ⟨f,Qa.2 ⟨hfW,by simp[e]⟩,rfl⟩;refine (hW.ak.rings.ring f.2 bI).congr λx hx=>?_;obtain⟨J0,hxU⟩:=sD h ht hW.ak hU.closed hfW hx;rw[Fk hSn,if_pos (XO hU J0 (hxU.2 hfU))];have:=sZ h (bD J0);unfold WN;rw[if_neg (by omega)];rfl
 refine (List.perm_ext_iff_of_nodup gp (tf h hU)).2 λx=>?_;rw[eC,Qe];constructor
 ·rintro ⟨c,hc,AS⟩
  obtain⟨f,hf,rfl⟩:=Qb.1 hc;obtain⟨hfW,hfU⟩:=Qa.1 hf;have hfU:=of_decide_eq_true hfU;by_cases e:f.2=[]
  ·rw[mQ e] at AS
   obtain⟨v,hv,e2,e1⟩:=L8 hW.ak hfW e
   grind [bP.cu]
  rw[k8 e] at AS;obtain⟨J0,hxU⟩:=sD h ht hW.ak hU.closed hfW AS
  grind
 rintro (⟨h1,h2⟩ | ⟨v,h1,h2,rfl⟩)
 ·obtain⟨f,hf,hxf⟩:=WH hW.ak h1
  obtain⟨-,hxU⟩:=sD h ht hW.ak hU.closed hf hxf;exact⟨marks f,Qb.2 ⟨f,Qa.2 ⟨hf,decide_eq_true (hxU.1 h2)⟩,rfl⟩,by rw[k8 (λe=>by grind)];exact hxf⟩
 have hf:=NJ hW.ak (hU.sub v h1) h2;refine⟨marks (-1 - v,[]),Qb.2 ⟨_,Qa.2 ⟨hf,decide_eq_true ?_⟩,rfl⟩,by grind [mQ]⟩;show -1 - (-1 - v)∈U
 grind
theorem MR {aa:List (List Int)} (h:aD g p) (ht:aK g p aa) (hU:jb g p U) (hx:x∈ground g p aa U) (hy:y∈ground g p aa U) (e:uU g x=uU g y):Same (lj aa U) x y:=by
 have key:∀ {x y v:Int},x∈p.ah->g.tail x=v->v∈U->y∈ground g p aa U->uU g y=v->Same (lj aa U) x y:=by
  intro x y v hx e1 hv hy e2;have hb:=h.vr v (hU.sub v hv);have Yp:x∈ay aa v:=(ht.mem v hb.1 hb.2 x).2 ⟨hx,e1⟩;rcases eC.1 hy with ⟨q1,-⟩ | ⟨u,q1,q2,rfl⟩
  ·rw[iG h q1] at e2
   have hyt:y∈ay aa v:=(ht.mem v hb.1 hb.2 y).2 ⟨q1,e2⟩;refine Qg ⟨(ay aa v).reverse,?_,by grind,by grind⟩
   grind [lj,busy,ay]
  rw[mT (h.vr u (hU.sub u q1)).1] at e2
  grind
 have hB:=(B9 h ht hU).1.nodup;rcases eC.1 hx with ⟨q1,q2⟩ | ⟨u,q1,q2,rfl⟩
 ·exact key q1 rfl q2 hy (by rw[<-e,iG h q1])
 rw[mT (h.vr u (hU.sub u q1)).1] at e;rcases eC.1 hy with ⟨r1,r2⟩ | ⟨w,r1,r2,rfl⟩
 ·rw[iG h r1] at e
  exact (Same.eqv hB).symm (key r1 e.symm q1 hx (mT (h.vr u (hU.sub u q1)).1))
 rw[mT (h.vr w (hU.sub w r1)).1] at e;rw[e];exact Qf rfl
theorem TI {aa:List (List Int)} (h:aD g p) (hU:jb g p U) (hG:oS G) (h1:∀ x∈ground g p aa U,∀ y∈ground g p aa U,uU g x=uU g y->G x y)
  (hS:∀ e∈S,e∈p.e) (h2:∀ e∈S,g.tail (2*e)∈U->G (2*e) (2*e+1)) (hc:bS g ⟨p.v,S⟩ (-1) a v):∀ x∈ground g p aa U,uU g x=a->∀ y∈ground g p aa U,uU g y=v->G x y:=by
 induction hc with
 | here=>exact λx hx e1 y hy e2=>h1 x hx y hy (e1.trans e2.symm)
 | @step u w _ hn _ ih =>
  intro x hx e1 y hy e2;obtain⟨e,he,dp⟩:=hn;have d1:2*e∈p.ah:=au.2 (by rw[show 2*e / 2=e by omega];exact hS e he);have d2:2*e+1∈p.ah:=au.2 (by rw[show (2*e+1) / 2=e by omega];exact hS e he);have t1:=dP g e;have t2:g.tail (2*e+1)=(g.at e).2:=by
   have e2:aH (2*e)=2*e+1:=by unfold aH;rw[if_pos (by omega)]
   rw[<-e2,az];exact t1.2
  have hyU:w∈U:=by rw[<-e2];exact pq h hU hy
  rcases dp with q | q
  .-- 2e at u,its aH at w
   have a1:g.tail (2*e)=u:=by rw[t1.1,q]
   have a2:g.tail (2*e+1)=w:=by rw[t2,q]
   have aU:u∈U:=by
    have e2':aH (2*e)=2*e+1:=by unfold aH;rw[if_pos (by omega)]
    rw[<-a1];refine (j8 hU.closed d1).1 ?_
    grind
   have g1:2*e∈ground g p aa U:=eC.2 (Qf ⟨d1,by grind⟩);have g2:2*e+1∈ground g p aa U:=eC.2 (Qf ⟨d2,by grind⟩);exact hG.trans (hG.trans (ih x hx e1 _ g1 (by grind [iG])) (h2 e he (by grind))) (h1 _ g2 y hy (by grind [iG]))
  have a1:g.tail (2*e)=w:=by rw[t1.1,q]
  have a2:g.tail (2*e+1)=u:=by rw[t2,q]
  have aU:u∈U:=by
   have e2':aH (2*e)=2*e+1:=by unfold aH;rw[if_pos (by omega)]
   rw[<-a2,<-e2',az];exact hU.closed _ d1 (by grind)
  have g1:2*e∈ground g p aa U:=eC.2 (Qf ⟨d1,by grind⟩);have g2:2*e+1∈ground g p aa U:=eC.2 (Qf ⟨d2,by grind⟩);exact hG.trans (hG.trans (ih x hx e1 _ g2 (by grind [iG])) (hG.symm (h2 e he (by grind)))) (h1 _ g1 y hy (by grind [iG]))
theorem Us {aa:List (List Int)} (dk:p.err g=0) (ht:aK g p aa) (hW:cN g p aa W) (r:Int) :
  (comp g p r).length+(W.filter λf=>decide (f.cu g∈comp g p r)).length<=2+(p.e.filter λe=>decide (g.tail (2*e)∈comp g p r)).length:=by
 have h:=Pt.ax dk;have hU:=jb.comp h r;obtain⟨b1,b2⟩:=B9 h ht hU;obtain⟨w1,w2⟩:=Jc dk ht hW hU;have hle:=tW b1 b2 (λe he=>Rx (aa:=aa) h hU he) w1 w2;rw[KA] at hle;have hE:=Same.eqv b1.nodup;have h1:et (gK (Same (lj aa (comp g p r))) (l6 g p (comp g p r))) (ground g p aa (comp g p r))<=1:=by
  refine sg (gK.eqv hE _) λx hx y hy=>?_;have vx:=eQ.1 (pq h hU hx);have vy:=eQ.1 (pq h hU hy);have hc:=((vx.2.symm (by
   intro e;have:r = -1:=e;have h2:=h.vr _ vx.1;have h3:bS g p (-1) (-1) (uU g x):=by grind
   exact VC h h3 (by omega))).2).trans vy.2
  exact TI (S:=p.e) h hU (gK.eqv hE _) (λu hu w hw e=>gK.base (MR h ht hU hu hw e) _) (λ_ he=>he) (λe he ht2=>gK.oO hE (Qa.2 ⟨he,decide_eq_true ht2⟩)) (bS.congr (q:=⟨p.v,p.e⟩) rfl hc) x hx rfl y hy rfl
 grind [tB,l6]
noncomputable def cls (g:Gr) (p:Pt) (aa same:List (List Int)) (f:bP):Int:=numOf (Nz g p aa same) f.1
theorem jZ:∀ {l m:List Int},l.Pairwise (·<·)->m.Pairwise (·<·)->(∀ x,x∈l↔x∈m)->l=m
 | [],[],_,_,_=>rfl
 | [],y :: m,_,_,h=>by have:=(h y).2 (by simp);simp at this
 | x :: l,[],_,_,h=>by have:=(h x).1 (by simp);simp at this
 | x :: l,y :: m,h1,h2,h=>by
  rw[Qh] at h1 h2;have e:x=y:=by
   rcases Qd.1 ((h x).1 (by simp)) with q | q
   ·exact q
   rcases Qd.1 ((h y).2 (by simp)) with r | r
   ·exact r.symm
   have:=h1.1 y r;have:=h2.1 x q;omega
  subst e;rw[jZ h1.2 h2.2 λz=>?_];constructor
  ·intro hz
   rcases Qd.1 ((h z).1 (by simp[hz])) with q | q
   ·have:=h1.1 z hz;omega
   exact q
  intro hz;rcases Qd.1 ((h z).2 (by simp[hz])) with q | q
  ·have:=h2.1 z hz;omega
  exact q
def back (l:List Int) (u:Int):List Int:=(l.take (l.idxOf u+1)).reverse++(l.drop (l.idxOf u+1)).reverse
theorem wP {a c:List Int} (h:u ∉ a):(a++u :: c).idxOf u=a.length:=by
 grind
theorem iw {a c:List Int} (h:u ∉ a):back (a++u :: c) u=u :: (a.reverse++c.reverse):=by
 unfold back;rw[wP h];have e1:(a++u :: c).take (a.length+1)=a++[u]:=by
  grind
 have e2:(a++u :: c).drop (a.length+1)=c:=by
  rw[show a++u :: c=(a++[u])++c by simp]
  grind
 grind
theorem kf (h:u∈l):∃ a c,l=a++u :: c/\u ∉ a:=by
 induction l with
 | nil=>simp at h
 | cons x l ih =>
  by_cases e:u=x
  ·exact⟨[],l,by rw[e];rfl,by simp⟩
  all_goals grind
theorem gz {a c:List Int} (h:u ∉ a):ahead (a++u :: c) u=(a.reverse++(c.reverse++[u])).getD 0 0:=by
 unfold ahead;rw[wP h,show (a++u :: c).length=a.length+c.length+1 by simp;omega];rcases Qi a with rfl | ⟨a,z,rfl⟩
 ·rcases Qi c with rfl | ⟨c,y,rfl⟩
  ·simp
  have e1:([]:List Int).length+(([]:List Int).length+(c.concat y).length+1) - 1=c.length+1:=by simp
  have e2:([]:List Int).length+(c.concat y).length+1=c.length+2:=by simp
  rw[e1,e2,Qv (by omega)];simp[List.getD]
 simp only[Qr,List.length_append,Qj,Qy,List.reverse_append,List.reverse_cons,List.reverse_nil];rw[show a.length+(0+1)+(a.length+(0+1)+c.length+1) - 1=a.length+(a.length+(0+1)+c.length+1) by omega,Nat.add_mod_right,Qv (by omega)]
 grind
theorem yH (hn:l.Nodup) (hu:u∈l):∃ t,back l u=u :: t/\back l (ahead l u)=t++[u]:=by
 obtain⟨a,c,rfl,UU⟩:=kf hu;refine⟨a.reverse++c.reverse,iw UU,?_⟩;rw[gz UU];rcases Qi a with rfl | ⟨a,z,rfl⟩
 ·rcases Qi c with rfl | ⟨c,y,rfl⟩
  ·have h0:=iw (a:=[]) (c:=[]) (u:=u) (by simp)
   simpa using h0
  have hy:y ∉ u :: c:=by
   rw[List.nil_append,Qr,<-List.cons_append,Qo] at hn;exact λh=>hn.2.2 y h y (by simp) rfl
  have e:([]:List Int).reverse++((c.concat y).reverse++[u])=y :: (c.reverse++[u]):=by simp
  rw[e];show back ([]++u :: c.concat y) y=_;have h2:=iw (c:=[]) hy;rw[show []++u :: c.concat y=(u :: c)++[y] by simp,h2];simp
 have hz:z ∉ a:=by
  grind
 have e:(a.concat z).reverse++(c.reverse++[u])=z :: (a.reverse++(c.reverse++[u])):=by simp
 rw[e];show back (a.concat z++u :: c) z=_;have h2:=iw (c:=u :: c) hz
 grind
theorem OW (hu:u∈l):∃ t,back l u=u :: t:=by
 grind [kf,iw]
theorem UB (hu:u∈l):x∈back l u↔x∈l:=by
 all_goals grind [kf,iw]
theorem qm (hn:l.Nodup) (hu:u∈l):ahead l u∈l:=by
 have h:=js hn (Qt hu);exact Qm.1 (h.mI.mem_iff.1 (Qb.2 ⟨u,Qm.2 hu,rfl⟩))
theorem D8 (h:l.find? P=some z):(l.filter P).getD 0 0=z:=by
 rw[<-List.head?_filter] at h;cases e:l.filter P with
 | nil=>rw[e] at h;cases h
 | cons a m=>rw[e] at h;cases h;rfl
theorem Kv (hn:l.Nodup) (hd:d∈l) (hp:P d=true):(back l (ahead l d)).find? P=some (ahead (l.filter P) d):=by
 obtain⟨a,c,rfl,hda⟩:=kf hd;obtain⟨t,e1,e2⟩:=yH hn hd;rw[iw hda] at e1;obtain rfl:a.reverse++c.reverse=t:=by simpa using e1
 rw[e2];have e3:(a++d :: c).filter P=a.filter P++d :: c.filter P:=by rw[List.filter_append,List.filter_cons_of_pos hp]
 have ank:d ∉ a.filter P:=λh=>hda (Qa.1 h).1;rw[e3,gz ank];have hs:((a.reverse++c.reverse++[d]).find? P).isSome=true:=by
  grind
 obtain⟨z,hz⟩:=Option.isSome_iff_exists.1 hs;rw[hz];have h4:=D8 hz
 grind
theorem TQ (hn:l.Nodup) (hR:oS R) (h:∀ y∈l,P y=false->R y (ahead l y)) (hu:u∈l):R u (((back l u).find? P).getD (l.getD 0 0)):=by
 cases e:(back l u).find? P with
 | none =>
  have gV:∀ y∈l,P y=false:=λy hy=>by
   grind [UB]
  have hr:=GA hR (js hn (Qt hu)) (λw hw=>h w (Qm.1 hw) (gV w (Qm.1 hw)))
  grind
 | some z =>
  obtain⟨hz,s,r,e2,hs⟩:=List.find?_eq_some_iff_append.1 e;show R u z;clear e
  induction s generalizing u r with
  | nil =>
   obtain⟨t,e3⟩:=OW hu;rw[e3] at e2;have:u=z:=by simpa using (List.cons.inj e2).1
   rw[this];exact hR.refl z
  | cons y s ih =>
   obtain⟨t,e3,e4⟩:=yH hn hu;rw[e3] at e2;obtain⟨rfl,e5⟩:=List.cons.inj e2;have hy:P u=false:=by have:=hs u (by simp);simpa using this
   rw[e5] at e4;exact hR.trans (h u hu hy) (ih (qm hn hu) (r:=r++[u]) (by grind) (λx hx=>hs x (Qc _ hx)))
structure ayz (g:Gr) (p q:Pt) (aa:List (List Int)):Prop where
 pe:p.err g=0
 qe:q.err g=0
 iX:aK g p aa
 axQ:∀ e∈q.e,e∈p.e
 avk:∀ v∈q.v,v∈p.v
section
variable {g : Gr} {p q : Pt} {aa : List (List Int)}
end
section
variable {g : Gr} {p q : Pt} {aa : List (List Int)}
structure ajJ (g:Gr) (p q:Pt) (aa:List (List Int)) (C:List (List Int)):Prop where
 rings:bw (λx=>WN g aa (tw q.e x)) C
 all:C.flatten.Perm (ground g p aa p.v)
theorem XQ {W:List bP} (dk:p.err g=0) (ht:aK g p aa) (hW:cN g p aa W) (he:p.v.length+W.length=2*(roots g p).length+p.e.length):∀ r∈roots g p,dC g p W r=0:=by
 have h:=Pt.ax dk;have h1:=kN h (λv:Int=>v) p.v (λ_ hx=>hx);have h2:=kN h (λf:bP=>f.cu g) W (x6 h hW.ak);have h3:=kN h (λe:Int=>g.tail (2*e)) p.e (λe hx=>(h.aP (d:=2*e) (au.2 (by rw[show 2*e / 2=e by omega];exact hx))).1);have lu:∀ r,(p.v.filter λv=>decide (v∈comp g p r)).length=(comp g p r).length:=λr=>CS r;have key:∀ {R:List Int} {a b c:Int->Nat},(∀ r∈R,a r+b r<=2+c r)->(R.map a).sum+(R.map b).sum=2*R.length+(R.map c).sum->∀ r∈R,a r+b r=2+c r:=by
  intro R a b c
  induction R with
  | nil=>intro _ _ r hr;simp at hr
  | cons x R ih =>
   intro hle hs r hr;simp only[QA,List.sum_cons,Qj] at hs;have hx:=hle x (by simp);have hR:(R.map a).sum+(R.map b).sum<=2*R.length+(R.map c).sum:=by
    have:∀ {R:List Int},(∀ r∈R,a r+b r<=2+c r)->(R.map a).sum+(R.map b).sum<=2*R.length+(R.map c).sum:=by
     intro R
     induction R with
     | nil=>intro _;simp
     | cons y R ih2 =>
      grind
    grind
   all_goals grind
 intro r hr;have:=key (R:=roots g p) (a:=λr=>(p.v.filter λv=>decide (v∈comp g p r)).length) (b:=λr=>(W.filter λf=>decide (f.cu g∈comp g p r)).length) (c:=λr=>(p.e.filter λe=>decide (g.tail (2*e)∈comp g p r)).length)
  (λr hr=>by show (p.v.filter λv=>decide (v∈comp g p r)).length+_<=_;rw[lu];exact Us dk ht hW r) (by grind) r hr
 simp only[lu] at this
 grind [dC,comp,bP.cu]
end
section
variable {g : Gr} {p q : Pt} {aa same : List (List Int)}
end
end Go.Proofs.YtoiflofhcmjpoaaGreat.Plain
namespace Go.Proofs.YtoiflofhcmjpoaaGreat
open Go.RowKit Go.Maps
theorem LH (va vb:Value) (a b:List Int) (w:World) (ha:aI w va a) (hb:aI w vb b) :
  Calls Tryz.prog 166 #[va,vb] w λe w'=>e=.returned (.bool (decide (a=b)))/\ai [] w w':=by
 obtain⟨ao,ac,rfl,-,uJ,Ia⟩:=ha;obtain⟨bo,bc,rfl,-,oJ,oG⟩:=hb;by_cases hl:a.length=b.length
 ·by_cases h0:a=[]
  ·subst h0
   have H':b=[]:=Qk.1 hl.symm;subst H';refine (Tryz.slices_Equal_int_empty ao bo ac 0 bc w (by decide)).mono ?_;rintro e w' ⟨rfl,rfl⟩;exact⟨rfl,ai.refl _ _⟩
  have H':b≠[]:=λe=>h0 (Qk.1 (by rw[hl,e];rfl));obtain⟨ba,oa,rfl,ca⟩:=Ia h0;obtain⟨bb,ob,rfl,cb⟩:=oG H';refine (Tryz.slices_Equal_int ba oa a.length ac bb ob b.length bc a b w (Qs _) (Qs _) (by omega) (by omega) ca cb).mono ?_;rintro e w' ⟨rfl,n,rfl⟩;refine⟨?_,?_⟩
  ·rw[Qw,Qw]
   by_cases h:a=b
   ·subst h;simp
   have h1:(a==b)=false:=beq_eq_false_iff_ne.2 h;rw[h1,decide_eq_false (show ¬ a=b from h)]
  exact (ai.refl [] w).drewN _
 refine (Tryz.slices_Equal_int_lens ao bo a.length ac b.length bc w hl).mono ?_;rintro e w' ⟨rfl,rfl⟩;exact⟨by simp[show ¬ a=b from λe=>hl (by rw[e])],ai.refl _ _⟩
namespace Plain
end Plain
namespace Plain
end Plain
end Go.Proofs.YtoiflofhcmjpoaaGreat
namespace Go.Proofs.YtoiflofhcmjpoaaGreat.Plain
section
variable {g : Gr} {p q : Pt} {aa same : List (List Int)}
end
theorem An {l:List Int} (h:l≠[]):∃ x m,first l=x :: m/\∀ y∈l,x<=y:=by
 have h0:0<l.length:=List.length_pos_iff.2 h;have hl:=SX h0 l.length (Qs _);cases e:first l with
 | nil =>
  have:=(di l).length_eq;rw[e] at this;exact absurd (Qk.1 this.symm) h
 | cons x m =>
  refine⟨x,m,rfl,λy hy=>?_⟩;obtain⟨i,hi,rfl⟩:=cr hy;have e0:x=l.getD (LC l l.length) 0:=by
   have h1:(first l).getD 0 0=x:=by rw[e];rfl
   rw[<-h1];unfold first;have hd:0<l.length - LC l l.length:=by omega
   simp[List.getD,List.getElem?_append,hl,hd]
  rw[e0];exact Lp l l.length i hi
section
variable {g : Gr} {p q r : Pt} {aa same : List (List Int)}
end
