/- law 09's small; the document's And: contracts. Conditions: a graph, parts, a plan, lists that lie in memory and read so. -/
import Derived.Test.YtoiflofhcmjpoaaGreatD9RestS
open List renaming mem_filter→Qa,mem_map→Qb,mem_flatten→Qc,mem_cons→Qd,mem_cons_of_mem→Qe,length_eq_zero_iff→Qf,pairwise_cons→Qg,length_map→Qi,eq_nil_or_concat→Qj,getElem?_append→Ql,filter_eq_self→Qm,pairwise_map→Qn,nodup_append→Qo,getD→Qr,length_cons→Qs,mem_reverse→Qu,take_length→Qv
open Nat renaming le_refl→Qh,mod_eq_of_lt→Qt
open Bool renaming and_eq_false_imp→Qk,not_eq_true'→Qp,and_eq_true→Qw,not_or→Qx
open Or renaming inr→Qq,inl→Qy
namespace Go.Proofs.YtoiflofhcmjpoaaGreat
open Go.RowKit Go.Maps
namespace Plain
end Plain
namespace Plain
theorem y8 (l:List Int):∀ k,∀ i,i<k->l.getD (mu l k) 0<=l.getD i 0
 | 0,i,hi=>by omega
 | k+1,i,hi=>by
  have ih:=y8 l k;unfold mu;split
  ·rename_i h
   by_cases e:i=k
   ·rw[e];exact Int.le_refl _
   have:=ih i (by omega);omega
  rename_i h;by_cases e:i=k
  ·rw[e];omega
  exact ih i (by omega)
theorem Cn {l:List Int} (h:∀ i,i<l.length->l.getD 0 0<=l.getD i 0):∀ k,k<=l.length->mu l k=0
 | 0,_=>rfl
 | k+1,hk=>by
  have ih:=Cn h k (by omega);have:=h k (by omega);unfold mu;rw[ih,if_neg (by omega)]
theorem su {l:List Int} (h:∀ k,k<l.length->l.getD 0 0<=l.getD k 0):first l=l:=by
 unfold first;rw[Cn h _ (Qh _)];simp
theorem CF (l:List Int):first (first l)=first l:=by
 refine su fun k hk=>?_;have hm:(first l).getD k 0∈l:=(cI l).mem_iff.1 (aQ hk);obtain⟨i,hi,e⟩:=bN hm;have h0:0<l.length:=by omega
 have hl:=qY h0 l.length (Qh _);have e0:(first l).getD 0 0=l.getD (mu l l.length) 0:=by
  unfold first;have hd:0<l.length - mu l l.length:=by omega
  simp[Qr,Ql,hl,hd]
 rw[e0,<-e];exact y8 l l.length i hi
end Plain
namespace Plain
end Plain
namespace Plain
end Plain
end Go.Proofs.YtoiflofhcmjpoaaGreat
namespace Go.Proofs.YtoiflofhcmjpoaaGreat.Plain
structure ES (R:Int->Int->Prop):Prop where
 refl:∀ x,R x x
 symm:∀ {x y},R x y->R y x
 trans:∀ {x y z},R x y->R y z->R x z
structure S8 (R:Int->Int->Prop) (K T:List Int):Prop where
 sub:∀ t∈T,t∈K
 all:∀ x∈K,∃ t∈T,R x t
 one:T.Pairwise fun a b=>¬ R a b
theorem Gk {R:Int->Int->Prop} (h:ES R):∀ {T T':List Int},(T.Pairwise fun a b=>¬ R a b)->(∀ t∈T,∃ t'∈T',R t t')->T.length<=T'.length
 | [],_,_,_=>Nat.zero_le _
 | a :: T,T',hp,hm=>by
  rw[Qg] at hp;obtain⟨b,hb,qi⟩:=hm a (by simp);have h1:=Gk h (T:=T) (T':=T'.erase b) hp.2 (fun t ht=>by
   obtain⟨c,hc,wY⟩:=hm t (by simp[ht]);refine⟨c,?_,wY⟩;have bh:c≠b:=fun e=>hp.1 t ht (h.trans qi (h.symm (e ▸ wY)));exact (List.mem_erase_of_ne bh).2 hc)
  have h2:=List.length_erase_of_mem hb;have h3:0<T'.length:=List.length_pos_of_mem hb;rw[Qs];omega
open Classical in
noncomputable def oQ (R:Int->Int->Prop):List Int->List Int
 | []=>[]
 | x :: K=>if ∃ y∈oQ R K,R x y then oQ R K else x :: oQ R K
noncomputable def fe (R:Int->Int->Prop) (K:List Int):Nat:=(oQ R K).length
theorem Ac {R:Int->Int->Prop} (h:ES R):∀ K:List Int,S8 R K (oQ R K)
 | []=>⟨by simp[oQ],by simp,by simp[oQ]⟩
 | x :: K=>by
  have ih:=Ac h K;by_cases hx:∃ y∈oQ R K,R x y
  ·have e:oQ R (x :: K)=oQ R K:=by simp only[oQ];rw[if_pos hx]
   rw[e];refine⟨fun t ht=>Qe _ (ih.sub t ht),fun y hy=>?_,ih.one⟩;rcases Qd.1 hy with rfl | hy
   ·exact hx
   exact ih.all y hy
  have e:oQ R (x :: K)=x :: oQ R K:=by simp only[oQ];rw[if_neg hx]
  rw[e];refine⟨fun t ht=>?_,fun y hy=>?_,?_⟩
  ·rcases Qd.1 ht with rfl | ht
   ·simp
   exact Qe _ (ih.sub t ht)
  ·rcases Qd.1 hy with rfl | hy
   ·exact⟨y,by simp,h.refl y⟩
   obtain⟨t,ht,hr⟩:=ih.all y hy;exact⟨t,Qe _ ht,hr⟩
  rw[Qg];exact⟨fun y hy hr=>hx ⟨y,hy,hr⟩,ih.one⟩
theorem OF {R:Int->Int->Prop} (h:ES R) {K T:List Int} (hT:S8 R K T):fe R K=T.length:=by
 have h1:=Ac h K;exact Nat.le_antisymm (Gk h h1.one fun t ht=>hT.all t (h1.sub t ht)) (Gk h hT.one fun t ht=>h1.all t (hT.sub t ht))
theorem SJ {R Q:Int->Int->Prop} (hR:ES R) (hQ:ES Q) {K L:List Int} (f:Int->Int) (h1:∀ x∈K,f x∈L) (h2:∀ x∈K,∀ y∈K,R x y↔Q (f x) (f y)) (h3:∀ z∈L,∃ x∈K,Q z (f x)):fe R K=fe Q L:=by
 have hr:=Ac hR K;have:S8 Q L ((oQ R K).map f):=by
  refine⟨fun t ht=>?_,fun z hz=>?_,?_⟩
  ·obtain⟨x,hx,rfl⟩:=Qb.1 ht
   exact h1 x (hr.sub x hx)
  ·obtain⟨x,hx,hq⟩:=h3 z hz
   obtain⟨t,ht,Pv⟩:=hr.all x hx;exact⟨f t,Qb.2 ⟨t,ht,rfl⟩,hQ.trans hq ((h2 x hx t (hr.sub t ht)).1 Pv)⟩
  rw[Qn];exact hr.one.imp_of_mem fun ha hb hn hq=>hn ((h2 _ (hr.sub _ ha) _ (hr.sub _ hb)).2 hq)
 rw[OF hQ this,Qi];rfl
def Jn (R:Int->Int->Prop) (a b x y:Int):Prop:=R x y\/(R x a/\R b y)\/(R x b/\R a y)
def Z' (R:Int->Int->Prop):List Int->Int->Int->Prop
 | []=>R
 | e :: E=>Jn (Z' R E) (2*e) (2*e+1)
def Same (C:List (List Int)) (x y:Int):Prop:=x=y\/∃ c∈C,x∈c/\y∈c
theorem tB:∀ {C:List (List Int)},C.flatten.Nodup->∀ {l m:List Int} {x:Int},l∈C->m∈C->x∈l->x∈m->l=m
 | [],_,_,_,_,hl,_,_,_=>by simp at hl
 | c :: C,hn,l,m,x,hl,hm,h1,h2=>by
  rw[List.flatten_cons,Qo] at hn;rcases Qd.1 hl with e1 | hl <;> rcases Qd.1 hm with e2 | hm
  ·rw[e1,e2]
  ·exact absurd rfl (hn.2.2 x (e1 ▸ h1) x (Qc.2 ⟨m,hm,h2⟩))
  ·exact absurd rfl (hn.2.2 x (e2 ▸ h2) x (Qc.2 ⟨l,hl,h1⟩))
  exact tB hn.2.1 hl hm h1 h2
theorem Same.eqv {C:List (List Int)} (hn:C.flatten.Nodup):ES (Same C):=by
 refine⟨fun x=>Qy rfl,fun {x y} h=>?_,fun {x y z} h k=>?_⟩
 ·rcases h with rfl | ⟨c,hc,h1,h2⟩
  ·exact Qy rfl
  exact Qq ⟨c,hc,h2,h1⟩
 rcases h with rfl | ⟨c,hc,h1,h2⟩
 ·exact k
 rcases k with rfl | ⟨d,hd,k1,k2⟩
 ·exact Qq ⟨c,hc,h1,h2⟩
 obtain rfl:=tB hn hc hd h2 k1;exact Qq ⟨c,hc,h1,k2⟩
theorem yz {Q:Int->Int->Prop} (hQ:ES Q) {p:Int->Int} {z:Int}:∀ {l:List Int} {x:Int},Trail p x l z->(∀ w∈x :: l,Q w (p w))->∀ y∈x :: l,Q x y
 | [],x,_,_,y,hy=>by simp at hy;rw[hy];exact hQ.refl x
 | a :: l,x,h,hs,y,hy=>by
  have e:Q x a:=by rw[<-h.1];exact hs x (by simp)
  rcases Qd.1 hy with rfl | hy
  ·exact hQ.refl y
  exact hQ.trans e (yz hQ h.2 (fun w hw=>hs w (Qe _ hw)) y hy)
theorem Nr {Q:Int->Int->Prop} (hQ:ES Q) {p:Int->Int} {c:List Int} (h:Ring p c) (hs:∀ w∈c,Q w (p w)):∀ x∈c,∀ y∈c,Q x y:=by
 intro x hx y hy;obtain⟨l,hr,hp⟩:=h.from hx;exact yz hQ (show Trail p x l x from hr) (fun w hw=>hs w (hp.mem_iff.1 hw)) y (hp.mem_iff.2 hy)
theorem Same.least {Q:Int->Int->Prop} (hQ:ES Q) {p:Int->Int} {C:List (List Int)} (h:bw p C) (hs:∀ w∈C.flatten,Q w (p w)) {x y:Int} (qI:Same C x y):Q x y:=by
 rcases qI with rfl | ⟨c,hc,h1,h2⟩
 ·exact hQ.refl x
 exact Nr hQ (h.ring c hc) (fun w hw=>hs w (Qc.2 ⟨c,hc,hw⟩)) x h1 y h2
theorem Same.step {p:Int->Int} {C:List (List Int)} (h:bw p C) {x:Int} (hx:x∈C.flatten):Same C x (p x):=by
 obtain⟨c,hc,xv⟩:=Qc.1 hx;exact Qq ⟨c,hc,xv,((h.ring c hc).pT).mem_iff.1 (Qb.2 ⟨x,xv,rfl⟩)⟩
theorem AR {p:Int->Int} {C:List (List Int)} {K:List Int} (h:bw p C) (hp:C.flatten.Perm K):fe (Same C) K=C.length:=by
 have bh:∀ c∈C,c.headD 0∈c:=by
  intro c hc;have:=h.ring c hc;cases c with
  | nil=>exact absurd this (by simp[Ring])
  | cons x l=>simp
 have hT:S8 (Same C) K (C.map (·.headD 0)):=by
  refine⟨fun t ht=>?_,fun x hx=>?_,?_⟩
  ·obtain⟨c,hc,rfl⟩:=Qb.1 ht
   exact hp.mem_iff.1 (Qc.2 ⟨c,hc,bh c hc⟩)
  ·obtain⟨c,hc,xv⟩:=Qc.1 (hp.mem_iff.2 hx)
   exact⟨_,Qb.2 ⟨c,hc,rfl⟩,Qq ⟨c,hc,xv,bh c hc⟩⟩
  rw[Qn];have hpw:=(List.pairwise_flatten.1 h.nodup).2;refine hpw.imp_of_mem fun {c d} hc hd hn hs=>?_;rcases hs with e | ⟨m,hm,h1,h2⟩
  ·exact hn _ (bh c hc) _ (bh d hd) e
  obtain rfl:=tB h.nodup hm hc h1 (bh c hc);exact hn _ h2 _ (bh d hd) rfl
 rw[OF (Same.eqv h.nodup) hT,Qi]
def tw:List Int->Int->Int
 | [],d=>d
 | e :: S,d=>tw S (swp (2*e) (2*e+1) d)
structure Cut (b:Int->Int) (B:List (List Int)) (K:List Int) (R:Int->Int->Prop) (T S:List Int):Prop where
 out:∀ e∈T,2*e∈K/\2*e+1∈K
 kept:∀ e∈S,2*e∈K/\2*e+1∈K
 left:∀ x∈K,Z' R T x (b (tw S x))
 flat:∀ C,bw (fun x=>b (tw S x)) C->C.flatten.Perm K->B.length+C.length=2*fe (Z' (Same B) S) K+S.length/\fe (Z' (Same B) S) K+fe (Z' R T) K=C.length+1
structure am2 (n:Nat) (R:Int->Int->Prop) (c:St × List Int) (met:List Int):Prop where
 ok:c.1.Ok
 all:c.1.all=kj n
 met:c.2=met
 rel:∀ x y,c.1.rel x y↔R x y
theorem BZ:∀ {S:List Int},S.Nodup->∀ x,tw S x=if x / 2∈S then aT x else x
 | [],_,x=>by simp[tw]
 | e :: S,h,x=>by
  rw[List.nodup_cons] at h;show tw S (swp (2*e) (2*e+1) x)=_;rw[BZ h.2];by_cases h1:x=2*e
  ·subst h1
   have a1:(2*e+1) / 2=e:=by omega
   have a2:2*e / 2=e:=by omega
   rw[swp_left,a1,a2,if_neg h.1,if_pos (by simp)];unfold aT;rw[if_pos (by omega)]
  by_cases h2:x=2*e+1
  ·subst h2
   have a1:(2*e+1) / 2=e:=by omega
   have a2:2*e / 2=e:=by omega
   rw[swp_right,a1,a2,if_neg h.1,if_pos (by simp)];unfold aT;rw[if_neg (by omega)];omega
  rw[eC h1 h2];have bh:x / 2≠e:=by omega
  by_cases h3:x / 2∈S
  ·rw[if_pos h3,if_pos (by simp[h3])]
  rw[if_neg h3,if_neg (by simp[h3,bh])]
def ground (g:Gr) (p:Pt) (aa:List (List Int)) (U:List Int):List Int:=leaving g p U++(U.filter fun v=>(az aa v).isEmpty).map fun v=>-1 - v
def x7 (g:Gr) (aa:List (List Int)) (d:Int):Int:=if d<0 then d else before g aa d
def nA (g:Gr) (p:Pt) (U:List Int):List Int:=p.e.filter fun e=>decide (g.tail (2*e)∈U)
def eL (g:Gr) (W:List bn) (U:List Int):List (List Int):=(W.filter fun f=>decide (f.bV g∈U)).map marks
structure kY (g:Gr) (p:Pt) (U:List Int):Prop where
 nodup:U.Nodup
 sub:∀ v∈U,v∈p.v
 closed:vi g p U
theorem pO {g:Gr} {p:Pt} (h:aB g p) {d:Int} (hd:d∈p.ah):0<=d:=by
 have:=h.er _ (aw.1 hd);omega
theorem vP {g:Gr} {p:Pt} {aa:List (List Int)} {U:List Int} {x:Int}:x∈ground g p aa U↔(x∈p.ah/\g.tail x∈U)\/∃ v∈U,az aa v=[]/\x = -1 - v:=by
 unfold ground leaving;rw[List.mem_append,Qa,Qb];simp only[decide_eq_true_eq,Qa,List.isEmpty_iff]
 all_goals grind
theorem kY.all {g:Gr} {p:Pt} (h:aB g p):kY g p p.v:=⟨h.vn,fun _ hv=>hv,fun _d hd _=>(h.aO hd).2⟩
theorem zO {g:Gr} {p:Pt} {aa:List (List Int)} {U:List Int} (h:aB g p) (hU:kY g p U):(ground g p aa U).Nodup:=by
 unfold ground;rw[Qo];refine⟨(dz h.en).filter _,List.Pairwise.map _ (fun a b (qi:a≠b) (e:-1 - a = -1 - b)=>qi (by omega)) (hU.nodup.filter _),fun a ha b hb e=>?_⟩;obtain⟨v,hv,e2⟩:=Qb.1 hb;have h1:=pO h (Qa.1 ha).1;have h2:=(h.vr v (hU.sub v (Qa.1 hv).1)).1;omega
theorem SS {g:Gr} {p:Pt} {U:List Int} (hU:kY g p U) {x:Int} (hx:x∈p.ah) (ht:g.tail x∈U):x / 2∈nA g p U:=by
 unfold nA;refine Qa.2 ⟨aw.1 hx,decide_eq_true ?_⟩;rcases E5 x with ⟨e,-⟩ | ⟨e,e2⟩
 ·rw[<-e];exact ht
 rw[<-e2,aS];exact hU.closed x hx ht
theorem yx {g:Gr} {p:Pt} (h:aB g p) {d:Int} (hd:d∈p.ah):0<=g.tail d/\g.tail d<g.n:=h.vr _ (h.aO hd).1
theorem oY {g:Gr} {p:Pt} {aa:List (List Int)} {W:List bn} {U:List Int} (h:aB g p) (ht:aR g p aa) (hW:ix g p aa W) (hC:vi g p U) {f:bn} (hf:f∈W) {x:Int} (hx:x∈f.2):x∈p.ah/\(g.tail x∈U↔f.bV g∈U):=by
 have bh:f.2≠[]:=fun e=>by rw[e] at hx;simp at hx
 have hc:f.2∈(W.filter fun f=>!f.2.isEmpty).map (·.2):=Qb.2 ⟨f,Qa.2 ⟨hf,by simp[bh]⟩,rfl⟩;have hd:∀ y∈f.2,y∈p.ah:=fun y hy=>hW.all.mem_iff.1 (Qc.2 ⟨f.2,hc,hy⟩);have hk:=vz (f:=fun d=>decide (g.tail d∈U)) (hW.rings.ring f.2 hc) (fun y hy=>by
  have h2:=(nu ht (fun d hd=>yx h hd) (hd y hy)).2
  grind [jS])
 refine⟨hd x hx,?_⟩
 match e:f.2 with
 | []=>exact absurd e bh
 | d :: l =>
  have vN:f.bV g=g.tail f.1:=by unfold bn.bV;rw[e]
  rw[vN,hW.key f hf d l e]
  grind
theorem J9 {g:Gr} {p:Pt} {aa:List (List Int)} {W:List bn} (hW:ix g p aa W) {v:Int} (hv:v∈p.v) (h0:az aa v=[]):(-1 - v,[])∈W:=by
 have:-1 - v∈(W.filter fun f=>f.2.isEmpty).map (·.1):=hW.lone.mem_iff.2 (Qb.2 ⟨v,Qa.2 ⟨hv,by simp[h0]⟩,rfl⟩)
 grind
theorem GN {g:Gr} {p:Pt} {aa:List (List Int)} {W:List bn} (hW:ix g p aa W) {f:bn} (hf:f∈W) (h0:f.2=[]):∃ v∈p.v,az aa v=[]/\f.1 = -1 - v:=by
 have:f.1∈(W.filter fun f=>f.2.isEmpty).map (·.1):=Qb.2 ⟨f,Qa.2 ⟨hf,by simp[h0]⟩,rfl⟩;obtain⟨v,hv,e⟩:=Qb.1 (hW.lone.mem_iff.1 this)
 grind
theorem Rt {g:Gr} {p:Pt} {aa:List (List Int)} {W:List bn} (hW:ix g p aa W) {x:Int} (hx:x∈p.ah):∃ f∈W,x∈f.2:=by
 obtain⟨c,hc,xv⟩:=Qc.1 (hW.all.mem_iff.2 hx)
 grind
theorem tX {g:Gr} {p:Pt} {aa:List (List Int)} {W:List bn} {U:List Int} (dm:p.err g=0) (ht:aR g p aa) (hW:dy g p aa W) (hU:kY g p U) :
  bw (fun x=>x7 g aa (tw (nA g p U) x)) (eL g W U)/\(eL g W U).flatten.Perm (ground g p aa U):=by
 have h:=Pt.ay dm;have hSn:(nA g p U).Nodup:=h.en.filter _;have gS:(eL g W U).flatten.Nodup:=by
  have h8:=zZ dm hW
  grind [eL,Af,marks,eK]
 refine⟨⟨fun c hc=>?_,gS⟩,?_⟩
 ·obtain⟨f,hf,rfl⟩:=Qb.1 hc
  obtain⟨XX,X7⟩:=Qa.1 hf;have X7:=of_decide_eq_true X7;by_cases e:f.2=[]
  ·obtain⟨v,hv,-,e1⟩:=GN hW.ak XX e
   rw[kG e,e1];have hv0:=(h.vr v hv).1;show x7 g aa (tw _ (-1 - v)) = -1 - v;rw[BZ hSn,if_neg (fun q=>by
    have:=h.er _ (Qa.1 q).1;omega)]
   grind [x7]
  rw[jK e];have bA:f.2∈(W.filter fun f=>!f.2.isEmpty).map (·.2):=Qb.2 ⟨f,Qa.2 ⟨XX,by simp[e]⟩,rfl⟩;refine (hW.ak.rings.ring f.2 bA).congr fun x hx=>?_;obtain⟨Kt,hxU⟩:=oY h ht hW.ak hU.closed XX hx;rw[BZ hSn,if_pos (SS hU Kt (hxU.2 X7))];have:=pO h (bQ Kt);unfold x7;rw[if_neg (by omega)];rfl
 refine (List.perm_ext_iff_of_nodup gS (zO h hU)).2 fun x=>?_;rw[vP,Qc];constructor
 ·rintro ⟨c,hc,xv⟩
  obtain⟨f,hf,rfl⟩:=Qb.1 hc;obtain⟨XX,X7⟩:=Qa.1 hf;have X7:=of_decide_eq_true X7;by_cases e:f.2=[]
  ·rw[kG e] at xv
   obtain⟨v,hv,e2,e1⟩:=GN hW.ak XX e
   grind [bn.bV]
  rw[jK e] at xv;obtain⟨Kt,hxU⟩:=oY h ht hW.ak hU.closed XX xv
  grind
 rintro (⟨h1,h2⟩ | ⟨v,h1,h2,rfl⟩)
 ·obtain⟨f,hf,P8⟩:=Rt hW.ak h1
  obtain⟨-,hxU⟩:=oY h ht hW.ak hU.closed hf P8;exact⟨marks f,Qb.2 ⟨f,Qa.2 ⟨hf,decide_eq_true (hxU.1 h2)⟩,rfl⟩,by rw[jK (fun e=>by grind)];exact P8⟩
 have hf:=J9 hW.ak (hU.sub v h1) h2;refine⟨marks (-1 - v,[]),Qb.2 ⟨_,Qa.2 ⟨hf,decide_eq_true ?_⟩,rfl⟩,by grind [kG]⟩;show -1 - (-1 - v)∈U
 grind
theorem mB:∀ {l m:List Int},l.Pairwise (·<·)->m.Pairwise (·<·)->(∀ x,x∈l↔x∈m)->l=m
 | [],[],_,_,_=>rfl
 | [],y :: m,_,_,h=>by have:=(h y).2 (by simp);simp at this
 | x :: l,[],_,_,h=>by have:=(h x).1 (by simp);simp at this
 | x :: l,y :: m,h1,h2,h=>by
  rw[Qg] at h1 h2;have e:x=y:=by
   rcases Qd.1 ((h x).1 (by simp)) with q | q
   ·exact q
   rcases Qd.1 ((h y).2 (by simp)) with r | r
   ·exact r.symm
   have:=h1.1 y r;have:=h2.1 x q;omega
  subst e;rw[mB h1.2 h2.2 fun z=>?_];constructor
  ·intro hz
   rcases Qd.1 ((h z).1 (by simp[hz])) with q | q
   ·have:=h1.1 z hz;omega
   exact q
  intro hz;rcases Qd.1 ((h z).2 (by simp[hz])) with q | q
  ·have:=h2.1 z hz;omega
  exact q
def back (l:List Int) (u:Int):List Int:=(l.take (l.idxOf u+1)).reverse++(l.drop (l.idxOf u+1)).reverse
theorem Bp {a c:List Int} {u:Int} (h:u ∉ a):(a++u :: c).idxOf u=a.length:=by
 grind
theorem mW {l:List Int} {u:Int} (h:u∈l):∃ a c,l=a++u :: c/\u ∉ a:=by
 induction l with
 | nil=>simp at h
 | cons x l ih =>
  by_cases e:u=x
  ·exact⟨[],l,by rw[e];rfl,by simp⟩
  all_goals grind
theorem dN {a c:List Int} {u:Int} (h:u ∉ a):ahead (a++u :: c) u=(a.reverse++(c.reverse++[u])).getD 0 0:=by
 unfold ahead;rw[Bp h,show (a++u :: c).length=a.length+c.length+1 by simp;omega];rcases Qj a with rfl | ⟨a,z,rfl⟩
 ·rcases Qj c with rfl | ⟨c,y,rfl⟩
  ·simp
  have e1:([]:List Int).length+(([]:List Int).length+(c.concat y).length+1) - 1=c.length+1:=by simp
  have e2:([]:List Int).length+(c.concat y).length+1=c.length+2:=by simp
  rw[e1,e2,Qt (by omega)];simp[Qr]
 simp only[List.concat_eq_append,List.length_append,Qs,List.length_nil,List.reverse_append,List.reverse_cons,List.reverse_nil];rw[show a.length+(0+1)+(a.length+(0+1)+c.length+1) - 1=a.length+(a.length+(0+1)+c.length+1) by omega,Nat.add_mod_right,Qt (by omega)]
 grind
theorem rp {l:List Int} (hn:l.Nodup) {u:Int} (hu:u∈l):ahead l u∈l:=by
 have h:=lK hn (List.ne_nil_of_mem hu);exact Qu.1 (h.pT.mem_iff.1 (Qb.2 ⟨u,Qu.2 hu,rfl⟩))
structure arO (g:Gr) (p q:Pt) (aa:List (List Int)):Prop where
 pe:p.err g=0
 qe:q.err g=0
 nQ:aR g p aa
 aqW:∀ e∈q.e,e∈p.e
 aqo:∀ v∈q.v,v∈p.v
section
variable {g : Gr} {p q : Pt} {aa : List (List Int)}
theorem jz (h:aB g p) {x:Int}:x∈ground g p aa p.v↔x∈p.ah\/∃ v∈p.v,az aa v=[]/\x = -1 - v:=by
 rw[vP];constructor
 ·rintro (q | q)
  ·exact Qy q.1
  exact Qq q
 rintro (q | q)
 ·exact Qy ⟨q,(h.aO q).1⟩
 exact Qq q
theorem Ii (h:aB g p) (ht:aR g p aa) {d:Int} (hd:d∈p.ah):d∈az aa (g.tail d):=by
 have:=h.vr _ (h.aO hd).1;exact (ht.mem _ this.1 this.2 d).2 ⟨hd,rfl⟩
theorem KL (h:aB g p) (ht:aR g p aa) {v d:Int} (hv:v∈p.v) (hd:d∈az aa v):d∈p.ah/\g.tail d=v:=by
 have:=h.vr _ hv;exact (ht.mem _ this.1 this.2 d).1 hd
end
theorem ES.Uu {R:Int->Int->Prop} (h:ES R) (f:Int->Int):ES fun x y=>R (f x) (f y):=⟨fun _x=>h.refl _,fun q=>h.symm q,fun q r=>h.trans q r⟩
section
variable {g : Gr} {p q : Pt} {aa : List (List Int)}
theorem go_dart (h:aB g p) {S:List Int} (hS:S.Nodup) {x:Int} (hx:x∈p.ah) (fp:x / 2∈S):x7 g aa (tw S x)=aG g aa x:=by
 rw[BZ hS,if_pos fp];have:=pO h (bQ hx);unfold x7;rw[if_neg (by omega)];rfl
theorem go_key {S:List Int} (hS:S.Nodup) (h0:∀ e∈S,0<=e) {x:Int} (hx:x<0):x7 g aa (tw S x)=x:=by
 rw[BZ hS,if_neg (fun q=>by have:=h0 _ q;omega)];unfold x7;rw[if_pos hx]
theorem ym (h:aB g p):nA g p p.v=p.e:=by
 unfold nA;rw[Qm];intro e he;refine decide_eq_true (h.aO (aw.2 ?_)).1;rwa[show 2*e / 2=e by omega]
theorem yX (h:aB g p) {W:List bn} (hW:ix g p aa W):(eL g W p.v).length=W.length:=by
 unfold eL;rw[Qi]
 congr 1
 rw[Qm];exact fun f hf=>decide_eq_true (ly h hW f hf)
structure aew (g:Gr) (p q:Pt) (aa:List (List Int)) (C:List (List Int)):Prop where
 rings:bw (fun x=>x7 g aa (tw q.e x)) C
 all:C.flatten.Perm (ground g p aa p.v)
end
section
variable {g : Gr} {p q : Pt} {aa same : List (List Int)}
end
end Go.Proofs.YtoiflofhcmjpoaaGreat.Plain
namespace Go.Proofs.YtoiflofhcmjpoaaGreat
open Go.RowKit Go.Maps
theorem Ha (va vb:Value) (a b:List Int) (w:World) (ha:al w va a) (hb:al w vb b) :
  Calls Tryz.prog 166 #[va,vb] w fun e w'=>e=.returned (.bool (decide (a=b)))/\ag [] w w':=by
 obtain⟨ao,ac,rfl,-,DA,L8⟩:=ha;obtain⟨bo,bc,rfl,-,sQ,qQ⟩:=hb;by_cases hl:a.length=b.length
 ·by_cases h0:a=[]
  ·subst h0
   have CD:b=[]:=Qf.1 hl.symm;subst CD;refine (Tryz.slices_Equal_int_empty ao bo ac 0 bc w (by decide)).mono ?_;rintro e w' ⟨rfl,rfl⟩;exact⟨rfl,ag.refl _ _⟩
  have CD:b≠[]:=fun e=>h0 (Qf.1 (by rw[hl,e];rfl));obtain⟨ba,oa,rfl,ca⟩:=L8 h0;obtain⟨bb,ob,rfl,cb⟩:=qQ CD;refine (Tryz.slices_Equal_int ba oa a.length ac bb ob b.length bc a b w (Qh _) (Qh _) (by omega) (by omega) ca cb).mono ?_;rintro e w' ⟨rfl,n,rfl⟩;refine⟨?_,?_⟩
  ·rw[Qv,Qv]
   by_cases h:a=b
   ·subst h;simp
   have h1:(a==b)=false:=beq_eq_false_iff_ne.2 h;rw[h1,decide_eq_false (show ¬ a=b from h)]
  exact (ag.refl [] w).drewN _
 refine (Tryz.slices_Equal_int_lens ao bo a.length ac b.length bc w hl).mono ?_;rintro e w' ⟨rfl,rfl⟩;exact⟨by simp[show ¬ a=b from fun e=>hl (by rw[e])],ag.refl _ _⟩
namespace Plain
end Plain
namespace Plain
end Plain
end Go.Proofs.YtoiflofhcmjpoaaGreat
namespace Go.Proofs.YtoiflofhcmjpoaaGreat.Plain
section
variable {g : Gr} {p q : Pt} {aa same : List (List Int)}
end
theorem oU {l:List Int} (h:l≠[]):∃ x m,first l=x :: m/\∀ y∈l,x<=y:=by
 have h0:0<l.length:=List.length_pos_iff.2 h;have hl:=qY h0 l.length (Qh _);cases e:first l with
 | nil =>
  have:=(cI l).length_eq;rw[e] at this;exact absurd (Qf.1 this.symm) h
 | cons x m =>
  refine⟨x,m,rfl,fun y hy=>?_⟩;obtain⟨i,hi,rfl⟩:=bN hy;have e0:x=l.getD (mu l l.length) 0:=by
   have h1:(first l).getD 0 0=x:=by rw[e];rfl
   rw[<-h1];unfold first;have hd:0<l.length - mu l l.length:=by omega
   simp[Qr,Ql,hl,hd]
  rw[e0];exact y8 l l.length i hi
section
variable {g : Gr} {p q r : Pt} {aa same : List (List Int)}
end
section
variable {g : Gr} {p q : Pt} {aa same : List (List Int)}
theorem eN {l:List Int} {n:Int} (h:gh l n=true) (f:Int->Bool):gh (l.filter f) n=true:=by
 unfold gh;rw[List.all_eq_true];intro i hi;have hi:=List.mem_range.1 hi;have hpw:(l.filter f).Pairwise (·<·):=(bM h).sublist List.filter_sublist;have Gy:∀ j (hj:j<(l.filter f).length),(l.filter f).getD j 0=(l.filter f)[j]:=fun j hj=>by simp[Qr,hj]
 have hm:(l.filter f).getD i 0∈l:=(Qa.1 (aQ hi)).1;obtain⟨k,hk,e⟩:=bN hm;have h1:=bX h hk;rw[e] at h1;unfold iz;have h2:0<i->(l.filter f).getD (i - 1) 0<(l.filter f).getD i 0:=fun h0=>by
  rw[Gy i hi,Gy (i - 1) (by omega)];exact List.pairwise_iff_getElem.1 hpw (i - 1) i (by omega) hi (by omega)
 by_cases h0:0<i
 ·have:=h2 h0
  simp only[Qx,Qw,Qp,decide_eq_false_iff_not,Qk,decide_eq_true_eq];exact⟨⟨by omega,by omega⟩,fun _=>by omega⟩
 simp only[Qx,Qw,Qp,decide_eq_false_iff_not,Qk,decide_eq_true_eq];exact⟨⟨by omega,by omega⟩,fun k=>absurd k h0⟩
end
end Go.Proofs.YtoiflofhcmjpoaaGreat.Plain
