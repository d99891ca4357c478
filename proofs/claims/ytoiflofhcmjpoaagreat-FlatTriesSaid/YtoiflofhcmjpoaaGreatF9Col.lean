/- Colours of ak on a yU, around a iq; P8 of ag along ways. No program here. -/
import Derived.Test.YtoiflofhcmjpoaaGreatF9BlkR
open List renaming mem_append→Qa,mem_cons_of_mem→Qb,nodup_append→Qc,append_of_mem→Qd,mem_map→Qe,mem_cons→Qf,mem_flatten→Qg,perm_append_comm→Qi,exists_mem_of_ne_nil→Qk,map_eq_append_iff→Qm,mem_reverse→Qn,map_eq_cons_iff→Qo,mem_singleton→Qp,mem_append_right→Qr,eq_nil_or_concat→Qs,mem_append_left→Qt,filter_eq_self→Qu,reverse_perm→Qw,length_map→Qy,nodup_cons→Qz
open Or renaming inl→Qh,inr→QA
open Bool renaming xor_false→Qj,false_xor→Ql,true_and→Qv,eq_false_iff→Qx,false_and→QB,xor_self→QC
open Classical renaming byContradiction→Qq
open Iff renaming rfl→QD
namespace Go.Proofs.YtoiflofhcmjpoaaGreat.Plain
variable {F:List (List Int)} {d v x a b e m y z u o s w:Int} {Q R:Int->Int->Prop} {f:Int->Int} {l K C1 C2 S L M N T D C A B j k:List Int} {χ cS ψ:Int->Bool}
structure Bn (g:Gr) (p:Pt) (aa:List (List Int)):Prop where
 pe:p.err g=0
 iX:aK g p aa
 full:∀ v∈p.v,∃ d∈p.ah,g.tail d=v
 ku:∀ u∈p.v,∀ v∈p.v,bS g p (-1) u v
 yU:∃ F,bw (aA g aa) F/\F.flatten.Perm p.ah/\p.v.length+F.length=2+p.e.length
theorem cQ.WZ {g:Gr} {p:Pt} {aa:List (List Int)} (h:cQ g p aa F):Bn g p aa:=⟨h.pe,h.iX,h.full,h.ku,F,h.rings,h.all,h.tZ⟩
def xM (aa:List (List Int)) (c:Int->Bool) (v:Int):Bool:=par (λd=>c (d / 2)) (ay aa v)
theorem kJ (aa:List (List Int)) (c k:Int->Bool) (v:Int):xM aa (λe=>c e ^^ k e) v=(xM aa c v ^^ xM aa k v):=ui _ _ _
structure mF (g:Gr) (p:Pt) (aa:List (List Int)) (c χ:Int->Bool):Prop where
 next:∀ d∈p.ah,χ (aA g aa d)=χ d
 aH:∀ d∈p.ah,χ (aH d)=(χ d ^^ c (d / 2))
variable {g : Gr} {p : Pt} {aa : List (List Int)}
theorem UH (hp:aD g p) (ht:aK g p aa) (hf:∀ v∈p.v,∃ d∈p.ah,g.tail d=v):busy aa p.v=p.v:=by
 refine Qu.2 λv hv=>?_;obtain⟨d,hd,e⟩:=hf v hv;have:=(ht.mem v (hp.vr v hv).1 (hp.vr v hv).2 d).2 ⟨hd,e⟩
 grind
theorem at_ring (hp:aD g p) (ht:aK g p aa) (hd:d∈p.ah):∃ l,Trail (before g aa) d l d/\(d :: l).Perm (ay aa (g.tail d)):=by
 obtain⟨v1,v2⟩:=hp.vr _ (hp.aP hd).1;have hm:=(ht.mem _ v1 v2 d).2 ⟨hd,rfl⟩;have hr:=js (ht.nodup (g.tail d)) (λe=>by grind);have cD:Ring (before g aa) (ay aa (g.tail d)).reverse:=hr.congr λx hx=>by
  have:=((ht.mem _ v1 v2 x).1 (Qn.1 hx)).2
  grind [before]
 obtain⟨l,h1,h2⟩:=cD.from (Qn.2 hm);exact⟨l,h1,h2.trans (Qw _)⟩
theorem at_mem (hp:aD g p) (ht:aK g p aa) (hv:v∈p.v) :x∈ay aa v↔x∈p.ah/\g.tail x=v:=ht.mem _ (hp.vr v hv).1 (hp.vr v hv).2 x
theorem DP (hp:aD g p) (ht:aK g p aa) (hj:∀ u∈p.v,∀ v∈p.v,bS g p (-1) u v) (hQ:oS Q) (h1:∀ d∈p.ah,Q d (before g aa d)) (h2:∀ d∈p.ah,Q d (Plain.aH d)):∀ x∈p.ah,∀ y∈p.ah,Q x y:=by
 have eJ:∀ x∈p.ah,∀ y∈p.ah,g.tail x=g.tail y->Q x y:=λx hx y hy e=>by
  obtain⟨l,hl,AT⟩:=at_ring hp ht hx;have hvx:=(hp.aP hx).1;exact vF hQ hl (λw hw=>h1 w ((at_mem hp ht hvx).1 (AT.mem_iff.1 hw)).1) y (AT.mem_iff.2 ((at_mem hp ht hvx).2 ⟨hy,e.symm⟩))
 intro x hx y hy;have key:∀ u,bS g p (-1) (g.tail x) u->∀ y∈p.ah,g.tail y=u->Q x y:=by
  intro u hu
  induction hu with
  | here=>exact λy hy e=>eJ x hx y hy e.symm
  | step _ hn _ ih =>
   rename_i u w _;obtain⟨e,he,hn⟩:=hn;intro y hy hyw;have m0:2*e∈p.ah:=au.2 (by rwa[show 2*e / 2=e by omega]);obtain⟨t1,t2⟩:=dP g e;have Ka:g.tail (Plain.aH (2*e))=(g.at e).2:=by rw[az,t2]
   rcases hn with q | q
   ·have a1:=ih (2*e) m0 (by rw[t1,q])
    exact hQ.trans (hQ.trans a1 (h2 _ m0)) (eJ _ (bD m0) y hy (by grind))
   have a1:=ih _ (bD m0) (by rw[Ka,q]);exact hQ.trans (hQ.trans a1 (hQ.symm (h2 _ m0))) (eJ _ m0 y hy (by grind))
 grind [aD.aP]
theorem Ha (hp:aD g p) (ht:aK g p aa) (hf:∀ v∈p.v,∃ d∈p.ah,g.tail d=v):bw (before g aa) ((p.v).map λv=>(ay aa v).reverse)/\((p.v).map λv=>(ay aa v).reverse).flatten.Perm p.ah:=by
 obtain⟨hb,gZ⟩:=kH ht hp.en hp.vn hp.vr;rw[UH hp ht hf] at hb gZ;have cX:leaving g p p.v=p.ah:=Qu.2 λd hd=>by simpa using (hp.aP hd).1
 grind
theorem Bn.V0 (h:Bn g p aa) {c:Int->Bool} (qB:∀ v∈p.v,xM aa c v=false):∃ χ,mF g p aa c χ:=by
 have hp:=Pt.ax h.pe;obtain⟨F,hF,hFK,heu⟩:=h.yU;obtain⟨hb,gZ⟩:=Ha hp h.iX h.full;obtain⟨χ,h1,h2⟩:=Wi (c:=c) hb gZ hp.en (λd=>au) hF hFK (by grind)
  (λQ hQ h1 h2=>DP hp h.iX h.ku hQ h1 h2)
  (λl hl=>by
   obtain⟨v,hv,rfl⟩:=Qe.1 hl;rw[E0 (Qw _)];exact qB v hv)
 exact⟨χ,h1,h2⟩
structure ia (g:Gr) (p:Pt) (aa:List (List Int)):Prop where
 pe:p.err g=0
 iX:aK g p aa
 full:∀ v∈p.v,∃ d∈p.ah,g.tail d=v
 ku:∀ u∈p.v,∀ v∈p.v,bS g p (-1) u v
 amX:∀ c:Int->Bool,(∀ v∈p.v,xM aa c v=false)->∃ χ,mF g p aa c χ
theorem ia.V0 (h:ia g p aa) {c:Int->Bool} (qB:∀ v∈p.v,xM aa c v=false):∃ χ,mF g p aa c χ:=h.amX c qB
theorem Bn.Cp (h:Bn g p aa):ia g p aa:=⟨h.pe,h.iX,h.full,h.ku,λ_ qB=>h.V0 qB⟩
theorem cQ.Cp (h:cQ g p aa F):ia g p aa:=h.WZ.Cp
section
variable {z y d e:Int}
variable {c k χ ψ : Int -> Bool}
theorem mF.before (h:mF g p aa c χ) {d:Int} (hd:d∈p.ah):χ (before g aa d)=(χ d ^^ c (d / 2)):=by
 have:=h.next _ (bD hd);unfold aA at this;rw[bg] at this;rw[this,h.aH d hd]
theorem mF.xor (h:mF g p aa c χ) (h2:mF g p aa k ψ):mF g p aa (λe=>c e ^^ k e) (λd=>χ d ^^ ψ d) :=
 ⟨λd hd=>by rw[h.next d hd,h2.next d hd],λd hd=>by rw[h.aH d hd,h2.aH d hd];cases χ d <;> cases ψ d <;> cases c (d / 2) <;> cases k (d / 2) <;> rfl⟩
theorem mF.congr (h:mF g p aa c χ) (e:∀ x∈p.e,c x=k x):mF g p aa k χ:=⟨h.next,λd hd=>by rw[h.aH d hd,e _ (au.1 hd)]⟩
theorem mF.zH (h:mF g p aa c χ) {B:List Int}:∀ {A:List Int} {x:Int},Trail (Plain.before g aa) x (A++y :: B) z->(∀ d∈x :: A,d∈p.ah)->χ y=(χ x ^^ par (λd=>c (d / 2)) (x :: A))
 | [],x,ht,hd=>by
  have e:Plain.before g aa x=y:=ht.1;rw[<-e,h.before (hd x (by simp))];simp[par]
 | a :: A,x,ht,hd=>by
  have e:Plain.before g aa x=a:=ht.1;have ih:=mF.zH h (A:=A) (x:=a) ht.2 (λd hm=>hd d (Qb _ hm));have hb:=h.before (hd x (by simp));rw[e] at hb;rw[ih,hb];simp only[par];rw[Bool.xor_assoc]
theorem at_two (hp:aD g p) (ht:aK g p aa) (hd:d∈p.ah) (he:e∈p.ah) (hv:g.tail d=g.tail e) (bn:d≠e) :
  ∃ A B,Trail (Plain.before g aa) d (A++e :: B) d/\(d :: A++e :: B).Nodup/\∀ u,u∈d :: A++e :: B↔u∈p.ah/\g.tail u=g.tail d:=by
 obtain⟨l,hl,AT⟩:=at_ring hp ht hd;have hvd:=(hp.aP hd).1;have hm:e∈d :: l:=AT.mem_iff.2 ((at_mem hp ht hvd).2 ⟨he,hv.symm⟩);obtain⟨A,B,rfl⟩:=Qd ((Qf.1 hm).resolve_left λq=>bn q.symm);exact⟨A,B,hl,AT.nodup_iff.2 (ht.nodup _),λu=>by rw[<-at_mem hp ht hvd];exact AT.mem_iff⟩
theorem mF.same (h:mF g p aa c χ) (hp:aD g p) (ht:aK g p aa) (hd:d∈p.ah) (he:e∈p.ah) (hv:g.tail d=g.tail e)
  (hc:∀ u∈p.ah,g.tail u=g.tail d->c (u / 2)=false):χ d=χ e:=by
 by_cases bn:d=e
 ·rw[bn]
 obtain⟨A,B,h1,h2,h3⟩:=at_two hp ht hd he hv bn;have iU:∀ u∈d :: A,u∈p.ah/\g.tail u=g.tail d:=λu hu=>(h3 u).1 (by grind);rw[h.zH h1 (λu hu=>(iU u hu).1),j5 (λu hu=>hc u (iU u hu).1 (iU u hu).2),Qj]
theorem mF.two (h:mF g p aa c χ) (hp:aD g p) (ht:aK g p aa) (hd:d∈p.ah) (he:e∈p.ah) (hv:g.tail d=g.tail e) (bn:d≠e)
  (hc:∀ u∈p.ah,g.tail u=g.tail d->c (u / 2)=(decide (u=d) ^^ decide (u=e))):χ e=!χ d:=by
 obtain⟨A,B,h1,h2,h3⟩:=at_two hp ht hd he hv bn;have iU:∀ u∈d :: A,u∈p.ah/\g.tail u=g.tail d:=λu hu=>(h3 u).1 (by grind);have hn:=Qc.1 h2;have heA:e ∉ d :: A:=λq=>hn.2.2 e q e (by simp) rfl;rw[h.zH h1 (λu hu=>(iU u hu).1),kC (x:=d) hn.1 (by simp) (by grind) (λu hu hud=>by
  grind)]
 grind
theorem mF.alike (h:mF g p aa c χ) (h2:mF g p aa k ψ) (hp:aD g p) (ht:aK g p aa) (hd:d∈p.ah) (he:e∈p.ah) (hv:g.tail d=g.tail e)
  (hc:∀ u∈p.ah,g.tail u=g.tail d->c (u / 2)=k (u / 2)):(χ d ^^ ψ d)=(χ e ^^ ψ e) :=
 (h.xor h2).same hp ht hd he hv λu hu hv=>by rw[hc u hu hv];simp
theorem mF.three (h:mF g p aa c χ) (h2:mF g p aa k ψ) (hp:aD g p) (ht:aK g p aa) {o t q:Int} (ho:o∈p.ah) (zu:t∈p.ah) (hq:q∈p.ah)
  (hvt:g.tail t=g.tail o) (hvq:g.tail q=g.tail o) (hot:o≠t) (hoq:o≠q) (htq:t≠q)
  (hc:∀ u∈p.ah,g.tail u=g.tail o->c (u / 2)=(decide (u=o) ^^ decide (u=t)))
  (hk:∀ u∈p.ah,g.tail u=g.tail o->k (u / 2)=(decide (u=o) ^^ decide (u=q))):((χ q ^^ χ o) ^^ (ψ t ^^ ψ o))=true:=by
 obtain⟨A,B,h1,hn,h3⟩:=at_two hp ht ho zu hvt.symm hot;have kr:=Qc.1 hn;have htA:t ∉ o :: A:=λr=>kr.2.2 t r t (by simp) rfl;have hqm:q∈o :: A++t :: B:=(h3 q).2 ⟨hq,hvq⟩;have EK:∀ u∈o :: A,u∈p.ah/\g.tail u=g.tail o:=λu hu=>(h3 u).1 (by grind);rcases Qa.1 hqm with hqA | hqB
 ·have hqA:q∈A:=(Qf.1 hqA).resolve_left λr=>hoq r.symm
  obtain⟨A1,A2,rfl⟩:=Qd hqA;have hnA:=kr.1;have axv:q ∉ o :: A1:=λr=>by
   grind
  have aeP:∀ u∈o :: A1,u∈o :: (A1++q :: A2):=λu hu=>by
   all_goals grind
  have e1:χ q=!χ o:=by
   have h1':Trail (Plain.before g aa) o (A1++q :: (A2++t :: B)) o:=by simpa using h1
   rw[h.zH h1' (λu hu=>(EK u (aeP u hu)).1)];have gp:(o :: A1).Nodup:=(Qc.1 (show (o :: A1++q :: A2).Nodup from hnA)).1;rw[kC (x:=o) gp (by simp) (by grind) (λu hu huo=>by
    grind)]
   grind
  have e2:ψ t=ψ o:=by
   rw[h2.zH h1 (λu hu=>(EK u hu).1)];have:par (λd=>k (d / 2)) (o :: (A1++q :: A2))=par (λu=>decide (u=o) ^^ decide (u=q)) (o :: (A1++q :: A2)):=qE λu hu=>hk u (EK u hu).1 (EK u hu).2;rw[this,ui,kC (x:=o) hnA (by simp) (by simp) (λu _ r=>by simp[r]),kC (x:=q) hnA (by simp) (by simp) (λu _ r=>by simp[r])];cases ψ o <;> rfl
  grind
 have hqB:q∈B:=(Qf.1 hqB).resolve_left λr=>htq r.symm;obtain⟨B1,B2,rfl⟩:=Qd hqB;have hqA:q ∉ o :: A:=λr=>kr.2.2 q r q (by simp) rfl;have e1:χ q=χ o:=by
  have h1':Trail (Plain.before g aa) o ((A++t :: B1)++q :: B2) o:=by simpa using h1
  have iU:∀ u∈o :: (A++t :: B1),u∈o :: A++t :: (B1++q :: B2):=λu hu=>by
   all_goals grind
  rw[h.zH h1' (λu hu=>((h3 u).1 (iU u hu)).1)];have:par (λd=>c (d / 2)) (o :: (A++t :: B1))=par (λu=>decide (u=o) ^^ decide (u=t)) (o :: (A++t :: B1)):=qE λu hu=>hc u ((h3 u).1 (iU u hu)).1 ((h3 u).1 (iU u hu)).2;have gp:(o :: (A++t :: B1)).Nodup:=by
   grind
  rw[this,ui,kC (x:=o) gp (by simp) (by simp) (λu _ r=>by simp[r]),kC (x:=t) gp (by simp) (by simp) (λu _ r=>by simp[r])];cases χ o <;> rfl
 have e2:ψ t=!ψ o:=by
  rw[h2.zH h1 (λu hu=>(EK u hu).1)];rw[kC (x:=o) kr.1 (by simp) (by grind) (λu hu huo=>by
   grind)]
  grind
 grind
end
def iF (l:List Int) (e:Int):Bool:=par (λd=>decide (d / 2=e)) l
theorem ir (l m:List Int) (e:Int):iF (l++m) e=(iF l e ^^ iF m e):=zP _ _ _
theorem ET {f:Int->Bool} (_hab:a≠b) (hn:l.Nodup) (hf:∀ x∈l,f x=(decide (x=a) ^^ decide (x=b))):par f l=(decide (a∈l) ^^ decide (b∈l)):=by
 have:par f l=par (λx=>decide (x=a) ^^ decide (x=b)) l:=qE hf;rw[this,ui];have one:∀ a:Int,par (λx=>decide (x=a)) l=decide (a∈l):=λa=>by
  all_goals grind [kC,j5]
 rw[one,one]
theorem EP:decide (x / 2=d / 2)=(decide (x=d) ^^ decide (x=aH d)):=by
 all_goals grind [ti,kZ,bJ,aH]
theorem fU (hn:l.Nodup) (d:Int):iF l (d / 2)=(decide (d∈l) ^^ decide (aH d∈l)) :=
 ET (Ne.symm (ti d)) hn λ_ _=>EP
theorem DF (h:∀ d∈l,d / 2≠e):iF l e=false:=j5 λd hd=>by simp[h d hd]
theorem ur (hp:aD g p) (ht:aK g p aa) (hd:d∈p.ah) (hv:v∈p.v):xM aa (λe=>decide (e=d / 2)) v=(decide (g.tail d=v) ^^ decide (g.head d=v)):=by
 have h:=ET (f:=λx=>decide (x / 2=d / 2)) (Ne.symm (ti d)) (ht.nodup v) (λ_ _=>EP);show par (λx=>decide (x / 2=d / 2)) (ay aa v)=_;rw[h];have e1:d∈ay aa v↔g.tail d=v:=by rw[at_mem hp ht hv];simp[hd]
 have e2:aH d∈ay aa v↔g.head d=v:=by rw[at_mem hp ht hv,az];simp[bD hd]
 simp[e1,e2]
theorem gD (hp:aD g p) (ht:aK g p aa) {v z:Int} (hv:v∈p.v):∀ {l:List Int} {a:Int},fz g a l z->(∀ d∈l,d∈p.ah)->xM aa (iF l) v=(decide (a=v) ^^ decide (z=v))
 | [],a,h,_=>by
  have e:a=z:=h;have:xM aa (iF []) v=false:=j5 λ_ _=>rfl;rw[this,e];simp
 | d :: l,a,h,hd=>by
  have ih:=gD hp ht hv h.2 (λx hx=>hd x (Qb _ hx));have e:iF (d :: l)=λe=>decide (e=d / 2) ^^ iF l e:=by
   funext e
   show (decide (d / 2=e) ^^ iF l e)=_;congr 1;exact decide_eq_decide.2 ⟨λq=>q.symm,λq=>q.symm⟩
  rw[e,kJ,ur hp ht (hd d (by simp)) hv,ih,h.1];cases decide (a=v) <;> cases decide (g.head d=v) <;> cases decide (z=v) <;> rfl
variable {g : Gr} {b q : Pt} {aa : List (List Int)}
def ry (E:List Int) (aa:List (List Int)):List (List Int):=aa.map λl=>l.filter λd=>decide (d / 2∈E)
theorem tI (E:List Int) (aa:List (List Int)) (v:Int):ay (ry E aa) v=(ay aa v).filter λd=>decide (d / 2∈E):=by
 grind [ay,ry]
theorem sv (P f:Int->Bool):∀ l:List Int,par f (l.filter P)=par (λd=>P d&&f d) l
 | []=>rfl
 | d :: l=>by
  cases e:P d with
  | true=>rw[List.filter_cons_of_pos e];simp only[par,e,sv P f l,Qv]
  | false=>rw[List.filter_cons_of_neg (by simp[e])];simp only[par,e,sv P f l,QB,Ql]
theorem ia.sub (h:ia g b aa) (hq:q.err g=0) (he:∀ e∈q.e,e∈b.e) (hf:∀ v∈q.v,∃ d∈q.ah,g.tail d=v) (hj:∀ u∈q.v,∀ v∈q.v,bS g q (-1) u v):ia g q (ry q.e aa):=by
 have hb:=Pt.ax h.pe;have hk:=Pt.ax hq;have ht:=h.iX;have sub:∀ d∈q.ah,d∈b.ah:=λd hd=>au.2 (he _ (au.1 hd));have jA:∀ v,0<=v->v<g.n->∀ d,d∈ay (ry q.e aa) v↔d∈q.ah/\g.tail d=v:=λv v0 v1 d=>by
  rw[tI,List.mem_filter,ht.mem v v0 v1,decide_eq_true_iff,<-au]
  grind
 have kq:aK g q (ry q.e aa):=⟨by unfold ry;rw[Qy];exact ht.len,λv=>by rw[tI];exact (ht.nodup v).filter _,jA⟩;refine⟨hq,kq,hf,hj,λc qB=>?_⟩;obtain⟨χ,mM⟩:=h.V0 (c:=λe=>decide (e∈q.e)&&c e) λv hv=>by
  have e1:xM aa (λe=>decide (e∈q.e)&&c e) v=xM (ry q.e aa) c v:=by
   grind [xM,tI,sv]
  rw[e1];by_cases r:v∈q.v
  ·exact qB v r
  unfold xM;have:ay (ry q.e aa) v=[]:=by
   cases s:ay (ry q.e aa) v with
   | nil=>rfl
   | cons d l =>
    have:=(jA v (hb.vr v hv).1 (hb.vr v hv).2 d).1 (by rw[s];simp);exact absurd (this.2 ▸ (hk.aP this.1).1) r
  rw[this];rfl
 have kP:∀ d∈q.ah,decide (d / 2∈q.e)=true:=λd hd=>decide_eq_true (au.1 hd);refine⟨χ,λd hd=>?_,λd hd=>by rw[mM.aH d (sub d hd),kP d hd,Qv]⟩;have zu:=bD hd;have h1:=mM.before (sub _ zu);rw[mM.aH d (sub d hd),bJ,kP d hd,Qv] at h1;have hm:aH d∈ay aa (g.tail (aH d)):=(at_mem hb ht (hb.aP (sub _ zu)).1).2 ⟨sub _ zu,rfl⟩;have hn:=ht.nodup (g.tail (aH d));have h2:=Kv hn (P:=λd=>decide (d / 2∈q.e)) hm (kP _ zu);have h3:=TQ hn (P:=λd=>decide (d / 2∈q.e)) (R:=λx y=>χ x=χ y) ⟨λ_=>rfl,λe=>e.symm,λe k=>e.trans k⟩ (λy hy gV=>by
  have hyb:=((at_mem hb ht (hb.aP (sub _ zu)).1).1 hy);have h4:=mM.before hyb.1;rw[show (decide (y / 2∈q.e))=false from gV,QB,Qj] at h4
  grind [before]) (qm hn hm)
 rw[h2] at h3;show χ (aA g (ry q.e aa) d)=χ d;unfold aA before;rw[tI];have h5:χ (ahead (ay aa (g.tail (aH d))) (aH d))=χ d:=by
  unfold before at h1;rw[h1];cases χ d <;> cases c (d / 2) <;> rfl
 grind
theorem Di {R:Int->Int->Prop} (hR:oS R) {K:List Int}:∀ {E:List Int},(∀ e∈E,2*e∈K/\2*e+1∈K)->∃ S T,(S++T).Perm E/\(∀ x y,gK R E x y↔gK R S x y)/\et R K=et (gK R S) K+S.length
 | [],_=>⟨[],[],List.Perm.refl _,λ_ _=>QD,rfl⟩
 | e :: E,hE=>by
  obtain⟨S,T,h1,h2,h3⟩:=Di hR (E:=E) λx hx=>hE x (Qb _ hx);obtain⟨k1,k2⟩:=hE e (by simp);have hg:=gK.eqv hR S;by_cases q:gK R S (2*e) (2*e+1)
  ·refine⟨S,e :: T,List.perm_middle.trans (h1.cons e),λx y=>?_,h3⟩
   show Jn (gK R E) (2*e) (2*e+1) x y↔_;unfold Jn;rw[h2,h2,h2,h2,h2];constructor
   ·rintro (r | ⟨r,s⟩ | ⟨r,s⟩)
    ·exact r
    ·exact hg.trans (hg.trans r q) s
    exact hg.trans (hg.trans r (hg.symm q)) s
   exact Qh
  refine⟨e :: S,T,h1.cons e,λx y=>?_,?_⟩
  ·show Jn (gK R E) (2*e) (2*e+1) x y↔Jn (gK R S) (2*e) (2*e+1) x y
   unfold Jn;rw[h2,h2,h2,h2,h2]
  have h4:=Ht hg k1 k2 q;show et R K=et (Jn (gK R S) (2*e) (2*e+1)) K+(S.length+1);omega
theorem LA (h:oS R) (hx:x∈K):1<=et R K:=by
 obtain⟨t,ht,-⟩:=(nI h K).all x hx;exact List.length_pos_of_mem ht
theorem nT (he:e∈b.e):2*e∈b.ah/\2*e+1∈b.ah:=by grind [au]
theorem ia.WZ (h:ia g b aa) (bn:b.v≠[]):Bn g b aa:=by
 have hb:=Pt.ax h.pe;have ht:=h.iX;have hW:=sR h.pe ht;refine⟨h.pe,ht,h.full,h.ku,_,hW.ak.rings,hW.ak.all,?_⟩;obtain⟨hF,hFK⟩:bw (aA g aa) _/\List.Perm _ _:=⟨hW.ak.rings,hW.ak.all⟩;generalize ((bZ g b aa).filter λf=>!f.2.isEmpty).map (·.2)=F at *;obtain⟨hB,hBK⟩:=Ha hb ht h.full;have hBl:(b.v.map λv=>(ay aa v).reverse).length=b.v.length:=Qy _;have ari:∀ {x y},Same (b.v.map λv=>(ay aa v).reverse) x y->g.tail x=g.tail y:=λ{x y} hs=>by
  rcases hs with r | ⟨l,hl,hx,hy⟩
  ·rw[r]
  obtain⟨v,hv,rfl⟩:=Qe.1 hl;have h1:=(at_mem hb ht hv).1 (Qn.1 hx);have h2:=(at_mem hb ht hv).1 (Qn.1 hy);rw[h1.2,h2.2]
 generalize (b.v.map λv=>(ay aa v).reverse)=B at *;obtain⟨v0,hv0⟩:=Qk _ bn;obtain⟨d0,rH,-⟩:=h.full v0 hv0;have hE:∀ e∈b.e,2*e∈b.ah/\2*e+1∈b.ah:=λe he=>nT he
 -- ak and ag join all
 have oO:∀ {R:Int->Int->Prop},oS R->∀ d∈b.ah,gK R b.e d (aH d):=λ{R} hR d hd=>by
  have h1:=gK.oO hR (au.1 hd);obtain⟨w1,w2⟩:=mH (d / 2);rcases (show d=2*(d / 2)\/d=2*(d / 2)+1 by omega) with r | r
  ·rw[r,w1];exact h1
  rw[r,w2];exact (gK.eqv hR _).symm h1
 have Vc:=Same.eqv hF.nodup;have Ep:=Same.eqv hB.nodup;have ak6:∀ x∈b.ah,∀ y∈b.ah,gK (Same F) b.e x y:=DP hb ht h.ku (gK.eqv Vc _) (λd hd=>by
  have h2:=gK.base (Same.step hF (hFK.mem_iff.2 (bD hd))) b.e;unfold aA at h2;rw[bg] at h2;exact (gK.eqv Vc _).trans (oO Vc d hd) h2) (oO Vc)
 have ap1:∀ x∈b.ah,∀ y∈b.ah,gK (Same B) b.e x y:=DP hb ht h.ku (gK.eqv Ep _) (λd hd=>gK.base (Same.step hB (hBK.mem_iff.2 hd)) b.e) (oO Ep);obtain⟨S,T,p1,g1,c1⟩:=Di Vc (K:=b.ah) hE;have hTe:∀ e∈T,e∈b.e:=λe he=>p1.mem_iff.1 (Qr _ he);have hSe:∀ e∈S,e∈b.e:=λe he=>p1.mem_iff.1 (Qt _ he);have n1:=p1.nodup_iff.2 hb.en;obtain⟨S2,T2,p2,g2,c2⟩:=Di Ep (K:=b.ah) (E:=T) λe he=>hE e (hTe e he);have n2:=p2.nodup_iff.2 (Qc.1 n1).2.1;have iN:∀ e∈S2,e∈T:=λe he=>p2.mem_iff.1 (Qt _ he);have hT2:T2=[]:=by
  refine Qq λKN=>?_;obtain⟨e,he⟩:=Qk _ KN;have heT:e∈T:=p2.mem_iff.1 (Qr _ he);have aht:∀ f∈b.e,∀ v∈b.v,xM aa (λx=>decide (x=f)) v=(decide (g.tail (2*f)=v) ^^ decide (g.tail (2*f+1)=v)):=λf hf v hv=>by
   have:=ur hb ht (nT hf).1 hv
   grind [dP,vC]
  have hzero:∀ v,xM aa (λ_=>false) v=false:=λv=>j5 λ_ _=>rfl;obtain⟨c,dD,bI⟩:=gK.least (R:=Same B) (Q:=λx y=>∃ c:Int->Bool,(∀ f,c f=true->f∈S2)/\∀ v∈b.v,xM aa c v=(decide (g.tail x=v) ^^ decide (g.tail y=v)))
   ⟨λx=>⟨λ_=>false,λf hf=>(by cases hf),λv _=>by grind⟩,λ{x y} ⟨c,k1,k2⟩=>⟨c,k1,λv hv=>by grind⟩,λ{x y z} ⟨c,k1,k2⟩ ⟨k,m1,m2⟩=>⟨λf=>c f ^^ k f,λf hf=>by
    cases q:c f with
    | true=>exact k1 f q
    | false=>exact m1 f (by have hf2:(c f ^^ k f)=true:=hf;rwa[q,Ql] at hf2),λv hv=>by
    rw[kJ,k2 v hv,m2 v hv];generalize decide (g.tail x=v)=a;generalize decide (g.tail y=v)=b;generalize decide (g.tail z=v)=c;cases a <;> cases b <;> cases c <;> rfl⟩⟩
   (λx y jj=>⟨λ_=>false,λf hf=>(by cases hf),λv _=>by grind⟩)
   (λf hf=>⟨λx=>decide (x=f),λx hx=>by grind,aht f (hTe f (iN f hf))⟩) ((g2 _ _).1 (gK.oO Ep heT))
  have Tc:c e=false:=Qx.2 λq=>(Qc.1 n2).2.2 e (dD e q) e he rfl;obtain⟨χ,mM⟩:=h.V0 (c:=λf=>c f ^^ decide (f=e)) λv hv=>by rw[kJ,bI v hv,aht e (hTe e heT) v hv,QC]
  have cX:∀ x y,gK (Same F) S x y->χ x=χ y:=λx y jj=>gK.least (R:=Same F) (Q:=λx y=>χ x=χ y) ⟨λ_=>rfl,λq=>q.symm,λq r=>q.trans r⟩
   (λx y hs=>Same.least (Q:=λx y=>χ x=χ y) ⟨λ_=>rfl,λq=>q.symm,λq r=>q.trans r⟩ hF (λw hw=>(mM.next w (hFK.mem_iff.1 hw)).symm) hs)
   (λf hf=>by
    have hd:=nT (hSe f hf);have h3:=mM.aH (2*f) hd.1;rw[(mH f).1,show 2*f / 2=f by omega] at h3;have h4:c f=false:=Qx.2 λq=>(Qc.1 n1).2.2 f hf f (iN f (dD f q)) rfl;have h5:f≠e:=λq=>(Qc.1 n1).2.2 f hf e heT q;rw[h4,decide_eq_false h5] at h3;rw[h3];simp) jj
  have qn:=nT (hTe e heT);have h6:=cX _ _ ((g1 _ _).1 (ak6 _ qn.1 _ qn.2));have h7:=mM.aH (2*e) qn.1;rw[(mH e).1,show 2*e / 2=e by omega,Tc,<-h6] at h7;simp at h7
 subst hT2;rw[List.append_nil] at p2;have l1:=p1.length_eq;rw[List.length_append] at l1;have l2:=p2.length_eq;have e1:et (Same F) b.ah=F.length:=zt hF hFK;have e2:et (Same B) b.ah=B.length:=zt hB hBK;have q1:=LA (gK.eqv Vc S) rH;have q2:=LA (gK.eqv Ep S2) rH;have hup:=tW hB hBK (S:=b.e) hE (C:=F) (hF.congr λx hx=>by
  have:=hFK.mem_iff.1 hx;rw[Fk hb.en,if_pos (au.1 this)];rfl) hFK
 have q3:=sg (gK.eqv Ep b.e) ap1;omega
structure oq (g:Gr) (b:Pt) (on:Int->Bool) (S:List Int):Prop where
 sT:LD g on S
 shut:∀ e∈S,∀ f∈b.e,Lk g on e f->f∈S
 sub:∀ e∈S,e∈b.e
structure xH (g:Gr) (b:Pt) (aa:List (List Int)) (on:Int->Bool) (S:List Int) (c:Int->Bool) (x y:Int):Prop where
 Dy:∀ e,c e=true->e∈S
 xM:∀ v∈b.v,xM aa c v=(decide (x=v) ^^ decide (y=v))
 one:∃ q∈b.ah,g.tail q=x/\q / 2∈S/\∀ u∈b.ah,g.tail u=x->c (u / 2)=decide (u=q)
 none:∀ v,on v=true->v≠x->v≠y->∀ u∈b.ah,g.tail u=v->c (u / 2)=false
structure im (g:Gr) (b:Pt) (aa:List (List Int)) (on:Int->Bool) (S:List Int) (m v:Int) (c:Int->Bool):Prop where
 Dy:∀ e,c e=true->e∈S
 xM:∀ u∈b.v,Plain.xM aa c u=(decide (m=u) ^^ decide (v=u))
 one:on v=true->∃ q∈b.ah,g.tail q=v/\q / 2∈S/\∀ u∈b.ah,g.tail u=v->c (u / 2)=decide (u=q)
 none:∀ w,on w=true->w≠v->∀ u∈b.ah,g.tail u=w->c (u / 2)=false
variable {g : Gr} {b : Pt} {aa : List (List Int)} {on : Int -> Bool} {S : List Int}
theorem jK (he:e∈b.e) (h:cE g e v):∃ d∈b.ah,g.tail d=v/\d / 2=e:=by
 grind [pG,aX]
theorem im.start (hm:on m=false):im g b aa on S m m (λ_=>false) :=
 ⟨λe h=>(by cases h),λu hu=>by rw[QC];exact j5 λ_ _=>rfl,λh=>(by rw[hm] at h;cases h),λ_ _ _ _ _ _=>rfl⟩
theorem im.step (hp:aD g b) (ht:aK g b aa) {c:Int->Bool} (h:im g b aa on S m (g.tail d) c) (hd:d∈b.ah) (hS:d / 2∈S) (hu:on (g.tail d)=false) (bn:g.tail d≠g.head d) :
  im g b aa on S m (g.head d) (λe=>c e ^^ decide (e=d / 2)):=by
 have Ms:∀ u∈b.ah,u / 2=d / 2->u=d\/u=aH d:=λu _ e=>kZ e;refine⟨λe he=>?_,λu hu=>?_,λho=>⟨aH d,bD hd,by rw[az],by grind [bJ],λu hud jT=>?_⟩,λw hw LX u hud huw=>?_⟩
 ·cases q:c e with
  | true=>exact h.Dy e q
  | false =>
   grind
 ·rw[kJ,h.xM u hu,ur hp ht hd hu]
  grind
 ·have h0:=h.none _ ho (Ne.symm bn) u hud jT
  all_goals grind [bJ]
 have hwt:w≠g.tail d:=λe=>by rw[e,hu] at hw;cases hw
 have h0:=h.none w hw hwt u hud huw
 all_goals grind [az]
theorem vO (hl:∀ e∈b.e,(g.at e).1≠(g.at e).2) (hd:d∈b.ah):g.tail d≠g.head d:=by
 all_goals grind [au,Gr.tail,Gr.head]
theorem oq.P8 (hp:aD g b) (ht:aK g b aa) (hl:∀ e∈b.e,(g.at e).1≠(g.at e).2) (hS:oq g b on S) :
  ∃ cc:Int->Int->Bool,∀ x∈bC g on S,∀ y∈bC g on S,x≠y->xH g b aa on S (λe=>cc x e ^^ cc y e) x y:=by
 by_cases hm:∃ e0∈S,∃ m,cE g e0 m/\on m=false
 ·obtain⟨e0,lZ,m,hm0,rX⟩:=hm
  let Good:Int->Prop:=λe=>∀ v,cE g e v->on v=false->∃ c,im g b aa on S m v c
  have along:∀ e∈S,∀ w,cE g e w->on w=false->(∃ c,im g b aa on S m w c)->∀ v,cE g e v->v≠w->∃ c,im g b aa on S m v c:=by
   rintro e he w hw hwo ⟨c,hc⟩ v hv hvw;obtain⟨d,hd,hdw,rfl⟩:=jK (hS.sub e he) hw;have hhv:v=g.head d:=(fu hv).resolve_left λq=>hvw (q.trans hdw);rw[<-hdw] at hc hwo;have:=hc.step hp ht hd he hwo (vO hl hd)
   grind
  have g0:Good e0:=λv hv ho=>by
   by_cases q:v=m
   ·subst q;exact⟨_,im.start ho⟩
   exact along e0 lZ m hm0 rX ⟨_,im.start rX⟩ v hv q
  have gl:∀ e∈S,∀ f∈S,Lk g on e f->Good e->Good f:=λe he f hf ⟨w,hw,h1,h2⟩ hg v hv ho=>by
   all_goals grind
  have av2:∀ f∈S,Good f:=λf hf=>by
   have:=hS.sT (λe f=>Good e↔Good f) ⟨λ_=>QD,λh=>h.symm,λh k=>h.trans k⟩ (λe he f hf hk=>⟨gl e he f hf hk,gl f hf e he (by obtain⟨w,a,b,c⟩:=hk;exact⟨w,a,c,b⟩)⟩) e0 lZ f hf;exact this.1 g0
  have kq:∀ x,∃ c:Int->Bool,x∈bC g on S->im g b aa on S m x c:=λx=>by
   by_cases hx:x∈bC g on S
   ·obtain⟨ho,e,he,hex⟩:=bB.1 hx
    obtain⟨d,hd,hdx,rfl⟩:=jK (hS.sub e he) hex;by_cases hu:on (g.head d)=false
    ·grind [eM,vO]
    -- both ends drawn: alone
    exfalso;have hu:on (g.head d)=true:=by cases q:on (g.head d);exact absurd q hu;rfl
    have qQ:∀ v,cE g (d / 2) v->on v=true:=λv hv=>by
     all_goals grind [fu]
    have:=hS.sT (λa c=>a=d / 2↔c=d / 2) ⟨λ_=>QD,λh=>h.symm,λh k=>h.trans k⟩ (λa _ c _ ⟨w,hw,h1,h2⟩=>⟨λq=>absurd (qQ w (q ▸ h1)) (by grind),λq=>absurd (qQ w (q ▸ h2)) (by grind)⟩) (d / 2) he e0 lZ
    grind
   exact⟨λ_=>false,λq=>absurd q hx⟩
  obtain⟨cc,xQ⟩:∃ cc:Int->Int->Bool,∀ x,x∈bC g on S->im g b aa on S m x (cc x):=⟨λx=>Classical.choose (kq x),λx=>Classical.choose_spec (kq x)⟩;refine⟨cc,λx hx y hy jj=>?_⟩;have h1:=xQ x hx;have h2:=xQ y hy;generalize cc x=c1 at *;generalize cc y=c2 at *;have ox:=(bB.1 hx).1;refine⟨λe he=>?_,λv hv=>?_,?_,λv hv hvx hvy u hu jT=>?_⟩
  ·cases q:c1 e with
   | true=>exact h1.Dy e q
   | false =>
    rw[q,Ql] at he;exact h2.Dy e he
  ·rw[kJ,h1.xM v hv,h2.xM v hv]
   grind
  ·obtain⟨q,q1,q2,q3,q4⟩:=h1.one ox
   exact⟨q,q1,q2,q3,λu hu jT=>by rw[q4 u hu jT,h2.none x ox jj u hu jT,Qj]⟩
  rw[h1.none v hv hvx u hu jT,h2.none v hv hvy u hu jT];rfl
 have kP:∀ e∈S,∀ v,cE g e v->on v=true:=λe he v hv=>by
  grind
 by_cases h0:S=[]
 ·refine⟨λ_ _=>false,λx hx=>?_⟩
  grind [bB]
 obtain⟨e0,lZ⟩:=Qk S h0;have cX:∀ f∈S,f=e0:=λf hf=>by
  have:=hS.sT (λa c=>a=e0↔c=e0) ⟨λ_=>QD,λh=>h.symm,λh k=>h.trans k⟩ (λa ha c _ ⟨w,hw,h1,h2⟩=>by grind) e0 lZ f hf
  grind
 have dp:∀ x∈bC g on S,cE g e0 x:=λx hx=>by
  grind [bB]
 refine⟨λx e=>decide (x=(g.at e0).1)&&decide (e=e0),λx hx y hy jj=>?_⟩;have hc:(λe=>(decide (x=(g.at e0).1)&&decide (e=e0)) ^^ (decide (y=(g.at e0).1)&&decide (e=e0)))=λe=>decide (e=e0):=by
  funext e
  rcases dp x hx with a | a <;> rcases dp y hy with c | c
  all_goals grind
 rw[hc];obtain⟨d,hd,hdx,rfl⟩:=jK (hS.sub e0 lZ) (dp x hx);have hdy:g.head d=y:=((fu (dp y hy)).resolve_left λq=>jj (hdx.symm.trans q.symm)).symm;refine⟨λe he=>by grind,λv hv=>by grind [ur],⟨d,hd,hdx,lZ,λu hu jT=>?_⟩,λv hv hvx hvy u hu jT=>?_⟩
 ·refine decide_eq_decide.2 ⟨λe=>?_,λe=>by rw[e]⟩
  rcases kZ e with q | q
  ·exact q
  rw[q,az,hdy] at jT;exact absurd jT.symm jj
 refine decide_eq_false λe=>?_;rcases kZ e with q | q
 ·rw[q,hdx] at jT;exact hvx jT.symm
 rw[q,az,hdy] at jT;exact hvy jT.symm
theorem oq.SV (hp:aD g b) (ht:aK g b aa) (hS:oq g b on S) {c:Int->Bool} (h:mF g b aa c χ) (h0:∀ e∈S,c e=false)
  (h1:∀ v,on v=false->(∃ e∈S,cE g e v)->∀ u∈b.ah,g.tail u=v->c (u / 2)=false):∀ d∈b.ah,d / 2∈S->∀ d'∈b.ah,d' / 2∈S->χ d=χ d':=by
 have xq:∀ d∈b.ah,d / 2∈S->χ (aH d)=χ d:=λd hd hs=>by rw[h.aH d hd,h0 _ hs,Qj]
 have atT:∀ d∈b.ah,d / 2∈S->∀ d'∈b.ah,d' / 2=d / 2->χ d'=χ d:=λd hd hs d' OP e=>by
  all_goals grind [kZ]
 intro d hd hs d' OP hs';have hm:∀ e∈S,2*e∈b.ah/\2*e / 2=e:=λe he=>⟨au.2 (by rw[show 2*e / 2=e by omega];exact hS.sub e he),by omega⟩;have qB:∀ d∈b.ah,d / 2∈S->χ d=χ (2*(d / 2)):=λd hd hs=>by
  grind
 have:=hS.sT (λe f=>χ (2*e)=χ (2*f)) ⟨λ_=>rfl,λh=>h.symm,λh k=>h.trans k⟩ (λe he f hf ⟨v,hv,e1,f1⟩=>by
  obtain⟨d1,k1,k2,rfl⟩:=jK (hS.sub e he) e1;obtain⟨d2,k3,k4,rfl⟩:=jK (hS.sub f hf) f1;rw[<-qB d1 k1 he,<-qB d2 k3 hf];exact h.same hp ht k1 k3 (k2.trans k4.symm) λu hu Og=>h1 v hv ⟨_,he,e1⟩ u hu (Og.trans k2)) (d / 2) hs (d' / 2) hs'
 grind
structure fg (g:Gr) (b:Pt) (on:Int->Bool) (C1 C2:List Int) (x y:Int):Prop where
 l1:fz g x C1 y
 l2:fz g y C2 x
 ne:x≠y
 tn:((C1++C2).map g.tail).Nodup
 en:((C1++C2).map (· / 2)).Nodup
 dr:∀ d∈C1++C2,d∈b.ah
 on:∀ d∈C1++C2,on (g.tail d)=true
variable {g : Gr} {b : Pt} {aa : List (List Int)} {on : Int -> Bool} {C1 C2 : List Int} {x y : Int}
theorem fg.symm (h:fg g b on C1 C2 x y):fg g b on C2 C1 y x:=by
 have hp:(C2++C1).Perm (C1++C2):=Qi;exact⟨h.l2,h.l1,Ne.symm h.ne,(hp.map _).nodup_iff.2 h.tn,(hp.map _).nodup_iff.2 h.en,λd hd=>h.dr d (hp.mem_iff.1 hd),λd hd=>h.on d (hp.mem_iff.1 hd)⟩
theorem sh (h:fz g x l x):(l.map g.head).Perm (l.map g.tail):=by
 cases l with
 | nil=>simp
 | cons d l =>
  rw[eh h,List.map_cons,h.1]
  grind
theorem fg.link (h:fg g b on C1 C2 x y):fz g x (C1++C2) x:=fz.append.2 ⟨y,h.l1,h.l2⟩
theorem fg.hn (h:fg g b on C1 C2 x y):((C1++C2).map g.head).Nodup:=(sh h.link).nodup_iff.2 h.tn
theorem fg.c1 (h:fg g b on C1 C2 x y):∃ o l,C1=o :: l/\g.tail o=x:=by
 cases hC:C1 with
 | nil=>have:=h.l1;rw[hC] at this;exact absurd this h.ne
 | cons o l=>exact⟨o,l,rfl,by have:=h.l1;rw[hC] at this;exact this.1⟩
theorem mW (h:fz g x l y) (bn:x≠y):∃ m d,l=m++[d]/\g.head d=y:=by
 rcases Qs l with q | ⟨m,d,q⟩
 ·rw[q] at h;exact absurd h bn
 all_goals grind [gO]
theorem fg.hZ (h:fg g b on C1 C2 x y) (hd:d∈C1++C2) (he:e∈C1++C2) (q:g.tail d=g.tail e):d=e:=dT h.tn d hd e he q
theorem fg.tQ (h:fg g b on C1 C2 x y) (hd:d∈C1++C2) (he:e∈C1++C2) (q:g.head d=g.head e):d=e:=dT h.hn d hd e he q
theorem fg.mX (h:fg g b on C1 C2 x y) (hd:d∈C1++C2):aH d ∉ C1++C2:=λq=>ti d (dT h.en _ q _ hd (bJ d))
theorem fg.nodup (h:fg g b on C1 C2 x y):(C1++C2).Nodup:=dB h.tn
theorem fg.n1 (h:fg g b on C1 C2 x y):C1.Nodup:=(Qc.1 h.nodup).1
theorem fg.Oq (h:fg g b on C1 C2 x y) (h1:d∈C2):d ∉ C1:=λq=>(Qc.1 h.nodup).2.2 d q d h1 rfl
theorem m1 (h:d∈C1):d∈C1++C2:=by grind
theorem m2 (h:d∈C2):d∈C1++C2:=by grind
theorem yB (h:fz g x l z) (he:e∈l) (bn:g.tail e≠x):∃ d∈l,g.head d=g.tail e:=by
 obtain⟨A,B,rfl⟩:=Qd he;rcases Qs A with q | ⟨A,d,q⟩
 ·rw[q] at h;exact absurd h.1 bn
 rw[List.concat_eq_append] at q;subst q;have h':fz g x (A++d :: e :: B) z:=by simpa using h
 exact⟨d,by simp,jC h'⟩
theorem mh {f:Int->Bool}:∀ {l:List Int},(∀ U d e V,l=U++d :: e :: V->f d=f e)->∀ d∈l,∀ e∈l,f d=f e
 | [],_,d,hd,_,_=>by simp at hd
 | [a],_,d,hd,e,he=>by rw[Qp.1 hd,Qp.1 he]
 | a :: c :: l,h,d,hd,e,he=>by
  have ih:=mh (l:=c :: l) (λU d e V q=>h (a :: U) d e V (by rw[q];rfl));have h0:=h [] a c l rfl;rcases Qf.1 hd with q | q <;> rcases Qf.1 he with r | r
  ·rw[q,r]
  ·rw[q,h0];exact ih c (by simp) e r
  ·rw[r,h0];exact ih d q c (by simp)
  exact ih d q e r
theorem fg.at1 (h:fg g b on C1 C2 x y) :iF C1 (u / 2)=(decide (u∈C1) ^^ decide (aH u∈C1)):=fU h.n1 u
theorem fg.in1 (h:fg g b on C1 C2 x y) (hd:d∈C1) (he:e∈C1) (qn:g.head d=g.tail e) (hu:g.tail u=g.tail e):iF C1 (u / 2)=(decide (u=e) ^^ decide (u=aH d)):=by
 rw[h.at1];have e1:u∈C1↔u=e:=⟨λq=>h.hZ (m1 q) (m1 he) hu,λq=>q ▸ he⟩;have e2:aH u∈C1↔u=aH d:=⟨λq=>by
  have:=h.tQ (m1 q) (m1 hd) (by rw[<-az,bg,hu,qn]);rw[<-this,bg],λq=>by rw[q,bg];exact hd⟩
 grind
theorem fg.at_x (h:fg g b on C1 C2 x y) (ho:o∈C1) (Ir:g.tail o=x) (hu:g.tail u=x):iF C1 (u / 2)=decide (u=o):=by
 rw[h.at1];have e1:u∈C1↔u=o:=⟨λq=>h.hZ (m1 q) (m1 ho) (hu.trans Ir.symm),λq=>q ▸ ho⟩;have e2:aH u ∉ C1:=λq=>by
  obtain⟨m,t,hm,ht⟩:=mW h.l2 (Ne.symm h.ne);have:aH u=t:=h.tQ (m1 q) (m2 (by grind)) (by grind [az,bg])
  grind [fg.Oq]
 grind
theorem fg.in2 (h:fg g b on C1 C2 x y) (hd:d∈C2) (he:e∈C2) (qn:g.head d=g.tail e) (hu:g.tail u=g.tail e):iF C1 (u / 2)=false:=by
 rw[h.at1];have e1:u ∉ C1:=λq=>h.Oq he (h.hZ (m1 q) (m2 he) hu ▸ q);have e2:aH u ∉ C1:=λq=>h.Oq hd (h.tQ (m1 q) (m2 hd) (by grind [az,bg]) ▸ q);simp[e1,e2]
theorem fg.all (h:fg g b on C1 C2 x y) (hd:d∈C1++C2) (he:e∈C1++C2) (qn:g.head d=g.tail e) (hu:g.tail u=g.tail e):iF (C1++C2) (u / 2)=(decide (u=e) ^^ decide (u=aH d)):=by
 rw[fU h.nodup]
 grind [fg.hZ,aH,fg.tQ,az,bg]
theorem fg.side (hp:aD g b) (ht:aK g b aa) (h:fg g b on C1 C2 x y) (mM:mF g b aa (iF (C1++C2)) χ):∀ d∈C1++C2,∀ e∈C1++C2,χ d=χ e:=by
 refine mh λU d e V hs=>?_;have hd:d∈C1++C2:=by rw[hs];simp
 have he:e∈C1++C2:=by rw[hs];simp
 have hl:=h.link;rw[hs] at hl;have qn:=jC hl;have bn:aH d≠e:=λq=>h.mX hd (q ▸ he);have hc:iF (C1++C2) (d / 2)=true:=by rw[fU h.nodup];simp[hd,h.mX hd]
 have h2:=mM.two hp ht (bD (h.dr d hd)) (h.dr e he) (by rw[az,qn]) bn (λu hu jT=>by
  rw[az,qn] at jT;rw[h.all hd he qn jT,Bool.xor_comm])
 rw[h2,mM.aH d (h.dr d hd),hc];cases χ d <;> rfl
theorem fg.qd (hp:aD g b) (ht:aK g b aa) (h:fg g b on C1 C2 x y) (mM:mF g b aa (iF (C1++C2)) χ) (hcS:xH g b aa on S cS x y)
  (Ph:mF g b aa (λe=>iF C1 e ^^ cS e) ψ) (lr:∀ d∈C1++C2,d / 2 ∉ S) :
  ∃ κ k α:Bool,(∀ d∈C1++C2,χ d=κ)/\(∀ d∈C1,ψ d=k)/\(∀ d∈C2,ψ d=α)/\(∃ q∈b.ah,q / 2∈S/\((χ q ^^ κ) ^^ (α ^^ k))=true) /\
   (∀ d∈C2,g.tail d≠y->∀ u∈b.ah,g.tail u=g.tail d->ψ u=α)/\∀ d∈C1,g.tail d≠x->∀ u∈b.ah,g.tail u=g.tail d->(χ u ^^ ψ u)=(κ ^^ k):=by
 obtain⟨o,l,hC1,Ir⟩:=h.c1;obtain⟨m,t,WB,htx⟩:=mW h.l2 (Ne.symm h.ne);have ho:o∈C1:=by rw[hC1];simp
 have Aw:t∈C2:=by rw[WB];simp
 have aio:∀ d∈C1++C2,cS (d / 2)=false:=λd hd=>by
  cases q:cS (d / 2) with
  | false=>rfl
  | true=>exact absurd (hcS.Dy _ q) (lr d hd)
 have xy1:∀ e∈C1,g.tail e≠y:=λe he q=>by
  obtain⟨o2,l2,hC,hoy⟩:=h.symm.c1;have FU:o2∈C2:=by rw[hC];simp
  exact h.Oq FU (h.hZ (m1 he) (m2 FU) (q.trans hoy.symm) ▸ he)
 have xy2:∀ e∈C2,g.tail e≠x:=λe he q=>h.Oq he (h.hZ (m2 he) (m1 ho) (q.trans Ir.symm) ▸ ho)
 -- inside the first AJ
 have in1:∀ d∈C1,∀ e∈C1,g.head d=g.tail e->g.tail e≠x->∀ u∈b.ah,g.tail u=g.tail e->(iF C1 (u / 2) ^^ cS (u / 2))=(decide (u=e) ^^ decide (u=aH d)):=λd hd e he qn hex u hu jT=>by
  rw[h.in1 hd he qn jT,hcS.none (g.tail e) (h.on e (m1 he)) hex (xy1 e he) u hu jT,Qj]
 have in2:∀ d∈C2,∀ e∈C2,g.head d=g.tail e->g.tail e≠y->∀ u∈b.ah,g.tail u=g.tail e->(iF C1 (u / 2) ^^ cS (u / 2))=false:=λd hd e he qn hey u hu jT=>by
  rw[h.in2 hd he qn jT,hcS.none (g.tail e) (h.on e (m2 he)) (xy2 e he) hey u hu jT];rfl
 have ahd:=h.side hp ht mM;have aeS:∀ d∈C1,∀ e∈C1,ψ d=ψ e:=by
  refine mh λU d e V hs=>?_;have hd:d∈C1:=by rw[hs];simp
  have he:e∈C1:=by rw[hs];simp
  have hl:=h.l1;rw[hs] at hl;have qn:=jC hl;have bn:aH d≠e:=λq=>h.mX (m1 hd) (q ▸ m1 he);have hex:g.tail e≠x:=λq=>by
   have e1:e=o:=h.hZ (m1 he) (m1 ho) (q.trans Ir.symm);have hn:=h.n1;rw[hs] at hn;rw[hC1] at hs;cases U with
   | nil=>injection hs with s1 s2;rw[<-s1,e1] at hn;simp at hn
   | cons a U =>
    grind
  have hc:(iF C1 (d / 2) ^^ cS (d / 2))=true:=by
   rw[fU h.n1,aio d (m1 hd)];have:aH d ∉ C1:=λq=>h.mX (m1 hd) (m1 q);simp[hd,this]
  have h2:=Ph.two hp ht (bD (h.dr d (m1 hd))) (h.dr e (m1 he)) (by rw[az,qn]) bn (λu hu jT=>by
   grind [az])
  rw[h2,Ph.aH d (h.dr d (m1 hd)),hc];cases ψ d <;> rfl
 have bI:∀ d∈C2,(iF C1 (d / 2) ^^ cS (d / 2))=false:=λd hd=>by
  rw[fU h.n1,aio d (m2 hd)];have:aH d ∉ C1:=λq=>h.mX (m2 hd) (m1 q)
  grind [fg.Oq]
 have tw2:∀ d∈C2,ψ (aH d)=ψ d:=λd hd=>by rw[Ph.aH d (h.dr d (m2 hd)),bI d hd,Qj]
 have hey:∀ U d e V,C2=U++d :: e :: V->g.tail e≠y:=λU d e V hs q=>by
  obtain⟨o2,l2,hC,hoy⟩:=h.symm.c1;have FU:o2∈C2:=by rw[hC];simp
  have he:e∈C2:=by rw[hs];simp
  have e1:e=o2:=h.hZ (m2 he) (m2 FU) (q.trans hoy.symm);have hn:=h.symm.n1;rw[hs] at hn;rw[hC] at hs;cases U with
  | nil=>injection hs with s1 s2;rw[<-s1,e1] at hn;simp at hn
  | cons a U =>
   grind
 have ahv:∀ d∈C2,∀ e∈C2,ψ d=ψ e:=by
  refine mh λU d e V hs=>?_;have hd:d∈C2:=by rw[hs];simp
  have he:e∈C2:=by rw[hs];simp
  have hl:=h.l2;rw[hs] at hl;have qn:=jC hl;rw[<-tw2 d hd];exact Ph.same hp ht (bD (h.dr d (m2 hd))) (h.dr e (m2 he)) (by rw[az,qn]) λu hu jT=>in2 d hd e he qn (hey U d e V hs) u hu (by grind [az])
 refine⟨χ o,ψ o,ψ t,λd hd=>ahd d hd o (m1 ho),λd hd=>aeS d hd o ho,λd hd=>ahv d hd t Aw,?_,λe he aeE u hu jT=>?_,λe he hex u hu jT=>?_⟩
 ·obtain⟨q,q1,q2,q3,q4⟩:=hcS.one
  refine⟨q,q1,q3,?_⟩;have al9:g.tail (aH t)=x:=by rw[az,htx]
  have Zk:∀ d∈C1++C2,d / 2≠q / 2:=λd hd r=>lr d hd (r ▸ q3);have h3:=mM.three Ph hp ht (o:=o) (t:=aH t) (q:=q) (h.dr o (m1 ho)) (bD (h.dr t (m2 Aw))) q1 (al9.trans Ir.symm) (q2.trans Ir.symm) (λr=>h.mX (m2 Aw) (r ▸ m1 ho)) (λr=>Zk o (m1 ho) (by rw[r])) (λr=>Zk t (m2 Aw) (by grind [bJ]))
   (λu hu jT=>h.all (m2 Aw) (m1 ho) (htx.trans Ir.symm) jT)
   (λu hu jT=>by
    rw[Ir] at jT;rw[h.at_x ho Ir jT,q4 u hu jT])
  grind
 ·obtain⟨d,hd,qn⟩:=yB h.l2 he aeE
  rw[ahv t Aw e he];exact Ph.same hp ht hu (h.dr e (m2 he)) jT λw hw LX=>in2 d hd e he qn aeE w hw (LX.trans jT)
 obtain⟨d,hd,qn⟩:=yB h.l1 he hex;rw[<-ahd e (m1 he) o (m1 ho),<-aeS e he o ho];exact mM.alike Ph hp ht hu (h.dr e (m1 he)) jT λw hw LX=>by
  have hwe:=LX.trans jT;rw[h.all (m1 hd) (m1 he) qn hwe,in1 d hd e he qn hex w hw hwe]
def bj (L M:List Int):Prop:=∃ U V,L=U++V/\M=V++U
def Crs (L S T:List Int):Prop:=∃ x∈S,∃ y∈S,∃ z∈T,∃ w∈T,∃ A B,bj L (x :: A++y :: B)/\z∈A/\w∈B
def Tri (S T:List Int):Prop:=∃ x y z,(x∈S/\x∈T)/\(y∈S/\y∈T)/\(z∈S/\z∈T)/\x≠y/\y≠z/\x≠z
def jh (L S T:List Int):Prop:=Crs L S T\/Tri S T
theorem bj.refl (L:List Int):bj L L:=⟨[],L,rfl,by simp⟩
theorem bj.symm:bj L M->bj M L:=λ⟨U,V,h,k⟩=>⟨V,U,k,h⟩
theorem bj.perm:bj L M->L.Perm M:=λ⟨U,V,h,k⟩=>by rw[h,k];exact Qi
theorem bj.trans:bj L M->bj M N->bj L N:=λ⟨U,V,h,k⟩ ⟨X,Y,h2,k2⟩=>by
 rw[k] at h2;rcases List.append_eq_append_iff.1 h2 with ⟨Z,e1,e2⟩ | ⟨Z,e1,e2⟩
 .-- X=V++Z,U=Z++Y
  exact⟨Z,Y++V,by rw[h,e2];simp,by rw[k2,e1];simp⟩
 -- V=X++Z,Y=Z++U
 exact⟨U++X,Z,by rw[h,e1];simp,by rw[k2,e2];simp⟩
theorem jh.symm (h:jh L S T):jh L T S:=by
 rcases h with ⟨x,hx,y,hy,z,hz,w,hw,A,B,hr,hA,hB⟩ | ⟨x,y,z,a,b,c,d⟩
 ·obtain⟨A1,A2,rfl⟩:=Qd hA
  obtain⟨B1,B2,rfl⟩:=Qd hB;refine Qh ⟨z,hz,w,hw,y,hy,x,hx,A2++y :: B1,B2++x :: A1,hr.trans ⟨x :: A1,z :: A2++y :: (B1++w :: B2),by simp,by simp⟩,by simp,by simp⟩
 exact QA ⟨x,y,z,a.symm,b.symm,c.symm,d⟩
theorem jh.vh (h:jh L S T) (hr:bj L M):jh M S T:=by
 rcases h with ⟨x,hx,y,hy,z,hz,w,hw,A,B,h,k⟩ | h
 ·exact Qh ⟨x,hx,y,hy,z,hz,w,hw,A,B,hr.symm.trans h,k⟩
 exact QA h
structure ki (g:Gr) (b:Pt) (on:Int->Bool) (C:List Int):Prop where
 link:∃ x,fz g x C x
 tn:(C.map g.tail).Nodup
 en:(C.map (· / 2)).Nodup
 dr:∀ d∈C,d∈b.ah
 on:∀ d∈C,on (g.tail d)=true
variable {g : Gr} {b : Pt} {aa : List (List Int)} {on : Int -> Bool} {C S T : List Int}
theorem ki.yA (h:ki g b on C) (hr:bj C D):ki g b on D:=by
 have hp:=hr.perm;obtain⟨U,V,rfl,rfl⟩:=hr;obtain⟨x,hl⟩:=h.link;obtain⟨m,h1,h2⟩:=fz.append.1 hl;exact⟨⟨m,fz.append.2 ⟨x,h2,h1⟩⟩,(hp.map _).nodup_iff.1 h.tn,(hp.map _).nodup_iff.1 h.en,λd hd=>h.dr d (hp.mem_iff.2 hd),λd hd=>h.on d (hp.mem_iff.2 hd)⟩
theorem ki.RG (h:ki g b on C) {t:Int} (e:C=o :: C1++t :: C2):fg g b on (o :: C1) (t :: C2) (g.tail o) (g.tail t):=by
 subst e;obtain⟨x,hl⟩:=h.link;obtain⟨m,h1,h2⟩:=fz.append.1 hl;have e1:g.tail o=x:=h1.1;have e2:g.tail t=m:=h2.1;subst e1 e2;refine⟨h1,h2,λq=>?_,h.tn,h.en,h.dr,h.on⟩;have:=h.tn
 grind
theorem ki.Mg (h:ki g b on C) (hd:d∈C):on (g.head d)=true:=by
 obtain⟨x,hl⟩:=h.link;have:g.head d∈C.map g.tail:=(sh hl).mem_iff.1 (Qe.2 ⟨d,hd,rfl⟩);obtain⟨e,he,q⟩:=Qe.1 this;rw[<-q];exact h.on e he
theorem kY (h:bj C D):iF C=iF D:=by
 obtain⟨U,V,rfl,rfl⟩:=h
 grind [ir]
theorem nR (h:bj (C.map f) M):∃ D,bj C D/\D.map f=M:=by
 obtain⟨U,V,h1,h2⟩:=h;obtain⟨U',V',rfl,e1,e2⟩:=Qm.1 h1;exact⟨V'++U',⟨U',V',rfl,rfl⟩,by grind⟩
theorem qM (h:D.map f=x :: A++y :: B):∃ o C1 t C2,D=o :: C1++t :: C2/\f o=x/\C1.map f=A/\f t=y/\C2.map f=B:=by
 obtain⟨D1,D2,rfl,e1,e2⟩:=Qm.1 h;obtain⟨o,C1,rfl,e3,e4⟩:=Qo.1 e1;obtain⟨t,C2,rfl,e5,e6⟩:=Qo.1 e2
 grind
theorem oq.Ci (hp:aD g b) (ht:aK g b aa) (hC:ki g b on C) (hT:oq g b on T) (lr:∀ d∈C,d / 2 ∉ T) (mM:mF g b aa (iF C) χ) :
  ∀ d∈b.ah,d / 2∈T->∀ d'∈b.ah,d' / 2∈T->χ d=χ d' :=
 hT.SV hp ht mM (λe he=>DF λd hd q=>lr d hd (q ▸ he)) λv hv _ u _ jT=>by
  rw[fU (dB hC.tn)];have e1:u ∉ C:=λq=>by rw[<-jT,hC.on u q] at hv;cases hv
  have e2:aH u ∉ C:=λq=>by
   have:=hC.Mg q;rw[<-az,bg,jT,hv] at this;cases this
  simp[e1,e2]
theorem oq.qd (hp:aD g b) (ht:aK g b aa) (hC:ki g b on (C1++C2)) (hT:oq g b on T) (hS:oq g b on S) (hST:∀ e∈S,e ∉ T) (lr:∀ d∈C1++C2,d / 2 ∉ T) (hcS:∀ e,cS e=true->e∈S)
  (Ph:mF g b aa (λe=>iF C1 e ^^ cS e) ψ):∀ d∈b.ah,d / 2∈T->∀ d'∈b.ah,d' / 2∈T->ψ d=ψ d':=by
 have ja:∀ e∈T,cS e=false:=λe he=>by
  grind
 refine hT.SV hp ht Ph (λe he=>?_) λv hv ⟨e,he,qB⟩ u hu jT=>?_
 ·grind [DF,m1]
 have h1:iF C1 (u / 2)=false:=by
  have hn:=dB hC.tn;rw[fU (Qc.1 hn).1];have e1:u ∉ C1:=λq=>by rw[<-jT,hC.on u (m1 q)] at hv;cases hv
  grind [aH,ki.Mg,m1,az,bg]
 have h2:cS (u / 2)=false:=by
  cases q:cS (u / 2) with
  | false=>rfl
  | true =>
   have WC:=hcS _ q;have:=hS.shut _ WC e (hT.sub e he) ⟨v,hv,jT ▸ (eM g u).1,qB⟩
   grind
 grind
theorem qz (hR:ia g b aa) (hl:∀ e∈b.e,(g.at e).1≠(g.at e).2) (hC:ki g b on C) (mM:mF g b aa (iF C) χ) (hS:oq g b on S) (hT:oq g b on T) (hST:∀ e∈S,e ∉ T)
  (Zk:∀ d∈C,d / 2 ∉ S) (hoT:∀ d∈C,d / 2 ∉ T) {t:Int} (hs:s∈b.ah) (hsS:s / 2∈S) (zu:t∈b.ah) (htT:t / 2∈T) (xC:χ s=χ t) (dp:∀ v∈bC g on S,v∈C.map g.tail) :
  ¬ jh (C.map g.tail) (bC g on S) (bC g on T):=by
 have hp:=Pt.ax hR.pe;have ht:=hR.iX;have cS:=hS.Ci hp ht hC Zk mM;have cT:=hT.Ci hp ht hC hoT mM;obtain⟨cc,xQ⟩:=hS.P8 hp ht hl;have E':∀ v∈bC g on T,∃ u∈b.ah,g.tail u=v/\u / 2∈T:=λv hv=>by
  obtain⟨_,e,he,qB⟩:=bB.1 hv;obtain⟨u,h1,h2,rfl⟩:=jK (hT.sub e he) qB
  grind
 have S8:∀ {C1 C2 x y},fg g b on C1 C2 x y->x∈bC g on S->y∈bC g on S->∃ ψ,mF g b aa (λe=>iF C1 e ^^ (cc x e ^^ cc y e)) ψ:=λ{C1 C2 x y} hA hx hy =>
  hR.V0 λv hv=>by
   rw[kJ,gD hp ht hv hA.l1 (λd hd=>hA.dr d (m1 hd)),(xQ x hx y hy hA.ne).xM v hv]
   grind
 rintro (⟨x,hx,y,hy,z,hz,w,hw,A,B,hr,hA,hB⟩ | htri)
 ·obtain⟨D,hD,hDm⟩:=nR hr
  obtain⟨o,C1,t2,C2,rfl,rfl,rfl,rfl,rfl⟩:=qM hDm;have hCD:=hC.yA hD;have Jf:=hCD.RG rfl;rw[kY hD] at mM;have lr:∀ {M:List Int},(∀ d∈C,d / 2 ∉ M)->∀ d∈o :: C1++t2 :: C2,d / 2 ∉ M:=λh d hd=>h d (hD.perm.mem_iff.2 hd);obtain⟨ψ,Ph⟩:=S8 Jf hx hy;have ij:=xQ _ hx _ hy Jf.ne;obtain⟨κ,k,α,t1,t2',t3,⟨q,q1,q2,q3⟩,t5,t6⟩:=Jf.qd hp ht mM ij Ph (lr Zk);have an1:=oq.qd hp ht hCD hT hS hST (lr hoT) ij.Dy Ph;obtain⟨d1,Re,e1⟩:=Qe.1 hA;obtain⟨d2,oF,e2⟩:=Qe.1 hB;obtain⟨u1,f1,f2,f3⟩:=E' z hz;obtain⟨u2,f4,f5,f6⟩:=E' w hw;have hzx:g.tail d1≠g.tail o:=λr=>by
   have:=Jf.n1;rw[Qz] at this;exact this.1 (Jf.hZ (m1 (Qb _ Re)) (m1 (by simp)) r ▸ Re)
  have hwy:g.tail d2≠g.tail t2:=λr=>by
   have:=Jf.symm.n1;rw[Qz] at this;exact this.1 (Jf.hZ (m2 (Qb _ oF)) (m2 (by simp)) r ▸ oF)
  have a1:=t6 d1 (Qb _ Re) hzx u1 f1 (f2.trans e1.symm);have a2:=t5 d2 (Qb _ oF) hwy u2 f4 (f5.trans e2.symm);have a3:=an1 u1 f1 f3 u2 f4 f6;have a4:=cT u1 f1 f3 t zu htT;have a5:=cS q q1 q2 s hs hsS;rw[a5,xC,<-a4] at q3;rw[a2] at a3;rw[a3] at a1
  revert q3 a1
  cases χ u1 <;> cases κ <;> cases α <;> cases k <;> simp
 -- three in common,in their order
 have key:∀ {x y z:Int} {P Q R:List Int},bj (C.map g.tail) (x :: P++y :: Q++z :: R)->(x∈bC g on S/\x∈bC g on T)->(y∈bC g on S/\y∈bC g on T)->(z∈bC g on S/\z∈bC g on T)->False:=by
  intro x y z P Q R hr hx hy hz;obtain⟨D,hD,hDm⟩:=nR hr;obtain⟨D1,D2,rfl,e1,e2⟩:=Qm.1 hDm;obtain⟨o1,A1,o2,A2,rfl,rfl,rfl,rfl,rfl⟩:=qM e1;obtain⟨o3,A3,rfl,rfl,rfl⟩:=Qo.1 e2;clear e1 e2;have hCD:=hC.yA hD;have Xp:ki g b on (o1 :: A1++o2 :: (A2++o3 :: A3)):=by simpa using hCD
  have cD:bj (o1 :: A1++o2 :: (A2++o3 :: A3)) (o2 :: A2++o3 :: (A3++o1 :: A1)):=⟨o1 :: A1,o2 :: (A2++o3 :: A3),rfl,by simp⟩;have sK:bj (o1 :: A1++o2 :: (A2++o3 :: A3)) (o3 :: A3++o1 :: (A1++o2 :: A2)):=⟨o1 :: A1++o2 :: A2,o3 :: A3,by simp,by simp⟩;have Vk:bj C (o1 :: A1++o2 :: (A2++o3 :: A3)):=by simpa using hD
  have ae4:=Xp.yA cD;have ahq:=Xp.yA sK;have r1:=Xp.RG rfl;have r2:=ae4.RG rfl;have r3:=ahq.RG rfl;obtain⟨ψ1,h1⟩:=S8 r1 hx.1 hy.1;obtain⟨ψ2,h2⟩:=S8 r2 hy.1 hz.1;have h3:mF g b aa (λe=>iF (o3 :: A3) e ^^ (cc (g.tail o3) e ^^ cc (g.tail o1) e)) (λd=>χ d ^^ (ψ1 d ^^ ψ2 d)):=(mM.xor (h1.xor h2)).congr λe _=>by
   rw[kY Vk];have:iF (o1 :: A1++o2 :: (A2++o3 :: A3)) e=(iF (o1 :: A1) e ^^ (iF (o2 :: A2) e ^^ iF (o3 :: A3) e)):=by
    grind [ir]
   rw[this];generalize iF (o1 :: A1) e=a1;generalize iF (o2 :: A2) e=a2;generalize iF (o3 :: A3) e=a3;generalize cc (g.tail o1) e=c1;generalize cc (g.tail o2) e=c2;generalize cc (g.tail o3) e=c3;cases a1 <;> cases a2 <;> cases a3 <;> cases c1 <;> cases c2 <;> cases c3 <;> rfl
  have lr:∀ {M D:List Int},bj C D->(∀ d∈C,d / 2 ∉ M)->∀ d∈D,d / 2 ∉ M:=λk h d hd=>h d (k.perm.mem_iff.2 hd);have c1:=xQ _ hx.1 _ hy.1 r1.ne;have c2:=xQ _ hy.1 _ hz.1 r2.ne;have c3:=xQ _ hz.1 _ hx.1 r3.ne;have k1:mF g b aa (iF (o1 :: A1++o2 :: (A2++o3 :: A3))) χ:=by rw[<-kY Vk];exact mM
  have k2:mF g b aa (iF (o2 :: A2++o3 :: (A3++o1 :: A1))) χ:=by rw[<-kY (Vk.trans cD)];exact mM
  have k3:mF g b aa (iF (o3 :: A3++o1 :: (A1++o2 :: A2))) χ:=by rw[<-kY (Vk.trans sK)];exact mM
  obtain⟨κ,k,α,t1,t2,t3,⟨q,q1,q2,q3⟩,t5,-⟩:=r1.qd hp ht k1 c1 h1 (lr Vk Zk);obtain⟨_,_,XB,-,-,u3,-,u5,-⟩:=r2.qd hp ht k2 c2 h2 (lr (Vk.trans cD) Zk);obtain⟨_,_,α3,-,-,v3,-,v5,-⟩:=r3.qd hp ht k3 c3 h3 (lr (Vk.trans sK) Zk);have T1:=oq.qd hp ht Xp hT hS hST (lr Vk hoT) c1.Dy h1;have T2:=oq.qd hp ht ae4 hT hS hST (lr (Vk.trans cD) hoT) c2.Dy h2;have T3:=oq.qd hp ht ahq hT hS hST (lr (Vk.trans sK) hoT) c3.Dy h3;obtain⟨ux,f1,f2,f3⟩:=E' _ hx.2;obtain⟨uy,f4,f5,f6⟩:=E' _ hy.2;obtain⟨uz,f7,f8,f9⟩:=E' _ hz.2;have b1:=t5 o3 (by simp) (Ne.symm r2.ne) uz f7 f8;have b2:=u5 o1 (by simp) (Ne.symm r3.ne) ux f1 f2;have b3:=v5 o2 (by simp) (Ne.symm r1.ne) uy f4 f5;rw[T1 uz f7 f9 ux f1 f3] at b1;rw[T3 uy f4 f6 ux f1 f3] at b3;have g1:=t1 o1 (by simp);have g2:=t2 o1 (by simp);have g3:=u3 o1 (by simp);have g4:=v3 o1 (by simp);have a4:=cT ux f1 f3 t zu htT;have a5:=cS q q1 q2 s hs hsS;rw[a5,xC,<-a4] at q3;rw[b1,b2] at b3;rw[g1,g2,g3] at g4
  revert q3 b3 g4
  cases χ ux <;> cases κ <;> cases α <;> cases k <;> cases XB <;> cases α3 <;> simp
 obtain⟨x,y,z,hx,hy,hz,jj,wX,AG⟩:=htri;have Mz:=dp x hx.1;have hym:=dp y hy.1;have T5:=dp z hz.1;obtain⟨U,V,hUV⟩:=Qd Mz;have hr:bj (C.map g.tail) (x :: (V++U)):=⟨U,x :: V,hUV,rfl⟩;have hm:∀ v∈C.map g.tail,v≠x->v∈V++U:=λv hv q=>by
  all_goals grind
 have hyV:=hm y hym (Ne.symm jj);have hzV:=hm z T5 (Ne.symm AG);generalize V++U=M at hr hyV hzV;obtain⟨P,Q,rfl⟩:=Qd hyV;rcases Qa.1 hzV with r | r
 ·obtain⟨P1,P2,rfl⟩:=Qd r
  grind
 obtain⟨Q1,Q2,rfl⟩:=Qd ((Qf.1 r).resolve_left (Ne.symm wX))
 grind
variable {g : Gr} {p : Pt} {aa : List (List Int)} {F : List (List Int)} {f k : List Int} {x y : Int}
theorem Ring.yA {q:Int->Int} {L M:List Int} (h:Ring q L) (hr:bj L M):Ring q M:=by
 obtain⟨U,V,rfl,rfl⟩:=hr;cases U with
 | nil=>simpa using h
 | cons a U =>
  cases V with
  | nil=>simpa using h
  | cons c V=>exact Ring.aa h
theorem Ap {q:Int->Int} {z:Int}:∀ {l:List Int} {x:Int},Trail q x l z->∀ e∈x :: l,q e∈l\/q e=z
 | [],x,h,e,he=>by rw[Qp.1 he];exact QA h
 | a :: l,x,h,e,he=>by
  rcases Qf.1 he with r | r
  ·rw[r,h.1];exact Qh (by simp)
  rcases Ap h.2 e r with s | s
  ·exact Qh (Qb _ s)
  exact QA s
theorem E7 {q:Int->Int} {o t:Int} {A B:List Int} (h:Ring q (o :: A++t :: B)) {e:Int} (he:e∈o :: A):q e∈o :: A\/q e=t:=by
 have h':Trail q o (A++t :: B) o:=h
 all_goals grind [Trail.append,Ap]
theorem yO (hp:aD g p) (ht:aK g p aa) {z:Int}:∀ {l:List Int} {x:Int},Trail (aA g aa) x l z->(∀ d∈x :: l,d∈p.ah)->fz g (g.tail x) (x :: l) (g.tail z)
 | [],x,h,hd=>by
  have hz:aA g aa x=z:=h;refine⟨rfl,?_⟩;show g.head x=g.tail z;rw[<-hz,(mG ht (λd hd=>hp.vr _ (hp.aP hd).1) (hd x (by simp))).2]
 | a :: l,x,h,hd=>by
  have ih:=yO hp ht h.2 (λd hm=>hd d (Qb _ hm));have e:=(mG ht (λd hd=>hp.vr _ (hp.aP hd).1) (hd x (by simp))).2;rw[h.1] at e;exact⟨rfl,by rw[<-e];exact ih⟩
structure jM (g:Gr) (p:Pt) (aa:List (List Int)) (o:Int) (A:List Int) (t:Int) (B:List Int):Prop where
 ring:Ring (aA g aa) (o :: A++t :: B)
 tn:((o :: A++t :: B).map g.tail).Nodup
 dr:∀ d∈o :: A++t :: B,d∈p.ah
theorem cQ.bp (h:cQ g p aa F) (hf:f∈F) {o t:Int} {A B:List Int} (hr:bj f (o :: A++t :: B)):jM g p aa o A t B :=
 ⟨(h.rings.ring f hf).yA hr,((hr.perm.map _).nodup_iff).1 (h.simple f hf),λ_d hd=>h.all.mem_iff.1 (Qg.2 ⟨f,hf,hr.perm.mem_iff.2 hd⟩)⟩
theorem jM.symm {t:Int} (h:jM g p aa o A t B):jM g p aa t B o A :=
 ⟨Ring.aa h.ring,((Qi.map _).nodup_iff).1 h.tn,λd hd=>h.dr d (Qi.mem_iff.1 hd)⟩
theorem jM.link (hp:aD g p) (ht:aK g p aa) {t:Int} (h:jM g p aa o A t B):fz g (g.tail o) (o :: A) (g.tail t):=by
 have h':Trail (aA g aa) o (A++t :: B) o:=h.ring;rw[Trail.append] at h';exact yO hp ht h'.1 λd hd=>h.dr d (Qa.2 (Qh hd))
theorem jM.ne {t:Int} (h:jM g p aa o A t B) (hd:d∈o :: A) (he:e∈t :: B):g.tail d≠g.tail e:=by
 have:=h.tn
 grind
theorem jM.step {o t:Int} {A B:List Int} (h:jM g p aa o A t B) {e:Int} (he:e∈o :: A++t :: B) (h1:g.tail (aA g aa e)≠g.tail o) (h2:g.tail (aA g aa e)≠g.tail t) :
  e∈o :: A↔aA g aa e∈o :: A:=by
 constructor
 ·intro q
  rcases E7 h.ring q with r | r
  all_goals grind
 intro q;rcases Qa.1 he with r | r
 ·exact r
 rcases E7 h.symm.ring r with s | s
 ·exact absurd rfl (h.ne q s)
 rw[s] at h1;exact absurd rfl h1
theorem wN {t:Int} (h:jM g p aa o A t B):(o :: A++t :: B).Nodup:=dB h.tn
def jd (M K:List Int) (d:Int):Bool:=decide (d∈M) ^^ decide (d∈K)
structure G4 (g:Gr) (p:Pt) (aa:List (List Int)) (F:List (List Int)) (M K:List Int) (x y:Int) (φ:Int->Bool):Prop where
 sym:∀ d∈p.ah,φ (aH d)=φ d
 next:∀ d∈p.ah,(φ (aA g aa d) ^^ jd M K (aA g aa d))=(φ d ^^ jd M K d)
theorem Hm (h:cQ g p aa F) (hf:f∈F) (hk:k∈F) (_hne:f≠k) {t:Int} (rf:bj f (o :: A++t :: B)) (rk:bj k (u :: C++v :: D)) (hx:g.tail u=g.tail o) (hy:g.tail v=g.tail t) :
  ∃ φ,G4 g p aa F (o :: A) (u :: C) (g.tail o) (g.tail t) φ:=by
 have hp:=Pt.ax h.pe;have a1:=h.bp hf rf;have a2:=h.bp hk rk;have l1:=a1.link hp h.iX;have l2:=a2.link hp h.iX;rw[hx,hy] at l2;have n1:=(Qc.1 (wN a1)).1;have n2:=(Qc.1 (wN a2)).1;obtain⟨χ,mM⟩:=h.Cp.V0 (c:=λe=>iF (o :: A) e ^^ iF (u :: C) e) λw hw=>by
  rw[kJ,gD hp h.iX hw l1 (λd hd=>a1.dr d (Qa.2 (Qh hd))),gD hp h.iX hw l2 (λd hd=>a2.dr d (Qa.2 (Qh hd)))];simp
 refine⟨λd=>χ d ^^ jd (o :: A) (u :: C) d,λd hd=>?_,λd hd=>?_⟩
 ·show (χ (aH d) ^^ _)=(χ d ^^ _)
  rw[mM.aH d hd,fU n1,fU n2];unfold jd
  grind
 show ((χ _ ^^ jd _ _ _) ^^ jd _ _ _)=((χ d ^^ jd _ _ _) ^^ jd _ _ _);rw[mM.next d hd]
 grind
variable {M K : List Int} {φ : Int -> Bool}
theorem G4.xt (h:cQ g p aa F) (hc:G4 g p aa F M K x y φ) (hj:j∈F) (hd:d∈j) (he:e∈j):(φ d ^^ jd M K d)=(φ e ^^ jd M K e) :=
 sl (f:=λd=>φ d ^^ jd M K d) (h.rings.ring j hj) (λw hw=>hc.next w (h.all.mem_iff.1 (Qg.2 ⟨j,hj,hw⟩))) d hd e he
theorem zh (h:cQ g p aa F) {m:Int->Bool} (h1:∀ d∈p.ah,ψ (aH d)=ψ d) (h2:∀ d∈p.ah,(ψ (aA g aa d) ^^ m (aA g aa d))=(ψ d ^^ m d)) 
  (hm:∀ d∈p.ah,g.tail (aA g aa d)=v->m (aA g aa d)=m d) (hd:d∈p.ah) (he:e∈p.ah) (Ue:g.tail d=v) (qB:g.tail e=v):ψ d=ψ e:=by
 have hp:=Pt.ax h.pe;obtain⟨l,hl,AT⟩:=at_ring hp h.iX hd;have hv:=(hp.aP hd).1;have dE:∀ w∈d :: l,w∈p.ah/\g.tail w=g.tail d:=λw hw=>(at_mem hp h.iX hv).1 (AT.mem_iff.1 hw);have:=lL (f:=ψ) hl (λw hw=>by
  obtain⟨w1,w2⟩:=dE w hw;have hn:=mG h.iX (λd hd=>hp.vr _ (hp.aP hd).1) (bD w1);have e1:aA g aa (aH w)=before g aa w:=by unfold aA;rw[bg]
  have e2:g.head (aH w)=g.tail w:=by rw[<-az,bg]
  have k1:=h2 _ (bD w1);rw[hm _ (bD w1) (by grind),e1,h1 w w1] at k1
  revert k1
  cases ψ (before g aa w) <;> cases ψ w <;> cases m (aH w) <;> simp) e (AT.mem_iff.2 ((at_mem hp h.iX hv).2 ⟨he,qB.trans Ue.symm⟩))
 exact this.symm
theorem CV (h:cQ g p aa F) (hf:f∈F) {t:Int} (rf:bj f (o :: A++t :: B)) (hd:d∈p.ah) (h1:g.tail (aA g aa d)≠g.tail o) (h2:g.tail (aA g aa d)≠g.tail t) :
  decide (aA g aa d∈o :: A)=decide (d∈o :: A):=by
 have a1:=h.bp hf rf;obtain⟨j,hj,hdj⟩:=Qg.1 (h.all.mem_iff.2 hd);have hnj:aA g aa d∈j:=((h.rings.ring j hj).mI).mem_iff.1 (Qe.2 ⟨d,hdj,rfl⟩);by_cases q:j=f
 ·subst q
  exact decide_eq_decide.2 (a1.step (rf.perm.mem_iff.1 hdj) h1 h2).symm
 have off:∀ w∈j,w ∉ o :: A:=λw hw r=>q (eD h.rings.nodup hj hf hw (rf.perm.mem_iff.2 (Qa.2 (Qh r))))
 grind
theorem G4.iq (h:cQ g p aa F) (hf:f∈F) (hk:k∈F) {t:Int} (rf:bj f (o :: A++t :: B)) (rk:bj k (u :: C++v :: D)) (hx:g.tail u=g.tail o) (hy:g.tail v=g.tail t)
  (hc:G4 g p aa F (o :: A) (u :: C) (g.tail o) (g.tail t) φ) (hd:d∈p.ah) (he:e∈p.ah) (qn:g.tail d=g.tail e) (h1:g.tail d≠g.tail o) (h2:g.tail d≠g.tail t):φ d=φ e :=
 zh h hc.sym hc.next (v:=g.tail d) (λw hw LX=>by
  unfold jd;rw[CV h hf rf hw (by rw[LX];exact h1) (by rw[LX];exact h2),CV h hk rk hw (by rw[LX,hx];exact h1) (by rw[LX,hy];exact h2)]) hd he rfl qn.symm
theorem jS (h:v∈L.map g.tail):∃ d∈L,g.tail d=v:=by
 grind
theorem yX (hx:x∈k.map g.tail) (hy:y∈k.map g.tail) (bn:x≠y):∃ u C v D,bj k (u :: C++v :: D)/\g.tail u=x/\g.tail v=y:=by
 obtain⟨u,hu,e1⟩:=jS hx;obtain⟨v,hv,e2⟩:=jS hy;obtain⟨U,V,rfl⟩:=Qd hu;have hr:bj (U++u :: V) (u :: (V++U)):=⟨U,u :: V,rfl,rfl⟩;have hm:v∈V++U:=by
  all_goals grind
 obtain⟨C,D,e⟩:=Qd hm
 grind
theorem KZ (h:cQ g p aa F) (hf:f∈F) (hk:k∈F) (hj:j∈F) (xw:f≠k) (hfj:f≠j) (OY:k≠j) (hr:bj (f.map g.tail) (x :: A++y :: B)) (hxk:x∈k.map g.tail) (hyk:y∈k.map g.tail)
  (hzj:z∈j.map g.tail) (hwj:w∈j.map g.tail) (hz:z∈A) (hw:w∈B):False:=by
 obtain⟨E,hE,hEm⟩:=nR hr;obtain⟨o,C1,t,C2,rfl,rfl,rfl,rfl,rfl⟩:=qM hEm;have fa:=h.bp hf hE;have bn:g.tail o≠g.tail t:=fa.ne (by simp) (by simp);obtain⟨u,C,v,D,rk,hx,hy⟩:=yX hxk hyk bn;obtain⟨φ,hc⟩:=Hm h hf hk xw hE rk hx hy;obtain⟨d1,b1,rfl⟩:=Qe.1 hz;obtain⟨d2,b2,rfl⟩:=Qe.1 hw;obtain⟨e1,b3,b4⟩:=jS hzj;obtain⟨e2,b5,b6⟩:=jS hwj;have dE:∀ {l d},l∈F->d∈l->d∈p.ah:=λhl hd=>h.all.mem_iff.1 (Qg.2 ⟨_,hl,hd⟩);have m1:d1∈o :: C1++t :: C2:=by simp[b1]
 have m2:d2∈o :: C1++t :: C2:=by simp[b2]
 have hn:=fa.tn;have ne1:g.tail d1≠g.tail o:=λq=>by
  grind
 have ne2:g.tail d2≠g.tail t:=λq=>by
  grind
 have v1:=hc.iq h hf hk hE rk hx hy (fa.dr _ m1) (dE hj b3) b4.symm ne1 (fa.ne (Qb _ b1) (by simp));have v2:=hc.iq h hf hk hE rk hx hy (fa.dr _ m2) (dE hj b5) b6.symm (λq=>fa.ne (d:=o) (e:=d2) (by simp) (Qb _ b2) q.symm) ne2;have c1:=hc.xt h hj b3 b5;have c2:=hc.xt h hf (hE.perm.mem_iff.2 m1) (hE.perm.mem_iff.2 m2);have TF:∀ d∈j,jd (o :: C1) (u :: C) d=false:=λd hd=>by
  have q1:d ∉ o :: C1:=λr=>hfj (eD h.rings.nodup hf hj (hE.perm.mem_iff.2 (Qa.2 (Qh r))) hd);have q2:d ∉ u :: C:=λr=>OY (eD h.rings.nodup hk hj (rk.perm.mem_iff.2 (Qa.2 (Qh r))) hd)
  grind [jd]
 have H5:∀ d∈o :: C1++t :: C2,d ∉ u :: C:=λd hd r=>xw (eD h.rings.nodup hf hk (hE.perm.mem_iff.2 hd) (rk.perm.mem_iff.2 (Qa.2 (Qh r))))
 grind [jd,m1,m2]
theorem Jq (h:cQ g p aa F) (hf:f∈F) (hk:k∈F) (xw:f≠k) (hS:∀ v∈S,v∈k.map g.tail) (hT:∀ v∈T,v∈k.map g.tail) (hc:jh (f.map g.tail) S T):jh (k.map g.tail) S T:=by
 rcases hc with ⟨x,hxS,y,hyS,z,XM,w,hwT,A,B,hr,hz,hw⟩ | htri
 ·obtain⟨E,hE,hEm⟩:=nR hr
  obtain⟨o,C1,t,C2,rfl,rfl,rfl,rfl,rfl⟩:=qM hEm;have fa:=h.bp hf hE;have bn:g.tail o≠g.tail t:=fa.ne (by simp) (by simp);obtain⟨u,C,v,D,rk,hx,hy⟩:=yX (hS _ hxS) (hS _ hyS) bn;have ka:=h.bp hk rk;obtain⟨φ,hc⟩:=Hm h hf hk xw hE rk hx hy;obtain⟨d1,b1,rfl⟩:=Qe.1 hz;obtain⟨d2,b2,rfl⟩:=Qe.1 hw;obtain⟨e1,b3,b4⟩:=jS (hT _ XM);obtain⟨e2,b5,b6⟩:=jS (hT _ hwT);have dE:∀ {l d},l∈F->d∈l->d∈p.ah:=λhl hd=>h.all.mem_iff.1 (Qg.2 ⟨_,hl,hd⟩);have m1:d1∈o :: C1++t :: C2:=by simp[b1]
  have m2:d2∈o :: C1++t :: C2:=by simp[b2]
  have hn:=fa.tn;have ne1:g.tail d1≠g.tail o:=λq=>by
   grind
  have ne2:g.tail d2≠g.tail t:=λq=>by
   grind
  have ne3:g.tail d1≠g.tail t:=fa.ne (Qb _ b1) (by simp);have ne4:g.tail d2≠g.tail o:=λq=>fa.ne (d:=o) (e:=d2) (by simp) (Qb _ b2) q.symm;have v1:=hc.iq h hf hk hE rk hx hy (fa.dr _ m1) (dE hk b3) b4.symm ne1 ne3;have v2:=hc.iq h hf hk hE rk hx hy (fa.dr _ m2) (dE hk b5) b6.symm ne4 ne2;have c1:=hc.xt h hk b3 b5;have c2:=hc.xt h hf (hE.perm.mem_iff.2 m1) (hE.perm.mem_iff.2 m2);have ai7:∀ d∈k,d ∉ o :: C1:=λd hd r=>xw (eD h.rings.nodup hf hk (hE.perm.mem_iff.2 (Qa.2 (Qh r))) hd);have H5:∀ d∈o :: C1++t :: C2,d ∉ u :: C:=λd hd r=>xw (eD h.rings.nodup hf hk (hE.perm.mem_iff.2 hd) (rk.perm.mem_iff.2 (Qa.2 (Qh r))));have i1:d1∈o :: C1:=Qb _ b1;have i2:d2 ∉ o :: C1:=λr=>fa.ne r (Qb _ b2) rfl;have k1:jd (o :: C1) (u :: C) d1=true:=by unfold jd;simp only[i1,H5 d1 m1];rfl
  have k2:jd (o :: C1) (u :: C) d2=false:=by unfold jd;simp only[i2,H5 d2 m2];rfl
  have k3:jd (o :: C1) (u :: C) e1=decide (e1∈u :: C):=by unfold jd;simp only[ai7 e1 b3,decide_false,Ql]
  have k4:jd (o :: C1) (u :: C) e2=decide (e2∈u :: C):=by unfold jd;simp only[ai7 e2 b5,decide_false,Ql]
  rw[k3,k4,<-v1,<-v2] at c1;rw[k1,k2] at c2;have hx2:decide (e1∈u :: C)=!decide (e2∈u :: C):=by
   grind
  have jA:∀ {e:Int},e∈k->e∈u :: C\/e∈v :: D:=λhe=>Qa.1 (rk.perm.mem_iff.1 he);have hrk:bj (k.map g.tail) (g.tail o :: C.map g.tail++g.tail t :: D.map g.tail):=by
   obtain⟨U,V,r1,r2⟩:=rk;refine⟨U.map g.tail,V.map g.tail,by grind,?_⟩;rw[<-List.map_append,<-r2];simp[hx,hy]
  have inC:∀ {e:Int},e∈u :: C->g.tail e≠g.tail o->g.tail e∈C.map g.tail:=λhe q=>by
   all_goals grind
  have inD:∀ {e:Int},e∈v :: D->g.tail e≠g.tail t->g.tail e∈D.map g.tail:=λhe q=>by
   all_goals grind
  by_cases q1:e1∈u :: C
  ·have q2:e2 ∉ u :: C:=λq=>by simp[q1,q] at hx2
   refine Qh ⟨_,hxS,_,hyS,_,XM,_,hwT,_,_,hrk,?_,?_⟩
   all_goals grind
  have q2:e2∈u :: C:=Qq λq=>by
   grind
  refine Qh ⟨_,hxS,_,hyS,_,hwT,_,XM,_,_,hrk,?_,?_⟩
  all_goals grind
 exact QA htri
variable {g : Gr} {p : Pt} {aa : List (List Int)} {F : List (List Int)} {f k j : List Int}
theorem Mc (h:cQ g p aa F) (hf:f∈F) (hk:k∈F) (hj:j∈F) (xw:f≠k) (hfj:f≠j) (OY:k≠j) {ox oy oz u1 v1 u2 v2 u3 v3:Int} {P Q R D1 D2 C3 D3:List Int} (hr:bj f (ox :: P++oy :: Q++oz :: R))
  (r1:bj k (u1 :: C1++v1 :: D1)) (r2:bj k (u2 :: C2++v2 :: D2)) (r3:bj k (u3 :: C3++v3 :: D3)) (a1:g.tail u1=g.tail ox) (b1:g.tail v1=g.tail oy) (a2:g.tail u2=g.tail oy) (b2:g.tail v2=g.tail oz) (a3:g.tail u3=g.tail oz) (b3:g.tail v3=g.tail ox)
  (s:Bool) (hs:∀ d∈k,(decide (d∈u1 :: C1) ^^ (decide (d∈u2 :: C2) ^^ decide (d∈u3 :: C3)))=s) (jx:g.tail ox∈j.map g.tail) (jy:g.tail oy∈j.map g.tail) (jz:g.tail oz∈j.map g.tail):False:=by
 have f1:bj f (ox :: P++oy :: (Q++oz :: R)):=by simpa using hr
 have f2:bj f (oy :: Q++oz :: (R++ox :: P)):=f1.trans ⟨ox :: P,oy :: (Q++oz :: R),rfl,by simp⟩;have f3:bj f (oz :: R++ox :: (P++oy :: Q)):=f1.trans ⟨ox :: P++oy :: Q,oz :: R,by simp,by simp⟩;obtain⟨φ1,c1⟩:=Hm h hf hk xw f1 r1 a1 b1;obtain⟨φ2,c2⟩:=Hm h hf hk xw f2 r2 a2 b2;obtain⟨ZM,c3⟩:=Hm h hf hk xw f3 r3 a3 b3;obtain⟨ex,ex1,ex2⟩:=jS jx;obtain⟨ey,ey1,ey2⟩:=jS jy;obtain⟨ez,ez1,ez2⟩:=jS jz;have fa1:=h.bp hf f1;have fa2:=h.bp hf f2;have fa3:=h.bp hf f3;have xy:g.tail ox≠g.tail oy:=fa1.ne (by simp) (by simp);have yz:g.tail oy≠g.tail oz:=fa2.ne (by simp) (by simp);have zx:g.tail oz≠g.tail ox:=fa3.ne (by simp) (by simp);have dE:∀ {l d},l∈F->d∈l->d∈p.ah:=λhl hd=>h.all.mem_iff.1 (Qg.2 ⟨_,hl,hd⟩);have mx:ox∈f:=f1.perm.mem_iff.2 (by simp);have my:oy∈f:=f1.perm.mem_iff.2 (by simp);have mz:oz∈f:=f1.perm.mem_iff.2 (by simp);have v1':=c1.iq h hf hk f1 r1 a1 b1 (dE hf mz) (dE hj ez1) ez2.symm zx (Ne.symm yz);have v2':=c2.iq h hf hk f2 r2 a2 b2 (dE hf mx) (dE hj ex1) ex2.symm xy (Ne.symm zx);have v3':=c3.iq h hf hk f3 r3 a3 b3 (dE hf my) (dE hj ey1) ey2.symm yz (Ne.symm xy);have inf:∀ {M:List Int} {N:List Int} {d},bj f (M++N)->d∈M->d∈f:=λhr hd=>hr.perm.mem_iff.2 (Qa.2 (Qh hd));have H5:∀ {d} {C D:List Int},d∈f->bj k (C++D)->d ∉ C:=λhd hr q=>xw (eD h.rings.nodup hf hk hd (hr.perm.mem_iff.2 (Qa.2 (Qh q))));have TF:∀ {d} {M N C D:List Int},d∈j->bj f (M++N)->bj k (C++D)->jd M C d=false:=λhd hr cD=>by
  have q1:=λq=>hfj (eD h.rings.nodup hf hj (hr.perm.mem_iff.2 (Qa.2 (Qh q))) hd);have q2:=λq=>OY (eD h.rings.nodup hk hj (cD.perm.mem_iff.2 (Qa.2 (Qh q))) hd)
  grind [jd]
 have w1:=c1.xt h hf mx mz;have w3:=c3.xt h hf mx my;have k1:jd (ox :: P) (u1 :: C1) ox=true:=by unfold jd;rw[decide_eq_false (H5 mx r1)];simp
 have k2:jd (ox :: P) (u1 :: C1) oz=false:=by
  unfold jd;rw[decide_eq_false (H5 mz r1),decide_eq_false λq=>fa1.ne q (e:=oz) (by simp) rfl];rfl
 have k3:jd (oz :: R) (u3 :: C3) ox=false:=by
  unfold jd;rw[decide_eq_false (H5 mx r3),decide_eq_false λq=>fa3.ne q (e:=ox) (by simp) rfl];rfl
 have k4:jd (oz :: R) (u3 :: C3) oy=false:=by
  unfold jd;rw[decide_eq_false (H5 my r3),decide_eq_false λq=>fa3.ne q (e:=oy) (by simp) rfl];rfl
 rw[k1,k2] at w1;rw[k3,k4] at w3;have j1:=c1.xt h hj ez1 ex1;have j3:=c3.xt h hj ey1 ex1;rw[TF ez1 f1 r1,TF ex1 f1 r1] at j1;rw[TF ey1 f3 r3,TF ex1 f3 r3] at j3
 -- the three together
 have hm:∀ d,(jd (ox :: P) (u1 :: C1) d ^^ (jd (oy :: Q) (u2 :: C2) d ^^ jd (oz :: R) (u3 :: C3) d))=(decide (d∈f) ^^ (s&&decide (d∈k))):=λd=>by
  have e1:(decide (d∈ox :: P) ^^ (decide (d∈oy :: Q) ^^ decide (d∈oz :: R)))=decide (d∈f):=by
   by_cases hd:d∈f
   ·have OP:=hr.perm.mem_iff.1 hd
    have n1:d∈ox :: P->d ∉ oy :: Q/\d ∉ oz :: R:=λq=>⟨λr=>fa1.ne q (e:=d) (by simp at r ⊢;rcases r with r | r <;> simp[r]) rfl,λr=>fa1.ne q (e:=d) (by simp at r ⊢;rcases r with r | r <;> simp[r]) rfl⟩;have n2:d∈oy :: Q->d ∉ oz :: R:=λq r=>fa2.ne q (e:=d) (by simp at r ⊢;rcases r with r | r <;> simp[r]) rfl;rw[decide_eq_true hd];rcases Qa.1 OP with q | q
    all_goals grind
   all_goals grind
  have e2:(decide (d∈u1 :: C1) ^^ (decide (d∈u2 :: C2) ^^ decide (d∈u3 :: C3)))=(s&&decide (d∈k)):=by
   by_cases hd:d∈k
   ·rw[hs d hd,decide_eq_true hd,Bool.and_true]
   have ik:∀ {M N:List Int},bj k (M++N)->d ∉ M:=λhr q=>hd (hr.perm.mem_iff.2 (Qa.2 (Qh q)));rw[decide_eq_false hd,decide_eq_false (ik r1),decide_eq_false (ik r2),decide_eq_false (ik r3),Bool.and_false];rfl
  rw[<-e1,<-e2];unfold jd;generalize decide (d∈ox :: P)=z1;generalize decide (d∈oy :: Q)=z2;generalize decide (d∈oz :: R)=z3;generalize decide (d∈u1 :: C1)=z4;generalize decide (d∈u2 :: C2)=z5;generalize decide (d∈u3 :: C3)=z6;cases z1 <;> cases z2 <;> cases z3 <;> cases z4 <;> cases z5 <;> cases z6 <;> rfl
 have same:∀ d∈p.ah,∀ {l},l∈F->(aA g aa d∈l↔d∈l):=λd hd l hl=>by
  obtain⟨i,hi,WA⟩:=Qg.1 (h.all.mem_iff.2 hd);have hni:aA g aa d∈i:=((h.rings.ring i hi).mI).mem_iff.1 (Qe.2 ⟨d,WA,rfl⟩);exact⟨λq=>(eD h.rings.nodup hi hl hni q) ▸ WA,λq=>(eD h.rings.nodup hi hl WA q) ▸ hni⟩
 have all:=zh h (ψ:=λd=>φ1 d ^^ (φ2 d ^^ ZM d)) (m:=λd=>jd (ox :: P) (u1 :: C1) d ^^ (jd (oy :: Q) (u2 :: C2) d ^^ jd (oz :: R) (u3 :: C3) d))
  (λd hd=>by show (φ1 _ ^^ (φ2 _ ^^ ZM _))=_;rw[c1.sym d hd,c2.sym d hd,c3.sym d hd])
  (λd hd=>by
   have q1:=c1.next d hd;have q2:=c2.next d hd;have q3:=c3.next d hd
   revert q1 q2 q3
   show _->_->_->((φ1 (aA g aa d) ^^ (φ2 (aA g aa d) ^^ ZM (aA g aa d))) ^^ (jd (ox :: P) (u1 :: C1) (aA g aa d) ^^ (jd (oy :: Q) (u2 :: C2) (aA g aa d) ^^ jd (oz :: R) (u3 :: C3) (aA g aa d))))=((φ1 d ^^ (φ2 d ^^ ZM d)) ^^ (jd (ox :: P) (u1 :: C1) d ^^ (jd (oy :: Q) (u2 :: C2) d ^^ jd (oz :: R) (u3 :: C3) d)));generalize jd (ox :: P) (u1 :: C1) (aA g aa d)=m1;generalize jd (oy :: Q) (u2 :: C2) (aA g aa d)=m2;generalize jd (oz :: R) (u3 :: C3) (aA g aa d)=m3;generalize jd (ox :: P) (u1 :: C1) d=m4;generalize jd (oy :: Q) (u2 :: C2) d=m5;generalize jd (oz :: R) (u3 :: C3) d=m6;generalize φ1 (aA g aa d)=p1;generalize φ2 (aA g aa d)=p2;generalize ZM (aA g aa d)=p3;intro q1 q2 q3;have e1:p1=((φ1 d ^^ m4) ^^ m1):=by rw[<-q1];cases p1 <;> cases m1 <;> rfl
   have e2:p2=((φ2 d ^^ m5) ^^ m2):=by rw[<-q2];cases p2 <;> cases m2 <;> rfl
   have e3:p3=((ZM d ^^ m6) ^^ m3):=by rw[<-q3];cases p3 <;> cases m3 <;> rfl
   rw[e1,e2,e3];generalize φ1 d=a;generalize φ2 d=b;generalize ZM d=c;cases m1 <;> cases m2 <;> cases m3 <;> cases m4 <;> cases m5 <;> cases m6 <;> cases a <;> cases b <;> cases c <;> rfl)
  (v:=g.tail ox) (λd hd _=>by
   show (jd _ _ _ ^^ (jd _ _ _ ^^ jd _ _ _))=(jd _ _ _ ^^ (jd _ _ _ ^^ jd _ _ _));rw[hm,hm,decide_eq_decide.2 (same d hd hf),decide_eq_decide.2 (same d hd hk)]) (dE hf mx) (dE hj ex1) rfl ex2
 grind
theorem zk (hx:x∈k.map g.tail) (hy:y∈k.map g.tail) (hz:z∈k.map g.tail) (jj:x≠y) (wX:y≠z) (AG:x≠z) :
  ∃ ox P oy Q oz R,(bj k (ox :: P++oy :: Q++oz :: R)\/bj k (ox :: P++oz :: Q++oy :: R))/\g.tail ox=x/\g.tail oy=y/\g.tail oz=z:=by
 obtain⟨u,C,v,D,hr,e1,e2⟩:=yX hx hy jj;obtain⟨w,hw,e3⟩:=jS hz;have hw':=hr.perm.mem_iff.1 hw;have w1:w≠u:=λq=>AG (by grind);have w2:w≠v:=λq=>wX (by grind);rcases Qa.1 hw' with q | q
 ·obtain⟨C1,C2,rfl⟩:=Qd ((Qf.1 q).resolve_left w1)
  exact⟨u,C1,v,C2,w,D,QA (by grind),e1,e2,e3⟩
 obtain⟨D1,D2,rfl⟩:=Qd ((Qf.1 q).resolve_left w2);exact⟨u,C,v,D1,w,D2,Qh (by grind),e1,e2,e3⟩
theorem O5 (h:cQ g p aa F) (hf:f∈F) (hk:k∈F) (hj:j∈F) (xw:f≠k) (hfj:f≠j) (OY:k≠j) (jj:x≠y) (wX:y≠z) (AG:x≠z)
  (hx:x∈f.map g.tail/\x∈k.map g.tail/\x∈j.map g.tail) (hy:y∈f.map g.tail/\y∈k.map g.tail/\y∈j.map g.tail) (hz:z∈f.map g.tail/\z∈k.map g.tail/\z∈j.map g.tail):False:=by
 have key:∀ {x y z:Int},x≠y->y≠z->x≠z->x∈k.map g.tail/\x∈j.map g.tail->y∈k.map g.tail/\y∈j.map g.tail->z∈k.map g.tail/\z∈j.map g.tail->∀ {ox P oy Q oz R},bj f (ox :: P++oy :: Q++oz :: R)->g.tail ox=x->g.tail oy=y->g.tail oz=z->False:=by
  intro x y z jj wX AG hx hy hz ox P oy Q oz R hr e1 e2 e3;subst e1 e2 e3;obtain⟨kx,P',ky,Q',kz,R',hk3,i1,i2,i3⟩:=zk hx.1 hy.1 hz.1 jj wX AG;have hkn:k.Nodup:=dB (h.simple k hk);rcases hk3 with q | q
  ·have r1:bj k (kx :: P'++ky :: (Q'++kz :: R')):=by simpa using q
   have r2:bj k (ky :: Q'++kz :: (R'++kx :: P')):=r1.trans ⟨kx :: P',ky :: (Q'++kz :: R'),rfl,by simp⟩;have r3:bj k (kz :: R'++kx :: (P'++ky :: Q')):=r1.trans ⟨kx :: P'++ky :: Q',kz :: R',by simp,by simp⟩;have n1:=(r1.perm.nodup_iff).1 hkn;have n2:=(r2.perm.nodup_iff).1 hkn;have g1:∀ d∈kx :: P',d ∉ ky :: Q'/\d ∉ kz :: R':=λd hd=>⟨λr=>(Qc.1 n1).2.2 d hd d (by grind) rfl,λr=>(Qc.1 n1).2.2 d hd d (by grind) rfl⟩;have g2:∀ d∈ky :: Q',d ∉ kz :: R':=λd hd r=>(Qc.1 n2).2.2 d hd d (by grind) rfl;refine Mc h hf hk hj xw hfj OY hr r1 r2 r3 i1 i2 i2 i3 i3 i1 true (λd hd=>?_) hx.2 hy.2 hz.2;rcases Qa.1 (q.perm.mem_iff.1 hd) with w | w
   all_goals grind
  -- the other order: x,z,y
  have r1:bj k (kx :: (P'++kz :: Q')++ky :: R'):=by simpa using q
  have r2:bj k (ky :: (R'++kx :: P')++kz :: Q'):=r1.trans ⟨kx :: P'++kz :: Q',ky :: R',by simp,by simp⟩;have r3:bj k (kz :: (Q'++ky :: R')++kx :: P'):=r1.trans ⟨kx :: P',kz :: Q'++ky :: R',by simp,by simp⟩;have n1:=(r1.perm.nodup_iff).1 hkn;have g1:∀ d∈ky :: R',d ∉ kx :: P'/\d ∉ kz :: Q':=λd hd=>⟨λr=>(Qc.1 n1).2.2 d (by grind) d hd rfl,λr=>(Qc.1 n1).2.2 d (by grind) d hd rfl⟩;have g2:∀ d∈kx :: P',d ∉ kz :: Q':=λd hd r=>by
   grind
  have c1:∀ d,decide (d∈kx :: (P'++kz :: Q'))=(decide (d∈kx :: P') || decide (d∈kz :: Q')):=λd=>by
   grind
  have c2:∀ d,decide (d∈ky :: (R'++kx :: P'))=(decide (d∈ky :: R') || decide (d∈kx :: P')):=λd=>by
   grind
  have c3:∀ d,decide (d∈kz :: (Q'++ky :: R'))=(decide (d∈kz :: Q') || decide (d∈ky :: R')):=λd=>by
   grind
  refine Mc h hf hk hj xw hfj OY hr r1 r2 r3 i1 i2 i2 i3 i3 i1 false (λd hd=>?_) hx.2 hy.2 hz.2
  all_goals grind
 obtain⟨ox,P,oy,Q,oz,R,hr,e1,e2,e3⟩:=zk hx.1 hy.1 hz.1 jj wX AG
 all_goals grind
theorem VE (h:cQ g p aa F) (hf:f∈F) (hk:k∈F) (hj:j∈F) (xw:f≠k) (hfj:f≠j) (OY:k≠j) (hSf:∀ v∈S,v∈f.map g.tail) (hS:∀ v∈S,v∈k.map g.tail) (hT:∀ v∈T,v∈j.map g.tail):¬ jh (f.map g.tail) S T:=by
 rintro (⟨x,hx,y,hy,z,hz,w,hw,A,B,hr,hA,hB⟩ | ⟨x,y,z,hx,hy,hz,jj,wX,AG⟩)
 all_goals grind [KZ,O5]
