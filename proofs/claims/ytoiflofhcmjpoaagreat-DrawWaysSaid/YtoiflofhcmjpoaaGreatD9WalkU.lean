/- The walks of turns are determined; the error of turns that are not on spheres. No program here. -/
import Derived.Test.YtoiflofhcmjpoaaGreatD9Next
import Derived.Test.YtoiflofhcmjpoaaGreatD9ReachW
open List renaming getElem?_cons_succ→Qa,getD→Qb,mem_map→Qc,take_succ_eq_append_getElem→Qd,pairwise_iff_getElem→Qf,mem_cons→Qg,getElem?_eq_getElem→Qh,set_cons_succ→Qi,filter_append→Qj,pairwise_append→Ql,nodup_cons→Qm,filter_nil→Qn,getElem_of_mem→Qo,pairwise_cons→Qq,drop_eq_getElem_cons→Qr,mem_flatten→Qu,length_take→Qv,take_length→Qw,filter_cons_of_pos→Qx,filter_cons_of_neg→Qy,take_append_drop→QA,length_filter_le→QB,nodup_append→QC,mem_append→QE,mem_filter→QF,append_nil→QG
open Nat renaming le_trans→Qe,lt_or_ge→QI,zero_le→QJ,le_refl→QK
open Go.Value renaming slice→Qk,ownBlock→Qp
open Classical renaming byContradiction→Qs
open Option renaming some→Qt,getD_some→QD
open Or renaming inl→Qz,inr→QH
namespace Go.Proofs.YtoiflofhcmjpoaaGreat.Plain
theorem ig {p:Pt} (h:p.e.Pairwise (·<·)):p.ah.Pairwise (·<·):=by
 obtain⟨v,e⟩:=p;unfold Pt.ah;dsimp only at h ⊢
 induction e with
 | nil=>simp
 | cons a l ih =>
  rw[Qq] at h;rw[List.flatMap_cons,Ql]
  grind
theorem wh.Mm {g:Gr} {p:Pt} {aa:List (List Int)} {F:List bn} (h:wh g p aa F p.ah) (hr:p.e.Pairwise (·<·)) {f:bn} (hf:f∈F) {y:Int} (hy:y∈f.2):f.1<=y:=by
 obtain⟨a,b,e,ha⟩:=h.least f hf;have hd:=h.sub y (Qu.2 ⟨f.2,Qc.2 ⟨f,hf,rfl⟩,hy⟩);have hp:=ig hr;rw[e] at hd hp;rcases QE.1 hd with q | q
 ·exact absurd q (ha y hy)
 rcases Qg.1 q with q | q
 ·omega
 have:=(Qq.1 (Ql.1 hp).2.1).1 y q;omega
theorem wh.uR {g:Gr} {p:Pt} {aa:List (List Int)} {F:List bn} (h:wh g p aa F p.ah) (hr:p.e.Pairwise (·<·)):(F.map (·.1)).Pairwise (·<·):=(ig hr).sublist h.keys
theorem wh.ZW {g:Gr} {p:Pt} {aa:List (List Int)} {F F':List bn} (h:wh g p aa F p.ah) (h':wh g p aa F' p.ah) (hr:p.e.Pairwise (·<·)) {f:bn} (hf:f∈F):f∈F':=by
 obtain⟨l,e⟩:=h.key f hf;have hd:f.1∈flat F':=h'.cover _ (h.sub _ (Qu.2 ⟨f.2,Qc.2 ⟨f,hf,rfl⟩,by grind⟩));obtain⟨c,hc,Xz⟩:=Qu.1 hd;obtain⟨f',wR,rfl⟩:=Qc.1 hc;obtain⟨l',e'⟩:=h'.key f' wR;have fQ:=h.rings.ring f.2 (Qc.2 ⟨f,hf,rfl⟩);have fh:=h'.rings.ring f'.2 hc;obtain⟨m,hm,dW⟩:=fh.from Xz;have xC:(f.1 :: l).Nodup:=by
  rw[<-e];exact (eK.1 h.rings.nodup).1 _ (Qc.2 ⟨f,hf,rfl⟩)
 have iI:f'.2.Nodup:=(eK.1 h'.rings.nodup).1 _ hc;have hn3:(f.1 :: m).Nodup:=dW.nodup_iff.2 iI;rw[e] at fQ;have hlm:l=m:=Trail.det (x:=f.1) fQ hm (Qm.1 xC).1 (Qm.1 hn3).1;subst hlm;have h1:f.1<=f'.1:=h.Mm hr hf (by rw[e];exact dW.mem_iff.2 (by grind));have h2:f'.1<=f.1:=h'.Mm hr wR Xz;have hk:f.1=f'.1:=by omega
 rw[e'] at fh iI;rw[<-hk] at fh iI;have GD:l=l':=Trail.det (x:=f.1) fQ fh (Qm.1 xC).1 (Qm.1 iI).1
 grind
theorem Dp:∀ {F F':List bn},(F.map (·.1)).Pairwise (·<·)->(F'.map (·.1)).Pairwise (·<·)->(∀ f,f∈F↔f∈F')->F=F'
 | [],[],_,_,_=>rfl
 | [],f :: F',_,_,h=>by have:=(h f).2 (by simp);simp at this
 | f :: F,[],_,_,h=>by have:=(h f).1 (by simp);simp at this
 | f :: F,f' :: F',h1,h2,h=>by
  rw[List.map_cons,Qq] at h1 h2;have a1:∀ x∈F,f.1<x.1:=fun x hx=>h1.1 x.1 (Qc.2 ⟨x,hx,rfl⟩);have a2:∀ x∈F',f'.1<x.1:=fun x hx=>h2.1 x.1 (Qc.2 ⟨x,hx,rfl⟩);have e:f=f':=by
   rcases Qg.1 ((h f).1 (by simp)) with q | q
   ·exact q
   rcases Qg.1 ((h f').2 (by simp)) with r | r
   ·exact r.symm
   have:=a1 _ r;have:=a2 _ q;omega
  subst e;rw[Dp h1.2 h2.2 fun x=>⟨fun hx=>?_,fun hx=>?_⟩]
  ·rcases Qg.1 ((h x).1 (by simp[hx])) with q | q
   ·subst q;have:=a1 _ hx;omega
   exact q
  rcases Qg.1 ((h x).2 (by simp[hx])) with q | q
  ·subst q;have:=a2 _ hx;omega
  exact q
theorem dy.one {g:Gr} {p:Pt} {aa:List (List Int)} {W W':List bn} (hr:p.e.Pairwise (·<·)) (h:dy g p aa W) (h':dy g p aa W'):W=W':=by
 obtain⟨F,e,k⟩:=h.split;obtain⟨F',e',k'⟩:=h'.split;rw[e,e',Dp (k.uR hr) (k'.uR hr) fun f=>⟨fun hf=>k.ZW k' hr hf,fun hf=>k'.ZW k hr hf⟩]
open Classical in
noncomputable def cJ (g:Gr) (p:Pt) (aa:List (List Int)):List bn:=if h:∃ W,dy g p aa W then Classical.choose h else []
theorem dy.eq {g:Gr} {p:Pt} {aa:List (List Int)} {W:List bn} (hr:p.err g=0) (h:dy g p aa W):W=cJ g p aa:=by
 have hex:∃ W,dy g p aa W:=⟨W,h⟩;unfold cJ;rw[dif_pos hex];exact h.one (bM (Pt.aA hr).2.2.1) (Classical.choose_spec hex)
def Flat (g:Gr) (p:Pt) (aa:List (List Int)):Prop:=∀ r∈roots g p,de g p (cJ g p aa) r=0
open Classical in
noncomputable def df (g:Gr) (p:Pt) (aa:List (List Int)):Int:=if bB g p aa≠0 then bB g p aa else if Flat g p aa then 0 else 6
theorem zU {g:Gr} {p:Pt} {aa:List (List Int)} (h:bB g p aa≠0):df g p aa=bB g p aa:=if_pos h
theorem uC {g:Gr} {p:Pt} {aa:List (List Int)} (h:bB g p aa=0) (hf:Flat g p aa):df g p aa=0:=by grind [df]
theorem CP {g:Gr} {p:Pt} {aa:List (List Int)} (h:bB g p aa=0) (hf:¬ Flat g p aa):df g p aa=6:=by grind [df]
theorem gC {g:Gr} {p:Pt} {aa:List (List Int)} (h:df g p aa=0):bB g p aa=0/\Flat g p aa:=by
 all_goals grind [bB,CP,zU]
theorem Fs {g:Gr} {p:Pt} {aa:List (List Int)} {W:List bn} (hr:p.err g=0) (h:dy g p aa W):(W.map (·.1)).Pairwise (·<·):=by
 obtain⟨F,rfl,ht⟩:=h.split;rw[List.map_append,Ql];have hv:=(Pt.aA hr).2.1;have La:=Pt.ay hr;refine⟨?_,ht.uR (bM (Pt.aA hr).2.2.1),fun x hx y hy=>?_⟩
 ·unfold cR
  rw[List.map_map,List.pairwise_map];refine (List.Pairwise.filter _ (List.pairwise_reverse.2 (bM hv))).imp fun {a b} qi=>?_;show -1 - a < -1 - b;omega
 obtain⟨f,hf,rfl⟩:=Qc.1 hx;obtain⟨v,OQ,rfl⟩:=Qc.1 hf;have Ax:=La.vr v (List.mem_reverse.1 (QF.1 OQ).1);have hd:=ht.keys.subset hy;rw[aw] at hd;have:=La.er _ hd;show -1 - v<y;omega
end Go.Proofs.YtoiflofhcmjpoaaGreat.Plain
namespace Go.Proofs.YtoiflofhcmjpoaaGreat
def nZ (V E:Int->List Int) (R:List Int):List Cell:=R.flatMap fun r=>[.row (V r),.row (E r)]
theorem CM (V E:Int->List Int) (R:List Int) (r:Int):nZ V E (R++[r])=nZ V E R++[.row (V r),.row (E r)]:=by simp[nZ]
theorem dS (V E:Int->List Int) (R:List Int) (r:Int):nZ V E (r :: R)=.row (V r) :: .row (E r) :: nZ V E R:=rfl
theorem qj (V E:Int->List Int):∀ (R:List Int) (n:Nat),n<R.length->(nZ V E R)[n*2]?=some (.row (V (R.getD n 0)))
 | [],n,h=>by simp at h
 | r :: R,0,_=>by rw[dS];rfl
 | r :: R,n+1,h=>by
  rw[dS,show (n+1)*2=n*2+1+1 by omega,Qa,Qa,qj V E R n (by simpa using h)];rfl
theorem ti (V E:Int->List Int):∀ (R:List Int) (n:Nat),n<R.length->(nZ V E R)[n*2+1]?=some (.row (E (R.getD n 0)))
 | [],n,h=>by simp at h
 | r :: R,0,_=>by rw[dS];rfl
 | r :: R,n+1,h=>by
  rw[dS,show (n+1)*2+1=(n*2+1)+1+1 by omega,Qa,Qa,ti V E R n (by simpa using h)];rfl
theorem kN {V E V' E':Int->List Int}:∀ {R:List Int},(∀ r∈R,V r=V' r/\E r=E' r)->nZ V E R=nZ V' E' R
 | [],_=>rfl
 | r :: R,h=>by rw[dS,dS,(h r (by simp)).1,(h r (by simp)).2,kN fun s hs=>h s (by simp[hs])]
theorem qp {V V' E:Int->List Int}:∀ {R:List Int} {n:Nat},n<R.length->(∀ m,m<R.length->m≠n->V' (R.getD m 0)=V (R.getD m 0))->nZ V' E R=(nZ V E R).set (n*2) (.row (V' (R.getD n 0)))
 | [],n,h,_=>by simp at h
 | r :: R,0,_,hm=>by
  rw[dS,dS];show _ :: _ :: _=_ :: _ :: _
  congr 2
  refine kN fun s hs=>⟨?_,rfl⟩;obtain⟨i,hi,e⟩:=Qo hs;have:=hm (i+1) (by simpa using hi) (by omega);simpa[Qb,hi,e] using this
 | r :: R,n+1,h,hm=>by
  have ih:=qp (V:=V) (V':=V') (E:=E) (R:=R) (n:=n) (by simpa using h) (fun m nT jo=>by simpa using hm (m+1) (by simpa using nT) (by omega));have h0:=hm 0 (by simp) (by omega);rw[dS,dS,ih,show (n+1)*2=n*2+1+1 by omega,Qi,Qi];simp at h0;rw[h0];rfl
theorem sK {V E E':Int->List Int}:∀ {R:List Int} {n:Nat},n<R.length->(∀ m,m<R.length->m≠n->E' (R.getD m 0)=E (R.getD m 0))->nZ V E' R=(nZ V E R).set (n*2+1) (.row (E' (R.getD n 0)))
 | [],n,h,_=>by simp at h
 | r :: R,0,_,hm=>by
  rw[dS,dS];show _ :: _ :: _=_ :: _ :: _
  congr 2
  refine kN fun s hs=>⟨rfl,?_⟩;obtain⟨i,hi,e⟩:=Qo hs;have:=hm (i+1) (by simpa using hi) (by omega);simpa[Qb,hi,e] using this
 | r :: R,n+1,h,hm=>by
  have ih:=sK (V:=V) (E:=E) (E':=E') (R:=R) (n:=n) (by simpa using h) (fun m nT jo=>by simpa using hm (m+1) (by simpa using nT) (by omega));have h0:=hm 0 (by simp) (by omega);rw[dS,dS,ih,show (n+1)*2+1=(n*2+1)+1+1 by omega,Qi,Qi];simp at h0;rw[h0];rfl
namespace Plain
open Classical in
noncomputable def bd (g:Gr) (p:Pt) (k:Nat):List Int:=(p.v.take k).filter fun v=>decide (∀ u∈p.v,b9 g p (-1) v u->v<=u)
theorem qF (g:Gr) (p:Pt):bd g p 0=[]:=by simp[bd]
theorem mK (g:Gr) (p:Pt):bd g p p.v.length=roots g p:=by grind [bd,roots]
open Classical in
theorem jZ {g:Gr} {p:Pt} {k:Nat} {r:Int} (h:r∈bd g p k):r∈roots g p/\r∈p.v.take k:=by
 grind [bd,ep]
open Classical in
theorem zi {g:Gr} {p:Pt} {k:Nat} (hk:k<p.v.length) (h:p.v.getD k 0∈roots g p):bd g p (k+1)=bd g p k++[p.v.getD k 0]:=by
 unfold bd;have e:p.v.take (k+1)=p.v.take k++[p.v.getD k 0]:=by rw[Qd hk];simp[Qb,hk]
 grind [ep]
open Classical in
theorem za {g:Gr} {p:Pt} {k:Nat} (hk:k<p.v.length) (h:p.v.getD k 0 ∉ roots g p):bd g p (k+1)=bd g p k:=by
 unfold bd;have e:p.v.take (k+1)=p.v.take k++[p.v.getD k 0]:=by rw[Qd hk];simp[Qb,hk]
 grind [ep]
theorem j5 (g:Gr) (p:Pt) (k:Nat):(bd g p k).length<=p.v.length:=by
 grind [bd]
theorem aQ {l:List Int} {n:Nat} (h:n<l.length):l.getD n 0∈l:=by grind
def ey (g:Gr) (p:Pt) (R:List Int) (f:Int->Option Int):Prop:=∀ y i,f y=some i↔∃ n:Nat,i=(n:Int)/\n<R.length/\b9 g p (-1) (R.getD n 0) y
theorem ey.start (g:Gr) (p:Pt):ey g p [] (fun _=>none):=fun y i=>by simp
open Classical in
theorem ey.root {g:Gr} {p:Pt} {k:Nat} {f:Int->Option Int} (hp:aB g p) (hr:p.v.Pairwise (·<·)) (h:ey g p (bd g p k) f) (hk:k<p.v.length) (hf:f (p.v.getD k 0)=none):p.v.getD k 0∈roots g p:=by
 obtain⟨r,fQ,hc⟩:=tg (g:=g) (fun v hv=>(hp.vr v hv).1) (aQ hk);have hle:=(ep.1 fQ).2 _ (aQ hk) hc;by_cases e:r=p.v.getD k 0
 ·rw[<-e];exact fQ
 exfalso;have Kd:=(ep.1 fQ).1;obtain⟨j,hj,hje⟩:=bN Kd;have He:j<k:=by
  rcases QI j k with q | q
  ·exact q
  exfalso;rcases Nat.eq_or_lt_of_le q with q | q
  ·subst q;exact e hje.symm
  have:=Qf.1 hr k j hk hj q;simp[Qb,hk,hj] at hje hle;omega
 have hm:r∈bd g p k:=by
  unfold bd;refine QF.2 ⟨?_,decide_eq_true (ep.1 fQ).2⟩;rw[<-hje];have:(p.v.take k)[j]?=some p.v[j]:=by rw[List.getElem?_take,if_pos He,Qh hj]
  have e2:p.v.getD j 0=p.v[j]:=by simp[Qb,hj]
  rw[e2];exact List.mem_of_getElem? this
 obtain⟨n,hn,bh⟩:=bN hm;have:=(h (p.v.getD k 0) (n:Int)).2 ⟨n,rfl,hn,by rw[bh];exact hc⟩;rw[hf] at this;cases this
theorem ey.known {g:Gr} {p:Pt} {k:Nat} {f:Int->Option Int} (hp:aB g p) (h:ey g p (bd g p k) f) (hk:k<p.v.length) {i:Int} (hf:f (p.v.getD k 0)=some i):p.v.getD k 0 ∉ roots g p:=by
 intro hr;obtain⟨n,-,hn,hc⟩:=(h _ _).1 hf;have hm:=jZ (aQ hn);have e:=qm (fun v hv=>(hp.vr v hv).1) hm.1 hr hc .here;have h2:=hm.2;rw[e] at h2;have gS:=hp.vn;rw[<-QA k p.v,QC] at gS;have:p.v.getD k 0∈p.v.drop k:=by
  have e2:p.v.getD k 0=p.v[k]:=by simp[Qb,hk]
  rw[e2,Qr hk];exact List.mem_cons_self
 exact gS.2.2 _ h2 _ this rfl
theorem ey.add {g:Gr} {p:Pt} {R:List Int} {f f':Int->Option Int} (hp:aB g p) (h:ey g p R f) (hR:∀ r∈R,r∈roots g p) {v:Int} (hv:v∈roots g p) (hn:v ∉ R)
  (h1:∀ y,b9 g p (-1) v y->f' y=some (R.length:Int)) (h2:∀ y,¬ b9 g p (-1) v y->f' y=f y):ey g p (R++[v]) f':=by
 intro y i;have gl:∀ n,n<R.length->(R++[v]).getD n 0=R.getD n 0:=fun n hn=>by simp[Qb,List.getElem?_append_left hn]
 have gr:(R++[v]).getD R.length 0=v:=by simp[Qb]
 by_cases hc:b9 g p (-1) v y
 ·rw[h1 y hc]
  constructor
  ·intro e
   cases e;exact⟨R.length,rfl,by simp,by rw[gr];exact hc⟩
  rintro ⟨n,rfl,xC,iI⟩;by_cases e:n<R.length
  ·rw[gl n e] at iI
   exact absurd (qm (fun v hv=>(hp.vr v hv).1) (hR _ (aQ e)) hv iI hc ▸ aQ e) hn
  have:n=R.length:=by simp at xC;omega
  rw[this]
 rw[h2 y hc,h y i];constructor
 ·rintro ⟨n,rfl,xC,iI⟩
  exact⟨n,rfl,by simp;omega,by rw[gl n xC];exact iI⟩
 rintro ⟨n,rfl,xC,iI⟩;by_cases e:n<R.length
 ·rw[gl n e] at iI
  exact⟨n,rfl,e,iI⟩
 have e2:n=R.length:=by simp at xC;omega
 rw[e2,gr] at iI;exact absurd iI hc
noncomputable def vM (g:Gr) (p:Pt) (k:Nat) (r:Int):List Int:=(p.v.take k).filter fun v=>decide (v∈comp g p r)
noncomputable def qE (g:Gr) (p:Pt) (k:Nat) (r:Int):List Int:=(p.e.take k).filter fun e=>decide (g.tail (2*e)∈comp g p r)
theorem hZ {l:List Int} {j:Nat} (hj:j<l.length):l.take (j+1)=l.take j++[l.getD j 0]:=by
 rw[Qd hj]
 grind
theorem VA {g:Gr} {p:Pt} {k:Nat} {r:Int} (hk:k<p.v.length) (h:p.v.getD k 0∈comp g p r):vM g p (k+1) r=vM g p k r++[p.v.getD k 0]:=by
 unfold vM;rw[hZ hk,Qj,Qx (by simpa using h),Qn]
theorem Sv {g:Gr} {p:Pt} {k:Nat} {r:Int} (hk:k<p.v.length) (h:p.v.getD k 0 ∉ comp g p r):vM g p (k+1) r=vM g p k r:=by
 unfold vM;rw[hZ hk,Qj,Qy (by simpa using h),Qn,QG]
theorem Vy {g:Gr} {p:Pt} {k:Nat} {r:Int} (hk:k<p.e.length) (h:g.tail (2*p.e.getD k 0)∈comp g p r):qE g p (k+1) r=qE g p k r++[p.e.getD k 0]:=by
 unfold qE;rw[hZ hk,Qj,Qx (by simpa using h),Qn]
theorem SN {g:Gr} {p:Pt} {k:Nat} {r:Int} (hk:k<p.e.length) (h:g.tail (2*p.e.getD k 0) ∉ comp g p r):qE g p (k+1) r=qE g p k r:=by
 unfold qE;rw[hZ hk,Qj,Qy (by simpa using h),Qn,QG]
theorem qn {g:Gr} {p:Pt} (hp:aB g p) {R:List Int} (hR:∀ r∈R,r∈roots g p) (hn:R.Nodup) {v:Int} {n m:Nat} (h1:n<R.length) (h2:m<R.length) (hc:b9 g p (-1) (R.getD n 0) v) (hm:v∈comp g p (R.getD m 0)):m=n:=by
 have e:=qm (fun v hv=>(hp.vr v hv).1) (hR _ (aQ h1)) (hR _ (aQ h2)) hc (cE.1 hm).2;refine Qs fun bh=>?_;have q:=Qf.1 hn;simp only[Qb,Qh h1,Qh h2,QD] at e;rcases QI n m with w | w
 ·exact q n m h1 h2 w e
 exact q m n h2 h1 (by omega) e.symm
theorem wT {g:Gr} {p:Pt} (hp:aB g p) (k:Nat):(bd g p k).Nodup:=by
 unfold bd;exact ((List.take_sublist k p.v).nodup hp.vn).filter _
theorem ac9 {g:Gr} {p:Pt} (hp:aB g p) {k:Nat} (hk:k<p.v.length):p.v.getD k 0 ∉ p.v.take k:=by
 intro h2;have gS:=hp.vn;rw[<-QA k p.v,QC] at gS;have:p.v.getD k 0∈p.v.drop k:=by
  have e2:p.v.getD k 0=p.v[k]:=by simp[Qb,hk]
  rw[e2,Qr hk]
  grind
 grind
theorem MI {g:Gr} {p:Pt} (hr:p.v.Pairwise (·<·)) {k:Nat} (hk:k<p.v.length) (h:p.v.getD k 0∈roots g p):vM g p k (p.v.getD k 0)=[]:=by
 unfold vM;rw[List.filter_eq_nil_iff];intro u hu hc;have hc:=(cE.1 (of_decide_eq_true hc));have h1:=(ep.1 h).2 u hc.1 hc.2;obtain⟨j,hj,e⟩:=Qo hu;rw[Qv] at hj;rw[List.getElem_take] at e;have:=Qf.1 hr j k (by omega) hk (by omega);simp[Qb,hk] at h1;omega
theorem M7 (g:Gr) (p:Pt) (r:Int):qE g p 0 r=[]:=by simp[qE]
open Classical in
theorem Pn (g:Gr) (p:Pt) (r:Int):vM g p p.v.length r=comp g p r:=by
 unfold vM;rw[Qw]
 conv=>rhs;unfold comp
 refine List.filter_congr fun v hv=>?_;have:=cE (g:=g) (p:=p) (a:=r) (u:=v);simp[this,hv]
theorem Pp {g:Gr} {p:Pt} (h:aB g p) (r:Int):qE g p p.e.length r=(p.sub g (comp g p r)).e:=by
 unfold qE;rw[Qw,xV h r]
end Plain
end Go.Proofs.YtoiflofhcmjpoaaGreat
namespace Go.Proofs.YtoiflofhcmjpoaaGreat
open Go.RowKit Go.Maps
theorem By:nh 57 27 (.agg #[.slice none 0 0,.slice none 0 0]) 2 48:=⟨Tryz.underlying57,by kernel_rfl,rfl,by decide,by decide⟩
theorem tY (w:World) (B:Nat):aj w B (.slice none 0 0) []:=⟨World.ownsRow_nil _ _ _ _,by simp,by simp⟩
theorem ou {w:World} {B n sz g cap q:Nat} {e:TypeId} {xs:List Value} {cs:List Cell} {l:List Int} {x:Int} (h:bu w B e sz (.slice (some ⟨g,0,none⟩) n cap) n xs cs) (he:e≠3) (hB:B<=w.heap.size) (hq:q<xs.length) (hc:cs[q]?=some (.row l)) (hx:aU x) (hn:l.length+1<4294967296) :
  ∃ va vc mg l8 w2,w.cell? ⟨g,q,none⟩=some (.slice va l.length vc)/\(Builtin.append_ #[25,25] 25 #[.slice va l.length vc,.slice (some ⟨w.heap.size,0,none⟩) 1 1]).run Tryz.prog (w.alloc (.cells #[.int .i64 x] 3))=.ok (.slice mg (l.length+1) l8) w2 /\
   w2.cell? ⟨g,q,none⟩=some (.slice va l.length vc)/\w2.frozen? ⟨g,q,none⟩=false /\
   bu (w2.setCell ⟨g,q,none⟩ (.slice mg (l.length+1) l8)) B e sz (.slice (some ⟨g,0,none⟩) n cap) n (xs.set q (.slice mg (l.length+1) l8)) (cs.set q (.row (l++[x]))) /\
   ∃ own,ag own w (w2.setCell ⟨g,q,none⟩ (.slice mg (l.length+1) l8))/\∀ j∈own,B<=j/\∃ cs t r,w.heap[j]?=some (.cells cs t r):=by
 have aJ:=h.row hc;obtain⟨va,vc,ev⟩:=aJ.shape;have aK:=h.cell hq;rw[ev] at aK aJ;have ca:ag [] w (w.alloc (.cells #[.int .i64 x] 3)):=(ag.refl _ _).alloc _;obtain⟨v',w2,hr,r1,r2,r3⟩:=gD (aJ.aD ca (by simp)) (fT w hx) (Qe hB ca.size) (by simp;omega) 25;obtain⟨mg,l8,ev'⟩:=r1.shape;rw[show (l++[x]).length=l.length+1 by simp] at ev';subst ev';have bA:ag (aE (.slice va l.length vc)) w w2:=(ca.mono (by simp)).trans r2 (fun j hj=>Qz hj);have Ya:g ∉ aE (.slice va l.length vc):=fun em=>by
  obtain⟨AM,r,hh⟩:=bR aJ g em;rcases h.out.2 with ⟨q,_⟩ | ⟨g',c',cur,q,_,hg,_⟩
  ·cases q
  simp only[Qk.injEq,Qt.injEq,Addr.mk.injEq] at q;obtain⟨⟨rfl,-⟩,-⟩:=q;rw[hg] at hh;simp at hh;exact he hh.2.1
 have oZ:=bA.cell aK Ya;have uO:=h.put (v:=.slice mg (l.length+1) l8) (m:=l++[x]) he hq hc r1 (by rw[ev];exact bA) (fun b hb=>by
  rw[ev];rcases r3 b hb with t | t
  ·exact Qz t
  exact QH (Qe ca.size t))
 have hgh:∃ cur,w.heap[g]?=some (.cells cur e (0,0))/\B<=g:=by
  rcases h.out.2 with ⟨q,_⟩ | ⟨g',c',cur,q,hb,hg,_⟩
  ·cases q
  simp only[Qk.injEq,Qt.injEq,Addr.mk.injEq] at q;obtain⟨⟨rfl,-⟩,-⟩:=q;exact⟨_,hg,hb⟩
 obtain⟨cur,hg,hgB⟩:=hgh;have Cz:=bA.heap hg Ya;have aZ:ag [g] w2 (w2.setCell ⟨g,q,none⟩ (.slice mg (l.length+1) l8)):=(ag.refl _ _).setCell (Qz (by simp)) _;refine⟨va,vc,mg,l8,w2,aK,hr,oZ,by simp[World.frozen?,Cz],uO,g :: aE (.slice va l.length vc),(bA.mono (fun j hj=>Qz (by simp[hj]))).trans aZ (fun j hj=>Qz (by simp at hj;simp[hj])),fun j hj=>?_⟩;rcases Qg.1 hj with t | t
 ·rw[t];exact⟨hgB,_,_,_,hg⟩
 obtain⟨AM,r,hh⟩:=bR aJ j t;exact⟨(aJ.low j (by rw[<-aJ.aE];exact t)).1,_,_,_,hh⟩
theorem Of {g:Plain.Gr} {p:Plain.Pt} (hp:Plain.aB g p) {a y:Int} (ha:a∈p.v) (h:Plain.b9 g p (-1) a y):y∈p.v:=by
 induction h with
 | here=>exact ha
 | step _ hn _ _ =>
  obtain⟨e,he,q | q⟩:=hn
  ·have:=(hp.ends e he).2;rw[q] at this;exact this
  have:=(hp.ends e he).1;rw[q] at this;exact this
theorem PG (x y:Int):(Lit.int .i64 y).sameKey (.int .i64 x)=decide (y=x):=by
 simp[Lit.sameKey]
set_option maxRecDepth 100000 in
set_option maxHeartbeats 4000000 in
theorem Gj (vg vp:Value) (g:Plain.Gr) (p:Plain.Pt) (w:World) (qM:p.e.length<=100000) (wB:p.v.length<=100000) (hg:dJ w vg g) (hp:fL w vp p) :
  Calls Tryz.prog 117 #[vg,vp] w fun e w'=>∃ ov,e=.returned (.tuple #[ov,.int .i64 (p.err g)])/\(p.err g≠0->ov=.slice none 0 0) /\
   (p.err g=0->∃ xs,bu w' w.heap.size 27 2 ov (Plain.roots g p).length xs (nZ (Plain.comp g p) (fun r=>(p.sub g (Plain.comp g p r)).e) (Plain.roots g p)))/\ag [] w w':=by
 have HG:=lh hg;have HP:=lh hp;obtain⟨eo,cap,rfl,hn,hm,dK,aK⟩:=hg;obtain⟨v1,v2,rfl,hv,he⟩:=hp;obtain⟨ao,ac,rfl,has,DA,jy⟩:=hv;obtain⟨bo,bc,rfl,wE,sQ,ft⟩:=he;have qZ:=lh aK;have Bq:=lh jy;have uE:=lh ft;have fZ:=lh dK;obtain⟨fz,ff,cY⟩:=eZ w #[.int .i64 g.n,.slice eo g.e.length cap] #[.slice ao p.v.length ac,.slice bo p.e.length bc] 24 27;have X0:=lh ((cell_of_row _ _ 0 _ _ _ fz).trans (show _=some (Value.int .i64 g.n) from rfl));have X1:=lh ((cell_of_row _ _ 1 _ _ _ fz).trans (show _=some (Qk eo g.e.length cap) from rfl));have Y0:=lh ((cell_of_row _ _ 0 _ _ _ ff).trans (show _=some (Qk ao p.v.length ac) from rfl));have Y1:=lh ((cell_of_row _ _ 1 _ _ _ ff).trans (show _=some (Qk bo p.e.length bc) from rfl));have b8:=lh cY;clear aK jy ft dK wE has hn fz ff cY
 go_enter Tryz.func117,Tryz.ntmps117
 go_wp2_with fail
 refine (eW _ _ g p _ (by omega) (HG.out.fresh b8.out) (HP.out.fresh b8.out)).mono ?_;rintro e w2 ⟨rfl,bA⟩;have cB:=lh (b8.out.tr bA);have x0:=bA.dp X0.out;have x1:=bA.dp X1.out;have y0:=bA.dp Y0.out;have y1:=bA.dp Y1.out;have wV:=lh (show w.heap.size+2<=w2.heap.size by have:=bA.size;simpa using this);clear bA;by_cases hr:p.err g=0
 ·have HR:=lh hr
  rw[hr];have jN:=lh (Plain.Pt.ay hr);have UW:=lh (Plain.bM (Plain.Pt.aA hr).2.1);have KZ:=lh (Plain.Gr.aA (Plain.Pt.aA hr).1).2.1
  go_wp2_with fail
  refine (rU _ _ g p _ (by omega) hr (HG.out.fresh cB.out) (HP.out.fresh cB.out)).mono ?_;rintro e w3 ⟨db,rfl,hsmap,cT,mj⟩;have HSD:=lh hsmap;have cU:=lh (cB.out.tr cT);have X03:=lh (cT.dp x0);have YY:=lh (cT.dp x1);have y03:=cT.dp y0;have ajz:=fun o=>bP y03 o;have Y13:=lh (cT.dp y1);have mY:=@run_makeMap Tryz.prog;have Rw:=lh (show w.heap.size+2<=w3.heap.size by have:=cT.size;have:=wV.out;omega);clear cT hsmap x0 x1 y0 y1 hr mj;go_wp2;clear mY y03 ajz;have XH:=lh (bK.made w3);have iO:=lh ((ag.refl [] w3).alloc (.map #[] 0));generalize Ju:w3.alloc (.map #[] 0)=w4 at *;clear Ju
  go_loopw [9,32] (fun c9 c wr=>∃ (k:Nat) (f:Int->Option Int) (xs:List Value),k<=p.v.length/\c=.int .i64 k/\bK wr w3.heap.size (k*1000000) f/\Hid (Plain.ey g p (Plain.bd g p k) f)/\bu wr w3.heap.size 27 2 c9 (Plain.bd g p k).length xs (nZ (Plain.vM g p k) (Plain.qE g p 0) (Plain.bd g p k))/\ag [] w3 wr) (fun _ c _=>p.v.length - (intOf c).toNat)
  case atStart=>exact⟨0,_,[],QJ _,rfl,by rw[Nat.zero_mul];exact XH.out,lh (by rw[Plain.qF];exact Plain.ey.start g p),by rw[Plain.qF];exact bu.nil _ _ _ _,iO.out⟩
  case round =>
   obtain⟨k,f,xs,hk,rfl,hm,pF,bh,hc⟩:=hrel;have HM:=lh hm;have jg:=lh bh;have HC:=lh hc;by_cases aL:k<p.v.length
   ·obtain⟨ab,xB,rfl,kU⟩:=Bq.out (by intro e;rw[e] at aL;simp at aL)
    have ck:=HC.out.dp (cU.out.dp (kU k aL));have Ax:=Plain.aQ aL;have Fb:=jN.out.vr _ Ax;have HRT:=lh (fun h=>pF.out.root jN.out UW.out aL h);have XV:=lh (fun i (h:f _=some i)=>pF.out.known jN.out aL h);have sS:=lh (Plain.zi (g:=g) aL);have YQ:=lh (Plain.za (g:=g) aL);have HVI:=lh (fun r=>Plain.VA (g:=g) (r:=r) aL);have HVO:=lh (fun r=>Plain.Sv (g:=g) (r:=r) aL);have Hw:=lh (Plain.MI (g:=g) UW.out aL);have HNV:=lh (Plain.ac9 jN.out aL);have Dx:=lh aL;obtain⟨v,K0⟩:∃ v,p.v.getD k 0=v:=⟨_,rfl⟩;rw[K0] at ck Ax Fb HRT XV sS YQ HVI HVO Hw HNV;have IV:aU v:=aU.mk (by omega) (by have:=KZ.out;omega);have HVM:=lh Ax;obtain⟨uo,uc,rfl⟩:=bh.shape;clear K0 kU hm bh hc Ax;obtain⟨u1,Ex⟩:∃ u1,(f v).getD 0=u1:=⟨_,rfl⟩;obtain⟨t1,YN⟩:∃ t1,(f v).isSome=t1:=⟨_,rfl⟩;have RS:=lh Ex;have DI:=lh YN;clear Ex YN
    go_upto_if 43 with (at_lookup;refine dT _ rfl _ _ rfl HM.out rfl IV rfl RS DI ?_)
    go_cut [9] (fun c9 wc=>∃ (f:Int->Option Int) (xs:List Value),bK wc w3.heap.size (k*1000000+1000000) f/\Hid (Plain.ey g p (Plain.bd g p (k+1)) f)/\bu wc w3.heap.size 27 2 c9 (Plain.bd g p (k+1)).length xs (nZ (Plain.vM g p k) (Plain.qE g p 0) (Plain.bd g p (k+1)))/\ag [] w3 wc/\Hid (∃ n:Nat,f v=some (n:Int)/\n<(Plain.bd g p (k+1)).length/\Plain.b9 g p (-1) ((Plain.bd g p (k+1)).getD n 0) v))
    case first =>
     cases Es:f v with
     | some i =>
      have HE:=lh (YQ.out (XV.out i Es));have Gl:=lh ((pF.out v i).1 Es);obtain rfl:t1=true:=by rw[<-DI.out,Es];rfl
      have HFV:=lh Es;clear Es;go_wp2
      go_meet
      case rel =>
       refine⟨f,xs,HM.out.mono (by omega),by rw[HE.out];exact pF,by rw[HE.out];exact jg.out,HC.out,?_⟩;obtain⟨n,e,xC,iI⟩:=Gl.out;exact lh ⟨n,by rw[HFV.out,e],by rw[HE.out];exact xC,by rw[HE.out];exact iI⟩
     | none =>
      obtain rfl:t1=false:=by rw[<-DI.out,Es];rfl
      have Li:=lh (HRT.out Es);have HE:=lh (sS.out Li.out);have x0w:=HC.out.dp X03.out;have x1w:=HC.out.dp YY.out;clear Es
      go_wp2_with fail
      refine (Ka _ g p db (2*p.e.length) v (-1) _ (by omega) (by omega) HR.out HVM.out IV (aU.mk (by omega) (by omega)) (HG.out.fresh (cU.out.tr HC.out)) (HSD.out.fresh HC.out)).mono ?_;rintro e w5 ⟨rk,m,fr,rfl,hmr,qR,eO,hrk,hmn⟩;obtain⟨Dm,bH,hDm⟩:=hmr;have O2:=lh hDm;have fD:=lh bH;have MA:=lh qR;have Ia:=lh (HM.out.aD eO (by simp));have abg:=lh (jg.out.fresh eO);have ga:=lh (HC.out.tr eO);have apK:=bH.size_le;have adM:=bH.lt;have hwl:=HM.out.lt;have HWL:=lh hwl;have akb:=lh (show rk≠w3.heap.size by omega);have asz:=lh adM;clear hDm qR eO x0w x1w adM hwl hrk
      go_wp2_with (at_range;refine wpList_range_own _ rfl _ 124 rfl 3 3 bI Tryz.underlying124 _ rk m Dm rfl bH ?_;intro w6 aaF Pf EM)
      go_frame
      have Xh:=lh (show w3.heap.size<w5.heap.size from Ia.out.lt);have apy:=lh aaF;have HG0:=lh Pf;have hlen:(Plain.bd g p k).length<=100000:=Qe (Plain.j5 g p k) wB;clear Pf EM bH;obtain⟨len,hle⟩:∃ len,(Plain.bd g p k).length=len:=⟨_,rfl⟩;have vy:=lh hle;have L5:=lh (show bu w5 w3.heap.size 27 2 (.slice uo len uc) len xs (nZ (Plain.vM g p k) (Plain.qE g p 0) (Plain.bd g p k)) by rw[<-hle];exact abg.out);rw[hle] at hlen ⊢;clear hle abg;have IL:aU (len:Int):=aU.mk (by omega) (by omega)
      go_loopw [14] (fun _ wi=>∃ (left:Lit->Bool) (fe:Nat) (f':Int->Option Int) (n':Nat),wi.ranges Tryz.prog 3 (plainElem Tryz.prog 3) rk w5.heap.size m Dm left fe/\bK wi w3.heap.size n' f'/\n'+fe<=k*1000000+1000000/\Hid (∀ z,left z=true->Maps.has Dm z=true)/\Hid (∀ y,(fr y≠none->left (.int .i64 y)=false->f' y=some (len:Int))/\(fr y=none\/left (.int .i64 y)=true->f' y=f y))/\Hid (ag [w3.heap.size] w5 wi)) (fun _ wi=>wi.rangeLeft rk w5.heap.size)
      case atStart=>exact⟨_,_,f,_,aaF,Ia.out.kept HG0.out (by simp),by omega,lh (fun z h=>h),lh (fun y=>⟨fun h1 h2=>by
        have iy:aU y:=by
         have:=jN.out.vr y (Of jN.out HVM.out ((MA.out y).1 h1));exact aU.mk (by omega) (by have:=KZ.out;omega)
        rw[(O2.out y iy).1] at h2;exact absurd (by simpa using h2) h1,fun _=>rfl⟩),lh ((ag.refl [w3.heap.size] w5).grown HG0.out (by simp))⟩
      case round =>
       obtain⟨left,fe,f',n',Va,Um,nt,hlh,Ma,dV⟩:=hrel;have HM':=lh Um;clear Um
       go_wp2_with (at_next;refine wpList_next_ranges_ii _ rfl _ rfl 3 3 .i64 .i64 bI Tryz.underlying3 Tryz.underlying3 rk w5.heap.size m _ _ _ rfl Va ?_ ?_)
       ·intro gO EG
        have DE:=lh ((ag.refl [w3.heap.size] w5).trans dV.out (fun j hj=>Qz hj));have HNI:=lh (L5.out.other dV.out (fun j hj cs t r hh=>by simp at hj;subst hj;exact absurd rfl (Ia.out.ne hh)));have XR:=lh (show w3.heap.size<=wr.heap.size by have:=Xh.out;have:=dV.out.size;omega);have zB:=lh (ga.out.trans dV.out (fun j hj=>QH (by simp at hj;omega)));have HPM:=lh (show Plain.ey g p (Plain.bd g p (k+1)) f' by
         rw[HE.out];refine pF.out.add jN.out (fun r hr=>(Plain.jZ hr).1) Li.out (fun h=>HNV.out (Plain.jZ h).2) (fun y hy=>?_) (fun y hy=>?_)
         ·rw[vy.out]
          exact (Ma.out y).1 ((MA.out y).2 hy) (EG _)
         exact (Ma.out y).2 (Qz (Qs fun h=>hy ((MA.out y).1 h))))
        have HFV:=lh (show f' v=some (len:Int) from (Ma.out v).1 ((MA.out v).2 .here) (EG _));have EJ:=lh (show n'<=k*1000000+1000000 by omega);clear Va hlh Ma dV EG gO
        go_wp2_with (at_builtin;refine oK By rfl (.tmp 57) (.tmp 59) rfl (v:=.slice uo len uc) rfl rfl rfl HNI.out.out XR.out rfl (by intro u hu;simp at hu;rw[hu];rfl) (by omega) ?_;intro g4 aav w9 r9 c9 l9;have R9:=lh r9;have C9:=lh c9;clear r9 c9 l9;go_frame)
        go_meet
        case rel =>
         have iu:=HNI.out.add (us:=[.slice none 0 0,.slice none 0 0]) (ds:=[.row [],.row []]) (by decide) rfl rfl (fun i d hi=>by
          rcases i with _ | _ | i
          ·simp at hi;subst hi;exact tY _ _
          ·simp at hi;subst hi;exact tY _ _
          ·simp at hi) (fun i j hi hj bh=>by
          simp at hi;rcases i with _ | _ | i
          ·exact Qz rfl
          ·exact Qz rfl
          ·omega) (fun i j b hi hj hb e=>by
          simp at hj;rcases j with _ | _ | j
          ·simp[Qp] at e
          ·simp[Qp] at e
          omega) R9.out C9.out
         have ah8:nZ (Plain.vM g p k) (Plain.qE g p 0) (Plain.bd g p (k+1))=nZ (Plain.vM g p k) (Plain.qE g p 0) (Plain.bd g p k)++[.row [],.row []]:=by
          rw[HE.out,CM,Hw.out Li.out,Plain.M7]
         have LV:(Plain.bd g p (k+1)).length=len+1:=by rw[HE.out,List.length_append,vy.out];rfl
         refine⟨f',_,(HM'.out.mono EJ.out).aD C9.out (fun e=>?_),HPM,by rw[ah8,LV];exact iu,zB.out.trans C9.out (fun j hj=>QH (HNI.out.out.lt j (by simpa using hj)).1),lh ⟨len,HFV.out,by rw[LV];omega,?_⟩⟩
         ·rcases HNI.out.out.2 with ⟨q,_⟩ | ⟨g',c',cur,q,_,hg,_⟩
          ·rw[q] at e;simp[Qp] at e
          rw[q] at e;simp[Qp] at e;subst e;exact HM'.out.ne hg rfl
         rw[HE.out];simp only[Qb,<-vy.out,List.getElem?_append_right (QK _),Nat.sub_self,List.getElem?_cons_zero,QD];exact .here
       intro x c w7 agD hwx Jh hlx dU agQ N9 H8 hs1 kD;have B9:=lh (HM'.out.kept H8 (by intro e;have:=Qt.inj e;have:=Xh.out;omega));have YW:n'<maxLen:=by unfold maxLen;omega
       go_wp2_with (at_mapUpdate;refine gF _ rfl _ _ _ rfl B9.out YW rfl hwx IL rfl rfl ?_;intro w8 m8 g8;have M8:=lh m8;have G8:=lh g8;clear m8 g8;go_frame)
       have aax:=agQ.kept G8.out (fun e=>akb.out (Qt.inj e)) (fun e=>by have:=Qt.inj e;have:=Xh.out;omega)
       go_roundw
       case rel =>
        refine⟨_,agD,_,n'+1,aax,M8.out,by omega,lh (fun z hz=>hlh.out z (by simp at hz;exact hz.1)),lh (fun y=>?_),lh ((dV.out.grown H8 (fun j hj=>QH (by cases hj;exact QK _))).grown G8.out (fun j hj=>Qz (by cases hj;simp)))⟩;have xG:fr x≠none:=by
         have:=hlh.out _ hlx;rw[(O2.out x hwx).1] at this;exact Option.isSome_iff_ne_none.1 this
        rw[PG];by_cases e:y=x
        ·subst e
         exact⟨fun _ _=>by rw[if_pos rfl],fun h=>by rcases h with h | h;exact absurd h xG;simp at h⟩
        rw[if_neg e];simp only[e,decide_false,Bool.not_false,Bool.and_true];exact Ma.out y
       case measure=>rw[aax.left_eq,Va.left_eq];exact N9
    case rest =>
     obtain⟨f2,Fq,jo,akK,A6,Wx,hex⟩:=hcut;obtain⟨n,Px,BX,qx⟩:=hex.out;have ao8:(Plain.bd g p (k+1)).length<=100000:=Qe (Plain.j5 g p (k+1)) wB;have hRR:∀ r∈Plain.bd g p (k+1),r∈Plain.roots g p:=fun r hr=>(Plain.jZ hr).1;have rX:v∈Plain.comp g p ((Plain.bd g p (k+1)).getD n 0):=Plain.cE.2 ⟨HVM.out,qx⟩;have EA:=lh (show nZ (Plain.vM g p (k+1)) (Plain.qE g p 0) (Plain.bd g p (k+1))=(nZ (Plain.vM g p k) (Plain.qE g p 0) (Plain.bd g p (k+1))).set (n*2) (.row (Plain.vM g p k ((Plain.bd g p (k+1)).getD n 0)++[v])) by
      rw[<-HVI.out _ rX];exact qp BX (fun m hm hmn=>HVO.out _ (fun cL=>hmn (Plain.qn jN.out hRR (Plain.wT jN.out _) BX hm qx cL))))
     have RC:=qj (Plain.vM g p k) (Plain.qE g p 0) _ n BX;have sM:(Plain.vM g p k ((Plain.bd g p (k+1)).getD n 0)).length<=100000:=by
      unfold Plain.vM;refine Qe (QB _ _) ?_;rw[Qv];omega
     obtain⟨og,oc,rfl⟩:=A6.some (by omega);have sW:=A6.cells;obtain⟨va,vc,mg,l8,w8,p1,p2,p3,p4,p5,own,p6,p7⟩:=ou A6 (q:=n*2) (by decide) Wx.size (by omega) RC IV (by omega);have pZ:=lh p2;have RY:=lh p5;have xo:=lh p6;have HP7:=lh p7;have mr:=lh jo;have ah2:=lh Wx;have OM:Hid ((f2 v).getD 0=(n:Int)):=lh (by rw[Px];rfl);clear p2 p5 p6 p7 jo A6 Wx hex Px qx hRR rX RC;generalize (Plain.vM g p k ((Plain.bd g p (k+1)).getD n 0))=V0 at *;generalize hRL:(Plain.bd g p (k+1)).length=RL at *;have M9:=lh hRL;clear hRL
     go_wp2_with (first
      | (at_lookup;refine iZ _ rfl _ _ rfl mr.out rfl IV rfl OM ?_)
      | (at_builtin;refine eU rfl (.tmp 70) (.tmp 72) _ rfl rfl rfl pZ.out ?_))
     go_roundw
     case rel =>
      refine⟨k+1,f2,_,by have:=Dx.out;omega,by go_num,(mr.out.mono (by omega)).aD xo.out (fun e=>?_),akK,by rw[EA.out,M9.out];exact RY.out,ah2.out.trans xo.out (fun j hj=>QH (HP7.out j hj).1)⟩;obtain⟨-,cs,t,r,hh⟩:=HP7.out _ e;exact mr.out.ne hh rfl
     case measure=>have:=Dx.out;simp[intOf];omega
   have e:k=p.v.length:=by omega
   subst e;rw[Plain.mK] at pF bh;have adg:nZ (Plain.vM g p p.v.length) (Plain.qE g p 0) (Plain.roots g p)=nZ (Plain.comp g p) (Plain.qE g p 0) (Plain.roots g p):=kN fun r _=>⟨Plain.Pn g p r,rfl⟩;rw[adg] at bh;have yP:(Plain.roots g p).length<=100000:=by rw[<-Plain.mK];exact Qe (Plain.j5 g p _) wB
   have OM:=lh bh;obtain⟨uo,uc,rfl⟩:=bh.shape;have y1:=HC.out.dp Y13.out;clear adg jg bh hm hc aL hk;generalize T7:Plain.roots g p=R at *;have Aj:=lh T7;clear T7;generalize wr=wz at *;go_wp2
   go_loopw [80] (fun c wr=>∃ (k:Nat) (xs:List Value),k<=p.e.length/\c=.int .i64 k/\bu wr w3.heap.size 27 2 (.slice uo R.length uc) R.length xs (nZ (Plain.comp g p) (Plain.qE g p k) R)/\bK wr w3.heap.size (p.v.length*1000000) f/\ag [] w3 wr) (fun c _=>p.e.length - (intOf c).toNat)
   case atStart=>exact⟨0,xs,QJ _,rfl,OM.out,HM.out,HC.out⟩
   case round =>
    obtain⟨k,Fq,hk,rfl,bh,hm,hc⟩:=hrel;have j9:=lh hc;have HMR:=lh hm;by_cases aL:k<p.e.length
    ·obtain⟨bb,sX,rfl,qQ⟩:=uE.out (by intro e;rw[e] at aL;simp at aL)
     have ce:=hc.dp (cU.out.dp (qQ k aL));have AE:=Plain.bX (Plain.Pt.aA HR.out).2.2.1 aL;obtain⟨ei,tx⟩:∃ ei:Nat,p.e.getD k 0=(ei:Int):=⟨(p.e.getD k 0).toNat,by omega⟩;have qO:=jN.out.ends _ (Plain.aQ aL);have HEI:=lh (fun r=>Plain.Vy (g:=g) (r:=r) aL);have HEO:=lh (fun r=>Plain.SN (g:=g) (r:=r) aL);rw[tx] at ce AE qO HEI HEO;have vZ:ei<g.e.length:=by omega
     have acJ:(ei:Int)<=1024:=by have:=(Plain.Gr.aA (Plain.Pt.aA HR.out).1).2.2.1;have:=(Plain.Gr.aA (Plain.Pt.aA HR.out).1).1;omega
     obtain⟨eb,dO,rfl,gO,-⟩:=qZ.out ei vZ;obtain⟨z1,-⟩:=fZ.out ei vZ;have c0:=hc.dp (cU.out.dp gO);have x1w:=hc.dp YY.out;have wu:g.tail (2*(ei:Int))=(g.ends ei).1:=by unfold Plain.Gr.tail Plain.Gr.at;rw[if_pos (by omega)];congr 2;omega
     have dU:(g.at (ei:Int)).1=(g.ends ei).1:=rfl;rw[dU] at qO;rw[wu] at HEI HEO;obtain⟨x,hx⟩:∃ x,(g.ends ei).1=x:=⟨_,rfl⟩;rw[hx] at qO z1 c0 HEI HEO;obtain⟨r,fQ,sC⟩:=Plain.tg (g:=g) (fun v hv=>(jN.out.vr v hv).1) qO.1;rw[Aj.out] at fQ;obtain⟨n,BX,O7⟩:=Plain.bN fQ;have hRR:∀ r∈R,r∈Plain.roots g p:=fun r hr=>by rw[Aj.out];exact hr
     have xG:f x=some (n:Int):=(pF.out x n).2 ⟨n,rfl,BX,by rw[O7];exact sC⟩;have rX:x∈Plain.comp g p (R.getD n 0):=Plain.cE.2 ⟨qO.1,by rw[O7];exact sC⟩;have X':R.Nodup:=by rw[<-Aj.out];exact Plain.nj jN.out
     have EA:=lh (show nZ (Plain.comp g p) (Plain.qE g p (k+1)) R=(nZ (Plain.comp g p) (Plain.qE g p k) R).set (n*2+1) (.row (Plain.qE g p k (R.getD n 0)++[(ei:Int)])) by
      rw[<-HEI.out _ rX];exact sK BX (fun m hm hmn=>HEO.out _ (fun cL=>hmn (Plain.qn jN.out hRR X' BX hm (by rw[O7];exact sC) cL))))
     have RC:=ti (Plain.comp g p) (Plain.qE g p k) _ n BX;have sM:(Plain.qE g p k (R.getD n 0)).length<=100000:=by
      unfold Plain.qE;refine Qe (QB _ _) ?_;rw[Qv];omega
     obtain⟨og,oc,e⟩:=bh.some (by omega);simp only[Qk.injEq] at e;obtain⟨rfl,-,rfl⟩:=e;have sW:=bh.cells;obtain⟨va,vc,mg,l8,w8,p1,p2,p3,p4,p5,own,p6,p7⟩:=ou bh (q:=n*2+1) (x:=(ei:Int)) (by decide) hc.size (by omega) RC (aU.mk (by omega) (by omega)) (by omega);have pZ:=lh p2;have RY:=lh p5;have xo:=lh p6;have HP7:=lh p7;have HN3:Hid ((f x).getD 0=(n:Int)):=lh (by rw[xG];rfl);have Dx:=lh aL;clear p2 p5 p6 p7 hm bh hc xG hRR rX RC qQ AE tx qO gO wu dU hx fQ sC O7 X';generalize (Plain.qE g p k (R.getD n 0))=V0 at *
     go_wp2_with (first
      | (at_lookup;refine iZ _ rfl _ _ rfl HMR.out rfl z1 rfl HN3 ?_)
      | (at_builtin;refine eU rfl (.tmp 98) (.tmp 100) _ rfl rfl rfl pZ.out ?_))
     go_roundw
     case rel =>
      refine⟨k+1,_,by have:=Dx.out;omega,by go_num,by rw[EA.out];exact RY.out,HMR.out.aD xo.out (fun e=>?_),j9.out.trans xo.out (fun j hj=>QH (HP7.out j hj).1)⟩;obtain⟨-,cs,t,r,hh⟩:=HP7.out _ e;exact HMR.out.ne hh rfl
     case measure=>have:=Dx.out;simp[intOf];omega
    have e:k=p.e.length:=by omega
    subst e;have HN4:=lh (show bu wr w.heap.size 27 2 (.slice uo R.length uc) R.length Fq (nZ (Plain.comp g p) (fun r=>(p.sub g (Plain.comp g p r)).e) R) by
     have:=bh.base (show w.heap.size<=w3.heap.size by have:=Rw.out;omega);rwa[show nZ (Plain.comp g p) (Plain.qE g p p.e.length) R=nZ (Plain.comp g p) (fun r=>(p.sub g (Plain.comp g p r)).e) R from kN fun r _=>⟨rfl,Plain.Pp jN.out r⟩] at this)
    have qh:=lh (cU.out.tr hc);clear bh hm hc;go_wp2;refine bodyPost_ret (v:=.tuple #[.slice uo R.length uc,.int .i64 0]) (by simp[results,Tryz.results117,go_sem]) rfl ?_;rw[Aj.out,HR.out];exact⟨_,rfl,fun h=>absurd rfl h,fun _=>⟨Fq,HN4.out⟩,qh.out⟩
 have HR:=lh hr;obtain⟨er,mf⟩:∃ er,p.err g=er:=⟨_,rfl⟩;have ze:=lh mf;rw[mf] at hr HR ⊢;clear mf;go_wp2;refine bodyPost_ret (v:=.tuple #[.slice none 0 0,.int .i64 er]) (by simp[results,Tryz.results117,go_sem]) rfl ?_;rw[ze.out];exact⟨_,rfl,fun _=>rfl,fun h=>absurd h HR.out,cB.out⟩
theorem xY {w:World} {B n i:Nat} {e:TypeId} {ov:Value} {xs:List Value} {V E:Int->List Int} {R:List Int} (h:bu w B e 2 ov n xs (nZ V E R)) (hn:n=R.length) (hi:i<R.length) :
  ∃ g c va vc ea ec,ov=.slice (some ⟨g,0,none⟩) n c/\w.cell? ⟨g,i*2,none⟩=some (.slice va (V (R.getD i 0)).length vc)/\w.cell? ⟨g,i*2+1,none⟩=some (.slice ea (E (R.getD i 0)).length ec)/\aj w B (.slice va (V (R.getD i 0)).length vc) (V (R.getD i 0))/\aj w B (.slice ea (E (R.getD i 0)).length ec) (E (R.getD i 0)):=by
 obtain⟨g,c,rfl⟩:=h.some (by omega);have hx:=h.cells;have r1:=h.row (qj V E R i hi);have r2:=h.row (ti V E R i hi);have c1:=h.cell (k:=i*2) (by omega);have c2:=h.cell (k:=i*2+1) (by omega);obtain⟨va,vc,e1⟩:=r1.shape;obtain⟨ea,ec,e2⟩:=r2.shape
 grind
theorem yV:∀ (W:List Plain.bn) (i:Nat),i<W.length->(eV W)[i*2]?=some (.num (W.getD i (0,[])).1)/\(eV W)[i*2+1]?=some (.row (W.getD i (0,[])).2)
 | [],i,h=>by simp at h
 | f :: W,0,_=>⟨rfl,rfl⟩
 | f :: W,i+1,h=>by
  have ih:=yV W i (by simpa using h);have e:eV (f :: W)=.num f.1 :: .row f.2 :: eV W:=rfl;rw[e,show (i+1)*2=i*2+1+1 by omega,show i*2+1+1+1=(i*2+1)+1+1 by omega];simp only[Qa,List.getD_cons_succ];exact ih
theorem Is {w:World} {B n i:Nat} {e:TypeId} {ov:Value} {xs:List Value} {W:List Plain.bn} (h:bu w B e 2 ov n xs (eV W)) (hn:n=W.length) (hi:i<W.length) :
  ∃ g c va vc,ov=.slice (some ⟨g,0,none⟩) n c/\w.cell? ⟨g,i*2,none⟩=some (.int .i64 (W.getD i (0,[])).1)/\w.cell? ⟨g,i*2+1,none⟩=some (.slice va (W.getD i (0,[])).2.length vc)/\aj w B (.slice va (W.getD i (0,[])).2.length vc) (W.getD i (0,[])).2:=by
 obtain⟨g,c,rfl⟩:=h.some (by omega);have hx:=h.cells;have hf:=yV W i hi;have n1:=h.num hf.1;have r2:=h.row hf.2;have c1:=h.cell (k:=i*2) (by omega);have c2:=h.cell (k:=i*2+1) (by omega);obtain⟨va,vc,e2⟩:=r2.shape
 grind
namespace Plain
def Told (g:Gr) (p:Pt) (R:List Int) (i j:Nat) (f:Int->Option Int):Prop :=
 (∀ m,m<i->∀ y∈comp g p (R.getD m 0),f y=some (m:Int))/\∀ y∈(comp g p (R.getD i 0)).take j,f y=some (i:Int)
theorem Told.start (g:Gr) (p:Pt) (R:List Int) (f:Int->Option Int):Told g p R 0 0 f:=⟨fun m hm=>by omega,by simp⟩
theorem Told.next {g:Gr} {p:Pt} {R:List Int} {i j:Nat} {f:Int->Option Int} (hp:aB g p) (hR:∀ r∈R,r∈roots g p) (hn:R.Nodup) (hi:i<R.length) (hj:j<(comp g p (R.getD i 0)).length) (h:Told g p R i j f) :
  Told g p R i (j+1) (fun y=>if y=(comp g p (R.getD i 0)).getD j 0 then some (i:Int) else f y):=by
 have hv:=aQ hj;refine⟨fun m hm y hy=>?_,fun y hy=>?_⟩
 ·dsimp only
  rw[if_neg (fun e=>?_)]
  ·exact h.1 m hm y hy
  rw[e] at hy;have:=qn hp hR hn (by omega:i<R.length) (by omega:m<R.length) (cE.1 hv).2 hy;omega
 dsimp only;rw[hZ hj,QE] at hy;by_cases e:y=(comp g p (R.getD i 0)).getD j 0
 ·rw[if_pos e]
 rw[if_neg e];rcases hy with q | q
 ·exact h.2 y q
 exact absurd (List.mem_singleton.1 q) e
theorem Told.row {g:Gr} {p:Pt} {R:List Int} {i:Nat} {f:Int->Option Int} (h:Told g p R i (comp g p (R.getD i 0)).length f):Told g p R (i+1) 0 f:=by
 refine⟨fun m hm y hy=>?_,by simp⟩;by_cases e:m<i
 ·exact h.1 m e y hy
 obtain rfl:m=i:=by omega
 exact h.2 y (by rw[Qw];exact hy)
theorem Told.all {g:Gr} {p:Pt} {f:Int->Option Int} (hp:aB g p) (h:Told g p (roots g p) (roots g p).length 0 f) {v:Int} (hv:v∈p.v):∃ n,n<(roots g p).length/\f v=some (n:Int)/\v∈comp g p ((roots g p).getD n 0):=by
 obtain⟨r,hr,hc⟩:=tg (g:=g) (fun v hv=>(hp.vr v hv).1) hv;obtain⟨n,hn,e⟩:=bN hr;have hm:v∈comp g p ((roots g p).getD n 0):=cE.2 ⟨hv,by rw[e];exact hc⟩;exact⟨n,hn,h.1 n hn v hm,hm⟩
theorem Bx (g:Gr) (p:Pt) (r:Int):(comp g p r).length<=p.v.length:=by
 grind [comp]
end Plain
end Go.Proofs.YtoiflofhcmjpoaaGreat
