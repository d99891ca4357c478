/- draw.Block draws each block that has turns on a Pn. No program here. -/
import Derived.Test.YtbkjljffnkdcjaaGreatD9Round
open List renaming pairwise_iff_getElem→Qa,nodup_append→Qc,mem_append_left→Qd,mem_map→Qe,filter_eq_nil_iff→Qf,pairwise_flatten→Qg,mem_iff_getElem→Qh,mem_singleton→Qi,pairwise_map→Qk,mem_cons→Qm
open Classical renaming byContradiction→Qb
open Nat renaming lt_trichotomy→Qj
open Or renaming inr→Ql,inl→Qn
namespace Go.Proofs.YtbkjljffnkdcjaaGreat.Plain
theorem D8:∀ {L:List bj} {k:Nat},pick L=some k->(L.getD k ⟨[],[],[]⟩).aj.length=1
 | [],_,h=>by cases h
 | c :: l,k,h=>by
  rw[pick] at h;split at h
  ·rename_i q;cases h;exact q
  cases hq:pick l with
  | none=>rw[hq] at h;cases h
  | some m =>
   rw[hq] at h;cases h;have h2:=D8 (L:=l) (k:=m) hq;simpa using h2
theorem IP:∀ {L:List bj},pick L=none->∀ r∈L,r.aj.length≠1
 | [],_,r,hr=>by simp at hr
 | c :: l,h,r,hr=>by
  rw[pick] at h;split at h
  ·cases h
  rename_i q;cases hq:pick l with
  | some m=>rw[hq] at h;cases h
  | none =>
   rcases Qm.1 hr with e | e
   ·rw[e];exact q
   exact IP hq r e
theorem DD {R:List bj} {i:Nat} (h:choose R=some i):(R.getD i ⟨[],[],[]⟩).aj.length=1\/∀ r∈R,r.aj.length≠1:=by
 unfold choose at h;split at h
 ·cases h
 cases h;unfold fx;rw[List.drop_zero];cases hq:pick R with
 | none=>exact Ql (IP hq)
 | some k=>left;simp only[Nat.zero_add];exact D8 hq
theorem oF {g:Gr} {p:Pt} {aa:List (List Int)} {F:List (List Int)} (h:cL g p aa F) {i j:Int} (h0:0<=i) (hi:i.toNat<F.length) (h1:0<=j) (hj:j.toNat<F.length) (bh:i≠j):bg F i≠bg F j:=by
 have hn:=(Qg.1 h.rings.nodup).2;have aU:∀ {m n:Nat} (hm:m<F.length) (Uu:n<F.length),m<n->F[m]≠F[n]:=fun {m n} hm Uu YX q=>by
  have h3:=Qa.1 hn m n hm Uu YX;have hr:=h.rings.ring F[m] (List.getElem_mem hm);cases hq:F[m] with
  | nil=>rw[hq] at hr;exact hr.elim
  | cons a l=>exact h3 a (by rw[hq];simp) a (by rw[<-q,hq];simp) rfl
 have e1:bg F i=F[i.toNat]:=by unfold bg;simp[List.getD,hi]
 have e2:bg F j=F[j.toNat]:=by unfold bg;simp[List.getD,hj]
 rw[e1,e2];rcases Qj i.toNat j.toNat with q | q | q
 ·exact aU hi hj q
 ·omega
 exact Ne.symm (aU hj hi q)
open Classical in
theorem N9 {g:Gr} {b p:Pt} {s:Sk} {aa:List (List Int)} {a:List Int->Int} {i:Nat} (h:rD g b s p aa) (hE:ZJ g s a) (hi:i<s.rest.length) (dI:choose s.rest=some i) :
  ∃ a',ZJ g s a'/\a' (s.rest.getD i ⟨[],[],[]⟩).ah=(s.rest.getD i ⟨[],[],[]⟩).aj.getD 0 0:=by
 have ad5:=DD dI;obtain⟨Sq,-⟩:=kH hi (⟨[],[],[]⟩:bj);generalize gy:s.rest.getD i ⟨[],[],[]⟩=c at *;have lN:c∈s.rest:=by rw[Sq];simp
 have hc:=h.lV c lN;have YO:∀ (F:List Int) (v:Int),dt g F v=true↔v∈F.map g.tail:=fun F v=>by
  rw[cX,Qe]
 have NV:∀ r∈s.rest,∀ j,j∈r.aj↔0<=j/\j.toNat<s.aj.length/\∀ v∈r.ends,v∈(bg s.aj j).map g.tail:=fun r hr j=>by
  rw[(h.lV r hr).Ns j];simp only[YO]
 have Xf:∀ r∈s.rest,a r.ah∈r.aj:=fun r hr=>(NV r hr _).2 (hE.pos r hr);rcases ad5 with hb | hb
 ·refine⟨a,hE,?_⟩
  have:=Xf c lN
  match hq:c.aj with
  | []=>rw[hq] at hb;simp at hb
  | [f] =>
   rw[hq] at this;rw[Qi.1 this];rfl
  | f :: f2 :: l=>rw[hq] at hb;simp at hb
 have Ob:∀ r∈s.rest,∀ j,∃ k∈r.aj,k≠j:=fun r hr j=>by
  have hn:=(h.lV r hr).fnd;have h1:=hb r hr;have h2:=Xf r hr
  match hq:r.aj with
  | []=>rw[hq] at h2;simp at h2
  | [_]=>rw[hq] at h1;simp at h1
  | u :: v :: l =>
   rw[hq] at hn;by_cases e:u=j
   ·exact⟨v,by simp,fun q=>by rw[e,q] at hn;simp at hn⟩
   exact⟨u,by simp,e⟩
 obtain⟨f,fl,As⟩:∃ f fl,c.aj=f :: fl:=by
  cases hL:c.aj with
  | nil=>have:=Xf c lN;rw[hL] at this;simp at this
  | cons f fl=>exact⟨f,fl,rfl⟩
 have GQ:c.aj.getD 0 0=f:=by rw[As];rfl
 rw[GQ];have pX:f∈c.aj:=by rw[As];simp
 by_cases MS:a c.ah=f
 ·exact⟨a,hE,MS⟩
 generalize hgg:a c.ah=k at *;have Te:k∈c.aj:=by rw[<-hgg];exact Xf c lN
 let on0:List Int->Int->Prop:=fun E j=>0<=j/\j.toNat<s.aj.length/\∀ v∈br g s.on E,v∈(bg s.aj j).map g.tail
 have zh:∀ r∈s.rest,∀ j,on0 r.ah j↔j∈r.aj:=fun r hr j=>by
  rw[NV r hr j,(h.lV r hr).ends]
 let Ty:List Int->Prop:=fun E=>on0 E f/\on0 E k/\∀ j,on0 E j->j=f\/j=k
 let a':List Int->Int:=fun E=>if Ty E then (if a E=f then k else f) else if E=c.ah then f else a E
 have ty:∀ r∈s.rest,Ty r.ah->f∈r.aj/\k∈r.aj/\(a r.ah=f\/a r.ah=k):=fun r hr ⟨q1,q2,q3⟩=>⟨(zh r hr f).1 q1,(zh r hr k).1 q2,q3 _ ((zh r hr _).2 (Xf r hr))⟩;have nty:∀ r∈s.rest,¬ Ty r.ah->∀ j,(j=f\/j=k)->j∈r.aj->∃ m∈r.aj,m≠f/\m≠k:=fun r hr hn j hj hjr=>Qb fun q=>by
  obtain⟨m,hm,hmj⟩:=Ob r hr j;have all:∀ m∈r.aj,m=f\/m=k:=fun m hm=>Qb fun t=>q ⟨m,hm,fun u=>t (Qn u),fun u=>t (Ql u)⟩;have both:f∈r.aj/\k∈r.aj:=by
   rcases hj with rfl | rfl <;> rcases all m hm with e | e
   ·exact absurd e hmj
   ·exact⟨hjr,e ▸ hm⟩
   ·exact⟨e ▸ hm,hjr⟩
   exact absurd e hmj
  exact hn ⟨(zh r hr f).2 both.1,(zh r hr k).2 both.2,fun j hj=>all j ((zh r hr j).1 hj)⟩
 have KN:∀ r∈s.rest,a' r.ah∈r.aj:=fun r hr=>by
  show (if _ then _ else _)∈_;by_cases t:Ty r.ah
  ·rw[if_pos t]
   obtain⟨q1,q2,-⟩:=ty r hr t;split
   ·exact q2
   exact q1
  rw[if_neg t];by_cases e:r.ah=c.ah
  ·rw[if_pos e]
   have:on0 c.ah f:=(zh c lN f).2 pX;rw[<-e] at this;exact (zh r hr f).1 this
  rw[if_neg e];exact Xf r hr
 -- aj that differ
 have diff:∀ r∈s.rest,∀ r2∈s.rest,∀ j∈r.aj,∀ m∈r2.aj,j≠m->bg s.aj j≠bg s.aj m:=fun r hr r2 cH j hj m hm bh=>by
  obtain⟨j0,j1,-⟩:=(NV r hr j).1 hj;obtain⟨m0,m1,-⟩:=(NV r2 cH m).1 hm;exact oF h.aj j0 j1 m0 m1 bh
 -- three aj
 have three:∀ r∈s.rest,∀ r2∈s.rest,∀ j,j∈r.aj->∀ m∈r.aj,∀ n∈r2.aj,j≠m->j≠n->m≠n->¬ iO ((bg s.aj j).map g.tail) r.ends r2.ends:=fun r hr r2 cH j hj m hm n hn h1 h2 h3=>by
  obtain⟨j0,j1,j2⟩:=(NV r hr j).1 hj;obtain⟨m0,m1,m2⟩:=(NV r hr m).1 hm;obtain⟨n0,n1,n2⟩:=(NV r2 cH n).1 hn;exact UX h.aj (fP j1) (fP m1) (fP n1) (oF h.aj j0 j1 m0 m1 h1) (oF h.aj j0 j1 n0 n1 h2) (oF h.aj m0 m1 n0 n1 h3) j2 m2 n2
 have tn:∀ r∈s.rest,∀ r2∈s.rest,Ty r.ah->¬ Ty r2.ah->∀ j,(j=f\/j=k)->j∈r2.aj->¬ iO ((bg s.aj j).map g.tail) r.ends r2.ends:=fun r hr r2 cH t1 t2 j hj Mi=>by
  obtain⟨q1,q2,-⟩:=ty r hr t1;obtain⟨m,m1,m2,m3⟩:=nty r2 cH t2 j hj Mi;rcases hj with rfl | rfl
  ·exact three r hr r2 cH j q1 k q2 m m1 (Ne.symm MS) (Ne.symm m2) (Ne.symm m3)
  exact three r hr r2 cH j q2 f q1 m m1 MS (Ne.symm m3) (Ne.symm m2)
 refine⟨a',⟨fun r hr=>(NV r hr _).1 (KN r hr),fun r hr r2 cH bh ng=>?_,hE.en⟩,?_⟩
 ·have v1:a' r.ah=if Ty r.ah then (if a r.ah=f then k else f) else if r.ah=c.ah then f else a r.ah:=rfl
  have v2:a' r2.ah=if Ty r2.ah then (if a r2.ah=f then k else f) else if r2.ah=c.ah then f else a r2.ah:=rfl
  by_cases t1:Ty r.ah <;> by_cases t2:Ty r2.ah
  .-- both change places
   obtain⟨q1,q2,q3⟩:=ty r hr t1;obtain⟨w1,w2,w3⟩:=ty r2 cH t2;rw[if_pos t1] at v1;rw[if_pos t2] at v2;have same:a r.ah=a r2.ah:=by
    rw[v1,v2] at ng;rcases q3 with e1 | e1 <;> rcases w3 with e2 | e2
    ·rw[e1,e2]
    ·rw[if_pos e1,if_neg (by rw[e2];exact MS)] at ng;exact absurd ng MS
    ·rw[if_neg (by rw[e1];exact MS),if_pos e2] at ng;exact absurd ng.symm MS
    rw[e1,e2]
   have hold:=hE.Ri r hr r2 cH bh same;intro As;have aiT:a' r.ah≠a r.ah:=by
    rw[v1];rcases q3 with e1 | e1
    ·rw[if_pos e1,e1];exact MS
    rw[if_neg (by rw[e1];exact MS),e1];exact Ne.symm MS
   obtain⟨j0,j1,j2⟩:=(NV r hr _).1 (KN r hr);obtain⟨m0,m1,m2⟩:=(NV r hr _).1 (Xf r hr);obtain⟨n0,n1,n2⟩:=(NV r2 cH _).1 (Xf r2 cH);rw[<-same] at n2;exact hold (H5 h.aj (fP j1) (fP m1) (oF h.aj j0 j1 m0 m1 aiT) m2 n2 As)
  ·rw[ng]
   refine tn r hr r2 cH t1 t2 _ ?_ (KN r2 cH);rw[<-ng,v1,if_pos t1];split
   ·exact Ql rfl
   exact Qn rfl
  ·intro q
   refine tn r2 cH r hr t2 t1 _ ?_ (KN r hr) q.symm;rw[ng,v2,if_pos t2];split
   ·exact Ql rfl
   exact Qn rfl
  rw[if_neg t1] at v1;rw[if_neg t2] at v2;have Vt:∀ r∈s.rest,∀ r2∈s.rest,¬ Ty r.ah->r.ah=c.ah->f∈r2.aj->¬ iO ((bg s.aj f).map g.tail) r.ends r2.ends:=fun r hr r2 cH t1 e1 hf2=>by
   have jW:∀ j,j∈c.aj->j∈r.aj:=fun j hj=>by
    have:on0 c.ah j:=(zh c lN j).2 hj;rw[<-e1] at this;exact (zh r hr j).1 this
   obtain⟨m,m1,m2,m3⟩:=nty r hr t1 f (Qn rfl) (jW f pX);obtain⟨n,n1,n2⟩:=Ob r2 cH f;by_cases q:k=n
   ·exact three r hr r2 cH f (jW f pX) m m1 n n1 (Ne.symm m2) (Ne.symm n2) (fun w=>m3 (w.trans q.symm))
   exact three r hr r2 cH f (jW f pX) k (jW k Te) n n1 (Ne.symm MS) (Ne.symm n2) q
  by_cases e1:r.ah=c.ah
  ·rw[if_pos e1] at v1
   rw[v1];exact Vt r hr r2 cH t1 e1 (by have:=KN r2 cH;rw[<-ng,v1] at this;exact this)
  rw[if_neg e1] at v1;by_cases e2:r2.ah=c.ah
  ·rw[if_pos e2] at v2
   rw[ng,v2];exact fun q=>Vt r2 cH r hr t2 e2 (by have:=KN r hr;rw[ng,v2] at this;exact this) q.symm
  rw[if_neg e2] at v2;rw[v1];exact hE.Ri r hr r2 cH bh (by rw[<-v1,ng,v2])
 show (if _ then _ else _)=_;by_cases t:Ty c.ah
 ·rw[if_pos t,hgg,if_neg MS]
 rw[if_neg t,if_pos rfl]
theorem yb {g:Gr}:∀ {w:List Int} {a z:Int},eR g a w z->eR g z (twins w) a
 | [],a,z,h=>h.symm
 | d :: w,a,z,h=>by
  have h2:eR g z (twins w) (g.head d):=yb h.2;have e:twins (d :: w)=twins w++[aE d]:=by unfold twins;rw[List.map_cons,List.reverse_cons]
  rw[e];refine eR.append.2 ⟨g.head d,h2,?_,?_⟩
  ·rw[aA]
  show g.head (aE d)=a;rw[<-aA,aS];exact h.1
theorem Dp {g:Gr} (w:List Int):((twins w).map g.tail).Perm (w.map g.head):=by
 unfold twins;rw[List.map_reverse];refine (List.reverse_perm _).trans ?_;rw[List.map_map];exact List.Perm.of_eq (List.map_congr_left fun d _=>aA g d)
theorem Lc {g:Gr} {b:Pt} {rt:List (List Int)} (hR:jC g b rt) (hS:cg g b) (h2:2<=b.e.length) (Ef:qJ g b) :
  (∀ e∈b.e,(g.at e).1≠(g.at e).2)/\∃ p aa a,rD g b (fJ g b) p aa/\ZJ g (fJ g b) a/\(fJ g b).left+2<=b.e.length:=by
 have lM:=hR.pe;have iM:=Pt.aF lM;have uE:=hR.js;obtain⟨e0,e1,l,hl⟩:∃ e0 e1 l,b.e=e0 :: e1 :: l:=by
  match hb:b.e with
  | []=>rw[hb] at h2;simp at h2
  | [_]=>rw[hb] at h2;simp at h2
  | e0 :: e1 :: l=>exact⟨e0,e1,l,rfl⟩
 have Pb:b.e.getD 0 0=e0:=by rw[hl];rfl
 have LI:=mP iM hS hl;obtain⟨k1,k2,-⟩:=JV lM (by omega) Ef.1 Ef.2 (by rw[Pb];exact Ah iM hS hl);obtain⟨p,aa,hk,V3⟩:=EL lM hS h2 Ef;refine⟨LI,p,aa,?_⟩;obtain⟨C,hC⟩:∃ C,eY g b=C:=⟨_,rfl⟩;rw[hC] at k1 k2;have uX:(fJ g b).aj=[C,twins C]:=by unfold fJ;rw[hC]
 have jW:(fJ g b).on=dt g C:=by unfold fJ;rw[hC]
 generalize fJ g b=s at *;have ig:=Pt.aF hk.aj.pe;have cU:∀ d,d∈C++twins C↔d∈p.ag:=fun d=>by
  have:=hk.aj.all.mem_iff (a:=d);rw[uX] at this;simpa using this
 have fs:(C++twins C).Nodup:=by
  have:=hk.aj.all;rw[uX] at this;have h3:([C,twins C].flatten).Nodup:=this.nodup_iff.2 (cP ig.en);simpa using h3
 have pa:∀ e∈p.e,e∈b.e:=fun e he=>hk.part.mem_iff.1 (Qd _ he);have hCd:∀ d∈C,d∈b.ag:=fun d hd=>aw.2 (pa _ (aw.1 ((cU d).1 (Qd _ hd))));have agn:∀ d∈C,s.on (g.tail d)=true:=fun d hd=>by rw[jW,cX];exact⟨d,hd,rfl⟩
 have kQ:(C.map (· / 2)).Nodup:=by
  refine Qk.2 ((Qc.1 fs).1.imp_of_mem fun {x y} hx hy bh e=>?_);have e2:y=aE x:=by
   unfold aE;split <;> omega
  have:x∈twins C:=eO.2 (by rw[<-e2];exact hy);exact (Qc.1 fs).2.2 x hx x this rfl
 have cC:jY g b s.on C:=⟨⟨_,k1⟩,k2,kQ,hCd,agn⟩;have hhp:=qh k1;have Uv:((twins C).map g.tail).Perm (C.map g.tail):=(Dp C).trans hhp;have cT:jY g b s.on (twins C):=⟨⟨_,yb k1⟩,Uv.nodup_iff.2 k2,oT.nodup_iff.2 kQ,fun d hd=>by
   have:=hCd _ (eO.1 hd);have:=bu this;rwa[aS] at this,fun d hd=>by
   have:g.tail d∈C.map g.tail:=Uv.mem_iff.1 (Qe.2 ⟨d,hd,rfl⟩);obtain⟨d',h3,h4⟩:=Qe.1 this;rw[<-h4];exact agn d' h3⟩
 obtain⟨χ,ns⟩:=hR.Ww (c:=hZ C) fun v hv=>by rw[fH iM uE hv k1 hCd];simp
 have Rj:lL g b rt (hZ (twins C)) χ:=by rw[AS];exact ns
 have AB:∀ c∈s.rest,mq g b s.on c.ah:=fun c hc=>⟨(hk.lV c hc).qa,(hk.lV c hc).shut,(hk.lV c hc).sub⟩;have Tn:∀ c∈s.rest,∀ e∈c.ah,e ∉ p.e:=fun c hc e he hp=>by
  have:=hk.part.nodup_iff.2 iM.en;exact (Qc.1 this).2.2 e hp e (List.mem_flatMap.2 ⟨c,hc,he⟩) rfl
 have hpC:∀ d∈C,d / 2∈p.e:=fun d hd=>aw.1 ((cU d).1 (Qd _ hd));have jR:∀ c∈s.rest,∀ d∈C,d / 2 ∉ c.ah:=fun c hc d hd q=>Tn c hc _ q (hpC d hd);have ED:∀ c∈s.rest,∀ d∈twins C,d / 2 ∉ c.ah:=fun c hc d hd q=>by
  have:=jR c hc _ (eO.1 hd);rw[bA] at this;exact this q
 have dm:∀ c∈s.rest,∀ v∈c.ends,v∈C.map g.tail:=fun c hc v hv=>by
  rw[(hk.lV c hc).ends] at hv;have:=(bs.1 hv).1;rw[jW,cX] at this;exact Qe.2 this
 have bh:∀ c∈s.rest,∃ e l,c.ah=e :: l:=fun c hc=>by
  have h3:=(hk.lV c hc).two;obtain⟨v,hv⟩:=List.exists_mem_of_length_pos (l:=c.ends) (by omega);rw[(hk.lV c hc).ends] at hv;obtain⟨-,e,he,-⟩:=bs.1 hv;cases hq:c.ah with
  | nil=>rw[hq] at he;simp at he
  | cons e l=>exact⟨e,l,rfl⟩
 have oB:∀ c∈s.rest,∀ d∈s.rest,c.ah≠d.ah->∀ e∈c.ah,e ∉ d.ah:=fun c hc d hd LV e he q=>by
  have hn:=hk.part.nodup_iff.2 iM.en;have gL:=(Qc.1 hn).2.1;have h3:=(Qk.1 (Qg.1 (show ((s.rest.map (·.ah)).flatten).Nodup from by rw[<-List.flatMap_def];exact gL)).2);obtain⟨i,hi,rfl⟩:=Qh.1 hc;obtain⟨j,hj,rfl⟩:=Qh.1 hd;rcases Qj i j with r | r | r
  ·exact (Qa.1 h3 i j hi hj r) e he e q rfl
  ·subst r;exact LV rfl
  exact (Qa.1 h3 j i hj hi r) e q e he rfl
 refine⟨fun E=>if χ (2*E.headD 0) then 1 else 0,hk,⟨fun c hc=>?_,fun c hc d hd LV ng=>?_,fun f hf=>?_⟩,V3⟩
 ·rw[uX]
  by_cases q:χ (2*c.ah.headD 0)=true
  ·simp only[if_pos q]
   refine⟨by omega,by simp,fun v hv=>?_⟩;show v∈(twins C).map g.tail;exact Uv.mem_iff.2 (dm c hc v hv)
  simp only[if_neg q];exact⟨by omega,by simp,fun v hv=>dm c hc v hv⟩
 ·obtain⟨e,l1,he⟩:=bh c hc
  obtain⟨f,l2,hf⟩:=bh d hd;have he':e∈c.ah:=by rw[he];simp
  have uU:f∈d.ah:=by rw[hf];simp
  rw[he,hf] at ng;have uP:χ (2*e)=χ (2*f):=by
   revert ng
   show (if χ (2*e)=true then (1:Int) else 0)=(if χ (2*f)=true then (1:Int) else 0)->_;cases χ (2*e) <;> cases χ (2*f) <;> simp
  have hd1:2*e∈b.ag:=aw.2 (by rw[show 2*e / 2=e by omega];exact (hk.lV c hc).sub e he');have pG:2*f∈b.ag:=aw.2 (by rw[show 2*f / 2=f by omega];exact (hk.lV d hd).sub f uU);have q1:2*e / 2∈c.ah:=by rw[show 2*e / 2=e by omega];exact he'
  have q2:2*f / 2∈d.ah:=by rw[show 2*f / 2=f by omega];exact uU
  have mV:∀ v∈br g s.on c.ah,v∈C.map g.tail:=fun v hv=>dm c hc v (by rw[(hk.lV c hc).ends];exact hv);rw[uX];rw[(hk.lV c hc).ends,(hk.lV d hd).ends];by_cases q:χ (2*c.ah.headD 0)=true
  ·simp only[if_pos q]
   exact ph hR LI cT Rj (AB c hc) (AB d hd) (oB c hc d hd LV) (ED c hc) (ED d hd) hd1 q1 pG q2 uP fun v hv=>Uv.mem_iff.2 (mV v hv)
  simp only[if_neg q];exact ph hR LI cC ns (AB c hc) (AB d hd) (oB c hc d hd LV) (jR c hc) (jR d hd) hd1 q1 pG q2 uP mV
 rw[uX] at hf;rcases Qm.1 hf with r | r
 ·rw[r];exact kQ
 rw[Qi.1 r];exact oT.nodup_iff.2 kQ
theorem JL {g:Gr} {b:Pt} {rt:List (List Int)} (hR:jC g b rt) (hl:∀ e∈b.e,(g.at e).1≠(g.at e).2) (hS:cg g b):∀ (n:Nat) {s:Sk} {p:Pt} {aa:List (List Int)} {a:List Int->Int},rD g b s p aa->ZJ g s a->nj g b.v n s≠none
 | 0,s,p,aa,a,h,hE=>by simp[nj]
 | n+1,s,p,aa,a,h,hE=>by
  by_cases hr:s.rest=[]
  ·rw[Aq hr];simp
  cases dI:choose s.rest with
  | none =>
   exfalso;unfold choose at dI;split at dI
   ·rename_i q
    unfold lost at q;obtain⟨c,hc,gy⟩:=List.any_eq_true.1 q;have gy:=of_decide_eq_true gy;obtain⟨p1,p2,p3⟩:=hE.pos c hc;have:a c.ah∈c.aj:=((h.lV c hc).Ns _).2 ⟨p1,p2,fun v hv=>by
     have:=p3 v hv;rw[cX];exact Qe.1 this⟩
    rw[List.length_eq_zero_iff.1 gy] at this;simp at this
   cases dI
  | some i =>
   obtain⟨hi,hif⟩:=uk hr dI;obtain⟨a',hE',ha'⟩:=N9 h hE hi dI;obtain⟨p',fQ,a2,h',-,Ac⟩:=TN hR hl hS h hi hif hE' ha';rw[xd hr dI];exact JL hR hl hS n h' Ac
theorem GJ {g:Gr} {b:Pt} {rt:List (List Int)} (hR:jC g b rt) (hS:cg g b) (Ef:qJ g b):jU g b≠none:=by
 unfold jU;split
 ·simp
 rename_i h1;have h0:b.e.length≠0:=fun q=>by
  obtain⟨e,l,he,-⟩:=hS.1;rw[he] at q;simp at q
 obtain⟨hl,p,aa,a,hk,hE,-⟩:=Lc hR hS (by omega) Ef;have:=JL hR hl hS b.e.length hk hE;cases hq:nj g b.v b.e.length (fJ g b) with
 | none=>exact absurd hq this
 | some s=>simp
theorem yr {g:Gr} {b:Pt} (hb:aH g b) (hS:cg g b):∀ u∈b.v,∀ v∈b.v,bP g b (-1) u v:=by
 intro u hu v hv;have pos:∀ x∈b.v,x≠-1:=fun x hx=>by have:=(hb.vr x hx).1;omega
 have X6:∀ e∈b.e,∀ x y,cI g e x->cI g e y->bP g b (-1) x y:=fun e he x y hx hy=>by
  have kQ:=hb.ends e he;rcases hx with rfl | rfl <;> rcases hy with rfl | rfl
  ·exact .here
  ·exact .step .here ⟨e,he,Qn rfl⟩ (pos _ kQ.2)
  ·exact .step .here ⟨e,he,Ql rfl⟩ (pos _ kQ.1)
  exact .here
 obtain⟨d,hd,rfl⟩:=hS.2 u hu;obtain⟨f,hf,rfl⟩:=hS.2 v hv;have uF:=aw.1 hd;have JU:=aw.1 hf;by_cases q:d / 2=f / 2
 ·exact X6 _ uF _ _ (et g d).1 (q ▸ (et g f).1)
 have jE:=oV hS _ uF _ JU _ hu;have hc:bP g b (g.tail d) (off g (g.tail d) (d / 2)) (off g (g.tail d) (f / 2)):=Qb fun r=>jE ⟨q,Ql (Ql r)⟩;have up:∀ {x y},bP g b (g.tail d) x y->bP g b (-1) x y:=fun {x y} h=>by
  induction h with
  | here=>exact .here
  | step _ hn _ ih=>exact ih.step hn (pos _ (Dy hb hn))
 exact ((X6 _ uF _ _ (et g d).1 mQ).trans (up hc)).trans (X6 _ JU _ _ mQ (et g f).1)
theorem LL {g:Gr} {p:Pt} (ig:aH g p) (bh:p.v≠[]) (hj:∀ u∈p.v,∀ v∈p.v,bP g p (-1) u v):(roots g p).length=1:=by
 obtain⟨v,hv⟩:=List.exists_mem_of_ne_nil _ bh;obtain⟨r,hr,-⟩:=rK (g:=g) (p:=p) (fun v hv=>(ig.vr v hv).1) hv;have lQ:∀ s∈roots g p,s=r:=fun s hs=>nZ (u:=v) (fun v hv=>(ig.vr v hv).1) hs hr (hj s (dX.1 hs).1 v hv) (hj r (dX.1 hr).1 v hv);have hn:=lB ig
 match hL:roots g p with
 | []=>rw[hL] at hr;simp at hr
 | [_]=>rfl
 | s1 :: s2 :: m =>
  rw[hL] at lQ hn;have e1:=lQ s1 (by simp);have e2:=lQ s2 (by simp);rw[e1,e2] at hn;simp at hn
theorem jC.of_flat {g:Gr} {b:Pt} {t:List (List Int)} (h:gY g b t=0) (hS:cg g b):jC g b t:=by
 obtain⟨hte,uZ⟩:=mr h;obtain⟨gJ,uE⟩:=gw hte;have ig:=Pt.aF gJ;have hW:=NQ gJ uE;have YS:=pZ ig uE hW.aj uZ;have hj:=yr ig hS;rw[LL ig (Pr gJ hS) hj] at YS;have Jg:(iI g b t).filter (fun f=>f.2.isEmpty)=[]:=by
  have h1:=hW.aj.lone;have h2:(b.v.filter fun v=>(aI t v).isEmpty)=[]:=Qf.2 fun v hv q=>by
   obtain⟨d,hd,Y7⟩:=hS.2 v hv;have:=(uE.mem v (ig.vr v hv).1 (ig.vr v hv).2 d).2 ⟨hd,Y7⟩;rw[List.isEmpty_iff.1 q] at this;simp at this
  rw[h2] at h1;exact List.map_eq_nil_iff.1 (List.Perm.eq_nil h1)
 have cU:(iI g b t).filter (fun f=>!f.2.isEmpty)=iI g b t:=List.filter_eq_self.2 fun f hf=>by
  have:=Qf.1 Jg f hf;simpa using this
 exact Mj.EE ⟨gJ,uE,hS.2,hj,_,hW.aj.rings,hW.aj.all,by rw[cU,List.length_map];omega⟩
def yh (g:Gr) (b:Pt):Prop:=∃ t,jC g b t
theorem iZ.flat {g:Gr} {b:Pt} {err:Int} {t:List (List Int)} (h:iZ g b err t) (h0:b.err g=0) (hS:cg g b):err=0↔yh g b:=by
 rcases h with ⟨h,-⟩ | ⟨-,h,-⟩ | ⟨-,-,⟨-,Ef,hd⟩,h1,h2⟩ | ⟨-,-,h1,aa,F,hd,hF,h2⟩
 ·exact absurd h0 h
 ·exact absurd hS h
 ·exact⟨fun q=>absurd (h1.symm.trans q) (by decide),fun ⟨u,hu⟩=>absurd hd (GJ hu hS Ef)⟩
 exact⟨fun _=>⟨aa,hF.EE⟩,fun _=>h1⟩
theorem yh.sub {g:Gr} {b q:Pt} (h:yh g b) (hq:q.err g=0) (hS:cg g q) (he:∀ e∈q.e,e∈b.e):yh g q:=by
 obtain⟨t,ht⟩:=h;exact⟨_,ht.sub hq he hS.2 (yr (Pt.aF hq) hS)⟩
end Go.Proofs.YtbkjljffnkdcjaaGreat.Plain
