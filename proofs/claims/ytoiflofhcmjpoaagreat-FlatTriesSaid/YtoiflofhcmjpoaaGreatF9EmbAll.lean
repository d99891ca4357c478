/- draw.Block draws each block that has turns on a yU. No program here. -/
import Derived.Test.YtoiflofhcmjpoaaGreatF9Round
set_option maxRecDepth 100000
set_option maxHeartbeats 4000000
open List renaming mem_append→Qa,mem_append_left→Qc,mem_flatten→Qe,mem_singleton→Qf,mem_cons→Qg,mem_append_right→Qi,nodup_append→Qj,mem_cons_of_mem→Qk,mem_map→Ql,pairwise_iff_getElem→Qm,any_eq_true→Qn,perm_ext_iff_of_nodup→Qo,filter_eq_nil_iff→Qq,pairwise_flatten→Qr,mem_iff_getElem→Qs,length_pos_iff→Qt,flatten_append→Qu,append_of_mem→Qv,pairwise_map→Qw,flatten_cons→Qx,any_eq_false→Qy,append_inj'→Qz,nodup_cons→QB,map_cons→QE
open Or renaming inr→Qb,inl→Qd
open Classical renaming byContradiction→Qh,propDecidable→Qp,em→QF
open Bool renaming and_eq_true→QA,eq_iff_iff→QC,or_eq_true→QD
open Go.Value renaming slice→QG
namespace Go.Proofs.YtoiflofhcmjpoaaGreat.Plain
variable {i:Nat} {g:Gr} {p b q:Pt} {F rt bl:List (List Int)} {j z d x e f v r:Int} {L M l m:List Int}
theorem FI:∀ {L:List bh} {k:Nat},pick L=some k->(L.getD k ⟨[],[],[]⟩).ak.length=1
 | [],_,h=>by cases h
 | c :: l,k,h=>by
  rw[pick] at h;split at h
  ·rename_i q;cases h;exact q
  cases hq:pick l with
  | none=>rw[hq] at h;cases h
  | some m =>
   rw[hq] at h;cases h;have h2:=FI (L:=l) (k:=m) hq;simpa using h2
theorem LR:∀ {L:List bh},pick L=none->∀ r∈L,r.ak.length≠1
 | [],_,r,hr=>by simp at hr
 | c :: l,h,r,hr=>by
  rw[pick] at h;split at h
  ·cases h
  rename_i q;cases hq:pick l with
  | some m=>rw[hq] at h;cases h
  | none =>
   rcases Qg.1 hr with e | e
   ·rw[e];exact q
   exact LR hq r e
theorem FA {R:List bh} (h:choose R=some i):(R.getD i ⟨[],[],[]⟩).ak.length=1\/∀ r∈R,r.ak.length≠1:=by
 all_goals grind [choose,fZ,pick,LR,left,FI]
theorem oY {aa:List (List Int)} (h:cQ g p aa F) {i:Int} (h0:0<=i) (hi:i.toNat<F.length) (h1:0<=j) (hj:j.toNat<F.length) (bn:i≠j):bp F i≠bp F j:=by
 have hn:=(Qr.1 h.rings.nodup).2;have aW:∀ {m n:Nat} (hm:m<F.length) (ZP:n<F.length),m<n->F[m]≠F[n]:=λ{m n} hm ZP hmn q=>by
  have h3:=Qm.1 hn m n hm ZP hmn;have hr:=h.rings.ring F[m] (List.getElem_mem hm);cases hq:F[m] with
  | nil=>rw[hq] at hr;exact hr.elim
  | cons a l=>exact h3 a (by grind) a (by grind) rfl
 all_goals grind [bp]
open Classical in
theorem Rg {s:Sk} {aa:List (List Int)} {a:List Int->Int} (h:tV g b s p aa) (hE:Emb g s a) (hi:i<s.rest.length) (ij:choose s.rest=some i) :
  ∃ a',Emb g s a'/\a' (s.rest.getD i ⟨[],[],[]⟩).ag=(s.rest.getD i ⟨[],[],[]⟩).ak.getD 0 0:=by
 have aib:=FA ij;obtain⟨hsp,-⟩:=kR hi (⟨[],[],[]⟩:bh);generalize fs:s.rest.getD i ⟨[],[],[]⟩=c at *;have kB:c∈s.rest:=by rw[hsp];simp
 have hc:=h.mL c kB;have akU:∀ (F:List Int) (v:Int),dM g F v=true↔v∈F.map g.tail:=λF v=>by
  grind [df]
 have PX:∀ r∈s.rest,∀ j,j∈r.ak↔0<=j/\j.toNat<s.ak.length/\∀ v∈r.ends,v∈(bp s.ak j).map g.tail:=λr hr j=>by
  rw[(h.mL r hr).PJ j]
  grind
 have haF:∀ r∈s.rest,a r.ag∈r.ak:=λr hr=>(PX r hr _).2 (hE.pos r hr);rcases aib with hb | hb
 ·refine⟨a,hE,?_⟩
  have:=haF c kB
  match hq:c.ak with
  | []=>rw[hq] at hb;simp at hb
  | [f] =>
   grind
  | f :: f2 :: l=>rw[hq] at hb;simp at hb
 have P6:∀ r∈s.rest,∀ j,∃ k∈r.ak,k≠j:=λr hr j=>by
  have hn:=(h.mL r hr).fnd;have h1:=hb r hr;have h2:=haF r hr
  match hq:r.ak with
  | []=>rw[hq] at h2;simp at h2
  | [_]=>rw[hq] at h1;simp at h1
  | u :: v :: l =>
   rw[hq] at hn;by_cases e:u=j
   ·exact⟨v,by simp,λq=>by grind⟩
   exact⟨u,by simp,e⟩
 obtain⟨f,fl,uB⟩:∃ f fl,c.ak=f :: fl:=by
  cases hL:c.ak with
  | nil=>have:=haF c kB;rw[hL] at this;simp at this
  | cons f fl=>exact⟨f,fl,rfl⟩
 have Xo:c.ak.getD 0 0=f:=by rw[uB];rfl
 rw[Xo];have qL:f∈c.ak:=by rw[uB];simp
 by_cases hgf:a c.ag=f
 ·grind
 generalize hgg:a c.ag=k at *;have Xi:k∈c.ak:=by rw[<-hgg];exact haF c kB
 let on0:List Int->Int->Prop:=λE j=>0<=j/\j.toNat<s.ak.length/\∀ v∈bC g s.on E,v∈(bp s.ak j).map g.tail
 have WJ:∀ r∈s.rest,∀ j,on0 r.ag j↔j∈r.ak:=λr hr j=>by
  rw[PX r hr j,(h.mL r hr).ends]
 let Ty:List Int->Prop:=λE=>on0 E f/\on0 E k/\∀ j,on0 E j->j=f\/j=k
 let a':List Int->Int:=λE=>if Ty E then (if a E=f then k else f) else if E=c.ag then f else a E
 have ty:∀ r∈s.rest,Ty r.ag->f∈r.ak/\k∈r.ak/\(a r.ag=f\/a r.ag=k):=λr hr ⟨q1,q2,q3⟩=>⟨(WJ r hr f).1 q1,(WJ r hr k).1 q2,q3 _ ((WJ r hr _).2 (haF r hr))⟩;have nty:∀ r∈s.rest,¬ Ty r.ag->∀ j,(j=f\/j=k)->j∈r.ak->∃ m∈r.ak,m≠f/\m≠k:=λr hr hn j hj hjr=>Qh λq=>by
  obtain⟨m,hm,hmj⟩:=P6 r hr j
  all_goals grind
 have Ny:∀ r∈s.rest,a' r.ag∈r.ak:=λr hr=>by
  all_goals grind
 -- ak that differ
 have diff:∀ r∈s.rest,∀ r2∈s.rest,∀ j∈r.ak,∀ m∈r2.ak,j≠m->bp s.ak j≠bp s.ak m:=λr hr r2 cD j hj m hm bn=>by
  obtain⟨j0,j1,-⟩:=(PX r hr j).1 hj;obtain⟨m0,m1,-⟩:=(PX r2 cD m).1 hm;exact oY h.ak j0 j1 m0 m1 bn
 -- three ak
 have three:∀ r∈s.rest,∀ r2∈s.rest,∀ j,j∈r.ak->∀ m∈r.ak,∀ n∈r2.ak,j≠m->j≠n->m≠n->¬ jh ((bp s.ak j).map g.tail) r.ends r2.ends:=λr hr r2 cD j hj m hm n hn h1 h2 h3=>by
  obtain⟨j0,j1,j2⟩:=(PX r hr j).1 hj;obtain⟨m0,m1,m2⟩:=(PX r hr m).1 hm;obtain⟨n0,n1,n2⟩:=(PX r2 cD n).1 hn;exact VE h.ak (gH j1) (gH m1) (gH n1) (oY h.ak j0 j1 m0 m1 h1) (oY h.ak j0 j1 n0 n1 h2) (oY h.ak m0 m1 n0 n1 h3) j2 m2 n2
 have tn:∀ r∈s.rest,∀ r2∈s.rest,Ty r.ag->¬ Ty r2.ag->∀ j,(j=f\/j=k)->j∈r2.ak->¬ jh ((bp s.ak j).map g.tail) r.ends r2.ends:=λr hr r2 cD t1 t2 j hj Nr=>by
  obtain⟨q1,q2,-⟩:=ty r hr t1;obtain⟨m,m1,m2,m3⟩:=nty r2 cD t2 j hj Nr
  all_goals grind
 refine⟨a',⟨λr hr=>(PX r hr _).1 (Ny r hr),λr hr r2 cD bn rJ=>?_,hE.en⟩,?_⟩
 ·have v1:a' r.ag=if Ty r.ag then (if a r.ag=f then k else f) else if r.ag=c.ag then f else a r.ag:=rfl
  have v2:a' r2.ag=if Ty r2.ag then (if a r2.ag=f then k else f) else if r2.ag=c.ag then f else a r2.ag:=rfl;by_cases t1:Ty r.ag <;> by_cases t2:Ty r2.ag
  .-- both change places
   obtain⟨q1,q2,q3⟩:=ty r hr t1;obtain⟨w1,w2,w3⟩:=ty r2 cD t2;rw[if_pos t1] at v1;rw[if_pos t2] at v2;have same:a r.ag=a r2.ag:=by
    all_goals grind
   have hold:=hE.Sa r hr r2 cD bn same;intro uB;have am4:a' r.ag≠a r.ag:=by
    all_goals grind
   obtain⟨j0,j1,j2⟩:=(PX r hr _).1 (Ny r hr);obtain⟨m0,m1,m2⟩:=(PX r hr _).1 (haF r hr);obtain⟨n0,n1,n2⟩:=(PX r2 cD _).1 (haF r2 cD);rw[<-same] at n2;exact hold (Jq h.ak (gH j1) (gH m1) (oY h.ak j0 j1 m0 m1 am4) m2 n2 uB)
  ·rw[rJ]
   refine tn r hr r2 cD t1 t2 _ ?_ (Ny r2 cD);rw[<-rJ,v1,if_pos t1];split
   all_goals grind
  ·intro q
   refine tn r2 cD r hr t2 t1 _ ?_ (Ny r hr) q.symm;rw[rJ,v2,if_pos t2];split
   all_goals grind
  rw[if_neg t1] at v1;rw[if_neg t2] at v2;have ZE:∀ r∈s.rest,∀ r2∈s.rest,¬ Ty r.ag->r.ag=c.ag->f∈r2.ak->¬ jh ((bp s.ak f).map g.tail) r.ends r2.ends:=λr hr r2 cD t1 e1 hf2=>by
   have kP:∀ j,j∈c.ak->j∈r.ak:=λj hj=>by
    have:on0 c.ag j:=(WJ c kB j).2 hj;rw[<-e1] at this
    grind
   obtain⟨m,m1,m2,m3⟩:=nty r hr t1 f (Qd rfl) (kP f qL);obtain⟨n,n1,n2⟩:=P6 r2 cD f;by_cases q:k=n
   ·exact three r hr r2 cD f (kP f qL) m m1 n n1 (Ne.symm m2) (Ne.symm n2) (λw=>m3 (w.trans q.symm))
   exact three r hr r2 cD f (kP f qL) k (kP k Xi) n n1 (Ne.symm hgf) (Ne.symm n2) q
  by_cases e1:r.ag=c.ag
  ·rw[if_pos e1] at v1
   rw[v1];exact ZE r hr r2 cD t1 e1 (by have:=Ny r2 cD;rw[<-rJ,v1] at this;exact this)
  rw[if_neg e1] at v1;by_cases e2:r2.ag=c.ag
  ·rw[if_pos e2] at v2
   rw[rJ,v2];exact λq=>ZE r2 cD r hr t2 e2 (by have:=Ny r hr;rw[rJ,v2] at this;exact this) q.symm
  rw[if_neg e2] at v2;rw[v1];exact hE.Sa r hr r2 cD bn (by rw[<-v1,rJ,v2])
 all_goals grind
theorem zV {g:Gr}:∀ {w:List Int} {a z:Int},fz g a w z->fz g z (twins w) a
 | [],a,z,h=>h.symm
 | d :: w,a,z,h=>by
  have h2:fz g z (twins w) (g.head d):=zV h.2;have e:twins (d :: w)=twins w++[aH d]:=by unfold twins;rw[QE,List.reverse_cons]
  rw[e];refine fz.append.2 ⟨g.head d,h2,?_,?_⟩
  ·rw[az]
  show g.head (aH d)=a;rw[<-az,bg];exact h.1
theorem Gj (w:List Int):((twins w).map g.tail).Perm (w.map g.head):=by
 unfold twins;rw[List.map_reverse];refine (List.reverse_perm _).trans ?_;rw[List.map_map];exact List.Perm.of_eq (List.map_congr_left λd _=>az g d)
theorem O2 (hR:ia g b rt) (hS:cg g b) (h2:2<=b.e.length) (zR:rT g b) :
  (∀ e∈b.e,(g.at e).1≠(g.at e).2)/\∃ p aa a,tV g b (gI g b) p aa/\Emb g (gI g b) a/\(gI g b).left+2<=b.e.length:=by
 have nr:=hR.pe;have jQ:=Pt.ax nr;have kq:=hR.iX;obtain⟨e0,e1,l,hl⟩:∃ e0 e1 l,b.e=e0 :: e1 :: l:=by
  match hb:b.e with
  | []=>rw[hb] at h2;simp at h2
  | [_]=>rw[hb] at h2;simp at h2
  | e0 :: e1 :: l=>exact⟨e0,e1,l,rfl⟩
 have Yv:b.e.getD 0 0=e0:=by rw[hl];rfl
 have PA:=oB jQ hS hl;obtain⟨k1,k2,-⟩:=Le nr (by omega) zR.1 zR.2 (by grind [BG]);obtain⟨p,aa,hk,hlf⟩:=EO nr hS h2 zR;refine⟨PA,p,aa,?_⟩;obtain⟨C,hC⟩:∃ C,fN g b=C:=⟨_,rfl⟩;rw[hC] at k1 k2;have vi:(gI g b).ak=[C,twins C]:=by unfold gI;rw[hC]
 have kP:(gI g b).on=dM g C:=by unfold gI;rw[hC]
 generalize gI g b=s at *;have fR:=Pt.ax hk.ak.pe;have cX:∀ d,d∈C++twins C↔d∈p.ah:=λd=>by
  have:=hk.ak.all.mem_iff (a:=d)
  grind
 have gp:(C++twins C).Nodup:=by
  have:=hk.ak.all;rw[vi] at this;have h3:([C,twins C].flatten).Nodup:=this.nodup_iff.2 (cV fR.en);simpa using h3
 have tO:∀ e∈p.e,e∈b.e:=λe he=>hk.part.mem_iff.1 (Qc _ he);have hCd:∀ d∈C,d∈b.ah:=λd hd=>au.2 (tO _ (au.1 ((cX d).1 (Qc _ hd))));have afG:∀ d∈C,s.on (g.tail d)=true:=λd hd=>by rw[kP,df];exact⟨d,hd,rfl⟩
 have lJ:(C.map (· / 2)).Nodup:=by
  refine Qw.2 ((Qj.1 gp).1.imp_of_mem λ{x y} hx hy bn e=>?_)
  grind [aH,twins,ff]
 have cC:ki g b s.on C:=⟨⟨_,k1⟩,k2,lJ,hCd,afG⟩;have hhp:=sh k1;have Zj:((twins C).map g.tail).Perm (C.map g.tail):=(Gj C).trans hhp;have cT:ki g b s.on (twins C):=⟨⟨_,zV k1⟩,Zj.nodup_iff.2 k2,qG.nodup_iff.2 lJ,λd hd=>by
   have:=hCd _ (ff.1 hd);have:=bD this;rwa[bg] at this,λd hd=>by
   have:g.tail d∈C.map g.tail:=Zj.mem_iff.1 (Ql.2 ⟨d,hd,rfl⟩);obtain⟨d',h3,h4⟩:=Ql.1 this;rw[<-h4];exact afG d' h3⟩
 obtain⟨χ,mM⟩:=hR.V0 (c:=iF C) λv hv=>by rw[gD jQ kq hv k1 hCd];simp
 have SQ:mF g b rt (iF (twins C)) χ:=by rw[Cc];exact mM
 have BO:∀ c∈s.rest,oq g b s.on c.ag:=λc hc=>⟨(hk.mL c hc).sT,(hk.mL c hc).shut,(hk.mL c hc).sub⟩;have Xw:∀ c∈s.rest,∀ e∈c.ag,e ∉ p.e:=λc hc e he hp=>by
  have:=hk.part.nodup_iff.2 jQ.en
  grind
 have hpC:∀ d∈C,d / 2∈p.e:=λd hd=>au.1 ((cX d).1 (Qc _ hd));have lr:∀ c∈s.rest,∀ d∈C,d / 2 ∉ c.ag:=λc hc d hd q=>Xw c hc _ q (hpC d hd);have Fb:∀ c∈s.rest,∀ d∈twins C,d / 2 ∉ c.ag:=λc hc d hd q=>by
  grind [ff,bJ]
 have dp:∀ c∈s.rest,∀ v∈c.ends,v∈C.map g.tail:=λc hc v hv=>by
  rw[(hk.mL c hc).ends] at hv;have:=(bB.1 hv).1;rw[kP,df] at this
  grind
 have bn:∀ c∈s.rest,∃ e l,c.ag=e :: l:=λc hc=>by
  have h3:=(hk.mL c hc).two;obtain⟨v,hv⟩:=List.exists_mem_of_length_pos (l:=c.ends) (by omega);rw[(hk.mL c hc).ends] at hv;obtain⟨-,e,he,-⟩:=bB.1 hv;cases hq:c.ag with
  | nil=>rw[hq] at he;simp at he
  | cons e l=>exact⟨e,l,rfl⟩
 have uP:∀ c∈s.rest,∀ d∈s.rest,c.ag≠d.ag->∀ e∈c.ag,e ∉ d.ag:=λc hc d hd XJ e he q=>by
  have hn:=hk.part.nodup_iff.2 jQ.en;have kr:=(Qj.1 hn).2.1;have h3:=(Qw.1 (Qr.1 (show ((s.rest.map (·.ag)).flatten).Nodup from by grind)).2);obtain⟨i,hi,rfl⟩:=Qs.1 hc;obtain⟨j,hj,rfl⟩:=Qs.1 hd;rcases Nat.lt_trichotomy i j with r | r | r
  ·exact (Qm.1 h3 i j hi hj r) e he e q rfl
  ·subst r;exact XJ rfl
  exact (Qm.1 h3 j i hj hi r) e q e he rfl
 refine⟨λE=>if χ (2*E.headD 0) then 1 else 0,hk,⟨λc hc=>?_,λc hc d hd XJ rJ=>?_,λf hf=>?_⟩,hlf⟩
 ·rw[vi]
  by_cases q:χ (2*c.ag.headD 0)=true
  ·simp only[if_pos q]
   refine⟨by omega,by simp,λv hv=>?_⟩;show v∈(twins C).map g.tail
   grind
  simp only[if_neg q];exact⟨by omega,by simp,λv hv=>dp c hc v hv⟩
 ·obtain⟨e,l1,he⟩:=bn c hc
  obtain⟨f,l2,hf⟩:=bn d hd;have he':e∈c.ag:=by rw[he];simp
  have xX:f∈d.ag:=by rw[hf];simp
  rw[he,hf] at rJ;have xC:χ (2*e)=χ (2*f):=by
   grind
  have Re:2*e∈b.ah:=au.2 (by rw[show 2*e / 2=e by omega];exact (hk.mL c hc).sub e he');have oF:2*f∈b.ah:=au.2 (by rw[show 2*f / 2=f by omega];exact (hk.mL d hd).sub f xX);have q1:2*e / 2∈c.ag:=by rw[show 2*e / 2=e by omega];exact he'
  have q2:2*f / 2∈d.ag:=by rw[show 2*f / 2=f by omega];exact xX
  have qQ:∀ v∈bC g s.on c.ag,v∈C.map g.tail:=λv hv=>dp c hc v (by rw[(hk.mL c hc).ends];exact hv);rw[vi];rw[(hk.mL c hc).ends,(hk.mL d hd).ends];by_cases q:χ (2*c.ag.headD 0)=true
  ·simp only[if_pos q]
   exact qz hR PA cT SQ (BO c hc) (BO d hd) (uP c hc d hd XJ) (Fb c hc) (Fb d hd) Re q1 oF q2 xC λv hv=>Zj.mem_iff.2 (qQ v hv)
  simp only[if_neg q];exact qz hR PA cC mM (BO c hc) (BO d hd) (uP c hc d hd XJ) (lr c hc) (lr d hd) Re q1 oF q2 xC qQ
 rw[vi] at hf;rcases Qg.1 hf with r | r
 ·rw[r];exact lJ
 rw[Qf.1 r];exact qG.nodup_iff.2 lJ
theorem Mn {g:Gr} {b:Pt} {rt:List (List Int)} (hR:ia g b rt) (hl:∀ e∈b.e,(g.at e).1≠(g.at e).2) (hS:cg g b):∀ (n:Nat) {s:Sk} {p:Pt} {aa:List (List Int)} {a:List Int->Int},tV g b s p aa->Emb g s a->oI g b.v n s≠none
 | 0,s,p,aa,a,h,hE=>by simp[oI]
 | n+1,s,p,aa,a,h,hE=>by
  by_cases hr:s.rest=[]
  ·rw[BU hr];simp
  cases ij:choose s.rest with
  | none =>
   exfalso;unfold choose at ij;split at ij
   ·rename_i q
    unfold lost at q;obtain⟨c,hc,fs⟩:=Qn.1 q;have fs:=of_decide_eq_true fs;obtain⟨p1,p2,p3⟩:=hE.pos c hc;have:a c.ag∈c.ak:=((h.mL c hc).PJ _).2 ⟨p1,p2,λv hv=>by
     have:=p3 v hv;rw[df];exact Ql.1 this⟩
    rw[List.length_eq_zero_iff.1 fs] at this;simp at this
   cases ij
  | some i =>
   obtain⟨hi,YK⟩:=vX hr ij;obtain⟨a',hE',ha'⟩:=Rg h hE hi ij;obtain⟨p',gA,a2,h',-,Cn⟩:=Vs hR hl hS h hi YK hE' ha';rw[Ai hr ij];exact Mn hR hl hS n h' Cn
theorem KG (hR:ia g b rt) (hS:cg g b) (zR:rT g b):kj g b≠none:=by
 unfold kj;split
 ·simp
 rename_i h1;have h0:b.e.length≠0:=λq=>by
  obtain⟨e,l,he,-⟩:=hS.1;rw[he] at q;simp at q
 obtain⟨hl,p,aa,a,hk,hE,-⟩:=O2 hR hS (by omega) zR;have:=Mn hR hl hS b.e.length hk hE;cases hq:oI g b.v b.e.length (gI g b) with
 | none=>exact absurd hq this
 | some s=>simp
theorem sf (hb:aD g b) (hS:cg g b):∀ u∈b.v,∀ v∈b.v,bS g b (-1) u v:=by
 intro u hu v hv;have pos:∀ x∈b.v,x≠-1:=λx hx=>by have:=(hb.vr x hx).1;omega
 have ace:∀ e∈b.e,∀ x y,cE g e x->cE g e y->bS g b (-1) x y:=λe he x y hx hy=>by
  have lJ:=hb.ends e he;rcases hx with rfl | rfl <;> rcases hy with rfl | rfl
  ·exact .here
  ·exact .step .here ⟨e,he,Qd rfl⟩ (pos _ lJ.2)
  ·exact .step .here ⟨e,he,Qb rfl⟩ (pos _ lJ.1)
  exact .here
 obtain⟨d,hd,rfl⟩:=hS.2 u hu;obtain⟨f,hf,rfl⟩:=hS.2 v hv;have AO:=au.1 hd;have Es:=au.1 hf;by_cases q:d / 2=f / 2
 ·exact ace _ AO _ _ (eM g d).1 (q ▸ (eM g f).1)
 have fy:=qv hS _ AO _ Es _ hu;have hc:bS g b (g.tail d) (off g (g.tail d) (d / 2)) (off g (g.tail d) (f / 2)):=Qh λr=>fy ⟨q,Qb (Qb r)⟩;have up:∀ {x y},bS g b (g.tail d) x y->bS g b (-1) x y:=λ{x y} h=>by
  induction h with
  | here=>exact .here
  | step _ hn _ ih=>exact ih.step hn (pos _ (Gg hb hn))
 exact ((ace _ AO _ _ (eM g d).1 kF).trans (up hc)).trans (ace _ Es _ _ kF (eM g f).1)
theorem CI (fR:aD g p) (bn:p.v≠[]) (hj:∀ u∈p.v,∀ v∈p.v,bS g p (-1) u v):(roots g p).length=1:=by
 obtain⟨v,hv⟩:=List.exists_mem_of_ne_nil _ bn;obtain⟨r,hr,-⟩:=DL (g:=g) (p:=p) (λv hv=>(fR.vr v hv).1) hv;have nJ:∀ s∈roots g p,s=r:=λs hs=>zf (u:=v) (λv hv=>(fR.vr v hv).1) hs hr (hj s (fw.1 hs).1 v hv) (hj r (fw.1 hr).1 v hv);have hn:=wh fR
 match hL:roots g p with
 | []=>rw[hL] at hr;simp at hr
 | [_]=>rfl
 | s1 :: s2 :: m =>
  rw[hL] at nJ hn;have e1:=nJ s1 (by simp);have e2:=nJ s2 (by simp)
  grind
theorem ia.of_flat {t:List (List Int)} (h:dA g b t=0) (hS:cg g b):ia g b t:=by
 obtain⟨Ka,A8⟩:=oA h;obtain⟨dk,kq⟩:=nq Ka;have fR:=Pt.ax dk;have hW:=sR dk kq;have heu:=tZ fR kq hW.ak A8;have hj:=sf fR hS;rw[CI fR (yp dk hS) hj] at heu;have E4:(bZ g b t).filter (λf=>f.2.isEmpty)=[]:=by
  have h1:=hW.ak.lone;have h2:(b.v.filter λv=>(ay t v).isEmpty)=[]:=Qq.2 λv hv q=>by
   obtain⟨d,hd,Ue⟩:=hS.2 v hv;have:=(kq.mem v (fR.vr v hv).1 (fR.vr v hv).2 d).2 ⟨hd,Ue⟩
   grind
  rw[h2] at h1;exact List.map_eq_nil_iff.1 (List.Perm.eq_nil h1)
 have cX:(bZ g b t).filter (λf=>!f.2.isEmpty)=bZ g b t:=List.filter_eq_self.2 λf hf=>by
  have:=Qq.1 E4 f hf
  grind
 exact Bn.Cp ⟨dk,kq,hS.2,hj,_,hW.ak.rings,hW.ak.all,by grind⟩
def sL (g:Gr) (b:Pt):Prop:=∃ t,ia g b t
theorem jB.flat {err:Int} {t:List (List Int)} (h:jB g b err t) (h0:b.err g=0) (hS:cg g b):err=0↔sL g b:=by
 rcases h with ⟨h,-⟩ | ⟨-,h,-⟩ | ⟨-,-,⟨-,zR,hd⟩,h1,h2⟩ | ⟨-,-,h1,aa,F,hd,hF,h2⟩
 ·exact absurd h0 h
 ·exact absurd hS h
 ·exact⟨λq=>absurd (h1.symm.trans q) (by decide),λ⟨u,hu⟩=>absurd hd (KG hu hS zR)⟩
 exact⟨λ_=>⟨aa,hF.Cp⟩,λ_=>h1⟩
theorem sL.sub (h:sL g b) (hq:q.err g=0) (hS:cg g q) (he:∀ e∈q.e,e∈b.e):sL g q:=by
 obtain⟨t,ht⟩:=h;exact⟨_,ht.sub hq he hS.2 (sf (Pt.ax hq) hS)⟩
def By (g:Gr) (L:List Int) (z a b:Int):Prop:=bS g ⟨[],L⟩ z a b
def uE (g:Gr) (L:List Int) (x:Int):Prop:=∃ e∈L,cE g e x
def FQ (g:Gr) (B:List Int):Prop:=∀ z x y,uE g B x->uE g B y->x≠z->y≠z->By g B z x y
def Td (g:Gr) (p:Pt) (pre B:List Int):Prop:=(∃ e,B=[e]/\(g.at e).1=(g.at e).2) \/
 ∃ z∈p.v,∃ Y:Int->Prop,¬ Y z/\(∀ d∈p.ah,Y (g.tail d)->Y (g.head d)\/g.head d=z)/\(∀ e∈B,∃ d∈p.ah,d / 2=e/\Y (g.tail d))/\∀ d∈p.ah,Y (g.tail d)->d / 2∈pre\/d / 2∈B
structure B2 (g:Gr) (p:Pt) (bl:List (List Int)):Prop where
 sep:∀ N1 B N3,bl=N1++B :: N3->Td g p N1.flatten B
 sol:∀ l∈bl,FQ g l
structure D2 (g:Gr) (p:Pt) (s t:dW) (A:List Int) (v:Int):Prop where
 two:B2 g p t.bl
 own:∀ l∈t.bl,l∈s.bl\/∀ e∈l,∀ x,cE g e x->eI s t x
 tree:∀ x,(x=v\/(eI s t x/\uE g (t.ed.drop s.ed.length) x))->∀ z,¬ eI s t z->By g (t.ed.drop s.ed.length) z v x
 cut:∀ z x,eI s t z->eI s t x->uE g (t.ed.drop s.ed.length) x->x≠z->(z≠v/\By g (t.ed.drop s.ed.length) z x v)\/∃ y∈A,By g (t.ed.drop s.ed.length) z x y
variable {g : Gr} {p : Pt} {s t t2 : dW} {A pre : List Int} {v via : Int}
theorem By.mono {a b:Int} (h:By g L z a b) (hs:∀ e∈L,e∈M):By g M z a b:=by
 unfold By at *
 induction h with
 | here=>exact .here
 | step _ hn Pd ih =>
  obtain⟨e,he,r⟩:=hn;exact ih.step ⟨e,hs e he,r⟩ Pd
theorem By.oO (hd:d / 2∈L) (hz:g.head d≠z):By g L z (g.tail d) (g.head d) :=
 .step .here (fW (p:=⟨[],L⟩) (au.2 hd)) hz
theorem By.last {a b:Int} (h:By g L z a b):a=b\/uE g L b:=by
 cases h with
 | here=>exact Qd rfl
 | step _ hn _ =>
  obtain⟨e,he,-,h2⟩:=zq hn;exact Qb ⟨e,he,h2⟩
theorem By.CX {a b:Int} (ha:a≠z) (h:By g L z a b):By g L z b a:=(bS.symm ha h).2
theorem By.tr {a b c:Int} (h:By g L z a b) (k:By g L z b c):By g L z a c:=bS.trans h k
theorem uE.mono (h:uE g L x) (hs:∀ e∈L,e∈M):uE g M x:=let ⟨e,he,r⟩:=h;⟨e,hs e he,r⟩
theorem SO (hd:d / 2∈L):uE g L (g.tail d)/\uE g L (g.head d):=⟨⟨_,hd,(eM g d).1⟩,⟨_,hd,(eM g d).2⟩⟩
theorem Ki (h:L.Perm M) (k:FQ g L):FQ g M:=λz x y hx hy h1 h2=>(k z x y (hx.mono λ_e he=>h.mem_iff.2 he) (hy.mono λ_e he=>h.mem_iff.2 he) h1 h2).mono λ_e he=>h.mem_iff.1 he
theorem B2.snoc (h:B2 g p bl) (hl:Td g p bl.flatten l) (ht:FQ g l):B2 g p (bl++[l]):=by
 refine⟨λN1 B N3 e=>?_,λm hm=>?_⟩
 ·rcases List.eq_nil_or_concat N3 with q | ⟨m,c,q⟩
  ·subst q
   obtain⟨e1,e2⟩:=Qz e rfl
   grind
  rw[List.concat_eq_append] at q;subst q;have e':bl++[l]=(N1++B :: m)++[c]:=by rw[e];simp
  obtain⟨e1,-⟩:=Qz e' rfl;exact h.sep N1 B m e1
 rcases Qa.1 hm with q | q
 ·exact h.sol m q
 all_goals grind
theorem D2.start (hE:xD g p s A v via) (hb:B2 g p s.bl):D2 g p s (s.enter v) A v:=by
 have he:(s.enter v).ed.drop s.ed.length=[]:=by show s.ed.drop s.ed.length=[];simp
 refine⟨hb,λl hl=>Qd hl,λx hx z hz=>?_,λz x _ _ hi _=>?_⟩
 ·rcases hx with rfl | ⟨-,e,hi,-⟩
  ·exact .here
  all_goals grind
 obtain⟨e,hi,-⟩:=hi
 grind
theorem D2.loop (h:cF g p s t A v via pre) (hE:xD g p s A v via) (k:D2 g p s t A v) (hv:g.tail d=v) (hh:g.head d=v):D2 g p s (t.lay (d / 2)) A v:=by
 have jV:(g.at (d / 2)).1=(g.at (d / 2)).2:=qI.2 (hv.trans hh.symm);by_cases hx:∃ m∈t.bl,m.getD 0 0=([d / 2]:List Int).getD 0 0
 ·have gZ:t.lay (d / 2)=t:=by
   unfold dW.lay;rw[EM hx λm hm q=>?_];have ze:d / 2∈m:=by
    have h0:m.getD 0 0∈m:=iQ (Qt.2 (h.cd.AP m hm))
    grind
   exact h.cd.oC m hm _ ze jV
  grind
 have gZ:(t.lay (d / 2)).bl=t.bl++[[d / 2]]:=tl λm hm q=>hx ⟨m,hm,q⟩;have Oz:∀ x,uE g [d / 2] x->x=v:=λx ⟨e,he,hex⟩=>by
  all_goals grind [fu]
 refine⟨?_,λl hl=>?_,k.tree,k.cut⟩
 ·rw[gZ]
  exact k.two.snoc (Qd ⟨_,rfl,jV⟩) λz x y hx hy _ _=>by rw[Oz x hx,Oz y hy];exact .here
 rw[gZ] at hl;rcases Qa.1 hl with q | q
 ·exact k.own l q
 rw[Qf.1 q];refine Qb λe he x hex=>?_;rw[Oz x ⟨e,he,hex⟩];have hn:eI s t v:=h.sN hE;exact hn
theorem D2.up (h:cF g p s t A v via pre) (hE:xD g p s A v via) (k:D2 g p s t A v) {m:Int} (hv:g.tail d=v) (hA:g.head d∈A):D2 g p s ((t.push (d / 2)).lower v m) A v:=by
 obtain⟨R,N,e1,-,-,-⟩:=h.yY;have hR:t.ed.drop s.ed.length=R:=by rw[e1];simp
 have Zy:((t.push (d / 2)).lower v m).ed.drop s.ed.length=R++[d / 2]:=by
  show (t.ed++[d / 2]).drop s.ed.length=_
  grind
 have kt:=k.tree;have kc:=k.cut;rw[hR] at kt kc;have Oz:∀ x,eI s t x->uE g (R++[d / 2]) x->uE g R x\/x=v:=λx hx ⟨e,he,hex⟩=>by
  rcases Qa.1 he with q | q
  ·exact Qd ⟨e,q,hex⟩
  rw[Qf.1 q] at hex;rcases fu hex with r | r
  ·exact Qb (by rw[r,hv])
  exact absurd hx.1 (by rw[r];exact hE.cd.act _ hA)
 have sub:∀ e∈R,e∈R++[d / 2]:=λe he=>Qc _ he;refine⟨k.two,k.own,λx hx z hz=>?_,λz x hz hx hi bn=>?_⟩
 ·rw[Zy] at hx ⊢
  rcases hx with rfl | ⟨hx,hi⟩
  ·exact .here
  rcases Oz x hx hi with q | q
  ·exact (kt x (Qb ⟨hx,q⟩) z hz).mono sub
  rw[q];exact .here
 rw[Zy] at hi ⊢;rcases Oz x hx hi with q | q
 ·rcases kc z x hz hx q bn with ⟨r1,r2⟩ | ⟨y,r1,r2⟩
  ·exact Qd ⟨r1,r2.mono sub⟩
  exact Qb ⟨y,r1,r2.mono sub⟩
 exact Qd ⟨λr=>bn (q.trans r.symm),by rw[q];exact .here⟩
theorem D2.child (hp:aD g p) (hE:xD g p s A v via) (h:cF g p s t A v via pre) (k:D2 g p s t A v) (hd:d∈p.ah) (hv:g.tail d=v) (hm:t.met (g.head d)=0)
  (hS:cF g p (t.push (d / 2)) t2 (A++[v]) (g.head d) (d / 2) (aE g p (g.head d))) (kS:D2 g p (t.push (d / 2)) t2 (A++[v]) (g.head d)):D2 g p s (t2.back v (g.head d) (d / 2)) A v:=by
 have uA:=h.sN hE;have Cn:=h.ent hp hE hd hv hm;obtain⟨w,hw⟩:∃ w,g.head d=w:=⟨_,rfl⟩;obtain⟨e,he⟩:∃ e,d / 2=e:=⟨_,rfl⟩;have hfe:=h.Ad hm;rw[hw] at hm Cn hS kS ⊢;rw[he] at Cn hS kS hfe ⊢;have LX:w≠v:=λq=>uA.2 (q ▸ hm);have f1:∀ x,t.met x≠0->t2.met x=t.met x/\t2.low x=t.low x:=λx hx=>hS.old x hx;have f2:∀ x,eI s t2 x↔eI s t x\/eI (t.push e) t2 x:=λx=>by
  constructor
  ·rintro ⟨h1,h2⟩
   by_cases q:t.met x=0
   ·exact Qb ⟨q,h2⟩
   exact Qd ⟨h1,q⟩
  rintro (⟨h1,h2⟩ | ⟨h1,h2⟩)
  ·exact⟨h1,by grind⟩
  exact⟨Classical.byContradiction λq=>h.mono q h1,h2⟩
 have U4:eI (t.push e) t2 w:=hS.sN Cn;have xn:¬ eI (t.push e) t2 v:=λq=>uA.2 q.1;have hNX:∀ {y},eI s t y->¬ eI (t.push e) t2 y:=λ{y} hy q=>hy.2 q.1;have mv:t2.met v=s.et+1:=by rw[(f1 v uA.2).1,h.me]
 have eY:∀ c∈p.ah,eI (t.push e) t2 (g.tail c)->t2.met (g.head c)≠0:=λc hc hn=>by
  by_cases q:g.tail c=w
  ·exact hS.seen c (aX.2 ⟨hc,q⟩)
  refine hS.cd.fin c hc hn.2 λr=>?_;rcases Qa.1 r with r | r
  ·exact Cn.cd.act _ r hn.1
  all_goals grind
 obtain⟨R1,N1,a1,a2,a3,a4⟩:=h.yY;obtain⟨R2,N2,b1,b2,b3,b4⟩:=hS.yY;have XW:t2.ed=t.ed++e :: R2:=by rw[b1];show (t.ed++[e])++R2=_;simp
 have gZ:t2.bl=t.bl++N2:=b2;have Ep:t.ed.drop s.ed.length=R1:=by rw[a1];simp
 have hR2:t2.ed.drop (t.push e).ed.length=R2:=by rw[b1];simp
 have kt:=k.tree;have kc:=k.cut;have st:=kS.tree;have sc:=kS.cut;rw[Ep] at kt kc;rw[hR2] at st sc;have nA:∀ y∈A,¬ eI (t.push e) t2 y:=λy hy q=>Cn.cd.act _ (Qc _ hy) q.1;have r1:∀ x,uE g R1 x->t.met x≠0:=λx ⟨f,hf,wT⟩=>by
  have hb:=(h.Pg f (by grind)).2;rcases wT with q | q
  ·rw[<-q];exact hb.1
  rw[<-q];exact hb.2
 have r2c:∀ f∈R2,∃ c∈p.ah,c / 2=f/\eI (t.push e) t2 (g.tail c)/\(eI (t.push e) t2 (g.head c)\/g.head c∈A++[v]):=λf hf=>by
  obtain⟨-,c,hc,h2,h3,-⟩:=(b4 f).1 (Qc _ hf);refine⟨c,hc,h2,h3,?_⟩;by_cases r:t.met (g.head c)=0
  ·exact Qd ⟨r,eY c hc h3⟩
  exact Qb (hS.inA Cn hc h3 r)
 have r2:∀ x,uE g R2 x->eI (t.push e) t2 x\/x=v\/x∈A:=λx ⟨f,hf,wT⟩=>by
  obtain⟨c,hc,rfl,h3,h4⟩:=r2c f hf;rcases fu wT with q | q
  all_goals grind
 have re:∀ x,cE g e x->x=v\/x=w:=λx hx=>by
  all_goals grind [fu]
 have vw:∀ {L:List Int} {z:Int},e∈L->w≠z->By g L z v w:=λ{L z} hL hz=>by
  grind [By.oO]
 have wv:∀ {L:List Int} {z:Int},e∈L->v≠z->By g L z w v:=λ{L z} hL hz=>by
  have h1:g.head (aH d)=v:=by rw[<-az,bg];exact hv
  grind [By.oO,aH,bJ,az]
 unfold dW.back;by_cases YO:t2.met v<=t2.low w
 ·rw[if_pos YO]
  have xo:t2.ed.idxOf e=t.ed.length:=by
   grind
  have Gb:t2.ed.take (t2.ed.idxOf e)=t.ed:=by rw[xo,XW];exact List.take_left' rfl
  have Th:t2.ed.drop (t2.ed.idxOf e)=e :: R2:=by rw[xo,XW];exact List.drop_left' rfl
  have JZ:∀ x∈e :: R2,¬ lI g t x:=by
   intro x hx hb;rcases Qg.1 hx with q | q
   ·rw[q,<-he,fX,hw] at hb;exact hb.2 hm
   obtain⟨-,c,hc,h2,h3,-⟩:=(b4 x).1 (Qc _ q);rw[<-h2,fX] at hb;exact hb.1 h3.1
  have E5:mq (Cf (e :: R2)) t2.bl=t2.bl++[Cf (e :: R2)]:=tl λm mD q=>by
   have h0:m.getD 0 0∈m:=iQ (Qt.2 (hS.cd.AP m mD));have h1:(Cf (e :: R2)).getD 0 0∈e :: R2:=(eR _).mem_iff.1 (iQ (by rw[(eR _).length_eq];simp));rw[<-q] at h1;rw[gZ] at mD;rcases Qa.1 mD with r | r
   ·exact JZ _ h1 (h.cd.PW m r _ h0).2
   have h2:m.getD 0 0∈R2++N2.flatten:=Qi _ (Qe.2 ⟨m,r,h0⟩);rcases Qg.1 h1 with u | u
   ·exact ((b4 _).1 h2).1 u
   exact (Qj.1 b3).2.2 _ u _ (Qe.2 ⟨m,r,h0⟩) rfl
  have Sc:((t2.lower v (t2.low w)).take e).ed=t.ed:=Gb;have ai1:((t2.lower v (t2.low w)).take e).bl=t2.bl++[Cf (e :: R2)]:=by
   show mq (Cf (t2.ed.drop (t2.ed.idxOf e))) t2.bl=_;rw[Th,E5]
  have hN3:∀ x,eI s ((t2.lower v (t2.low w)).take e) x↔eI s t2 x:=λx=>Iff.rfl
  -- no oO goes higher
  have jY:∀ c∈p.ah,eI (t.push e) t2 (g.tail c)->g.head c ∉ A:=λc hc hn u=>by
   have Tc:c / 2≠e:=λk=>by
    rw[<-he] at k;rcases gL k with y | y
    ·rw[y,hv] at hn;exact xn hn
    have h1:g.tail d=g.head c:=by rw[y,az]
    rw[<-h1,hv] at u;exact hE.vA u
   have h1:=hS.KO c hc hn (λk=>aX.2 ⟨hc,k⟩) (Qc _ u) Tc;have h2:(t.push e).met (g.head c)=s.met (g.head c):=(h.old _ (hE.cd.act _ u)).1;have h3:=(hE.cd.num (g.head c)).2;omega
  have r2':∀ x,uE g R2 x->eI (t.push e) t2 x\/x=v:=λx ⟨f,hf,wT⟩=>by
   obtain⟨c,hc,rfl,h3,h4⟩:=r2c f hf
   all_goals grind [fu]
  have rL:∀ x,uE g (e :: R2) x->x=v\/(eI (t.push e) t2 x/\(x=w\/uE g R2 x)):=λx ⟨f,hf,wT⟩=>by
   rcases Qg.1 hf with q | q
   ·rw[q] at wT
    rcases re x wT with r | r
    ·exact Qd r
    exact Qb ⟨by rw[r];exact U4,Qd r⟩
   rcases r2' x ⟨f,q,wT⟩ with r | r
   ·exact Qb ⟨r,Qb ⟨f,q,wT⟩⟩
   exact Qd r
  have sub:∀ f∈R2,f∈e :: R2:=λf hf=>Qk _ hf;have Yz:e∈e :: R2:=by simp
  have stw:∀ x,eI (t.push e) t2 x->(x=w\/uE g R2 x)->∀ z,¬ eI (t.push e) t2 z->By g (e :: R2) z w x:=λx hx hi z hz=>(st x (hi.imp id λq=>⟨hx,q⟩) z hz).mono sub;have tight:FQ g (e :: R2):=by
   intro z x y hx hy AG wX;by_cases qW:eI (t.push e) t2 z
   ·have uG:v≠z:=λq=>xn (q ▸ qW)
    have X9:∀ u,uE g (e :: R2) u->u≠z->By g (e :: R2) z u v:=λu hu huz=>by
     rcases rL u hu with q | ⟨q1,q2⟩
     ·rw[q];exact .here
     rcases q2 with q2 | q2
     ·rw[q2];exact wv Yz uG
     rcases sc z u qW q1 q2 huz with ⟨j1,j2⟩ | ⟨y',j1,j2⟩
     ·exact (j2.mono sub).tr (wv Yz uG)
     rcases Qa.1 j1 with r | r
     ·exfalso
      rcases j2.last with o | o
      ·rw[o] at q1;exact nA _ r q1
      rcases r2' _ o with o2 | o2
      ·exact nA _ r o2
      rw[o2] at r;exact hE.vA r
     rw[Qf.1 r] at j2;exact j2.mono sub
    exact (X9 x hx AG).tr ((X9 y hy wX).CX wX)
   by_cases uG:z=v
   ·have tow:∀ u,uE g (e :: R2) u->u≠z->By g (e :: R2) z w u:=λu hu huz=>by
     all_goals grind
    have Ie:w≠z:=λq=>qW (q ▸ U4);exact ((tow x hx AG).CX Ie).tr (tow y hy wX)
   have Ie:w≠z:=λq=>qW (q ▸ U4);have X9:∀ u,uE g (e :: R2) u->u≠z->By g (e :: R2) z v u:=λu hu huz=>by
    rcases rL u hu with q | ⟨q1,q2⟩
    ·rw[q];exact .here
    exact (vw Yz Ie).tr (stw u q1 q2 z qW)
   exact ((X9 x hx AG).CX (Ne.symm uG)).tr (X9 y hy wX)
  refine⟨?_,λl hl=>?_,λx hx z hz=>?_,λz x hz hx hi bn=>?_⟩
  ·rw[ai1]
   refine kS.two.snoc (Qb ⟨v,hE.vV,eI (t.push e) t2,xn,λc hc hn=>?_,λf hf=>?_,λc hc hn=>?_⟩) (Ki (eR _).symm tight)
   ·by_cases r:t.met (g.head c)=0
    ·exact Qd ⟨r,eY c hc hn⟩
    refine Qb ?_;have PK:=hS.inA Cn hc hn r;rcases Qa.1 PK with u | u
    all_goals grind
   ·rcases Qg.1 ((eR _).mem_iff.1 hf) with q | q
    ·exact⟨aH d,bD hd,by grind [bJ],by grind [az]⟩
    obtain⟨c,hc,h2,h3,-⟩:=r2c f q
    grind
   by_cases q:c / 2=e
   ·exact Qb ((eR _).mem_iff.2 (by rw[q];simp))
   have h2:=(b4 (c / 2)).2 ⟨q,c,hc,rfl,hn,(QF (g.tail c=w)).elim (λu=>Qb (aX.2 ⟨hc,u⟩)) Qd⟩;rcases Qa.1 h2 with r | r
   ·exact Qb ((eR _).mem_iff.2 (Qk _ r))
   exact Qd (by rw[gZ,Qu];exact Qi _ r)
  ·rw[ai1] at hl
   rcases Qa.1 hl with q | q
   ·rcases kS.own l q with r | r
    ·exact (k.own l r).imp id λo f hf x hx=>(f2 x).2 (Qd (o f hf x hx))
    all_goals grind
   rw[Qf.1 q];refine Qb λf hf x hx=>(f2 x).2 ?_;rcases rL x ⟨f,(eR _).mem_iff.1 hf,hx⟩ with r | r
   all_goals grind
  ·rw[Sc,Ep] at hx ⊢
   rcases hx with q | ⟨hx,hi⟩
   ·rw[q];exact .here
   have Ay:=((f2 x).1 hx).resolve_right λq=>r1 x hi q.1;exact kt x (Qb ⟨Ay,hi⟩) z λq=>hz ((f2 z).2 (Qd q))
  rw[Sc,Ep] at hi ⊢;have Ay:=((f2 x).1 hx).resolve_right λq=>r1 x hi q.1;rcases (f2 z).1 hz with YL | qW
  ·exact kc z x YL Ay hi bn
  all_goals grind [By.CX]
 rw[if_neg YO];have Zy:(t2.lower v (t2.low w)).ed.drop s.ed.length=R1++e :: R2:=by
  show t2.ed.drop s.ed.length=_
  grind
 have s1:∀ f∈R1,f∈R1++e :: R2:=λf hf=>Qc _ hf;have s2:∀ f∈R2,f∈R1++e :: R2:=λf hf=>Qi _ (Qk _ hf);have Yz:e∈R1++e :: R2:=by simp
 have cls:∀ x,eI s t2 x->uE g (R1++e :: R2) x->(eI s t x/\(uE g R1 x\/x=v))\/(eI (t.push e) t2 x/\(x=w\/uE g R2 x)):=λx hx ⟨f,hf,wT⟩=>by
  rcases (f2 x).1 hx with Ay | Tv
  ·refine Qd ⟨Ay,?_⟩
   rcases Qa.1 hf with q | q
   ·exact Qd ⟨f,q,wT⟩
   rcases Qg.1 q with q | q
   ·rw[q] at wT
    rcases re x wT with r | r
    ·exact Qb r
    rw[r] at Ay;exact absurd U4 (hNX Ay)
   rcases r2 x ⟨f,q,wT⟩ with r | r | r
   ·exact absurd r (hNX Ay)
   ·exact Qb r
   exact absurd Ay.1 (hE.cd.act _ r)
  refine Qb ⟨Tv,?_⟩;rcases Qa.1 hf with q | q
  ·exact absurd Tv.1 (r1 x ⟨f,q,wT⟩)
  rcases Qg.1 q with q | q
  ·rw[q] at wT
   rcases re x wT with r | r
   ·rw[r] at Tv;exact absurd Tv xn
   exact Qd r
  exact Qb ⟨f,q,wT⟩
 have stw:∀ x,eI (t.push e) t2 x->(x=w\/uE g R2 x)->∀ z,¬ eI (t.push e) t2 z->By g (R1++e :: R2) z w x:=λx hx hi z hz=>(st x (hi.imp id λq=>⟨hx,q⟩) z hz).mono s2;refine⟨kS.two,λl hl=>?_,λx hx z hz=>?_,λz x hz hx hi bn=>?_⟩
 ·rcases kS.own l hl with r | r
  ·exact (k.own l r).imp id λo f hf x hx=>(f2 x).2 (Qd (o f hf x hx))
  exact Qb λf hf x hx=>(f2 x).2 (Qb (r f hf x hx))
 ·rw[Zy] at hx ⊢
  have YL:¬ eI s t z:=λq=>hz ((f2 z).2 (Qd q));have qW:¬ eI (t.push e) t2 z:=λq=>hz ((f2 z).2 (Qb q));have Ie:w≠z:=λq=>qW (q ▸ U4);rcases hx with q | ⟨hx,hi⟩
  ·rw[q];exact .here
  rcases cls x hx hi with ⟨q1,q2 | q2⟩ | ⟨q1,q2⟩
  ·exact (kt x (Qb ⟨q1,q2⟩) z YL).mono s1
  ·rw[q2];exact .here
  exact (vw Yz Ie).tr (stw x q1 q2 z qW)
 rw[Zy] at hi ⊢;rcases (f2 z).1 hz with YL | qW
 ·have qW:¬ eI (t.push e) t2 z:=hNX YL
  rcases cls x hx hi with ⟨q1,q2 | q2⟩ | ⟨q1,q2⟩
  ·rcases kc z x YL q1 q2 bn with ⟨j1,j2⟩ | ⟨y,j1,j2⟩
   ·exact Qd ⟨j1,j2.mono s1⟩
   exact Qb ⟨y,j1,j2.mono s1⟩
  ·exact Qd ⟨λr=>bn (q2.trans r.symm),by rw[q2];exact .here⟩
  have Ie:w≠z:=λq=>qW (q ▸ U4);have hxw:=(stw x q1 q2 z qW).CX Ie;by_cases uG:z=v
  ·have hwm:t2.low w<t2.met w:=by
    have h1:=hS.me;have h2:(t.push e).et=t.et:=rfl;have h3:=(h.cd.num v).2;rw[h.me] at h3;omega
   obtain⟨c,hc,j1,j2,j3,j4⟩:=hS.Fw hwm;have PK:g.head c∈A:=(Qa.1 j2).resolve_right λu=>by
    rw[Qf.1 u] at j3;have:(t.push e).met v=s.et+1:=h.me;omega
   have hcR:c / 2∈R2:=by
    have h2:=(b4 (c / 2)).2 ⟨j4,c,hc,rfl,j1,(QF (g.tail c=w)).elim (λu=>Qb (aX.2 ⟨hc,u⟩)) Qd⟩;rcases Qa.1 h2 with r | r
    ·exact r
    exfalso;obtain⟨l,hl,lu⟩:=Qe.1 r;rcases kS.own l (by rw[gZ];exact Qi _ hl) with o | o
    ·have:=(h.cd.PW l o _ lu).2
     exact (fX.1 this).1 j1.1
    exact nA _ PK (o _ lu _ (eM g c).2)
   have h5:=stw (g.tail c) j1 (Qb (SO hcR).1) z qW;have h6:By g (R1++e :: R2) z (g.tail c) (g.head c):=By.oO (s2 _ hcR) (λq=>hE.vA (by grind));exact Qb ⟨g.head c,PK,(hxw.tr h5).tr h6⟩
  exact Qd ⟨uG,hxw.tr (wv Yz (Ne.symm uG))⟩
 have uG:v≠z:=λq=>xn (q ▸ qW);rcases cls x hx hi with ⟨q1,q2⟩ | ⟨q1,q2⟩
 ·refine Qd ⟨Ne.symm uG,?_⟩
  rcases q2 with q2 | q2
  ·exact ((kt x (Qb ⟨q1,q2⟩) z λq=>hNX q qW).mono s1).CX uG
  rw[q2];exact .here
 rcases q2 with q2 | q2
 ·rw[q2];exact Qd ⟨Ne.symm uG,wv Yz uG⟩
 rcases sc z x qW q1 q2 bn with ⟨j1,j2⟩ | ⟨y,j1,j2⟩
 ·exact Qd ⟨Ne.symm uG,(j2.mono s2).tr (wv Yz uG)⟩
 rcases Qa.1 j1 with r | r
 ·exact Qb ⟨y,r,j2.mono s2⟩
 rw[Qf.1 r] at j2;exact Qd ⟨Ne.symm uG,j2.mono s2⟩
theorem NO (hp:aD g p):∀ (n:Nat) (s:dW) (A:List Int) (v via:Int),xD g p s A v via->C' p s<=n->B2 g p s.bl->D2 g p s (visit g p n v via s) A v:=by
 intro n
 induction n with
 | zero =>
  intro s A v via hE hn _;have:0<C' p s:=List.length_pos_of_mem (List.mem_filter.2 ⟨hE.vV,decide_eq_true hE.vn⟩);omega
 | succ n ih =>
  intro s A v via hE hn hb;have fold:∀ (rest pre:List Int) (t:dW),pre++rest=aE g p v->cF g p s t A v via pre->D2 g p s t A v->D2 g p s (rest.foldl (fS (visit g p n) g v via) t) A v:=by
   intro rest
   induction rest with
   | nil=>intro pre t _ _ k;exact k
   | cons d rest ih2 =>
    intro pre t e h k;have uN:d∈aE g p v:=by rw[<-e];simp
    obtain⟨hd,hv⟩:=aX.1 uN;have Ct:d ∉ pre:=λq=>by
     have gp:(aE g p v).Nodup:=List.Pairwise.filter _ (cV hp.en)
     grind
    have uA:=h.sN hE
    suffices hs:cF g p s (fS (visit g p n) g v via t d) A v via (pre++[d])/\D2 g p s (fS (visit g p n) g v via t d) A v from
     ih2 (pre++[d]) _ (by grind) hs.1 hs.2
    unfold fS;by_cases c1:g.head d=v
    ·rw[if_pos c1];exact⟨h.loop hp hE hd hv c1,k.loop h hE hv c1⟩
    rw[if_neg c1];by_cases c2:d / 2=via
    ·rw[if_pos c2]
     have hA:=hE.tx hp hd hv c2;exact⟨h.same (h.mono (hE.cd.act _ hA)) (λ_ q=>absurd c2 q) λq=>absurd c2 q,k⟩
    rw[if_neg c2];by_cases c3:t.met (g.head d)=0
    ·rw[if_pos c3]
     have Cn:=h.ent hp hE hd hv c3;have hu:C' p (t.push (d / 2))<=n:=by
      have:C' p (t.push (d / 2))<C' p s:=by
       refine gQ (a:=v) (λx _ hx=>?_) hE.vV ?_ (decide_eq_true hE.vn)
       ·have hx:t.met x=0:=of_decide_eq_true hx
        exact decide_eq_true (Qh λq=>h.mono q hx)
       exact decide_eq_false uA.2
      omega
     have hS:=sO hp n _ _ _ _ Cn hu;exact⟨h.child hp hE hd hv Ct c2 c3 hS,k.child hp hE h hd hv c3 hS (ih _ _ _ _ Cn hu k.two)⟩
    rw[if_neg c3];by_cases c4:t.met (g.head d)<t.met v
    ·rw[if_pos c4]
     have fx:s.met (g.head d)≠0:=λq=>by
      have:=h.later _ ⟨q,c3⟩;rw[h.me] at c4;omega
     exact⟨h.up hp hE hd hv Ct c1 c2 c3 c4,k.up h hE hv (h.inA hE hd (by grind) fx)⟩
    rw[if_neg c4];have Bg:s.met (g.head d)=0:=Qh λq=>by
     have h1:=(hE.cd.num (g.head d)).2;rw[(h.old _ q).1,h.me] at c4;omega
    exact⟨h.same c3 (λq=>absurd Bg (hE.cd.act _ q)) λq=>⟨q,aH d,bD hd,bJ d,by rw[az];exact⟨Bg,c3⟩,Qd (by grind [az])⟩,k⟩
  exact fold _ [] _ rfl (cF.start hp hE) (D2.start hE hb)
theorem GP (hp:aD g p):B2 g p (findAll g p).bl:=by
 have key:∀ (l:List Int) (s:dW),(∀ v∈l,v∈p.v)->KY g p s->B2 g p s.bl->B2 g p (lq g p p.v.length l s).bl:=by
  intro l
  induction l with
  | nil=>intro s _ _ h;exact h
  | cons v l ih =>
   intro s hl h hb;have hu:C' p s<=p.v.length:=List.length_filter_le _ _;show B2 g p (lq g p p.v.length l (if s.met v=0 then visit g p p.v.length v (-1) s else s)).bl;by_cases q:s.met v=0
   ·rw[if_pos q]
    have hE:xD g p s [] v (-1):=⟨h.cd,hl v (by simp),q,Qd ⟨rfl,rfl⟩,by rw[h.ed];simp,by rw[h.ed];simp⟩;exact ih _ (λu hu=>hl u (Qk _ hu)) (h.step hp (hl v (by simp)) q hu).1 (NO hp _ _ _ _ _ hE hu hb).two
   all_goals grind
 refine key p.v dW.zero (λ_ h=>h) KY.start ⟨λN1 B N3 h=>?_,λl hl=>?_⟩
 ·have:=congrArg List.length h
  grind [dW.zero]
 cases hl
theorem NV (hp:aD g p) (hl:l∈(findAll g p).bl) (hm:m∈(findAll g p).bl) (Z':l≠m) (he:e∈l) (hf:f∈m):∃ v∈p.v,pZ g p v e f:=by
 obtain⟨h1,-⟩:=kG hp;have h2:=GP hp;have dm:=eP hp;have key:∀ {l m:List Int} {N1 N3:List (List Int)} {e f:Int},(findAll g p).bl=N1++l :: N3->m∈N3->e∈l->f∈m->∃ v∈p.v,pZ g p v e f:=by
  intro l m N1 N3 e f gZ hm he hf;have gp:=h1.nd;rw[gZ,Qu,Qx] at gp;have EA:f∈N3.flatten:=Qe.2 ⟨m,hm,hf⟩;have J8:f ∉ N1.flatten:=λq=>(Qj.1 gp).2.2 f q f (Qi _ EA) rfl;have kr:f ∉ l:=λq=>(Qj.1 (Qj.1 gp).2.1).2.2 f q f EA rfl;have dE:∀ x,x∈(findAll g p).bl.flatten->x∈p.e:=λx hx=>dm.mem_iff.1 hx;have hep:e∈p.e:=dE e (Qe.2 ⟨l,by grind,he⟩);have Xd:f∈p.e:=dE f (Qe.2 ⟨m,by grind,hf⟩);have bn:e≠f:=λq=>kr (q ▸ he);rcases h2.sep N1 l N3 gZ with ⟨x,hx,AT⟩ | ⟨z,hz,Y,hzY,lu,hB,J5⟩
  ·rw[hx,Qf] at he
   subst he;exact⟨(g.at e).1,(hp.ends e hep).1,bn,Qd ⟨rfl,AT.symm⟩⟩
  have hfY:∀ x,cE g f x->¬ Y x:=λx hx hY=>by
   obtain⟨c,hc,uB⟩:=pG Xd hx
   all_goals grind [aX]
  obtain⟨c,hc,Tc,hcY⟩:=hB e he;have heY:∀ x,cE g e x->Y x\/x=z:=λx hx=>by
   all_goals grind [fu]
  refine⟨z,hz,bn,?_⟩;by_cases q2:(g.at f).1=z/\(g.at f).2=z
  ·grind
  refine Qb (Qb λBW=>?_);have iM:¬ ((g.at e).1=z/\(g.at e).2=z):=λq=>by
   all_goals grind [cE,eM]
  have hY0:Y (off g z e):=(heY _ kF).resolve_right (lg iM);have arR:∀ u,bS g p z (off g z e) u->Y u:=λu hu=>by
   induction hu with
   | here=>exact hY0
   | step _ hn hs ih =>
    obtain⟨x,hx,hx1,hx2⟩:=zq hn;obtain⟨c2,bI,dK⟩:=pG hx hx1
    all_goals grind [aX,fu]
  grind [kF]
 obtain⟨N1,N3,gZ⟩:=Qv hl;have Za:=hm;rw[gZ] at Za;rcases Qa.1 Za with q | q
 ·obtain⟨M1,M2,rfl⟩:=Qv q
  obtain⟨v,hv,h3⟩:=key (l:=m) (m:=l) (N1:=M1) (N3:=M2++l :: N3) (by grind) (by simp) hf he;refine⟨v,hv,Ne.symm h3.1,?_⟩;rcases h3.2 with r | r | r
  ·exact Qb (Qd r)
  ·exact Qd r
  by_cases r1:(g.at e).1=v/\(g.at e).2=v
  ·exact Qd r1
  exact Qb (Qb λo=>r (bS.symm (lg r1) o).2)
 all_goals grind
theorem uR (hp:aD g p) (hl:l∈(findAll g p).bl) (hq:∀ e∈l,e∈q.e) (he:e∈l) (hf:f∈l):¬ pZ g q v e f:=by
 obtain⟨h1,-⟩:=kG hp;have h2:=GP hp;rintro ⟨bn,fy⟩;have jV:∀ x∈l,¬ ((g.at x).1=v/\(g.at x).2=v):=λx hx r=>by
  have h3:=h1.cd.oC l hl x hx (r.1.trans r.2.symm)
  grind
 rcases fy with r | r | r
 ·exact jV e he r
 ·exact jV f hf r
 have h3:=h2.sol l hl v (off g v e) (off g v f) ⟨e,he,kF⟩ ⟨f,hf,kF⟩ (lg (jV e he)) (lg (jV f hf));have h4:By g q.e v (off g v e) (off g v f):=h3.mono hq;exact r (bS.congr (p:=⟨[],q.e⟩) (q:=q) rfl h4)
theorem Ld (hp:aD g p) (hl:l∈(findAll g p).bl) (he:e∈l) (hf:f∈p.e):f∈l↔∀ v∈p.v,¬ pZ g p v e f:=by
 have dm:=eP hp;constructor
 ·exact λh v _=>uR hp hl (λx hx=>dm.mem_iff.1 (Qe.2 ⟨l,hl,hx⟩)) he h
 intro h;obtain⟨m,hm,EA⟩:=Qe.1 (dm.mem_iff.2 hf);by_cases q:l=m
 ·rw[q];exact EA
 obtain⟨v,hv,h3⟩:=NV hp hl hm q he EA;exact absurd h3 (h v hv)
theorem wQ {α β:Type} {f:α->β}:∀ {l:List α},(l.map f).Nodup->∀ x∈l,∀ y∈l,f x=f y->x=y
 | [],_,x,hx,_,_,_=>by simp at hx
 | a :: l,h,x,hx,y,hy,e=>by
  rw[QE,QB] at h;rcases Qg.1 hx with r | r <;> rcases Qg.1 hy with q | q
  ·rw[r,q]
  ·exact absurd (Ql.2 ⟨y,q,by rw[<-e,r]⟩) h.1
  ·exact absurd (Ql.2 ⟨x,r,by rw[e,q]⟩) h.1
  exact wQ h.2 x r y q e
theorem qF:v∈(dO g l).v↔uE g l v:=by
 show v∈tidy (cY g l)↔_;rw[(lM _).2];unfold cY;rw[List.mem_flatMap];constructor
 ·rintro ⟨e,he,h⟩
  refine⟨e,he,?_⟩;rcases Qg.1 h with q | q
  ·exact Qd q.symm
  exact Qb (Qf.1 q).symm
 rintro ⟨e,he,q | q⟩
 all_goals grind
theorem kX (h0:p.err g=0) (hl:l∈(findAll g p).bl) :
  cg g (dO g l)/\(dO g l).err g=0/\(∀ e∈l,e∈p.e)/\∀ v∈(dO g l).v,v∈p.v:=by
 have hp:=Pt.ax h0;obtain⟨g1,g2,g3,-⟩:=Pt.aF h0;obtain⟨h1,-⟩:=kG hp;have dm:=eP hp;have iU:∀ e∈l,e∈p.e:=λe he=>dm.mem_iff.1 (Qe.2 ⟨l,hl,he⟩);have hsv:∀ v∈(dO g l).v,v∈p.v:=λv hv=>by
  obtain⟨e,he,q | q⟩:=qF.1 hv
  ·rw[<-q];exact (hp.ends e (iU e he)).1
  rw[<-q];exact (hp.ends e (iU e he)).2
 have gp:l.Nodup:=by
  have:=h1.nd
  grind
 have aW:l.Pairwise (·<·):=by
  have h2:=Ax g p l hl;exact (h2.and gp).imp λ{a b} q=>by omega
 refine⟨⟨?_,λv hv=>?_⟩,?_,iU,hsv⟩
 ·cases hq:l with
  | nil=>exact absurd hq (h1.cd.AP l hl)
  | cons e0 r =>
   grind [uR,dO]
 ·obtain⟨e,he,qB⟩:=qF.1 hv
  obtain⟨d,hd,-⟩:=pG (p:=dO g l) he qB
  grind [aX]
 refine Pt.zb g1 (Hh (lM _).1 λx hx=>sV g2 x (hsv x hx)) (Hh aW λx hx=>sV g3 x (iU x hx)) λe he=>?_;exact⟨qF.2 ⟨e,he,Qd rfl⟩,qF.2 ⟨e,he,Qb rfl⟩⟩
theorem Sl (hr:r∈ic g p):qP g p r∈(findAll g p).bl:=(zX (vL.1 hr)).1
theorem XE (hp:aD g p) (hl:l∈(findAll g p).bl):∃ r∈ic g p,qP g p r=l:=by
 obtain⟨h1,-⟩:=kG hp;have hk:l.getD 0 0∈lC (findAll g p).bl:=Ql.2 ⟨l,hl,rfl⟩;refine⟨_,vL.2 hk,?_⟩;obtain⟨h2,h3⟩:=zX hk;have hn:=j7 h1.nd h1.cd.AP;exact wQ hn _ h2 _ hl h3
theorem abD:(⟨xr g p r,qP g p r⟩:Pt)=dO g (qP g p r):=rfl
def gN (g:Gr) (p:Pt):Prop:=p.err g=0/\∀ l∈(findAll g p).bl,sL g (dO g l)
theorem Oj {aa:List (List Int)} (h:ia g p aa) (hq:q.err g=0) (he:∀ e∈q.e,e∈p.e):gN g q:=by
 refine⟨hq,λl hl=>?_⟩;obtain⟨h1,h2,h3,-⟩:=kX hq hl;exact⟨_,h.sub h2 (λe iM=>he e (h3 e iM)) h1.2 (sf (Pt.ax h2) h1)⟩
theorem gN.sub (h:gN g p) (hq:q.err g=0) (he:∀ e∈q.e,e∈p.e):gN g q:=by
 have hp:=Pt.ax h.1;have Eo:=Pt.ax hq;refine⟨hq,λl hl=>?_⟩;obtain⟨h1,h2,h3,-⟩:=kX hq hl;obtain⟨e0,r,Da⟩:∃ e0 r,l=e0 :: r:=by
  cases hL:l with
  | nil=>exact absurd hL ((kG Eo).1.cd.AP l hl)
  | cons e0 r=>exact⟨e0,r,rfl⟩
 have lZ:e0∈l:=by rw[Da];simp
 obtain⟨m,hm,rA⟩:=Qe.1 ((eP hp).mem_iff.2 (he _ (h3 _ lZ)));have dE:∀ f∈l,f∈m:=λf hf=>(Ld hp hm rA (he _ (h3 f hf))).2 λv _=>uR Eo hl (λx hx=>he _ (h3 x hx)) lZ hf;exact (h.2 m hm).sub h2 h1 dE
theorem Dj (h0:b.err g=0) (hS:cg g b):gN g b↔sL g b:=by
 have hp:=Pt.ax h0;constructor
 ·rintro ⟨-,h⟩
  obtain⟨h1,-⟩:=(Cs hp).2 hS;obtain⟨l,hl⟩:=List.length_eq_one_iff.1 h1;have Z':l∈(findAll g b).bl:=by rw[hl];simp
  have dm:=eP hp;rw[hl,Qx,List.flatten_nil,List.append_nil] at dm;exact (h l Z').sub h0 hS (λe he=>dm.mem_iff.2 he)
 intro h;refine⟨h0,λl hl=>?_⟩;obtain⟨k1,k2,k3,-⟩:=kX h0 hl;exact h.sub k2 k1 k3
end Go.Proofs.YtoiflofhcmjpoaaGreat.Plain
namespace Go.Proofs.YtoiflofhcmjpoaaGreat
open Go.RowKit Go.Maps
namespace Plain
variable {g:Gr} {b p B:Pt}
def gw (g:Gr) (p:Pt):List Pt:=(ic g p).map λr=>⟨xr g p r,qP g p r⟩
noncomputable def gf (g:Gr) (b:Pt):Bool:=@decide (b.err g=0/\cg g b/\sL g b) (Qp _)
theorem sF:gf g b=true↔b.err g=0/\cg g b/\sL g b:=by grind [gf]
noncomputable def jO (g:Gr) (p:Pt):Bool:=@decide (gN g p) (Qp _)
theorem gy:jO g p=true↔gN g p:=by grind [jO]
theorem jB.isB {err:Int} {t:List (List Int)} (h:jB g b err t):decide (err=0)=gf g b:=by
 rw[QC,decide_eq_true_iff,sF];by_cases h0:b.err g=0
 ·by_cases hS:cg g b
  ·rw[h.flat h0 hS]
   grind
  all_goals grind [jB.split]
 all_goals grind [jB.bad]
theorem iH (h0:p.err g=0):B∈gw g p↔∃ l∈(findAll g p).bl,B=dO g l:=by
 unfold gw;rw[Ql];constructor
 ·rintro ⟨r,hr,rfl⟩
  exact⟨_,Sl hr,rfl⟩
 rintro ⟨l,hl,rfl⟩;obtain⟨r,hr,e⟩:=XE (Pt.ax h0) hl;exact⟨r,hr,by rw[abD,e]⟩
theorem rW (h0:p.err g=0) (hB:B∈gw g p):cg g B/\B.err g=0/\(∀ e∈B.e,e∈p.e)/\∀ v∈B.v,v∈p.v:=by
 obtain⟨l,hl,rfl⟩:=(iH h0).1 hB;exact kX h0 hl
theorem GZ (h0:p.err g=0):(gw g p).length<=p.e.length:=by
 grind [gw,uT,yo,Pt.ax]
theorem A4 (h0:p.err g=0):jO g p=!((gw g p).any λB=>!gf g B):=by
 rw[QC,gy,Bool.not_eq_true',Qy];constructor
 ·rintro ⟨-,h⟩ B hB
  grind [rW,iH,sF]
 intro h;refine⟨h0,λl hl=>?_⟩;have:=h _ ((iH h0).2 ⟨l,hl,rfl⟩)
 grind [gf,dO,sF]
theorem xE (hB:B.err g=0) (hv:∀ v∈B.v,v∈p.v):B.v.length<=p.v.length:=bY (Pt.ax hB).vn hv
end Plain
def xO (w:World) (ov:Value) (L:List Plain.Pt):Prop:=∃ ao c,ov=.slice ao L.length c/\∀ i,i<L.length->∃ b v1 n1 c1 v2 n2 c2,ao=some ⟨b,0,none⟩/\w.cell? ⟨b,i*2,none⟩=some (.slice v1 n1 c1)/\w.cell? ⟨b,i*2+1,none⟩=some (.slice v2 n2 c2)/\dt w (.agg #[.slice v1 n1 c1,.slice v2 n2 c2]) (L.getD i ⟨[],[]⟩)
theorem Nq (vg vp:Value) (g:Plain.Gr) (p:Plain.Pt) (w:World) (mE:p.v.length<=100000) (hg:cA w vg g) (hp:dt w vp p) :
  Calls Tryz.prog 37 #[vg,vp] w λe w'=>∃ ov,e=.returned (.tuple #[ov,.int .i64 (p.err g)])/\(p.err g≠0->ov=.slice none 0 0)/\(p.err g=0->xO w' ov (Plain.gw g p))/\ai [] w w':=by
 refine (yf vg vp g p w mE hg hp).mono ?_;rintro e w' ⟨ov,he,h1,h2,hc⟩;refine⟨ov,he,h1,λh0=>?_,hc⟩;obtain⟨xs,hn⟩:=h2 h0;obtain⟨uo,uc,rfl⟩:=hn.shape;have hlen:(Plain.gw g p).length=(Plain.ic g p).length:=by unfold Plain.gw;simp
 refine⟨uo,uc,by rw[hlen],λi hi=>?_⟩;rw[hlen] at hi;obtain⟨gb,c,va,vc,ea,ec,e1,c1,c2,r1,r2⟩:=uX hn rfl hi;simp only[QG.injEq] at e1;refine⟨gb,va,_,vc,ea,_,ec,e1.1,c1,c2,?_⟩;have:(Plain.gw g p).getD i ⟨[],[]⟩=⟨Plain.xr g p ((Plain.ic g p).getD i 0),Plain.qP g p ((Plain.ic g p).getD i 0)⟩:=by
  grind [Plain.gw]
 rw[this];exact⟨_,_,rfl,r1.ints,r2.ints⟩
theorem G5 (vg vp:Value) (g:Plain.Gr) (p:Plain.Pt) (w:World) (mE:p.v.length<=100000) (hg:cA w vg g) (hp:dt w vp p) :
  Calls Tryz.prog 34 #[vg,vp] w λe w'=>e=.returned (.bool (Plain.gf g p))/\ai [] w w':=by
 refine (IW vg vp g p w mE hg hp).mono ?_;rintro e w' ⟨err,t,he,hb,hc⟩;exact⟨by rw[he,hb.isB],hc⟩
theorem NT (bx:Nat) (vg:Value) (eo:Option Addr) (cap:Nat) (vp:Value) (g:Plain.Gr) (p:Plain.Pt) (w:World) (mE:p.v.length<=100000) (he:vg=.agg #[.int .i64 g.n,.slice eo g.e.length cap]) (hg:cA w vg g) (c0:w.cell? ⟨bx,0,none⟩=some (.int .i64 g.n)) (c1:w.cell? ⟨bx,1,none⟩=some (.slice eo g.e.length cap)) (hp:dt w vp p) :
  Calls Tryz.prog 51 #[vp,.pointer (some ⟨bx,0,none⟩)] w λe w'=>e=.returned (.bool (!Plain.gf g p))/\ai [] w w':=by
 subst he;have HG:=lh hg;have HP:=lh hp;obtain⟨v1,v2,rfl,hv,he⟩:=hp;obtain⟨ao,ac,rfl,-⟩:=hv;obtain⟨bo,bc,rfl,-⟩:=he;clear hg;have gJ:=lh (show ai [] w (w.alloc (.cells #[.slice ao p.v.length ac,.slice bo p.e.length bc] 27)) from (show ai [] w (w.alloc (.cells #[.slice ao p.v.length ac,.slice bo p.e.length bc] 27)) from ((ai.refl [] w).alloc _)));have cf:=heap_alloc_new w (.cells #[.slice ao p.v.length ac,.slice bo p.e.length bc] 27);have HX:=lh (λ(w2:World) (dN:ai [] (w.alloc (.cells #[.slice ao p.v.length ac,.slice bo p.e.length bc] 27)) w2)=>(⟨dN.c ((cell_of_row _ _ 0 _ _ _ cf).trans rfl),dN.c ((cell_of_row _ _ 1 _ _ _ cf).trans rfl),by have hz:=dN.size;simpa using hz⟩:w2.cell? ⟨w.heap.size,0,none⟩=some (.slice ao p.v.length ac)/\w2.cell? ⟨w.heap.size,1,none⟩=some (.slice bo p.e.length bc)/\w.heap.size+1<=w2.heap.size));clear cf;have xJ:=lh (show (w.alloc (.cells #[.slice ao p.v.length ac,.slice bo p.e.length bc] 27)).heap.size=w.heap.size+1 by simp);obtain⟨y0,y1,bs⟩:=HX.out _ (ai.refl _ _);have d0:=gJ.out.bO c0;have d1:=gJ.out.bO c1;clear c0 c1;go_enter Tryz.func51,Tryz.ntmps51;go_wp2_with fail;generalize (w.alloc (.cells #[.slice ao p.v.length ac,.slice bo p.e.length bc] 27))=w1 at *;refine (G5 _ _ g p _ mE (HG.out.fresh gJ.out) (HP.out.fresh gJ.out)).mono ?_;rintro e w2 ⟨rfl,bI⟩;have bU:=lh (gJ.out.tr bI);clear bI y0 y1 bs d0 d1;cases hb:Plain.gf g p with
 | false =>
  have HB:=lh hb;clear hb;go_wp2;go_ret;exact⟨aM (by rw[HB.out];rfl),bU.out⟩
 | true =>
  have HB:=lh hb;clear hb;go_wp2;go_ret;exact⟨aM (by rw[HB.out];rfl),bU.out⟩
theorem JM (bx:Nat) (vg:Value) (eo:Option Addr) (cap:Nat) (ov:Value) (g:Plain.Gr) (L:List Plain.Pt) (w:World) (Eb:L.length<1000000000) (mE:∀ p∈L,p.v.length<=100000) (he:vg=.agg #[.int .i64 g.n,.slice eo g.e.length cap]) (hg:cA w vg g) (c0:w.cell? ⟨bx,0,none⟩=some (.int .i64 g.n)) (c1:w.cell? ⟨bx,1,none⟩=some (.slice eo g.e.length cap)) (hL:xO w ov L) :
  Calls Tryz.prog 107 #[ov,.func (Fn.func 51) #[] #[.pointer (some ⟨bx,0,none⟩)]] w λe w'=>∃ z:Int,e=.returned (.int .i64 z)/\decide (z ≥ 0)=L.any (λB=>!Plain.gf g B)/\ai [] w w':=by
 have HG:=lh hg;have HL:=lh hL;have ZY:=lh mE;have C0:=lh c0;have C1:=lh c1;have HE:=lh he;obtain⟨ao,c,rfl,-⟩:=hL;clear hg mE c0 c1 he;go_enter Tryz.func107,Tryz.ntmps107;go_wp2;go_loopw [8] (λc wr=>∃ k:Nat,k<=L.length/\c=.int .i64 k/\Hid (∀ j,j<k->Plain.gf g (L.getD j ⟨[],[]⟩)=true)/\ai [] w wr) (λc _=>L.length - (intOf c).toNat);case atStart=>exact⟨0,Nat.zero_le _,rfl,lh (by omega),ai.refl _ _⟩
 case round =>
  obtain⟨k,hk,rfl,HN,hc⟩:=hrel;have HC:=lh hc;by_cases aW:k<L.length
  ·obtain⟨ao',c',e0,hL⟩:=HL.out
   simp only[QG.injEq] at e0;obtain⟨rfl,-,rfl⟩:=e0;obtain⟨b,v1,n1,d1,v2,n2,d2,rfl,k1,k2,DE⟩:=hL k aW;have e1:=hc.bO k1;have e2:=hc.bO k2;have FN:=lh (DE.fresh hc);have LQ:=lh (ZY.out (L.getD k ⟨[],[]⟩) (by grind));have nj:=lh (show Plain.gf g (L.getD k ⟨[],[]⟩)=false->L.any (λB=>!Plain.gf g B)=true from λh=>Qn.2 ⟨L.getD k ⟨[],[]⟩,by grind,by rw[h];rfl⟩);have oL:=lh (show Plain.gf g (L.getD k ⟨[],[]⟩)=true->∀ j,j<k+1->Plain.gf g (L.getD j ⟨[],[]⟩)=true from λh j hj=>by
    by_cases e:j=k
    ·rw[e];exact h
    exact HN.out j (by omega))
   generalize L.getD k ⟨[],[]⟩=q at FN LQ nj oL;clear hL k1 k2 DE hc;go_wp2_with fail;refine (NT bx vg eo cap _ g q _ LQ.out HE.out (HG.out.fresh HC.out) (HC.out.bO C0.out) (HC.out.bO C1.out) FN.out).mono ?_;rintro e w2 ⟨rfl,bI⟩;have bU:=lh (HC.out.tr bI);clear bI e1 e2;generalize hb:Plain.gf g q=b at *;cases b with
   | false =>
    have HI:=lh (nj.out rfl);clear hb;go_wp2;go_ret;exact⟨(k:Int),rfl,by rw[HI.out];simp,bU.out⟩
   | true =>
    have HI:=lh (oL.out rfl);clear hb;go_wp2;go_roundw;case rel=>exact⟨k+1,by omega,by go_num,HI,bU.out⟩
    case measure=>simp[intOf];omega
  have e:k=L.length:=by omega
  subst e;have HI:=lh (show L.any (λB=>!Plain.gf g B)=false from by
   rw[Qy];intro B hB;obtain⟨i,hi,rfl⟩:=List.getElem_of_mem hB;have:=HN.out i hi
   grind)
  clear hc;go_wp2;go_ret;exact⟨-1,rfl,by rw[HI.out];rfl,HC.out⟩
theorem Kf (bx:Nat) (vg:Value) (eo:Option Addr) (cap:Nat) (ov:Value) (g:Plain.Gr) (L:List Plain.Pt) (w:World) (Eb:L.length<1000000000) (mE:∀ p∈L,p.v.length<=100000) (he:vg=.agg #[.int .i64 g.n,.slice eo g.e.length cap]) (hg:cA w vg g) (c0:w.cell? ⟨bx,0,none⟩=some (.int .i64 g.n)) (c1:w.cell? ⟨bx,1,none⟩=some (.slice eo g.e.length cap)) (hL:xO w ov L) :
  Calls Tryz.prog 50 #[ov,.func (Fn.func 51) #[] #[.pointer (some ⟨bx,0,none⟩)]] w λe w'=>e=.returned (.bool (L.any (λB=>!Plain.gf g B)))/\ai [] w w':=by
 have HI:=lh (JM bx vg eo cap ov g L w Eb mE he hg c0 c1 hL);clear Eb mE he hg c0 c1 hL;go_enter Tryz.func50,Tryz.ntmps50;go_wp2_with fail;refine HI.out.mono ?_;rintro e w2 ⟨z,rfl,hz,bI⟩;have bU:=lh bI;have HZ:=lh hz;clear bI hz;go_wp2;go_ret;exact⟨aM (by rw[<-HZ.out]),bU.out⟩
theorem lA (vg vp:Value) (g:Plain.Gr) (p:Plain.Pt) (w:World) (mE:p.v.length<=100000) (iM:p.e.length<=100000) (hg:cA w vg g) (hp:dt w vp p) :
  Calls Tryz.prog 14 #[vg,vp] w λe w'=>e=.returned (.bool (Plain.jO g p))/\ai [] w w':=by
 obtain⟨eo,cap,ao,ac,bo,bc,rfl,rfl,HG,HP,hm,uJ,oJ,pU,nG,xL,uD,aY,bm⟩:=eF hg hp;clear hg hp;obtain⟨x0,x1,y0,y1,bs⟩:=bm.out _ (ai.refl _ _);go_enter Tryz.func14,Tryz.ntmps14;go_wp2_with fail;obtain⟨w1,gu⟩:∃ w1,((w.alloc (.cells #[.int .i64 g.n,.slice eo g.e.length cap] 24)).alloc (.cells #[.slice ao p.v.length ac,.slice bo p.e.length bc] 27))=w1:=⟨_,rfl⟩;rw[gu] at aY bm ⊢;clear gu x0 x1 y0 y1 bs;refine (Nq _ _ g p _ mE (HG.out.fresh aY.out) (HP.out.fresh aY.out)).mono ?_;rintro e w2 ⟨ov,rfl,gV,sx,bI⟩;have bU:=lh (aY.out.tr bI);obtain⟨x0,x1,y0,y1,bs⟩:=bm.out _ bI;clear bI;by_cases h0:p.err g=0
 ·have HPA:=lh (sx h0)
  have xu:=lh (Plain.GZ h0);have LQ:=lh (show ∀ B∈Plain.gw g p,B.v.length<=100000 from λB hB=>by
   obtain⟨-,k2,-,k4⟩:=Plain.rW h0 hB;exact Nat.le_trans (Plain.xE k2 k4) mE)
  have uF:=lh (Plain.A4 h0);obtain⟨ao,c,rfl,-⟩:=sx h0;rw[h0];generalize Plain.gw g p=L at *;have Eb:L.length<1000000000:=by have:=xu.out;omega
  clear gV sx h0 y0 y1;go_wp2_with fail;refine (Kf _ _ eo cap _ g L _ Eb LQ.out rfl (HG.out.fresh bU.out) x0 x1 HPA.out).mono ?_;rintro e w3 ⟨rfl,dK⟩;have b8:=lh (bU.out.tr dK);clear dK x0 x1 bs;generalize (L.any λB=>!Plain.gf g B)=z at *;go_wp2;go_ret;exact⟨aM (by rw[uF.out]),b8.out⟩
 obtain rfl:=gV h0;have HI:=lh (show Plain.jO g p=false from by
  rw[Bool.eq_false_iff];exact λq=>h0 (Plain.gy.1 q).1)
 generalize p.err g=er at *;have hb:(er != 0)=true:=by simpa using h0
 have gY:¬ er=0:=h0;clear gV sx h0;go_wp2;go_ret;exact⟨aM HI.out.symm,bU.out⟩
end Go.Proofs.YtoiflofhcmjpoaaGreat
namespace Go.Proofs.YtoiflofhcmjpoaaGreat.Plain
variable {l m:List Int} {g:Gr} {p:Pt} {u w r:Int}
def zT (q:Int->Int):Int->List Int->Int->Bool
 | x,[],z=>decide (q x=z)
 | x,y :: l,z=>decide (q x=y)&&zT q y l z
def Y7 (q:Int->Int):List Int->Bool
 | []=>false
 | x :: l=>zT q x l x
theorem C5 {q:Int->Int} {z:Int}:∀ {l:List Int} {x:Int},zT q x l z=true->Trail q x l z
 | [],x,h=>by
  unfold zT at h;have h2:q x=z:=of_decide_eq_true h;exact h2
 | y :: l,x,h=>by
  unfold zT at h;rw[QA,decide_eq_true_iff] at h;exact⟨h.1,C5 h.2⟩
theorem TU {q:Int->Int} (h:Y7 q l=true):Ring q l:=by
 cases l with
 | nil=>cases h
 | cons x l=>exact C5 h
def Li (g:Gr) (p:Pt) (u w:Int):Bool:=p.e.any λe=>decide (g.at e=(u,w)) || decide (g.at e=(w,u))
theorem x7 (h:Li g p u w=true):om g p u w:=by
 obtain⟨e,he,h2⟩:=Qn.1 h;rw[QD,decide_eq_true_iff,decide_eq_true_iff] at h2;exact⟨e,he,h2⟩
def ZX (g:Gr) (p:Pt) (r:Int) (aa F:List (List Int)):Bool :=
 decide (p.err g=0)&&decide ((aa.length:Int)=g.n)&&((List.range aa.length).all λi=>decide ((aa.getD i []).Nodup)&&decide ((aa.getD i []).length=(aE g p i).length)&&(aa.getD i []).all λd=>decide (d∈aE g p i)) &&
  F.all (Y7 (aA g aa))&&decide F.flatten.Nodup&&decide (F.flatten.length=p.ah.length)&&(F.flatten.all λd=>decide (d∈p.ah))&&decide (p.v.length+F.length=2+p.e.length) &&
  (p.v.all λv=>p.ah.any λd=>decide (g.tail d=v))&&decide (r∈p.v)&&(p.v.all λv=>decide (v=r) || Li g p r v || p.v.any λu=>Li g p r u&&Li g p u v)
theorem wu (hl:l.Nodup) (hm:m.Nodup) (hs:∀ x∈l,x∈m) (hn:l.length=m.length):l.Perm m:=by
 refine (Qo hl hm).2 λx=>⟨hs x,λhx=>Qh λq=>?_⟩;have:=bY (l:=x :: l) (m:=m) (QB.2 ⟨q,hl⟩) λy hy=>by
  all_goals grind
 grind
theorem VD {aa F:List (List Int)} (h:ZX g p r aa F=true):ia g p aa:=by
 unfold ZX at h;simp only[QA,decide_eq_true_iff,List.all_eq_true,Qn,QD,List.mem_range] at h;obtain⟨⟨⟨⟨⟨⟨⟨⟨⟨⟨h1,h2⟩,h3⟩,h4⟩,h5⟩,h6⟩,h7⟩,h8⟩,h9⟩,h10⟩,h11⟩:=h;have hp:=Pt.ax h1;have too:∀ v∈p.v,bS g p (-1) r v:=λv hv=>by
  have h0:=(hp.vr v hv).1;rcases h11 v hv with (q | q) | ⟨u,hu,q1,q2⟩
  ·rw[q];exact .here
  ·exact .step .here (x7 q) (by omega)
  exact .step (.step .here (x7 q1) (by have:=(hp.vr u hu).1;omega)) (x7 q2) (by omega)
 have aT:∀ v,(ay aa v).Nodup:=λv=>by
  all_goals grind [ay]
 refine Bn.Cp ⟨h1,⟨h2,aT,λv v0 v1 d=>?_⟩,h9,λu hu v hv=>((too u hu).symm (by have:=(hp.vr r h10).1;omega)).2.trans (too v hv),F,⟨λf hf=>TU (h4 f hf),h5⟩,wu h5 (cV hp.en) h7 h6,h8⟩;obtain⟨n,rfl⟩:∃ n:Nat,v=n:=⟨v.toNat,by omega⟩;obtain⟨⟨k1,k2⟩,k3⟩:=h3 n (by omega);have:=wu k1 (dZ hp.en n) k3 k2;rw[<-aX];exact this.mem_iff
def gM:Gr:=⟨6,[(0,5),(0,1),(0,2),(0,3),(0,4),(1,2),(1,3),(1,4),(2,3),(2,4),(3,4)]⟩
def pM:Pt:=⟨[0,1,2,3,4,5],[0,1,2,3,4,5,6,7,8,9,10]⟩
def GH:Pt:=⟨[0,1,2,3,4],[1,2,3,4,5,6,7,8,9,10]⟩
def pM6:Pt:=⟨[0,1,2,3,4,5],[1,2,3,4,5,6,7,8,9,10]⟩
theorem agQ:pM.err gM=0:=by decide
theorem Mf:GH.err gM=0:=by decide
theorem YC:pM6.err gM=0:=by decide
theorem aaB:cg gM GH:=JA (Pt.ax Mf) rfl (by decide) (show ∀ e∈GH.e,∀ v∈GH.v,off gM v 1=off gM v e\/∃ x∈GH.e,(gM.at x=(off gM v 1,off gM v e)\/gM.at x=(off gM v e,off gM v 1)) by decide) (by decide)
theorem KF {aa:List (List Int)}:¬ ia gM GH aa:=by
 intro h;obtain⟨F,hR,hA,hF⟩:=(h.WZ (by decide)).yU;have fR:=Pt.ax Mf;have hlen:F.flatten.length=20:=hA.length_eq.trans (by decide);have hv:GH.v.length=5:=rfl;have he:GH.e.length=10:=rfl;have h3:∀ f∈F,3<=f.length:=λf hf=>by
  have hr:=hR.ring f hf;have hm:∀ d∈f,d∈GH.ah:=λd hd=>hA.mem_iff.1 (Qe.2 ⟨f,hf,hd⟩)
  match f,hr,hm with
  | [d],hr,hm =>
   have hd:=hm d (by simp);have h1:=(sw fR h.iX hd).1;have hr':aA gM aa d=d:=hr;rw[hr'] at h1;exact absurd h1 ((show ∀ d∈GH.ah,gM.tail d≠gM.head d by decide) d hd)
  | [d,e],hr,hm =>
   have hd:=hm d (by simp);have he:=hm e (by simp);obtain⟨r1,r2⟩:aA gM aa d=e/\aA gM aa e=d:=hr;have h1:=sw fR h.iX hd;have h2:=(sw fR h.iX he).1;rw[r1] at h1;rw[r2] at h2;have h4:=(show ∀ d∈GH.ah,∀ e∈GH.ah,gM.tail e=gM.head d->gM.tail d=gM.head e->e=aH d by decide) d hd e he h1.1 h2;have h5:ahead (ay aa (gM.head d)) (aH d)=aH d:=by
    grind [aA,gM,aH,before,az]
   have h7:=KM (h.iX.nodup _) h1.2 h5;have NW:=fR.vr _ (fR.aP hd).2;have h8:(ay aa (gM.head d)).Perm (aE gM GH (gM.head d)):=(Qo (h.iX.nodup _) (dZ fR.en _)).2 λx=>by
    rw[h.iX.mem _ NW.1 NW.2,aX]
   have h9:=(show ∀ d∈GH.ah,(aE gM GH (gM.head d)).length=4 by decide) d hd;have:=h8.length_eq;omega
  | _ :: _ :: _ :: l,_,_=>simp
 grind [Am]
theorem BV {q:Pt} (_hq:q.err gM=0) (h:∀ e∈GH.e,e∈q.e):¬ gN gM q:=λhP=>by
 have h1:=hP.sub Mf h;obtain⟨t,ht⟩:=(Dj Mf aaB).1 h1;exact KF ht
def aiC:Nat->List (List Int) × List (List Int)
 | 1=>([[4,6,8],[10,14,12],[5,18,11,16],[7,17,13,20],[9,21,15,19],[]],[[4,16,7],[5,8,19],[6,20,9],[10,18,15],[11,12,17],[13,14,21]])
 | 2=>([[2,6,8],[3,14,10,12],[11,18,16],[7,13,17,20],[9,21,19,15],[]],[[2,12,7],[3,8,15],[6,20,9],[10,16,13],[11,14,19],[17,18,21]])
 | 3=>([[2,4,8],[3,14,12,10],[5,11,16,18],[13,20,17],[9,19,21,15],[]],[[2,10,5],[3,8,15],[4,18,9],[11,12,17],[13,14,21],[16,20,19]])
 | 4=>([[2,4,6],[3,12,14,10],[5,11,18,16],[7,17,20,13],[15,21,19],[]],[[2,10,5],[3,6,13],[4,16,7],[11,14,19],[12,20,15],[17,18,21]])
 | 5=>([[2,6,4,8],[3,14,12],[5,16,18],[7,13,20,17],[9,19,21,15],[]],[[2,12,7],[3,8,15],[4,18,9],[5,6,17],[13,14,21],[16,20,19]])
 | 6=>([[2,4,6,8],[3,14,10],[5,11,18,16],[7,17,20],[9,21,19,15],[]],[[2,10,5],[3,8,15],[4,16,7],[6,20,9],[11,14,19],[17,18,21]])
 | 7=>([[2,4,8,6],[3,12,10],[5,11,16,18],[7,20,17,13],[9,19,21],[]],[[2,10,5],[3,6,13],[4,18,9],[7,8,21],[11,12,17],[16,20,19]])
 | 8=>([[2,4,8,6],[3,12,14,10],[5,11,18],[7,20,13],[9,19,15,21],[]],[[2,10,5],[3,6,13],[4,18,9],[7,8,21],[11,14,19],[12,20,15]])
 | 9=>([[2,4,6,8],[3,14,12,10],[5,11,16],[7,17,13,20],[9,21,15],[]],[[2,10,5],[3,8,15],[4,16,7],[6,20,9],[11,12,17],[13,14,21]])
 | 10=>([[2,6,4,8],[3,14,10,12],[5,16,11,18],[7,13,17],[9,19,15],[]],[[2,12,7],[3,8,15],[4,18,9],[5,6,17],[10,16,13],[11,14,19]])
 | _=>([],[])
theorem WY:∀ k:Nat,1<=k->k<=10->ZX gM (dR GH k) (if k=1 then 2 else if k=2 then 1 else 0) (aiC k).1 (aiC k).2=true:=by
 intro k h1 h2;rcases (show k=1\/k=2\/k=3\/k=4\/k=5\/k=6\/k=7\/k=8\/k=9\/k=10 by omega) with rfl | rfl | rfl | rfl | rfl | rfl | rfl | rfl | rfl | rfl <;> decide +kernel
theorem OZ {k:Nat} (h1:1<=k) (h2:k<=10):gN gM (dR pM6 k):=Oj (VD (WY k h1 h2)) (vm YC k) λ_e he=>he
