/- A uG is put into a sX: the turns that this makes. No program here. -/
import Derived.Test.YtbkjljffnkdcjaaGreatD9Find
open List renaming mem_map→Qa,mem_singleton→Qb,count_append→Qc,mem_cons→Qd,mem_append→Qe,mem_filter→Qf,exists_mem_of_ne_nil→Qg,count→Qi,count_pos_iff→Qm,nodup_cons→Qn,perm_append_comm→Qo,nodup_append→Qp,mem_append_left→Qq,drop_eq_getElem_cons→Qr,map_cons→Qs,eq_nil_or_concat→Qt,concat_eq_append→Qu,mem_cons_of_mem→Qv,flatMap_append→Qw,perm_iff_count→Qx,getD→Qy,perm_ext_iff_of_nodup→Qz,getLastD_eq_getLast?→QA,getElem?_append_left→QB,flatten_cons→QC,mem_flatMap→QD,take_append_drop→QE,contains_iff_mem→QF,nodup_iff_count→QG,ne_nil_of_mem→QH,filter_congr→QJ,Perm→QK,length_take→QL,cons_append→QM,any_eq_true→QN,flatMap_map→QO,flatMap_def→QP,perm_middle→QQ,range→QS
open Classical renaming byContradiction→Qh
open Or renaming inl→Qj,inr→Qk
open Bool renaming eq_false_iff→Ql,not_eq_true'→QI,or_eq_true→QR
open Iff renaming rfl→QT
namespace Go.Proofs.YtbkjljffnkdcjaaGreat.Plain
theorem cL.perm {g:Gr} {p:Pt} {aa F F':List (List Int)} (h:cL g p aa F) (hF:F.Perm F'):cL g p aa F' :=
 ⟨h.pe,h.js,h.rings.perm hF,hF.symm.flatten.trans h.all,fun f hf=>h.simple f (hF.mem_iff.2 hf),h.full,by have:=hF.length_eq;have:=h.pZ;omega,h.ou⟩
theorem cL.wA {g:Gr} {p:Pt} {aa R:List (List Int)} {A B:List Int} (h:cL g p aa ((A++B) :: R)):cL g p aa ((B++A) :: R):=by
 have hp:((B++A) :: R).flatten.Perm ((A++B) :: R).flatten:=by
  rw[QC,QC];exact Qo.append_right _
 have hr:Ring (ay g aa) (B++A):=by
  have h1:=h.rings.ring (A++B) (by simp)
  match A,B,h1 with
  | [],B,h1=>simpa using h1
  | x :: A,[],h1=>simpa using h1
  | x :: A,y :: B,h1=>exact h1.aa
 refine⟨h.pe,h.js,⟨fun c hc=>?_,hp.nodup_iff.2 h.rings.nodup⟩,hp.trans h.all,fun f hf=>?_,h.full,h.pZ,h.ou⟩
 ·rcases Qd.1 hc with rfl | hc
  ·exact hr
  exact h.rings.ring c (Qv _ hc)
 rcases Qd.1 hf with rfl | hf
 ·have:=h.simple (A++B) (by simp)
  rw[List.map_append] at this ⊢;exact Qo.nodup_iff.1 this
 exact h.simple f (Qv _ hf)
theorem vY {P:Int->Bool} {l:List Int} (h:∃ x∈l,P x=true):∃ x m,l.drop (l.findIdx P)=x :: m/\P x=true/\l=l.take (l.findIdx P)++x :: m/\∀ y∈l.take (l.findIdx P),P y=false:=by
 have aU:l.findIdx P<l.length:=List.findIdx_lt_length_of_exists h;refine⟨l[l.findIdx P],l.drop (l.findIdx P+1),Qr aU,List.findIdx_getElem,?_,fun y hy=>?_⟩
 ·rw[<-Qr aU,QE]
 obtain⟨i,hi,rfl⟩:=List.getElem_of_mem hy;rw[QL] at hi;rw[List.getElem_take];exact List.not_of_lt_findIdx (by omega)
def qY (g:Gr) (old w:List Int) (a z:Int):List Int × List Int :=
 let k:=old.findIdx fun d=>decide (g.tail d=a)
 let o:=old.drop k++old.take k
 let j:=o.findIdx fun d=>decide (g.tail d=z)
 (o.take j++twins w,w++o.drop j)
theorem pY {g:Gr} {old w:List Int} {a z:Int} (ha:∃ x∈old,g.tail x=a) (hz:∃ y∈old,g.tail y=z) (bh:a≠z) :
  ∃ x y A B U V,old=U++V/\V++U=x :: A++y :: B/\g.tail x=a/\g.tail y=z/\qY g old w a z=(x :: A++twins w,w++y :: B):=by
 obtain⟨x,m,h1,h2,h3,-⟩:=vY (P:=fun d=>decide (g.tail d=a)) (l:=old) (by obtain⟨x,hx,e⟩:=ha;exact⟨x,hx,decide_eq_true e⟩);have h2:g.tail x=a:=of_decide_eq_true h2;obtain⟨U,hU⟩:∃ U,old.take (old.findIdx fun d=>decide (g.tail d=a))=U:=⟨_,rfl⟩;have IM:∃ y∈(x :: m)++U,decide (g.tail y=z)=true:=by
  obtain⟨y,hy,e⟩:=hz;refine⟨y,?_,decide_eq_true e⟩;rw[h3,hU] at hy;exact Qo.mem_iff.1 hy
 obtain⟨y,B,k1,k2,k3,k4⟩:=vY (P:=fun d=>decide (g.tail d=z)) IM;have k2:g.tail y=z:=of_decide_eq_true k2;have hA:∃ A,((x :: m)++U).take (((x :: m)++U).findIdx fun d=>decide (g.tail d=z))=x :: A:=by
  cases hj:((x :: m)++U).findIdx fun d=>decide (g.tail d=z) with
  | zero =>
   rw[hj] at k1;simp only[List.drop_zero,QM,List.cons.injEq] at k1;exact absurd (h2.symm.trans ((congrArg g.tail k1.1).trans k2)) bh
  | succ j=>exact⟨_,by rw[QM,List.take_succ_cons]⟩
 obtain⟨A,hA⟩:=hA;refine⟨x,y,A,B,U,x :: m,?_,?_,h2,k2,?_⟩
 ·rw[<-hU];exact h3
 ·rw[hA] at k3;exact k3
 unfold qY;simp only;rw[h1,hU,hA,k1]
theorem OI {g:Gr} {l:List Int} (h:(l.map g.tail).Nodup) {d e:Int} (hd:d∈l) (he:e∈l) (nR:g.tail d=g.tail e):d=e:=dE h d hd e he nR
def fR (g:Gr) (p q:Pt) (aa:List (List Int)) (w:List Int) (a z x y:Int):List (List Int) :=
 (QS g.n.toNat).map fun v:Nat=>if (v:Int)=a then lu x (w.headD 0) (aI aa v) else if (v:Int)=z then lu y (aE (w.getLastD 0)) (aI aa v) else if (v:Int)∈p.v then aI aa v else a8 g q v
theorem kZ {g:Gr} {p q:Pt} {aa:List (List Int)} {w:List Int} {a z x y v:Int} (h0:0<=v) (hn:v<g.n) :
  aI (fR g p q aa w a z x y) v=if v=a then lu x (w.headD 0) (aI aa v) else if v=z then lu y (aE (w.getLastD 0)) (aI aa v) else if v∈p.v then aI aa v else a8 g q v:=by
 obtain⟨n,rfl⟩:∃ n:Nat,v=n:=⟨v.toNat,by omega⟩;have aU:n<g.n.toNat:=by omega
 show ((QS g.n.toNat).map _).getD n []=_;simp only[Qy,List.getElem?_map,List.getElem?_range aU,Option.map_some,Option.getD_some]
theorem tS {g:Gr} {p q:Pt} {aa F:List (List Int)} {w:List Int} {a z x y:Int} (h:cL g p aa F) (hw:pT g p w a z) (hq:Hi g p w q) (hx:x∈p.ag) (hxa:g.tail x=a) (hy:y∈p.ag) (qn:g.tail y=z) :
  aT g q (fR g p q aa w a z x y)/\Cz g p aa w x y (fR g p q aa w a z x y):=by
 have ig:=Pt.aF h.pe;have Hn:=Pt.aF hq.qe;obtain⟨c,l,rfl⟩:=hw.cons;have qt:g.tail c=a:=hw.link.1;have hhd:=dJ hw.link;have YJ:∀ u∈l.map g.tail,u ∉ p.v:=fun u hu=>by
  obtain⟨d,hd,rfl⟩:=Qa.1 hu;exact hw.E4 d hd
 have yV:(l.map g.tail).Nodup:=by have:=hw.vn;rw[Qs,Qn] at this;exact this.2
 have hhn:((c :: l).map g.head).Nodup:=by
  rw[hhd,Qp];exact⟨yV,by simp,fun u hu v hv e=>by
   rw[Qb.1 hv] at e;exact YJ u hu (by rw[e];exact hw.zv)⟩
 obtain⟨e,m,ry⟩:∃ e m,c :: l=m++[e]:=by
  rcases Qt (c :: l) with r | ⟨m,e,r⟩
  ·cases r
  exact⟨e,m,by rw[r,Qu]⟩
 have Fi:g.head e=z:=by have:=hw.link;rw[ry] at this;exact gx this
 have nz:(c :: l).getLastD 0=e:=by rw[ry,QA];simp
 have XI:e∈c :: l:=by rw[ry];simp
 have W1:∀ d∈c :: l,g.tail d=a->d=c:=fun d hd r=>OI hw.vn hd (by simp) (r.trans qt.symm);have W2:∀ d∈c :: l,g.tail d≠z:=fun d hd r=>by
  rcases Qd.1 hd with rfl | hd
  ·exact hw.ne (qt.symm.trans r)
  exact hw.E4 d hd (by rw[r];exact hw.zv)
 have hh:∀ d∈c :: l,g.head d∈l.map g.tail++[z]:=fun d hd=>by rw[<-hhd];exact Qa.2 ⟨d,hd,rfl⟩
 have W3:∀ d∈c :: l,g.head d≠a:=fun d hd r=>by
  have:=hh d hd;rw[r] at this;rcases Qe.1 this with k | k
  ·exact YJ a k hw.av
  exact hw.ne (Qb.1 k)
 have W4:∀ d∈c :: l,g.head d=z->d=e:=fun d hd r=>dE hhn d hd e XI (r.trans Fi.symm);have W5:∀ v∈p.v,v≠a->v≠z->∀ d∈c :: l,g.tail d≠v/\g.head d≠v:=fun v hv ha hz d hd=>by
  refine⟨fun r=>?_,fun r=>?_⟩
  ·rcases Qd.1 hd with rfl | hd
   ·exact ha (r.symm.trans qt)
   exact hw.E4 d hd (by rw[r];exact hv)
  have:=hh d hd;rw[r] at this;rcases Qe.1 this with k | k
  ·exact YJ v k hv
  exact hz (Qb.1 k)
 have htt:∀ d,g.tail d=g.head (aE d):=fun d=>by rw[<-aA,aS]
 have hta:=h.js.mem a (ig.vr a hw.av).1 (ig.vr a hw.av).2;have htz:=h.js.mem z (ig.vr z hw.zv).1 (ig.vr z hw.zv).2;have Xs:x∈aI aa a:=(hta x).2 ⟨hx,hxa⟩;have hyt:y∈aI aa z:=(htz y).2 ⟨hy,qn⟩;have oY:c ∉ aI aa a:=fun r=>(hw.rj (show c∈c :: l by simp)).1 ((hta c).1 r).1;have kQ:aE e ∉ aI aa z:=fun r=>(hw.rj XI).2 ((htz _).1 r).1;have hT:∀ v,0<=v->v<g.n->((aI (fR g p q aa (c :: l) a z x y) v).Nodup/\∀ d,d∈aI (fR g p q aa (c :: l) a z x y) v↔d∈q.ag/\g.tail d=v):=fun v h0 hn=>by
  rw[kZ h0 hn];by_cases e1:v=a
  ·rw[if_pos e1,e1]
   have qM:=qp (y:=c) Xs;refine⟨qM.nodup_iff.2 (Qn.2 ⟨oY,h.js.nodup a⟩),fun d=>?_⟩;show d∈lu x c (aI aa a)↔_;rw[qM.mem_iff,Qd,hta,hq.ag];constructor
   ·rintro (rfl | ⟨r1,r2⟩)
    ·exact⟨Or.inr (Qj (by simp)),qt⟩
    exact⟨Or.inl r1,r2⟩
   rintro ⟨r | r | r,r2⟩
   ·exact Qk ⟨r,r2⟩
   ·exact Qj (W1 d r r2)
   exact absurd ((htt d).symm.trans r2) (W3 _ r)
  rw[if_neg e1];by_cases e2:v=z
  ·rw[if_pos e2,e2,nz]
   have qM:=qp (y:=aE e) hyt;refine⟨qM.nodup_iff.2 (Qn.2 ⟨kQ,h.js.nodup z⟩),fun d=>?_⟩;rw[qM.mem_iff,Qd,htz,hq.ag];constructor
   ·rintro (rfl | ⟨r1,r2⟩)
    ·exact⟨Or.inr (Qk (by rw[aS];exact XI)),by rw[aA];exact Fi⟩
    exact⟨Or.inl r1,r2⟩
   rintro ⟨r | r | r,r2⟩
   ·exact Qk ⟨r,r2⟩
   ·exact absurd r2 (W2 d r)
   exact Qj (by rw[<-W4 _ r ((htt d).symm.trans r2),aS])
  rw[if_neg e2];by_cases e3:v∈p.v
  ·rw[if_pos e3]
   refine⟨h.js.nodup v,fun d=>?_⟩;rw[h.js.mem v h0 hn,hq.ag];constructor
   ·rintro ⟨r1,r2⟩;exact⟨Or.inl r1,r2⟩
   rintro ⟨r | r | r,r2⟩
   ·exact⟨r,r2⟩
   ·exact absurd r2 (W5 v e3 e1 e2 d r).1
   exact absurd ((htt d).symm.trans r2) (W5 v e3 e1 e2 _ r).2
  rw[if_neg e3];exact⟨jr Hn.en v,fun d=>bk⟩
 have hlen:(fR g p q aa (c :: l) a z x y).length=g.n.toNat:=by simp[fR]
 have hn0:=(Gr.aP (Pt.aP h.pe).1).1;refine⟨⟨by rw[hlen];omega,fun v=>?_,fun v h0 hn=>(hT v h0 hn).2⟩,?_⟩
 ·by_cases hv:v.toNat<g.n.toNat
  ·exact (hT (v.toNat:Int) (by omega) (by omega)).1
  have:aI (fR g p q aa (c :: l) a z x y) v=[]:=by
   unfold aI;rw[Qy,List.getElem?_eq_none (by omega)];rfl
  rw[this];simp
 have hva:=ig.vr a hw.av;have hvz:=ig.vr z hw.zv;refine⟨fun d l' hd=>?_,fun d l' hd=>?_,fun u hu=>?_⟩
 ·obtain⟨rfl,-⟩:=List.cons.inj hd
  unfold before;rw[qt,kZ hva.1 hva.2,if_pos rfl];exact pP (h.js.nodup a) Xs oY
 ·obtain rfl:d=e:=by
   rw[ry] at hd;exact (List.append_inj' hd rfl).2 |> fun k=>by simpa using k.symm
  unfold before;rw[aA,Fi,kZ hvz.1 hvz.2,if_neg (fun k=>hw.ne k.symm),if_pos rfl,nz];exact pP (h.js.nodup z) hyt kQ
 have gI:=(ig.aQ hu).1;have VZ:=ig.vr _ gI;have ZI:u∈aI aa (g.tail u):=(h.js.mem _ VZ.1 VZ.2 u).2 ⟨hu,rfl⟩;have BV:g.tail (before g aa u)=g.tail u:=((h.js.mem _ VZ.1 VZ.2 _).1 (po (h.js.nodup _) ZI)).2;have aeN:before g (fR g p q aa (c :: l) a z x y) u=ahead (if g.tail u=a then lu x c (aI aa (g.tail u)) else if g.tail u=z then lu y (aE e) (aI aa (g.tail u)) else aI aa (g.tail u)) u:=by
  unfold before;rw[kZ VZ.1 VZ.2,if_pos gI,nz];rfl
 rw[aeN,nz];show _=if before g aa u=x then c else if before g aa u=y then aE e else before g aa u
 by_cases e1:g.tail u=a
 ·rw[if_pos e1]
  have hby:before g aa u≠y:=fun r=>hw.ne (by rw[<-e1,<-BV,r];exact qn);rw[if_neg hby];rw[e1] at ZI ⊢;rw[pM (h.js.nodup a) Xs oY ZI];unfold before;rw[e1]
 rw[if_neg e1];have dL:before g aa u≠x:=fun r=>e1 (by rw[<-BV,r];exact hxa);rw[if_neg dL];by_cases e2:g.tail u=z
 ·rw[if_pos e2]
  rw[e2] at ZI ⊢;rw[pM (h.js.nodup z) hyt kQ ZI];unfold before;rw[e2]
 rw[if_neg e2];have hby:before g aa u≠y:=fun r=>e2 (by rw[<-BV,r];exact qn);rw[if_neg hby];rfl
structure bj where
 ah:List Int
 ends:List Int
 aj:List Int
structure Sk where
 on:Int->Bool
 aj:List (List Int)
 rest:List bj
def dt (g:Gr) (f:List Int) (v:Int):Bool:=f.any fun d=>decide (g.tail d=v)
def bg (F:List (List Int)) (i:Int):List Int:=F.getD i.toNat []
def ic (g:Gr) (F:List (List Int)) (V ks:List Int):List Int:=ks.filter fun i=>V.all fun v=>dt g (bg F i) v
def br (g:Gr) (on:Int->Bool) (E:List Int):List Int:=tidy (E.flatMap fun e=>[(g.at e).1,(g.at e).2].filter on)
def aY (E l:List Int):List Int:=E.filter fun e=>!(l.contains (2*e))&&!(l.contains (2*e+1))
def cr (g:Gr) (on:Int->Bool) (F:List (List Int)) (E ks:List Int):List bj:=(gG g on E).1.groups.map fun l=>⟨l,br g on l,ic g F (br g on l) ks⟩
def eF (g:Gr) (on:Int->Bool) (w:List Int):Int->Bool:=fun v=>on v || w.any fun d=>decide (g.tail d=v)
def eW (g:Gr) (F:List (List Int)) (f k:Int) (r:bj):bj:=if f∈r.aj then ⟨r.ah,r.ends,r.aj.erase f++ic g F r.ends [f,k]⟩ else r
def Sk.put (g:Gr) (V:List Int) (s:Sk) (i:Nat):Sk :=
 let c:=s.rest.getD i ⟨[],[],[]⟩
 let a:=c.ends.getD 0 0
 let w:=l5 g s.on ⟨V,c.ah⟩ a
 let f:=c.aj.getD 0 0
 let k:Int:=s.aj.length
 let FF:=qY g (bg s.aj f) w a (g.head (w.getLastD 0))
 let F:=s.aj.set f.toNat FF.1++[FF.2]
 ⟨eF g s.on w,F,(s.rest.eraseIdx i).map (eW g F f k)++cr g (eF g s.on w) F (aY c.ah w) [f,k]⟩
theorem cX {g:Gr} {f:List Int} {v:Int}:dt g f v=true↔∃ d∈f,g.tail d=v:=by
 unfold dt;rw[QN];exact⟨fun ⟨d,h1,h2⟩=>⟨d,h1,of_decide_eq_true h2⟩,fun ⟨d,h1,h2⟩=>⟨d,h1,decide_eq_true h2⟩⟩
theorem bs {g:Gr} {on:Int->Bool} {E:List Int} {v:Int}:v∈br g on E↔on v=true/\∃ e∈E,cI g e v:=by
 unfold br;rw[(mw _).2,QD];constructor
 ·rintro ⟨e,he,h⟩
  obtain⟨h1,h2⟩:=Qf.1 h;refine⟨h2,e,he,?_⟩;rcases Qd.1 h1 with r | r
  ·exact Qj r.symm
  exact Qk (Qb.1 r).symm
 rintro ⟨h1,e,he,r⟩;refine⟨e,he,Qf.2 ⟨?_,h1⟩⟩;rcases r with r | r <;> simp[r]
theorem gd (g:Gr) (on:Int->Bool) (E:List Int):(br g on E).Nodup:=(mw _).1.imp fun h e=>by omega
theorem sa {g:Gr} {F:List (List Int)} {V ks:List Int} {i:Int}:i∈ic g F V ks↔i∈ks/\∀ v∈V,dt g (bg F i) v=true:=by
 unfold ic;rw[Qf,List.all_eq_true]
theorem cE {E l:List Int} {e:Int}:e∈aY E l↔e∈E/\∀ d∈l,d / 2≠e:=by
 unfold aY;rw[Qf];refine and_congr QT ?_;rw[Bool.and_eq_true,QI,QI,Ql,Ql,Ne,Ne,QF,QF];constructor
 ·rintro ⟨h1,h2⟩ d hd r
  rcases (show d=2*e\/d=2*e+1 by omega) with rfl | rfl
  ·exact h1 hd
  exact h2 hd
 intro h;exact⟨fun r=>h _ r (by omega),fun r=>h _ r (by omega)⟩
theorem Cy {g:Gr} {on:Int->Bool} {w:List Int} {v:Int}:eF g on w v=true↔on v=true\/v∈w.map g.tail:=by
 unfold eF;rw[QR,QN,Qa];exact or_congr QT ⟨fun ⟨d,h1,h2⟩=>⟨d,h1,of_decide_eq_true h2⟩,fun ⟨d,h1,h2⟩=>⟨d,h1,decide_eq_true h2⟩⟩
structure wj (g:Gr) (b:Pt) (on:Int->Bool) (F:List (List Int)) (c:bj):Prop where
 qa:I3 g on c.ah
 shut:∀ e∈c.ah,∀ f∈b.e,Lk g on e f->f∈c.ah
 sub:∀ e∈c.ah,e∈b.e
 ends:c.ends=br g on c.ah
 two:2<=c.ends.length
 fnd:c.aj.Nodup
 Ns:∀ i,i∈c.aj↔0<=i/\i.toNat<F.length/\∀ v∈c.ends,dt g (bg F i) v=true
structure rD (g:Gr) (b:Pt) (s:Sk) (p:Pt) (aa:List (List Int)):Prop where
 aj:cL g p aa s.aj
 on:∀ v,s.on v=true↔v∈p.v
 sub:∀ v∈p.v,v∈b.v
 drawn:p.e≠[]
 part:(p.e++s.rest.flatMap (·.ah)).Perm b.e
 lV:∀ c∈s.rest,wj g b s.on s.aj c
theorem oV {g:Gr} {b:Pt} (h:cg g b):∀ e∈b.e,∀ f∈b.e,∀ v∈b.v,¬ JE g b v e f:=by
 obtain⟨⟨e0,l,he,hs⟩,-⟩:=h;have h0:e0∈b.e:=by rw[he];simp
 intro e sC f GQ v hv jE;have h1:=hs e sC v hv;have h2:=hs f GQ v hv;obtain⟨bh,jE⟩:=jE;have hl:∀ x∈b.e,e0≠x->¬ ((g.at x).1=v/\(g.at x).2=v):=fun x hx hn q=>hs x hx v hv ⟨hn,Qk (Qj q)⟩;have FD:∀ x∈b.e,e0≠x->¬ ((g.at e0).1=v/\(g.at e0).2=v):=fun x hx hn q=>hs x hx v hv ⟨hn,Qj q⟩;have hc:∀ x∈b.e,e0≠x->bP g b v (off g v e0) (off g v x):=fun x hx hn=>Qh fun q=>hs x hx v hv ⟨hn,Qk (Qk q)⟩;by_cases q1:e0=e
 ·subst q1
  exact h2 ⟨bh,jE⟩
 by_cases q2:e0=f
 ·subst q2
  rcases jE with r | r | r
  ·exact hl e sC q1 r
  ·exact FD e sC q1 r
  exact r (((hc e sC q1).symm (mA (FD e sC q1))).2)
 rcases jE with r | r | r
 ·exact hl e sC q1 r
 ·exact hl f GQ q2 r
 exact r ((((hc e sC q1).symm (mA (FD e sC q1))).2).trans (hc f GQ q2))
theorem mQ {g:Gr} {v e:Int}:cI g e (off g v e):=by
 unfold off cI;split
 ·exact Qk rfl
 exact Qj rfl
theorem D4 {g:Gr} {p:Pt} {u w:Int} (h:qF g p u w):∃ e∈p.e,cI g e u/\cI g e w:=by
 obtain⟨e,he,h | h⟩:=h
 ·exact⟨e,he,Qj (by rw[h]),Qk (by rw[h])⟩
 exact⟨e,he,Qk (by rw[h]),Qj (by rw[h])⟩
theorem AX {g:Gr} {b p:Pt} {on:Int->Bool} {E:List Int} (hS:cg g b) (ig:aH g p) (gJ:p.e≠[]) (jW:∀ v,on v=true↔v∈p.v) (gB:∀ v∈p.v,v∈b.v) (XU:∀ e∈p.e,e∈b.e) (hE:E≠[]) (hEs:∀ e∈E,e∈b.e) (hEp:∀ e∈E,e ∉ p.e)
  (tR:∀ e∈E,∀ f∈b.e,Lk g on e f->f∈E):2<=(br g on E).length:=by
 obtain⟨e1,uF⟩:=Qg _ gJ;obtain⟨e2,JU⟩:=Qg _ hE;refine Qh fun aU=>?_
 -- one iD alone may be an end
 obtain⟨v,hv,lQ⟩:∃ v∈p.v,∀ u∈br g on E,u=v:=by
  match hL:br g on E with
  | []=>exact⟨_,(ig.ends e1 uF).1,by simp⟩
  | [x] =>
   have:x∈br g on E:=by rw[hL];simp
   exact⟨x,(jW x).1 (bs.1 this).1,fun u hu=>Qb.1 hu⟩
  | _ :: _ :: _=>rw[hL] at aU;simp at aU
 have bh:e2≠e1:=fun r=>hEp e2 JU (r ▸ uF);have jE:=oV hS e2 (hEs e2 JU) e1 (XU e1 uF) v (gB v hv);have zH:¬ ((g.at e2).1=v/\(g.at e2).2=v):=fun r=>jE ⟨bh,Qj r⟩;have EU:¬ ((g.at e1).1=v/\(g.at e1).2=v):=fun r=>jE ⟨bh,Qk (Qj r)⟩;have hc:bP g b v (off g v e2) (off g v e1):=Qh fun r=>jE ⟨bh,Qk (Qk r)⟩;have jR:∀ u,bP g b v (off g v e2) u->on u=false/\∃ e∈E,cI g e u:=fun u hu=>by
  have key:∀ u e,e∈E->cI g e u->u≠v->on u=false:=fun u e he hu hn=>Ql.2 fun r=>hn (lQ u (bs.2 ⟨r,e,he,hu⟩))
  induction hu with
  | here=>exact⟨key _ e2 JU mQ (mA zH),e2,JU,mQ⟩
  | step _ hn hs ih =>
   obtain⟨i1,e,he,i2⟩:=ih;obtain⟨f,hf,f1,f2⟩:=D4 hn;have Vg:=tR e he f hf ⟨_,i1,i2,f1⟩;exact⟨key _ f Vg f2 hs,f,Vg,f2⟩
 have h1:=(jR _ hc).1;have h2:on (off g v e1)=true:=by
  rw[jW];have:=ig.ends e1 uF;unfold off;split
  ·exact this.2
  exact this.1
 rw[h2] at h1;cases h1
theorem qH {g:Gr} {z:Int}:∀ {w:List Int} {a:Int},eR g a w z->(w.map g.head).Nodup->a ∉ w.map g.head->(w.map (· / 2)).Nodup
 | [],_,_,_,_=>by simp
 | d :: w,a,h,hn,ha=>by
  rw[Qs,Qn] at hn;rw[Qs,Qd] at ha;rw[Qs,Qn];refine⟨fun q=>?_,qH h.2 hn.2 hn.1⟩;obtain⟨x,hx,e⟩:=Qa.1 q;rcases kJ e with r | r
  ·exact hn.1 (Qa.2 ⟨x,hx,by rw[r]⟩)
  refine ha (Qk (Qa.2 ⟨x,hx,?_⟩));rw[r,<-h.1,<-aA,aS]
theorem PX.uG {g:Gr} {p b:Pt} {on:Int->Bool} {E w:List Int} {a z:Int} (h:PX g on ⟨b.v,E⟩ w a z) (jW:∀ v,on v=true↔v∈p.v) (ha:on a=true) (hE:∀ e∈E,e ∉ p.e):pT g p w a z:=by
 have bh:∃ c l,w=c :: l:=by
  cases w with
  | nil=>exact absurd h.link h.ne
  | cons c l=>exact⟨c,l,rfl⟩
 obtain⟨c,l,rfl⟩:=bh;have qt:=h.link.1;have hht:=dJ h.link;have hn:=h.cY;have hna:=h.na;rw[hht] at hn hna;refine⟨h.link,h.ne,(jW a).1 ha,(jW z).1 h.oz,fun d hd r=>?_,?_,qH h.link h.cY h.na,fun d hd=>hE _ (aw.1 (h.sub d hd))⟩
 ·have:=h.inn d hd
  rw[(jW _).2 r] at this;cases this
 rw[Qs,Qn,qt];exact⟨fun r=>hna (Qq _ r),(Qp.1 hn).1⟩
theorem kH {α:Type} {l:List α} {i:Nat} (hi:i<l.length) (d:α):l=l.take i++l.getD i d :: l.drop (i+1)/\l.eraseIdx i=l.take i++l.drop (i+1):=by
 refine⟨?_,List.eraseIdx_eq_take_drop_succ _ _⟩;have e:l.getD i d=l[i]:=by simp[Qy,hi]
 rw[e,<-Qr hi,QE]
theorem Uq {g:Gr} {p:Pt} {w old A B U V:List Int} {a z x y:Int} (hw:pT g p w a z) (hold:old=U++V) (hcut:V++U=x :: A++y :: B) (hx:g.tail x=a) (hy:g.tail y=z) {v:Int} (hv:v∈p.v) :
  (dt g (x :: A++twins w) v=true->dt g old v=true)/\(dt g (w++y :: B) v=true->dt g old v=true):=by
 have cV:∀ d,d∈old↔d∈x :: A++y :: B:=fun d=>by rw[<-hcut,hold];simp[or_comm]
 have hz:dt g old z=true:=cX.2 ⟨y,(cV y).2 (by simp),hy⟩;have ha:dt g old (g.tail x)=true:=cX.2 ⟨x,(cV x).2 (by simp),rfl⟩;obtain⟨c,l,rfl⟩:=hw.cons;have hht:=dJ hw.link;refine⟨fun h=>?_,fun h=>?_⟩
 ·obtain⟨d,hd,e⟩:=cX.1 h
  rcases Qe.1 hd with r | r
  ·exact cX.2 ⟨d,(cV d).2 (Qq _ r),e⟩
  rw[eO] at r;have h1:g.head (aE d)∈(c :: l).map g.head:=Qa.2 ⟨_,r,rfl⟩;have h2:g.head (aE d)=v:=by rw[<-aA,aS];exact e
  rw[hht,h2] at h1;rcases Qe.1 h1 with k | k
  ·obtain⟨d',Cf,e'⟩:=Qa.1 k
   exact absurd hv (by rw[<-e'];exact hw.E4 d' Cf)
  rw[Qb.1 k];exact hz
 obtain⟨d,hd,e⟩:=cX.1 h;rcases Qe.1 hd with r | r
 ·rcases Qd.1 r with r | r
  .-- the way's first MB leaves a
   have h1:g.tail d=a:=by rw[r];exact hw.link.1
   have:v=a:=e.symm.trans h1;rw[this,<-hx];exact ha
  exact absurd hv (by rw[<-e];exact hw.E4 d r)
 exact cX.2 ⟨d,(cV d).2 (List.mem_append_right _ r),e⟩
theorem Fa {F:List (List Int)} {f:Int} (h0:0<=f) (hf:f.toNat<F.length) (m1 m2:List Int) :
  (∀ i,0<=i->i.toNat<F.length->i≠f->bg (F.set f.toNat m1++[m2]) i=bg F i)/\bg (F.set f.toNat m1++[m2]) f=m1/\bg (F.set f.toNat m1++[m2]) (F.length:Int)=m2/\(F.set f.toNat m1++[m2]).length=F.length+1:=by
 refine⟨fun i hi0 hi bh=>?_,?_,?_,by simp⟩
 ·unfold bg Qy
  rw[QB (by simpa using hi),List.getElem?_set_ne (by omega)]
 ·unfold bg Qy
  rw[QB (by simpa using hf),List.getElem?_set_self hf];rfl
 unfold bg Qy;rw[List.getElem?_append_right (by simp)];simp
theorem lr (g:Gr) (F:List (List Int)) (f k:Int) (r:bj):(eW g F f k r).ah=r.ah/\(eW g F f k r).ends=r.ends:=by
 unfold eW;split <;> exact⟨rfl,rfl⟩
theorem Bv (g:Gr) (F:List (List Int)) (f k:Int) (L:List bj):(L.map (eW g F f k)).flatMap (·.ah)=L.flatMap (·.ah):=by
 rw[QO]
 congr 1
 funext r
 exact (lr g F f k r).1
theorem mN {g:Gr} {on:Int->Bool} {F:List (List Int)} {E ks:List Int} (hE:E.Nodup):((cr g on F E ks).flatMap (·.ah)).Perm E:=by
 have h:=gu g on E;have h1:=E8 h.ok;rw[h.all,jt hE] at h1;unfold cr;rw[QO];have:((gG g on E).1.groups.flatMap fun l=>l)=(gG g on E).1.groups.flatten:=by rw[List.flatMap_id']
 exact (QK.of_eq this).trans h1
theorem MA {g:Gr} {b p':Pt} {on on':Int->Bool} {c:bj} {w:List Int} {F F':List (List Int)} {f k:Int} (hS:cg g b) (hc:wj g b on F c) (ig:aH g p') (gJ:p'.e≠[]) (jW:∀ v,on' v=true↔v∈p'.v) (iS:∀ v,on' v=false->on v=false) (gB:∀ v∈p'.v,v∈b.v) (XU:∀ e∈p'.e,e∈b.e)
  (hw:∀ d∈w,d / 2∈c.ah/\on' (g.tail d)=true/\on' (g.head d)=true) (LZ:w≠[]) (oY:c.ah.Nodup) (hEp:∀ e∈aY c.ah w,e ∉ p'.e) (sW:0<=f/\f<k) (hkF:k.toNat+1=F'.length)
  (hF:∀ i,0<=i->i<k->i≠f->∀ u,dt g (bg F' i) u=true->on u=true) {c':bj} (hm:c'∈cr g on' F' (aY c.ah w) [f,k]):wj g b on' F' c':=by
 obtain⟨l,hl,rfl⟩:=Qa.1 hm;have hsc:=gu g on' (aY c.ah w);have YG:(aY c.ah w).Nodup:=oY.filter _;have cU:(gG g on' (aY c.ah w)).1.all=aY c.ah w:=by rw[hsc.all,jt YG]
 obtain⟨g1,g2,g3⟩:=kB hsc.ok hl;rw[cU] at g2;have lE:∀ e∈l,e∈c.ah:=fun e he=>(cE.1 (g2 e he)).1;have tR:∀ e∈l,∀ f∈b.e,Lk g on' e f->f∈l:=fun e he f' uU oW=>by
  obtain⟨v,hv,h1,h2⟩:=oW;have pX:=hc.shut e (lE e he) f' uU ⟨v,iS v hv,h1,h2⟩;have Vg:f'∈aY c.ah w:=cE.2 ⟨pX,fun d hd r=>by
   rw[<-r] at h2;obtain⟨-,k1,k2⟩:=hw d hd;rcases fM h2 with q | q
   ·rw[q,k1] at hv;cases hv
   rw[q,k2] at hv;cases hv⟩
  exact (g3 e he f').2 (ja (g2 e he) Vg ⟨v,hv,h1,h2⟩)
 have Ox:∃ u∈br g on' l,on u=false:=by
  refine Qh fun gM=>?_;obtain⟨e,he⟩:=Qg _ g1;obtain⟨d,hd⟩:=Qg _ LZ;have hq:=hc.qa (fun x y=>x∈l↔y∈l) ⟨fun _=>QT,fun q=>q.symm,fun q r=>q.trans r⟩ (fun x hx y hy oW=>by
   have half:∀ x∈c.ah,∀ y∈c.ah,Lk g on x y->x∈l->y∈l:=fun x _ y hy ⟨v,hv,h1,h2⟩ xp=>by
    by_cases Dd:on' v=true
    ·exact absurd ⟨v,bs.2 ⟨Dd,x,xp,h1⟩,hv⟩ gM
    exact tR x xp y (hc.sub y hy) ⟨v,Ql.2 Dd,h1,h2⟩
   obtain⟨v,hv,h1,h2⟩:=oW;exact⟨half x hx y hy ⟨v,hv,h1,h2⟩,half y hy x hx ⟨v,hv,h2,h1⟩⟩) e (lE e he) (d / 2) (hw d hd).1
  exact (cE.1 (g2 _ (hq.1 he))).2 d hd rfl
 refine⟨fun Q hQ hh e he f' uU=>?_,tR,fun e he=>hc.sub e (lE e he),rfl,AX hS ig gJ jW gB XU g1 (fun e he=>hc.sub e (lE e he)) (fun e he=>hEp e (g2 e he)) tR,?_,fun i=>?_⟩
 ·have:=ur (g:=g) (on:=on') (E:=aY c.ah w) (Q:=fun x y=>(x∈l/\y∈l/\Q x y)\/(x ∉ l/\y ∉ l)) ⟨fun x=>by
    by_cases q:x∈l
    ·exact Qj ⟨q,q,hQ.refl x⟩
    ·exact Qk ⟨q,q⟩,fun {x y} q=>by
    rcases q with ⟨q1,q2,q3⟩ | ⟨q1,q2⟩
    ·exact Qj ⟨q2,q1,hQ.symm q3⟩
    ·exact Qk ⟨q2,q1⟩,fun {x y z} q r=>by
    rcases q with ⟨q1,q2,q3⟩ | ⟨q1,q2⟩ <;> rcases r with ⟨r1,r2,r3⟩ | ⟨r1,r2⟩
    ·exact Qj ⟨q1,r2,hQ.trans q3 r3⟩
    ·exact absurd q2 r1
    ·exact absurd r1 q2
    ·exact Qk ⟨q1,r2⟩⟩ (fun x hx y hy oW=>by
    by_cases q:x∈l
    ·have J5:=(g3 x q y).2 (ja hx hy oW)
     exact Qj ⟨q,J5,hh x q y J5 oW⟩
    refine Qk ⟨q,fun r=>q ((g3 y r x).2 (ja hy hx ?_))⟩;obtain⟨v,hv,h1,h2⟩:=oW;exact⟨v,hv,h2,h1⟩) ((g3 e he f').1 uU)
  rcases this with r | r
  ·exact r.2.2
  exact absurd he r.1
 ·show (ic g F' (br g on' l) [f,k]).Nodup
  unfold ic;exact (show [f,k].Nodup by simp;omega).filter _
 show i∈ic g F' (br g on' l) [f,k]↔_;rw[sa];constructor
 ·rintro ⟨h1,h2⟩
  rcases Qd.1 h1 with r | r
  ·exact⟨by omega,by omega,h2⟩
  have:=Qb.1 r;exact⟨by omega,by omega,h2⟩
 rintro ⟨h1,h2,h3⟩;refine⟨?_,h3⟩;refine Qh fun gM=>?_;simp at gM;obtain⟨u,hu,hou⟩:=Ox;have:=hF i h1 (by omega) gM.1 u (h3 u hu);rw[hou] at this;cases this
theorem KO {g:Gr} {b:Pt} {on on':Int->Bool} {r:bj} {F F':List (List Int)} {f:Int} (hr:wj g b on F r) (iS:∀ v,on' v=false->on v=false) (hD:∀ e∈r.ah,∀ v,cI g e v->on v=false->on' v=false) (h0:0<=f) (hf:f.toNat<F.length)
  (hF:∀ i,0<=i->i.toNat<F.length->i≠f->bg F' i=bg F i) (hl:F'.length=F.length+1) (pX:∀ v,on v=true->(dt g (bg F' f) v=true->dt g (bg F f) v=true)/\(dt g (bg F' (F.length:Int)) v=true->dt g (bg F f) v=true)):wj g b on' F' (eW g F' f (F.length:Int) r):=by
 obtain⟨e1,e2⟩:=lr g F' f (F.length:Int) r;have heq:br g on' r.ah=br g on r.ah:=by
  unfold br;have:∀ e∈r.ah,([(g.at e).1,(g.at e).2].filter on')=[(g.at e).1,(g.at e).2].filter on:=fun e he=>QJ fun v hv=>by
   have hE:cI g e v:=by
    rcases Qd.1 hv with q | q
    ·exact Qj q.symm
    exact Qk (Qb.1 q).symm
   cases h1:on' v with
   | true =>
    cases h2:on v with
    | true=>rfl
    | false=>rw[hD e he v hE h2] at h1;cases h1
   | false=>exact (iS v h1).symm
  rw[QP,QP,List.map_congr_left this]
 have jW:∀ v∈r.ends,on v=true:=fun v hv=>by rw[hr.ends] at hv;exact (bs.1 hv).1
 refine⟨?_,?_,?_,?_,by rw[e2];exact hr.two,?_,fun i=>?_⟩
 ·rw[e1]
  exact fun Q hQ hh=>hr.qa Q hQ fun e he f' uU ⟨v,hv,h1,h2⟩=>hh e he f' uU ⟨v,hD e he v h1 hv,h1,h2⟩
 ·rw[e1]
  exact fun e he f' uU ⟨v,hv,h1,h2⟩=>hr.shut e he f' uU ⟨v,iS v hv,h1,h2⟩
 ·rw[e1];exact hr.sub
 ·rw[e1,e2,heq];exact hr.ends
 ·unfold eW
  by_cases q:f∈r.aj
  ·rw[if_pos q]
   show (r.aj.erase f++ic g F' r.ends [f,(F.length:Int)]).Nodup;rw[Qp];refine⟨hr.fnd.erase f,(show [f,(F.length:Int)].Nodup by simp;omega).filter _,fun x hx y hy e=>?_⟩;subst e;have h1:=(sa.1 hy).1;rcases Qd.1 h1 with k | k
   ·rw[k] at hx
    exact (hr.fnd.not_mem_erase) hx
   have:=((hr.Ns x).1 (List.mem_of_mem_erase hx)).2.1;have:=Qb.1 k;omega
  rw[if_neg q];exact hr.fnd
 have hi:i∈(eW g F' f (F.length:Int) r).aj↔if f∈r.aj then (i≠f/\i∈r.aj)\/((i=f\/i=(F.length:Int))/\∀ v∈r.ends,dt g (bg F' i) v=true) else i∈r.aj:=by
  unfold eW;by_cases q:f∈r.aj
  ·rw[if_pos q,if_pos q]
   show i∈r.aj.erase f++ic g F' r.ends [f,(F.length:Int)]↔_;rw[Qe,hr.fnd.mem_erase_iff,sa];simp only[Qd,List.not_mem_nil,or_false]
  rw[if_neg q,if_neg q]
 rw[hi,e2];by_cases q:f∈r.aj
 ·rw[if_pos q]
  constructor
  ·rintro (⟨k1,k2⟩ | ⟨k1,k2⟩)
   ·obtain⟨j1,j2,j3⟩:=(hr.Ns i).1 k2
    exact⟨j1,by omega,fun v hv=>by rw[hF i j1 j2 k1];exact j3 v hv⟩
   exact⟨by omega,by omega,k2⟩
  rintro ⟨k1,k2,k3⟩;by_cases k4:i=f
  ·exact Qk ⟨Or.inl k4,k3⟩
  by_cases k5:i=(F.length:Int)
  ·exact Qk ⟨Or.inr k5,k3⟩
  exact Qj ⟨k4,(hr.Ns i).2 ⟨k1,by omega,fun v hv=>by rw[<-hF i k1 (by omega) k4];exact k3 v hv⟩⟩
 rw[if_neg q];constructor
 ·intro k
  obtain⟨j1,j2,j3⟩:=(hr.Ns i).1 k;have k1:i≠f:=fun e=>q (e ▸ k);exact⟨j1,by omega,fun v hv=>by rw[hF i j1 j2 k1];exact j3 v hv⟩
 rintro ⟨k1,k2,k3⟩;have cU:(∀ v∈r.ends,dt g (bg F f) v=true)->f∈r.aj:=fun k=>(hr.Ns f).2 ⟨h0,hf,k⟩;by_cases k4:i=f
 ·exact absurd (cU fun v hv=>(pX v (jW v hv)).1 (by rw[<-k4];exact k3 v hv)) q
 by_cases k5:i=(F.length:Int)
 ·exact absurd (cU fun v hv=>(pX v (jW v hv)).2 (by rw[<-k5];exact k3 v hv)) q
 exact (hr.Ns i).2 ⟨k1,by omega,fun v hv=>by rw[<-hF i k1 (by omega) k4];exact k3 v hv⟩
def Sk.left (s:Sk):Nat:=(s.rest.flatMap (·.ah)).length
theorem Ra {g:Gr} {b:Pt} {s:Sk} {p:Pt} {aa:List (List Int)} {i:Nat} (lM:b.err g=0) (hS:cg g b) (h:rD g b s p aa) (hi:i<s.rest.length) (hf:(s.rest.getD i ⟨[],[],[]⟩).aj≠[]) :
  ∃ p' fQ,rD g b (s.put g b.v i) p' fQ/\(s.put g b.v i).left<s.left:=by
 have iM:=Pt.aF lM;have ig:=Pt.aF h.aj.pe;obtain⟨Sq,Yn⟩:=kH hi (⟨[],[],[]⟩:bj);unfold Sk.put;dsimp only;generalize gy:s.rest.getD i ⟨[],[],[]⟩=c at *;generalize Rc:s.rest.take i=R1 at *;generalize hR2:s.rest.drop (i+1)=R2 at *;have lN:c∈s.rest:=by rw[Sq];simp
 have hc:=h.lV c lN;have iQ:=h.part;have uZ:s.rest.flatMap (·.ah)=R1.flatMap (·.ah)++(c.ah++R2.flatMap (·.ah)):=by
  conv=>lhs;rw[Sq]
  rw[Qw,List.flatMap_cons]
 rw[uZ] at iQ;have fs:=(iQ.nodup_iff).2 iM.en;have jd:∀ x,Qi x p.e+(Qi x (R1.flatMap (·.ah))+(Qi x c.ah+Qi x (R2.flatMap (·.ah))))<=1:=fun x=>by
  have:=QG.1 fs x;simpa[Qc] using this
 have oY:c.ah.Nodup:=QG.2 fun x=>by have:=jd x;omega
 have KJ:∀ e∈c.ah,e ∉ p.e:=fun e h1 h2=>by
  have:=jd e;have:=Qm.2 h1;have:=Qm.2 h2;omega
 have hcR:∀ e∈c.ah,∀ r,r∈R1\/r∈R2->e ∉ r.ah:=fun e h1 r hr h2=>by
  have:=jd e;have:=Qm.2 h1;rcases hr with hr | hr
  ·have:=Qm.2 (show e∈R1.flatMap (·.ah) from QD.2 ⟨r,hr,h2⟩)
   omega
  have:=Qm.2 (show e∈R2.flatMap (·.ah) from QD.2 ⟨r,hr,h2⟩);omega
 have Zy:aH g ⟨b.v,c.ah⟩:=⟨iM.vn,oY,iM.vr,fun e he=>iM.er e (hc.sub e he),fun e he=>iM.ends e (hc.sub e he)⟩
 -- the ends
 obtain⟨a,z0,m,iF⟩:∃ a z0 m,c.ends=a :: z0 :: m:=by
  have:=hc.two
  match hL:c.ends with
  | []=>rw[hL] at this;simp at this
  | [_]=>rw[hL] at this;simp at this
  | a :: z0 :: m=>exact⟨a,z0,m,rfl⟩
 have kQ:(a :: z0 :: m).Nodup:=by rw[<-iF,hc.ends];exact gd g s.on c.ah
 have Nn:a∈c.ends:=by rw[iF];simp
 have Wy:z0∈c.ends:=by rw[iF];simp
 have Bw:=Nn;have jZ:=Wy;rw[hc.ends] at Bw jZ;obtain⟨RU,e0,mn,Jw⟩:=bs.1 Bw;obtain⟨M7,e1,uF,Fi⟩:=bs.1 jZ;have M0:z0≠a:=fun q=>by rw[q] at kQ;simp at kQ
 have qL:∀ d∈(⟨b.v,c.ah⟩:Pt).ag,0<=d:=fun d hd=>by have:=iM.er _ (hc.sub _ (aw.1 hd));omega
 obtain⟨z,pr⟩:=yw (g:=g) (on:=s.on) Zy qL hc.qa mn Jw uF Fi M7 M0;have Tj:c.ends.getD 0 0=a:=by rw[iF];rfl
 rw[Tj];generalize hw0:l5 g s.on ⟨b.v,c.ah⟩ a=w at *;have Di:=pr.uG h.on RU KJ;obtain⟨yY⟩:w≠[]/\True:=⟨fun q=>pr.ne (by have:=pr.link;rw[q] at this;exact this),trivial⟩;have V6:g.head (w.getLastD 0)=z:=by
  rcases Qt w with r | ⟨m,e,r⟩
  ·exact absurd r yY
  rw[Qu] at r;have:=pr.link;rw[r] at this ⊢;rw[QA];simpa using gx this
 rw[V6];have A5:∀ d∈w,d / 2∈c.ah:=fun d hd=>aw.1 (pr.sub d hd)
 -- z is an end of the scrap
 have Ca:z∈c.ends:=by
  rcases Qt w with r | ⟨m,e,r⟩
  ·exact absurd r yY
  rw[Qu] at r;have h1:=pr.link;rw[r] at h1;rw[hc.ends];have h2:=et g e;rw[gx h1] at h2;exact bs.2 ⟨pr.oz,e / 2,A5 e (by rw[r];simp),h2.2⟩
 -- the sX
 obtain⟨f,fl,As⟩:∃ f fl,c.aj=f :: fl:=by
  cases hL:c.aj with
  | nil=>exact absurd hL hf
  | cons f fl=>exact⟨f,fl,rfl⟩
 have GQ:c.aj.getD 0 0=f:=by rw[As];rfl
 rw[GQ];obtain⟨OL,BE,Vh⟩:=(hc.Ns f).1 (by rw[As];simp);obtain⟨hFs,-⟩:=kH BE ([]:List Int);have hold:s.aj.getD f.toNat []=bg s.aj f:=rfl;rw[hold] at hFs;generalize EG:bg s.aj f=old at *;generalize z':s.aj.take f.toNat=F1 at *;generalize SP:s.aj.drop (f.toNat+1)=F2 at *;have aj4:F1.length=f.toNat:=by rw[<-z',QL];omega
 obtain⟨x,y,A,B,U,V,c1,c2,c3,c4,c5⟩:=pY (g:=g) (old:=old) (w:=w) (cX.1 (Vh a Nn)) (cX.1 (Vh z Ca)) pr.ne;rw[c5];obtain⟨f1,f2,f3,f4⟩:=Fa (F:=s.aj) OL BE (x :: A++twins w) (w++y :: B);generalize Tw:s.aj.set f.toNat (x :: A++twins w)++[w++y :: B]=F' at *;have alI:F'.Perm ((x :: A++twins w) :: (w++y :: B) :: (F1++F2)):=by
  have e:s.aj.set f.toNat (x :: A++twins w)=F1++(x :: A++twins w) :: F2:=by
   conv=>lhs;rw[hFs]
   rw[<-aj4,List.set_append_right _ _ (Nat.le_refl _)];simp
  rw[<-Tw,e];refine (Qo (l₁:=F1++(x :: A++twins w) :: F2) (l₂:=[w++y :: B])).trans ?_;refine (QK.cons _ QQ).trans ?_;exact QK.swap _ _ _
 -- the part
 have zy:∀ v,eF g s.on w v=true↔v∈p.v\/v∈w.map g.tail:=fun v=>by rw[Cy,h.on]
 have B8:∀ v∈w.map g.tail,v∈b.v:=fun v hv=>by
  obtain⟨d,hd,rfl⟩:=Qa.1 hv;exact (Zy.aQ (pr.sub d hd)).1
 have JJ:∀ e∈p.e,e∈b.e:=fun e he=>iQ.mem_iff.1 (Qq _ he);obtain⟨q,Hl⟩:∃ q:Pt,q=⟨b.v.filter (eF g s.on w),b.e.filter fun e=>decide (e∈p.e) || decide (e∈w.map (· / 2))⟩:=⟨_,rfl⟩;have FG:∀ v,v∈q.v↔v∈p.v\/v∈w.map g.tail:=fun v=>by
  rw[Hl,Qf,zy];exact⟨fun k=>k.2,fun k=>⟨k.elim (h.sub v) (B8 v),k⟩⟩
 have IW:∀ e,e∈q.e↔e∈p.e\/e∈w.map (· / 2):=fun e=>by
  rw[Hl,Qf,QR,decide_eq_true_iff,decide_eq_true_iff];refine⟨fun k=>k.2,fun k=>⟨k.elim (JJ e) fun k=>?_,k⟩⟩;obtain⟨d,hd,rfl⟩:=Qa.1 k;exact hc.sub _ (A5 d hd)
 obtain⟨cc,ll,ma⟩:=Di.cons;have YU:∀ d∈w,g.head d∈w.map g.tail\/g.head d=z:=fun d hd=>by
  have h1:=pr.link;rw[ma] at h1;have h2:=dJ h1;have h3:g.head d∈(cc :: ll).map g.head:=by rw[<-ma];exact Qa.2 ⟨d,hd,rfl⟩
  rw[h2] at h3;rcases Qe.1 h3 with k | k
  ·refine Qj ?_
   rw[ma,Qs];exact Qv _ k
  exact Qk (Qb.1 k)
 have OD:∀ d∈w,g.tail d∈q.v/\g.head d∈q.v:=fun d hd=>⟨(FG _).2 (Qk (Qa.2 ⟨d,hd,rfl⟩)),(FG _).2 ((YU d hd).elim Qk fun k=>Qj (by rw[k];exact Di.zv))⟩;have J2:q.err g=0:=by
  obtain⟨g1,g2,g3,-⟩:=Pt.aP lM;refine Pt.sJ g1 (by rw[Hl];exact dH g2 _) (by rw[Hl];exact dH g3 _) fun e he=>?_;have hb:=iM.er e (by
   have:=he;rw[Hl] at this;exact (Qf.1 this).1)
  show (g.at e).1∈q.v/\(g.at e).2∈q.v;rcases (IW e).1 he with k | k
  ·exact⟨(FG _).2 (Qj (ig.ends e k).1),(FG _).2 (Qj (ig.ends e k).2)⟩
  obtain⟨d,hd,rfl⟩:=Qa.1 k;obtain⟨k1,k2⟩:=OD d hd;rcases iC g d with ⟨j1,j2⟩ | ⟨j1,j2⟩
  ·rw[<-j1,<-j2];exact⟨k1,k2⟩
  rw[<-j1,<-j2];exact⟨k2,k1⟩
 have De:Hi g p w q:=⟨J2,FG,IW⟩;have Hn:=Pt.aF J2
 -- the aj
 have ZG:cL g p aa ((x :: A++y :: B) :: (F1++F2)):=by
  rw[<-c2];refine cL.wA ?_;rw[<-c1];refine h.aj.perm ?_;rw[hFs];exact QQ
 have Vn:x∈p.ag/\y∈p.ag:=by
  have k:∀ d∈x :: A++y :: B,d∈p.ag:=fun d hd=>ZG.all.mem_iff.1 (by rw[QC];exact Qq _ hd);exact⟨k x (by simp),k y (by simp)⟩
 obtain⟨t1,t2⟩:=tS ZG Di De Vn.1 c3 Vn.2 c4;have hfq:=ZG.put Di De t1 t2 (QK.refl _) alI c3 c4;have iS:∀ v,eF g s.on w v=false->s.on v=false:=fun v hv=>Ql.2 fun r=>by
  have:=(zy v).2 (Qj ((h.on v).1 r));rw[hv] at this;cases this
 have ab6:∀ v,s.on v=true->(dt g (bg F' f) v=true->dt g (bg s.aj f) v=true)/\(dt g (bg F' (s.aj.length:Int)) v=true->dt g (bg s.aj f) v=true):=fun v hv=>by
  rw[f2,f3,EG];exact Uq Di c1 c2 c3 c4 ((h.on v).1 hv)
 have hwo:aY c.ah w=c.ah.filter fun e=>decide (e ∉ w.map (· / 2)):=by
  refine QJ fun e _=>?_;have h1:=cE (E:=[e]) (l:=w) (e:=e);unfold aY at h1;rw[Qf] at h1;rw[Bool.eq_iff_iff,decide_eq_true_iff,Qa];constructor
  ·rintro k ⟨d,hd,r⟩
   exact (h1.1 ⟨by simp,k⟩).2 d hd r
  intro k;exact (h1.2 ⟨by simp,fun d hd r=>k ⟨d,hd,r⟩⟩).2
 have oB:∀ x,Qi x c.ah=Qi x (w.map (· / 2))+Qi x (aY c.ah w):=fun x=>by
  have yE:(w.map (· / 2)++aY c.ah w).Perm c.ah:=by
   refine (Qz ?_ oY).2 fun u=>?_
   ·rw[Qp]
    refine⟨Di.en,oY.filter _,fun u hu v hv e=>?_⟩;subst e;obtain⟨d,hd,rfl⟩:=Qa.1 hu;exact (cE.1 hv).2 d hd rfl
   rw[Qe,cE];constructor
   ·rintro (k | k)
    ·obtain⟨d,hd,rfl⟩:=Qa.1 k;exact A5 d hd
    exact k.1
   intro k;by_cases j:u∈w.map (· / 2)
   ·exact Qj j
   exact Qk ⟨k,fun d hd r=>j (Qa.2 ⟨d,hd,r⟩)⟩
  rw[<-yE.count_eq,Qc]
 have alG:∀ x,Qi x q.e=Qi x p.e+Qi x (w.map (· / 2)):=fun x=>by
  have yE:q.e.Perm (p.e++w.map (· / 2)):=by
   refine (Qz Hn.en ?_).2 fun u=>by rw[IW,Qe]
   rw[Qp];refine⟨ig.en,Di.en,fun u hu v hv e=>?_⟩;subst e;obtain⟨d,hd,rfl⟩:=Qa.1 hv;exact KJ _ (A5 d hd) hu
  rw[yE.count_eq,Qc]
 have hsE:=mN (g:=g) (on:=eF g s.on w) (F:=F') (ks:=[f,(s.aj.length:Int)]) (E:=aY c.ah w) (oY.filter _);have Wp:∀ x,Qi x (((s.rest.eraseIdx i).map (eW g F' f s.aj.length)++cr g (eF g s.on w) F' (aY c.ah w) [f,(s.aj.length:Int)]).flatMap (·.ah))=Qi x (R1.flatMap (·.ah))+Qi x (R2.flatMap (·.ah))+Qi x (aY c.ah w):=fun x=>by
  rw[Qw,Bv,Yn,Qw,Qc,Qc,hsE.count_eq]
 refine⟨q,fR g p q aa w a z x y,⟨hfq,fun v=>(zy v).trans (FG v).symm,fun v hv=>?_,?_,?_,fun r hr=>?_⟩,?_⟩
 ·rw[Hl] at hv;exact (Qf.1 hv).1
 ·obtain⟨e,he⟩:=Qg _ h.drawn
  exact QH ((IW e).2 (Qj he))
 ·rw[Qx]
  intro x;rw[Qc,Wp,alG,<-iQ.count_eq];simp only[Qc];have:=oB x;omega
 ·rcases Qe.1 hr with k | k
  ·obtain⟨r0,nw,rfl⟩:=Qa.1 k
   rw[Yn] at nw;have hrR:r0∈R1\/r0∈R2:=Qe.1 nw;have KW:r0∈s.rest:=by
    rw[Sq];rcases hrR with j | j <;> simp[j]
   have fz:=h.lV r0 KW;refine KO fz iS (fun e he v pA hv=>Ql.2 fun j=>?_) OL BE f1 f4 ab6;rcases (zy v).1 j with j | j
   ·rw[(h.on v).2 j] at hv;cases hv
   obtain⟨d,hd,rfl⟩:=Qa.1 j;exact hcR _ (A5 d hd) r0 hrR (fz.shut e he _ (hc.sub _ (A5 d hd)) ⟨_,hv,pA,(et g d).1⟩)
  refine MA hS hc Hn ?_ (fun v=>(zy v).trans (FG v).symm) iS (fun v hv=>?_) (fun e he=>?_) (fun d hd=>⟨A5 d hd,(zy _).2 ((FG _).1 (OD d hd).1),(zy _).2 ((FG _).1 (OD d hd).2)⟩) yY oY (fun e he=>?_) ⟨OL,by omega⟩ (by rw[f4];omega) (fun j j0 jk jf u hu=>?_) k
  ·obtain⟨e,he⟩:=Qg _ h.drawn
   exact QH ((IW e).2 (Qj he))
  ·rw[Hl] at hv;exact (Qf.1 hv).1
  ·rw[Hl] at he;exact (Qf.1 he).1
  ·intro r
   obtain⟨k1,k2⟩:=cE.1 he;rcases (IW e).1 r with j | j
   ·exact KJ e k1 j
   obtain⟨d,hd,e'⟩:=Qa.1 j;exact k2 d hd e'
  rw[f1 j j0 (by omega) jf] at hu;obtain⟨d,hd,e⟩:=cX.1 hu;have zm:d∈p.ag:=h.aj.all.mem_iff.1 (List.mem_flatten.2 ⟨_,by
   unfold bg;rw[show s.aj.getD j.toNat []=s.aj[j.toNat]'(by omega) by simp[Qy,show j.toNat<s.aj.length by omega]];exact List.getElem_mem _,hd⟩)
  rw[<-e];exact (h.on _).2 (ig.aQ zm).1
 unfold Sk.left;have hA:(((s.rest.eraseIdx i).map (eW g F' f s.aj.length)++cr g (eF g s.on w) F' (aY c.ah w) [f,(s.aj.length:Int)]).flatMap (·.ah)).Perm (R1.flatMap (·.ah)++R2.flatMap (·.ah)++aY c.ah w):=Qx.2 fun x=>by
  rw[Wp,Qc,Qc]
 have hB:c.ah.Perm (w.map (· / 2)++aY c.ah w):=Qx.2 fun x=>by rw[oB,Qc]
 have h1:=hA.length_eq;have h2:=hB.length_eq;have h3:0<w.length:=List.length_pos_iff.2 yY;show _<_;rw[uZ];simp only[List.length_append,List.length_map] at h1 h2 ⊢;omega
end Go.Proofs.YtbkjljffnkdcjaaGreat.Plain
