/- eE that are cycles; a qL is put into one. No program here. -/
import Derived.Test.YtoiflofhcmjpoaaGreatD9Mir
import Derived.Maps.Range
open List renaming mem_append→Qa,mem_singleton→Qb,filter_cons_of_pos→Qc,mem_append_left→Qe,filter_cons_of_neg→Qg,append_nil→Qi,nodup_append→Qj,mem_cons→Qk,flatten_cons→Ql,perm_ext_iff_of_nodup→Qm,mem_append_right→Qn,mem_cons_of_mem→Qo,mem_map→Qq,flatten_nil→Qr,cons_append→Qs,length_pos_iff→Qt,flatten_append→Qu,length_append→Qv,length_eq_zero_iff→Qw,append_assoc→Qx,mem_flatten→Qy,length_drop→Qz,map_cons→QA,nodup_cons→QC,perm_iff_count→QD,exists_mem_of_ne_nil→QE,append_cancel_left→QF,append_eq_nil_iff→QG,length_pos_of_mem→QH,map_append→QI,nil_append→QJ,range→QK,length_take→QM,length→QN,take_left'→QO,length_map→QP
open Or renaming inl→Qd,inr→Qh
open Classical renaming byContradiction→Qf,em→QL
open Go.Value renaming ownBlock→Qp,slice→QS
open Nat renaming le_refl→QB,min_eq_left→QQ
open Option renaming some→QR
namespace Go.Proofs.YtoiflofhcmjpoaaGreat.Plain
theorem jd {f:Int->Int} {l:List Int} (h:(l.map f).Nodup):l.Nodup:=(List.pairwise_map.1 h).imp fun k e=>k (by rw[e])
theorem yu {l:List Int}:l.reverse.Nodup↔l.Nodup:=by grind
structure eE (g:Gr) (p:Pt) (aa:List (List Int)) (F:List (List Int)):Prop where
 pe:p.err g=0
 nQ:aR g p aa
 rings:bw (aG g aa) F
 all:F.flatten.Perm p.ah
 simple:∀ f∈F,(f.map g.tail).Nodup
 full:∀ v∈p.v,∃ d∈p.ah,g.tail d=v
 sO:p.v.length+F.length=2+p.e.length
 vR:∀ u∈p.v,∀ v∈p.v,b9 g p (-1) u v
def kg (g:Gr):Int->List Int->Int->Prop
 | a,[],z=>a=z
 | a,d :: w,z=>g.tail d=a/\kg g (g.head d) w z
theorem kg.append {g:Gr} {z:Int} {m:List Int}:∀ {l:List Int} {a:Int},kg g a (l++m) z↔∃ b,kg g a l b/\kg g b m z
 | [],a=>⟨fun h=>⟨a,rfl,h⟩,fun ⟨b,h1,h2⟩=>by cases h1;exact h2⟩
 | d :: l,a=>by
  have ih:=kg.append (g:=g) (z:=z) (m:=m) (l:=l) (a:=g.head d);constructor
  ·rintro ⟨h1,h2⟩
   obtain⟨b,h3,h4⟩:=ih.1 h2;exact⟨b,⟨h1,h3⟩,h4⟩
  rintro ⟨b,⟨h1,h3⟩,h4⟩;exact⟨h1,ih.2 ⟨b,h3,h4⟩⟩
structure mF (g:Gr) (p:Pt) (w:List Int) (a z:Int):Prop where
 link:kg g a w z
 ne:a≠z
 av:a∈p.v
 zv:z∈p.v
 FA:∀ d∈w.tail,g.tail d ∉ p.v
 vn:(w.map g.tail).Nodup
 en:(w.map (· / 2)).Nodup
 Xc:∀ d∈w,d / 2 ∉ p.e
structure Gw (g:Gr) (p:Pt) (w:List Int) (q:Pt):Prop where
 qe:q.err g=0
 v:∀ u,u∈q.v↔u∈p.v\/u∈w.map g.tail
 e:∀ u,u∈q.e↔u∈p.e\/u∈w.map (· / 2)
structure Bg (g:Gr) (p:Pt) (aa:List (List Int)) (w:List Int) (x y:Int) (iW:List (List Int)):Prop where
 first:∀ d l,w=d :: l->before g iW d=x
 last:∀ d l,w=l++[d]->before g iW (aT d)=y
 old:∀ u∈p.ah,before g iW u=if before g aa u=x then w.headD 0 else if before g aa u=y then aT (w.getLastD 0) else before g aa u
theorem sH {q:Int->Int} {z:Int}:∀ {w:List Int} {c:Int},(∀ l d e m,c :: w=l++d :: e :: m->q d=e)->(∀ l d,c :: w=l++[d]->q d=z)->Trail q c w z
 | [],c,_,h=>h [] c rfl
 | d :: w,c,h1,h2=>⟨h1 [] c d w rfl,sH (fun l a b m e=>h1 (c :: l) a b m (by rw[e];rfl)) (fun l a e=>h2 (c :: l) a (by rw[e];rfl))⟩
theorem sk {q:Int->Int}:∀ {w:List Int} {c x:Int},(∀ l d e m,c :: w=l++d :: e :: m->q (aT e)=aT d)->q (aT c)=x->∃ e t,twins (c :: w)=e :: t/\Trail q e t x
 | [],c,x,_,h=>⟨aT c,[],rfl,h⟩
 | d :: w,c,x,h1,h2=>by
  obtain⟨e,t,h3,h4⟩:=sk (q:=q) (w:=w) (c:=d) (x:=aT c) (fun l a b m e=>h1 (c :: l) a b m (by rw[e];rfl)) (h1 [] c d w rfl);refine⟨e,t++[aT c],?_,Trail.append.2 ⟨h4,h2⟩⟩;have:twins (c :: d :: w)=twins (d :: w)++[aT c]:=by simp[twins]
  rw[this,h3];rfl
theorem ri {g:Gr} {z:Int}:∀ {l:List Int} {a d e:Int} {m:List Int},kg g a (l++d :: e :: m) z->g.head d=g.tail e
 | [],_a,_d,_e,_m,h=>h.2.1.symm
 | _c :: l,_a,_d,_e,_m,h=>ri (l:=l) h.2
theorem gp {g:Gr} {z:Int}:∀ {l:List Int} {a d:Int},kg g a (l++[d]) z->g.head d=z
 | [],_a,_d,h=>h.2
 | _c :: l,_a,_d,h=>gp (l:=l) h.2
theorem jn {w:List Int} {y:Int}:y∈twins w↔aT y∈w:=by
 all_goals grind [twins,bC]
theorem Rj (d:Int):aT d≠d:=by grind [aT]
theorem CL {d e:Int} (h:d / 2=e / 2):d=e\/d=aT e:=by grind [aT]
theorem Cj {w:List Int} (h:(w.map (· / 2)).Nodup):(w++twins w).Nodup:=by
 have hw:w.Nodup:=jd h
 all_goals grind [twins,yu,bC,jn,aT,fs]
theorem mF.cons {g:Gr} {p:Pt} {w:List Int} {a z:Int} (h:mF g p w a z):∃ c l,w=c :: l:=by
 cases w with
 | nil=>exact absurd h.link h.ne
 | cons c l=>exact⟨c,l,rfl⟩
theorem fx {g:Gr} {z:Int}:∀ {w:List Int} {a c:Int},kg g a (c :: w) z->(c :: w).map g.head=w.map g.tail++[z]
 | [],a,c,h=>by have:g.head c=z:=h.2;simp[this]
 | d :: w,a,c,h=>by
  have ih:=fx (w:=w) h.2;have:g.head c=g.tail d:=h.2.1.symm;rw[QA,ih,this];rfl
variable {g : Gr} {p q : Pt} {aa iW : List (List Int)} {w : List Int} {a z x y : Int}
theorem mF.pQ (h:mF g p w a z) {d:Int} (hd:d∈w):d ∉ p.ah/\aT d ∉ p.ah :=
 ⟨fun q=>h.Xc d hd (aw.1 q),fun q=>h.Xc d hd (by have:=aw.1 q;rwa[dP] at this)⟩
theorem Gw.ah (hq:Gw g p w q) {d:Int}:d∈q.ah↔d∈p.ah\/d∈w\/aT d∈w:=by
 rw[aw,aw,hq.e,Qq]
 all_goals grind [CL,bC,aT,dP]
theorem Ej (hw:mF g p w a z) (hq:Gw g p w q) (iM:aB g p) (ht:aR g q iW) {l m:List Int} {d e:Int} (hs:w=l++d :: e :: m):before g iW (aT d)=e/\before g iW e=aT d:=by
 have Ei:=Pt.ay hq.qe;have hde:g.head d=g.tail e:=ri (by have:=hw.link;rwa[hs] at this);have hew:e∈w:=by rw[hs];simp
 have hdw:d∈w:=by rw[hs];simp
 have het:e∈w.tail:=by rw[hs];cases l <;> simp
 have zl:=hw.FA e het;have hvq:g.tail e∈q.v:=(hq.v _).2 (Qh (Qq.2 ⟨e,hew,rfl⟩));obtain⟨r1,r2⟩:=Ei.vr _ hvq;have hm:∀ u,u∈az iW (g.tail e)↔u=e\/u=aT d:=by
  intro u;rw[ht.mem _ r1 r2 u,hq.ah];constructor
  ·rintro ⟨h1,h2⟩
   rcases h1 with h1 | h1 | h1
   ·grind [aB.aO]
   ·exact Qd (fs hw.vn _ h1 _ hew h2)
   refine Qh ?_;have h3:g.head (aT u)=g.tail u:=by rw[<-aS,bC]
   have hz:g.tail e≠z:=fun r=>zl (by rw[r];exact hw.zv);obtain⟨l2,m2,Dg⟩:=List.append_of_mem h1;cases m2 with
   | nil =>
    have:=gp (l:=l2) (by have:=hw.link;rwa[Dg] at this)
    grind
   | cons e2 m2 =>
    have h4:=ri (by have:=hw.link;rwa[Dg] at this);have h5:e2=e:=fs hw.vn _ (by grind) _ hew (by grind);rw[h5] at Dg;have hwn:w.Nodup:=jd hw.vn;have h6:l++[d]=l2++[aT u]:=by
     have e1:w=(l++[d])++e :: m:=by rw[hs];simp
     have e2:w=(l2++[aT u])++e :: m2:=by rw[Dg];simp
     have f1:w.idxOf e=(l++[d]).length:=by
      grind
     have f2:w.idxOf e=(l2++[aT u]).length:=by
      grind
     have t1:w.take (l++[d]).length=l++[d]:=by rw[e1];exact QO rfl
     grind
    have h7:d=aT u:=by
     have:=congrArg List.getLast? h6
     grind
    rw[h7,bC]
  all_goals grind [bC,aS]
 have bh:e≠aT d:=fun r=>by
  have h1:e / 2=d / 2:=by rw[r,dP]
  have h2:=fs hw.en _ hew _ hdw h1
  grind [Rj]
 have Rn:g.tail (aT d)=g.tail e:=by rw[aS,hde]
 unfold before;rw[Rn];exact⟨uS (ht.nodup _) (fun u=>(hm u).trans Or.comm) (Ne.symm bh),uS (ht.nodup _) hm bh⟩
theorem xN (hs:∀ d∈w,d∈q.ah) (Ei:aB g q):∀ {w':List Int} {a z:Int},(∀ d∈w',d∈q.ah)->kg g a w' z->∀ u∈w'.map g.tail,b9 g q (-1) a u
 | [],_,_,_,_,u,hu=>by simp at hu
 | d :: w',a,z,hd,h,u,hu=>by
  rcases Qk.1 hu with e | hu
  ·rw[e,h.1];exact .here
  have ih:=xN hs Ei (w':=w') (fun d h=>hd d (Qo _ h)) h.2 u hu;have lC:=hd d (by simp);have hn:=eR (g:=g) lC;rw[h.1] at hn;have amc:=(Ei.vr _ (Ei.aO lC).2).1;exact (b9.step .here hn (by omega)).trans ih
theorem eE.put {A B:List Int} {R F F':List (List Int)} (h:eE g p aa F) (hw:mF g p w a z) (hq:Gw g p w q) (ht:aR g q iW) (hp:Bg g p aa w x y iW)
  (hF:F.Perm ((x :: A++y :: B) :: R)) (Wu:F'.Perm ((x :: A++twins w) :: (w++y :: B) :: R)) (hx:g.tail x=a) (hy:g.tail y=z):eE g q iW F':=by
 have iM:=Pt.ay h.pe;have Ei:=Pt.ay hq.qe;obtain⟨c,l,rfl⟩:=hw.cons;have X3:=h.rings.perm hF;have dH:((x :: A++y :: B) :: R).flatten.Perm p.ah:=hF.symm.flatten.trans h.all;have fp:∀ u,u∈((x :: A++y :: B) :: R).flatten↔u∈p.ah:=fun u=>dH.mem_iff;have LZ:∀ l1 d e m,c :: l=l1++d :: e :: m->aG g iW d=e/\aG g iW (aT e)=aT d:=fun l1 d e m hs=>by
  grind [Ej,aG,bC]
 have Om:=bw.adI (q:=aG g iW) X3 (c:=c) (w:=l) (sH (fun l1 d e m hs=>(LZ l1 d e m hs).1) (fun l1 d hs=>hp.last d l1 hs)) (sk (fun l1 d e m hs=>(LZ l1 d e m hs).2) (by
   unfold aG;rw[bC];exact hp.first c l rfl))
  (fun u hu hm=>(hw.pQ hu).1 ((fp u).1 hm)) (fun u hu hm=>by
   grind [mF.pQ,jn,bC]) (Cj hw.en)
  (fun u hu e=>by
   have hu:=(fp u).1 hu;unfold aG at e ⊢;rw[hp.old _ (bQ hu),if_pos e];rfl)
  (fun u hu e e2 t het=>by
   have hu:=(fp u).1 hu;unfold aG at e ⊢;have qI:y≠x:=fun r=>hw.ne (by grind);rw[hp.old _ (bQ hu),if_neg (by grind),if_pos e];have h1:(twins (c :: l)).head?=some e2:=by rw[het];rfl
   grind [twins,bw.inj])
  (fun u hu e1 e2=>by
   have hu:=(fp u).1 hu;unfold aG at e1 e2 ⊢;rw[hp.old _ (bQ hu),if_neg e1,if_neg e2])
 have hsf:=h.simple (x :: A++y :: B) (hF.mem_iff.2 (by simp));have hfd:∀ u∈x :: A++y :: B,u∈p.ah:=fun u hu=>(fp u).1 (by grind);have nP:q.ah.Nodup:=dz Ei.en;have hE:q.e.Perm (p.e++(c :: l).map (· / 2)):=by
  refine (Qm Ei.en ?_).2 fun u=>by rw[hq.e,Qa]
  rw[Qj];exact⟨iM.en,hw.en,fun u hu v hv e=>by
   obtain⟨d,hd,rfl⟩:=Qq.1 hv;exact hw.Xc d hd (e ▸ hu)⟩
 have hV:q.v.Perm (p.v++l.map g.tail):=by
  have qG:(l.map g.tail).Nodup:=by have:=hw.vn;rw[QA,QC] at this;exact this.2
  refine (Qm Ei.vn ?_).2 fun u=>?_
  ·rw[Qj]
   exact⟨iM.vn,qG,fun u hu v hv e=>by
    obtain⟨d,hd,rfl⟩:=Qq.1 hv;exact hw.FA d hd (e ▸ hu)⟩
  rw[hq.v,Qa,QA,Qk];constructor
  ·rintro (r | r | r)
   ·exact Qd r
   ·rw[r,hw.link.1];exact Qd hw.av
   exact Qh r
  all_goals grind
 have hhd:=fx hw.link;have FI:(twins (c :: l)).map g.tail=(l.map g.tail++[z]).reverse:=by
  unfold twins;rw[List.map_reverse,List.map_map,<-hhd]
  congr 2
  grind [aS]
 have hlv:∀ u∈l.map g.tail,u ∉ p.v:=fun u hu=>by
  obtain⟨d,hd,rfl⟩:=Qq.1 hu;exact hw.FA d hd
 have qG:(l.map g.tail).Nodup:=by have:=hw.vn;rw[QA,QC] at this;exact this.2
 refine⟨hq.qe,ht,Om.perm Wu.symm,?_,fun f hf=>?_,fun v hv=>?_,?_,fun u hu v hv=>?_⟩
 ·refine (Qm (Om.perm Wu.symm).nodup nP).2 fun u=>?_
  rw[(Wu.flatten).mem_iff,hq.ah,<-fp u]
  all_goals grind [jn]
 ·rw[QI,Qj] at hsf
  obtain⟨s1,s2,s3⟩:=hsf;rcases Qk.1 (Wu.mem_iff.1 hf) with rfl | hf
  ·rw[QI,FI,Qj,yu]
   refine⟨s1,?_,fun u hu v hv e=>?_⟩
   ·rw[Qj]
    exact⟨qG,by simp,fun u hu v hv e=>by
     rw[Qb.1 hv] at e;exact hlv u hu (by rw[e];exact hw.zv)⟩
   all_goals grind [aB.aO]
  rcases Qk.1 hf with rfl | hf
  ·rw[QI,Qj]
   refine⟨hw.vn,s2,fun u hu v hv e=>?_⟩;subst e;rcases Qk.1 (by simpa using hu:u∈g.tail c :: l.map g.tail) with r | r
   ·refine s3 a ?_ u hv (by rw[r,hw.link.1])
    simp[hx]
   obtain⟨d,hd,rfl⟩:=Qq.1 hv;exact hlv _ r (iM.aO (hfd d (Qn _ hd))).1
  exact h.simple f (hF.mem_iff.2 (Qo _ hf))
 ·rcases (hq.v v).1 hv with r | r
  ·obtain⟨d,hd,e⟩:=h.full v r
   exact⟨d,hq.ah.2 (Qd hd),e⟩
  obtain⟨d,hd,e⟩:=Qq.1 r;exact⟨d,hq.ah.2 (Qh (Qd hd)),e⟩
 ·have h1:=h.sO
  have h2:=hE.length_eq;have h3:=hV.length_eq;have h4:=hF.length_eq;have h5:=Wu.length_eq;simp only[Qv,QP,List.length_cons] at h2 h3 h4 h5;omega
 have hwd:∀ d∈c :: l,d∈q.ah:=fun d hd=>hq.ah.2 (Qh (Qd hd));have gU:∀ {u v},b9 g p (-1) u v->b9 g q (-1) u v:=fun {u v} hc=>by
  induction hc with
  | here=>exact .here
  | step _ hn hs ih =>
   obtain⟨e,he,h2⟩:=hn;exact ih.step ⟨e,(hq.e e).2 (Qd he),h2⟩ hs
 have vx:∀ v∈q.v,b9 g q (-1) a v:=fun v hv=>by
  rcases (hq.v v).1 hv with r | r
  ·exact gU (h.vR a hw.av v r)
  exact xN hwd Ei hwd hw.link v r
 have XJ:=(iM.vr a hw.av).1;exact ((vx u hu).symm (by omega)).2.trans (vx v hv)
def Gt (l:List Int):List Int:=l.mergeSort fun x y=>decide (x<=y)
theorem jB (l:List Int):(Gt l).Perm l:=List.mergeSort_perm _ _
structure dI where
 met:Int->Int
 low:Int->Int
 fe:Int
 ed:List Int
 bl:List (List Int)
def nV (f:Int->Int) (v x:Int):Int->Int:=fun y=>if y=v then x else f y
theorem oW (f:Int->Int) (v x:Int):nV f v x v=x:=if_pos rfl
theorem mD {f:Int->Int} {v x y:Int} (h:y≠v):nV f v x y=f y:=if_neg h
def lj (l:List Int) (bl:List (List Int)):List (List Int):=if bl.any (fun m=>decide (m.getD 0 0=l.getD 0 0)) then bl.map (fun m=>if m.getD 0 0=l.getD 0 0 then l else m) else bl++[l]
theorem CS {l:List Int} {bl:List (List Int)} (h:∀ m∈bl,m.getD 0 0≠l.getD 0 0):lj l bl=bl++[l]:=by
 grind [lj]
theorem Ni {l:List Int} {bl:List (List Int)} (hx:∃ m∈bl,m.getD 0 0=l.getD 0 0) (h:∀ m∈bl,m.getD 0 0=l.getD 0 0->m=l):lj l bl=bl:=by
 unfold lj;obtain⟨m,hm,e⟩:=hx;rw[if_pos (List.any_eq_true.2 ⟨m,hm,decide_eq_true e⟩)];have:bl.map (fun m=>if m.getD 0 0=l.getD 0 0 then l else m)=bl.map id:=List.map_congr_left fun k hk=>by
  all_goals grind
 rw[this,List.map_id]
def dI.enter (s:dI) (v:Int):dI:={ s with met:=nV s.met v (s.fe+1),low:=nV s.low v (s.fe+1),fe:=s.fe+1 }
def dI.push (s:dI) (e:Int):dI:={ s with ed:=s.ed++[e] }
def dI.lower (s:dI) (v x:Int):dI:={ s with low:=nV s.low v (min (s.low v) x) }
def dI.take (s:dI) (e:Int):dI:={ s with ed:=s.ed.take (s.ed.idxOf e),bl:=lj (Gt (s.ed.drop (s.ed.idxOf e))) s.bl }
def dI.lay (s:dI) (e:Int):dI:={ s with bl:=lj [e] s.bl }
def dI.back (t:dI) (v w e:Int):dI:=if t.met v<=t.low w then (t.lower v (t.low w)).take e else t.lower v (t.low w)
def fV (go:Int->Int->dI->dI) (g:Gr) (v via:Int) (s:dI) (d:Int):dI :=
 if g.head d=v then s.lay (d / 2)
 else if d / 2=via then s
 else if s.met (g.head d)=0 then (go (g.head d) (d / 2) (s.push (d / 2))).back v (g.head d) (d / 2)
 else if s.met (g.head d)<s.met v then (s.push (d / 2)).lower v (s.met (g.head d))
 else s
def visit (g:Gr) (p:Pt):Nat->Int->Int->dI->dI
 | 0,_,_,s=>s
 | n+1,v,via,s=>(aF g p v).foldl (fV (visit g p n) g v via) (s.enter v)
def gz (s t:dI) (x:Int):Prop:=s.met x=0/\t.met x≠0
def km (g:Gr) (s:dI) (e:Int):Prop:=s.met (g.at e).1≠0/\s.met (g.at e).2≠0
structure DOk (g:Gr) (p:Pt) (s:dI) (A:List Int):Prop where
 fe:0<=s.fe
 num:∀ x,0<=s.met x/\s.met x<=s.fe
 inj:∀ x y,s.met x≠0->s.met x=s.met y->x=y
 act:∀ a∈A,s.met a≠0
 Oo:∀ x,s.met x≠0->x∈p.v
 fin:∀ d∈p.ah,s.met (g.tail d)≠0->g.tail d ∉ A->s.met (g.head d)≠0
 Du:∀ l∈s.bl,l≠[]
 Td:∀ l∈s.bl,∀ e∈l,e∈p.e/\km g s e
 n4:∀ l∈s.bl,∀ e∈l,(g.at e).1=(g.at e).2->l=[e]
structure zq (g:Gr) (p:Pt) (s:dI) (A:List Int) (v via:Int):Prop where
 cH:DOk g p s A
 vV:v∈p.v
 vn:s.met v=0
 par:(A=[]/\via = -1)\/∃ d∈p.ah,d / 2=via/\g.head d=v/\g.tail d∈A
 Oq:∀ e∈s.ed,e=via\/(e∈p.e/\km g s e)
 Hk:∀ e∈s.ed,e∈p.e/\(g.at e).1≠(g.at e).2
def Sx (g:Gr) (p:Pt) (s t:dI) (v via:Int) (pre:List Int) (e:Int):Prop:=e≠via/\∃ d∈p.ah,d / 2=e/\gz s t (g.tail d)/\(g.tail d≠v\/d∈pre)
def Fst (g:Gr) (p:Pt) (B:List Int):Prop:=(∃ e∈p.e,B=[e]/\(g.at e).1=(g.at e).2) \/
 ∃ z∈p.v,∃ Y:Int->Prop,¬ Y z/\(∀ d∈p.ah,Y (g.tail d)->Y (g.head d)\/g.head d=z)/\(∀ e,e∈B↔∃ d∈p.ah,d / 2=e/\Y (g.tail d))
structure cK (g:Gr) (p:Pt) (s t:dI) (A:List Int) (v via:Int) (pre:List Int):Prop where
 cH:DOk g p t (A++[v])
 old:∀ x,s.met x≠0->t.met x=s.met x/\t.low x=s.low x
 me:t.met v=s.fe+1
 later:∀ x,gz s t x->s.fe<t.met x
 tree:∀ x,gz s t x->∀ z,¬ gz s t z->b9 g p z v x
 seen:∀ d∈pre,t.met (g.head d)≠0
 IS:t.low v<=t.met v
 DL:t.low v<t.met v->∃ d∈p.ah,gz s t (g.tail d)/\g.head d∈A/\s.met (g.head d)=t.low v/\d / 2≠via
 J6:∀ d∈p.ah,gz s t (g.tail d)->(g.tail d=v->d∈pre)->g.head d∈A->d / 2≠via->t.low v<=s.met (g.head d)
 Oq:∀ e∈t.ed,e∈p.e/\km g t e
 Hk:∀ e∈t.ed,(g.at e).1≠(g.at e).2
 yW:∃ R N,t.ed=s.ed++R/\t.bl=s.bl++N/\(R++N.flatten).Nodup/\∀ e,e∈R++N.flatten↔Sx g p s t v via pre e
 cut:t.bl=s.bl->∀ z x,gz s t z->gz s t x->x≠z->(z≠v/\b9 g p z x v)\/∃ y∈A,b9 g p z x y
 fst:s.bl=[]->∀ B l,t.bl=B :: l->Fst g p B
 Q':A=[]->t.ed=s.ed
 Sp:A=[]->t.bl=s.bl->∀ x,gz s t x->x=v
 aaI:A=[]->t.bl.length<=s.bl.length+1->∀ z x y,gz s t z->gz s t x->gz s t y->x≠z->y≠z->b9 g p z x y
def Jd (p:Pt) (s:dI):Nat:=(p.v.filter fun x=>decide (s.met x=0)).length
variable {g : Gr} {p : Pt} {s t : dI} {A pre : List Int} {v via : Int}
theorem kR {α:Type} {f h:α->Bool}:∀ {l:List α},(∀ x∈l,f x=true->h x=true)->(l.filter f).length<=(l.filter h).length
 | [],_=>QB _
 | x :: l,q=>by
  have ih:=kR (f:=f) (h:=h) (l:=l) fun y hy=>q y (Qo _ hy);cases e:f x with
  | true=>rw[Qc e,Qc (q x (by simp) e)];simpa using ih
  | false =>
   rw[Qg (by simp[e])];cases e2:h x with
   | true=>rw[Qc e2];simp;omega
   | false=>rw[Qg (by simp[e2])];exact ih
theorem im {α:Type} {f h:α->Bool} {a:α}:∀ {l:List α},(∀ x∈l,f x=true->h x=true)->a∈l->f a=false->h a=true->(l.filter f).length<(l.filter h).length
 | [],_,ha,_,_=>by simp at ha
 | x :: l,q,ha,h1,h2=>by
  have le:=kR (f:=f) (h:=h) (l:=l) fun y hy=>q y (Qo _ hy);rcases Qk.1 ha with e | CR
  ·subst e
   rw[Qg (by simp[h1]),Qc h2];simp;omega
  have ih:=im (f:=f) (h:=h) (l:=l) (fun y hy=>q y (Qo _ hy)) CR h1 h2;cases e:f x with
  | true=>rw[Qc e,Qc (q x (by simp) e)];simpa using ih
  | false =>
   rw[Qg (by simp[e])];cases e2:h x with
   | true=>rw[Qc e2];simp;omega
   | false=>rw[Qg (by simp[e2])];exact ih
theorem jU {l:List Int} {n:Nat} (h:n<l.length):l.getD n 0∈l:=by grind
theorem gu {d e:Int} (h:d / 2=e / 2):d=e\/e=aT d:=by grind [aT]
theorem gM (g:Gr) (d:Int):(g.tail d=(g.at (d / 2)).1/\g.head d=(g.at (d / 2)).2)\/(g.tail d=(g.at (d / 2)).2/\g.head d=(g.at (d / 2)).1):=by
 all_goals grind [Gr.tail,Gr.head]
theorem ie {d:Int}:km g s (d / 2)↔s.met (g.tail d)≠0/\s.met (g.head d)≠0:=by
 all_goals grind [km,gM]
theorem rK {d:Int}:(g.at (d / 2)).1=(g.at (d / 2)).2↔g.tail d=g.head d:=by
 all_goals grind [gM]
theorem yi {e:Int} (he:e∈p.e):∃ d∈p.ah,d / 2=e/\g.tail d=(g.at e).1/\g.head d=(g.at e).2 :=
 ⟨2*e,aw.2 (by rwa[show 2*e / 2=e by omega]),by omega,(et g e).1,(et g e).2⟩
theorem cK.start (hp:aB g p) (h:zq g p s A v via):cK g p s (s.enter v) A v via []:=by
 have hg:=h.cH;have sR:∀ x,gz s (s.enter v) x↔x=v:=fun x=>by
  unfold gz dI.enter;constructor
  ·rintro ⟨h1,h2⟩
   refine Qf fun e=>h2 ?_;show nV s.met v _ x=0;rw[mD e];exact h1
  rintro rfl;refine⟨h.vn,?_⟩;show nV s.met x _ x≠0;rw[oW];have:=hg.fe;omega
 have wS:∀ x,x≠v->(s.enter v).met x=s.met x:=fun x hx=>mD hx;have O9:(s.enter v).met v=s.fe+1:=oW _ _ _;have gU:∀ x,s.met x≠0->(s.enter v).met x≠0:=fun x hx=>by
  by_cases e:x=v
  ·rw[e,O9];have:=hg.fe;omega
  all_goals grind
 have sQ:∀ e,km g s e->km g (s.enter v) e:=fun e hb=>⟨gU _ hb.1,gU _ hb.2⟩;have fX:(s.enter v).low v=s.fe+1:=oW _ _ _;refine⟨⟨?_,fun x=>?_,fun x y hx qI=>?_,fun a ha=>?_,fun x hx=>?_,fun d hd ht hn=>?_,hg.Du,fun l hl e he=>⟨(hg.Td l hl e he).1,sQ e (hg.Td l hl e he).2⟩,hg.n4⟩,fun x hx=>?_,O9,fun x hx=>?_,fun x hx z hz=>?_,by simp,?_,fun q=>?_,fun d _ hn Co=>?_,fun e he=>?_,fun e he=>(h.Hk e he).2,⟨[],[],by rw[Qi];rfl,by rw[Qi];rfl,by simp,fun e=>?_⟩,fun _ z x hz hx bh=>?_,fun hs B l hB=>?_,fun _=>rfl,fun _ _ x hx=>(sR x).1 hx,fun _ _ z x y hz hx _ PC _=>absurd (((sR x).1 hx).trans ((sR z).1 hz).symm) PC⟩
 ·show (0:Int)<=s.fe+1
  have:=hg.fe;omega
 ·have:=hg.num x
  all_goals grind [dI.enter]
 ·by_cases e1:x=v
  ·by_cases e2:y=v
   ·rw[e1,e2]
   rw[e1,O9,wS y e2] at qI;have:=(hg.num y).2;omega
  by_cases e2:y=v
  ·rw[e2,O9,wS x e1] at qI
   have:=(hg.num x).2;omega
  rw[wS x e1] at hx qI;rw[wS y e2] at qI;exact hg.inj x y hx qI
 ·rcases Qa.1 ha with q | q
  ·exact gU a (hg.act a q)
  rw[Qb.1 q,O9];have:=hg.fe;omega
 ·by_cases e:x=v
  ·rw[e];exact h.vV
  rw[wS x e] at hx;exact hg.Oo x hx
 ·have zP:g.tail d≠v:=fun e=>hn (by grind)
  rw[wS _ zP] at ht;exact gU _ (hg.fin d hd ht fun q=>hn (Qe _ q))
 ·have e:x≠v:=fun e=>hx (by rw[e];exact h.vn)
  exact⟨wS x e,mD e⟩
 ·grind
 ·rw[(sR x).1 hx];exact .here
 ·grind
 ·grind
 ·grind
 ·rcases h.Oq e he with q | q
  ·rcases h.par with ⟨-,hm⟩ | ⟨d,hd,sZ,hh,ha⟩
   ·have:=hp.er e (h.Hk e he).1;omega
   subst q;refine⟨(h.Hk e he).1,?_⟩;rw[<-sZ,ie,hh,O9];exact⟨gU _ (hg.act _ ha),by have:=hg.fe;omega⟩
  all_goals grind
 ·simp only[Qr,Qi,List.not_mem_nil,false_iff]
  rintro ⟨-,d,-,-,hn,q | q⟩
  all_goals grind
 ·exact absurd ((sR x).1 hx |>.trans ((sR z).1 hz).symm) bh
 rw[show (s.enter v).bl=s.bl from rfl,hs] at hB;cases hB
variable {g : Gr} {p : Pt} {s t : dI} {A pre : List Int} {v via : Int}
theorem zq.vA (h:zq g p s A v via):v ∉ A:=fun q=>h.cH.act v q h.vn
theorem zq.uA (h:zq g p s A v via) (hp:aB g p) {d:Int} (hd:d∈p.ah) (hv:g.tail d=v) (he:d / 2=via):g.head d∈A:=by
 rcases h.par with ⟨-,q⟩ | ⟨c,hc,bA,hh,ha⟩
 ·have:=hp.er _ (aw.1 hd);omega
 rcases gu (bA.trans he.symm) with r | r
 ·exact absurd (by rw[<-hv,<-r];exact ha) h.vA
 have:g.head d=g.tail c:=by rw[r,<-aS,bC]
 rw[this];exact ha
theorem cK.mono (h:cK g p s t A v via pre) {x:Int} (hx:s.met x≠0):t.met x≠0:=by rw[(h.old x hx).1];exact hx
theorem cK.xl (hE:zq g p s A v via) (h:cK g p s t A v via pre):gz s t v:=⟨hE.vn,by rw[h.me];have:=hE.cH.fe;omega⟩
theorem cK.inA (hE:zq g p s A v via) (_h:cK g p s t A v via pre) {d:Int} (hd:d∈p.ah) (hn:gz s t (g.tail d)) (hm:s.met (g.head d)≠0):g.head d∈A:=by
 refine Qf fun q=>?_;have:=hE.cH.fin (aT d) (bQ hd) (by grind [aS]) (by grind [aS]);rw[<-aS,bC] at this;exact this hn.1
theorem cK.same (h:cK g p s t A v via pre) {d:Int} (hs:t.met (g.head d)≠0) (fX:g.head d∈A->d / 2≠via->t.low v<=s.met (g.head d)) (Za:d / 2≠via->Sx g p s t v via pre (d / 2)):cK g p s t A v via (pre++[d]):=by
 obtain⟨R,N,e1,e2,e3,e4⟩:=h.yW;refine⟨h.cH,h.old,h.me,h.later,h.tree,fun c hc=>?_,h.IS,h.DL,fun c hc hn Co hA hv=>?_,h.Oq,h.Hk,⟨R,N,e1,e2,e3,fun e=>?_⟩,h.cut,h.fst,h.Q',h.Sp,h.aaI⟩
 ·rcases Qa.1 hc with q | q
  ·exact h.seen c q
  all_goals grind
 ·by_cases q:g.tail c=v/\c ∉ pre
  ·have h1:=Co q.1
   rcases Qa.1 h1 with r | r
   ·exact absurd r q.2
   rw[Qb.1 r] at hA hv ⊢;exact fX hA hv
  exact h.J6 c hc hn (fun r=>Qf fun u=>q ⟨r,u⟩) hA hv
 rw[e4];constructor
 ·rintro ⟨h1,c,hc,h2,h3,h4⟩
  exact⟨h1,c,hc,h2,h3,h4.imp id fun q=>Qe _ q⟩
 rintro ⟨h1,c,hc,h2,h3,h4⟩;rcases h4 with q | q
 ·exact⟨h1,c,hc,h2,h3,Qd q⟩
 rcases Qa.1 q with r | r
 ·exact⟨h1,c,hc,h2,h3,Qh r⟩
 all_goals grind
theorem cK.loop (hp:aB g p) (hE:zq g p s A v via) (h:cK g p s t A v via pre) {d:Int} (hd:d∈p.ah) (hv:g.tail d=v) (hh:g.head d=v):cK g p s (t.lay (d / 2)) A v via (pre++[d]):=by
 have px:(g.at (d / 2)).1=(g.at (d / 2)).2:=rK.2 (hv.trans hh.symm);have Ax:t.met v≠0:=(h.xl hE).2;have Jc:d / 2≠via:=fun q=>hE.vA (by grind [zq.uA]);by_cases hc:Sx g p s t v via pre (d / 2)
 ·have jj:(t.lay (d / 2))=t:=by
   obtain⟨R,N,e1,e2,e3,e4⟩:=h.yW;have hm:=(e4 _).2 hc;have hN:d / 2∈N.flatten:=by
    rcases Qa.1 hm with q | q
    ·exact absurd px (h.Hk _ (by grind))
    exact q
   obtain⟨l,hl,lR⟩:=Qy.1 hN;have aL:l∈t.bl:=by rw[e2];exact Qn _ hl
   have hle:=h.cH.n4 l aL _ lR px;unfold dI.lay;rw[Ni ⟨l,aL,by rw[hle]⟩ fun m hm q=>?_];have mY:d / 2∈m:=by
    have h0:m.getD 0 0∈m:=jU (Qt.2 (h.cH.Du m hm))
    grind
   exact h.cH.n4 m hm _ mY px
  rw[jj];exact h.same (by grind) (fun q=>absurd (by grind) hE.vA) fun _=>hc
 have RU:∀ m∈t.bl,d / 2 ∉ m:=fun m hm rO=>by
  obtain⟨R,N,e1,e2,e3,e4⟩:=h.yW;rw[e2] at hm;rcases Qa.1 hm with q | q
  ·have:=(ie.1 (hE.cH.Td m q _ rO).2).1
   rw[hv] at this;exact this hE.vn
  exact hc ((e4 _).1 (Qn _ (Qy.2 ⟨m,q,rO⟩)))
 have jj:(t.lay (d / 2)).bl=t.bl++[[d / 2]]:=CS fun m hm q=>by
  have h0:m.getD 0 0∈m:=jU (Qt.2 (h.cH.Du m hm))
  grind
 obtain⟨t',Dw⟩:∃ t',t.lay (d / 2)=t':=⟨_,rfl⟩;have m1:t'.met=t.met:=by rw[<-Dw];rfl
 have m2:t'.low=t.low:=by rw[<-Dw];rfl
 have m3:t'.ed=t.ed:=by rw[<-Dw];rfl
 have m4:t'.fe=t.fe:=by rw[<-Dw];rfl
 rw[Dw] at jj ⊢;have hN:∀ x,gz s t' x↔gz s t x:=fun x=>by unfold gz;rw[m1]
 have hB:∀ e,km g t' e↔km g t e:=fun e=>by unfold km;rw[m1]
 have hG:=h.cH;have rI:km g t (d / 2):=ie.2 ⟨by grind,by grind⟩;obtain⟨R,N,e1,e2,e3,e4⟩:=h.yW;refine⟨⟨by rw[m4];exact hG.fe,by rw[m1,m4];exact hG.num,by rw[m1];exact hG.inj,by rw[m1];exact hG.act,by rw[m1];exact hG.Oo,by rw[m1];exact hG.fin,fun l hl=>?_,fun l hl e he=>?_,fun l hl e he hle=>?_⟩,by rw[m1,m2];exact h.old,by rw[m1];exact h.me,fun x hx=>by rw[m1];exact h.later x ((hN x).1 hx),fun x hx z hz=>h.tree x ((hN x).1 hx) z fun q=>hz ((hN z).2 q),fun c hc=>?_,by rw[m1,m2];exact h.IS,?_,fun c hc hn Co hA hv=>?_,fun e he=>by rw[m3] at he;exact⟨(h.Oq e he).1,(hB e).2 (h.Oq e he).2⟩,by rw[m3];exact h.Hk,⟨R,N++[[d / 2]],by grind,by grind,?_,fun e=>?_⟩,fun q=>?_,fun hs B l hBl=>?_,fun q=>by rw[m3];exact h.Q' q,fun _ q=>?_,fun q1 q=>?_⟩
 ·rw[jj] at hl
  rcases Qa.1 hl with q | q
  ·exact hG.Du l q
  all_goals grind
 ·rw[jj] at hl
  rw[hB];rcases Qa.1 hl with q | q
  ·exact hG.Td l q e he
  all_goals grind [aw]
 ·rw[jj] at hl
  rcases Qa.1 hl with q | q
  ·exact hG.n4 l q e he hle
  all_goals grind
 ·rw[m1]
  rcases Qa.1 hc with q | q
  ·exact h.seen c q
  all_goals grind
 ·intro q
  rw[m1,m2] at q;obtain⟨c,hc,k1,k2,k3,k4⟩:=h.DL q
  grind
 ·rw[m2]
  by_cases q:c=d
  ·rw[q,hh] at hA;exact absurd hA hE.vA
  exact h.J6 c hc ((hN _).1 hn) (fun r=>(Qa.1 (Co r)).resolve_right fun u=>q (Qb.1 u)) hA hv
 ·grind
 ·rw[Qu,<-Qx,Qa,e4]
  simp only[Ql,Qr,Qi,Qb];constructor
  ·rintro (⟨h1,c,hc,h2,h3,h4⟩ | rfl)
   ·exact⟨h1,c,hc,h2,(hN _).2 h3,h4.imp id fun q=>Qe _ q⟩
   exact⟨Jc,d,hd,rfl,(hN _).2 (by grind [cK.xl]),Qh (by simp)⟩
  rintro ⟨h1,c,hc,h2,h3,h4⟩;rcases h4 with q | q
  ·exact Qd ⟨h1,c,hc,h2,(hN _).1 h3,Qd q⟩
  rcases Qa.1 q with r | r
  ·exact Qd ⟨h1,c,hc,h2,(hN _).1 h3,Qh r⟩
  all_goals grind
 ·rw[jj,e2,Qx] at q
  have:=congrArg QN q;simp at this
 ·rw[jj] at hBl
  cases hq:t.bl with
  | nil =>
   rw[hq] at hBl;cases hBl;exact Qd ⟨d / 2,aw.1 hd,rfl,px⟩
  | cons B' l' =>
   rw[hq,Qs] at hBl;injection hBl with k1 k2
   rw[<-k1];exact h.fst hs B' l' hq
 ·exfalso
  rw[jj,e2,Qx] at q;have:=congrArg QN q;simp at this
 intro z x y hz hx _ PC _;have CD:t.bl=s.bl:=by
  rw[jj,e2] at q;simp only[Qv,List.length_singleton] at q
  grind
 exact absurd ((h.Sp q1 CD x ((hN x).1 hx)).trans (h.Sp q1 CD z ((hN z).1 hz)).symm) PC
theorem cK.up (_hp:aB g p) (hE:zq g p s A v via) (h:cK g p s t A v via pre) {d:Int} (hd:d∈p.ah) (hv:g.tail d=v) (BD:d ∉ pre) (hh:g.head d≠v) (Jc:d / 2≠via) (hm:t.met (g.head d)≠0) (aL:t.met (g.head d)<t.met v) :
  cK g p s ((t.push (d / 2)).lower v (t.met (g.head d))) A v via (pre++[d]):=by
 have zP:=h.xl hE;have dK:s.met (g.head d)≠0:=fun q=>by
  have:=h.later _ ⟨q,hm⟩;rw[h.me] at aL;omega
 have hA:g.head d∈A:=h.inA hE hd (by grind) dK;have hold:=(h.old _ dK).1;obtain⟨t',Dw⟩:∃ t',(t.push (d / 2)).lower v (t.met (g.head d))=t':=⟨_,rfl⟩;have m1:t'.met=t.met:=by rw[<-Dw];rfl
 have m2:∀ x,x≠v->t'.low x=t.low x:=fun x hx=>by rw[<-Dw];exact mD hx
 have m3:t'.ed=t.ed++[d / 2]:=by rw[<-Dw];rfl
 have m4:t'.fe=t.fe:=by rw[<-Dw];rfl
 have m5:t'.bl=t.bl:=by rw[<-Dw];rfl
 have m6:t'.low v=min (t.low v) (t.met (g.head d)):=by rw[<-Dw];exact oW _ _ _
 rw[Dw];have hN:∀ x,gz s t' x↔gz s t x:=fun x=>by unfold gz;rw[m1]
 have hB:∀ e,km g t' e↔km g t e:=fun e=>by unfold km;rw[m1]
 have hG:=h.cH;have rI:km g t (d / 2):=ie.2 ⟨by rw[hv];exact zP.2,hm⟩;have sU:¬ Sx g p s t v via pre (d / 2):=by
  rintro ⟨-,c,hc,h2,h3,h4⟩;rcases gu h2.symm with q | q
  ·rcases h4 with r | r
   ·exact r (by rw[<-q];exact hv)
   exact BD (by rw[q];exact r)
  have:g.tail c=g.head d:=by rw[q,aS]
  rw[this] at h3;exact dK h3.1
 obtain⟨R,N,e1,e2,e3,e4⟩:=h.yW;refine⟨⟨by rw[m4];exact hG.fe,by rw[m1,m4];exact hG.num,by rw[m1];exact hG.inj,by rw[m1];exact hG.act,by rw[m1];exact hG.Oo,by rw[m1];exact hG.fin,by rw[m5];exact hG.Du,fun l hl e he=>?_,by rw[m5];exact hG.n4⟩,fun x hx=>?_,by rw[m1];exact h.me,fun x hx=>by rw[m1];exact h.later x ((hN x).1 hx),fun x hx z hz=>h.tree x ((hN x).1 hx) z fun q=>hz ((hN z).2 q),fun c hc=>?_,?_,fun q=>?_,fun c hc hn Co Xo rX=>?_,fun e he=>?_,fun e he=>?_,⟨R++[d / 2],N,by grind,by grind,?_,fun e=>?_⟩,fun q z x hz hx bh=>?_,by rw[m5];exact h.fst,fun q=>absurd hA (by grind),fun q=>absurd hA (by grind),fun q=>absurd hA (by grind)⟩
 ·rw[m5] at hl
  rw[hB];exact hG.Td l hl e he
 ·have YE:x≠v:=fun e=>hx (by rw[e];exact hE.vn)
  rw[m1,m2 x YE];exact h.old x hx
 ·rw[m1]
  rcases Qa.1 hc with q | q
  ·exact h.seen c q
  all_goals grind
 ·grind
 ·rw[m6,m1] at q
  by_cases r:t.low v<=t.met (g.head d)
  ·obtain⟨c,hc,k1,k2,k3,k4⟩:=h.DL (by omega)
   grind
  all_goals grind
 ·rw[m6]
  by_cases q:c=d
  ·rw[q,<-hold];omega
  have:=h.J6 c hc ((hN _).1 hn) (fun r=>(Qa.1 (Co r)).resolve_right fun u=>q (Qb.1 u)) Xo rX;omega
 ·rw[m3] at he
  rw[hB];rcases Qa.1 he with q | q
  ·exact h.Oq e q
  all_goals grind [aw]
 ·rw[m3] at he
  rcases Qa.1 he with q | q
  ·exact h.Hk e q
  all_goals grind [rK]
 ·grind
 ·have jo:e∈R++[d / 2]++N.flatten↔e=d / 2\/e∈R++N.flatten:=by
   all_goals grind
  rw[jo,e4];constructor
  ·rintro (rfl | ⟨h1,c,hc,h2,h3,h4⟩)
   ·exact⟨Jc,d,hd,rfl,(hN _).2 (by grind),Qh (by simp)⟩
   exact⟨h1,c,hc,h2,(hN _).2 h3,h4.imp id fun q=>Qe _ q⟩
  rintro ⟨h1,c,hc,h2,h3,h4⟩;rcases h4 with q | q
  ·exact Qh ⟨h1,c,hc,h2,(hN _).1 h3,Qd q⟩
  rcases Qa.1 q with r | r
  ·exact Qh ⟨h1,c,hc,h2,(hN _).1 h3,Qh r⟩
  all_goals grind
 rw[m5] at q;exact h.cut q z x ((hN z).1 hz) ((hN x).1 hx) bh
variable {g : Gr} {p : Pt} {s t t2 : dI} {A pre : List Int} {v via : Int}
theorem cK.ent (hp:aB g p) (hE:zq g p s A v via) (h:cK g p s t A v via pre) {d:Int} (hd:d∈p.ah) (hv:g.tail d=v) (hm:t.met (g.head d)=0):zq g p (t.push (d / 2)) (A++[v]) (g.head d) (d / 2):=by
 have hG:=h.cH;have zP:=h.xl hE;refine⟨⟨hG.fe,hG.num,hG.inj,hG.act,hG.Oo,hG.fin,hG.Du,hG.Td,hG.n4⟩,(hp.aO hd).2,hm,Qh ⟨d,hd,rfl,rfl,by grind⟩,fun e he=>?_,fun e he=>?_⟩
 ·rcases Qa.1 he with q | q
  ·exact Qh (h.Oq e q)
  all_goals grind
 rcases Qa.1 he with q | q
 ·exact⟨(h.Oq e q).1,h.Hk e q⟩
 rw[Qb.1 q];exact⟨aw.1 hd,fun r=>zP.2 (by grind [rK])⟩
theorem cK.Ee (h:cK g p s t A v via pre) {d:Int} (hm:t.met (g.head d)=0):d / 2 ∉ t.ed:=fun q=>(ie.1 (h.Oq _ q).2).2 hm
theorem cK.child (hp:aB g p) (hE:zq g p s A v via) (h:cK g p s t A v via pre) {d:Int} (hd:d∈p.ah) (hv:g.tail d=v) (BD:d ∉ pre) (Jc:d / 2≠via) (hm:t.met (g.head d)=0)
  (hS:cK g p (t.push (d / 2)) t2 (A++[v]) (g.head d) (d / 2) (aF g p (g.head d))):cK g p s (t2.back v (g.head d) (d / 2)) A v via (pre++[d]):=by
 have zP:=h.xl hE;have Wh:=h.ent hp hE hd hv hm;obtain⟨w,hw⟩:∃ w,g.head d=w:=⟨_,rfl⟩;obtain⟨e,he⟩:∃ e,d / 2=e:=⟨_,rfl⟩;have hfe:=h.Ee hm;have hdE:e∈p.e:=by rw[<-he];exact aw.1 hd
 have sU:¬ Sx g p s t v via pre e:=by
  rintro ⟨-,c,hc,h2,h3,h4⟩;rw[<-he] at h2;rcases gu h2.symm with q | q
  ·rcases h4 with r | r
   ·exact r (by rw[<-q];exact hv)
   exact BD (by rw[q];exact r)
  have:g.tail c=g.head d:=by rw[q,aS]
  rw[this] at h3;exact h3.2 hm
 rw[hw] at hm Wh hS ⊢;rw[he] at Wh hS Jc hfe ⊢;have VQ:w≠v:=fun q=>zP.2 (q ▸ hm);have f1:∀ x,t.met x≠0->t2.met x=t.met x/\t2.low x=t.low x:=fun x hx=>hS.old x hx;have hX:∀ x,gz (t.push e) t2 x↔t.met x=0/\t2.met x≠0:=fun x=>Iff.rfl;have f2:∀ x,gz s t2 x↔gz s t x\/gz (t.push e) t2 x:=fun x=>by
  constructor
  ·rintro ⟨h1,h2⟩
   by_cases q:t.met x=0
   ·exact Qh ⟨q,h2⟩
   exact Qd ⟨h1,q⟩
  rintro (⟨h1,h2⟩ | ⟨h1,h2⟩)
  ·exact⟨h1,by grind⟩
  exact⟨Classical.byContradiction fun q=>h.mono q h1,h2⟩
 have hXw:gz (t.push e) t2 w:=hS.xl Wh;have Kg:¬ gz (t.push e) t2 v:=fun q=>zP.2 q.1;have mv:t2.met v=s.fe+1:=by rw[(f1 v zP.2).1,h.me]
 have lv:t2.low v=t.low v:=(f1 v zP.2).2;have jI:oI g p v w:=by rw[<-hv,<-hw];exact eR hd
 -- aq out of the new ones
 have fg:∀ c∈p.ah,gz (t.push e) t2 (g.tail c)->t2.met (g.head c)≠0:=fun c hc hn=>by
  by_cases q:g.tail c=w
  ·exact hS.seen c (bg.2 ⟨hc,q⟩)
  refine hS.cH.fin c hc hn.2 fun r=>?_;rcases Qa.1 r with r | r
  ·exact Wh.cH.act _ r hn.1
  all_goals grind
 obtain⟨R1,N1,a1,a2,a3,a4⟩:=h.yW;obtain⟨R2,N2,b1,b2,b3,b4⟩:=hS.yW;have UP:t2.ed=t.ed++e :: R2:=by rw[b1];show (t.ed++[e])++R2=_;simp
 have jj:t2.bl=t.bl++N2:=b2;have SU:∀ x∈e :: R2,¬ km g t x:=by
  intro x hx hb;rcases Qk.1 hx with q | q
  ·rw[q,<-he,ie,hw] at hb;exact hb.2 hm
  obtain⟨-,c,hc,h2,h3,-⟩:=(b4 x).1 (Qe _ q);rw[<-h2,ie] at hb;exact hb.1 h3.1
 have Xg:∀ x,Sx g p s t v via pre x->Sx g p (t.push e) t2 w e (aF g p w) x->False:=by
  rintro x ⟨-,c',G5,h2',I9,h4'⟩ ⟨-,c,hc,h2,h3,-⟩;rcases gu (h2.trans h2'.symm) with q | q
  ·rw[<-q] at I9;exact I9.2 h3.1
  have e1:g.head c'=g.tail c:=by rw[q,<-aS,bC]
  by_cases r:g.tail c'=v
  ·have:=h.seen c' (h4'.resolve_left fun u=>u r)
   grind
  have:=h.cH.fin c' G5 I9.2 fun u=>by
   rcases Qa.1 u with u | u
   ·exact hE.cH.act _ u I9.1
   all_goals grind
  grind
 have gS:(e :: (R1++N1.flatten)++(R2++N2.flatten)).Nodup:=by
  rw[Qj];refine⟨List.nodup_cons.2 ⟨fun q=>sU ((a4 _).1 q),a3⟩,b3,fun x hx y hy q=>?_⟩;subst q;have h2:=(b4 x).1 hy;rcases Qk.1 hx with r | r
  ·exact h2.1 r
  all_goals grind
 have acz:∀ c∈p.ah,gz (t.push e) t2 (g.tail c)->c / 2≠via:=fun c hc hn q=>by
  rcases hE.par with ⟨-,r⟩ | ⟨k,hk,Fg,Yw,YF⟩
  ·have:=hp.er _ (aw.1 hc);omega
  rcases gu (q.trans Fg.symm) with r | r
  ·rw[r] at hn;exact h.mono (hE.cH.act _ YF) hn.1
  all_goals grind [aS,bC]
 have cL:∀ t3:dI,t3.met=t2.met->∀ x,x∈e :: (R1++N1.flatten)++(R2++N2.flatten)↔Sx g p s t3 v via (pre++[d]) x:=by
  intro t3 h3 x;have f3:∀ y,gz s t3 y↔gz s t y\/gz (t.push e) t2 y:=fun y=>by unfold gz;rw[h3];exact f2 y
  rw[Qa,Qk,a4,b4];constructor
  ·rintro ((rfl | ⟨h1,c,hc,h2,h3,h4⟩) | ⟨h1,c,hc,h2,h3,-⟩)
   ·exact⟨Jc,d,hd,he,(f3 _).2 (Qd (by grind)),Qh (by simp)⟩
   ·exact⟨h1,c,hc,h2,(f3 _).2 (Qd h3),h4.imp id fun q=>Qe _ q⟩
   exact⟨by grind,c,hc,h2,(f3 _).2 (Qh h3),Qd fun q=>Kg (q ▸ h3)⟩
  rintro ⟨h1,c,hc,h2,h3,h4⟩;rcases (f3 _).1 h3 with q | q
  ·rcases h4 with r | r
   ·exact Qd (Qh ⟨h1,c,hc,h2,q,Qd r⟩)
   rcases Qa.1 r with r | r
   ·exact Qd (Qh ⟨h1,c,hc,h2,q,Qh r⟩)
   all_goals grind
  by_cases r:x=e
  ·exact Qd (Qd r)
  exact Qh ⟨r,c,hc,h2,q,(QL (g.tail c=w)).elim (fun u=>Qh (bg.2 ⟨hc,u⟩)) Qd⟩
 -- what both ways have
 have all:∀ t3:dI,t3.met=t2.met->t3.fe=t2.fe->(∀ x,x≠v->t3.low x=t2.low x)->t3.low v=min (t.low v) (t2.low w)->(∀ x∈t3.ed,x∈t2.ed) ->
   (∀ l∈t3.bl,l≠[])->(∀ l∈t3.bl,∀ x∈l,x∈p.e/\km g t2 x)->(∀ l∈t3.bl,∀ x∈l,(g.at x).1=(g.at x).2->l=[x]) ->
   (∃ R N,t3.ed=s.ed++R/\t3.bl=s.bl++N/\(R++N.flatten).Perm (e :: (R1++N1.flatten)++(R2++N2.flatten))) ->
   (t3.bl=s.bl->t.bl=s.bl/\t2.bl=t.bl/\t2.low w<t2.met v)->(s.bl=[]->∀ B l,t3.bl=B :: l->Fst g p B)->(A=[]->t3.ed=s.ed/\t3.bl.length=t2.bl.length+1)->cK g p s t3 A v via (pre++[d]):=by
  intro t3 m1 m4 m2 m6 acx Yl sQ hbL Za hcut ai5 acv;have f3:∀ y,gz s t3 y↔gz s t y\/gz (t.push e) t2 y:=fun y=>by unfold gz;rw[m1];exact f2 y
  have hB:∀ x,km g t3 x↔km g t2 x:=fun x=>by unfold km;rw[m1]
  have hG:=hS.cH;obtain⟨R,N,c1,c2,c3⟩:=Za;refine⟨⟨by rw[m4];exact hG.fe,by rw[m1,m4];exact hG.num,by rw[m1];exact hG.inj,fun a ha=>by rw[m1];exact hG.act a (Qe _ ha),by rw[m1];exact hG.Oo,fun c hc ht hn=>?_,Yl,fun l hl x hx=>by grind,hbL⟩,fun x hx=>?_,by grind,fun x hx=>?_,fun x hx z hz=>?_,fun c hc=>?_,?_,fun q=>?_,fun c hc hn Co hA rX=>?_,fun x hx=>?_,fun x hx=>?_,⟨R,N,c1,c2,(c3.nodup_iff).2 gS,fun x=>(c3.mem_iff).trans (cL t3 m1 x)⟩,fun q z x hz hx bh=>?_,ai5,fun q=>(acv q).1,fun q r=>?_,fun q r z x y hz hx hy PC OZ=>?_⟩
  ·rw[m1] at ht ⊢
   by_cases q:g.tail c=w
   ·exact hS.seen c (bg.2 ⟨hc,q⟩)
   exact hG.fin c hc ht fun r=>(Qa.1 r).elim hn fun r=>q (Qb.1 r)
  ·have YE:x≠v:=fun q=>hx (by rw[q];exact hE.vn)
   rw[m1,m2 x YE,(f1 x (h.mono hx)).1,(f1 x (h.mono hx)).2];exact h.old x hx
  ·rw[m1]
   rcases (f3 x).1 hx with q | q
   ·rw[(f1 x q.2).1];exact h.later x q
   have h1:=hS.later x q;have h2:(t.push e).fe=t.fe:=rfl;have h3:=(h.cH.num v).2
   grind
  ·have jq:¬ gz s t z:=fun q=>hz ((f3 z).2 (Qd q))
   have nO:¬ gz (t.push e) t2 z:=fun q=>hz ((f3 z).2 (Qh q));rcases (f3 x).1 hx with q | q
   ·exact h.tree x q z jq
   exact (b9.step .here jI (fun r:w=z=>nO (r ▸ hXw))).trans (hS.tree x q z nO)
  ·rw[m1]
   rcases Qa.1 hc with q | q
   ·rw[(f1 _ (h.seen c q)).1];exact h.seen c q
   all_goals grind
  ·rw[m6,m1,mv]
   have:=h.IS
   grind
  ·rw[m6,m1,mv] at q
   by_cases r:t.low v<=t2.low w
   ·obtain⟨c,hc,k1,k2,k3,k4⟩:=h.DL (by grind)
    grind
   have hwm:t2.low w<t2.met w:=by
    have h1:=hS.me;have h2:(t.push e).fe=t.fe:=rfl;have h3:=(h.cH.num v).2
    grind
   obtain⟨c,hc,k1,k2,k3,k4⟩:=hS.DL hwm;have Xo:g.head c∈A:=(Qa.1 k2).resolve_right fun u=>by
    rw[Qb.1 u] at k3;have:(t.push e).met v=s.fe+1:=h.me;omega
   refine⟨c,hc,(f3 _).2 (Qh k1),Xo,?_,acz c hc k1⟩;rw[m6];have:(t.push e).met (g.head c)=s.met (g.head c):=(h.old _ (hE.cH.act _ Xo)).1;omega
  ·rw[m6]
   rcases (f3 _).1 hn with r | r
   ·by_cases u:c=d
    ·rw[u,hw] at hA
     exact absurd hm (h.mono (hE.cH.act _ hA))
    have:=h.J6 c hc r (fun k=>(Qa.1 (Co k)).resolve_right fun y=>u (Qb.1 y)) hA rX;omega
   have RC:c / 2≠e:=fun k=>by
    rw[<-he] at k;rcases gu k with y | y
    ·rw[y,hv] at r;exact Kg r
    have:g.head c=v:=by
     have h1:g.tail d=g.head c:=by rw[y,aS]
     rw[<-h1];exact hv
    rw[this] at hA;exact hE.vA hA
   have h1:=hS.J6 c hc r (fun k=>bg.2 ⟨hc,k⟩) (Qe _ hA) RC;have h2:(t.push e).met (g.head c)=s.met (g.head c):=(h.old _ (hE.cH.act _ hA)).1;omega
  ·rw[hB];exact hS.Oq x (acx x hx)
  ·exact hS.Hk x (acx x hx)
  ·obtain⟨k1,k2,k3⟩:=hcut q
   have hup:∃ c∈p.ah,gz (t.push e) t2 (g.tail c)/\g.head c∈A:=by
    have hwm:t2.low w<t2.met w:=by
     have h1:=hS.me;have h2:(t.push e).fe=t.fe:=rfl;have h3:=(h.cH.num v).2
     grind
    obtain⟨c,hc,j1,j2,j3,-⟩:=hS.DL hwm;exact⟨c,hc,j1,(Qa.1 j2).resolve_right fun u=>by
     rw[Qb.1 u] at j3;have:(t.push e).met v=s.fe+1:=h.me;omega⟩
   have aiz:∀ y,gz (t.push e) t2 y->y≠v:=fun y hy q=>Kg (q ▸ hy);have hNX:∀ y,gz s t y->¬ gz (t.push e) t2 y:=fun y hy q=>hy.2 q.1;by_cases FJ:gz (t.push e) t2 z
   ·have Lc:=aiz z FJ
    by_cases YV:gz (t.push e) t2 x
    ·rcases hS.cut k2 z x FJ YV bh with ⟨j1,j2⟩ | ⟨y,hy,j2⟩
     ·exact Qd ⟨Lc,j2.step jI.symm (Ne.symm Lc)⟩
     rcases Qa.1 hy with r | r
     all_goals grind
    have A5:=((f3 x).1 hx).resolve_right YV;exact Qd ⟨Lc,((h.tree x A5 z fun r=>hNX z r FJ).symm (Ne.symm Lc)).2⟩
   have hzs:=((f3 z).1 hz).resolve_right FJ;by_cases YV:gz (t.push e) t2 x
   ·by_cases Lc:z=v
    ·subst Lc
     obtain⟨c,hc,j1,j2⟩:=hup;have h1:=hS.tree x YV z FJ;have h2:=hS.tree (g.tail c) j1 z FJ;have OZ:g.head c≠z:=fun r=>hE.vA (r ▸ j2);exact Qh ⟨g.head c,j2,((h1.symm VQ).2.trans h2).step (eR hc) OZ⟩
    have h1:=hS.tree x YV z FJ;have UL:w≠z:=fun r=>FJ (r ▸ hXw);exact Qd ⟨Lc,(h1.symm UL).2.step jI.symm (Ne.symm Lc)⟩
   have A5:=((f3 x).1 hx).resolve_right YV;exact h.cut k1 z x hzs A5 bh
  ·grind
  have h1:=(acv q).2;rw[h1,jj,a2] at r;simp only[Qv] at r;have CD:t.bl=s.bl:=by rw[a2,Qw.1 (show N1.length=0 by omega),Qi]
  have ff:t2.bl=(t.push e).bl:=by
   show t2.bl=t.bl;rw[jj,Qw.1 (show N2.length=0 by omega),Qi]
  have Ab:∀ u,gz s t3 u->u=v\/gz (t.push e) t2 u:=fun u hu=>((f3 u).1 hu).imp (fun k=>h.Sp q CD u k) id;by_cases FJ:gz (t.push e) t2 z
  ·have Lc:z≠v:=fun k=>Kg (k ▸ FJ)
   have tov:∀ u,gz s t3 u->u≠z->b9 g p z u v:=fun u hu huz=>by
    rcases Ab u hu with k | k
    ·rw[k];exact .here
    rcases hS.cut ff z u FJ k huz with ⟨j1,j2⟩ | ⟨y',hy',j2⟩
    ·exact j2.step jI.symm (Ne.symm Lc)
    all_goals grind
   exact (tov x hx PC).trans ((tov y hy OZ).symm OZ).2
  have Lc:=(Ab z hz).resolve_right FJ;have tow:∀ u,gz s t3 u->u≠z->gz (t.push e) t2 u:=fun u hu huz=>(Ab u hu).resolve_left fun k=>huz (k.trans Lc.symm);have UL:w≠z:=fun k=>FJ (k ▸ hXw);exact ((hS.tree x (tow x hx PC) z FJ).symm UL).2.trans (hS.tree y (tow y hy OZ) z FJ)
 have T6:∀ l∈t2.bl,∀ x∈l,x∈p.e/\km g t2 x:=hS.cH.Td;unfold dI.back;by_cases htk:t2.met v<=t2.low w
 ·rw[if_pos htk]
  have qN:t2.ed.idxOf e=t.ed.length:=by
   grind
  have Nb:t2.ed.take (t2.ed.idxOf e)=t.ed:=by rw[qN,UP];exact QO rfl
  have aaj:t2.ed.drop (t2.ed.idxOf e)=e :: R2:=by rw[qN,UP];exact List.drop_left' rfl
  have Gf:lj (Gt (e :: R2)) t2.bl=t2.bl++[Gt (e :: R2)]:=CS fun m jo q=>by
   have h0:m.getD 0 0∈m:=jU (Qt.2 (hS.cH.Du m jo));have h1:(Gt (e :: R2)).getD 0 0∈e :: R2:=(jB _).mem_iff.1 (jU (by rw[(jB _).length_eq];simp));rw[<-q] at h1;rw[jj] at jo;rcases Qa.1 jo with r | r
   ·exact SU _ h1 (h.cH.Td m r _ h0).2
   have h2:m.getD 0 0∈R2++N2.flatten:=Qn _ (Qy.2 ⟨m,r,h0⟩);rcases Qk.1 h1 with u | u
   ·exact ((b4 _).1 h2).1 u
   exact (Qj.1 b3).2.2 _ u _ (Qy.2 ⟨m,r,h0⟩) rfl
  have Iz:((t2.lower v (t2.low w)).take e).ed=t.ed/\((t2.lower v (t2.low w)).take e).bl=t2.bl++[Gt (e :: R2)]:=by
   refine⟨Nb,?_⟩;show lj (Gt (t2.ed.drop (t2.ed.idxOf e))) t2.bl=_;rw[aaj,Gf]
  have heR:∀ x∈Gt (e :: R2),x∈t2.ed:=fun x hx=>by
   grind [jB]
  refine all _ rfl rfl (fun x hx=>mD hx) (by show nV t2.low v _ v=_;rw[oW,lv]) (fun x hx=>by grind) (fun l hl=>?_) (fun l hl x hx=>?_) (fun l hl x hx sW=>?_) ⟨R1,N1++N2++[Gt (e :: R2)],by grind,by grind,?_⟩ (fun q=>?_) (fun hs B l hB=>?_) (fun q=>⟨by rw[Iz.1];exact h.Q' q,by rw[Iz.2];simp⟩)
  ·rw[Iz.2] at hl
   rcases Qa.1 hl with r | r
   ·exact hS.cH.Du l r
   rw[Qb.1 r];exact List.ne_nil_of_length_pos (by rw[(jB _).length_eq];simp)
  ·rw[Iz.2] at hl
   rcases Qa.1 hl with r | r
   ·exact T6 l r x hx
   rw[Qb.1 r] at hx;exact hS.Oq x (heR x hx)
  ·rw[Iz.2] at hl
   rcases Qa.1 hl with r | r
   ·exact hS.cH.n4 l r x hx sW
   rw[Qb.1 r] at hx;exact absurd sW (hS.Hk x (heR x hx))
  ·rw[QD]
   intro x;have:=QD.1 (jB (e :: R2)) x;simp only[Qu,Ql,Qr,Qi,List.count_append,List.count_cons] at this ⊢;omega
  ·rw[Iz.2,jj,a2] at q
   have:=congrArg QN q;simp at this
  rw[Iz.2] at hB;cases hq:t2.bl with
  | cons B' l' =>
   rw[hq,Qs] at hB;injection hB with k1 k2
   rw[<-k1];cases xI:t.bl with
   | nil=>exact hS.fst xI B' l' hq
   | cons B2 l2 =>
    rw[jj,xI,Qs] at hq;injection hq with k3 k4
    rw[<-k3];exact h.fst hs B2 l2 xI
  | nil =>
   rw[hq,QJ] at hB;injection hB with k1 k2
   have hN2:N2=[]:=by
    rw[jj] at hq;exact (QG.1 hq).2
   rw[<-k1];refine Qh ⟨v,hE.vV,gz (t.push e) t2,Kg,fun c hc hn=>?_,fun x=>?_⟩
   ·by_cases r:t.met (g.head c)=0
    ·grind
    refine Qh ?_;have Xo:=hS.inA Wh hc hn r;rcases Qa.1 Xo with u | u
    ·exfalso
     have RC:c / 2≠e:=fun k=>by
      rw[<-he] at k;rcases gu k with y | y
      ·rw[y,hv] at hn;exact Kg hn
      have h1:g.tail d=g.head c:=by rw[y,aS]
      rw[<-h1,hv] at u;exact hE.vA u
     have h1:=hS.J6 c hc hn (fun k=>bg.2 ⟨hc,k⟩) Xo RC;have h2:(t.push e).met (g.head c)=s.met (g.head c):=(h.old _ (hE.cH.act _ u)).1;have h3:=(hE.cH.num (g.head c)).2;omega
    all_goals grind
   rw[(jB _).mem_iff,Qk];have h4:=b4 x;rw[hN2,Qr,Qi] at h4;rw[h4];constructor
   ·rintro (r | ⟨-,c,hc,h2,h3,-⟩)
    ·exact⟨aT d,bQ hd,by grind [dP],by grind [aS]⟩
    all_goals grind
   rintro ⟨c,hc,h2,h3⟩;by_cases r:x=e
   ·exact Qd r
   exact Qh ⟨r,c,hc,h2,h3,(QL (g.tail c=w)).elim (fun u=>Qh (bg.2 ⟨hc,u⟩)) Qd⟩
 rw[if_neg htk];refine all _ rfl rfl (fun x hx=>mD hx) (by show nV t2.low v _ v=_;rw[oW,lv]) (fun x hx=>hx) hS.cH.Du T6 hS.cH.n4 ⟨R1++e :: R2,N1++N2,by show t2.ed=_;rw[UP,a1];simp,by show t2.bl=_;rw[jj,a2];simp,?_⟩ (fun q=>?_) (fun hs B l hB=>?_) (fun q=>absurd ?_ htk)
 ·rw[QD]
  grind
 ·have q:t2.bl=s.bl:=q
  have h1:t.bl=s.bl/\N2=[]:=by
   rw[jj,a2,Qx] at q;have h2:=QF (show s.bl++(N1++N2)=s.bl++[] by grind);obtain⟨h3,h4⟩:=QG.1 h2
   grind
  grind
 ·have hB:t2.bl=B :: l:=hB
  cases xI:t.bl with
  | nil=>exact hS.fst xI B l hB
  | cons B2 l2 =>
   rw[jj,xI,Qs] at hB;injection hB with k3 k4
   rw[<-k3];exact h.fst hs B2 l2 xI
 refine Qf fun k=>?_;have hwm:t2.low w<t2.met w:=by
  have h1:=hS.me;have h2:(t.push e).fe=t.fe:=rfl;have h3:=(h.cH.num v).2
  grind
 obtain⟨c,hc,j1,j2,j3,-⟩:=hS.DL hwm;rw[q,QJ,Qb] at j2;rw[j2] at j3;have:(t.push e).met v=s.fe+1:=h.me;omega
variable {g : Gr} {p : Pt}
theorem tG (hp:aB g p):∀ (n:Nat) (s:dI) (A:List Int) (v via:Int),zq g p s A v via->Jd p s<=n->cK g p s (visit g p n v via s) A v via (aF g p v):=by
 intro n
 induction n with
 | zero =>
  intro s A v via hE hn;have:0<Jd p s:=QH (List.mem_filter.2 ⟨hE.vV,decide_eq_true hE.vn⟩);omega
 | succ n ih =>
  intro s A v via hE hn;have fold:∀ (rest pre:List Int) (t:dI),pre++rest=aF g p v->cK g p s t A v via pre->cK g p s (rest.foldl (fV (visit g p n) g v via) t) A v via (aF g p v):=by
   intro rest
   induction rest with
   | nil=>intro pre t e h;rw[Qi] at e;rw[<-e];exact h
   | cons d rest ih2 =>
    intro pre t e h;refine ih2 (pre++[d]) _ (by grind) ?_;have xp:d∈aF g p v:=by rw[<-e];simp
    obtain⟨hd,hv⟩:=bg.1 xp;have BD:d ∉ pre:=fun q=>by
     have gS:(aF g p v).Nodup:=List.Pairwise.filter _ (dz hp.en)
     grind
    have zP:=h.xl hE;unfold fV;by_cases c1:g.head d=v
    ·rw[if_pos c1];exact h.loop hp hE hd hv c1
    rw[if_neg c1];by_cases c2:d / 2=via
    ·rw[if_pos c2]
     have hA:=hE.uA hp hd hv c2;exact h.same (h.mono (hE.cH.act _ hA)) (fun _ q=>absurd c2 q) fun q=>absurd c2 q
    rw[if_neg c2];by_cases c3:t.met (g.head d)=0
    ·rw[if_pos c3]
     refine h.child hp hE hd hv BD c2 c3 (ih _ _ _ _ (h.ent hp hE hd hv c3) ?_);have:Jd p (t.push (d / 2))<Jd p s:=by
      refine im (a:=v) (fun x _ hx=>?_) hE.vV ?_ (decide_eq_true hE.vn)
      ·have hx:t.met x=0:=of_decide_eq_true hx
       exact decide_eq_true (Qf fun q=>h.mono q hx)
      exact decide_eq_false zP.2
     omega
    rw[if_neg c3];by_cases c4:t.met (g.head d)<t.met v
    ·rw[if_pos c4];exact h.up hp hE hd hv BD c1 c2 c3 c4
    rw[if_neg c4];have EM:s.met (g.head d)=0:=Qf fun q=>by
     have h1:=(hE.cH.num (g.head d)).2;rw[(h.old _ q).1,h.me] at c4;omega
    refine h.same c3 (fun q=>absurd EM (hE.cH.act _ q)) fun q=>⟨q,aT d,bQ hd,dP d,by rw[aS];exact⟨EM,c3⟩,Qd (by grind [aS])⟩
  exact fold _ [] _ rfl (cK.start hp hE)
def dI.zero:dI:=⟨fun _=>0,fun _=>0,0,[],[]⟩
def kO (g:Gr) (p:Pt) (n:Nat) (l:List Int) (s:dI):dI:=l.foldl (fun s v=>if s.met v=0 then visit g p n v (-1) s else s) s
def findAll (g:Gr) (p:Pt):dI:=kO g p p.v.length p.v dI.zero
structure KM (g:Gr) (p:Pt) (s:dI):Prop where
 cH:DOk g p s []
 ed:s.ed=[]
 nd:s.bl.flatten.Nodup
 yW:∀ e,e∈s.bl.flatten↔∃ d∈p.ah,d / 2=e/\s.met (g.tail d)≠0
 fst:∀ B l,s.bl=B :: l->Fst g p B
 one:s.bl.length<=1->∀ z x y,(∃ d∈p.ah,g.tail d=x)->(∃ d∈p.ah,g.tail d=y)->s.met x≠0->s.met y≠0->x≠z->y≠z->b9 g p z x y
theorem KM.start:KM g p dI.zero:=by
 refine⟨⟨Int.le_refl _,fun x=>⟨Int.le_refl _,Int.le_refl _⟩,fun x y h=>absurd rfl h,by simp,fun x h=>absurd rfl h,fun d _ h=>absurd rfl h,?_,?_,?_⟩,rfl,?_,fun e=>?_,fun B l h=>?_,fun _ z x y _ _ h=>absurd rfl h⟩
 ·intro l h;cases h
 ·intro l h;cases h
 ·intro l h;cases h
 ·exact List.nodup_nil
 ·constructor
  ·intro h;simp[dI.zero] at h
  rintro ⟨d,-,-,h⟩;exact absurd rfl h
 cases h
theorem KM.step (hp:aB g p) {s:dI} (h:KM g p s) {v:Int} (hv:v∈p.v) (hm:s.met v=0) {n:Nat} (hn:Jd p s<=n):KM g p (visit g p n v (-1) s)/\(visit g p n v (-1) s).met v≠0/\∀ x,s.met x≠0->(visit g p n v (-1) s).met x≠0:=by
 have hE:zq g p s [] v (-1):=⟨h.cH,hv,hm,Qd ⟨rfl,rfl⟩,by rw[h.ed];simp,by rw[h.ed];simp⟩;have hS:=tG hp n s [] v (-1) hE hn;obtain⟨t,ht⟩:∃ t,visit g p n v (-1) s=t:=⟨_,rfl⟩;rw[ht] at hS ⊢;have zP:=hS.xl hE;obtain⟨R,N,e1,e2,e3,e4⟩:=hS.yW;have hR:R=[]:=by
  have:=hS.Q' rfl;rw[e1] at this;exact QF (this.trans (Qi _).symm)
 rw[hR,QJ] at e3 e4;have ali:∀ d∈p.ah,d / 2≠-1:=fun d hd q=>by have:=hp.er _ (aw.1 hd);omega
 have rX:∀ e,Sx g p s t v (-1) (aF g p v) e↔∃ d∈p.ah,d / 2=e/\gz s t (g.tail d):=fun e=>by
  constructor
  ·rintro ⟨-,d,hd,h2,h3,-⟩;exact⟨d,hd,h2,h3⟩
  rintro ⟨d,hd,h2,h3⟩;exact⟨by grind,d,hd,h2,h3,(QL (g.tail d=v)).elim (fun q=>Qh (bg.2 ⟨hd,q⟩)) Qd⟩
 have hG:=hS.cH;refine⟨⟨⟨hG.fe,hG.num,hG.inj,by simp,hG.Oo,fun d hd xp _=>?_,hG.Du,hG.Td,hG.n4⟩,?_,?_,fun e=>?_,fun B l hB=>?_,fun hl z x y hx hy TV hmy PC OZ=>?_⟩,zP.2,fun x hx=>hS.mono hx⟩
 ·by_cases q:g.tail d=v
  ·exact hS.seen d (bg.2 ⟨hd,q⟩)
  exact hG.fin d hd xp (by grind)
 ·rw[e1,hR,h.ed];rfl
 ·rw[e2,Qu,Qj]
  refine⟨h.nd,e3,fun a ha b hb q=>?_⟩;subst q;obtain⟨d,hd,h2,h3⟩:=(rX a).1 ((e4 a).1 hb);obtain⟨c,hc,k2,k3⟩:=(h.yW a).1 ha;rcases gu (k2.trans h2.symm) with r | r
  ·rw[r] at k3;exact k3 h3.1
  have:=h.cH.fin c hc k3 (by simp);rw[<-aS,<-r] at this;exact this h3.1
 ·rw[e2,Qu,Qa,h.yW,e4,rX]
  constructor
  ·rintro (⟨d,hd,h2,h3⟩ | ⟨d,hd,h2,h3⟩)
   ·exact⟨d,hd,h2,hS.mono h3⟩
   exact⟨d,hd,h2,h3.2⟩
  rintro ⟨d,hd,h2,h3⟩;by_cases q:s.met (g.tail d)=0
  ·exact Qh ⟨d,hd,h2,q,h3⟩
  all_goals grind
 ·cases hq:s.bl with
  | nil=>exact hS.fst hq B l hB
  | cons B' l' =>
   rw[e2,hq,Qs] at hB;injection hB with k1 k2
   rw[<-k1];exact h.fst B' l' hq
 rw[e2,Qv] at hl;by_cases hN:N=[]
 ·have hb:t.bl=s.bl:=by rw[e2,hN,Qi]
  have oe:∀ u,(∃ d∈p.ah,g.tail d=u)->t.met u≠0->s.met u≠0:=by
   rintro u ⟨d,hd,rfl⟩ hu q;have:=(e4 (d / 2)).2 ((rX _).2 ⟨d,hd,rfl,q,hu⟩)
   grind
  exact h.one (by grind) z x y hx hy (oe x hx TV) (oe y hy hmy) PC OZ
 have hNl:=Qt.2 hN;have CD:s.bl=[]:=Qw.1 (by omega);have sR:∀ u,(∃ d∈p.ah,g.tail d=u)->t.met u≠0->gz s t u:=by
  rintro u ⟨d,hd,rfl⟩ hu;refine⟨Classical.byContradiction fun q=>?_,hu⟩;have:=(h.yW (d / 2)).2 ⟨d,hd,rfl,q⟩
  grind
 have nx:=sR x hx TV;have ny:=sR y hy hmy;by_cases hz:gz s t z
 ·exact hS.aaI rfl (by grind) z x y hz nx ny PC OZ
 have hvz:v≠z:=fun q=>hz (q ▸ zP);exact ((hS.tree x nx z hz).symm hvz).2.trans (hS.tree y ny z hz)
theorem tt (hp:aB g p):KM g p (findAll g p)/\∀ v∈p.v,(findAll g p).met v≠0:=by
 have key:∀ (l:List Int) (s:dI),(∀ v∈l,v∈p.v)->KM g p s->KM g p (kO g p p.v.length l s)/\(∀ v∈l,(kO g p p.v.length l s).met v≠0)/\∀ x,s.met x≠0->(kO g p p.v.length l s).met x≠0:=by
  intro l
  induction l with
  | nil=>intro s _ h;exact⟨h,by simp,fun _ h=>h⟩
  | cons v l ih =>
   intro s hl h;have hu:Jd p s<=p.v.length:=List.length_filter_le _ _;show KM g p (kO g p p.v.length l (if s.met v=0 then visit g p p.v.length v (-1) s else s))/\(∀ u∈v :: l,(kO g p p.v.length l (if s.met v=0 then visit g p p.v.length v (-1) s else s)).met u≠0)/\∀ x,s.met x≠0->(kO g p p.v.length l (if s.met v=0 then visit g p p.v.length v (-1) s else s)).met x≠0;by_cases q:s.met v=0
   ·rw[if_pos q]
    obtain⟨h1,h2,h3⟩:=h.step hp (hl v (by simp)) q hu
    grind
   all_goals grind
 obtain⟨h1,h2,-⟩:=key p.v dI.zero (fun _ h=>h) KM.start;exact⟨h1,h2⟩
theorem mI (hp:aB g p):(findAll g p).bl.flatten.Perm p.e:=by
 obtain⟨h1,h2⟩:=tt hp;refine (Qm h1.nd hp.en).2 fun e=>?_;rw[h1.yW];constructor
 ·grind [aw]
 intro he;obtain⟨d,hd,h3,-⟩:=yi (g:=g) he
 grind [aB.aO]
def off (g:Gr) (v e:Int):Int:=if (g.at e).1=v then (g.at e).2 else (g.at e).1
def LK (g:Gr) (p:Pt) (v e f:Int):Prop:=e≠f/\(((g.at e).1=v/\(g.at e).2=v)\/((g.at f).1=v/\(g.at f).2=v)\/¬ b9 g p v (off g v e) (off g v f))
def cQ (g:Gr) (p:Pt):Prop:=(∃ e0 l,p.e=e0 :: l/\∀ e∈p.e,∀ v∈p.v,¬ LK g p v e0 e)/\∀ v∈p.v,∃ d∈p.ah,g.tail d=v
theorem oN {v e:Int} (h:¬ ((g.at e).1=v/\(g.at e).2=v)):off g v e≠v:=by
 all_goals grind [off]
theorem tQ {v e:Int} (he:e∈p.e):∃ d∈p.ah,d / 2=e/\g.tail d=off g v e:=by
 obtain⟨d,hd,h1,h2,h3⟩:=yi (g:=g) he;unfold off;split
 ·exact⟨aT d,bQ hd,by grind [dP],by grind [aS]⟩
 all_goals grind
theorem yR (hp:aB g p):((findAll g p).bl.length=1/\∀ v∈p.v,∃ d∈p.ah,g.tail d=v)↔cQ g p:=by
 obtain⟨h1,h2⟩:=tt hp;have dW:=mI hp;constructor
 ·rintro ⟨hl,hV⟩
  refine⟨?_,hV⟩;obtain⟨l,hB⟩:=List.length_eq_one_iff.1 hl;have hlm:l∈(findAll g p).bl:=by rw[hB];simp
  rw[hB,Ql,Qr,Qi] at dW;cases he:p.e with
  | nil=>rw[he] at dW;exact absurd (List.perm_nil.1 dW) (h1.cH.Du l hlm)
  | cons e0 r =>
   refine⟨e0,r,rfl,fun e rO v hv=>?_⟩;rw[<-he] at rO;rintro ⟨bh,iY⟩;have px:∀ x∈p.e,¬ ((g.at x).1=v/\(g.at x).2=v):=fun x hx q=>by
    have h3:=h1.cH.n4 l hlm x (dW.mem_iff.2 hx) (q.1.trans q.2.symm);have m1:=dW.mem_iff.2 (show e0∈p.e by grind)
    grind
   have sr:e0∈p.e:=by rw[he];simp
   rcases iY with q | q | q
   ·exact px e0 sr q
   ·exact px e rO q
   obtain⟨d,hd,-,k1⟩:=tQ (g:=g) (v:=v) sr;obtain⟨c,hc,-,k2⟩:=tQ (g:=g) (v:=v) rO;exact q (h1.one (by omega) v _ _ ⟨d,hd,k1⟩ ⟨c,hc,k2⟩ (by rw[<-k1];exact h2 _ (hp.aO hd).1) (by rw[<-k2];exact h2 _ (hp.aO hc).1) (oN (px e0 sr)) (oN (px e rO)))
 rintro ⟨⟨e0,r,he,NG⟩,hV⟩;refine⟨?_,hV⟩;have sr:e0∈p.e:=by rw[he];simp
 match hq:(findAll g p).bl with
 | [] =>
  grind
 | [_]=>rfl
 | B1 :: B2 :: rest =>
  exfalso;have gS:=h1.nd;rw[hq,Ql,Ql] at gS;have fz:B1≠[]:=h1.cH.Du B1 (by grind);have ff:B2≠[]:=h1.cH.Du B2 (by grind);obtain⟨f,hf⟩:=QE _ ff;obtain⟨e,qO⟩:=QE _ fz;have VL:f ∉ B1:=fun q=>(Qj.1 gS).2.2 f q f (Qe _ hf) rfl;have fp:∀ x,x∈B1\/x∈B2->x∈p.e:=fun x hx=>dW.mem_iff.1 (by
   rw[hq,Ql,Ql];rcases hx with q | q
   ·exact Qe _ q
   exact Qn _ (Qe _ q))
  have hep:=fp e (Qd qO);have WD:=fp f (Qh hf);rcases h1.fst B1 _ hq with ⟨x,hx,hB,SY⟩ | ⟨z,hz,Y,hzY,mm,hBY⟩
  .-- a loop
   have hu:(g.at x).1∈p.v:=(hp.ends x hx).1;by_cases q:e0=x
   ·refine NG f WD _ hu ⟨fun r=>VL (by grind),Qd ?_⟩
    grind
   exact NG x hx _ hu ⟨q,Qh (Qd ⟨rfl,SY.symm⟩)⟩
  have P4:∀ x∈B1,Y (off g z x):=fun x hx=>by
   all_goals grind [off,gM]
  have Tn:∀ x∈p.e,x ∉ B1->¬ Y (off g z x):=fun x hx hxB q=>by
   obtain⟨c,hc,k1,k2⟩:=tQ (g:=g) (v:=z) hx
   grind
  have qx:∀ a b,Y a->b9 g p z a b->Y b:=fun a b ha hc=>by
   induction hc with
   | here=>exact ha
   | step _ hn hs ih2 =>
    obtain⟨d,hd,hh⟩:=(AY hp).1 hn
    grind
  by_cases q:e0∈B1
  ·exact NG f WD z hz ⟨fun r=>VL (r ▸ q),Qh (Qh fun hc=>Tn f WD VL (qx _ _ (P4 e0 q) hc))⟩
  by_cases SY:(g.at e0).1=z/\(g.at e0).2=z
  ·exact NG e hep z hz ⟨fun r=>q (r ▸ qO),Qd SY⟩
  exact NG e hep z hz ⟨fun r=>q (r ▸ qO),Qh (Qh fun hc=>Tn e0 sr q (qx _ _ (P4 e qO) (hc.symm (oN SY)).2))⟩
end Go.Proofs.YtoiflofhcmjpoaaGreat.Plain
namespace Go.Proofs.YtoiflofhcmjpoaaGreat
open Go.RowKit Go.Maps Go.ChangeShapes
def oR:Value->Option (DataW Unit × List MemPlace)
 | .slice none n c=>some (.slice (lits .i64 [(n:Int),(c:Int)]) [],[])
 | .slice (some ⟨b,off,none⟩) n c=>some (.slice (lits .i64 [(b:Int),(off:Int),(n:Int),(c:Int)]) [],[])
 | _=>none
theorem FG {u v:Value} {d:DataW Unit} {ps qs:List MemPlace} (hu:oR u=some (d,ps)) (hv:oR v=some (d,qs)):u=v:=by
 unfold oR at hu hv;split at hu <;> split at hv <;> simp only[QR.injEq,Prod.mk.injEq,reduceCtorEq] at hu hv
 ·grind [vh]
 all_goals grind [vh]
def uU:Value:=.slice none 0 0
def Sy (v:Value):DataW Unit:=match oR v with | some x=>x.1 | none=>.nil
def uN (v:Value):Prop:=∃ ps,oR v=some (Sy v,ps)
theorem uN.none (n c:Nat):uN (.slice none n c):=⟨[],rfl⟩
theorem uN.some (b off n c:Nat):uN (.slice (some ⟨b,off,.none⟩) n c):=⟨[],rfl⟩
def ic (w:World) (b n:Nat) (F:Int->Option Value):Prop :=
 ∃ D:DataW Unit,w.ownsMap Tryz.prog 3 oR b n D/\∀ x,aU x->Maps.has D (.int .i64 x)=(F x).isSome/\uN ((F x).getD uU)/\D.atKey (.int .i64 x) (Sy uU)=Sy ((F x).getD uU)
theorem ic.made (w:World):ic (w.alloc (.map #[] 0)) w.heap.size 0 (fun _=>none) :=
 ⟨.map [],World.ownsMap_made _ _ _ _,fun _ _=>⟨rfl,uN.none 0 0,rfl⟩⟩
theorem ic.lt {w:World} {b n:Nat} {F:Int->Option Value} (h:ic w b n F):b<w.heap.size:=by obtain⟨D,h,_⟩:=h;exact h.lt
theorem ic.aD {w w':World} {own:List Nat} {b n:Nat} {F:Int->Option Value} (h:ic w b n F) (hc:ag own w w') (hb:b ∉ own):ic w' b n F:=by
 obtain⟨D,⟨es,clock,he,r⟩,g⟩:=h;exact⟨D,⟨es,clock,hc.heap he hb,r⟩,g⟩
theorem ic.ne {w:World} {b n:Nat} {F:Int->Option Value} (h:ic w b n F) {k:Nat} {cs:Array Value} {t:TypeId} {r:Nat × Nat} (hk:w.heap[k]?=some (.cells cs t r)):k≠b:=by
 obtain⟨D,⟨es,clock,he,_⟩,_⟩:=h
 grind
theorem ic.vY {w:World} {b n:Nat} {F:Int->Option Value} (h:ic w b n F) {k:Int} (hk:aU k):(Instr.lookup 97 (.map (some b)) (.int .i64 k) false).run Tryz.prog w=.ok ((F k).getD uU) w:=by
 obtain⟨D,bH,hD⟩:=h;obtain⟨h1,⟨ps,h2⟩,h3⟩:=hD k hk;obtain⟨v,qs,fS,hv⟩:=bH.lookup bI Tryz.underlying97 (Ad w) (zd:=Sy uU) (zp:=[]) rfl (keyOf_int_mk Tryz.underlying3 hk)
 grind [FG]
theorem ic.yM {w:World} {b n:Nat} {F:Int->Option Value} (h:ic w b n F) (hn:n<maxLen) {k:Int} (hk:aU k) {v:Value} (hv:uN v) :
  ∃ w',(Instr.mapUpdate 97 (.map (some b)) (.int .i64 k) v).run Tryz.prog w=.ok () w'/\ic w' b (n+1) (fun y=>if y=k then some v else F y)/\ag [b] w w':=by
 obtain⟨D,bH,hD⟩:=h;obtain⟨ps,OQ⟩:=hv;have js:=keyOf_int_mk Tryz.underlying3 hk;obtain⟨w',fS,h1,h2⟩:=bH.store bI Tryz.underlying97 hn js OQ;refine⟨w',fS,⟨_,h1,fun y hy=>?_⟩,(ag.refl _ _).grown h2.grown (fun j hj=>by cases hj;exact Qd (by simp))⟩;by_cases e:y=k
 ·subst e
  have nS:=bI.key js;rw[has_put_same bH.isMap nS,atKey_put_same bH.isMap nS];simp only[if_true];exact⟨rfl,⟨ps,OQ⟩,rfl⟩
 rw[has_put_other (kJ e),atKey_put_other (kJ e)]
 grind
section
variable {ops : Array Oper} {rest : List Oper} {o : Oper} {a : Act} {Q : Exit -> Act -> World -> Prop} {w : World}
theorem Kn (hg:o.guard=none) (m x u:Operand) (jM:o.op=Op.mapUpdate 97 m x u) {b n:Nat} {F:Int->Option Value} (h:ic w b n F) (hn:n<maxLen) (hm:a.eval m=.map (some b)) {k:Int} (hk:aU k) (hx:a.eval x=.int .i64 k) {v:Value} (hu:a.eval u=v) (hv:uN v)
  (hK:∀ w2,ic w2 b (n+1) (fun y=>if y=k then some v else F y)->ag [b] w w2->wpList Tryz.prog ops Q rest (a.put o.dst undef) w2):wpList Tryz.prog ops Q (o :: rest) a w:=by
 refine wpList_plain hg fun K' ta=>?_;obtain⟨w2,fS,r1,r2⟩:=h.yM hn hk hv;unfold Oper.wp;simp[execOp,jM,hm,hx,hu,fS,Result.andThen];exact ta _ _ (hK w2 r1 r2)
end
end Go.Proofs.YtoiflofhcmjpoaaGreat
namespace Go.Proofs.YtoiflofhcmjpoaaGreat
open Go.RowKit Go.Maps
namespace Plain
def vJ (g:Gr) (p:Pt) (s:dI):Nat:=((p.v.filter fun u=>decide (s.met u=0)).map fun u=>(aF g p u).length+1).sum
end Plain
theorem aj.cut {w:World} {B g n c i:Nat} {l:List Int} (h:aj w B (.slice (.some ⟨g,0,none⟩) n c) l) (hi:i<=l.length):aj w B (.slice (.some ⟨g,0,none⟩) i c) (l.take i):=by
 have hl:(l.take i).length=i:=by rw[QM];omega
 refine⟨⟨by rw[hl];unfold _root_.Go.Proofs.YtoiflofhcmjpoaaGreat.ints;rw[QP,hl];omega,?_⟩,fun x hx=>h.2.1 x (List.mem_of_mem_take hx),by have:=h.2.2;omega⟩;rw[hl];rcases h.1.2 with ⟨e,-⟩ | ⟨g',cap,cur,e,hg,hh,hn,hm,hs,ht⟩
 ·cases e
 simp only[QS.injEq,QR.injEq,Addr.mk.injEq,and_true] at e;obtain⟨rfl,-,rfl⟩:=e;refine Qh ⟨g,c,cur,rfl,hg,hh,by omega,hm,hs,?_⟩;rw[Nat.mul_one] at ht ⊢;have h2:cur.toList.take i=(cur.toList.take l.length).take i:=by rw[List.take_take,QQ hi]
 rw[h2,ht];unfold _root_.Go.Proofs.YtoiflofhcmjpoaaGreat.ints;rw[List.map_take]
def iS (w:World) (b n:Nat) (f:Int->Int):Prop:=aj w 0 (.slice (some ⟨b,0,none⟩) n n) ((QK n).map fun i:Nat=>f i)
theorem ake (n:Nat) (f:Int->Int) {i:Nat} (hi:i<n):((QK n).map fun i:Nat=>f i).getD i 0=f i:=by grind
theorem iS.cell {w:World} {b n:Nat} {f:Int->Int} (h:iS w b n f) {v:Nat} (hv:v<n):w.cell? ⟨b,v,none⟩=some (.int .i64 (f v)):=by
 obtain⟨g,e,hc⟩:=aj.some h (by simp;omega)
 grind
theorem iS.free {w:World} {b n:Nat} {f:Int->Int} (h:iS w b n f) (hn:0<n) (i:Nat):w.frozen? ⟨b,i,none⟩=false:=aj.free h (by simpa using hn) i
theorem iS.i64 {w:World} {b n:Nat} {f:Int->Int} (h:iS w b n f) {v:Nat} (hv:v<n):aU (f v):=h.2.1 _ (Qq.2 ⟨v,List.mem_range.2 hv,rfl⟩)
theorem iS.aD {w w':World} {own:List Nat} {b n:Nat} {f:Int->Int} (h:iS w b n f) (hc:ag own w w') (hb:b ∉ own):iS w' b n f:=aj.aD h hc (fun j hj=>by
 have h1:j∈[b]:=hj;rw[Qb.1 h1];exact hb)
theorem iS.set {w:World} {b n:Nat} {f:Int->Int} (h:iS w b n f) {v:Nat} (_hv:v<n) {x:Int} (hx:aU x):iS (w.setCell ⟨b,v,none⟩ (.int .i64 x)) b n (Plain.nV f v x):=by
 have:=aj.set h v x hx;unfold iS;have e:((QK n).map fun i:Nat=>f i).set v x=(QK n).map fun i:Nat=>Plain.nV f v x i:=by
  refine List.ext_getElem (by simp) fun i h1 h2=>?_
  all_goals grind [Plain.nV]
 rwa[e] at this
theorem iS.kind {w:World} {b n:Nat} {f:Int->Int} (h:iS w b n f):∃ cs,w.heap[b]?=some (.cells cs 3 (0,0)):=by
 rcases h.1.2 with ⟨e,-⟩ | ⟨g',cap,cur,e,-,hh,-⟩
 all_goals grind
def Rel (w:World) (B:Nat) (ev:Value) (F:Int->Option Value) (bl:List (List Int)):Prop :=
 (∀ l∈bl,∃ v,F (l.getD 0 0)=some v/\aj w B v l/\∀ b,v.ownBlock=some b->ev.ownBlock≠some b)/\∀ k v,F k=some v->∃ l∈bl,l.getD 0 0=k
theorem Rel.put {w:World} {B:Nat} {ev v:Value} {F:Int->Option Value} {bl:List (List Int)} (h:Rel w B ev F bl) {l:List Int} (hv:aj w B v l) (ho:∀ b,v.ownBlock=some b->ev.ownBlock≠some b):Rel w B ev (fun y=>if y=l.getD 0 0 then some v else F y) (Plain.lj l bl):=by
 have cL:∀ m,m∈Plain.lj l bl->m=l\/(m∈bl/\m.getD 0 0≠l.getD 0 0):=fun m hm=>by
  all_goals grind [Plain.lj]
 have hl:l∈Plain.lj l bl:=by
  all_goals grind [Plain.lj]
 have Zd:∀ m∈bl,m.getD 0 0≠l.getD 0 0->m∈Plain.lj l bl:=fun m hm q=>by
  all_goals grind [Plain.lj]
 refine⟨fun m hm=>?_,fun k u hk=>?_⟩
 ·rcases cL m hm with q | ⟨q,r⟩
  ·rw[q];exact⟨v,if_pos rfl,hv,ho⟩
  obtain⟨u,h1,h2,h3⟩:=h.1 m q;exact⟨u,by simp only[if_neg r];exact h1,h2,h3⟩
 by_cases q:k=l.getD 0 0
 ·exact⟨l,hl,q.symm⟩
 simp only[if_neg q] at hk;obtain⟨m,hm,e⟩:=h.2 k u hk;exact⟨m,Zd m hm (by rw[e];exact q),e⟩
structure FK where
 w0:World
 pb:Nat
 mb:Nat
 lb:Nat
 mp:Nat
 n:Nat
 gE:Value
 dv:Value
def FK.own (k:FK):List Nat:=[k.pb,k.mb,k.lb,k.mp]
structure cX (k:FK) (g:Plain.Gr) (w:World) (s:Plain.dI) (ev:Value) (m:Nat) (F:Int->Option Value):Prop where
 row:w.heap[k.pb]?=some (.cells #[.int .i64 g.n,k.gE,k.dv,.slice (some ⟨k.mb,0,none⟩) k.n k.n,.slice (some ⟨k.lb,0,none⟩) k.n k.n,.int .i64 s.fe,ev,.map (some k.mp)] 99 (0,0))
 met:iS w k.mb k.n s.met
 low:iS w k.lb k.n s.low
 ed:aj w k.w0.heap.size ev s.ed
 map:ic w k.mp m F
 rel:Rel w k.w0.heap.size ev F s.bl
 aD:ag k.own k.w0 w
def Fin (k:FK) (g:Plain.Gr) (p:Plain.Pt) (w:World) (s:Plain.dI) (r:Nat):Prop:=∃ ev m F,cX k g w s ev m F/\m+s.ed.length+Plain.vJ g p s+r<=100000/\s.fe+Plain.vJ g p s<=100000
structure FK.Ok (k:FK):Prop where
 lt:∀ j∈k.own,j<k.w0.heap.size
 ml:k.mb≠k.lb
theorem cX.eight {k:FK} {g:Plain.Gr} {w:World} {s:Plain.dI} {ev:Value} {m:Nat} {F:Int->Option Value} (h:cX k g w s ev m F) :
  w.cell? ⟨k.pb,0,none⟩=some (.int .i64 g.n)/\w.cell? ⟨k.pb,1,none⟩=some k.gE/\w.cell? ⟨k.pb,2,none⟩=some k.dv/\w.cell? ⟨k.pb,3,none⟩=some (.slice (some ⟨k.mb,0,none⟩) k.n k.n)/\w.cell? ⟨k.pb,4,none⟩=some (.slice (some ⟨k.lb,0,none⟩) k.n k.n) /\
   w.cell? ⟨k.pb,5,none⟩=some (.int .i64 s.fe)/\w.cell? ⟨k.pb,6,none⟩=some ev/\w.cell? ⟨k.pb,7,none⟩=some (.map (some k.mp)) :=
 ⟨(cell_of_row _ _ 0 _ _ _ h.row).trans rfl,(cell_of_row _ _ 1 _ _ _ h.row).trans rfl,(cell_of_row _ _ 2 _ _ _ h.row).trans rfl,(cell_of_row _ _ 3 _ _ _ h.row).trans rfl,(cell_of_row _ _ 4 _ _ _ h.row).trans rfl,(cell_of_row _ _ 5 _ _ _ h.row).trans rfl,(cell_of_row _ _ 6 _ _ _ h.row).trans rfl,(cell_of_row _ _ 7 _ _ _ h.row).trans rfl⟩
theorem cX.free {k:FK} {g:Plain.Gr} {w:World} {s:Plain.dI} {ev:Value} {m:Nat} {F:Int->Option Value} (h:cX k g w s ev m F) (i:Nat):w.frozen? ⟨k.pb,i,none⟩=false:=bJ h.row i
theorem cX.ne {k:FK} {g:Plain.Gr} {w:World} {s:Plain.dI} {ev:Value} {m:Nat} {F:Int->Option Value} (h:cX k g w s ev m F):k.pb≠k.mb/\k.pb≠k.lb/\k.pb≠k.mp/\k.mb≠k.mp/\k.lb≠k.mp:=by
 obtain⟨c1,h1⟩:=h.met.kind;obtain⟨c2,h2⟩:=h.low.kind;refine⟨fun e=>?_,fun e=>?_,h.map.ne h.row,h.map.ne h1,h.map.ne h2⟩
 ·have:=h.row
  grind
 have:=h.row
 grind
theorem Rel.aD {w w':World} {B:Nat} {ev:Value} {F:Int->Option Value} {bl:List (List Int)} {own:List Nat} (h:Rel w B ev F bl) (hc:ag own w w') (ho:∀ j∈own,j<B):Rel w' B ev F bl :=
 ⟨fun l hl=>by
  obtain⟨v,h1,h2,h3⟩:=h.1 l hl;exact⟨v,h1,h2.aD hc (fun b hb q=>by
   have:=(h2.low b hb).1;have:=ho b q;omega),h3⟩,h.2⟩
section
variable {k : FK} {g : Plain.Gr} {w w' : World} {s : Plain.dI} {ev : Value} {m : Nat} {F : Int -> Option Value}
theorem cX.fresh (h:cX k g w s ev m F) (hc:ag [] w w'):cX k g w' s ev m F :=
 ⟨hc.heap h.row (by simp),h.met.aD hc (by simp),h.low.aD hc (by simp),h.ed.aD hc (by simp),h.map.aD hc (by simp),h.rel.aD hc (by simp),h.aD.t hc⟩
theorem FK.Ok.out (hk:k.Ok) {v:Value} {l:List Int} (h:aj w k.w0.heap.size v l):∀ b∈v.ownBlock.toList,∀ own:List Nat,(∀ j∈own,j∈k.own)->b ∉ own:=fun b hb own ho q=>by
 have:=(h.low b hb).1;have:=hk.lt b (ho b q);omega
theorem cX.aq (hk:k.Ok) (h:cX k g w s ev m F) {ev':Value} {ed':List Int} (hr:aj w k.w0.heap.size ev' ed') (ho:∀ l∈s.bl,∀ v,F (l.getD 0 0)=some v->∀ b,v.ownBlock=some b->ev'.ownBlock≠some b) :
  cX k g (w.setCell ⟨k.pb,6,none⟩ ev') { s with ed:=ed' } ev' m F:=by
 have hn:=h.ne;have hc:ag [k.pb] w (w.setCell ⟨k.pb,6,none⟩ ev'):=(ag.refl [k.pb] w).setCell (Qd (by simp)) _;have hs:∀ j∈[k.pb],j∈k.own:=by simp[FK.own]
 refine⟨by simpa using heap_setCell_same h.row 6 ev',h.met.aD hc (by grind),h.low.aD hc (by grind),hr.aD hc (fun b hb=>hk.out hr b hb _ hs),h.map.aD hc (by grind),?_,h.aD.trans hc (fun j hj=>Qd (hs j hj))⟩;have:=h.rel.aD hc (fun j hj=>hk.lt j (hs j hj));refine⟨fun l hl=>?_,this.2⟩;obtain⟨v,h1,h2,-⟩:=this.1 l hl
 grind
theorem cX.count (hk:k.Ok) (h:cX k g w s ev m F) (x:Int):cX k g (w.setCell ⟨k.pb,5,none⟩ (.int .i64 x)) { s with fe:=x } ev m F:=by
 have hn:=h.ne;have hc:ag [k.pb] w (w.setCell ⟨k.pb,5,none⟩ (.int .i64 x)):=(ag.refl [k.pb] w).setCell (Qd (by simp)) _;have hs:∀ j∈[k.pb],j∈k.own:=by simp[FK.own]
 exact⟨by simpa using heap_setCell_same h.row 5 (.int .i64 x),h.met.aD hc (by grind),h.low.aD hc (by grind),h.ed.aD hc (fun b hb=>hk.out h.ed b hb _ hs),h.map.aD hc (by grind),h.rel.aD hc (fun j hj=>hk.lt j (hs j hj)),h.aD.trans hc (fun j hj=>Qd (hs j hj))⟩
theorem cX.Wl (hk:k.Ok) (h:cX k g w s ev m F) {v:Nat} (hv:v<k.n) {x:Int} (hx:aU x):cX k g (w.setCell ⟨k.mb,v,none⟩ (.int .i64 x)) { s with met:=Plain.nV s.met v x } ev m F:=by
 have hn:=h.ne;have hc:ag [k.mb] w (w.setCell ⟨k.mb,v,none⟩ (.int .i64 x)):=(ag.refl [k.mb] w).setCell (Qd (by simp)) _;have hs:∀ j∈[k.mb],j∈k.own:=by simp[FK.own]
 exact⟨hc.heap h.row (by grind),h.met.set hv hx,h.low.aD hc (by simpa using fun e=>hk.ml e.symm),h.ed.aD hc (fun b hb=>hk.out h.ed b hb _ hs),h.map.aD hc (by grind),h.rel.aD hc (fun j hj=>hk.lt j (hs j hj)),h.aD.trans hc (fun j hj=>Qd (hs j hj))⟩
theorem cX.Gn (hk:k.Ok) (h:cX k g w s ev m F) {v:Nat} (hv:v<k.n) {x:Int} (hx:aU x):cX k g (w.setCell ⟨k.lb,v,none⟩ (.int .i64 x)) { s with low:=Plain.nV s.low v x } ev m F:=by
 have hn:=h.ne;have hc:ag [k.lb] w (w.setCell ⟨k.lb,v,none⟩ (.int .i64 x)):=(ag.refl [k.lb] w).setCell (Qd (by simp)) _;have hs:∀ j∈[k.lb],j∈k.own:=by simp[FK.own]
 exact⟨hc.heap h.row (by grind),h.met.aD hc (by simpa using hk.ml),h.low.set hv hx,h.ed.aD hc (fun b hb=>hk.out h.ed b hb _ hs),h.map.aD hc (by grind),h.rel.aD hc (fun j hj=>hk.lt j (hs j hj)),h.aD.trans hc (fun j hj=>Qd (hs j hj))⟩
theorem cX.push (hk:k.Ok) (h:cX k g w s ev m F) {v6:Value} {w6:World} {e:Int} (hr:aj w6 k.w0.heap.size v6 (s.ed++[e])) (hc:ag (aE ev) w w6) (ho:∀ b∈aE v6,b∈aE ev\/w.heap.size<=b) :
  cX k g (w6.setCell ⟨k.pb,6,none⟩ v6) (s.push e) v6 m F:=by
 rw[h.ed.aE] at hc ho;rw[hr.aE] at ho;have hn:=h.ne;have hx:∀ j∈k.own,j ∉ ev.ownBlock.toList:=fun j hj q=>by
  have:=(h.ed.low j q).1;have:=hk.lt j hj;omega
 have bA:ag [k.pb] w6 (w6.setCell ⟨k.pb,6,none⟩ v6):=(ag.refl [k.pb] w6).setCell (Qd (by simp)) _;have hs:∀ j∈[k.pb],j∈k.own:=by simp[FK.own]
 have hy:∀ {v:Value} {l:List Int},aj w6 k.w0.heap.size v l->∀ b∈v.ownBlock.toList,b ∉ [k.pb]:=fun hv b hb q=>by
  have:=(hv.low b hb).1;have:=hk.lt _ (hs b q);omega
 refine⟨by simpa[Plain.dI.push] using heap_setCell_same (hc.heap h.row (hx _ (by grind))) 6 v6,(h.met.aD hc (hx _ (by simp[FK.own]))).aD bA (by grind),(h.low.aD hc (hx _ (by simp[FK.own]))).aD bA (by grind),hr.aD bA (hy hr),(h.map.aD hc (hx _ (by simp[FK.own]))).aD bA (by grind),⟨fun l hl=>?_,h.rel.2⟩,(h.aD.trans hc (fun j hj=>Qh (h.ed.low j hj).1)).trans bA (fun j hj=>Qd (hs j hj))⟩;obtain⟨v,h1,h2,h3⟩:=h.rel.1 l hl;have h4:=h2.aD hc (fun b hb q=>h3 b (by grind) (by grind));refine⟨v,h1,h4.aD bA (hy h4),fun b hb q=>?_⟩;rcases ho b (by simp[q]) with r | r
 ·exact h3 b hb (by simpa using r)
 have:=(h2.low b (by simp[hb])).2;omega
theorem cX.put (hk:k.Ok) (h:cX k g w s ev m F) {l:List Int} {v:Value} {m':Nat} (hv:aj w k.w0.heap.size v l) (ho:∀ b,v.ownBlock=some b->ev.ownBlock≠some b) (hc:ag [k.mp] w w') (hm:ic w' k.mp m' (fun y=>if y=l.getD 0 0 then some v else F y)) :
  cX k g w' { s with bl:=Plain.lj l s.bl } ev m' (fun y=>if y=l.getD 0 0 then some v else F y):=by
 have hn:=h.ne;have hs:∀ j∈[k.mp],j∈k.own:=by simp[FK.own]
 exact⟨hc.heap h.row (by grind),h.met.aD hc (by grind),h.low.aD hc (by grind),h.ed.aD hc (fun b hb=>hk.out h.ed b hb _ hs),hm,(h.rel.aD hc (fun j hj=>hk.lt j (hs j hj))).put (hv.aD hc (fun b hb=>hk.out hv b hb _ hs)) ho,h.aD.trans hc (fun j hj=>Qd (hs j hj))⟩
theorem cX.other (h:cX k g w s ev m F) {b:Nat} (hb:k.w0.heap.size<=b) (hk:k.Ok) (YT:ev.ownBlock≠some b) (hr:∀ l∈s.bl,∀ v,F (l.getD 0 0)=some v->v.ownBlock≠some b) (hc:ag [b] w w'):cX k g w' s ev m F:=by
 have hx:∀ j∈k.own,j ∉ [b]:=fun j hj q=>by
  have:=hk.lt j hj
  grind
 have hm:∀ j∈k.own,j≠b:=fun j hj q=>hx j hj (by simp[q]);refine⟨hc.heap h.row (hx _ (by simp[FK.own])),h.met.aD hc (hx _ (by simp[FK.own])),h.low.aD hc (hx _ (by simp[FK.own])),h.ed.aD hc (fun j hj q=>YT ?_),h.map.aD hc (hx _ (by simp[FK.own])),⟨fun l hl=>?_,h.rel.2⟩,h.aD.trans hc (fun j hj=>Qh (by grind))⟩
 ·simp at q hj
  rw[<-q];exact hj
 obtain⟨v,h1,h2,h3⟩:=h.rel.1 l hl;refine⟨v,h1,h2.aD hc (fun j hj q=>hr l hl v h1 ?_),h3⟩;simp at q hj;rw[<-q];exact hj
end
end Go.Proofs.YtoiflofhcmjpoaaGreat
-- READS ONLY
namespace Go.Proofs.YtoiflofhcmjpoaaGreat
open Go.RowKit Go.Maps
theorem J0 {o:Oper} {a:Act} {Q:Exit->Act->World->Prop} {K:Act->World->Prop} {w:World} (m x u:Operand) (jM:o.op=Op.mapUpdate 97 m x u) {b n:Nat} {F:Int->Option Value} (h:ic w b n F) (hn:n<maxLen) (hm:a.eval m=.map (some b)) {k:Int} (hk:aU k) (hx:a.eval x=.int .i64 k) {v:Value} (hu:a.eval u=v) (hv:uN v)
  (hK:∀ w2,ic w2 b (n+1) (fun y=>if y=k then some v else F y)->ag [b] w w2->K (a.put o.dst undef) w2):Oper.wp Tryz.prog o a w K Q:=by
 obtain⟨w2,fS,r1,r2⟩:=h.yM hn hk hv;unfold Oper.wp;simp[execOp,jM,hm,hx,hu,fS,Result.andThen];exact hK _ r1 r2
set_option maxRecDepth 100000 in
set_option maxHeartbeats 4000000 in
theorem JW (k:FK) (g:Plain.Gr) (p:Plain.Pt) (hk:k.Ok) (s:Plain.dI) (e:Nat) (r:Nat) (w:World) (he:(e:Int)∈s.ed) (h:Fin k g p w s r) :
  Calls Tryz.prog 172 #[.pointer (some ⟨k.pb,0,none⟩),.int .i64 e] w fun x w'=>x=.returned (.tuple #[])/\Fin k g p w' (s.take e) r:=by
 obtain⟨ev,m,F,hf,nT,jo⟩:=h;have hlen:s.ed.length<=100000:=by omega
 have HF:=lh hf;obtain⟨eo,ec,rfl⟩:=aj.shape hf.ed;have ET:0<s.ed.length:=QH he;obtain⟨eb,rfl,aK⟩:=aj.some hf.ed ET;have qZ:=lh aK;have iD:s.ed.length<=ec/\ec<=9223372036854775807:=by
  rcases hf.ed.1.2 with ⟨q,-⟩ | ⟨g',cap,cur,q,-,-,hn,TV,-⟩
  ·cases q
  simp only[QS.injEq] at q;obtain⟨-,-,rfl⟩:=q;exact⟨hn,by unfold maxLen at TV;omega⟩
 obtain⟨i,hi⟩:∃ i,s.ed.idxOf (e:Int)=i:=⟨_,rfl⟩;have qP:i<s.ed.length:=by rw[<-hi];exact List.idxOf_lt_length_of_mem he
 have qN:=Lib.idxOf_hit s.ed s.ed.length i e qP (QB _) (by
  subst hi;simp[List.getD,qP,List.getElem_idxOf]) (fun j hj q=>by
  have rj:j<s.ed.length:=by omega
  have h2:s.ed[j]=(e:Int):=by simpa[List.getD,rj] using q
  have h3:=List.not_of_lt_findIdx (p:=fun x=>x==(e:Int)) (xs:=s.ed) (i:=j) (by show j<s.ed.idxOf (e:Int);rw[hi];exact hj);simp[h2] at h3)
 have Rx:=lh qN;have HI:=lh hi;obtain⟨-,-,-,-,-,-,c6,c7⟩:=hf.eight;have f6:=hf.free 6;obtain⟨L,hL⟩:∃ L,s.ed.length=L:=⟨_,rfl⟩;have HL:=lh hL;rw[hL] at iD qP Rx c6 hlen qZ;have Hx:=lh (show ∀ j,j<(s.ed.drop i).length->w.cell? ⟨eb,i+j,none⟩=some (.int .i64 ((s.ed.drop i).getD j 0)) from fun j hj=>by
  grind)
 clear hf aK qN hi hL ET he
 go_enter Tryz.func172,Tryz.ntmps172
 go_wp2_with fail
 refine (Tryz.slices_Index_int eb 0 L ec s.ed (e:Int) w (by rw[HL.out];exact QB _) (by omega) (fun j hj=>by rw[HL.out] at hj;rw[Nat.zero_add];exact qZ.out j hj)).mono ?_;rintro x w' ⟨rfl,rfl⟩;rw[Rx.out]
 go_wp2_with fail
 refine (Tryz.slices_Clone_int eb i (L - i) (ec - i) (s.ed.drop i) _ (by rw[Qz,HL.out];exact QB _) (by omega) Hx.out).mono ?_;rintro x wa ⟨vc,rfl,mm,-,jj⟩;rw[show ((s.ed.drop i).take (L - i)).map (Value.int .i64)=ints (s.ed.drop i) by rw[List.take_of_length_le (by rw[Qz,HL.out];exact QB _)];rfl] at mm;have kU:=ag.mL jj (QB _);obtain⟨cb,Z8,rfl⟩:=cD mm (by omega);have xd:=lh (show w'.heap.size<=cb from (mm.lt cb rfl).1);have yc:=lh (HF.out.fresh kU);have zR:(s.ed.drop i).length=L - i:=by rw[Qz,HL.out]
 have YS:aj wa w'.heap.size (.slice (some ⟨cb,0,none⟩) (L - i) Z8) (s.ed.drop i):=⟨by grind,fun x hx=>HF.out.ed.2.1 x (List.mem_of_mem_drop hx),by grind⟩;have XF:=lh YS;have pj:=lh (show k.w0.heap.size<=w'.heap.size from HF.out.aD.size);have HEB:=lh (show eb<w'.heap.size from (HF.out.ed.low eb (by simp[Qp])).2);have Aw:=lh (show ∀ l∈s.bl,∀ v,F (l.getD 0 0)=some v->∀ b,v.ownBlock=some b->b<w'.heap.size/\b≠eb from fun l hl v hv b hb=>by
  obtain⟨u,h1,h2,h3⟩:=HF.out.rel.1 l hl;rw[hv] at h1;obtain rfl:v=u:=by simpa using h1
  exact⟨(h2.low b (by simp[hb])).2,fun q=>h3 b hb (by rw[q];rfl)⟩)
 have d6:=kU.c c6;have d7:=kU.c c7;have g6:=kU.frozen c6 f6 (by simp);have NQ:=lh (yc.out.aq hk (ev':=.slice (some ⟨eb,0,none⟩) i ec) (ed':=s.ed.take i) ((HL.out ▸ yc.out.ed:aj wa k.w0.heap.size (.slice (some ⟨eb,0,none⟩) L ec) s.ed).cut (by grind)) (fun l hl v hv b hb q=>(Aw.out l hl v hv b hb).2 (by simpa[Qp] using q.symm)));clear mm jj kU YS zR c6 c7 f6
 go_wp2_with fail
 have uJ:ag [k.pb] wa (wa.setCell ⟨k.pb,6,none⟩ (.slice (some ⟨eb,0,none⟩) i ec)):=(ag.refl [k.pb] wa).setCell (Qd (by simp)) _;have ph:k.pb<k.w0.heap.size:=hk.lt _ (by simp[FK.own]);have U4:=lh ((XF.out.aD uJ (by
  intro b hb q;have h1:b=cb:=by simpa[Qp] using hb
  have h2:b=k.pb:=by grind
  have h3:=xd.out;have h4:=pj.out;omega)).base pj.out)
 clear uJ d6 d7 g6 XF Hx yc qZ;generalize wa.setCell ⟨k.pb,6,none⟩ (.slice (some ⟨eb,0,none⟩) i ec)=wb at *;obtain⟨Q,hQ⟩:∃ Q,s.ed.drop i=Q:=⟨_,rfl⟩;have Ky:Q.length=L - i:=by rw[<-hQ,Qz,HL.out]
 rw[hQ] at U4;refine (rB _ Q _ wb (by omega) U4.out).mono ?_;rintro x wc ⟨rfl,sC,ka⟩;have AB:(Plain.Gt Q).length=L - i:=by rw[(Plain.jB Q).length_eq,Ky]
 have PN:aj wc k.w0.heap.size (.slice (some ⟨cb,0,none⟩) (L - i) Z8) (Plain.Gt Q):=sC;have HRC:=lh PN;have rI:eb≠cb:=by have:=xd.out;have:=HEB.out;omega
 have Di:=lh (NQ.out.other (b:=cb) (by have:=xd.out;have:=pj.out;omega) hk (by simpa[Qp] using rI) (fun l hl v hv q=>by
  have h1:=(Aw.out l hl v hv cb q).1;have h2:=xd.out;omega) (by simpa[Qp] using ka))
 obtain⟨-,-,-,-,-,-,-,k7⟩:=Di.out.eight;obtain⟨g',e1,gO⟩:=aj.some PN (by omega);cases e1;have k0:=gO 0 (by omega);obtain⟨z,hz⟩:∃ z,(Plain.Gt Q).getD 0 0=z:=⟨_,rfl⟩;have HZ:=lh hz;have IZ:aU z:=hz ▸ PN.2.1 _ (Plain.aQ (by omega));rw[hz] at k0;have N5:0<L - i:=by omega
 generalize L - i=M at *;have xC:(0:Int)<(M:Int):=by omega
 have HQ:=lh hQ;clear hQ Ky sC PN ka gO hz AB ph rI NQ U4
 go_wp2_with fail
 have aW:ag [] wc wc.drew:=(ag.refl [] wc).drew;refine ar (ag [] wc) [0,1,2,3,4,5,6,7] (Way.line [0,1,2,3,4,5,6,7,8] .done) (by kernel_rfl) (by kernel_rfl) ?_;simp only[Way.line]
 repeat (refine ai (v:=?_) rfl (by rfl) (by rfl) (fun _ _ _ h=>h) aW (fun w' aI=>?_) ?_;rotate_left;(focus (have gB:=aI.c k7;have gQ:=aI.c k0;clear aI;go_simp;try with_reducible rfl));simp only[Act.put,Z1,Z2,Z3,Z4,Z5,Z6])
 refine au rfl (by rfl) (by rfl) (fun K hK=>?_);refine J0 _ _ _ rfl ((Di.out.fresh aW).map) (by unfold maxLen;omega) rfl IZ rfl rfl (uN.some _ _ _ _) ?_;intro wd hmd Tw;refine hK.out _ _ (fun h=>absurd h (Bool.eq_false_iff.1 (by kernel_rfl))) ?_;clear hK K
 try simp only[Act.put,List.getElem_toArray,List.getElem_cons_zero,List.getElem_cons_succ]
 refine aC ?_;have HFD:=lh ((Di.out.fresh aW).put hk ((HRC.out.aD aW (by simp))) (fun b hb q=>by
  have h1:b=cb:=by simpa[Qp] using hb.symm
  have h2:b=eb:=by simpa[Qp] using q.symm
  have:=xd.out;have:=HEB.out;omega) Tw (by rw[HZ.out];exact hmd))
 refine bodyPost_end (v:=.tuple #[]) (by simp[results,Tryz.results172,go_sem]) rfl ?_;have e:s.take (e:Int)=⟨s.met,s.low,s.fe,s.ed.take i,Plain.lj (Plain.Gt Q) s.bl⟩:=by
  unfold Plain.dI.take;rw[HI.out,HQ.out]
 rw[e];exact⟨rfl,_,m+1,_,HFD.out,by
  show m+1+(s.ed.take i).length+Plain.vJ g p s+r<=100000;rw[QM,HL.out,QQ (by omega)];have:=HL.out;omega,jo⟩
end Go.Proofs.YtoiflofhcmjpoaaGreat
namespace Go.Proofs.YtoiflofhcmjpoaaGreat.Plain
variable {g : Gr} {p : Pt}
theorem cK.less {s t:dI} {A:List Int} {v via:Int} (hE:zq g p s A v via) {n:Nat} (hn:Jd p s<=n+1) {pre:List Int} {d:Int} (h:cK g p s t A v via pre):Jd p (t.push d)<=n:=by
 have:Jd p (t.push d)<Jd p s:=by
  refine im (a:=v) (fun x _ hx=>?_) hE.vV ?_ (decide_eq_true hE.vn)
  ·have hx:t.met x=0:=of_decide_eq_true hx
   exact decide_eq_true (Qf fun q=>h.mono q hx)
  exact decide_eq_false (h.xl hE).2
 omega
theorem cK.step (hp:aB g p) {n:Nat} {s t:dI} {A:List Int} {v via:Int} (hE:zq g p s A v via) (hn:Jd p s<=n+1) {pre:List Int} {d:Int} (h:cK g p s t A v via pre) (xp:d∈aF g p v) (BD:d ∉ pre):cK g p s (fV (visit g p n) g v via t d) A v via (pre++[d]):=by
 obtain⟨hd,hv⟩:=bg.1 xp;have zP:=h.xl hE;unfold fV;by_cases c1:g.head d=v
 ·rw[if_pos c1];exact h.loop hp hE hd hv c1
 rw[if_neg c1];by_cases c2:d / 2=via
 ·rw[if_pos c2]
  have hA:=hE.uA hp hd hv c2;exact h.same (h.mono (hE.cH.act _ hA)) (fun _ q=>absurd c2 q) fun q=>absurd c2 q
 rw[if_neg c2];by_cases c3:t.met (g.head d)=0
 ·rw[if_pos c3]
  refine h.child hp hE hd hv BD c2 c3 (tG hp n _ _ _ _ (h.ent hp hE hd hv c3) ?_);exact h.less hE hn
 rw[if_neg c3];by_cases c4:t.met (g.head d)<t.met v
 ·rw[if_pos c4];exact h.up hp hE hd hv BD c1 c2 c3 c4
 rw[if_neg c4];have EM:s.met (g.head d)=0:=Qf fun q=>by
  have h1:=(hE.cH.num (g.head d)).2;rw[(h.old _ q).1,h.me] at c4;omega
 refine h.same c3 (fun q=>absurd EM (hE.cH.act _ q)) fun q=>⟨q,aT d,bQ hd,dP d,by rw[aS];exact⟨EM,c3⟩,Qd (by grind [aS])⟩
theorem Hi {v:Int} {f f':Int->Bool} {h:Int->Nat} (hf:f v=true) (wR:f' v=false) (heq:∀ x,x≠v->f x=f' x):∀ {l:List Int},l.Nodup->v∈l->((l.filter f).map h).sum=h v+((l.filter f').map h).sum
 | [],_,hv=>by simp at hv
 | x :: l,hn,hv=>by
  by_cases e:x=v
  ·subst e
   have hx:x ∉ l:=(QC.1 hn).1;have:l.filter f=l.filter f':=List.filter_congr fun y hy=>heq y fun q=>hx (q ▸ hy);rw[Qc hf,Qg (by simp[wR]),this];simp
  have ih:=Hi (h:=h) hf wR heq (l:=l) (QC.1 hn).2 ((Qk.1 hv).resolve_left fun q=>e q.symm);have e2:=heq x e;cases q:f' x with
  | true =>
   rw[q] at e2;rw[Qc e2,Qc q];simp only[QA,List.sum_cons];omega
  | false =>
   rw[q] at e2;rw[Qg (by simp[e2]),Qg (by simp[q])];exact ih
theorem J3 (hp:aB g p) {s:dI} {v:Int} (hv:v∈p.v) (hm:s.met v=0) (hc:0<=s.fe):vJ g p s=(aF g p v).length+1+vJ g p (s.enter v):=by
 unfold vJ;refine Hi (v:=v) (decide_eq_true hm) ?_ (fun x hx=>?_) hp.vn hv
 ·refine decide_eq_false ?_
  show nV s.met v (s.fe+1) v≠0
  grind [oW]
 show decide (s.met x=0)=decide (nV s.met v (s.fe+1) x=0);rw[mD hx]
end Go.Proofs.YtoiflofhcmjpoaaGreat.Plain
