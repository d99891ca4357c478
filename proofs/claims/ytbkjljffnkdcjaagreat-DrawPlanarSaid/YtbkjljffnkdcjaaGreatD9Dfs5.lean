/- All blocks of a part: each one hangs together off each iD, and a iD takes each two apart. No program here. -/
import Derived.Test.YtbkjljffnkdcjaaGreatD9EmbAll
open List renaming mem_singleton→Qa,mem_append→Qb,mem_append_left→Qe,mem_cons→Qf,mem_append_right→Qg,mem_cons_of_mem→Qi,length_filter_le→Qj,mem_flatten→Qk,append_assoc→Qm,mem_map→Qo,length_map→Qp,length_pos_iff→Qq,nodup_append→Qr,getD→Qs,append_inj'→Qt
open Or renaming inr→Qc,inl→Qd
open Go.Act renaming put→Qh
open Classical renaming byContradiction→Ql,propDecidable→Qn,em→Qv
open Go.Value renaming slice→Qu
open Nat renaming le_trans→Qw,zero_le→Qx
namespace Go.Proofs.YtbkjljffnkdcjaaGreat.Plain
def By (g:Gr) (L:List Int) (z a b:Int):Prop:=bP g ⟨[],L⟩ z a b
def sN (g:Gr) (L:List Int) (x:Int):Prop:=∃ e∈L,cI g e x
def Fe (g:Gr) (B:List Int):Prop:=∀ z x y,sN g B x->sN g B y->x≠z->y≠z->By g B z x y
def Rg (g:Gr) (p:Pt) (pre B:List Int):Prop:=(∃ e,B=[e]/\(g.at e).1=(g.at e).2) \/
 ∃ z∈p.v,∃ Y:Int->Prop,¬ Y z/\(∀ d∈p.ag,Y (g.tail d)->Y (g.head d)\/g.head d=z)/\(∀ e∈B,∃ d∈p.ag,d / 2=e/\Y (g.tail d))/\∀ d∈p.ag,Y (g.tail d)->d / 2∈pre\/d / 2∈B
structure B2 (g:Gr) (p:Pt) (bl:List (List Int)):Prop where
 sep:∀ N1 B N3,bl=N1++B :: N3->Rg g p N1.flatten B
 sol:∀ l∈bl,Fe g l
structure D2 (g:Gr) (p:Pt) (s t:dG) (A:List Int) (v:Int):Prop where
 two:B2 g p t.bl
 own:∀ l∈t.bl,l∈s.bl\/∀ e∈l,∀ x,cI g e x->dO s t x
 tree:∀ x,(x=v\/(dO s t x/\sN g (t.ed.drop s.ed.length) x))->∀ z,¬ dO s t z->By g (t.ed.drop s.ed.length) z v x
 cut:∀ z x,dO s t z->dO s t x->sN g (t.ed.drop s.ed.length) x->x≠z->(z≠v/\By g (t.ed.drop s.ed.length) z x v)\/∃ y∈A,By g (t.ed.drop s.ed.length) z x y
variable {g : Gr} {p : Pt} {s t t2 : dG} {A pre : List Int} {v via : Int}
theorem By.mono {L M:List Int} {z a b:Int} (h:By g L z a b) (hs:∀ e∈L,e∈M):By g M z a b:=by
 unfold By at *
 induction h with
 | here=>exact .here
 | step _ hn FC ih =>
  obtain⟨e,he,r⟩:=hn;exact ih.step ⟨e,hs e he,r⟩ FC
theorem By.BU {L:List Int} {z d:Int} (hd:d / 2∈L) (hz:g.head d≠z):By g L z (g.tail d) (g.head d) :=
 .step .here (eK (p:=⟨[],L⟩) (aw.2 hd)) hz
theorem By.last {L:List Int} {z a b:Int} (h:By g L z a b):a=b\/sN g L b:=by
 cases h with
 | here=>exact Qd rfl
 | step _ hn _ =>
  obtain⟨e,he,-,h2⟩:=D4 hn;exact Qc ⟨e,he,h2⟩
theorem By.AM {L:List Int} {z a b:Int} (ha:a≠z) (h:By g L z a b):By g L z b a:=(bP.symm ha h).2
theorem By.tr {L:List Int} {z a b c:Int} (h:By g L z a b) (k:By g L z b c):By g L z a c:=bP.trans h k
theorem sN.mono {L M:List Int} {x:Int} (h:sN g L x) (hs:∀ e∈L,e∈M):sN g M x:=let ⟨e,he,r⟩:=h;⟨e,hs e he,r⟩
theorem ON {d:Int} {L:List Int} (hd:d / 2∈L):sN g L (g.tail d)/\sN g L (g.head d):=⟨⟨_,hd,(et g d).1⟩,⟨_,hd,(et g d).2⟩⟩
theorem F9 {L M:List Int} (h:L.Perm M) (k:Fe g L):Fe g M:=fun z x y hx hy h1 h2=>(k z x y (hx.mono fun _e he=>h.mem_iff.2 he) (hy.mono fun _e he=>h.mem_iff.2 he) h1 h2).mono fun _e he=>h.mem_iff.1 he
theorem B2.snoc {bl:List (List Int)} {l:List Int} (h:B2 g p bl) (hl:Rg g p bl.flatten l) (ht:Fe g l):B2 g p (bl++[l]):=by
 refine⟨fun N1 B N3 e=>?_,fun m hm=>?_⟩
 ·rcases List.eq_nil_or_concat N3 with q | ⟨m,c,q⟩
  ·subst q
   obtain⟨e1,e2⟩:=Qt e rfl;rw[<-e1];rw[List.singleton_inj.1 e2] at hl;exact hl
  rw[List.concat_eq_append] at q;subst q;have e':bl++[l]=(N1++B :: m)++[c]:=by rw[e];simp
  obtain⟨e1,-⟩:=Qt e' rfl;exact h.sep N1 B m e1
 rcases Qb.1 hm with q | q
 ·exact h.sol m q
 rw[Qa.1 q];exact ht
theorem D2.start (hE:vm g p s A v via) (hb:B2 g p s.bl):D2 g p s (s.enter v) A v:=by
 have he:(s.enter v).ed.drop s.ed.length=[]:=by show s.ed.drop s.ed.length=[];simp
 refine⟨hb,fun l hl=>Qd hl,fun x hx z hz=>?_,fun z x _ _ hi _=>?_⟩
 ·rcases hx with rfl | ⟨-,e,hi,-⟩
  ·exact .here
  rw[he] at hi;cases hi
 obtain⟨e,hi,-⟩:=hi;rw[he] at hi;cases hi
theorem D2.loop (h:cB g p s t A v via pre) (hE:vm g p s A v via) (k:D2 g p s t A v) {d:Int} (hv:g.tail d=v) (hh:g.head d=v):D2 g p s (t.lay (d / 2)) A v:=by
 have jB:(g.at (d / 2)).1=(g.at (d / 2)).2:=oI.2 (hv.trans hh.symm);by_cases hx:∃ m∈t.bl,m.getD 0 0=([d / 2]:List Int).getD 0 0
 ·have fT:t.lay (d / 2)=t:=by
   unfold dG.lay;rw[Cw hx fun m hm q=>?_];have nq:d / 2∈m:=by
    have h0:m.getD 0 0∈m:=iJ (Qq.2 (h.bV.Ap m hm));rw[q] at h0;exact h0
   exact h.bV.nk m hm _ nq jB
  rw[fT];exact k
 have fT:(t.lay (d / 2)).bl=t.bl++[[d / 2]]:=rB fun m hm q=>hx ⟨m,hm,q⟩;have Lp:∀ x,sN g [d / 2] x->x=v:=fun x ⟨e,he,hex⟩=>by
  rw[Qa.1 he] at hex;rcases fM hex with q | q
  ·rw[q,hv]
  rw[q,hh]
 refine⟨?_,fun l hl=>?_,k.tree,k.cut⟩
 ·rw[fT]
  exact k.two.snoc (Qd ⟨_,rfl,jB⟩) fun z x y hx hy _ _=>by rw[Lp x hx,Lp y hy];exact .here
 rw[fT] at hl;rcases Qb.1 hl with q | q
 ·exact k.own l q
 rw[Qa.1 q];refine Qc fun e he x hex=>?_;rw[Lp x ⟨e,he,hex⟩];have hn:dO s t v:=h.rH hE;exact hn
theorem D2.up (h:cB g p s t A v via pre) (hE:vm g p s A v via) (k:D2 g p s t A v) {d m:Int} (hv:g.tail d=v) (hA:g.head d∈A):D2 g p s ((t.push (d / 2)).lower v m) A v:=by
 obtain⟨R,N,e1,-,-,-⟩:=h.yk;have hR:t.ed.drop s.ed.length=R:=by rw[e1];simp
 have W9:((t.push (d / 2)).lower v m).ed.drop s.ed.length=R++[d / 2]:=by
  show (t.ed++[d / 2]).drop s.ed.length=_;rw[e1,Qm];simp
 have kt:=k.tree;have kc:=k.cut;rw[hR] at kt kc;have Lp:∀ x,dO s t x->sN g (R++[d / 2]) x->sN g R x\/x=v:=fun x hx ⟨e,he,hex⟩=>by
  rcases Qb.1 he with q | q
  ·exact Qd ⟨e,q,hex⟩
  rw[Qa.1 q] at hex;rcases fM hex with r | r
  ·exact Qc (by rw[r,hv])
  exact absurd hx.1 (by rw[r];exact hE.bV.act _ hA)
 have sub:∀ e∈R,e∈R++[d / 2]:=fun e he=>Qe _ he;refine⟨k.two,k.own,fun x hx z hz=>?_,fun z x hz hx hi bh=>?_⟩
 ·rw[W9] at hx ⊢
  rcases hx with rfl | ⟨hx,hi⟩
  ·exact .here
  rcases Lp x hx hi with q | q
  ·exact (kt x (Qc ⟨hx,q⟩) z hz).mono sub
  rw[q];exact .here
 rw[W9] at hi ⊢;rcases Lp x hx hi with q | q
 ·rcases kc z x hz hx q bh with ⟨r1,r2⟩ | ⟨y,r1,r2⟩
  ·exact Qd ⟨r1,r2.mono sub⟩
  exact Qc ⟨y,r1,r2.mono sub⟩
 exact Qd ⟨fun r=>bh (q.trans r.symm),by rw[q];exact .here⟩
theorem D2.child (hp:aH g p) (hE:vm g p s A v via) (h:cB g p s t A v via pre) (k:D2 g p s t A v) {d:Int} (hd:d∈p.ag) (hv:g.tail d=v) (hm:t.met (g.head d)=0)
  (hS:cB g p (t.push (d / 2)) t2 (A++[v]) (g.head d) (d / 2) (a8 g p (g.head d))) (kS:D2 g p (t.push (d / 2)) t2 (A++[v]) (g.head d)):D2 g p s (t2.back v (g.head d) (d / 2)) A v:=by
 have qj:=h.rH hE;have Ac:=h.ent hp hE hd hv hm;obtain⟨w,hw⟩:∃ w,g.head d=w:=⟨_,rfl⟩;obtain⟨e,he⟩:∃ e,d / 2=e:=⟨_,rfl⟩;have WU:=h.xH hm;rw[hw] at hm Ac hS kS ⊢;rw[he] at Ac hS kS WU ⊢;have B8:w≠v:=fun q=>qj.2 (q ▸ hm);have f1:∀ x,t.met x≠0->t2.met x=t.met x/\t2.low x=t.low x:=fun x hx=>hS.old x hx;have f2:∀ x,dO s t2 x↔dO s t x\/dO (t.push e) t2 x:=fun x=>by
  constructor
  ·rintro ⟨h1,h2⟩
   by_cases q:t.met x=0
   ·exact Qc ⟨q,h2⟩
   exact Qd ⟨h1,q⟩
  rintro (⟨h1,h2⟩ | ⟨h1,h2⟩)
  ·exact⟨h1,by rw[(f1 x h2).1];exact h2⟩
  exact⟨Classical.byContradiction fun q=>h.mono q h1,h2⟩
 have Ln:dO (t.push e) t2 w:=hS.rH Ac;have rz:¬ dO (t.push e) t2 v:=fun q=>qj.2 q.1;have Yr:∀ {y},dO s t y->¬ dO (t.push e) t2 y:=fun {y} hy q=>hy.2 q.1;have mv:t2.met v=s.dK+1:=by rw[(f1 v qj.2).1,h.me]
 have eQ:∀ c∈p.ag,dO (t.push e) t2 (g.tail c)->t2.met (g.head c)≠0:=fun c hc hn=>by
  by_cases q:g.tail c=w
  ·exact hS.seen c (bk.2 ⟨hc,q⟩)
  refine hS.bV.fin c hc hn.2 fun r=>?_;rcases Qb.1 r with r | r
  ·exact Ac.bV.act _ r hn.1
  exact q (Qa.1 r)
 obtain⟨R1,N1,a1,a2,a3,a4⟩:=h.yk;obtain⟨R2,N2,b1,b2,b3,b4⟩:=hS.yk;have Hp:t2.ed=t.ed++e :: R2:=by rw[b1];show (t.ed++[e])++R2=_;simp
 have fT:t2.bl=t.bl++N2:=b2;have Rc:t.ed.drop s.ed.length=R1:=by rw[a1];simp
 have hR2:t2.ed.drop (t.push e).ed.length=R2:=by rw[b1];simp
 have kt:=k.tree;have kc:=k.cut;have st:=kS.tree;have sc:=kS.cut;rw[Rc] at kt kc;rw[hR2] at st sc;have nA:∀ y∈A,¬ dO (t.push e) t2 y:=fun y hy q=>Ac.bV.act _ (Qe _ hy) q.1;have r1:∀ x,sN g R1 x->t.met x≠0:=fun x ⟨f,hf,mi⟩=>by
  have hb:=(h.M1 f (by rw[a1];exact Qg _ hf)).2;rcases mi with q | q
  ·rw[<-q];exact hb.1
  rw[<-q];exact hb.2
 have r2c:∀ f∈R2,∃ c∈p.ag,c / 2=f/\dO (t.push e) t2 (g.tail c)/\(dO (t.push e) t2 (g.head c)\/g.head c∈A++[v]):=fun f hf=>by
  obtain⟨-,c,hc,h2,h3,-⟩:=(b4 f).1 (Qe _ hf);refine⟨c,hc,h2,h3,?_⟩;by_cases r:t.met (g.head c)=0
  ·exact Qd ⟨r,eQ c hc h3⟩
  exact Qc (hS.inA Ac hc h3 r)
 have r2:∀ x,sN g R2 x->dO (t.push e) t2 x\/x=v\/x∈A:=fun x ⟨f,hf,mi⟩=>by
  obtain⟨c,hc,rfl,h3,h4⟩:=r2c f hf;rcases fM mi with q | q
  ·rw[q];exact Qd h3
  rw[q];rcases h4 with r | r
  ·exact Qd r
  rcases Qb.1 r with r | r
  ·exact Qc (Qc r)
  exact Qc (Qd (Qa.1 r))
 have re:∀ x,cI g e x->x=v\/x=w:=fun x hx=>by
  rw[<-he] at hx;rcases fM hx with q | q
  ·exact Qd (by rw[q,hv])
  exact Qc (by rw[q,hw])
 have vw:∀ {L:List Int} {z:Int},e∈L->w≠z->By g L z v w:=fun {L z} hL hz=>by
  have:=By.BU (g:=g) (L:=L) (z:=z) (d:=d) (by rw[he];exact hL) (by rw[hw];exact hz);rwa[hv,hw] at this
 have wv:∀ {L:List Int} {z:Int},e∈L->v≠z->By g L z w v:=fun {L z} hL hz=>by
  have h1:g.head (aE d)=v:=by rw[<-aA,aS];exact hv
  have:=By.BU (g:=g) (L:=L) (z:=z) (d:=aE d) (by rw[bA,he];exact hL) (by rw[h1];exact hz);rwa[h1,aA,hw] at this
 unfold dG.back;by_cases Wq:t2.met v<=t2.low w
 ·rw[if_pos Wq]
  have ru:t2.ed.idxOf e=t.ed.length:=by
   rw[Hp,List.idxOf_append,if_neg WU];simp
  have Cu:t2.ed.take (t2.ed.idxOf e)=t.ed:=by rw[ru,Hp];exact List.take_left' rfl
  have RT:t2.ed.drop (t2.ed.idxOf e)=e :: R2:=by rw[ru,Hp];exact List.drop_left' rfl
  have KT:∀ x∈e :: R2,¬ kT g t x:=by
   intro x hx hb;rcases Qf.1 hx with q | q
   ·rw[q,<-he,fu,hw] at hb;exact hb.2 hm
   obtain⟨-,c,hc,h2,h3,-⟩:=(b4 x).1 (Qe _ q);rw[<-h2,fu] at hb;exact hb.1 h3.1
  have Ex:lG (Ak (e :: R2)) t2.bl=t2.bl++[Ak (e :: R2)]:=rB fun m jS q=>by
   have h0:m.getD 0 0∈m:=iJ (Qq.2 (hS.bV.Ap m jS));have h1:(Ak (e :: R2)).getD 0 0∈e :: R2:=(eh _).mem_iff.1 (iJ (by rw[(eh _).length_eq];simp));rw[<-q] at h1;rw[fT] at jS;rcases Qb.1 jS with r | r
   ·exact KT _ h1 (h.bV.OB m r _ h0).2
   have h2:m.getD 0 0∈R2++N2.flatten:=Qg _ (Qk.2 ⟨m,r,h0⟩);rcases Qf.1 h1 with u | u
   ·exact ((b4 _).1 h2).1 u
   exact (Qr.1 b3).2.2 _ u _ (Qk.2 ⟨m,r,h0⟩) rfl
  have PS:((t2.lower v (t2.low w)).take e).ed=t.ed:=Cu;have afy:((t2.lower v (t2.low w)).take e).bl=t2.bl++[Ak (e :: R2)]:=by
   show lG (Ak (t2.ed.drop (t2.ed.idxOf e))) t2.bl=_;rw[RT,Ex]
  have hN3:∀ x,dO s ((t2.lower v (t2.low w)).take e) x↔dO s t2 x:=fun x=>Iff.rfl
  -- no BU goes higher
  have fD:∀ c∈p.ag,dO (t.push e) t2 (g.tail c)->g.head c ∉ A:=fun c hc hn u=>by
   have NX:c / 2≠e:=fun k=>by
    rw[<-he] at k;rcases ga k with y | y
    ·rw[y,hv] at hn;exact rz hn
    have h1:g.tail d=g.head c:=by rw[y,aA]
    rw[<-h1,hv] at u;exact hE.vA u
   have h1:=hS.Ii c hc hn (fun k=>bk.2 ⟨hc,k⟩) (Qe _ u) NX;have h2:(t.push e).met (g.head c)=s.met (g.head c):=(h.old _ (hE.bV.act _ u)).1;have h3:=(hE.bV.num (g.head c)).2;omega
  have r2':∀ x,sN g R2 x->dO (t.push e) t2 x\/x=v:=fun x ⟨f,hf,mi⟩=>by
   obtain⟨c,hc,rfl,h3,h4⟩:=r2c f hf;rcases fM mi with q | q
   ·rw[q];exact Qd h3
   rw[q];refine h4.imp id fun r=>?_;rcases Qb.1 r with r | r
   ·exact absurd r (fD c hc h3)
   exact Qa.1 r
  have rL:∀ x,sN g (e :: R2) x->x=v\/(dO (t.push e) t2 x/\(x=w\/sN g R2 x)):=fun x ⟨f,hf,mi⟩=>by
   rcases Qf.1 hf with q | q
   ·rw[q] at mi
    rcases re x mi with r | r
    ·exact Qd r
    exact Qc ⟨by rw[r];exact Ln,Qd r⟩
   rcases r2' x ⟨f,q,mi⟩ with r | r
   ·exact Qc ⟨r,Qc ⟨f,q,mi⟩⟩
   exact Qd r
  have sub:∀ f∈R2,f∈e :: R2:=fun f hf=>Qi _ hf;have WZ:e∈e :: R2:=by simp
  have stw:∀ x,dO (t.push e) t2 x->(x=w\/sN g R2 x)->∀ z,¬ dO (t.push e) t2 z->By g (e :: R2) z w x:=fun x hx hi z hz=>(st x (hi.imp id fun q=>⟨hx,q⟩) z hz).mono sub;have tight:Fe g (e :: R2):=by
   intro z x y hx hy uK qn;by_cases nB:dO (t.push e) t2 z
   ·have pq:v≠z:=fun q=>rz (q ▸ nB)
    have VS:∀ u,sN g (e :: R2) u->u≠z->By g (e :: R2) z u v:=fun u hu Wg=>by
     rcases rL u hu with q | ⟨q1,q2⟩
     ·rw[q];exact .here
     rcases q2 with q2 | q2
     ·rw[q2];exact wv WZ pq
     rcases sc z u nB q1 q2 Wg with ⟨j1,j2⟩ | ⟨y',j1,j2⟩
     ·exact (j2.mono sub).tr (wv WZ pq)
     rcases Qb.1 j1 with r | r
     ·exfalso
      rcases j2.last with o | o
      ·rw[o] at q1;exact nA _ r q1
      rcases r2' _ o with o2 | o2
      ·exact nA _ r o2
      rw[o2] at r;exact hE.vA r
     rw[Qa.1 r] at j2;exact j2.mono sub
    exact (VS x hx uK).tr ((VS y hy qn).AM qn)
   by_cases pq:z=v
   ·have tow:∀ u,sN g (e :: R2) u->u≠z->By g (e :: R2) z w u:=fun u hu Wg=>by
     rcases rL u hu with q | ⟨q1,q2⟩
     ·exact absurd (q.trans pq.symm) Wg
     exact stw u q1 q2 z nB
    have Fz:w≠z:=fun q=>nB (q ▸ Ln);exact ((tow x hx uK).AM Fz).tr (tow y hy qn)
   have Fz:w≠z:=fun q=>nB (q ▸ Ln);have VS:∀ u,sN g (e :: R2) u->u≠z->By g (e :: R2) z v u:=fun u hu Wg=>by
    rcases rL u hu with q | ⟨q1,q2⟩
    ·rw[q];exact .here
    exact (vw WZ Fz).tr (stw u q1 q2 z nB)
   exact ((VS x hx uK).AM (Ne.symm pq)).tr (VS y hy qn)
  refine⟨?_,fun l hl=>?_,fun x hx z hz=>?_,fun z x hz hx hi bh=>?_⟩
  ·rw[afy]
   refine kS.two.snoc (Qc ⟨v,hE.vV,dO (t.push e) t2,rz,fun c hc hn=>?_,fun f hf=>?_,fun c hc hn=>?_⟩) (F9 (eh _).symm tight)
   ·by_cases r:t.met (g.head c)=0
    ·exact Qd ⟨r,eQ c hc hn⟩
    refine Qc ?_;have Mm:=hS.inA Ac hc hn r;rcases Qb.1 Mm with u | u
    ·exact absurd u (fD c hc hn)
    exact Qa.1 u
   ·rcases Qf.1 ((eh _).mem_iff.1 hf) with q | q
    ·exact⟨aE d,bu hd,by rw[bA,he,q],by rw[aA,hw];exact Ln⟩
    obtain⟨c,hc,h2,h3,-⟩:=r2c f q;exact⟨c,hc,h2,h3⟩
   by_cases q:c / 2=e
   ·exact Qc ((eh _).mem_iff.2 (by rw[q];simp))
   have h2:=(b4 (c / 2)).2 ⟨q,c,hc,rfl,hn,(Qv (g.tail c=w)).elim (fun u=>Qc (bk.2 ⟨hc,u⟩)) Qd⟩;rcases Qb.1 h2 with r | r
   ·exact Qc ((eh _).mem_iff.2 (Qi _ r))
   exact Qd (by rw[fT,List.flatten_append];exact Qg _ r)
  ·rw[afy] at hl
   rcases Qb.1 hl with q | q
   ·rcases kS.own l q with r | r
    ·exact (k.own l r).imp id fun o f hf x hx=>(f2 x).2 (Qd (o f hf x hx))
    exact Qc fun f hf x hx=>(f2 x).2 (Qc (r f hf x hx))
   rw[Qa.1 q];refine Qc fun f hf x hx=>(f2 x).2 ?_;rcases rL x ⟨f,(eh _).mem_iff.1 hf,hx⟩ with r | r
   ·rw[r];exact Qd qj
   exact Qc r.1
  ·rw[PS,Rc] at hx ⊢
   rcases hx with q | ⟨hx,hi⟩
   ·rw[q];exact .here
   have tK:=((f2 x).1 hx).resolve_right fun q=>r1 x hi q.1;exact kt x (Qc ⟨tK,hi⟩) z fun q=>hz ((f2 z).2 (Qd q))
  rw[PS,Rc] at hi ⊢;have tK:=((f2 x).1 hx).resolve_right fun q=>r1 x hi q.1;rcases (f2 z).1 hz with VM | nB
  ·exact kc z x VM tK hi bh
  have pq:v≠z:=fun q=>rz (q ▸ nB);exact Qd ⟨Ne.symm pq,(kt x (Qc ⟨tK,hi⟩) z fun q=>Yr q nB).AM pq⟩
 rw[if_neg Wq];have W9:(t2.lower v (t2.low w)).ed.drop s.ed.length=R1++e :: R2:=by
  show t2.ed.drop s.ed.length=_;rw[Hp,a1,Qm];simp
 have s1:∀ f∈R1,f∈R1++e :: R2:=fun f hf=>Qe _ hf;have s2:∀ f∈R2,f∈R1++e :: R2:=fun f hf=>Qg _ (Qi _ hf);have WZ:e∈R1++e :: R2:=by simp
 have cls:∀ x,dO s t2 x->sN g (R1++e :: R2) x->(dO s t x/\(sN g R1 x\/x=v))\/(dO (t.push e) t2 x/\(x=w\/sN g R2 x)):=fun x hx ⟨f,hf,mi⟩=>by
  rcases (f2 x).1 hx with tK | Pm
  ·refine Qd ⟨tK,?_⟩
   rcases Qb.1 hf with q | q
   ·exact Qd ⟨f,q,mi⟩
   rcases Qf.1 q with q | q
   ·rw[q] at mi
    rcases re x mi with r | r
    ·exact Qc r
    rw[r] at tK;exact absurd Ln (Yr tK)
   rcases r2 x ⟨f,q,mi⟩ with r | r | r
   ·exact absurd r (Yr tK)
   ·exact Qc r
   exact absurd tK.1 (hE.bV.act _ r)
  refine Qc ⟨Pm,?_⟩;rcases Qb.1 hf with q | q
  ·exact absurd Pm.1 (r1 x ⟨f,q,mi⟩)
  rcases Qf.1 q with q | q
  ·rw[q] at mi
   rcases re x mi with r | r
   ·rw[r] at Pm;exact absurd Pm rz
   exact Qd r
  exact Qc ⟨f,q,mi⟩
 have stw:∀ x,dO (t.push e) t2 x->(x=w\/sN g R2 x)->∀ z,¬ dO (t.push e) t2 z->By g (R1++e :: R2) z w x:=fun x hx hi z hz=>(st x (hi.imp id fun q=>⟨hx,q⟩) z hz).mono s2;refine⟨kS.two,fun l hl=>?_,fun x hx z hz=>?_,fun z x hz hx hi bh=>?_⟩
 ·rcases kS.own l hl with r | r
  ·exact (k.own l r).imp id fun o f hf x hx=>(f2 x).2 (Qd (o f hf x hx))
  exact Qc fun f hf x hx=>(f2 x).2 (Qc (r f hf x hx))
 ·rw[W9] at hx ⊢
  have VM:¬ dO s t z:=fun q=>hz ((f2 z).2 (Qd q));have nB:¬ dO (t.push e) t2 z:=fun q=>hz ((f2 z).2 (Qc q));have Fz:w≠z:=fun q=>nB (q ▸ Ln);rcases hx with q | ⟨hx,hi⟩
  ·rw[q];exact .here
  rcases cls x hx hi with ⟨q1,q2 | q2⟩ | ⟨q1,q2⟩
  ·exact (kt x (Qc ⟨q1,q2⟩) z VM).mono s1
  ·rw[q2];exact .here
  exact (vw WZ Fz).tr (stw x q1 q2 z nB)
 rw[W9] at hi ⊢;rcases (f2 z).1 hz with VM | nB
 ·have nB:¬ dO (t.push e) t2 z:=Yr VM
  rcases cls x hx hi with ⟨q1,q2 | q2⟩ | ⟨q1,q2⟩
  ·rcases kc z x VM q1 q2 bh with ⟨j1,j2⟩ | ⟨y,j1,j2⟩
   ·exact Qd ⟨j1,j2.mono s1⟩
   exact Qc ⟨y,j1,j2.mono s1⟩
  ·exact Qd ⟨fun r=>bh (q2.trans r.symm),by rw[q2];exact .here⟩
  have Fz:w≠z:=fun q=>nB (q ▸ Ln);have hxw:=(stw x q1 q2 z nB).AM Fz;by_cases pq:z=v
  ·have XY:t2.low w<t2.met w:=by
    have h1:=hS.me;have h2:(t.push e).dK=t.dK:=rfl;have h3:=(h.bV.num v).2;rw[h.me] at h3;omega
   obtain⟨c,hc,j1,j2,j3,j4⟩:=hS.E3 XY;have Mm:g.head c∈A:=(Qb.1 j2).resolve_right fun u=>by
    rw[Qa.1 u] at j3;have:(t.push e).met v=s.dK+1:=h.me;omega
   have hcR:c / 2∈R2:=by
    have h2:=(b4 (c / 2)).2 ⟨j4,c,hc,rfl,j1,(Qv (g.tail c=w)).elim (fun u=>Qc (bk.2 ⟨hc,u⟩)) Qd⟩;rcases Qb.1 h2 with r | r
    ·exact r
    exfalso;obtain⟨l,hl,ma⟩:=Qk.1 r;rcases kS.own l (by rw[fT];exact Qg _ hl) with o | o
    ·have:=(h.bV.OB l o _ ma).2
     exact (fu.1 this).1 j1.1
    exact nA _ Mm (o _ ma _ (et g c).2)
   have h5:=stw (g.tail c) j1 (Qc (ON hcR).1) z nB;have h6:By g (R1++e :: R2) z (g.tail c) (g.head c):=By.BU (s2 _ hcR) (fun q=>hE.vA (by rw[<-pq,<-q];exact Mm));exact Qc ⟨g.head c,Mm,(hxw.tr h5).tr h6⟩
  exact Qd ⟨pq,hxw.tr (wv WZ (Ne.symm pq))⟩
 have pq:v≠z:=fun q=>rz (q ▸ nB);rcases cls x hx hi with ⟨q1,q2⟩ | ⟨q1,q2⟩
 ·refine Qd ⟨Ne.symm pq,?_⟩
  rcases q2 with q2 | q2
  ·exact ((kt x (Qc ⟨q1,q2⟩) z fun q=>Yr q nB).mono s1).AM pq
  rw[q2];exact .here
 rcases q2 with q2 | q2
 ·rw[q2];exact Qd ⟨Ne.symm pq,wv WZ pq⟩
 rcases sc z x nB q1 q2 bh with ⟨j1,j2⟩ | ⟨y,j1,j2⟩
 ·exact Qd ⟨Ne.symm pq,(j2.mono s2).tr (wv WZ pq)⟩
 rcases Qb.1 j1 with r | r
 ·exact Qc ⟨y,r,j2.mono s2⟩
 rw[Qa.1 r] at j2;exact Qd ⟨Ne.symm pq,j2.mono s2⟩
theorem Lq (hp:aH g p):∀ (n:Nat) (s:dG) (A:List Int) (v via:Int),vm g p s A v via->BS p s<=n->B2 g p s.bl->D2 g p s (visit g p n v via s) A v:=by
 intro n
 induction n with
 | zero =>
  intro s A v via hE hn _;have:0<BS p s:=List.length_pos_of_mem (List.mem_filter.2 ⟨hE.vV,decide_eq_true hE.vn⟩);omega
 | succ n ih =>
  intro s A v via hE hn hb;have fold:∀ (rest pre:List Int) (t:dG),pre++rest=a8 g p v->cB g p s t A v via pre->D2 g p s t A v->D2 g p s (rest.foldl (fg (visit g p n) g v via) t) A v:=by
   intro rest
   induction rest with
   | nil=>intro pre t _ _ k;exact k
   | cons d rest ih2 =>
    intro pre t e h k;have zD:d∈a8 g p v:=by rw[<-e];simp
    obtain⟨hd,hv⟩:=bk.1 zD;have zm:d ∉ pre:=fun q=>by
     have fs:(a8 g p v).Nodup:=List.Pairwise.filter _ (cP hp.en);rw[<-e,Qr] at fs;exact fs.2.2 d q d (by simp) rfl
    have qj:=h.rH hE
    suffices hs:cB g p s (fg (visit g p n) g v via t d) A v via (pre++[d])/\D2 g p s (fg (visit g p n) g v via t d) A v from
     ih2 (pre++[d]) _ (by rw[Qm];exact e) hs.1 hs.2
    unfold fg;by_cases c1:g.head d=v
    ·rw[if_pos c1];exact⟨h.loop hp hE hd hv c1,k.loop h hE hv c1⟩
    rw[if_neg c1];by_cases c2:d / 2=via
    ·rw[if_pos c2]
     have hA:=hE.q8 hp hd hv c2;exact⟨h.same (h.mono (hE.bV.act _ hA)) (fun _ q=>absurd c2 q) fun q=>absurd c2 q,k⟩
    rw[if_neg c2];by_cases c3:t.met (g.head d)=0
    ·rw[if_pos c3]
     have Ac:=h.ent hp hE hd hv c3;have hu:BS p (t.push (d / 2))<=n:=by
      have:BS p (t.push (d / 2))<BS p s:=by
       refine fV (a:=v) (fun x _ hx=>?_) hE.vV ?_ (decide_eq_true hE.vn)
       ·have hx:t.met x=0:=of_decide_eq_true hx
        exact decide_eq_true (Ql fun q=>h.mono q hx)
       exact decide_eq_false qj.2
      omega
     have hS:=qX hp n _ _ _ _ Ac hu;exact⟨h.child hp hE hd hv zm c2 c3 hS,k.child hp hE h hd hv c3 hS (ih _ _ _ _ Ac hu k.two)⟩
    rw[if_neg c3];by_cases c4:t.met (g.head d)<t.met v
    ·rw[if_pos c4]
     have dS:s.met (g.head d)≠0:=fun q=>by
      have:=h.later _ ⟨q,c3⟩;rw[h.me] at c4;omega
     exact⟨h.up hp hE hd hv zm c1 c2 c3 c4,k.up h hE hv (h.inA hE hd (by rw[hv];exact qj) dS)⟩
    rw[if_neg c4];have Cm:s.met (g.head d)=0:=Ql fun q=>by
     have h1:=(hE.bV.num (g.head d)).2;rw[(h.old _ q).1,h.me] at c4;omega
    exact⟨h.same c3 (fun q=>absurd Cm (hE.bV.act _ q)) fun q=>⟨q,aE d,bu hd,bA d,by rw[aA];exact⟨Cm,c3⟩,Qd (by rw[aA];exact c1)⟩,k⟩
  exact fold _ [] _ rfl (cB.start hp hE) (D2.start hE hb)
theorem Pc (hp:aH g p):B2 g p (findAll g p).bl:=by
 have key:∀ (l:List Int) (s:dG),(∀ v∈l,v∈p.v)->Is g p s->B2 g p s.bl->B2 g p (kp g p p.v.length l s).bl:=by
  intro l
  induction l with
  | nil=>intro s _ _ h;exact h
  | cons v l ih =>
   intro s hl h hb;have hu:BS p s<=p.v.length:=Qj _ _;show B2 g p (kp g p p.v.length l (if s.met v=0 then visit g p p.v.length v (-1) s else s)).bl;by_cases q:s.met v=0
   ·rw[if_pos q]
    have hE:vm g p s [] v (-1):=⟨h.bV,hl v (by simp),q,Qd ⟨rfl,rfl⟩,by rw[h.ed];simp,by rw[h.ed];simp⟩;exact ih _ (fun u hu=>hl u (Qi _ hu)) (h.step hp (hl v (by simp)) q hu).1 (Lq hp _ _ _ _ _ hE hu hb).two
   rw[if_neg q];exact ih s (fun u hu=>hl u (Qi _ hu)) h hb
 refine key p.v dG.zero (fun _ h=>h) Is.start ⟨fun N1 B N3 h=>?_,fun l hl=>?_⟩
 ·have:=congrArg List.length h
  simp[dG.zero] at this
 cases hl
theorem Lz (hp:aH g p) {l:List Int} (hl:l∈(findAll g p).bl) {q:Pt} (hq:∀ e∈l,e∈q.e) {e f v:Int} (he:e∈l) (hf:f∈l):¬ JE g q v e f:=by
 obtain⟨h1,-⟩:=mY hp;have h2:=Pc hp;rintro ⟨bh,jE⟩;have jB:∀ x∈l,¬ ((g.at x).1=v/\(g.at x).2=v):=fun x hx r=>by
  have h3:=h1.bV.nk l hl x hx (r.1.trans r.2.symm);rw[h3,Qa] at he hf;exact bh (he.trans hf.symm)
 rcases jE with r | r | r
 ·exact jB e he r
 ·exact jB f hf r
 have h3:=h2.sol l hl v (off g v e) (off g v f) ⟨e,he,mQ⟩ ⟨f,hf,mQ⟩ (mA (jB e he)) (mA (jB f hf));have h4:By g q.e v (off g v e) (off g v f):=h3.mono hq;exact r (bP.congr (p:=⟨[],q.e⟩) (q:=q) rfl h4)
theorem uj {α β:Type} {f:α->β}:∀ {l:List α},(l.map f).Nodup->∀ x∈l,∀ y∈l,f x=f y->x=y
 | [],_,x,hx,_,_,_=>by simp at hx
 | a :: l,h,x,hx,y,hy,e=>by
  rw[List.map_cons,List.nodup_cons] at h;rcases Qf.1 hx with r | r <;> rcases Qf.1 hy with q | q
  ·rw[r,q]
  ·exact absurd (Qo.2 ⟨y,q,by rw[<-e,r]⟩) h.1
  ·exact absurd (Qo.2 ⟨x,r,by rw[e,q]⟩) h.1
  exact uj h.2 x r y q e
theorem vC {g:Gr} {l:List Int} {v:Int}:v∈(gN g l).v↔sN g l v:=by
 show v∈tidy (fG g l)↔_;rw[(mw _).2];unfold fG;rw[List.mem_flatMap];constructor
 ·rintro ⟨e,he,h⟩
  refine⟨e,he,?_⟩;rcases Qf.1 h with q | q
  ·exact Qd q.symm
  exact Qc (Qa.1 q).symm
 rintro ⟨e,he,q | q⟩
 ·exact⟨e,he,by rw[<-q];simp⟩
 exact⟨e,he,by rw[<-q];simp⟩
theorem NN {g:Gr} {p:Pt} {l:List Int} (h0:p.err g=0) (hl:l∈(findAll g p).bl) :
  cg g (gN g l)/\(gN g l).err g=0/\(∀ e∈l,e∈p.e)/\∀ v∈(gN g l).v,v∈p.v:=by
 have hp:=Pt.aF h0;obtain⟨g1,g2,g3,-⟩:=Pt.aP h0;obtain⟨h1,-⟩:=mY hp;have dA:=lj hp;have gB:∀ e∈l,e∈p.e:=fun e he=>dA.mem_iff.1 (Qk.2 ⟨l,hl,he⟩);have hsv:∀ v∈(gN g l).v,v∈p.v:=fun v hv=>by
  obtain⟨e,he,q | q⟩:=vC.1 hv
  ·rw[<-q];exact (hp.ends e (gB e he)).1
  rw[<-q];exact (hp.ends e (gB e he)).2
 have fs:l.Nodup:=by
  have:=h1.nd;exact (List.pairwise_flatten.1 this).1 l hl
 have aU:l.Pairwise (·<·):=by
  have h2:=x5 g p l hl;exact (h2.and fs).imp fun {a b} q=>by omega
 refine⟨⟨?_,fun v hv=>?_⟩,?_,gB,hsv⟩
 ·cases hq:l with
  | nil=>exact absurd hq (h1.bV.Ap l hl)
  | cons e0 r =>
   refine⟨e0,r,rfl,fun e he v hv=>?_⟩;rw[<-hq] at he ⊢;exact Lz hp hl (q:=gN g l) (fun x hx=>hx) (by rw[hq];simp) he
 ·obtain⟨e,he,pA⟩:=vC.1 hv
  obtain⟨d,hd,-⟩:=xI (p:=gN g l) he pA;exact⟨d,(bk.1 hd).1,(bk.1 hd).2⟩
 refine Pt.sJ g1 (CU (mw _).1 fun x hx=>DS g2 x (hsv x hx)) (CU aU fun x hx=>DS g3 x (gB x hx)) fun e he=>?_;exact⟨vC.2 ⟨e,he,Qd rfl⟩,vC.2 ⟨e,he,Qc rfl⟩⟩
theorem Pp {g:Gr} {p:Pt} {r:Int} (hr:r∈gQ g p):pB g p r∈(findAll g p).bl:=(xD (te.1 hr)).1
theorem UL {g:Gr} {p:Pt} {l:List Int} (hp:aH g p) (hl:l∈(findAll g p).bl):∃ r∈gQ g p,pB g p r=l:=by
 obtain⟨h1,-⟩:=mY hp;have hk:l.getD 0 0∈kq (findAll g p).bl:=Qo.2 ⟨l,hl,rfl⟩;refine⟨_,te.2 hk,?_⟩;obtain⟨h2,h3⟩:=xD hk;have hn:=jN h1.nd h1.bV.Ap;exact uj hn _ h2 _ hl h3
theorem Xt {g:Gr} {p:Pt} {r:Int}:(⟨uY g p r,pB g p r⟩:Pt)=gN g (pB g p r):=rfl
end Go.Proofs.YtbkjljffnkdcjaaGreat.Plain
namespace Go.Proofs.YtbkjljffnkdcjaaGreat
open Go.RowKit Go.Maps
set_option maxRecDepth 100000 in
set_option maxHeartbeats 2000000 in
theorem Fb (vg vp vt:Value) (g:Plain.Gr) (p:Plain.Pt) (aa:List (List Int)) (w:World) (pO:p.e.length<=100000) (vF:p.v.length<=100000) (Pz:aa.length<2147483648) (hS:Plain.cu aa aa.length<2147483648) (hg:dU w vg g) (hp:gD w vp p) (ht:eC w vt aa) :
  Calls Tryz.prog 22 #[vg,vp,vt] w fun e w'=>e=.returned (.bool (decide (Plain.gY g p aa=0)))/\ai [] w w':=by
 have HG:=lh hg;have HP:=lh hp;have HT:=lh ht;have yH:=lh hS;obtain⟨eo,cap,rfl,hn,hm,dS,aO⟩:=hg;obtain⟨v1,v2,rfl,hv,he⟩:=hp;obtain⟨ao,ac,rfl,has,KZ,cD⟩:=hv;obtain⟨bo,bc,rfl,la,vD,bT⟩:=he;obtain⟨tno,tc,rfl,yO,zk⟩:=ht;obtain⟨-,-,cG⟩:=dq w #[.int .i64 g.n,.slice eo g.e.length cap] #[.slice ao p.v.length ac,.slice bo p.e.length bc] 24 27;have b8:=lh cG;clear aO cD bT dS la has hn cG zk hS
 go_enter Tryz.func22,Tryz.ntmps22
 go_wp2_with fail
 refine (KH _ _ _ g p aa _ pO vF Pz yH.out (HG.out.fresh b8.out) (HP.out.fresh b8.out) (HT.out.fresh b8.out)).mono ?_;rintro e w2 ⟨ov,rfl,fz,cH,bG⟩;have cA:=lh (b8.out.t bG);clear bG;by_cases hr:Plain.bH g p aa=0
 ·obtain⟨W,hwk,bd⟩:=cH hr
  have HWE:=lh (hwk.eq (Plain.gw hr).1);have HR:=lh hr;have O7:=lh (show Plain.Flat g p aa↔∀ i,i<((Plain.roots g p).map (Plain.dT g p W)).length->((Plain.roots g p).map (Plain.dT g p W)).getD i 0=0 by
   unfold Plain.Flat;rw[<-HWE.out];constructor
   ·intro h i hi
    rw[Qp] at hi;have:=h ((Plain.roots g p).getD i 0) (Plain.aZ hi);simpa[Qs,hi] using this
   intro h r hr;obtain⟨i,hi,e⟩:=List.getElem_of_mem hr;have:=h i (by rw[Qp];exact hi);simpa[Qs,hi,e] using this)
  rw[hr];obtain⟨oo,oc,rfl⟩:=bd.shape;have bU:=lh bd.ints;have Se:=bd.2.2;clear fz cH hwk bd hr HWE;generalize (Plain.roots g p).map (Plain.dT g p W)=G at *;go_wp2
  go_loopw [22] (fun c wr=>∃ k:Nat,k<=G.length/\c=.int .i64 k/\Hid (∀ i,i<k->G.getD i 0=0)/\ai [] w2 wr) (fun c _=>G.length - (intOf c).toNat)
  case atStart=>exact⟨0,Qx _,rfl,lh (fun i hi=>by omega),ai.refl _ _⟩
  case round =>
   obtain⟨k,hk,rfl,hz,hc⟩:=hrel;have HC:=lh (cA.out.t hc);have xo:=lh hc;by_cases aU:k<G.length
   ·obtain⟨Nr,c',e,-,-,jM⟩:=bU.out
    obtain⟨vb,ak9,e2,aO⟩:=jM (by intro e;rw[e] at aU;simp at aU);simp only[Qu.injEq] at e;obtain⟨e3,-,-⟩:=e;rw[e2] at e3;subst e3;have ck:=hc.c (aO k aU);have adk:=lh (fun (h:G.getD k 0≠0)=>show decide (Plain.gY g p aa=0)=false from decide_eq_false fun q=>h (O7.out.1 (Plain.mr q).2 k aU));obtain⟨z,pF⟩:∃ z,G.getD k 0=z:=⟨_,rfl⟩;have HZ:=lh pF;rw[pF] at ck adk;clear aO jM pF hc;by_cases h0:z=0
    ·subst h0
     go_wp2
     go_roundw
     case rel=>exact⟨k+1,by omega,by go_num,lh (fun i hi=>by
       by_cases e:i=k
       ·rw[e];exact HZ.out
       exact hz.out i (by omega)),xo.out⟩
     case measure=>simp[intOf];omega
    have HB:=lh (adk.out h0);go_wp2;go_ret;exact⟨bB HB.out.symm,HC.out⟩
   have e:k=G.length:=by omega
   subst e;have HB:=lh (show decide (Plain.gY g p aa=0)=true from decide_eq_true (Plain.F4 HR.out (O7.out.2 hz.out)));clear hc;go_wp2;go_ret;exact⟨bB HB.out.symm,HC.out⟩
 have HB:=lh (show decide (Plain.gY g p aa=0)=false from decide_eq_false fun q=>hr (Plain.mr q).1);obtain rfl:=fz hr;obtain⟨er,qK⟩:∃ er,Plain.bH g p aa=er:=⟨_,rfl⟩;rw[qK] at hr ⊢;have hb:(er != 0)=true:=by simpa using hr
 have fh:¬ er=0:=hr;clear qK fz cH;go_wp2;go_ret;exact⟨bB HB.out.symm,cA.out⟩
namespace Plain
def fX (g:Gr) (p:Pt):List Pt:=(gQ g p).map fun r=>⟨uY g p r,pB g p r⟩
noncomputable def vT (g:Gr) (b:Pt):Bool:=@decide (b.err g=0/\cg g b/\yh g b) (Qn _)
theorem qk {g:Gr} {b:Pt}:vT g b=true↔b.err g=0/\cg g b/\yh g b:=by unfold vT;exact @decide_eq_true_iff _ (Qn _)
theorem iZ.isB {g:Gr} {b:Pt} {err:Int} {t:List (List Int)} (h:iZ g b err t):decide (err=0)=vT g b:=by
 rw[Bool.eq_iff_iff,decide_eq_true_iff,qk];by_cases h0:b.err g=0
 ·by_cases hS:cg g b
  ·rw[h.flat h0 hS]
   exact⟨fun q=>⟨h0,hS,q⟩,fun q=>q.2.2⟩
  rw[(h.split h0 hS).1];exact⟨fun q=>(by cases q),fun q=>absurd q.2.1 hS⟩
 rw[(h.bad h0).1];exact⟨fun q=>absurd q h0,fun q=>absurd q.1 h0⟩
theorem Dq {g:Gr} {p B:Pt} (h0:p.err g=0):B∈fX g p↔∃ l∈(findAll g p).bl,B=gN g l:=by
 unfold fX;rw[Qo];constructor
 ·rintro ⟨r,hr,rfl⟩
  exact⟨_,Pp hr,rfl⟩
 rintro ⟨l,hl,rfl⟩;obtain⟨r,hr,e⟩:=UL (Pt.aF h0) hl;exact⟨r,hr,by rw[Xt,e]⟩
theorem G2 {g:Gr} {p B:Pt} (h0:p.err g=0) (hB:B∈fX g p):cg g B/\B.err g=0/\(∀ e∈B.e,e∈p.e)/\∀ v∈B.v,v∈p.v:=by
 obtain⟨l,hl,rfl⟩:=(Dq h0).1 hB;exact NN h0 hl
theorem EK {g:Gr} {p:Pt} (h0:p.err g=0):(fX g p).length<=p.e.length:=by
 unfold fX;rw[Qp,tt];exact (yf (Pt.aF h0)).1
theorem Bf {p B:Pt} {g:Gr} (hB:B.err g=0) (hv:∀ v∈B.v,v∈p.v):B.v.length<=p.v.length:=bQ (Pt.aF hB).vn hv
end Plain
def Ui (w:World) (ov:Value) (L:List Plain.Pt):Prop:=∃ ao c,ov=.slice ao L.length c/\∀ i,i<L.length->∃ b v1 n1 c1 v2 n2 c2,ao=some ⟨b,0,none⟩/\w.cell? ⟨b,i*2,none⟩=some (.slice v1 n1 c1)/\w.cell? ⟨b,i*2+1,none⟩=some (.slice v2 n2 c2)/\gD w (.agg #[.slice v1 n1 c1,.slice v2 n2 c2]) (L.getD i ⟨[],[]⟩)
theorem Lj (vg vp:Value) (g:Plain.Gr) (p:Plain.Pt) (w:World) (pO:p.v.length<=100000) (hg:dU w vg g) (hp:gD w vp p) :
  Calls Tryz.prog 26 #[vg,vp] w fun e w'=>∃ ov,e=.returned (.tuple #[ov,.int .i64 (p.err g)])/\(p.err g≠0->ov=.slice none 0 0)/\(p.err g=0->Ui w' ov (Plain.fX g p))/\ai [] w w':=by
 refine (xJ vg vp g p w pO hg hp).mono ?_;rintro e w' ⟨ov,he,h1,h2,hc⟩;refine⟨ov,he,h1,fun h0=>?_,hc⟩;obtain⟨xs,hn⟩:=h2 h0;obtain⟨uo,uc,rfl⟩:=hn.shape;have hlen:(Plain.fX g p).length=(Plain.gQ g p).length:=by unfold Plain.fX;simp
 refine⟨uo,uc,by rw[hlen],fun i hi=>?_⟩;rw[hlen] at hi;obtain⟨gb,c,va,vc,ea,ec,e1,c1,c2,r1,r2⟩:=sG hn rfl hi;simp only[Qu.injEq] at e1;refine⟨gb,va,_,vc,ea,_,ec,e1.1,c1,c2,?_⟩;have:(Plain.fX g p).getD i ⟨[],[]⟩=⟨Plain.uY g p ((Plain.gQ g p).getD i 0),Plain.pB g p ((Plain.gQ g p).getD i 0)⟩:=by
  unfold Plain.fX;simp[Qs,hi]
 rw[this];exact⟨_,_,rfl,r1.ints,r2.ints⟩
theorem um (vg vp:Value) (g:Plain.Gr) (p:Plain.Pt) (w:World) (pO:p.v.length<=100000) (hg:dU w vg g) (hp:gD w vp p) :
  Calls Tryz.prog 16 #[vg,vp] w fun e w'=>e=.returned (.bool (Plain.vT g p))/\ai [] w w':=by
 refine (GF vg vp g p w pO hg hp).mono ?_;rintro e w' ⟨err,t,he,hb,hc⟩;exact⟨by rw[he,hb.isB],hc⟩
namespace Plain
theorem Dk {g:Gr} {p:Pt} {aa:List (List Int)} (h:iA g p aa=true):g.e.length<=60/\p.v.length<=60/\p.e.length<=60/\aa.length<=100/\∀ i,(aa.getD i []).length<=200:=by
 unfold iA iY at h;simp only[Bool.and_eq_true] at h;obtain⟨⟨⟨⟨⟨h1,h2⟩,h3⟩,h4⟩,h5⟩,h6⟩:=h;exact⟨of_decide_eq_true h1,of_decide_eq_true h2,of_decide_eq_true h3,of_decide_eq_true h5,Ul (YP h6)⟩
end Plain
set_option maxRecDepth 100000 in
set_option maxHeartbeats 8000000 in
theorem yA (vg vb vp vt:Value) (g:Plain.Gr) (b p:Plain.Pt) (aa:List (List Int)) (w:World) (hg:dU w vg g) (hb:Mn w vb b) (hp:Mn w vp p) (ht:eC w vt aa) :
  Calls Tryz.prog 6 #[vg,vb,vp,vt] w fun e w'=>e=.returned (.bool true)/\ai [] w w':=by
 have HG:=lh hg;have HB:=lh hb;have HP:=lh hp;have HT:=lh ht;obtain⟨eo,cap,rfl,-,-,-,-⟩:=hg;obtain⟨ao,ac,bo,bc,rfl⟩:=hb.shape;obtain⟨co,cc,fo,fc,rfl⟩:=hp.shape;obtain⟨tno,tc,rfl,-,-⟩:=ht;clear hb hp;have eV:=lh (show ai [] w (((w.alloc (.cells #[.int .i64 g.n,.slice eo g.e.length cap] 24)).alloc (.cells #[.slice ao b.v.length ac,.slice bo b.e.length bc] 27)).alloc (.cells #[.slice co p.v.length cc,.slice fo p.e.length fc] 27)) from (show ai [] w (((w.alloc (.cells #[.int .i64 g.n,.slice eo g.e.length cap] 24)).alloc (.cells #[.slice ao b.v.length ac,.slice bo b.e.length bc] 27)).alloc (.cells #[.slice co p.v.length cc,.slice fo p.e.length fc] 27)) from ((((ai.refl [] w).alloc _).alloc _).alloc _)));have cK:=heap_alloc_new w (.cells #[.int .i64 g.n,.slice eo g.e.length cap] 24);replace cK:=(show ai [] (w.alloc (.cells #[.int .i64 g.n,.slice eo g.e.length cap] 24)) (((w.alloc (.cells #[.int .i64 g.n,.slice eo g.e.length cap] 24)).alloc (.cells #[.slice ao b.v.length ac,.slice bo b.e.length bc] 27)).alloc (.cells #[.slice co p.v.length cc,.slice fo p.e.length fc] 27)) from (((ai.refl [] (w.alloc (.cells #[.int .i64 g.n,.slice eo g.e.length cap] 24))).alloc _).alloc _)).heap cK (by simp);have eN:=heap_alloc_new (w.alloc (.cells #[.int .i64 g.n,.slice eo g.e.length cap] 24)) (.cells #[.slice ao b.v.length ac,.slice bo b.e.length bc] 27);rw[show (w.alloc (.cells #[.int .i64 g.n,.slice eo g.e.length cap] 24)).heap.size=w.heap.size+1 by simp] at eN;replace eN:=(show ai [] ((w.alloc (.cells #[.int .i64 g.n,.slice eo g.e.length cap] 24)).alloc (.cells #[.slice ao b.v.length ac,.slice bo b.e.length bc] 27)) (((w.alloc (.cells #[.int .i64 g.n,.slice eo g.e.length cap] 24)).alloc (.cells #[.slice ao b.v.length ac,.slice bo b.e.length bc] 27)).alloc (.cells #[.slice co p.v.length cc,.slice fo p.e.length fc] 27)) from ((ai.refl [] ((w.alloc (.cells #[.int .i64 g.n,.slice eo g.e.length cap] 24)).alloc (.cells #[.slice ao b.v.length ac,.slice bo b.e.length bc] 27))).alloc _)).heap eN (by simp);have vf:=heap_alloc_new ((w.alloc (.cells #[.int .i64 g.n,.slice eo g.e.length cap] 24)).alloc (.cells #[.slice ao b.v.length ac,.slice bo b.e.length bc] 27)) (.cells #[.slice co p.v.length cc,.slice fo p.e.length fc] 27);rw[show ((w.alloc (.cells #[.int .i64 g.n,.slice eo g.e.length cap] 24)).alloc (.cells #[.slice ao b.v.length ac,.slice bo b.e.length bc] 27)).heap.size=w.heap.size+2 by simp] at vf;have HX:=lh (fun (w2:World) (dL:ai [] (((w.alloc (.cells #[.int .i64 g.n,.slice eo g.e.length cap] 24)).alloc (.cells #[.slice ao b.v.length ac,.slice bo b.e.length bc] 27)).alloc (.cells #[.slice co p.v.length cc,.slice fo p.e.length fc] 27)) w2)=>(⟨dL.c ((cell_of_row _ _ 0 _ _ _ cK).trans rfl),dL.c ((cell_of_row _ _ 1 _ _ _ cK).trans rfl),dL.c ((cell_of_row _ _ 0 _ _ _ eN).trans rfl),dL.c ((cell_of_row _ _ 1 _ _ _ eN).trans rfl),dL.c ((cell_of_row _ _ 0 _ _ _ vf).trans rfl),dL.c ((cell_of_row _ _ 1 _ _ _ vf).trans rfl),by have hz:=dL.size;simpa using hz⟩:w2.cell? ⟨w.heap.size,0,none⟩=some (.int .i64 g.n)/\w2.cell? ⟨w.heap.size,1,none⟩=some (.slice eo g.e.length cap)/\w2.cell? ⟨w.heap.size+1,0,none⟩=some (.slice ao b.v.length ac)/\w2.cell? ⟨w.heap.size+1,1,none⟩=some (.slice bo b.e.length bc)/\w2.cell? ⟨w.heap.size+2,0,none⟩=some (.slice co p.v.length cc)/\w2.cell? ⟨w.heap.size+2,1,none⟩=some (.slice fo p.e.length fc)/\w.heap.size+3<=w2.heap.size));clear cK eN vf;have CK:=lh (show (((w.alloc (.cells #[.int .i64 g.n,.slice eo g.e.length cap] 24)).alloc (.cells #[.slice ao b.v.length ac,.slice bo b.e.length bc] 27)).alloc (.cells #[.slice co p.v.length cc,.slice fo p.e.length fc] 27)).heap.size=w.heap.size+3 by simp);obtain⟨x0,x1,y0,y1,z0,z1,di⟩:=HX.out _ (ai.refl _ _)
 go_enter Tryz.func6,Tryz.ntmps6
 go_wp2_with fail
 generalize (((w.alloc (.cells #[.int .i64 g.n,.slice eo g.e.length cap] 24)).alloc (.cells #[.slice ao b.v.length ac,.slice bo b.e.length bc] 27)).alloc (.cells #[.slice co p.v.length cc,.slice fo p.e.length fc] 27))=w1 at *;refine (jH _).mono ?_;rintro e w2 ⟨rfl,bG⟩;have cA:=lh bG;clear x0 x1 y0 y1 z0 z1 di bG;obtain⟨x0,x1,y0,y1,z0,z1,di⟩:=HX.out _ cA.out
 go_wp2_with fail
 refine (DZ _ _ g b _ (HG.out.fresh (eV.out.t cA.out)) (HB.out.at.fresh (eV.out.t cA.out))).mono ?_;rintro e w3 ⟨rfl,dB⟩;have dD:=lh (cA.out.t dB);clear x0 x1 y0 y1 z0 z1 di dB;obtain⟨x0,x1,y0,y1,z0,z1,di⟩:=HX.out _ dD.out;cases eG:Plain.rP g b with
 | false =>
  clear eG
  go_wp2_with fail
  refine (jH _).mono ?_;rintro e w4 ⟨rfl,iW⟩;have kh:=lh ((eV.out.t dD.out).t iW);clear x0 x1 y0 y1 z0 z1 di iW;go_wp2;go_ret;exact⟨rfl,kh.out⟩
 | true =>
 go_wp2_with fail
 refine (xa _ _ _ g p aa _ (HG.out.fresh (eV.out.t dD.out)) (HP.out.at.fresh (eV.out.t dD.out)) (HT.out.fresh (eV.out.t dD.out))).mono ?_;rintro e w4 ⟨rfl,iW⟩;have kh:=lh (dD.out.t iW);clear x0 x1 y0 y1 z0 z1 di iW;obtain⟨x0,x1,y0,y1,z0,z1,di⟩:=HX.out _ kh.out;cases fh:Plain.iA g p aa with
 | false =>
  rw[show bit false=0 from rfl];clear eG fh
  go_wp2_with fail
  refine (jH _).mono ?_;rintro e w5 ⟨rfl,gV⟩;have iP:=lh ((eV.out.t kh.out).t gV);clear x0 x1 y0 y1 z0 z1 di gV;go_wp2;go_ret;exact⟨rfl,iP.out⟩
 | true =>
 rw[show bit true=1 from rfl];obtain⟨b1,b2,b3⟩:=Plain.Ia eG;obtain⟨d1,d2,d3,d4,d5⟩:=Plain.Dk fh;have yH:=lh (Plain.AR d5 aa.length);clear eG fh d5
 go_wp2_with fail
 refine (Fb _ _ _ g b aa _ (by omega) (by omega) (by omega) (by have:=yH.out;omega) (HG.out.fresh (eV.out.t kh.out)) (HB.out.at.fresh (eV.out.t kh.out)) (HT.out.fresh (eV.out.t kh.out))).mono ?_;rintro e w5 ⟨rfl,gV⟩;have iP:=lh (kh.out.t gV);clear x0 x1 y0 y1 z0 z1 di gV;obtain⟨x0,x1,y0,y1,z0,z1,di⟩:=HX.out _ iP.out;by_cases uZ:Plain.gY g b aa=0
 ·rw[decide_eq_true uZ]
  have Jq:=lh uZ;clear uZ
  go_wp2_with fail
  refine (xU _ _ g b _ (by omega) (HG.out.fresh (eV.out.t iP.out)) (HB.out.at.fresh (eV.out.t iP.out))).mono ?_;rintro e w6 ⟨rfl,hc6⟩;have ni:=lh (iP.out.t hc6);clear x0 x1 y0 y1 z0 z1 di hc6;obtain⟨x0,x1,y0,y1,z0,z1,di⟩:=HX.out _ ni.out;cases hs:Plain.kE g b with
  | false =>
   clear hs
   go_wp2_with fail
   refine (jH _).mono ?_;rintro e w7 ⟨rfl,hc7⟩;have nm:=lh ((eV.out.t ni.out).t hc7);clear x0 x1 y0 y1 z0 z1 di hc7;go_wp2;go_ret;exact⟨rfl,nm.out⟩
  | true =>
  obtain⟨lM,EJ⟩:=Plain.jm.1 hs;have HBE:=lh lM;have BC:=lh EJ;have VH:=lh (Plain.qk.2 ⟨lM,EJ,aa,Plain.jC.of_flat Jq.out EJ⟩);clear hs lM EJ
  go_wp2_with fail
  refine (um _ _ g b _ (by omega) (HG.out.fresh (eV.out.t ni.out)) (HB.out.at.fresh (eV.out.t ni.out))).mono ?_;rw[VH.out];rintro e w7 ⟨rfl,hc7⟩;have nm:=lh (ni.out.t hc7);clear x0 x1 y0 y1 z0 z1 di hc7;obtain⟨x0,x1,y0,y1,z0,z1,di⟩:=HX.out _ nm.out
  go_wp2_with fail
  refine (fw _ _ g p _ (by omega) (HG.out.fresh (eV.out.t nm.out)) (HP.out.at.fresh (eV.out.t nm.out))).mono ?_;rintro e w8 ⟨rfl,hc8⟩;have xf:=lh (nm.out.t hc8);clear x0 x1 y0 y1 z0 z1 di hc8;obtain⟨x0,x1,y0,y1,z0,z1,di⟩:=HX.out _ xf.out;by_cases h0:p.err g=0
  ·rw[h0]
   have IW:=Plain.Lf h0 HBE.out;have HQE:=lh IW;have HMN:=lh (show (⟨Plain.bp false p.v b.v,Plain.bp false p.e b.e⟩:Plain.Pt)=Plain.ud p b from by
    rw[Plain.xZ (Plain.oH h0).1 (Plain.oH HBE.out).1,Plain.xZ (Plain.oH h0).2 (Plain.oH HBE.out).2];rfl)
   have EU:(Plain.ud p b).v.length<=60:=Qw (Qj _ _) d2;have VE:=lh (show ∀ B∈Plain.fX g (Plain.ud p b),B.v.length<=100000/\Plain.vT g B=true from fun B hB=>by
    obtain⟨k1,k2,k3,k4⟩:=Plain.G2 IW hB;exact⟨by have:=Plain.Bf k2 k4;omega,Plain.qk.2 ⟨k2,k1,Plain.yh.sub ⟨aa,Plain.jC.of_flat Jq.out BC.out⟩ k2 k1 fun e he=>(Plain.oL.1 (k3 e he)).2⟩⟩)
   have LK:=lh (Plain.EK IW);have zH:(Plain.ud p b).e.length<=60:=Qw (Qj _ _) d3;have Se:(Plain.fX g (Plain.ud p b)).length<=60:=by have:=LK.out;omega
   clear h0 IW zH;generalize hL:Plain.fX g (Plain.ud p b)=L at *;have HL:=lh hL;clear hL;have HW8:=lh (eV.out.t xf.out)
   go_wp2_with fail
   have aD:ai [] w8 w8.drew:=(ai.refl [] w8).drew;refine au (ai [] w8) [0,1,2,5,6,7,8,9] (Way.line [0,1,2,3,4,5,6,7,8,9] .done) (by kernel_rfl) (by kernel_rfl) ?_;simp only[Way.line]
   repeat
    first
     | (refine ar rfl (by rfl) (by rfl) (fun _ _ _ h=>h) aD ?_;simp only[Qh,Z1,Z2,Z3,Z4,Z5,Z6])
     | (refine aq (v:=?_) rfl (by rfl) (by rfl) (fun _ _ _ h=>h) aD (fun w' aK=>?_) ?_;rotate_left;(focus (have fU:=aK.c x0;have gX:=aK.c x1;have nP:=aK.c y0;have Fx:=aK.c y1;have rd4:=aK.c z0;have rd5:=aK.c z1;clear aK;go_simp;try with_reducible rfl));simp only[Qh,Z1,Z2,Z3,Z4,Z5,Z6])
     | (refine ak rfl (by rfl) (by rfl) aD ?_;simp only[Qh,Z1,Z2,Z3,Z4,Z5,Z6])
   refine aC rfl (by rfl) (by rfl) (fun K hK=>?_);go_simp;refine (Tx _ _ p b _ (by omega) (by omega) (by omega) (by omega) (HP.out.fresh (HW8.out.t aD)) (HB.out.fresh (HW8.out.t aD))).mono ?_;rintro e w9 ⟨ov,rfl,hand,lJ⟩;have bD:=aD.t lJ;clear aD lJ;have aD:=bD;clear bD;refine hK.out _ _ (fun _=>aD) ?_;clear hK K
   try simp only[Qh,Z1,Z2,Z3,Z4,Z5,Z6]
   have hand:=hand [] w9 (ai.refl _ _) (by simp);rw[HMN.out] at hand;have aeH:=lh hand;obtain⟨j1,j2,j3,j4,rfl⟩:=hand.shape;clear hand
   repeat
    first
     | (refine ar rfl (by rfl) (by rfl) (fun _ _ _ h=>h) aD ?_;simp only[Qh,Z1,Z2,Z3,Z4,Z5,Z6])
     | (refine aq (v:=?_) rfl (by rfl) (by rfl) (fun _ _ _ h=>h) aD (fun w' aK=>?_) ?_;rotate_left;(focus (skip;clear aK;go_simp;try with_reducible rfl));simp only[Qh,Z1,Z2,Z3,Z4,Z5,Z6])
     | (refine ak rfl (by rfl) (by rfl) aD ?_;simp only[Qh,Z1,Z2,Z3,Z4,Z5,Z6])
   refine aC rfl (by rfl) (by rfl) (fun K hK=>?_);go_simp;refine (Lj _ _ g (Plain.ud p b) _ (by omega) (HG.out.fresh (HW8.out.t aD)) aeH.out.at).mono ?_;rintro e Ni ⟨ov2,rfl,-,x7,lJ⟩;have bD:=aD.t lJ;clear aD lJ;have aD:=bD;clear bD;refine hK.out _ _ (fun _=>aD) ?_;clear hK K
   try simp only[Qh,Z1,Z2,Z3,Z4,Z5,Z6]
   have x7:=x7 HQE.out;rw[HL.out] at x7;rw[HQE.out];have HPA:=lh x7;obtain⟨k1,k2,rfl,-⟩:=x7
   repeat
    first
     | (refine ar rfl (by rfl) (by rfl) (fun _ _ _ h=>h) aD ?_;simp only[Qh,Z1,Z2,Z3,Z4,Z5,Z6])
     | (refine aq (v:=?_) rfl (by rfl) (by rfl) (fun _ _ _ h=>h) aD (fun w' aK=>?_) ?_;rotate_left;(focus (skip;clear aK;go_simp;try with_reducible rfl));simp only[Qh,Z1,Z2,Z3,Z4,Z5,Z6])
     | (refine ak rfl (by rfl) (by rfl) aD ?_;simp only[Qh,Z1,Z2,Z3,Z4,Z5,Z6])
   refine aB ?_;have Kz:=lh (xf.out.t aD);clear aD x0 x1 y0 y1 z0 z1 di aeH
   go_wp2_with fail
   go_loopw [11] (fun c wr=>∃ k:Nat,k<=L.length/\c=.int .i64 k/\ai [] Ni wr) (fun c _=>L.length - (intOf c).toNat)
   case atStart=>exact⟨0,Qx _,rfl,ai.refl _ _⟩
   case round =>
    obtain⟨k,hk,rfl,hc⟩:=hrel;have kR:=lh (Kz.out.t hc);have xo:=lh hc;obtain⟨x0,x1,y0,y1,z0,z1,di⟩:=HX.out _ kR.out;by_cases aU:k<L.length
    ·obtain⟨Nr,c',e0,hLP⟩:=HPA.out
     simp only[Qu.injEq] at e0;obtain⟨rfl,-,rfl⟩:=e0;obtain⟨bb,v1,n1,d1,v2,n2,d2,rfl,q1,q2,hpt⟩:=hLP k aU;have e1:=hc.c q1;have e2:=hc.c q2;have HPT:=lh (hpt.fresh hc);have rJ:=lh (VE.out (L.getD k ⟨[],[]⟩) (by simp[Qs,aU]));generalize L.getD k ⟨[],[]⟩=q at HPT rJ;clear hLP q1 q2 hpt hc;have HWR:=lh (eV.out.t kR.out)
     go_wp2_with fail
     have aD:ai [] wr wr.drew:=(ai.refl [] wr).drew;refine au (ai [] wr) [0,1,2,3,4,6] (Way.line [0,1,2,3,4,5,6] .done) (by kernel_rfl) (by kernel_rfl) ?_;simp only[Way.line]
     repeat
      first
       | (refine ar rfl (by rfl) (by rfl) (fun _ _ _ h=>h) aD ?_;simp only[Qh,Z1,Z2,Z3,Z4,Z5,Z6])
       | (refine aq (v:=?_) rfl (by rfl) (by rfl) (fun _ _ _ h=>h) aD (fun w' aK=>?_) ?_;rotate_left;(focus (have fU:=aK.c x0;have gX:=aK.c x1;have nP:=aK.c e1;have Fx:=aK.c e2;clear aK;go_simp;try with_reducible rfl));simp only[Qh,Z1,Z2,Z3,Z4,Z5,Z6])
       | (refine ak rfl (by rfl) (by rfl) aD ?_;simp only[Qh,Z1,Z2,Z3,Z4,Z5,Z6])
     refine aC rfl (by rfl) (by rfl) (fun K hK=>?_);go_simp;refine (um _ _ g q _ rJ.out.1 (HG.out.fresh (HWR.out.t aD)) (HPT.out.fresh aD)).mono ?_;rintro e Fk ⟨rfl,lJ⟩;have bD:=aD.t lJ;clear aD lJ;have aD:=bD;clear bD;refine hK.out _ _ (fun _=>aD) ?_;clear hK K
     try simp only[Qh,Z1,Z2,Z3,Z4,Z5,Z6]
     rw[rJ.out.2]
     repeat
      first
       | (refine ar rfl (by rfl) (by rfl) (fun _ _ _ h=>h) aD ?_;simp only[Qh,Z1,Z2,Z3,Z4,Z5,Z6])
       | (refine aq (v:=?_) rfl (by rfl) (by rfl) (fun _ _ _ h=>h) aD (fun w' aK=>?_) ?_;rotate_left;(focus (skip;clear aK;go_simp;try with_reducible rfl));simp only[Qh,Z1,Z2,Z3,Z4,Z5,Z6])
       | (refine ak rfl (by rfl) (by rfl) aD ?_;simp only[Qh,Z1,Z2,Z3,Z4,Z5,Z6])
     refine aB ?_;have Ow:=lh (xo.out.t aD);clear aD x0 x1 y0 y1 z0 z1 di e1 e2;go_wp2
     go_roundw
     case rel=>exact⟨k+1,by omega,by go_num,Ow.out⟩
     case measure=>simp[intOf];omega
    have e:k=L.length:=by omega
    subst e;clear hc x0 x1 y0 y1 z0 z1 di;have HF:=lh (eV.out.t kR.out);go_wp2;go_ret;exact⟨rfl,HF.out⟩
  generalize p.err g=er at *;have hbn:(er != 0)=true:=by simpa using h0
  have auj:¬ er=0:=h0;have HF:=lh (eV.out.t xf.out);clear h0 x0 x1 y0 y1 z0 z1 di;go_wp2;go_ret;exact⟨rfl,HF.out⟩
 rw[decide_eq_false uZ];clear uZ
 go_wp2_with fail
 refine (jH _).mono ?_;rintro e w6 ⟨rfl,hc6⟩;have ni:=lh ((eV.out.t iP.out).t hc6);clear x0 x1 y0 y1 z0 z1 di hc6;go_wp2;go_ret;exact⟨rfl,ni.out⟩
end Go.Proofs.YtbkjljffnkdcjaaGreat
