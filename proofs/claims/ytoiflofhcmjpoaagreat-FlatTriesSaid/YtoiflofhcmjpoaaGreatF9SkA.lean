/- draw's cw in plain words: how ag that aren't drawn are parted. No program here. -/
import Derived.Test.YtoiflofhcmjpoaaGreatF9Dfs4
open List renaming mem_map→Qa,mem_cons→Qc,mem_filter→Qd,mem_cons_of_mem→Qf,mem_singleton→Qg,exists_mem_of_ne_nil→Qi,mem_append→Qj,drop_eq_getElem_cons→Qk,idxOf_lt_length_iff→Ql,nodup_cons→Qm,range→Qn,mem_range→Qo,pairwise_iff_getElem→Qq,map_cons→Qr,eq_nil_or_concat→Qs,take_append_drop→Qt,nodup_append→Qv,getElem_mem→Qw,nodup_range→Qx,flatMap_map→Qy,flatMap_def→Qz,getD→QA
open Or renaming inl→Qb,inr→Qe
open Classical renaming byContradiction→Qh
open Bool renaming eq_false_iff→Qp,false_eq_true→Qu
open Iff renaming rfl→QB
namespace Go.Proofs.YtoiflofhcmjpoaaGreat.Plain
variable {l E A B old w V ks:List Int} {x y e f a u d v z e0 e1 i k:Int} {on P on':Int->Bool} {H K Q:Int->Int->Prop} {g:Gr} {p q b p':Pt} {F F' R:List (List Int)}
def lD (on:Int->Bool) (e:Int) (s:St × (Int->Option Int)) (v:Int):St × (Int->Option Int) :=
 if on v then s else match s.2 v with
  | some f=>(s.1.join f e,s.2)
  | none=>(s.1,λy=>if y=v then some e else s.2 y)
def Ea (g:Gr) (on:Int->Bool) (s:St × (Int->Option Int)) (e:Int):St × (Int->Option Int):=lD on e (lD on e s (g.at e).1) (g.at e).2
def gW (g:Gr) (on:Int->Bool) (E:List Int):St × (Int->Option Int):=E.foldl (Ea g on) (St.new E,λ_=>none)
def cE (g:Gr) (e v:Int):Prop:=(g.at e).1=v\/(g.at e).2=v
def Lk (g:Gr) (on:Int->Bool) (e f:Int):Prop:=∃ v,on v=false/\cE g e v/\cE g f v
structure Bu (on:Int->Bool) (E:List Int) (H:Int->Int->Prop) (s:St × (Int->Option Int)):Prop where
 ok:s.1.Ok
 all:s.1.all=(St.new E).all
 src:∀ v f,s.2 v=some f->f∈E/\H f v
 yY:∀ e v,H e v->on v=false->∃ f,s.2 v=some f/\s.1.rel f e
 least:∀ Q:Int->Int->Prop,oS Q->(∀ e f v,H e v->H f v->on v=false->Q e f)->∀ x y,s.1.rel x y->Q x y
theorem Mi (hx:x∈l):x∈(St.new l).all:=by
 unfold St.new;have h:∀ (l:List Int) (s:St),(x∈l\/x∈s.all)->x∈(l.foldl St.put s).all:=by
  intro l
  induction l with
  | nil=>intro s h;exact h.resolve_left (by simp)
  | cons y l ih =>
   all_goals grind [St.nD,St.lF]
 grind
theorem jU (h:l.Nodup):(St.new l).all=l:=by
 unfold St.new;have h2:∀ (l:List Int) (s:St),(s.all++l).Nodup->(l.foldl St.put s).all=s.all++l:=by
  intro l
  induction l with
  | nil=>intro s _;simp
  | cons y l ih =>
   grind [St.e8]
 grind
theorem XR:(St.new l).rel x y↔x=y:=by
 unfold St.new;have h2:∀ (l:List Int) (s:St),s.Ok->((l.foldl St.put s).rel x y↔s.rel x y):=by
  intro l
  induction l with
  | nil=>intro s _;exact QB
  | cons z l ih=>intro s h;rw[List.foldl_cons,ih _ (h.put z),St.DK h]
 grind [St.Rr,St.Xl]
theorem Bu.start (on:Int->Bool) (E:List Int):Bu on E (λ_ _=>False) (St.new E,λ_=>none) :=
 ⟨St.ZS E,rfl,λv f h=>(by cases h),λe v h=>h.elim,λQ hQ _ x y h=>(XR.1 h) ▸ hQ.refl _⟩
theorem Bu.step {on:Int->Bool} {E:List Int} {H:Int->Int->Prop} {s:St × (Int->Option Int)} (h:Bu on E H s) {e v:Int} (he:e∈E):Bu on E (λf u=>H f u\/(f=e/\u=v)) (lD on e s v):=by
 unfold lD;by_cases ho:on v=true
 ·rw[if_pos ho]
  refine⟨h.ok,h.all,λu f q=>⟨(h.src u f q).1,Qb (h.src u f q).2⟩,λf u q hu=>?_,λQ hQ hh=>h.least Q hQ λa b c d f=>hh a b c (Qb d) (Qb f)⟩;rcases q with q | ⟨rfl,rfl⟩
  ·exact h.yY f u q hu
  all_goals grind
 rw[if_neg ho];cases hv:s.2 v with
 | some f =>
  have hf:=h.src v f hv;have fin:f∈s.1.all:=by rw[h.all];exact Mi hf.1
  have ein:e∈s.1.all:=by rw[h.all];exact Mi he
  have hj:=(St.Xh fin ein).1;refine⟨h.ok.join f e,by show (s.1.join f e).all=_;rw[hj];exact h.all,λu x q=>⟨(h.src u x q).1,Qb (h.src u x q).2⟩,λx u q hu=>?_,λQ hQ hh x y hr=>?_⟩
  ·rcases q with q | ⟨rfl,rfl⟩
   ·obtain⟨y,h1,h2⟩:=h.yY x u q hu
    exact⟨y,h1,(St.yl h.ok f e y x).2 (Qb h2)⟩
   exact⟨f,hv,St.Ku h.ok f x⟩
  have hb:∀ a b,s.1.rel a b->Q a b:=h.least Q hQ λa b c d f=>hh a b c (Qb d) (Qb f);have hfe:Q f e:=hh f e v (Qb hf.2) (Qe ⟨rfl,rfl⟩) (Qp.2 ho);rcases (St.yl h.ok f e x y).1 hr with q | ⟨q,r⟩ | ⟨q,r⟩
  ·exact hb _ _ q
  ·exact hQ.trans (hQ.trans (hb _ _ q) hfe) (hb _ _ r)
  exact hQ.trans (hQ.trans (hb _ _ q) (hQ.symm hfe)) (hb _ _ r)
 | none =>
  refine⟨h.ok,h.all,λu x q=>?_,λx u q hu=>?_,λQ hQ hh=>h.least Q hQ λa b c d f=>hh a b c (Qb d) (Qb f)⟩
  ·simp only at q
   by_cases r:u=v
   ·rw[if_pos r] at q
    cases q;exact⟨he,Qe ⟨rfl,r⟩⟩
   rw[if_neg r] at q;exact⟨(h.src u x q).1,Qb (h.src u x q).2⟩
  rcases q with q | ⟨rfl,rfl⟩
  ·obtain⟨y,h1,h2⟩:=h.yY x u q hu
   grind
  exact⟨x,by simp,s.1.rel_refl x⟩
theorem Bu.congr {s:St × (Int->Option Int)} (h:Bu on E H s) (hk:∀ e v,H e v↔K e v):Bu on E K s:=by
 obtain rfl:H=K:=funext λe=>funext λv=>propext (hk e v);exact h
theorem Bu.fold:∀ (L:List Int) {H:Int->Int->Prop} {s:St × (Int->Option Int)},Bu on E H s->(∀ e∈L,e∈E)->Bu on E (λe v=>H e v\/(e∈L/\cE g e v)) (L.foldl (Ea g on) s)
 | [],H,s,h,_=>h.congr λe v=>by simp
 | x :: L,H,s,h,hs=>by
  have h2:=(h.step (v:=(g.at x).1) (hs x (by simp))).step (v:=(g.at x).2) (hs x (by simp));refine (Bu.fold L h2 λe he=>hs e (Qf _ he)).congr λe v=>?_;unfold cE;rw[Qc];constructor
  ·rintro (((q | ⟨rfl,rfl⟩) | ⟨rfl,rfl⟩) | ⟨q,r⟩)
   ·exact Qb q
   ·exact Qe ⟨Or.inl rfl,Qb rfl⟩
   ·exact Qe ⟨Or.inl rfl,Qe rfl⟩
   exact Qe ⟨Or.inr q,r⟩
  rintro (q | ⟨rfl | q,r⟩)
  ·exact Qb (Qb (Qb q))
  ·rcases r with r | r
   ·exact Qb (Qb (Qe ⟨rfl,r.symm⟩))
   exact Qb (Qe ⟨rfl,r.symm⟩)
  exact Qe ⟨q,r⟩
theorem gP (g:Gr) (on:Int->Bool) (E:List Int):Bu on E (λe v=>e∈E/\cE g e v) (gW g on E) :=
 (Bu.fold E (Bu.start on E) λ_ h=>h).congr λe v=>by simp
theorem jE (he:e∈E) (hf:f∈E) (h:Lk g on e f):(gW g on E).1.rel e f:=by
 obtain⟨v,hv,h1,h2⟩:=h;have hk:=gP g on E;obtain⟨x,e1,r1⟩:=hk.yY e v ⟨he,h1⟩ hv;obtain⟨y,e2,r2⟩:=hk.yY f v ⟨hf,h2⟩ hv
 grind [St.rel_trans,St.Hx]
theorem wI (hQ:oS Q) (h:∀ e∈E,∀ f∈E,Lk g on e f->Q e f) (hr:(gW g on E).1.rel x y):Q x y :=
 (gP g on E).least Q hQ (λe f v h1 h2 hv=>h e h1.1 f h2.1 ⟨v,hv,h1.2,h2.2⟩) x y hr
theorem lk {s:St} (hs:s.Ok) (hl:l∈s.groups):l≠[]/\(∀ x∈l,x∈s.all)/\∀ x∈l,∀ y,y∈l↔s.rel x y:=by
 unfold St.groups St.gr St.dq at hl;obtain⟨h,hh,rfl⟩:=Qa.1 hl;obtain⟨h1,h2⟩:=Qd.1 hh;rw[Qo] at h1;have h2:s.hd h=h:=by simpa using h2
 have dE:∀ x,x∈s.row s.all.length h↔x∈s.all/\s.hd (s.all.idxOf x)=h:=by
  intro x;unfold St.row;rw[Qa];constructor
  ·rintro ⟨i,hi,rfl⟩
   obtain⟨k1,k2⟩:=Qd.1 hi;rw[Qo] at k1;exact⟨iQ k1,by rw[iR hs.nodup k1];simpa using k2⟩
  rintro ⟨hx,e⟩;have aW:=Ql.2 hx;exact⟨s.all.idxOf x,Qd.2 ⟨List.mem_range.2 aW,by grind⟩,by grind⟩
 refine⟨List.ne_nil_of_mem ((dE (s.all.getD h 0)).2 ⟨iQ h1,by rw[iR hs.nodup h1];exact h2⟩),λx hx=>((dE x).1 hx).1,λx hx y=>?_⟩
 all_goals grind [St.rel,St.de]
theorem Fg {s:St} (hs:s.Ok):s.groups.flatten.Perm s.all:=by
 have aT:∀ h x,x∈s.row s.all.length h↔x∈s.all/\s.hd (s.all.idxOf x)=h:=by
  intro h x;unfold St.row;rw[Qa];constructor
  ·rintro ⟨i,hi,rfl⟩
   obtain⟨k1,k2⟩:=Qd.1 hi;rw[Qo] at k1;exact⟨iQ k1,by rw[iR hs.nodup k1];simpa using k2⟩
  rintro ⟨hx,e⟩;have aW:=Ql.2 hx;exact⟨s.all.idxOf x,Qd.2 ⟨List.mem_range.2 aW,by grind⟩,by grind⟩
 have hn:s.groups.flatten.Nodup:=by
  unfold St.groups St.gr;refine List.pairwise_flatten.2 ⟨λl hl=>?_,?_⟩
  ·obtain⟨h,-,rfl⟩:=Qa.1 hl
   unfold St.row;refine List.pairwise_map.2 ((Qq.2 ?_));intro i j hi hj Uw e;have ha:=Qw hi;have hb:=Qw hj;have UP:=Qo.1 (Qd.1 ha).1;have iz:=Qo.1 (Qd.1 hb).1;have gp:((Qn s.all.length).filter λi=>s.hd i==h).Nodup:=Qx.filter _;have e2:((Qn s.all.length).filter λi=>s.hd i==h)[i]=((Qn s.all.length).filter λi=>s.hd i==h)[j]:=by
    rw[<-iR hs.nodup UP,<-iR hs.nodup iz,e]
   exact (Qq.1 gp i j hi hj Uw) e2
  have hd:(s.dq s.all.length).Nodup:=Qx.filter _
  grind
 refine (List.perm_ext_iff_of_nodup hn hs.nodup).2 λx=>?_;rw[List.mem_flatten];constructor
 ·rintro ⟨l,hl,hx⟩
  exact (lk hs hl).2.1 x hx
 intro hx;have aW:=Ql.2 hx;have hg:s.all.idxOf x<s.dY.length:=by rw[<-hs.len];exact aW
 have hle:=hs.le _ hg;refine⟨s.row s.all.length (s.hd (s.all.idxOf x)),Qa.2 ⟨_,Qd.2 ⟨List.mem_range.2 (by omega),by simpa using hs.own _ hg⟩,rfl⟩,?_⟩;exact Qa.2 ⟨s.all.idxOf x,Qd.2 ⟨List.mem_range.2 aW,by simp⟩,by simp[QA,aW]⟩
theorem IG {s:St} (hl:l∈s.groups):l.Sublist s.all:=by
 unfold St.groups St.gr at hl;obtain⟨h,-,rfl⟩:=Qa.1 hl;unfold St.row;have h1:(((Qn s.all.length).filter λi=>s.hd i==h).map λi=>s.all.getD i 0).Sublist ((Qn s.all.length).map λi=>s.all.getD i 0):=(List.filter_sublist).map _;have h2:((Qn s.all.length).map λi=>s.all.getD i 0)=s.all:=by
  refine List.ext_getElem (by simp) λi h1 h2=>?_
  grind
 rwa[h2] at h1
abbrev ju:=Int->Option Int
def fp (g:Gr) (on:Int->Bool):List Int->ju->List Int->Option Int × ju × List Int
 | [],bd,q=>(none,bd,q)
 | d :: ds,bd,q=>match bd (g.head d) with
  | some _=>fp g on ds bd q
  | none=>if on (g.head d) then (some (g.head d),(λy=>if y=g.head d then some d else bd y),q) else fp g on ds (λy=>if y=g.head d then some d else bd y) (q++[g.head d])
def jt (g:Gr) (on:Int->Bool) (p:Pt):Nat->ju->List Int->Option Int × ju
 | 0,bd,_=>(none,bd)
 | _+1,bd,[]=>(none,bd)
 | n+1,bd,u :: q=>match fp g on (aE g p u) bd q with
  | (some z,c,_)=>(some z,c)
  | (none,c,q')=>jt g on p n c q'
def DJ (g:Gr) (bd:ju):Nat->Int->List Int
 | 0,_=>[]
 | n+1,d=>if d<0 then [] else d :: DJ g bd n ((bd (g.tail d)).getD 0)
inductive BF (g:Gr) (bd:ju) (a:Int):Int->List Int->Prop
 | here:BF g bd a a []
 | step {u d:Int} {l:List Int}:u≠a->bd u=some d->0<=d->g.head d=u->BF g bd a (g.tail d) l->u ∉ l.map g.head->BF g bd a u (l++[d])
structure yF (g:Gr) (on:Int->Bool) (p:Pt) (a:Int) (bd:ju):Prop where
 base:bd a=some (-1)
 trc:∀ u,bd u≠none->∃ l,BF g bd a u l/\(∀ d∈l,d∈p.ah)/\∀ d∈l.tail,on (g.tail d)=false
theorem BF.grow {bd:ju} (h:BF g bd a u l) (hx:bd x=none):BF g (λy=>if y=x then some d else bd y) a u l:=by
 induction h with
 | here=>exact .here
 | @step v c m h1 h2 h3 h4 _ h6 ih =>
  refine .step h1 ?_ h3 h4 ih h6
  grind
theorem BF.link {bd:ju} (h:BF g bd a u l):fz g a l u/\(∀ d∈l,0<=d)/\(l.map g.head).Nodup/\a ∉ l.map g.head:=by
 induction h with
 | here=>exact⟨rfl,by simp,by simp,by simp⟩
 | step h1 h2 h3 h4 _ h6 ih =>
  obtain⟨i1,i2,i3,i4⟩:=ih;refine⟨fz.append.2 ⟨_,i1,⟨rfl,h4⟩⟩,λd hd=>?_,?_,?_⟩
  all_goals grind
theorem BF.met {bd:ju} (hb:bd a≠none) (h:BF g bd a u l):bd u≠none/\∀ d∈l,bd (g.head d)≠none/\bd (g.tail d)≠none:=by
 induction h with
 | here=>exact⟨hb,by simp⟩
 | @step v c m h1 h2 h3 h4 _ h6 ih =>
  all_goals grind
theorem BF.back {bd:ju} (hb:bd a=some (-1)) (h:BF g bd a u l):∀ n,l.length<n->(DJ g bd n ((bd u).getD 0)).reverse=l:=by
 induction h with
 | here =>
  intro n hn
  match n,hn with
  | n+1,_=>rw[hb];rfl
 | step h1 h2 h3 h4 _ h6 ih =>
  intro n hn
  match n,hn with
  | n+1,hn =>
   grind [DJ]
theorem yF.start:yF g on p a (λy=>if y=a then some (-1) else none) :=
 ⟨if_pos rfl,λu hu=>by
  by_cases e:u=a
  ·rw[e];exact⟨[],.here,by simp,by simp⟩
  simp[e] at hu⟩
theorem yF.add {bd:ju} (h:yF g on p a bd) (hd:d∈p.ah) (h0:0<=d) (hm:bd (g.tail d)≠none) (ho:g.tail d=a\/on (g.tail d)=false) (hn:bd (g.head d)=none):yF g on p a (λy=>if y=g.head d then some d else bd y):=by
 have qD:bd a≠none:=by rw[h.base];simp
 have hna:a≠g.head d:=λe=>qD (by grind);refine⟨by rw[if_neg hna];exact h.base,λu hu=>?_⟩;by_cases e:u=g.head d
 ·subst e
  obtain⟨l,h1,h2,h3⟩:=h.trc _ hm;refine⟨l++[d],.step (λe=>hna e.symm) (if_pos rfl) h0 rfl (h1.grow hn) (λq=>?_),λx hx=>?_,λx hx=>?_⟩
  ·obtain⟨x,hx,e⟩:=Qa.1 q
   exact ((h1.met qD).2 x hx).1 (by grind)
  ·all_goals grind
  cases l with
  | nil=>simp at hx
  | cons y l =>
   rcases Qj.1 (show x∈l++[d] from hx) with q | q
   ·exact h3 x q
   rw[Qg.1 q];refine ho.resolve_left λe=>?_;have k:=h1.link;rw[e] at k
   -- a trace to a is empty
   obtain⟨k1,-,-,k4⟩:=k;apply k4;rcases Qs (y :: l) with r | ⟨m,z,r⟩
   ·cases r
   rw[r] at k1 ⊢;rw[List.concat_eq_append] at k1 ⊢;have:=gO k1;rw[List.map_append];simp[this]
 obtain⟨l,h1,h2,h3⟩:=h.trc u (by grind);exact⟨l,h1.grow hn,h2,h3⟩
structure XG (g:Gr) (on:Int->Bool) (p:Pt) (a:Int) (bd:ju) (q:List Int):Prop where
 inv:yF g on p a bd
 off:∀ u,bd u≠none->u=a\/on u=false
 inq:∀ u∈q,bd u≠none
 done:∀ u,bd u≠none->u∈q\/∀ d∈aE g p u,bd (g.head d)≠none
theorem ym {g:Gr} {on:Int->Bool} {p:Pt} {a u:Int} (rH:∀ d∈p.ah,0<=d):∀ (ds:List Int) {bd:ju} {q:List Int},(∀ d∈ds,d∈aE g p u)->bd u≠none->(u=a\/on u=false)->yF g on p a bd->(∀ x,bd x≠none->x=a\/on x=false) ->
  match fp g on ds bd q with
  | (some z,c,_)=>yF g on p a c/\c z≠none/\on z=true/\z≠a
  | (none,c,q')=>yF g on p a c/\(∀ x,c x≠none->x=a\/on x=false)/\(∀ x,bd x≠none->c x≠none)/\(∀ d∈ds,c (g.head d)≠none)/\(∀ x,c x≠none->bd x≠none\/x∈q')/\(∀ x∈q',x∈q\/c x≠none)/\∀ x∈q,x∈q'
 | [],bd,q,_,_,_,h,ho=>⟨h,ho,λ_ hx=>hx,by simp,λx hx=>Qb hx,λx hx=>Qb hx,λx hx=>hx⟩
 | d :: ds,bd,q,hs,hu,UU,h,ho=>by
  have uN:=aX.1 (hs d (by simp));show match (match bd (g.head d) with
   | some _=>fp g on ds bd q
   | none=>if on (g.head d) then (some (g.head d),(λy=>if y=g.head d then some d else bd y),q) else fp g on ds (λy=>if y=g.head d then some d else bd y) (q++[g.head d])) with
   | (some z,c,_)=>_
   | (none,c,q')=>_
  cases hc:bd (g.head d) with
  | some x =>
   have ih:=ym (g:=g) (on:=on) (p:=p) (a:=a) (u:=u) rH ds (bd:=bd) (q:=q) (λd hd=>hs d (Qf _ hd)) hu UU h ho;simp only
   revert ih
   match fp g on ds bd q with
   | (some z,c,_)=>exact λih=>ih
   | (none,c,q') =>
    rintro ⟨i1,i2,i3,i4,i5,i6⟩;refine⟨i1,i2,i3,λe he=>?_,i5,i6⟩;rcases Qc.1 he with rfl | he
    ·exact i3 _ (by rw[hc];simp)
    exact i4 e he
  | none =>
   have mC:=h.add uN.1 (rH d uN.1) (by rw[uN.2];exact hu) (by rw[uN.2];exact UU) hc;by_cases kP:on (g.head d)=true
   ·simp only[kP,if_true]
    refine⟨mC,by simp,by first | exact kP | trivial,λe=>?_⟩;have:=h.base;rw[<-e,hc] at this;cases this
   simp only[kP];have jn:∀ x,bd x≠none->(if x=g.head d then some d else bd x)≠none:=λx hx=>by
    by_cases e:x=g.head d
    ·rw[if_pos e];simp
    rw[if_neg e];exact hx
   have ih:=ym (g:=g) (on:=on) (p:=p) (a:=a) (u:=u) rH ds (bd:=λy=>if y=g.head d then some d else bd y) (q:=q++[g.head d]) (λd hd=>hs d (Qf _ hd)) (jn u hu) UU mC (λx hx=>by
    by_cases e:x=g.head d
    ·rw[e];exact Qe (Qp.2 kP)
    simp only[if_neg e] at hx;exact ho x hx)
   revert ih
   simp only[Qu,if_false]
   match fp g on ds (λy=>if y=g.head d then some d else bd y) (q++[g.head d]) with
   | (some z,c,_)=>exact λih=>ih
   | (none,c,q') =>
    rintro ⟨i1,i2,i3,i4,i5,i6,i7⟩;refine⟨i1,i2,λx hx=>i3 x (jn x hx),λe he=>?_,λx hx=>?_,λx hx=>?_,λx hx=>i7 x (by simp[hx])⟩
    ·rcases Qc.1 he with rfl | he
     ·exact i3 _ (by simp)
     exact i4 e he
    ·rcases i5 x hx with r | r
     ·by_cases e:x=g.head d
      ·exact Qe (i7 x (by simp[e]))
      simp only[if_neg e] at r;exact Qb r
     exact Qe r
    rcases i6 x hx with r | r
    ·rcases Qj.1 r with r | r
     ·exact Qb r
     rw[Qg.1 r];exact Qe (i3 _ (by simp))
    exact Qe r
def jN (l:List Int) (bd:ju):Nat:=(l.filter λu=>(bd u).isNone).length
theorem yM {f:ju} {c:Int} (hn:l.Nodup) (hx:x∈l) (hf:f x=none):jN l (λy=>if y=x then some c else f y)+1=jN l f :=
 uq (p:=⟨l,[]⟩) hn hx hf
theorem uV {g:Gr} {on:Int->Bool} {V:List Int} (hV:V.Nodup):∀ (ds:List Int) {bd:ju} {q:List Int},(∀ d∈ds,g.head d∈V) ->
  (fp g on ds bd q).1=none->(fp g on ds bd q).2.2.length+jN V (fp g on ds bd q).2.1=q.length+jN V bd
 | [],_,_,_,_=>rfl
 | d :: ds,bd,q,hs,hz=>by
  unfold fp at hz ⊢;cases hc:bd (g.head d) with
  | some x =>
   rw[hc] at hz;exact uV hV ds (λd hd=>hs d (Qf _ hd)) hz
  | none =>
   rw[hc] at hz;by_cases kP:on (g.head d)=true
   ·simp only[kP,if_true] at hz
    cases hz
   simp only[kP,Qu,if_false] at hz ⊢;rw[uV hV ds (λd hd=>hs d (Qf _ hd)) hz];have:=yM (c:=d) hV (hs d (by simp)) hc;rw[List.length_append];simp only[List.length_cons,List.length_nil];omega
theorem uO {g:Gr} {on:Int->Bool} {p:Pt} {a:Int} (rH:∀ d∈p.ah,0<=d) (hV:p.v.Nodup) (hs:∀ d∈p.ah,g.head d∈p.v):∀ (n:Nat) {bd:ju} {q:List Int},XG g on p a bd q->q.length+jN p.v bd<n ->
  match jt g on p n bd q with
  | (some z,c)=>yF g on p a c/\c z≠none/\on z=true/\z≠a
  | (none,c)=>XG g on p a c []
 | 0,_,_,_,h=>by omega
 | n+1,bd,[],h,_=>h
 | n+1,bd,u :: q,h,hn=>by
  unfold jt;have hu:=h.inq u (by simp);have h1:=ym (g:=g) (on:=on) (p:=p) (a:=a) (u:=u) rH (aE g p u) (bd:=bd) (q:=q) (λd hd=>hd) hu (h.off u hu) h.inv h.off;have h2:=uV (g:=g) (on:=on) hV (aE g p u) (bd:=bd) (q:=q) (λd hd=>hs d (aX.1 hd).1)
  revert h1 h2
  match fp g on (aE g p u) bd q with
  | (some z,c,_)=>exact λh1 _=>h1
  | (none,c,q') =>
   rintro ⟨i1,i2,i3,i4,i5,i6,i7⟩ h2;have h2:=h2 rfl;simp only at h2 ⊢;refine uO rH hV hs n ⟨i1,i2,λx hx=>?_,λx hx=>?_⟩ (by simp at hn;omega)
   ·rcases i6 x hx with r | r
    ·exact i3 x (h.inq x (by simp[r]))
    exact r
   rcases i5 x hx with r | r
   ·rcases h.done x r with r | r
    ·rcases Qc.1 r with r | r
     ·right;intro d hd;rw[r] at hd;exact i4 d hd
     exact Qb (i7 x r)
    exact Qe λd hd=>i3 _ (r d hd)
   exact Qb r
def LD (g:Gr) (on:Int->Bool) (E:List Int):Prop:=∀ Q:Int->Int->Prop,oS Q->(∀ e∈E,∀ f∈E,Lk g on e f->Q e f)->∀ e∈E,∀ f∈E,Q e f
theorem pG (he:e∈p.e) (h:cE g e v):∃ d∈aE g p v,d / 2=e:=by
 have h0:=dP g e;rcases h with h | h
 ·exact⟨2*e,aX.2 ⟨au.2 (by rwa[show 2*e / 2=e by omega]),by grind⟩,by omega⟩
 exact⟨aH (2*e),aX.2 ⟨bD (au.2 (by rwa[show 2*e / 2=e by omega])),by grind [az]⟩,by grind [bJ]⟩
theorem eM (g:Gr) (d:Int):cE g (d / 2) (g.tail d)/\cE g (d / 2) (g.head d):=by
 all_goals grind [cE,iO]
theorem fu (h:cE g (d / 2) v):v=g.tail d\/v=g.head d:=by
 all_goals grind [cE,iO]
theorem N6 {bd:ju} (h:XG g on p a bd []) (hh:LD g on p.e) (h0:e0∈p.e) (ha:cE g e0 a) (h1:e1∈p.e) (hz:cE g e1 z) (Ur:on z=true) (KS:z≠a):False:=by
 have Yk:∀ u,bd u≠none->∀ d∈aE g p u,bd (g.head d)≠none:=λu hu=>(h.done u hu).resolve_left (by simp);have cd:∀ e∈p.e,∀ v,cE g e v->bd v≠none->∀ u,cE g e u->bd u≠none:=λe he v hv hm u hu=>by
  all_goals grind [pG,aX,fu]
 have hq:=hh (λe f=>(∀ u,cE g e u->bd u≠none)↔∀ u,cE g f u->bd u≠none) ⟨λ_=>QB,λq=>q.symm,λq r=>q.trans r⟩ (λe he f hf ⟨v,_,h1,h2⟩=>⟨λq=>cd f hf v h2 (q v h1),λq=>cd e he v h1 (q v h2)⟩) e0 h0 e1 h1;have hb:bd a≠none:=by rw[h.inv.base];simp
 have:=hq.1 (cd e0 h0 a ha hb) z hz;rcases h.off z this with q | q
 all_goals grind
structure P3 (g:Gr) (on:Int->Bool) (p:Pt) (w:List Int) (a z:Int):Prop where
 link:fz g a w z
 ne:a≠z
 oz:on z=true
 dq:(w.map g.head).Nodup
 na:a ∉ w.map g.head
 inn:∀ d∈w.tail,on (g.tail d)=false
 sub:∀ d∈w,d∈p.ah
def mU (g:Gr) (on:Int->Bool) (p:Pt) (a:Int):List Int :=
 match jt g on p (p.v.length+2) (λy=>if y=a then some (-1) else none) [a] with
 | (some z,c)=>(DJ g c (p.v.length+2) ((c z).getD 0)).reverse
 | (none,_)=>[]
theorem BZ:XG g on p a (λy=>if y=a then some (-1) else none) [a] :=
 ⟨yF.start,λu hu=>Qb (by by_cases e:u=a;exact e;simp[e] at hu),λu hu=>by simp[Qg.1 hu],λu hu=>Qb (by by_cases e:u=a;simp[e];simp[e] at hu)⟩
theorem Ac:[a].length+jN p.v (λy=>if y=a then some (-1) else none)<p.v.length+2:=by
 grind [jN]
theorem Ar {z0:Int} (hp:aD g p) (rH:∀ d∈p.ah,0<=d) (hh:LD g on p.e) (h0:e0∈p.e) (ha:cE g e0 a) (h1:e1∈p.e) (hz:cE g e1 z0) (Ur:on z0=true) (KS:z0≠a) :
  ∃ z,P3 g on p (mU g on p a) a z:=by
 have hw:=uO (g:=g) (on:=on) (a:=a) rH hp.vn (λd hd=>(hp.aP hd).2) (p.v.length+2) BZ Ac;unfold mU
 revert hw
 match jt g on p (p.v.length+2) (λy=>if y=a then some (-1) else none) [a] with
 | (none,c)=>exact λhw=>(N6 hw hh h0 ha h1 hz Ur KS).elim
 | (some z,c) =>
  rintro ⟨w1,w2,w3,w4⟩;simp only;obtain⟨l,l1,l2,l3⟩:=w1.trc z w2;obtain⟨k1,k2,k3,k4⟩:=l1.link;have hlen:l.length<=p.v.length:=by
   have:=bY k3 λx hx=>by
    obtain⟨d,hd,rfl⟩:=Qa.1 hx;exact (hp.aP (l2 d hd)).2
   grind
  rw[l1.back w1.base _ (by omega)];exact⟨z,k1,λe=>w4 e.symm,w3,k3,k4,l3,l2⟩
theorem cQ.perm {aa:List (List Int)} (h:cQ g p aa F) (hF:F.Perm F'):cQ g p aa F' :=
 ⟨h.pe,h.iX,h.rings.perm hF,hF.symm.flatten.trans h.all,λf hf=>h.simple f (hF.mem_iff.2 hf),h.full,by have:=hF.length_eq;have:=h.tZ;omega,h.ku⟩
theorem cQ.yA {aa:List (List Int)} (h:cQ g p aa ((A++B) :: R)):cQ g p aa ((B++A) :: R):=by
 have hp:((B++A) :: R).flatten.Perm ((A++B) :: R).flatten:=by
  grind
 have hr:Ring (aA g aa) (B++A):=by
  have h1:=h.rings.ring (A++B) (by simp)
  match A,B,h1 with
  | [],B,h1=>simpa using h1
  | x :: A,[],h1=>simpa using h1
  | x :: A,y :: B,h1=>exact h1.aa
 refine⟨h.pe,h.iX,⟨λc hc=>?_,hp.nodup_iff.2 h.rings.nodup⟩,hp.trans h.all,λf hf=>?_,h.full,h.tZ,h.ku⟩
 ·rcases Qc.1 hc with rfl | hc
  ·exact hr
  exact h.rings.ring c (Qf _ hc)
 rcases Qc.1 hf with rfl | hf
 ·have:=h.simple (A++B) (by simp)
  grind
 exact h.simple f (Qf _ hf)
theorem AA (h:∃ x∈l,P x=true):∃ x m,l.drop (l.findIdx P)=x :: m/\P x=true/\l=l.take (l.findIdx P)++x :: m/\∀ y∈l.take (l.findIdx P),P y=false:=by
 have aW:l.findIdx P<l.length:=List.findIdx_lt_length_of_exists h;refine⟨l[l.findIdx P],l.drop (l.findIdx P+1),Qk aW,List.findIdx_getElem,?_,λy hy=>?_⟩
 ·rw[<-Qk aW,Qt]
 obtain⟨i,hi,rfl⟩:=List.getElem_of_mem hy
 grind
def tG (g:Gr) (old w:List Int) (a z:Int):List Int × List Int :=
 let k:=old.findIdx λd=>decide (g.tail d=a)
 let o:=old.drop k++old.take k
 let j:=o.findIdx λd=>decide (g.tail d=z)
 (o.take j++twins w,w++o.drop j)
theorem rh (ha:∃ x∈old,g.tail x=a) (hz:∃ y∈old,g.tail y=z) (bn:a≠z) :
  ∃ x y A B U V,old=U++V/\V++U=x :: A++y :: B/\g.tail x=a/\g.tail y=z/\tG g old w a z=(x :: A++twins w,w++y :: B):=by
 obtain⟨x,m,h1,h2,h3,-⟩:=AA (P:=λd=>decide (g.tail d=a)) (l:=old) (by grind);have h2:g.tail x=a:=of_decide_eq_true h2;obtain⟨U,hU⟩:∃ U,old.take (old.findIdx λd=>decide (g.tail d=a))=U:=⟨_,rfl⟩;have Mz:∃ y∈(x :: m)++U,decide (g.tail y=z)=true:=by
  obtain⟨y,hy,e⟩:=hz
  grind
 obtain⟨y,B,k1,k2,k3,k4⟩:=AA (P:=λd=>decide (g.tail d=z)) Mz;have k2:g.tail y=z:=of_decide_eq_true k2;have hA:∃ A,((x :: m)++U).take (((x :: m)++U).findIdx λd=>decide (g.tail d=z))=x :: A:=by
  grind
 obtain⟨A,hA⟩:=hA
 all_goals grind [tG]
theorem Rl (h:(l.map g.tail).Nodup) (hd:d∈l) (he:e∈l) (qn:g.tail d=g.tail e):d=e:=by grind [dT]
def gC (g:Gr) (p q:Pt) (aa:List (List Int)) (w:List Int) (a z x y:Int):List (List Int) :=
 (Qn g.n.toNat).map λv:Nat=>if (v:Int)=a then lW x (w.headD 0) (ay aa v) else if (v:Int)=z then lW y (aH (w.getLastD 0)) (ay aa v) else if (v:Int)∈p.v then ay aa v else aE g q v
theorem l7 {aa:List (List Int)} (h0:0<=v) (hn:v<g.n) :
  ay (gC g p q aa w a z x y) v=if v=a then lW x (w.headD 0) (ay aa v) else if v=z then lW y (aH (w.getLastD 0)) (ay aa v) else if v∈p.v then ay aa v else aE g q v:=by
 obtain⟨n,rfl⟩:∃ n:Nat,v=n:=⟨v.toNat,by omega⟩;have aW:n<g.n.toNat:=by omega
 show ((Qn g.n.toNat).map _).getD n []=_
 grind
theorem xf {aa:List (List Int)} (h:cQ g p aa F) (hw:pK g p w a z) (hq:Jd g p w q) (hx:x∈p.ah) (hxa:g.tail x=a) (hy:y∈p.ah) (wX:g.tail y=z) :
  aK g q (gC g p q aa w a z x y)/\Fi g p aa w x y (gC g p q aa w a z x y):=by
 have fR:=Pt.ax h.pe;have Eo:=Pt.ax hq.qe;obtain⟨c,l,rfl⟩:=hw.cons;have qJ:g.tail c=a:=hw.link.1;have hhd:=eh hw.link;have hlv:∀ u∈l.map g.tail,u ∉ p.v:=λu hu=>by
  obtain⟨d,hd,rfl⟩:=Qa.1 hu;exact hw.KE d hd
 have Aa:(l.map g.tail).Nodup:=by have:=hw.vn;rw[Qr,Qm] at this;exact this.2
 have hhn:((c :: l).map g.head).Nodup:=by
  rw[hhd,Qv];exact⟨Aa,by simp,λu hu v hv e=>by
   rw[Qg.1 hv] at e;exact hlv u hu (by rw[e];exact hw.zv)⟩
 obtain⟨e,m,rA⟩:∃ e m,c :: l=m++[e]:=by
  rcases Qs (c :: l) with r | ⟨m,e,r⟩
  all_goals grind
 have Dx:g.head e=z:=by have:=hw.link;rw[rA] at this;exact gO this
 have iM:(c :: l).getLastD 0=e:=by rw[rA,List.getLastD_eq_getLast?];simp
 have aeK:e∈c :: l:=by rw[rA];simp
 have W1:∀ d∈c :: l,g.tail d=a->d=c:=λd hd r=>Rl hw.vn hd (by simp) (r.trans qJ.symm);have W2:∀ d∈c :: l,g.tail d≠z:=λd hd r=>by
  rcases Qc.1 hd with rfl | hd
  ·exact hw.ne (qJ.symm.trans r)
  exact hw.KE d hd (by grind)
 have hh:∀ d∈c :: l,g.head d∈l.map g.tail++[z]:=λd hd=>by rw[<-hhd];exact Qa.2 ⟨d,hd,rfl⟩
 have W3:∀ d∈c :: l,g.head d≠a:=λd hd r=>by
  have:=hh d hd;rw[r] at this;rcases Qj.1 this with k | k
  ·exact hlv a k hw.av
  all_goals grind
 have W4:∀ d∈c :: l,g.head d=z->d=e:=λd hd r=>dT hhn d hd e aeK (r.trans Dx.symm);have W5:∀ v∈p.v,v≠a->v≠z->∀ d∈c :: l,g.tail d≠v/\g.head d≠v:=λv hv ha hz d hd=>by
  all_goals grind
 have htt:∀ d,g.tail d=g.head (aH d):=λd=>by rw[<-az,bg]
 have UL:=h.iX.mem a (fR.vr a hw.av).1 (fR.vr a hw.av).2;have htz:=h.iX.mem z (fR.vr z hw.zv).1 (fR.vr z hw.zv).2;have Yp:x∈ay aa a:=(UL x).2 ⟨hx,hxa⟩;have hyt:y∈ay aa z:=(htz y).2 ⟨hy,wX⟩;have qw:c ∉ ay aa a:=λr=>(hw.te (show c∈c :: l by simp)).1 ((UL c).1 r).1;have lJ:aH e ∉ ay aa z:=λr=>(hw.te aeK).2 ((htz _).1 r).1;have hT:∀ v,0<=v->v<g.n->((ay (gC g p q aa (c :: l) a z x y) v).Nodup/\∀ d,d∈ay (gC g p q aa (c :: l) a z x y) v↔d∈q.ah/\g.tail d=v):=λv h0 hn=>by
  rw[l7 h0 hn];by_cases e1:v=a
  ·rw[if_pos e1,e1]
   have Xr:=yx (y:=c) Yp;refine⟨Xr.nodup_iff.2 (Qm.2 ⟨qw,h.iX.nodup a⟩),λd=>?_⟩;show d∈lW x c (ay aa a)↔_;rw[Xr.mem_iff,Qc,UL,hq.ah]
   all_goals grind
  rw[if_neg e1];by_cases e2:v=z
  ·rw[if_pos e2,e2,iM]
   have Xr:=yx (y:=aH e) hyt;refine⟨Xr.nodup_iff.2 (Qm.2 ⟨lJ,h.iX.nodup z⟩),λd=>?_⟩;rw[Xr.mem_iff,Qc,htz,hq.ah]
   all_goals grind [bg,az]
  rw[if_neg e2];by_cases e3:v∈p.v
  ·rw[if_pos e3]
   refine⟨h.iX.nodup v,λd=>?_⟩;rw[h.iX.mem v h0 hn,hq.ah]
   all_goals grind
  rw[if_neg e3];exact⟨dZ Eo.en v,λd=>aX⟩
 have hlen:(gC g p q aa (c :: l) a z x y).length=g.n.toNat:=by simp[gC]
 have hn0:=(Gr.aF (Pt.aF h.pe).1).1;refine⟨⟨by grind,λv=>?_,λv h0 hn=>(hT v h0 hn).2⟩,?_⟩
 ·by_cases hv:v.toNat<g.n.toNat
  ·exact (hT (v.toNat:Int) (by omega) (by omega)).1
  have:ay (gC g p q aa (c :: l) a z x y) v=[]:=by
   unfold ay;rw[QA,List.getElem?_eq_none (by omega)];rfl
  rw[this];simp
 have hva:=fR.vr a hw.av;have hvz:=fR.vr z hw.zv;refine⟨λd l' hd=>?_,λd l' hd=>?_,λu hu=>?_⟩
 ·obtain⟨rfl,-⟩:=List.cons.inj hd
  unfold before;rw[qJ,l7 hva.1 hva.2,if_pos rfl];exact rj (h.iX.nodup a) Yp qw
 ·obtain rfl:d=e:=by
   grind
  unfold before;rw[az,Dx,l7 hvz.1 hvz.2,if_neg (λk=>hw.ne k.symm),if_pos rfl,iM];exact rj (h.iX.nodup z) hyt lJ
 have jT:=(fR.aP hu).1;have Yx:=fR.vr _ jT;have hut:u∈ay aa (g.tail u):=(h.iX.mem _ Yx.1 Yx.2 u).2 ⟨hu,rfl⟩;have Io:g.tail (before g aa u)=g.tail u:=((h.iX.mem _ Yx.1 Yx.2 _).1 (qm (h.iX.nodup _) hut)).2;have afI:before g (gC g p q aa (c :: l) a z x y) u=ahead (if g.tail u=a then lW x c (ay aa (g.tail u)) else if g.tail u=z then lW y (aH e) (ay aa (g.tail u)) else ay aa (g.tail u)) u:=by
  unfold before;rw[l7 Yx.1 Yx.2,if_pos jT,iM];rfl
 rw[afI,iM];show _=if before g aa u=x then c else if before g aa u=y then aH e else before g aa u;by_cases e1:g.tail u=a
 ·rw[if_pos e1]
  have hby:before g aa u≠y:=λr=>hw.ne (by grind);rw[if_neg hby];rw[e1] at hut ⊢;rw[rN (h.iX.nodup a) Yp qw hut]
  grind [before]
 rw[if_neg e1];have dN:before g aa u≠x:=λr=>e1 (by grind);rw[if_neg dN];by_cases e2:g.tail u=z
 ·rw[if_pos e2]
  rw[e2] at hut ⊢;rw[rN (h.iX.nodup z) hyt lJ hut]
  grind [before]
 all_goals grind [before]
structure bh where
 ag:List Int
 ends:List Int
 ak:List Int
structure Sk where
 on:Int->Bool
 ak:List (List Int)
 rest:List bh
def dM (g:Gr) (f:List Int) (v:Int):Bool:=f.any λd=>decide (g.tail d=v)
def bp (F:List (List Int)) (i:Int):List Int:=F.getD i.toNat []
def jD (g:Gr) (F:List (List Int)) (V ks:List Int):List Int:=ks.filter λi=>V.all λv=>dM g (bp F i) v
def bC (g:Gr) (on:Int->Bool) (E:List Int):List Int:=tidy (E.flatMap λe=>[(g.at e).1,(g.at e).2].filter on)
def a8 (E l:List Int):List Int:=E.filter λe=>!(l.contains (2*e))&&!(l.contains (2*e+1))
def cw (g:Gr) (on:Int->Bool) (F:List (List Int)) (E ks:List Int):List bh:=(gW g on E).1.groups.map λl=>⟨l,bC g on l,jD g F (bC g on l) ks⟩
def eX (g:Gr) (on:Int->Bool) (w:List Int):Int->Bool:=λv=>on v || w.any λd=>decide (g.tail d=v)
def fH (g:Gr) (F:List (List Int)) (f k:Int) (r:bh):bh:=if f∈r.ak then ⟨r.ag,r.ends,r.ak.erase f++jD g F r.ends [f,k]⟩ else r
def Sk.put (g:Gr) (V:List Int) (s:Sk) (i:Nat):Sk :=
 let c:=s.rest.getD i ⟨[],[],[]⟩
 let a:=c.ends.getD 0 0
 let w:=mU g s.on ⟨V,c.ag⟩ a
 let f:=c.ak.getD 0 0
 let k:Int:=s.ak.length
 let FF:=tG g (bp s.ak f) w a (g.head (w.getLastD 0))
 let F:=s.ak.set f.toNat FF.1++[FF.2]
 ⟨eX g s.on w,F,(s.rest.eraseIdx i).map (fH g F f k)++cw g (eX g s.on w) F (a8 c.ag w) [f,k]⟩
theorem df {f:List Int} :dM g f v=true↔∃ d∈f,g.tail d=v:=by
 grind [dM]
theorem bB:v∈bC g on E↔on v=true/\∃ e∈E,cE g e v:=by
 unfold bC;rw[(lM _).2,List.mem_flatMap];constructor
 ·rintro ⟨e,he,h⟩
  obtain⟨h1,h2⟩:=Qd.1 h;refine⟨h2,e,he,?_⟩;rcases Qc.1 h1 with r | r
  ·exact Qb r.symm
  exact Qe (Qg.1 r).symm
 rintro ⟨h1,e,he,r⟩;refine⟨e,he,Qd.2 ⟨?_,h1⟩⟩;rcases r with r | r <;> simp[r]
theorem gR (g:Gr) (on:Int->Bool) (E:List Int):(bC g on E).Nodup:=(lM _).1.imp λh e=>by omega
theorem uh:i∈jD g F V ks↔i∈ks/\∀ v∈V,dM g (bp F i) v=true:=by
 grind [jD]
theorem cU:e∈a8 E l↔e∈E/\∀ d∈l,d / 2≠e:=by
 all_goals grind [a8]
theorem Hj:eX g on w v=true↔on v=true\/v∈w.map g.tail:=by
 grind [eX]
structure y6 (g:Gr) (b:Pt) (on:Int->Bool) (F:List (List Int)) (c:bh):Prop where
 sT:LD g on c.ag
 shut:∀ e∈c.ag,∀ f∈b.e,Lk g on e f->f∈c.ag
 sub:∀ e∈c.ag,e∈b.e
 ends:c.ends=bC g on c.ag
 two:2<=c.ends.length
 fnd:c.ak.Nodup
 PJ:∀ i,i∈c.ak↔0<=i/\i.toNat<F.length/\∀ v∈c.ends,dM g (bp F i) v=true
structure tV (g:Gr) (b:Pt) (s:Sk) (p:Pt) (aa:List (List Int)):Prop where
 ak:cQ g p aa s.ak
 on:∀ v,s.on v=true↔v∈p.v
 sub:∀ v∈p.v,v∈b.v
 drawn:p.e≠[]
 part:(p.e++s.rest.flatMap (·.ag)).Perm b.e
 mL:∀ c∈s.rest,y6 g b s.on s.ak c
theorem qv (h:cg g b):∀ e∈b.e,∀ f∈b.e,∀ v∈b.v,¬ pZ g b v e f:=by
 obtain⟨⟨e0,l,he,hs⟩,-⟩:=h;have h0:e0∈b.e:=by rw[he];simp
 intro e wO f Xo v hv fy;have h1:=hs e wO v hv;have h2:=hs f Xo v hv;obtain⟨bn,fy⟩:=fy;have hl:∀ x∈b.e,e0≠x->¬ ((g.at x).1=v/\(g.at x).2=v):=λx hx hn q=>hs x hx v hv ⟨hn,Qe (Qb q)⟩;have Da:∀ x∈b.e,e0≠x->¬ ((g.at e0).1=v/\(g.at e0).2=v):=λx hx hn q=>hs x hx v hv ⟨hn,Qb q⟩;have hc:∀ x∈b.e,e0≠x->bS g b v (off g v e0) (off g v x):=λx hx hn=>Qh λq=>hs x hx v hv ⟨hn,Qe (Qe q)⟩;by_cases q1:e0=e
 ·subst q1
  exact h2 ⟨bn,fy⟩
 by_cases q2:e0=f
 ·subst q2
  rcases fy with r | r | r
  ·exact hl e wO q1 r
  ·exact Da e wO q1 r
  exact r (((hc e wO q1).symm (lg (Da e wO q1))).2)
 rcases fy with r | r | r
 ·exact hl e wO q1 r
 ·exact hl f Xo q2 r
 exact r ((((hc e wO q1).symm (lg (Da e wO q1))).2).trans (hc f Xo q2))
theorem kF:cE g e (off g v e):=by
 all_goals grind [off,cE]
theorem zq {w:Int} (h:om g p u w):∃ e∈p.e,cE g e u/\cE g e w:=by
 obtain⟨e,he,h | h⟩:=h
 ·exact⟨e,he,Qb (by rw[h]),Qe (by rw[h])⟩
 exact⟨e,he,Qe (by rw[h]),Qb (by rw[h])⟩
theorem Cm (hS:cg g b) (fR:aD g p) (dk:p.e≠[]) (kP:∀ v,on v=true↔v∈p.v) (iU:∀ v∈p.v,v∈b.v) (hps:∀ e∈p.e,e∈b.e) (hE:E≠[]) (hEs:∀ e∈E,e∈b.e) (hEp:∀ e∈E,e ∉ p.e)
  (xi:∀ e∈E,∀ f∈b.e,Lk g on e f->f∈E):2<=(bC g on E).length:=by
 obtain⟨e1,AO⟩:=Qi _ dk;obtain⟨e2,Es⟩:=Qi _ hE;refine Qh λaW=>?_
 -- one iq alone may be an end
 obtain⟨v,hv,nJ⟩:∃ v∈p.v,∀ u∈bC g on E,u=v:=by
  match hL:bC g on E with
  | []=>exact⟨_,(fR.ends e1 AO).1,by simp⟩
  | [x] =>
   have:x∈bC g on E:=by rw[hL];simp
   grind [bB]
  | _ :: _ :: _=>rw[hL] at aW;simp at aW
 have bn:e2≠e1:=λr=>hEp e2 Es (r ▸ AO);have fy:=qv hS e2 (hEs e2 Es) e1 (hps e1 AO) v (iU v hv);have Cj:¬ ((g.at e2).1=v/\(g.at e2).2=v):=λr=>fy ⟨bn,Qb r⟩;have yJ:¬ ((g.at e1).1=v/\(g.at e1).2=v):=λr=>fy ⟨bn,Qe (Qb r)⟩;have hc:bS g b v (off g v e2) (off g v e1):=Qh λr=>fy ⟨bn,Qe (Qe r)⟩;have lr:∀ u,bS g b v (off g v e2) u->on u=false/\∃ e∈E,cE g e u:=λu hu=>by
  have key:∀ u e,e∈E->cE g e u->u≠v->on u=false:=λu e he hu hn=>Qp.2 λr=>hn (nJ u (bB.2 ⟨r,e,he,hu⟩))
  induction hu with
  | here=>exact⟨key _ e2 Es kF (lg Cj),e2,Es,kF⟩
  | step _ hn hs ih =>
   obtain⟨i1,e,he,i2⟩:=ih;obtain⟨f,hf,f1,f2⟩:=zq hn;have hfE:=xi e he f hf ⟨_,i1,i2,f1⟩
   grind
 have h1:=(lr _ hc).1;have h2:on (off g v e1)=true:=by
  rw[kP];have:=fR.ends e1 AO
  all_goals grind [off]
 grind
theorem rS {g:Gr} {z:Int}:∀ {w:List Int} {a:Int},fz g a w z->(w.map g.head).Nodup->a ∉ w.map g.head->(w.map (· / 2)).Nodup
 | [],_,_,_,_=>by simp
 | d :: w,a,h,hn,ha=>by
  rw[Qr,Qm] at hn;rw[Qr,Qc] at ha;rw[Qr,Qm];refine⟨λq=>?_,rS h.2 hn.2 hn.1⟩;obtain⟨x,hx,e⟩:=Qa.1 q;rcases kZ e with r | r
  ·exact hn.1 (Qa.2 ⟨x,hx,by rw[r]⟩)
  refine ha (Qe (Qa.2 ⟨x,hx,?_⟩));rw[r,<-h.1,<-az,bg]
theorem P3.AJ (h:P3 g on ⟨b.v,E⟩ w a z) (kP:∀ v,on v=true↔v∈p.v) (ha:on a=true) (hE:∀ e∈E,e ∉ p.e):pK g p w a z:=by
 have bn:∃ c l,w=c :: l:=by
  cases w with
  | nil=>exact absurd h.link h.ne
  | cons c l=>exact⟨c,l,rfl⟩
 obtain⟨c,l,rfl⟩:=bn;have qJ:=h.link.1;have hht:=eh h.link;have hn:=h.dq;have hna:=h.na;rw[hht] at hn hna;refine⟨h.link,h.ne,(kP a).1 ha,(kP z).1 h.oz,λd hd r=>?_,?_,rS h.link h.dq h.na,λd hd=>hE _ (au.1 (h.sub d hd))⟩
 ·have:=h.inn d hd
  grind
 all_goals grind
theorem kR {α:Type} {l:List α} {i:Nat} (hi:i<l.length) (d:α):l=l.take i++l.getD i d :: l.drop (i+1)/\l.eraseIdx i=l.take i++l.drop (i+1):=by
 refine⟨?_,List.eraseIdx_eq_take_drop_succ _ _⟩;have e:l.getD i d=l[i]:=by simp[QA,hi]
 rw[e,<-Qk hi,Qt]
theorem Vv {U:List Int} (hw:pK g p w a z) (hold:old=U++V) (hcut:V++U=x :: A++y :: B) (hx:g.tail x=a) (hy:g.tail y=z) (hv:v∈p.v) :
  (dM g (x :: A++twins w) v=true->dM g old v=true)/\(dM g (w++y :: B) v=true->dM g old v=true):=by
 have jA:∀ d,d∈old↔d∈x :: A++y :: B:=λd=>by rw[<-hcut,hold];simp[or_comm]
 have hz:dM g old z=true:=df.2 ⟨y,(jA y).2 (by simp),hy⟩;have ha:dM g old (g.tail x)=true:=df.2 ⟨x,(jA x).2 (by simp),rfl⟩;obtain⟨c,l,rfl⟩:=hw.cons;have hht:=eh hw.link;refine⟨λh=>?_,λh=>?_⟩
 ·obtain⟨d,hd,e⟩:=df.1 h
  rcases Qj.1 hd with r | r
  ·exact df.2 ⟨d,(jA d).2 (List.mem_append_left _ r),e⟩
  rw[ff] at r;have h1:g.head (aH d)∈(c :: l).map g.head:=Qa.2 ⟨_,r,rfl⟩;have h2:g.head (aH d)=v:=by rw[<-az,bg];exact e
  rw[hht,h2] at h1;rcases Qj.1 h1 with k | k
  ·obtain⟨d',OP,e'⟩:=Qa.1 k
   exact absurd hv (by rw[<-e'];exact hw.KE d' OP)
  rw[Qg.1 k];exact hz
 obtain⟨d,hd,e⟩:=df.1 h;rcases Qj.1 hd with r | r
 ·rcases Qc.1 r with r | r
  .-- the way's first Gq leaves a
   have h1:g.tail d=a:=by rw[r];exact hw.link.1
   grind
  exact absurd hv (by rw[<-e];exact hw.KE d r)
 all_goals grind [df]
theorem Gn (h0:0<=f) (hf:f.toNat<F.length) (m1 m2:List Int) :
  (∀ i,0<=i->i.toNat<F.length->i≠f->bp (F.set f.toNat m1++[m2]) i=bp F i)/\bp (F.set f.toNat m1++[m2]) f=m1/\bp (F.set f.toNat m1++[m2]) (F.length:Int)=m2/\(F.set f.toNat m1++[m2]).length=F.length+1:=by
 all_goals grind [bp]
theorem lO (g:Gr) (F:List (List Int)) (f k:Int) (r:bh):(fH g F f k r).ag=r.ag/\(fH g F f k r).ends=r.ends:=by
 grind [fH]
theorem DI (g:Gr) (F:List (List Int)) (f k:Int) (L:List bh):(L.map (fH g F f k)).flatMap (·.ag)=L.flatMap (·.ag):=by
 rw[Qy]
 grind [lO]
theorem ns (hE:E.Nodup):((cw g on F E ks).flatMap (·.ag)).Perm E:=by
 have h:=gP g on E;have h1:=Fg h.ok;rw[h.all,jU hE] at h1;unfold cw;rw[Qy];have:((gW g on E).1.groups.flatMap λl=>l)=(gW g on E).1.groups.flatten:=by rw[List.flatMap_id']
 grind
theorem Nf {c:bh} (hS:cg g b) (hc:y6 g b on F c) (fR:aD g p') (dk:p'.e≠[]) (kP:∀ v,on' v=true↔v∈p'.v) (jn:∀ v,on' v=false->on v=false) (iU:∀ v∈p'.v,v∈b.v) (hps:∀ e∈p'.e,e∈b.e)
  (hw:∀ d∈w,d / 2∈c.ag/\on' (g.tail d)=true/\on' (g.head d)=true) (Zc:w≠[]) (qw:c.ag.Nodup) (hEp:∀ e∈a8 c.ag w,e ∉ p'.e) (xw:0<=f/\f<k) (hkF:k.toNat+1=F'.length)
  (hF:∀ i,0<=i->i<k->i≠f->∀ u,dM g (bp F' i) u=true->on u=true) {c':bh} (hm:c'∈cw g on' F' (a8 c.ag w) [f,k]):y6 g b on' F' c':=by
 obtain⟨l,hl,rfl⟩:=Qa.1 hm;have hsc:=gP g on' (a8 c.ag w);have hEn:(a8 c.ag w).Nodup:=qw.filter _;have cX:(gW g on' (a8 c.ag w)).1.all=a8 c.ag w:=by rw[hsc.all,jU hEn]
 obtain⟨g1,g2,g3⟩:=lk hsc.ok hl;rw[cX] at g2;have lE:∀ e∈l,e∈c.ag:=λe he=>(cU.1 (g2 e he)).1;have xi:∀ e∈l,∀ f∈b.e,Lk g on' e f->f∈l:=λe he f' xX nn=>by
  obtain⟨v,hv,h1,h2⟩:=nn;have qL:=hc.shut e (lE e he) f' xX ⟨v,jn v hv,h1,h2⟩;have hfE:f'∈a8 c.ag w:=cU.2 ⟨qL,λd hd r=>by
   all_goals grind [fu]⟩
  exact (g3 e he f').2 (jE (g2 e he) hfE ⟨v,hv,h1,h2⟩)
 have abk:∃ u∈bC g on' l,on u=false:=by
  refine Qh λgV=>?_;obtain⟨e,he⟩:=Qi _ g1;obtain⟨d,hd⟩:=Qi _ Zc;have hq:=hc.sT (λx y=>x∈l↔y∈l) ⟨λ_=>QB,λq=>q.symm,λq r=>q.trans r⟩ (λx hx y hy nn=>by
   have half:∀ x∈c.ag,∀ y∈c.ag,Lk g on x y->x∈l->y∈l:=λx _ y hy ⟨v,hv,h1,h2⟩ AI=>by
    by_cases Og:on' v=true
    ·exact absurd ⟨v,bB.2 ⟨Og,x,AI,h1⟩,hv⟩ gV
    exact xi x AI y (hc.sub y hy) ⟨v,Qp.2 Og,h1,h2⟩
   obtain⟨v,hv,h1,h2⟩:=nn;exact⟨half x hx y hy ⟨v,hv,h1,h2⟩,half y hy x hx ⟨v,hv,h2,h1⟩⟩) e (lE e he) (d / 2) (hw d hd).1
  grind [cU]
 refine⟨λQ hQ hh e he f' xX=>?_,xi,λe he=>hc.sub e (lE e he),rfl,Cm hS fR dk kP iU hps g1 (λe he=>hc.sub e (lE e he)) (λe he=>hEp e (g2 e he)) xi,?_,λi=>?_⟩
 ·have:=wI (g:=g) (on:=on') (E:=a8 c.ag w) (Q:=λx y=>(x∈l/\y∈l/\Q x y)\/(x ∉ l/\y ∉ l)) ⟨λx=>by
    by_cases q:x∈l
    ·exact Qb ⟨q,q,hQ.refl x⟩
    ·exact Qe ⟨q,q⟩,λ{x y} q=>by
    rcases q with ⟨q1,q2,q3⟩ | ⟨q1,q2⟩
    ·exact Qb ⟨q2,q1,hQ.symm q3⟩
    ·exact Qe ⟨q2,q1⟩,λ{x y z} q r=>by
    rcases q with ⟨q1,q2,q3⟩ | ⟨q1,q2⟩ <;> rcases r with ⟨r1,r2,r3⟩ | ⟨r1,r2⟩
    ·exact Qb ⟨q1,r2,hQ.trans q3 r3⟩
    ·exact absurd q2 r1
    ·exact absurd r1 q2
    ·exact Qe ⟨q1,r2⟩⟩ (λx hx y hy nn=>by
    by_cases q:x∈l
    ·have LP:=(g3 x q y).2 (jE hx hy nn)
     exact Qb ⟨q,LP,hh x q y LP nn⟩
    refine Qe ⟨q,λr=>q ((g3 y r x).2 (jE hy hx ?_))⟩;obtain⟨v,hv,h1,h2⟩:=nn;exact⟨v,hv,h2,h1⟩) ((g3 e he f').1 xX)
  all_goals grind
 all_goals grind [jD,bC,uh]
theorem MY {r:bh} (hr:y6 g b on F r) (jn:∀ v,on' v=false->on v=false) (hD:∀ e∈r.ag,∀ v,cE g e v->on v=false->on' v=false) (h0:0<=f) (hf:f.toNat<F.length)
  (hF:∀ i,0<=i->i.toNat<F.length->i≠f->bp F' i=bp F i) (hl:F'.length=F.length+1) (qL:∀ v,on v=true->(dM g (bp F' f) v=true->dM g (bp F f) v=true)/\(dM g (bp F' (F.length:Int)) v=true->dM g (bp F f) v=true)):y6 g b on' F' (fH g F' f (F.length:Int) r):=by
 obtain⟨e1,e2⟩:=lO g F' f (F.length:Int) r;have heq:bC g on' r.ag=bC g on r.ag:=by
  unfold bC;have:∀ e∈r.ag,([(g.at e).1,(g.at e).2].filter on')=[(g.at e).1,(g.at e).2].filter on:=λe he=>List.filter_congr λv hv=>by
   have hE:cE g e v:=by
    rcases Qc.1 hv with q | q
    ·exact Qb q.symm
    exact Qe (Qg.1 q).symm
   cases h1:on' v with
   | true =>
    grind
   | false=>exact (jn v h1).symm
  rw[Qz,Qz,List.map_congr_left this]
 have kP:∀ v∈r.ends,on v=true:=λv hv=>by rw[hr.ends] at hv;exact (bB.1 hv).1
 refine⟨?_,?_,?_,?_,by rw[e2];exact hr.two,?_,λi=>?_⟩
 ·rw[e1]
  exact λQ hQ hh=>hr.sT Q hQ λe he f' xX ⟨v,hv,h1,h2⟩=>hh e he f' xX ⟨v,hD e he v h1 hv,h1,h2⟩
 ·rw[e1]
  exact λe he f' xX ⟨v,hv,h1,h2⟩=>hr.shut e he f' xX ⟨v,jn v hv,h1,h2⟩
 ·rw[e1];exact hr.sub
 ·rw[e1,e2,heq];exact hr.ends
 ·unfold fH
  by_cases q:f∈r.ak
  ·rw[if_pos q]
   show (r.ak.erase f++jD g F' r.ends [f,(F.length:Int)]).Nodup;rw[Qv];refine⟨hr.fnd.erase f,(show [f,(F.length:Int)].Nodup by simp;omega).filter _,λx hx y hy e=>?_⟩;subst e;have h1:=(uh.1 hy).1;rcases Qc.1 h1 with k | k
   ·rw[k] at hx
    exact (hr.fnd.not_mem_erase) hx
   have:=((hr.PJ x).1 (List.mem_of_mem_erase hx)).2.1
   grind
  rw[if_neg q];exact hr.fnd
 have hi:i∈(fH g F' f (F.length:Int) r).ak↔if f∈r.ak then (i≠f/\i∈r.ak)\/((i=f\/i=(F.length:Int))/\∀ v∈r.ends,dM g (bp F' i) v=true) else i∈r.ak:=by
  unfold fH;by_cases q:f∈r.ak
  ·rw[if_pos q,if_pos q]
   show i∈r.ak.erase f++jD g F' r.ends [f,(F.length:Int)]↔_;rw[Qj,hr.fnd.mem_erase_iff,uh]
   grind
  all_goals grind
 rw[hi,e2];by_cases q:f∈r.ak
 ·rw[if_pos q]
  constructor
  ·rintro (⟨k1,k2⟩ | ⟨k1,k2⟩)
   ·obtain⟨j1,j2,j3⟩:=(hr.PJ i).1 k2
    grind
   all_goals grind
  rintro ⟨k1,k2,k3⟩;by_cases k4:i=f
  ·exact Qe ⟨Or.inl k4,k3⟩
  by_cases k5:i=(F.length:Int)
  ·exact Qe ⟨Or.inr k5,k3⟩
  exact Qb ⟨k4,(hr.PJ i).2 ⟨k1,by omega,λv hv=>by rw[<-hF i k1 (by omega) k4];exact k3 v hv⟩⟩
 rw[if_neg q];constructor
 ·intro k
  obtain⟨j1,j2,j3⟩:=(hr.PJ i).1 k
  grind
 rintro ⟨k1,k2,k3⟩;have cX:(∀ v∈r.ends,dM g (bp F f) v=true)->f∈r.ak:=λk=>(hr.PJ f).2 ⟨h0,hf,k⟩;by_cases k4:i=f
 ·exact absurd (cX λv hv=>(qL v (kP v hv)).1 (by rw[<-k4];exact k3 v hv)) q
 by_cases k5:i=(F.length:Int)
 ·exact absurd (cX λv hv=>(qL v (kP v hv)).2 (by rw[<-k5];exact k3 v hv)) q
 exact (hr.PJ i).2 ⟨k1,by omega,λv hv=>by rw[<-hF i k1 (by omega) k4];exact k3 v hv⟩
