/- draw's dt in plain words: tp aq that aren't drawn are parted. No program here. -/
import Derived.Test.YtoiflofhcmjpoaaGreatD9Fs
open List renaming mem_map→Qa,mem_cons→Qc,mem_filter→Qd,mem_cons_of_mem→Qf,mem_singleton→Qg,exists_mem_of_ne_nil→Qi,mem_append→Qj,drop_eq_getElem_cons→Qk,idxOf_lt_length_iff→Ql,nodup_cons→Qm,range→Qn,mem_range→Qo,pairwise_iff_getElem→Qq,map_cons→Qr,eq_nil_or_concat→Qs,take_append_drop→Qt,nodup_append→Qv,getElem_mem→Qw,nodup_range→Qx,flatMap_map→Qy,flatMap_def→Qz,getD→QA
open Or renaming inl→Qb,inr→Qe
open Classical renaming byContradiction→Qh
open Bool renaming eq_false_iff→Qp,false_eq_true→Qu
open Iff renaming rfl→QB
namespace Go.Proofs.YtoiflofhcmjpoaaGreat.Plain
def jH (on:Int->Bool) (e:Int) (s:St × (Int->Option Int)) (v:Int):St × (Int->Option Int) :=
 if on v then s else match s.2 v with
  | some f=>(s.1.join f e,s.2)
  | none=>(s.1,fun y=>if y=v then some e else s.2 y)
def zD (g:Gr) (on:Int->Bool) (s:St × (Int->Option Int)) (e:Int):St × (Int->Option Int):=jH on e (jH on e s (g.at e).1) (g.at e).2
def fN (g:Gr) (on:Int->Bool) (E:List Int):St × (Int->Option Int):=E.foldl (zD g on) (St.new E,fun _=>none)
def dG (g:Gr) (e v:Int):Prop:=(g.at e).1=v\/(g.at e).2=v
def Lk (g:Gr) (on:Int->Bool) (e f:Int):Prop:=∃ v,on v=false/\dG g e v/\dG g f v
structure yF (on:Int->Bool) (E:List Int) (H:Int->Int->Prop) (s:St × (Int->Option Int)):Prop where
 ok:s.1.Ok
 all:s.1.all=(St.new E).all
 src:∀ v f,s.2 v=some f->f∈E/\H f v
 yW:∀ e v,H e v->on v=false->∃ f,s.2 v=some f/\s.1.rel f e
 least:∀ Q:Int->Int->Prop,ES Q->(∀ e f v,H e v->H f v->on v=false->Q e f)->∀ x y,s.1.rel x y->Q x y
theorem Hr {l:List Int} {x:Int} (hx:x∈l):x∈(St.new l).all:=by
 unfold St.new;have h:∀ (l:List Int) (s:St),(x∈l\/x∈s.all)->x∈(l.foldl St.put s).all:=by
  intro l
  induction l with
  | nil=>intro s h;exact h.resolve_left (by simp)
  | cons y l ih =>
   all_goals grind [St.lD,St.jJ]
 grind
theorem kf {l:List Int} (h:l.Nodup):(St.new l).all=l:=by
 unfold St.new;have h2:∀ (l:List Int) (s:St),(s.all++l).Nodup->(l.foldl St.put s).all=s.all++l:=by
  intro l
  induction l with
  | nil=>intro s _;simp
  | cons y l ih =>
   grind [St.dX]
 grind
theorem Tc {l:List Int} {x y:Int}:(St.new l).rel x y↔x=y:=by
 unfold St.new;have h2:∀ (l:List Int) (s:St),s.Ok->((l.foldl St.put s).rel x y↔s.rel x y):=by
  intro l
  induction l with
  | nil=>intro s _;exact QB
  | cons z l ih=>intro s h;rw[List.foldl_cons,ih _ (h.put z),St.zo h]
 grind [St.Nf,St.RW]
theorem yF.start (on:Int->Bool) (E:List Int):yF on E (fun _ _=>False) (St.new E,fun _=>none) :=
 ⟨St.Xn E,rfl,fun v f h=>(by cases h),fun e v h=>h.elim,fun Q hQ _ x y h=>(Tc.1 h) ▸ hQ.refl _⟩
theorem yF.step {on:Int->Bool} {E:List Int} {H:Int->Int->Prop} {s:St × (Int->Option Int)} (h:yF on E H s) {e v:Int} (he:e∈E):yF on E (fun f u=>H f u\/(f=e/\u=v)) (jH on e s v):=by
 unfold jH;by_cases ho:on v=true
 ·rw[if_pos ho]
  refine⟨h.ok,h.all,fun u f q=>⟨(h.src u f q).1,Qb (h.src u f q).2⟩,fun f u q hu=>?_,fun Q hQ hh=>h.least Q hQ fun a b c d f=>hh a b c (Qb d) (Qb f)⟩;rcases q with q | ⟨rfl,rfl⟩
  ·exact h.yW f u q hu
  all_goals grind
 rw[if_neg ho];cases hv:s.2 v with
 | some f =>
  have hf:=h.src v f hv;have fin:f∈s.1.all:=by rw[h.all];exact Hr hf.1
  have ein:e∈s.1.all:=by rw[h.all];exact Hr he
  have hj:=(St.PW fin ein).1;refine⟨h.ok.join f e,by show (s.1.join f e).all=_;rw[hj];exact h.all,fun u x q=>⟨(h.src u x q).1,Qb (h.src u x q).2⟩,fun x u q hu=>?_,fun Q hQ hh x y hr=>?_⟩
  ·rcases q with q | ⟨rfl,rfl⟩
   ·obtain⟨y,h1,h2⟩:=h.yW x u q hu
    exact⟨y,h1,(St.tA h.ok f e y x).2 (Qb h2)⟩
   exact⟨f,hv,St.Em h.ok f x⟩
  have hb:∀ a b,s.1.rel a b->Q a b:=h.least Q hQ fun a b c d f=>hh a b c (Qb d) (Qb f);have hfe:Q f e:=hh f e v (Qb hf.2) (Qe ⟨rfl,rfl⟩) (Qp.2 ho);rcases (St.tA h.ok f e x y).1 hr with q | ⟨q,r⟩ | ⟨q,r⟩
  ·exact hb _ _ q
  ·exact hQ.trans (hQ.trans (hb _ _ q) hfe) (hb _ _ r)
  exact hQ.trans (hQ.trans (hb _ _ q) (hQ.symm hfe)) (hb _ _ r)
 | none =>
  refine⟨h.ok,h.all,fun u x q=>?_,fun x u q hu=>?_,fun Q hQ hh=>h.least Q hQ fun a b c d f=>hh a b c (Qb d) (Qb f)⟩
  ·simp only at q
   by_cases r:u=v
   ·rw[if_pos r] at q
    cases q;exact⟨he,Qe ⟨rfl,r⟩⟩
   rw[if_neg r] at q;exact⟨(h.src u x q).1,Qb (h.src u x q).2⟩
  rcases q with q | ⟨rfl,rfl⟩
  ·obtain⟨y,h1,h2⟩:=h.yW x u q hu
   grind
  exact⟨x,by simp,s.1.rel_refl x⟩
theorem yF.congr {on:Int->Bool} {E:List Int} {H K:Int->Int->Prop} {s:St × (Int->Option Int)} (h:yF on E H s) (hk:∀ e v,H e v↔K e v):yF on E K s:=by
 obtain rfl:H=K:=funext fun e=>funext fun v=>propext (hk e v);exact h
theorem yF.fold {g:Gr} {on:Int->Bool} {E:List Int}:∀ (L:List Int) {H:Int->Int->Prop} {s:St × (Int->Option Int)},yF on E H s->(∀ e∈L,e∈E)->yF on E (fun e v=>H e v\/(e∈L/\dG g e v)) (L.foldl (zD g on) s)
 | [],H,s,h,_=>h.congr fun e v=>by simp
 | x :: L,H,s,h,hs=>by
  have h2:=(h.step (v:=(g.at x).1) (hs x (by simp))).step (v:=(g.at x).2) (hs x (by simp));refine (yF.fold L h2 fun e he=>hs e (Qf _ he)).congr fun e v=>?_;unfold dG;rw[Qc];constructor
  ·rintro (((q | ⟨rfl,rfl⟩) | ⟨rfl,rfl⟩) | ⟨q,r⟩)
   ·exact Qb q
   ·exact Qe ⟨Or.inl rfl,Qb rfl⟩
   ·exact Qe ⟨Or.inl rfl,Qe rfl⟩
   exact Qe ⟨Or.inr q,r⟩
  rintro (q | ⟨rfl | q,r⟩)
  ·exact Qb (Qb (Qb q))
  ·rcases r with r | r
   ·exact Qb (Qb (Qe ⟨rfl,r.symm⟩))
   exact Qb (Qe ⟨rfl,r.symm⟩)
  exact Qe ⟨q,r⟩
theorem gw (g:Gr) (on:Int->Bool) (E:List Int):yF on E (fun e v=>e∈E/\dG g e v) (fN g on E) :=
 (yF.fold E (yF.start on E) fun _ h=>h).congr fun e v=>by simp
theorem gY {g:Gr} {on:Int->Bool} {E:List Int} {e f:Int} (he:e∈E) (hf:f∈E) (h:Lk g on e f):(fN g on E).1.rel e f:=by
 obtain⟨v,hv,h1,h2⟩:=h;have hk:=gw g on E;obtain⟨x,e1,r1⟩:=hk.yW e v ⟨he,h1⟩ hv;obtain⟨y,e2,r2⟩:=hk.yW f v ⟨hf,h2⟩ hv
 grind [St.rel_trans,St.BY]
theorem sA {g:Gr} {on:Int->Bool} {E:List Int} {Q:Int->Int->Prop} (hQ:ES Q) (h:∀ e∈E,∀ f∈E,Lk g on e f->Q e f) {x y:Int} (hr:(fN g on E).1.rel x y):Q x y :=
 (gw g on E).least Q hQ (fun e f v h1 h2 hv=>h e h1.1 f h2.1 ⟨v,hv,h1.2,h2.2⟩) x y hr
theorem lH {s:St} (hs:s.Ok) {l:List Int} (hl:l∈s.groups):l≠[]/\(∀ x∈l,x∈s.all)/\∀ x∈l,∀ y,y∈l↔s.rel x y:=by
 unfold St.groups St.gr St.cZ at hl;obtain⟨h,hh,rfl⟩:=Qa.1 hl;obtain⟨h1,h2⟩:=Qd.1 hh;rw[Qo] at h1;have h2:s.hd h=h:=by simpa using h2
 have fp:∀ x,x∈s.row s.all.length h↔x∈s.all/\s.hd (s.all.idxOf x)=h:=by
  intro x;unfold St.row;rw[Qa];constructor
  ·rintro ⟨i,hi,rfl⟩
   obtain⟨k1,k2⟩:=Qd.1 hi;rw[Qo] at k1;exact⟨jU k1,by rw[Plain.fU hs.nodup k1];simpa using k2⟩
  rintro ⟨hx,e⟩;have aL:=Ql.2 hx;exact⟨s.all.idxOf x,Qd.2 ⟨List.mem_range.2 aL,by grind⟩,by grind⟩
 refine⟨List.ne_nil_of_mem ((fp (s.all.getD h 0)).2 ⟨jU h1,by rw[Plain.fU hs.nodup h1];exact h2⟩),fun x hx=>((fp x).1 hx).1,fun x hx y=>?_⟩
 all_goals grind [St.rel,St.cM]
theorem B5 {s:St} (hs:s.Ok):s.groups.flatten.Perm s.all:=by
 have aJ:∀ h x,x∈s.row s.all.length h↔x∈s.all/\s.hd (s.all.idxOf x)=h:=by
  intro h x;unfold St.row;rw[Qa];constructor
  ·rintro ⟨i,hi,rfl⟩
   obtain⟨k1,k2⟩:=Qd.1 hi;rw[Qo] at k1;exact⟨jU k1,by rw[Plain.fU hs.nodup k1];simpa using k2⟩
  rintro ⟨hx,e⟩;have aL:=Ql.2 hx;exact⟨s.all.idxOf x,Qd.2 ⟨List.mem_range.2 aL,by grind⟩,by grind⟩
 have hn:s.groups.flatten.Nodup:=by
  unfold St.groups St.gr;refine List.pairwise_flatten.2 ⟨fun l hl=>?_,?_⟩
  ·obtain⟨h,-,rfl⟩:=Qa.1 hl
   unfold St.row;refine List.pairwise_map.2 ((Qq.2 ?_));intro i j hi hj DC e;have ha:=Qw hi;have hb:=Qw hj;have WJ:=Qo.1 (Qd.1 ha).1;have fz:=Qo.1 (Qd.1 hb).1;have gS:((Qn s.all.length).filter fun i=>s.hd i==h).Nodup:=Qx.filter _;have e2:((Qn s.all.length).filter fun i=>s.hd i==h)[i]=((Qn s.all.length).filter fun i=>s.hd i==h)[j]:=by
    rw[<-Plain.fU hs.nodup WJ,<-Plain.fU hs.nodup fz,e]
   exact (Qq.1 gS i j hi hj DC) e2
  have hd:(s.cZ s.all.length).Nodup:=Qx.filter _
  grind
 refine (List.perm_ext_iff_of_nodup hn hs.nodup).2 fun x=>?_;rw[List.mem_flatten];constructor
 ·rintro ⟨l,hl,hx⟩
  exact (lH hs hl).2.1 x hx
 intro hx;have aL:=Ql.2 hx;have hg:s.all.idxOf x<s.dx.length:=by rw[<-hs.len];exact aL
 have hle:=hs.le _ hg;refine⟨s.row s.all.length (s.hd (s.all.idxOf x)),Qa.2 ⟨_,Qd.2 ⟨List.mem_range.2 (by omega),by simpa using hs.own _ hg⟩,rfl⟩,?_⟩;exact Qa.2 ⟨s.all.idxOf x,Qd.2 ⟨List.mem_range.2 aL,by simp⟩,by simp[QA,aL]⟩
theorem DO {s:St} {l:List Int} (hl:l∈s.groups):l.Sublist s.all:=by
 unfold St.groups St.gr at hl;obtain⟨h,-,rfl⟩:=Qa.1 hl;unfold St.row;have h1:(((Qn s.all.length).filter fun i=>s.hd i==h).map fun i=>s.all.getD i 0).Sublist ((Qn s.all.length).map fun i=>s.all.getD i 0):=(List.filter_sublist).map _;have h2:((Qn s.all.length).map fun i=>s.all.getD i 0)=s.all:=by
  refine List.ext_getElem (by simp) fun i h1 h2=>?_
  grind
 rwa[h2] at h1
abbrev ij:=Int->Option Int
def dY (g:Gr) (on:Int->Bool):List Int->ij->List Int->Option Int × ij × List Int
 | [],aP,q=>(none,aP,q)
 | d :: ds,aP,q=>match aP (g.head d) with
  | some _=>dY g on ds aP q
  | none=>if on (g.head d) then (some (g.head d),(fun y=>if y=g.head d then some d else aP y),q) else dY g on ds (fun y=>if y=g.head d then some d else aP y) (q++[g.head d])
def ir (g:Gr) (on:Int->Bool) (p:Pt):Nat->ij->List Int->Option Int × ij
 | 0,aP,_=>(none,aP)
 | _+1,aP,[]=>(none,aP)
 | n+1,aP,u :: q=>match dY g on (aF g p u) aP q with
  | (some z,c,_)=>(some z,c)
  | (none,c,q')=>ir g on p n c q'
def zy (g:Gr) (aP:ij):Nat->Int->List Int
 | 0,_=>[]
 | n+1,d=>if d<0 then [] else d :: zy g aP n ((aP (g.tail d)).getD 0)
inductive xE (g:Gr) (aP:ij) (a:Int):Int->List Int->Prop
 | here:xE g aP a a []
 | step {u d:Int} {l:List Int}:u≠a->aP u=some d->0<=d->g.head d=u->xE g aP a (g.tail d) l->u ∉ l.map g.head->xE g aP a u (l++[d])
structure uF (g:Gr) (on:Int->Bool) (p:Pt) (a:Int) (aP:ij):Prop where
 base:aP a=some (-1)
 trc:∀ u,aP u≠none->∃ l,xE g aP a u l/\(∀ d∈l,d∈p.ah)/\∀ d∈l.tail,on (g.tail d)=false
theorem xE.grow {g:Gr} {aP:ij} {a:Int} {u:Int} {l:List Int} (h:xE g aP a u l) {x d:Int} (hx:aP x=none):xE g (fun y=>if y=x then some d else aP y) a u l:=by
 induction h with
 | here=>exact .here
 | @step v c m h1 h2 h3 h4 _ h6 ih =>
  refine .step h1 ?_ h3 h4 ih h6
  grind
theorem xE.link {g:Gr} {aP:ij} {a:Int} {u:Int} {l:List Int} (h:xE g aP a u l):kg g a l u/\(∀ d∈l,0<=d)/\(l.map g.head).Nodup/\a ∉ l.map g.head:=by
 induction h with
 | here=>exact⟨rfl,by simp,by simp,by simp⟩
 | step h1 h2 h3 h4 _ h6 ih =>
  obtain⟨i1,i2,i3,i4⟩:=ih;refine⟨kg.append.2 ⟨_,i1,⟨rfl,h4⟩⟩,fun d hd=>?_,?_,?_⟩
  all_goals grind
theorem xE.met {g:Gr} {aP:ij} {a:Int} {u:Int} {l:List Int} (hb:aP a≠none) (h:xE g aP a u l):aP u≠none/\∀ d∈l,aP (g.head d)≠none/\aP (g.tail d)≠none:=by
 induction h with
 | here=>exact⟨hb,by simp⟩
 | @step v c m h1 h2 h3 h4 _ h6 ih =>
  all_goals grind
theorem xE.back {g:Gr} {aP:ij} {a:Int} {u:Int} {l:List Int} (hb:aP a=some (-1)) (h:xE g aP a u l):∀ n,l.length<n->(zy g aP n ((aP u).getD 0)).reverse=l:=by
 induction h with
 | here =>
  intro n hn
  match n,hn with
  | n+1,_=>rw[hb];rfl
 | step h1 h2 h3 h4 _ h6 ih =>
  intro n hn
  match n,hn with
  | n+1,hn =>
   grind [zy]
theorem uF.start {g:Gr} {on:Int->Bool} {p:Pt} {a:Int}:uF g on p a (fun y=>if y=a then some (-1) else none) :=
 ⟨if_pos rfl,fun u hu=>by
  by_cases e:u=a
  ·rw[e];exact⟨[],.here,by simp,by simp⟩
  simp[e] at hu⟩
theorem uF.add {g:Gr} {on:Int->Bool} {p:Pt} {a:Int} {aP:ij} (h:uF g on p a aP) {d:Int} (hd:d∈p.ah) (h0:0<=d) (hm:aP (g.tail d)≠none) (ho:g.tail d=a\/on (g.tail d)=false) (hn:aP (g.head d)=none):uF g on p a (fun y=>if y=g.head d then some d else aP y):=by
 have qi:aP a≠none:=by rw[h.base];simp
 have hna:a≠g.head d:=fun e=>qi (by grind);refine⟨by rw[if_neg hna];exact h.base,fun u hu=>?_⟩;by_cases e:u=g.head d
 ·subst e
  obtain⟨l,h1,h2,h3⟩:=h.trc _ hm;refine⟨l++[d],.step (fun e=>hna e.symm) (if_pos rfl) h0 rfl (h1.grow hn) (fun q=>?_),fun x hx=>?_,fun x hx=>?_⟩
  ·obtain⟨x,hx,e⟩:=Qa.1 q
   exact ((h1.met qi).2 x hx).1 (by grind)
  ·all_goals grind
  cases l with
  | nil=>simp at hx
  | cons y l =>
   rcases Qj.1 (show x∈l++[d] from hx) with q | q
   ·exact h3 x q
   rw[Qg.1 q];refine ho.resolve_left fun e=>?_;have k:=h1.link;rw[e] at k
   -- a trace to a is empty
   obtain⟨k1,-,-,k4⟩:=k;apply k4;rcases Qs (y :: l) with r | ⟨m,z,r⟩
   ·cases r
   rw[r] at k1 ⊢;rw[List.concat_eq_append] at k1 ⊢;have:=gp k1;rw[List.map_append];simp[this]
 obtain⟨l,h1,h2,h3⟩:=h.trc u (by grind);exact⟨l,h1.grow hn,h2,h3⟩
structure RD (g:Gr) (on:Int->Bool) (p:Pt) (a:Int) (aP:ij) (q:List Int):Prop where
 inv:uF g on p a aP
 off:∀ u,aP u≠none->u=a\/on u=false
 inq:∀ u∈q,aP u≠none
 done:∀ u,aP u≠none->u∈q\/∀ d∈aF g p u,aP (g.head d)≠none
theorem ud {g:Gr} {on:Int->Bool} {p:Pt} {a u:Int} (q8:∀ d∈p.ah,0<=d):∀ (ds:List Int) {aP:ij} {q:List Int},(∀ d∈ds,d∈aF g p u)->aP u≠none->(u=a\/on u=false)->uF g on p a aP->(∀ x,aP x≠none->x=a\/on x=false) ->
  match dY g on ds aP q with
  | (some z,c,_)=>uF g on p a c/\c z≠none/\on z=true/\z≠a
  | (none,c,q')=>uF g on p a c/\(∀ x,c x≠none->x=a\/on x=false)/\(∀ x,aP x≠none->c x≠none)/\(∀ d∈ds,c (g.head d)≠none)/\(∀ x,c x≠none->aP x≠none\/x∈q')/\(∀ x∈q',x∈q\/c x≠none)/\∀ x∈q,x∈q'
 | [],aP,q,_,_,_,h,ho=>⟨h,ho,fun _ hx=>hx,by simp,fun x hx=>Qb hx,fun x hx=>Qb hx,fun x hx=>hx⟩
 | d :: ds,aP,q,hs,hu,Wn,h,ho=>by
  have xp:=bg.1 (hs d (by simp));show match (match aP (g.head d) with
   | some _=>dY g on ds aP q
   | none=>if on (g.head d) then (some (g.head d),(fun y=>if y=g.head d then some d else aP y),q) else dY g on ds (fun y=>if y=g.head d then some d else aP y) (q++[g.head d])) with
   | (some z,c,_)=>_
   | (none,c,q')=>_
  cases hc:aP (g.head d) with
  | some x =>
   have ih:=ud (g:=g) (on:=on) (p:=p) (a:=a) (u:=u) q8 ds (aP:=aP) (q:=q) (fun d hd=>hs d (Qf _ hd)) hu Wn h ho;simp only
   revert ih
   match dY g on ds aP q with
   | (some z,c,_)=>exact fun ih=>ih
   | (none,c,q') =>
    rintro ⟨i1,i2,i3,i4,i5,i6⟩;refine⟨i1,i2,i3,fun e he=>?_,i5,i6⟩;rcases Qc.1 he with rfl | he
    ·exact i3 _ (by rw[hc];simp)
    exact i4 e he
  | none =>
   have iu:=h.add xp.1 (q8 d xp.1) (by rw[xp.2];exact hu) (by rw[xp.2];exact Wn) hc;by_cases nJ:on (g.head d)=true
   ·simp only[nJ,if_true]
    refine⟨iu,by simp,by first | exact nJ | trivial,fun e=>?_⟩;have:=h.base;rw[<-e,hc] at this;cases this
   simp only[nJ];have gU:∀ x,aP x≠none->(if x=g.head d then some d else aP x)≠none:=fun x hx=>by
    by_cases e:x=g.head d
    ·rw[if_pos e];simp
    rw[if_neg e];exact hx
   have ih:=ud (g:=g) (on:=on) (p:=p) (a:=a) (u:=u) q8 ds (aP:=fun y=>if y=g.head d then some d else aP y) (q:=q++[g.head d]) (fun d hd=>hs d (Qf _ hd)) (gU u hu) Wn iu (fun x hx=>by
    by_cases e:x=g.head d
    ·rw[e];exact Qe (Qp.2 nJ)
    simp only[if_neg e] at hx;exact ho x hx)
   revert ih
   simp only[Qu,if_false]
   match dY g on ds (fun y=>if y=g.head d then some d else aP y) (q++[g.head d]) with
   | (some z,c,_)=>exact fun ih=>ih
   | (none,c,q') =>
    rintro ⟨i1,i2,i3,i4,i5,i6,i7⟩;refine⟨i1,i2,fun x hx=>i3 x (gU x hx),fun e he=>?_,fun x hx=>?_,fun x hx=>?_,fun x hx=>i7 x (by simp[hx])⟩
    ·rcases Qc.1 he with rfl | he
     ·exact i3 _ (by simp)
     exact i4 e he
    ·rcases i5 x hx with r | r
     ·by_cases e:x=g.head d
      ·exact Qe (i7 x (by simp[e]))
      simp only[if_neg e] at r;exact Qb r
     exact Qe r
    rcases i6 x hx with r | r
    ·rcases Qj.1 r with r | r
     ·exact Qb r
     rw[Qg.1 r];exact Qe (i3 _ (by simp))
    exact Qe r
def ik (l:List Int) (aP:ij):Nat:=(l.filter fun u=>(aP u).isNone).length
theorem tF {l:List Int} {f:ij} {x c:Int} (hn:l.Nodup) (hx:x∈l) (hf:f x=none):ik l (fun y=>if y=x then some c else f y)+1=ik l f :=
 qB (p:=⟨l,[]⟩) hn hx hf
theorem rP {g:Gr} {on:Int->Bool} {V:List Int} (hV:V.Nodup):∀ (ds:List Int) {aP:ij} {q:List Int},(∀ d∈ds,g.head d∈V) ->
  (dY g on ds aP q).1=none->(dY g on ds aP q).2.2.length+ik V (dY g on ds aP q).2.1=q.length+ik V aP
 | [],_,_,_,_=>rfl
 | d :: ds,aP,q,hs,hz=>by
  unfold dY at hz ⊢;cases hc:aP (g.head d) with
  | some x =>
   rw[hc] at hz;exact rP hV ds (fun d hd=>hs d (Qf _ hd)) hz
  | none =>
   rw[hc] at hz;by_cases nJ:on (g.head d)=true
   ·simp only[nJ,if_true] at hz
    cases hz
   simp only[nJ,Qu,if_false] at hz ⊢;rw[rP hV ds (fun d hd=>hs d (Qf _ hd)) hz];have:=tF (c:=d) hV (hs d (by simp)) hc;rw[List.length_append];simp only[List.length_cons,List.length_nil];omega
theorem rC {g:Gr} {on:Int->Bool} {p:Pt} {a:Int} (q8:∀ d∈p.ah,0<=d) (hV:p.v.Nodup) (hs:∀ d∈p.ah,g.head d∈p.v):∀ (n:Nat) {aP:ij} {q:List Int},RD g on p a aP q->q.length+ik p.v aP<n ->
  match ir g on p n aP q with
  | (some z,c)=>uF g on p a c/\c z≠none/\on z=true/\z≠a
  | (none,c)=>RD g on p a c []
 | 0,_,_,_,h=>by omega
 | n+1,aP,[],h,_=>h
 | n+1,aP,u :: q,h,hn=>by
  unfold ir;have hu:=h.inq u (by simp);have h1:=ud (g:=g) (on:=on) (p:=p) (a:=a) (u:=u) q8 (aF g p u) (aP:=aP) (q:=q) (fun d hd=>hd) hu (h.off u hu) h.inv h.off;have h2:=rP (g:=g) (on:=on) hV (aF g p u) (aP:=aP) (q:=q) (fun d hd=>hs d (bg.1 hd).1)
  revert h1 h2
  match dY g on (aF g p u) aP q with
  | (some z,c,_)=>exact fun h1 _=>h1
  | (none,c,q') =>
   rintro ⟨i1,i2,i3,i4,i5,i6,i7⟩ h2;have h2:=h2 rfl;simp only at h2 ⊢;refine rC q8 hV hs n ⟨i1,i2,fun x hx=>?_,fun x hx=>?_⟩ (by simp at hn;omega)
   ·rcases i6 x hx with r | r
    ·exact i3 x (h.inq x (by simp[r]))
    exact r
   rcases i5 x hx with r | r
   ·rcases h.done x r with r | r
    ·rcases Qc.1 r with r | r
     ·right;intro d hd;rw[r] at hd;exact i4 d hd
     exact Qb (i7 x r)
    exact Qe fun d hd=>i3 _ (r d hd)
   exact Qb r
def GO (g:Gr) (on:Int->Bool) (E:List Int):Prop:=∀ Q:Int->Int->Prop,ES Q->(∀ e∈E,∀ f∈E,Lk g on e f->Q e f)->∀ e∈E,∀ f∈E,Q e f
theorem Oa {g:Gr} {p:Pt} {e v:Int} (he:e∈p.e) (h:dG g e v):∃ d∈aF g p v,d / 2=e:=by
 have h0:=et g e;rcases h with h | h
 ·exact⟨2*e,bg.2 ⟨aw.2 (by rwa[show 2*e / 2=e by omega]),by grind⟩,by omega⟩
 exact⟨aT (2*e),bg.2 ⟨bQ (aw.2 (by rwa[show 2*e / 2=e by omega])),by grind [aS]⟩,by grind [dP]⟩
theorem jL (g:Gr) (d:Int):dG g (d / 2) (g.tail d)/\dG g (d / 2) (g.head d):=by
 all_goals grind [dG,gM]
theorem uj {g:Gr} {d v:Int} (h:dG g (d / 2) v):v=g.tail d\/v=g.head d:=by
 all_goals grind [dG,gM]
theorem KN {g:Gr} {on:Int->Bool} {p:Pt} {a z e0 e1:Int} {aP:ij} (h:RD g on p a aP []) (hh:GO g on p.e) (h0:e0∈p.e) (ha:dG g e0 a) (h1:e1∈p.e) (hz:dG g e1 z) (Ro:on z=true) (Re:z≠a):False:=by
 have Cd:∀ u,aP u≠none->∀ d∈aF g p u,aP (g.head d)≠none:=fun u hu=>(h.done u hu).resolve_left (by simp);have cH:∀ e∈p.e,∀ v,dG g e v->aP v≠none->∀ u,dG g e u->aP u≠none:=fun e he v hv hm u hu=>by
  all_goals grind [Oa,bg,uj]
 have hq:=hh (fun e f=>(∀ u,dG g e u->aP u≠none)↔∀ u,dG g f u->aP u≠none) ⟨fun _=>QB,fun q=>q.symm,fun q r=>q.trans r⟩ (fun e he f hf ⟨v,_,h1,h2⟩=>⟨fun q=>cH f hf v h2 (q v h1),fun q=>cH e he v h1 (q v h2)⟩) e0 h0 e1 h1;have hb:aP a≠none:=by rw[h.inv.base];simp
 have:=hq.1 (cH e0 h0 a ha hb) z hz;rcases h.off z this with q | q
 all_goals grind
structure XB (g:Gr) (on:Int->Bool) (p:Pt) (w:List Int) (a z:Int):Prop where
 link:kg g a w z
 ne:a≠z
 oz:on z=true
 cZ:(w.map g.head).Nodup
 na:a ∉ w.map g.head
 inn:∀ d∈w.tail,on (g.tail d)=false
 sub:∀ d∈w,d∈p.ah
def lY (g:Gr) (on:Int->Bool) (p:Pt) (a:Int):List Int :=
 match ir g on p (p.v.length+2) (fun y=>if y=a then some (-1) else none) [a] with
 | (some z,c)=>(zy g c (p.v.length+2) ((c z).getD 0)).reverse
 | (none,_)=>[]
theorem xF {g:Gr} {on:Int->Bool} {p:Pt} {a:Int}:RD g on p a (fun y=>if y=a then some (-1) else none) [a] :=
 ⟨uF.start,fun u hu=>Qb (by by_cases e:u=a;exact e;simp[e] at hu),fun u hu=>by simp[Qg.1 hu],fun u hu=>Qb (by by_cases e:u=a;simp[e];simp[e] at hu)⟩
theorem vQ {p:Pt} {a:Int}:[a].length+ik p.v (fun y=>if y=a then some (-1) else none)<p.v.length+2:=by
 grind [ik]
theorem AJ {g:Gr} {on:Int->Bool} {p:Pt} {a z0 e0 e1:Int} (hp:aB g p) (q8:∀ d∈p.ah,0<=d) (hh:GO g on p.e) (h0:e0∈p.e) (ha:dG g e0 a) (h1:e1∈p.e) (hz:dG g e1 z0) (Ro:on z0=true) (Re:z0≠a) :
  ∃ z,XB g on p (lY g on p a) a z:=by
 have hw:=rC (g:=g) (on:=on) (a:=a) q8 hp.vn (fun d hd=>(hp.aO hd).2) (p.v.length+2) xF vQ;unfold lY
 revert hw
 match ir g on p (p.v.length+2) (fun y=>if y=a then some (-1) else none) [a] with
 | (none,c)=>exact fun hw=>(KN hw hh h0 ha h1 hz Ro Re).elim
 | (some z,c) =>
  rintro ⟨w1,w2,w3,w4⟩;simp only;obtain⟨l,l1,l2,l3⟩:=w1.trc z w2;obtain⟨k1,k2,k3,k4⟩:=l1.link;have hlen:l.length<=p.v.length:=by
   have:=bS k3 fun x hx=>by
    obtain⟨d,hd,rfl⟩:=Qa.1 hx;exact (hp.aO (l2 d hd)).2
   grind
  rw[l1.back w1.base _ (by omega)];exact⟨z,k1,fun e=>w4 e.symm,w3,k3,k4,l3,l2⟩
theorem eE.perm {g:Gr} {p:Pt} {aa F F':List (List Int)} (h:eE g p aa F) (hF:F.Perm F'):eE g p aa F' :=
 ⟨h.pe,h.nQ,h.rings.perm hF,hF.symm.flatten.trans h.all,fun f hf=>h.simple f (hF.mem_iff.2 hf),h.full,by have:=hF.length_eq;have:=h.sO;omega,h.vR⟩
theorem eE.P9 {g:Gr} {p:Pt} {aa R:List (List Int)} {A B:List Int} (h:eE g p aa ((A++B) :: R)):eE g p aa ((B++A) :: R):=by
 have hp:((B++A) :: R).flatten.Perm ((A++B) :: R).flatten:=by
  grind
 have hr:Ring (aG g aa) (B++A):=by
  have h1:=h.rings.ring (A++B) (by simp)
  match A,B,h1 with
  | [],B,h1=>simpa using h1
  | x :: A,[],h1=>simpa using h1
  | x :: A,y :: B,h1=>exact h1.aa
 refine⟨h.pe,h.nQ,⟨fun c hc=>?_,hp.nodup_iff.2 h.rings.nodup⟩,hp.trans h.all,fun f hf=>?_,h.full,h.sO,h.vR⟩
 ·rcases Qc.1 hc with rfl | hc
  ·exact hr
  exact h.rings.ring c (Qf _ hc)
 rcases Qc.1 hf with rfl | hf
 ·have:=h.simple (A++B) (by simp)
  grind
 exact h.simple f (Qf _ hf)
theorem uZ {P:Int->Bool} {l:List Int} (h:∃ x∈l,P x=true):∃ x m,l.drop (l.findIdx P)=x :: m/\P x=true/\l=l.take (l.findIdx P)++x :: m/\∀ y∈l.take (l.findIdx P),P y=false:=by
 have aL:l.findIdx P<l.length:=List.findIdx_lt_length_of_exists h;refine⟨l[l.findIdx P],l.drop (l.findIdx P+1),Qk aL,List.findIdx_getElem,?_,fun y hy=>?_⟩
 ·rw[<-Qk aL,Qt]
 obtain⟨i,hi,rfl⟩:=List.getElem_of_mem hy
 grind
def qD (g:Gr) (old w:List Int) (a z:Int):List Int × List Int :=
 let k:=old.findIdx fun d=>decide (g.tail d=a)
 let o:=old.drop k++old.take k
 let j:=o.findIdx fun d=>decide (g.tail d=z)
 (o.take j++twins w,w++o.drop j)
theorem xf {g:Gr} {old w:List Int} {a z:Int} (ha:∃ x∈old,g.tail x=a) (hz:∃ y∈old,g.tail y=z) (bh:a≠z) :
  ∃ x y A B U V,old=U++V/\V++U=x :: A++y :: B/\g.tail x=a/\g.tail y=z/\qD g old w a z=(x :: A++twins w,w++y :: B):=by
 obtain⟨x,m,h1,h2,h3,-⟩:=uZ (P:=fun d=>decide (g.tail d=a)) (l:=old) (by grind);have h2:g.tail x=a:=of_decide_eq_true h2;obtain⟨U,hU⟩:∃ U,old.take (old.findIdx fun d=>decide (g.tail d=a))=U:=⟨_,rfl⟩;have LJ:∃ y∈(x :: m)++U,decide (g.tail y=z)=true:=by
  obtain⟨y,hy,e⟩:=hz
  grind
 obtain⟨y,B,k1,k2,k3,k4⟩:=uZ (P:=fun d=>decide (g.tail d=z)) LJ;have k2:g.tail y=z:=of_decide_eq_true k2;have hA:∃ A,((x :: m)++U).take (((x :: m)++U).findIdx fun d=>decide (g.tail d=z))=x :: A:=by
  grind
 obtain⟨A,hA⟩:=hA
 all_goals grind [qD]
theorem Mt {g:Gr} {l:List Int} (h:(l.map g.tail).Nodup) {d e:Int} (hd:d∈l) (he:e∈l) (hde:g.tail d=g.tail e):d=e:=by grind [fs]
def fA (g:Gr) (p q:Pt) (aa:List (List Int)) (w:List Int) (a z x y:Int):List (List Int) :=
 (Qn g.n.toNat).map fun v:Nat=>if (v:Int)=a then jW x (w.headD 0) (az aa v) else if (v:Int)=z then jW y (aT (w.getLastD 0)) (az aa v) else if (v:Int)∈p.v then az aa v else aF g q v
theorem jT {g:Gr} {p q:Pt} {aa:List (List Int)} {w:List Int} {a z x y v:Int} (h0:0<=v) (hn:v<g.n) :
  az (fA g p q aa w a z x y) v=if v=a then jW x (w.headD 0) (az aa v) else if v=z then jW y (aT (w.getLastD 0)) (az aa v) else if v∈p.v then az aa v else aF g q v:=by
 obtain⟨n,rfl⟩:∃ n:Nat,v=n:=⟨v.toNat,by omega⟩;have aL:n<g.n.toNat:=by omega
 show ((Qn g.n.toNat).map _).getD n []=_
 grind
theorem si {g:Gr} {p q:Pt} {aa F:List (List Int)} {w:List Int} {a z x y:Int} (h:eE g p aa F) (hw:mF g p w a z) (hq:Gw g p w q) (hx:x∈p.ah) (hxa:g.tail x=a) (hy:y∈p.ah) (OZ:g.tail y=z) :
  aR g q (fA g p q aa w a z x y)/\Bg g p aa w x y (fA g p q aa w a z x y):=by
 have iM:=Pt.ay h.pe;have Ei:=Pt.ay hq.qe;obtain⟨c,l,rfl⟩:=hw.cons;have kU:g.tail c=a:=hw.link.1;have hhd:=fx hw.link;have hlv:∀ u∈l.map g.tail,u ∉ p.v:=fun u hu=>by
  obtain⟨d,hd,rfl⟩:=Qa.1 hu;exact hw.FA d hd
 have qG:(l.map g.tail).Nodup:=by have:=hw.vn;rw[Qr,Qm] at this;exact this.2
 have hhn:((c :: l).map g.head).Nodup:=by
  rw[hhd,Qv];exact⟨qG,by simp,fun u hu v hv e=>by
   rw[Qg.1 hv] at e;exact hlv u hu (by rw[e];exact hw.zv)⟩
 obtain⟨e,m,rO⟩:∃ e m,c :: l=m++[e]:=by
  rcases Qs (c :: l) with r | ⟨m,e,r⟩
  all_goals grind
 have I0:g.head e=z:=by have:=hw.link;rw[rO] at this;exact gp this
 have lR:(c :: l).getLastD 0=e:=by rw[rO,List.getLastD_eq_getLast?];simp
 have abu:e∈c :: l:=by rw[rO];simp
 have W1:∀ d∈c :: l,g.tail d=a->d=c:=fun d hd r=>Mt hw.vn hd (by simp) (r.trans kU.symm);have W2:∀ d∈c :: l,g.tail d≠z:=fun d hd r=>by
  rcases Qc.1 hd with rfl | hd
  ·exact hw.ne (kU.symm.trans r)
  exact hw.FA d hd (by grind)
 have hh:∀ d∈c :: l,g.head d∈l.map g.tail++[z]:=fun d hd=>by rw[<-hhd];exact Qa.2 ⟨d,hd,rfl⟩
 have W3:∀ d∈c :: l,g.head d≠a:=fun d hd r=>by
  have:=hh d hd;rw[r] at this;rcases Qj.1 this with k | k
  ·exact hlv a k hw.av
  all_goals grind
 have W4:∀ d∈c :: l,g.head d=z->d=e:=fun d hd r=>fs hhn d hd e abu (r.trans I0.symm);have W5:∀ v∈p.v,v≠a->v≠z->∀ d∈c :: l,g.tail d≠v/\g.head d≠v:=fun v hv ha hz d hd=>by
  all_goals grind
 have htt:∀ d,g.tail d=g.head (aT d):=fun d=>by rw[<-aS,bC]
 have Yy:=h.nQ.mem a (iM.vr a hw.av).1 (iM.vr a hw.av).2;have htz:=h.nQ.mem z (iM.vr z hw.zv).1 (iM.vr z hw.zv).2;have Pv:x∈az aa a:=(Yy x).2 ⟨hx,hxa⟩;have hyt:y∈az aa z:=(htz y).2 ⟨hy,OZ⟩;have nt:c ∉ az aa a:=fun r=>(hw.pQ (show c∈c :: l by simp)).1 ((Yy c).1 r).1;have kD:aT e ∉ az aa z:=fun r=>(hw.pQ abu).2 ((htz _).1 r).1;have hT:∀ v,0<=v->v<g.n->((az (fA g p q aa (c :: l) a z x y) v).Nodup/\∀ d,d∈az (fA g p q aa (c :: l) a z x y) v↔d∈q.ah/\g.tail d=v):=fun v h0 hn=>by
  rw[jT h0 hn];by_cases e1:v=a
  ·rw[if_pos e1,e1]
   have pF:=tH (y:=c) Pv;refine⟨pF.nodup_iff.2 (Qm.2 ⟨nt,h.nQ.nodup a⟩),fun d=>?_⟩;show d∈jW x c (az aa a)↔_;rw[pF.mem_iff,Qc,Yy,hq.ah]
   all_goals grind
  rw[if_neg e1];by_cases e2:v=z
  ·rw[if_pos e2,e2,lR]
   have pF:=tH (y:=aT e) hyt;refine⟨pF.nodup_iff.2 (Qm.2 ⟨kD,h.nQ.nodup z⟩),fun d=>?_⟩;rw[pF.mem_iff,Qc,htz,hq.ah]
   all_goals grind [bC,aS]
  rw[if_neg e2];by_cases e3:v∈p.v
  ·rw[if_pos e3]
   refine⟨h.nQ.nodup v,fun d=>?_⟩;rw[h.nQ.mem v h0 hn,hq.ah]
   all_goals grind
  rw[if_neg e3];exact⟨eS Ei.en v,fun d=>bg⟩
 have hlen:(fA g p q aa (c :: l) a z x y).length=g.n.toNat:=by simp[fA]
 have N5:=(Gr.aA (Pt.aA h.pe).1).1;refine⟨⟨by grind,fun v=>?_,fun v h0 hn=>(hT v h0 hn).2⟩,?_⟩
 ·by_cases hv:v.toNat<g.n.toNat
  ·exact (hT (v.toNat:Int) (by omega) (by omega)).1
  have:az (fA g p q aa (c :: l) a z x y) v=[]:=by
   unfold az;rw[QA,List.getElem?_eq_none (by omega)];rfl
  rw[this];simp
 have hva:=iM.vr a hw.av;have hvz:=iM.vr z hw.zv;refine⟨fun d l' hd=>?_,fun d l' hd=>?_,fun u hu=>?_⟩
 ·obtain⟨rfl,-⟩:=List.cons.inj hd
  unfold before;rw[kU,jT hva.1 hva.2,if_pos rfl];exact oq (h.nQ.nodup a) Pv nt
 ·obtain rfl:d=e:=by
   grind
  unfold before;rw[aS,I0,jT hvz.1 hvz.2,if_neg (fun k=>hw.ne k.symm),if_pos rfl,lR];exact oq (h.nQ.nodup z) hyt kD
 have huv:=(iM.aO hu).1;have Tu:=iM.vr _ huv;have TP:u∈az aa (g.tail u):=(h.nQ.mem _ Tu.1 Tu.2 u).2 ⟨hu,rfl⟩;have Hs:g.tail (before g aa u)=g.tail u:=((h.nQ.mem _ Tu.1 Tu.2 _).1 (rp (h.nQ.nodup _) TP)).2;have ac2:before g (fA g p q aa (c :: l) a z x y) u=ahead (if g.tail u=a then jW x c (az aa (g.tail u)) else if g.tail u=z then jW y (aT e) (az aa (g.tail u)) else az aa (g.tail u)) u:=by
  unfold before;rw[jT Tu.1 Tu.2,if_pos huv,lR];rfl
 rw[ac2,lR];show _=if before g aa u=x then c else if before g aa u=y then aT e else before g aa u
 by_cases e1:g.tail u=a
 ·rw[if_pos e1]
  have hby:before g aa u≠y:=fun r=>hw.ne (by grind);rw[if_neg hby];rw[e1] at TP ⊢;rw[nY (h.nQ.nodup a) Pv nt TP]
  grind [before]
 rw[if_neg e1];have eh:before g aa u≠x:=fun r=>e1 (by grind);rw[if_neg eh];by_cases e2:g.tail u=z
 ·rw[if_pos e2]
  rw[e2] at TP ⊢;rw[nY (h.nQ.nodup z) hyt kD TP]
  grind [before]
 all_goals grind [before]
structure a8 where
 aq:List Int
 ends:List Int
 ak:List Int
structure Sk where
 on:Int->Bool
 ak:List (List Int)
 rest:List a8
def du (g:Gr) (f:List Int) (v:Int):Bool:=f.any fun d=>decide (g.tail d=v)
def cr (F:List (List Int)) (i:Int):List Int:=F.getD i.toNat []
def iq (g:Gr) (F:List (List Int)) (V ks:List Int):List Int:=ks.filter fun i=>V.all fun v=>du g (cr F i) v
def cg (g:Gr) (on:Int->Bool) (E:List Int):List Int:=tidy (E.flatMap fun e=>[(g.at e).1,(g.at e).2].filter on)
def aX (E l:List Int):List Int:=E.filter fun e=>!(l.contains (2*e))&&!(l.contains (2*e+1))
def dt (g:Gr) (on:Int->Bool) (F:List (List Int)) (E ks:List Int):List a8:=(fN g on E).1.groups.map fun l=>⟨l,cg g on l,iq g F (cg g on l) ks⟩
def jO (g:Gr) (on:Int->Bool) (w:List Int):Int->Bool:=fun v=>on v || w.any fun d=>decide (g.tail d=v)
def jx (g:Gr) (F:List (List Int)) (f k:Int) (r:a8):a8:=if f∈r.ak then ⟨r.aq,r.ends,r.ak.erase f++iq g F r.ends [f,k]⟩ else r
def Sk.put (g:Gr) (V:List Int) (s:Sk) (i:Nat):Sk :=
 let c:=s.rest.getD i ⟨[],[],[]⟩
 let a:=c.ends.getD 0 0
 let w:=lY g s.on ⟨V,c.aq⟩ a
 let f:=c.ak.getD 0 0
 let k:Int:=s.ak.length
 let FF:=qD g (cr s.ak f) w a (g.head (w.getLastD 0))
 let F:=s.ak.set f.toNat FF.1++[FF.2]
 ⟨jO g s.on w,F,(s.rest.eraseIdx i).map (jx g F f k)++dt g (jO g s.on w) F (aX c.aq w) [f,k]⟩
theorem eQ {g:Gr} {f:List Int} {v:Int}:du g f v=true↔∃ d∈f,g.tail d=v:=by
 grind [du]
theorem cC {g:Gr} {on:Int->Bool} {E:List Int} {v:Int}:v∈cg g on E↔on v=true/\∃ e∈E,dG g e v:=by
 unfold cg;rw[(zb _).2,List.mem_flatMap];constructor
 ·rintro ⟨e,he,h⟩
  obtain⟨h1,h2⟩:=Qd.1 h;refine⟨h2,e,he,?_⟩;rcases Qc.1 h1 with r | r
  ·exact Qb r.symm
  exact Qe (Qg.1 r).symm
 rintro ⟨h1,e,he,r⟩;refine⟨e,he,Qd.2 ⟨?_,h1⟩⟩;rcases r with r | r <;> simp[r]
theorem jc (g:Gr) (on:Int->Bool) (E:List Int):(cg g on E).Nodup:=(zb _).1.imp fun h e=>by omega
theorem pV {g:Gr} {F:List (List Int)} {V ks:List Int} {i:Int}:i∈iq g F V ks↔i∈ks/\∀ v∈V,du g (cr F i) v=true:=by
 grind [iq]
theorem cP {E l:List Int} {e:Int}:e∈aX E l↔e∈E/\∀ d∈l,d / 2≠e:=by
 all_goals grind [aX]
theorem Mh {g:Gr} {on:Int->Bool} {w:List Int} {v:Int}:jO g on w v=true↔on v=true\/v∈w.map g.tail:=by
 grind [jO]
structure yO (g:Gr) (b:Pt) (on:Int->Bool) (F:List (List Int)) (c:a8):Prop where
 LH:GO g on c.aq
 shut:∀ e∈c.aq,∀ f∈b.e,Lk g on e f->f∈c.aq
 sub:∀ e∈c.aq,e∈b.e
 ends:c.ends=cg g on c.aq
 two:2<=c.ends.length
 fnd:c.ak.Nodup
 Sf:∀ i,i∈c.ak↔0<=i/\i.toNat<F.length/\∀ v∈c.ends,du g (cr F i) v=true
structure zQ (g:Gr) (b:Pt) (s:Sk) (p:Pt) (aa:List (List Int)):Prop where
 ak:eE g p aa s.ak
 on:∀ v,s.on v=true↔v∈p.v
 sub:∀ v∈p.v,v∈b.v
 drawn:p.e≠[]
 part:(p.e++s.rest.flatMap (·.aq)).Perm b.e
 KU:∀ c∈s.rest,yO g b s.on s.ak c
theorem nC {g:Gr} {b:Pt} (h:cQ g b):∀ e∈b.e,∀ f∈b.e,∀ v∈b.v,¬ LK g b v e f:=by
 obtain⟨⟨e0,l,he,hs⟩,-⟩:=h;have h0:e0∈b.e:=by rw[he];simp
 intro e qO f Ma v hv iY;have h1:=hs e qO v hv;have h2:=hs f Ma v hv;obtain⟨bh,iY⟩:=iY;have hl:∀ x∈b.e,e0≠x->¬ ((g.at x).1=v/\(g.at x).2=v):=fun x hx hn q=>hs x hx v hv ⟨hn,Qe (Qb q)⟩;have EG:∀ x∈b.e,e0≠x->¬ ((g.at e0).1=v/\(g.at e0).2=v):=fun x hx hn q=>hs x hx v hv ⟨hn,Qb q⟩;have hc:∀ x∈b.e,e0≠x->b9 g b v (off g v e0) (off g v x):=fun x hx hn=>Qh fun q=>hs x hx v hv ⟨hn,Qe (Qe q)⟩;by_cases q1:e0=e
 ·subst q1
  exact h2 ⟨bh,iY⟩
 by_cases q2:e0=f
 ·subst q2
  rcases iY with r | r | r
  ·exact hl e qO q1 r
  ·exact EG e qO q1 r
  exact r (((hc e qO q1).symm (oN (EG e qO q1))).2)
 rcases iY with r | r | r
 ·exact hl e qO q1 r
 ·exact hl f Ma q2 r
 exact r ((((hc e qO q1).symm (oN (EG e qO q1))).2).trans (hc f Ma q2))
theorem pr {g:Gr} {v e:Int}:dG g e (off g v e):=by
 all_goals grind [off,dG]
theorem ME {g:Gr} {p:Pt} {u w:Int} (h:oI g p u w):∃ e∈p.e,dG g e u/\dG g e w:=by
 obtain⟨e,he,h | h⟩:=h
 ·exact⟨e,he,Qb (by rw[h]),Qe (by rw[h])⟩
 exact⟨e,he,Qe (by rw[h]),Qb (by rw[h])⟩
theorem xP {g:Gr} {b p:Pt} {on:Int->Bool} {E:List Int} (hS:cQ g b) (iM:aB g p) (dm:p.e≠[]) (nJ:∀ v,on v=true↔v∈p.v) (nK:∀ v∈p.v,v∈b.v) (VW:∀ e∈p.e,e∈b.e) (hE:E≠[]) (hEs:∀ e∈E,e∈b.e) (hEp:∀ e∈E,e ∉ p.e)
  (sd:∀ e∈E,∀ f∈b.e,Lk g on e f->f∈E):2<=(cg g on E).length:=by
 obtain⟨e1,A7⟩:=Qi _ dm;obtain⟨e2,NU⟩:=Qi _ hE;refine Qh fun aL=>?_
 -- one vertex alone may be an end
 obtain⟨v,hv,Ab⟩:∃ v∈p.v,∀ u∈cg g on E,u=v:=by
  match hL:cg g on E with
  | []=>exact⟨_,(iM.ends e1 A7).1,by simp⟩
  | [x] =>
   have:x∈cg g on E:=by rw[hL];simp
   grind [cC]
  | _ :: _ :: _=>rw[hL] at aL;simp at aL
 have bh:e2≠e1:=fun r=>hEp e2 NU (r ▸ A7);have iY:=nC hS e2 (hEs e2 NU) e1 (VW e1 A7) v (nK v hv);have Az:¬ ((g.at e2).1=v/\(g.at e2).2=v):=fun r=>iY ⟨bh,Qb r⟩;have Dv:¬ ((g.at e1).1=v/\(g.at e1).2=v):=fun r=>iY ⟨bh,Qe (Qb r)⟩;have hc:b9 g b v (off g v e2) (off g v e1):=Qh fun r=>iY ⟨bh,Qe (Qe r)⟩;have P4:∀ u,b9 g b v (off g v e2) u->on u=false/\∃ e∈E,dG g e u:=fun u hu=>by
  have key:∀ u e,e∈E->dG g e u->u≠v->on u=false:=fun u e he hu hn=>Qp.2 fun r=>hn (Ab u (cC.2 ⟨r,e,he,hu⟩))
  induction hu with
  | here=>exact⟨key _ e2 NU pr (oN Az),e2,NU,pr⟩
  | step _ hn hs ih =>
   obtain⟨i1,e,he,i2⟩:=ih;obtain⟨f,hf,f1,f2⟩:=ME hn;have Xt:=sd e he f hf ⟨_,i1,i2,f1⟩
   grind
 have h1:=(P4 _ hc).1;have h2:on (off g v e1)=true:=by
  rw[nJ];have:=iM.ends e1 A7
  all_goals grind [off]
 grind
theorem pa {g:Gr} {z:Int}:∀ {w:List Int} {a:Int},kg g a w z->(w.map g.head).Nodup->a ∉ w.map g.head->(w.map (· / 2)).Nodup
 | [],_,_,_,_=>by simp
 | d :: w,a,h,hn,ha=>by
  rw[Qr,Qm] at hn;rw[Qr,Qc] at ha;rw[Qr,Qm];refine⟨fun q=>?_,pa h.2 hn.2 hn.1⟩;obtain⟨x,hx,e⟩:=Qa.1 q;rcases CL e with r | r
  ·exact hn.1 (Qa.2 ⟨x,hx,by rw[r]⟩)
  refine ha (Qe (Qa.2 ⟨x,hx,?_⟩));rw[r,<-h.1,<-aS,bC]
theorem XB.qL {g:Gr} {p b:Pt} {on:Int->Bool} {E w:List Int} {a z:Int} (h:XB g on ⟨b.v,E⟩ w a z) (nJ:∀ v,on v=true↔v∈p.v) (ha:on a=true) (hE:∀ e∈E,e ∉ p.e):mF g p w a z:=by
 have bh:∃ c l,w=c :: l:=by
  cases w with
  | nil=>exact absurd h.link h.ne
  | cons c l=>exact⟨c,l,rfl⟩
 obtain⟨c,l,rfl⟩:=bh;have kU:=h.link.1;have hht:=fx h.link;have hn:=h.cZ;have hna:=h.na;rw[hht] at hn hna;refine⟨h.link,h.ne,(nJ a).1 ha,(nJ z).1 h.oz,fun d hd r=>?_,?_,pa h.link h.cZ h.na,fun d hd=>hE _ (aw.1 (h.sub d hd))⟩
 ·have:=h.inn d hd
  grind
 all_goals grind
theorem oO {α:Type} {l:List α} {i:Nat} (hi:i<l.length) (d:α):l=l.take i++l.getD i d :: l.drop (i+1)/\l.eraseIdx i=l.take i++l.drop (i+1):=by
 refine⟨?_,List.eraseIdx_eq_take_drop_succ _ _⟩;have e:l.getD i d=l[i]:=by simp[QA,hi]
 rw[e,<-Qk hi,Qt]
theorem P1 {g:Gr} {p:Pt} {w old A B U V:List Int} {a z x y:Int} (hw:mF g p w a z) (hold:old=U++V) (hcut:V++U=x :: A++y :: B) (hx:g.tail x=a) (hy:g.tail y=z) {v:Int} (hv:v∈p.v) :
  (du g (x :: A++twins w) v=true->du g old v=true)/\(du g (w++y :: B) v=true->du g old v=true):=by
 have cL:∀ d,d∈old↔d∈x :: A++y :: B:=fun d=>by rw[<-hcut,hold];simp[or_comm]
 have hz:du g old z=true:=eQ.2 ⟨y,(cL y).2 (by simp),hy⟩;have ha:du g old (g.tail x)=true:=eQ.2 ⟨x,(cL x).2 (by simp),rfl⟩;obtain⟨c,l,rfl⟩:=hw.cons;have hht:=fx hw.link;refine⟨fun h=>?_,fun h=>?_⟩
 ·obtain⟨d,hd,e⟩:=eQ.1 h
  rcases Qj.1 hd with r | r
  ·exact eQ.2 ⟨d,(cL d).2 (List.mem_append_left _ r),e⟩
  rw[jn] at r;have h1:g.head (aT d)∈(c :: l).map g.head:=Qa.2 ⟨_,r,rfl⟩;have h2:g.head (aT d)=v:=by rw[<-aS,bC];exact e
  rw[hht,h2] at h1;rcases Qj.1 h1 with k | k
  ·obtain⟨d',PK,e'⟩:=Qa.1 k
   exact absurd hv (by rw[<-e'];exact hw.FA d' PK)
  rw[Qg.1 k];exact hz
 obtain⟨d,hd,e⟩:=eQ.1 h;rcases Qj.1 hd with r | r
 ·rcases Qc.1 r with r | r
  .-- the way's first Bc leaves a
   have h1:g.tail d=a:=by rw[r];exact hw.link.1
   grind
  exact absurd hv (by rw[<-e];exact hw.FA d r)
 all_goals grind [eQ]
theorem LY {F:List (List Int)} {f:Int} (h0:0<=f) (hf:f.toNat<F.length) (m1 m2:List Int) :
  (∀ i,0<=i->i.toNat<F.length->i≠f->cr (F.set f.toNat m1++[m2]) i=cr F i)/\cr (F.set f.toNat m1++[m2]) f=m1/\cr (F.set f.toNat m1++[m2]) (F.length:Int)=m2/\(F.set f.toNat m1++[m2]).length=F.length+1:=by
 all_goals grind [cr]
theorem rS (g:Gr) (F:List (List Int)) (f k:Int) (r:a8):(jx g F f k r).aq=r.aq/\(jx g F f k r).ends=r.ends:=by
 grind [jx]
theorem zH (g:Gr) (F:List (List Int)) (f k:Int) (L:List a8):(L.map (jx g F f k)).flatMap (·.aq)=L.flatMap (·.aq):=by
 rw[Qy]
 grind [rS]
theorem lV {g:Gr} {on:Int->Bool} {F:List (List Int)} {E ks:List Int} (hE:E.Nodup):((dt g on F E ks).flatMap (·.aq)).Perm E:=by
 have h:=gw g on E;have h1:=B5 h.ok;rw[h.all,kf hE] at h1;unfold dt;rw[Qy];have:((fN g on E).1.groups.flatMap fun l=>l)=(fN g on E).1.groups.flatten:=by rw[List.flatMap_id']
 grind
theorem Kc {g:Gr} {b p':Pt} {on on':Int->Bool} {c:a8} {w:List Int} {F F':List (List Int)} {f k:Int} (hS:cQ g b) (hc:yO g b on F c) (iM:aB g p') (dm:p'.e≠[]) (nJ:∀ v,on' v=true↔v∈p'.v) (gU:∀ v,on' v=false->on v=false) (nK:∀ v∈p'.v,v∈b.v) (VW:∀ e∈p'.e,e∈b.e)
  (hw:∀ d∈w,d / 2∈c.aq/\on' (g.tail d)=true/\on' (g.head d)=true) (hwn:w≠[]) (nt:c.aq.Nodup) (hEp:∀ e∈aX c.aq w,e ∉ p'.e) (hfk:0<=f/\f<k) (hkF:k.toNat+1=F'.length)
  (hF:∀ i,0<=i->i<k->i≠f->∀ u,du g (cr F' i) u=true->on u=true) {c':a8} (hm:c'∈dt g on' F' (aX c.aq w) [f,k]):yO g b on' F' c':=by
 obtain⟨l,hl,rfl⟩:=Qa.1 hm;have Zm:=gw g on' (aX c.aq w);have Xk:(aX c.aq w).Nodup:=nt.filter _;have dH:(fN g on' (aX c.aq w)).1.all=aX c.aq w:=by rw[Zm.all,kf Xk]
 obtain⟨g1,g2,g3⟩:=lH Zm.ok hl;rw[dH] at g2;have lE:∀ e∈l,e∈c.aq:=fun e he=>(cP.1 (g2 e he)).1;have sd:∀ e∈l,∀ f∈b.e,Lk g on' e f->f∈l:=fun e he f' wR l6=>by
  obtain⟨v,hv,h1,h2⟩:=l6;have wj:=hc.shut e (lE e he) f' wR ⟨v,gU v hv,h1,h2⟩;have Xt:f'∈aX c.aq w:=cP.2 ⟨wj,fun d hd r=>by
   all_goals grind [uj]⟩
  exact (g3 e he f').2 (gY (g2 e he) Xt ⟨v,hv,h1,h2⟩)
 have ajT:∃ u∈cg g on' l,on u=false:=by
  refine Qh fun oe=>?_;obtain⟨e,he⟩:=Qi _ g1;obtain⟨d,hd⟩:=Qi _ hwn;have hq:=hc.LH (fun x y=>x∈l↔y∈l) ⟨fun _=>QB,fun q=>q.symm,fun q r=>q.trans r⟩ (fun x hx y hy l6=>by
   have half:∀ x∈c.aq,∀ y∈c.aq,Lk g on x y->x∈l->y∈l:=fun x _ y hy ⟨v,hv,h1,h2⟩ sW=>by
    by_cases Ll:on' v=true
    ·exact absurd ⟨v,cC.2 ⟨Ll,x,sW,h1⟩,hv⟩ oe
    exact sd x sW y (hc.sub y hy) ⟨v,Qp.2 Ll,h1,h2⟩
   obtain⟨v,hv,h1,h2⟩:=l6;exact⟨half x hx y hy ⟨v,hv,h1,h2⟩,half y hy x hx ⟨v,hv,h2,h1⟩⟩) e (lE e he) (d / 2) (hw d hd).1
  grind [cP]
 refine⟨fun Q hQ hh e he f' wR=>?_,sd,fun e he=>hc.sub e (lE e he),rfl,xP hS iM dm nJ nK VW g1 (fun e he=>hc.sub e (lE e he)) (fun e he=>hEp e (g2 e he)) sd,?_,fun i=>?_⟩
 ·have:=sA (g:=g) (on:=on') (E:=aX c.aq w) (Q:=fun x y=>(x∈l/\y∈l/\Q x y)\/(x ∉ l/\y ∉ l)) ⟨fun x=>by
    by_cases q:x∈l
    ·exact Qb ⟨q,q,hQ.refl x⟩
    ·exact Qe ⟨q,q⟩,fun {x y} q=>by
    rcases q with ⟨q1,q2,q3⟩ | ⟨q1,q2⟩
    ·exact Qb ⟨q2,q1,hQ.symm q3⟩
    ·exact Qe ⟨q2,q1⟩,fun {x y z} q r=>by
    rcases q with ⟨q1,q2,q3⟩ | ⟨q1,q2⟩ <;> rcases r with ⟨r1,r2,r3⟩ | ⟨r1,r2⟩
    ·exact Qb ⟨q1,r2,hQ.trans q3 r3⟩
    ·exact absurd q2 r1
    ·exact absurd r1 q2
    ·exact Qe ⟨q1,r2⟩⟩ (fun x hx y hy l6=>by
    by_cases q:x∈l
    ·have Hv:=(g3 x q y).2 (gY hx hy l6)
     exact Qb ⟨q,Hv,hh x q y Hv l6⟩
    refine Qe ⟨q,fun r=>q ((g3 y r x).2 (gY hy hx ?_))⟩;obtain⟨v,hv,h1,h2⟩:=l6;exact⟨v,hv,h2,h1⟩) ((g3 e he f').1 wR)
  all_goals grind
 all_goals grind [iq,cg,pV]
theorem Ij {g:Gr} {b:Pt} {on on':Int->Bool} {r:a8} {F F':List (List Int)} {f:Int} (hr:yO g b on F r) (gU:∀ v,on' v=false->on v=false) (hD:∀ e∈r.aq,∀ v,dG g e v->on v=false->on' v=false) (h0:0<=f) (hf:f.toNat<F.length)
  (hF:∀ i,0<=i->i.toNat<F.length->i≠f->cr F' i=cr F i) (hl:F'.length=F.length+1) (wj:∀ v,on v=true->(du g (cr F' f) v=true->du g (cr F f) v=true)/\(du g (cr F' (F.length:Int)) v=true->du g (cr F f) v=true)):yO g b on' F' (jx g F' f (F.length:Int) r):=by
 obtain⟨e1,e2⟩:=rS g F' f (F.length:Int) r;have heq:cg g on' r.aq=cg g on r.aq:=by
  unfold cg;have:∀ e∈r.aq,([(g.at e).1,(g.at e).2].filter on')=[(g.at e).1,(g.at e).2].filter on:=fun e he=>List.filter_congr fun v hv=>by
   have hE:dG g e v:=by
    rcases Qc.1 hv with q | q
    ·exact Qb q.symm
    exact Qe (Qg.1 q).symm
   cases h1:on' v with
   | true =>
    grind
   | false=>exact (gU v h1).symm
  rw[Qz,Qz,List.map_congr_left this]
 have nJ:∀ v∈r.ends,on v=true:=fun v hv=>by rw[hr.ends] at hv;exact (cC.1 hv).1
 refine⟨?_,?_,?_,?_,by rw[e2];exact hr.two,?_,fun i=>?_⟩
 ·rw[e1]
  exact fun Q hQ hh=>hr.LH Q hQ fun e he f' wR ⟨v,hv,h1,h2⟩=>hh e he f' wR ⟨v,hD e he v h1 hv,h1,h2⟩
 ·rw[e1]
  exact fun e he f' wR ⟨v,hv,h1,h2⟩=>hr.shut e he f' wR ⟨v,gU v hv,h1,h2⟩
 ·rw[e1];exact hr.sub
 ·rw[e1,e2,heq];exact hr.ends
 ·unfold jx
  by_cases q:f∈r.ak
  ·rw[if_pos q]
   show (r.ak.erase f++iq g F' r.ends [f,(F.length:Int)]).Nodup;rw[Qv];refine⟨hr.fnd.erase f,(show [f,(F.length:Int)].Nodup by simp;omega).filter _,fun x hx y hy e=>?_⟩;subst e;have h1:=(pV.1 hy).1;rcases Qc.1 h1 with k | k
   ·rw[k] at hx
    exact (hr.fnd.not_mem_erase) hx
   have:=((hr.Sf x).1 (List.mem_of_mem_erase hx)).2.1
   grind
  rw[if_neg q];exact hr.fnd
 have hi:i∈(jx g F' f (F.length:Int) r).ak↔if f∈r.ak then (i≠f/\i∈r.ak)\/((i=f\/i=(F.length:Int))/\∀ v∈r.ends,du g (cr F' i) v=true) else i∈r.ak:=by
  unfold jx;by_cases q:f∈r.ak
  ·rw[if_pos q,if_pos q]
   show i∈r.ak.erase f++iq g F' r.ends [f,(F.length:Int)]↔_;rw[Qj,hr.fnd.mem_erase_iff,pV]
   grind
  all_goals grind
 rw[hi,e2];by_cases q:f∈r.ak
 ·rw[if_pos q]
  constructor
  ·rintro (⟨k1,k2⟩ | ⟨k1,k2⟩)
   ·obtain⟨j1,j2,j3⟩:=(hr.Sf i).1 k2
    grind
   all_goals grind
  rintro ⟨k1,k2,k3⟩;by_cases k4:i=f
  ·exact Qe ⟨Or.inl k4,k3⟩
  by_cases k5:i=(F.length:Int)
  ·exact Qe ⟨Or.inr k5,k3⟩
  exact Qb ⟨k4,(hr.Sf i).2 ⟨k1,by omega,fun v hv=>by rw[<-hF i k1 (by omega) k4];exact k3 v hv⟩⟩
 rw[if_neg q];constructor
 ·intro k
  obtain⟨j1,j2,j3⟩:=(hr.Sf i).1 k
  grind
 rintro ⟨k1,k2,k3⟩;have dH:(∀ v∈r.ends,du g (cr F f) v=true)->f∈r.ak:=fun k=>(hr.Sf f).2 ⟨h0,hf,k⟩;by_cases k4:i=f
 ·exact absurd (dH fun v hv=>(wj v (nJ v hv)).1 (by rw[<-k4];exact k3 v hv)) q
 by_cases k5:i=(F.length:Int)
 ·exact absurd (dH fun v hv=>(wj v (nJ v hv)).2 (by rw[<-k5];exact k3 v hv)) q
 exact (hr.Sf i).2 ⟨k1,by omega,fun v hv=>by rw[<-hF i k1 (by omega) k4];exact k3 v hv⟩
end Go.Proofs.YtoiflofhcmjpoaaGreat.Plain
