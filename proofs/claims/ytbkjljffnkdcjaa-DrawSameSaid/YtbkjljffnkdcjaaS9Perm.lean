/- Permutations in rings: swapping two things makes one ring more or less; the parity of a product. No program here. -/
import Derived.WalkKit
namespace Go.Proofs.Ytbkjljffnkdcjaa.Plain
def Trail (p:Int→Int):Int→List Int→Int→Prop
 | x,[],z=>p x=z
 | x,y :: l,z=>p x=y∧Trail p y l z
theorem Trail.append {p:Int→Int} {y z:Int}:∀ {l m:List Int} {x:Int},Trail p x (l++y :: m) z↔Trail p x l y∧Trail p y m z
 | [],_,_=>Iff.rfl
 | a :: l,m,x=>by
  show p x=a∧Trail p a (l++y :: m) z↔(p x=a∧Trail p a l y)∧Trail p y m z
  rw[Trail.append (l:=l)]
  exact and_assoc.symm
theorem Trail.congr {p q:Int→Int} {z:Int}:∀ {l:List Int} {x:Int},(∀ y,y=x∨y∈l→p y=q y)→Trail p x l z→Trail q x l z
 | [],x,h,t=>by show q x=z;rw[←h x (Or.inl rfl)];exact t
 | a :: l,x,h,t=>⟨by rw[←h x (Or.inl rfl)];exact t.1,Trail.congr (fun y hy=>h y (Or.inr (by rcases hy with rfl | hy <;> simp[*]))) t.2⟩
def Ring (p:Int→Int):List Int→Prop
 | []=>False
 | x :: l=>Trail p x l x
structure Rings (p:Int→Int) (C:List (List Int)):Prop where
 ring:∀ c∈C,Ring p c
 nodup:C.flatten.Nodup
theorem Ring.turn {p:Int→Int} {l m:List Int} {x y:Int} (h:Ring p (x :: l++y :: m)):Ring p (y :: m++x :: l):=by
 have h':Trail p x (l++y :: m) x:=h
 rw[Trail.append] at h'
 show Trail p y (m++x :: l) y
 rw[Trail.append]
 exact h'.symm
theorem Ring.from {p:Int→Int} {c:List Int} {x:Int} (h:Ring p c) (hx:x∈c):∃ l,Ring p (x :: l)∧(x :: l).Perm c:=by
 obtain⟨a,b,rfl⟩:=List.append_of_mem hx
 cases a with
 | nil=>exact⟨b,h,List.Perm.refl _⟩
 | cons y a =>
  refine⟨b++y :: a,Ring.turn h,?_⟩
  exact List.perm_append_comm (l₁:=x :: b) (l₂:=y :: a)
theorem Rings.perm {p:Int→Int} {C D:List (List Int)} (h:Rings p C) (hp:C.Perm D):Rings p D :=
 ⟨fun c hc=>h.ring c (hp.mem_iff.2 hc),(hp.flatten).nodup_iff.1 h.nodup⟩
theorem Rings.front {p:Int→Int} {C:List (List Int)} {x:Int} (h:Rings p C) (hx:x∈C.flatten):∃ l D,Rings p ((x :: l) :: D)∧((x :: l) :: D).length=C.length∧((x :: l) :: D).flatten.Perm C.flatten:=by
 obtain⟨c,hc,hxc⟩:=List.mem_flatten.1 hx
 obtain⟨a,b,rfl⟩:=List.append_of_mem hc
 obtain⟨l,hr,hl⟩:=(h.ring c hc).from hxc
 have hp:(a++c :: b).Perm (c :: (a++b)):=List.perm_middle
 have h2:=h.perm hp
 have hf:((x :: l) :: (a++b)).flatten.Perm (c :: (a++b)).flatten:=by
  simp only[List.flatten_cons]
  exact hl.append_right _
 refine⟨l,a++b,⟨fun d hd=>?_,hf.nodup_iff.2 h2.nodup⟩,by simp;omega,hf.trans hp.symm.flatten⟩
 rcases List.mem_cons.1 hd with rfl | hd
 ·exact hr
 exact h2.ring d (List.mem_cons_of_mem _ hd)
def swp (a b x:Int):Int:=if x=a then b else if x=b then a else x
theorem swp_left (a b:Int):swp a b a=b:=if_pos rfl
theorem swp_right (a b:Int):swp a b b=a:=by unfold swp;split <;> simp_all
theorem swp_none {a b x:Int} (h1:x≠a) (h2:x≠b):swp a b x=x:=by unfold swp;rw[if_neg h1,if_neg h2]
theorem Ring.swp_none {p:Int→Int} {a b:Int} {c:List Int} (h:Ring p c) (ha:a ∉ c) (hb:b ∉ c):Ring (fun x=>p (swp a b x)) c:=by
 cases c with
 | nil=>exact h
 | cons x l =>
  refine Trail.congr (fun y hy=>?_) (show Trail p x l x from h)
  have hy:y∈x :: l:=by rcases hy with rfl | hy <;> simp[*]
  show p y=p (swp a b y)
  rw[Plain.swp_none (a:=a) (b:=b) (x:=y) (fun e=>ha (by rw[←e];exact hy)) (fun e=>hb (by rw[←e];exact hy))]
theorem Rings.swap2 {p:Int→Int} {C:List (List Int)} {a b:Int} (h:Rings p C) (ha:a∈C.flatten) (hb:b∈C.flatten) (hab:a≠b) :
  ∃ D,Rings (fun x=>p (swp a b x)) D∧D.flatten.Perm C.flatten∧((D.length=C.length+1∧∃ E,Rings p E∧E.flatten.Perm C.flatten∧∃ c∈E,a∈c∧b∈c)∨(D.length+1=C.length∧∃ c∈D,a∈c∧b∈c)):=by
 obtain⟨l,E,hE,hlen,hperm⟩:=h.front ha
 have hbE:b∈((a :: l) :: E).flatten:=hperm.mem_iff.2 hb
 have hnd:=hE.nodup
 simp only[List.flatten_cons] at hbE hnd
 have hra:=hE.ring (a :: l) (by simp)
 by_cases hbl:b∈l
 ·obtain⟨u,v,rfl⟩:=List.append_of_mem hbl
  have htr:Trail p a (u++b :: v) a:=hra
  rw[Trail.append] at htr
  have hnd':=hnd
  rw[List.nodup_append] at hnd
  have hal:=hnd.1
  simp only[List.nodup_cons,List.mem_append,List.mem_cons,not_or,List.nodup_append] at hal
  refine⟨(a :: v) :: (b :: u) :: E,⟨fun c hc=>?_,?_⟩,?_,Or.inl ⟨by simp at hlen ⊢;omega,(a :: (u++b :: v)) :: E,hE,hperm,_,List.mem_cons_self,by simp,by simp⟩⟩
  ·rcases List.mem_cons.1 hc with rfl | hc
   ·show Trail _ a v a
    cases v with
    | nil=>show p (swp a b a)=a;rw[swp_left];exact htr.2
    | cons y v =>
     refine⟨?_,Trail.congr (fun z hz=>?_) htr.2.2⟩
     ·show p (swp a b a)=y
      rw[swp_left];exact htr.2.1
     have hzm:z∈y :: v:=by rcases hz with rfl | hz <;> simp[*]
     show p z=p (swp a b z)
     rw[Plain.swp_none (fun e=>by subst e;exact hal.1.2.2 hzm) (fun e=>by subst e;exact hal.2.2.1.1 hzm)]
   rcases List.mem_cons.1 hc with rfl | hc
   ·show Trail _ b u b
    cases u with
    | nil=>show p (swp a b b)=b;rw[swp_right];exact htr.1
    | cons y u =>
     refine⟨?_,Trail.congr (fun z hz=>?_) htr.1.2⟩
     ·show p (swp a b b)=y
      rw[swp_right];exact htr.1.1
     have hzm:z∈y :: u:=by rcases hz with rfl | hz <;> simp[*]
     show p z=p (swp a b z)
     rw[Plain.swp_none (fun e=>by subst e;exact hal.1.1 hzm) (fun e=>hal.2.2.2 z hzm b (Or.inl rfl) e)]
   refine (hE.ring c (by simp[hc])).swp_none (fun q=>?_) (fun q=>?_)
   ·exact hnd.2.2 a (by simp) a (List.mem_flatten.2 ⟨c,hc,q⟩) rfl
   exact hnd.2.2 b (by simp) b (List.mem_flatten.2 ⟨c,hc,q⟩) rfl
  ·refine List.Perm.nodup_iff ?_ |>.1 hnd'
   simp only[List.flatten_cons,List.cons_append,List.append_assoc]
   refine List.Perm.cons a ?_
   have:(u++b :: v).Perm (v++b :: u):=by
    refine (List.perm_middle (l₁:=u) (a:=b) (l₂:=v)).trans ?_
    rw[←List.cons_append]
    exact (List.perm_append_comm (l₁:=b :: u) (l₂:=v))
   have:=this.append_right E.flatten
   simpa using this
  refine List.Perm.trans ?_ hperm
  simp only[List.flatten_cons,List.cons_append,List.append_assoc]
  refine List.Perm.cons a ?_
  have:(v++b :: u).Perm (u++b :: v):=by
   refine (List.perm_middle (l₁:=v) (a:=b) (l₂:=u)).trans ?_
   rw[←List.cons_append]
   exact (List.perm_append_comm (l₁:=b :: v) (l₂:=u))
  have:=this.append_right E.flatten
  simpa using this
 have hbE':b∈E.flatten:=by
  simp only[List.cons_append,List.mem_cons,List.mem_append] at hbE
  rcases hbE with q | q | q
  ·exact absurd q.symm hab
  ·exact absurd q hbl
  exact q
 rw[List.nodup_append] at hnd
 have hEE:Rings p E:=⟨fun c hc=>hE.ring c (by simp[hc]),hnd.2.1⟩
 obtain⟨u,F,hF,hlenF,hpermF⟩:=hEE.front hbE'
 have hrb:=hF.ring (b :: u) (by simp)
 have hbu:∀ z∈b :: u,z∈E.flatten:=fun z hz=>hpermF.mem_iff.1 (by simp only[List.flatten_cons,List.mem_append];exact Or.inl hz)
 have hndF:=hF.nodup
 simp only[List.flatten_cons] at hndF
 rw[List.nodup_append] at hndF
 have hal:=hnd.1
 simp only[List.nodup_cons] at hal
 have hbn:=hndF.1
 simp only[List.nodup_cons] at hbn
 have hpp:((a :: u++b :: l) :: F).flatten.Perm ((a :: l) :: E).flatten:=by
  simp only[List.flatten_cons,List.cons_append,List.append_assoc]
  refine List.Perm.cons a ?_
  have h1:(u++b :: l).Perm (l++b :: u):=by
   refine (List.perm_middle (l₁:=u) (a:=b) (l₂:=l)).trans ?_
   rw[←List.cons_append]
   exact List.perm_append_comm (l₁:=b :: u) (l₂:=l)
  have h2:=h1.append_right F.flatten
  have h3:(l++((b :: u)++F.flatten)).Perm (l++E.flatten):=List.Perm.append_left l (by simpa using hpermF)
  refine List.Perm.trans (by simpa using h2) (by simpa using h3)
 refine⟨(a :: u++b :: l) :: F,⟨fun c hc=>?_,hpp.nodup_iff.2 hE.nodup⟩,hpp.trans hperm,Or.inr ⟨by simp at hlen hlenF ⊢;omega,_,List.mem_cons_self,by simp,by simp⟩⟩
 rcases List.mem_cons.1 hc with rfl | hc
 ·show Trail _ a (u++b :: l) a
  rw[Trail.append]
  constructor
  ·cases u with
   | nil=>show p (swp a b a)=b;rw[swp_left];exact hrb
   | cons y u =>
    have hrb':p b=y∧Trail p y u b:=hrb
    refine⟨?_,Trail.congr (fun z hz=>?_) hrb'.2⟩
    ·show p (swp a b a)=y
     rw[swp_left];exact hrb'.1
    have hzm:z∈y :: u:=by rcases hz with rfl | hz <;> simp[*]
    show p z=p (swp a b z)
    rw[Plain.swp_none (fun e=>by subst e;exact hnd.2.2 z (by simp) z (hbu z (by simp[hzm])) rfl) (fun e=>by subst e;exact hbn.1 hzm)]
  cases l with
  | nil=>show p (swp a b b)=a;rw[swp_right];exact hra
  | cons y l =>
   have hra':p a=y∧Trail p y l a:=hra
   refine⟨?_,Trail.congr (fun z hz=>?_) hra'.2⟩
   ·show p (swp a b b)=y
    rw[swp_right];exact hra'.1
   have hzm:z∈y :: l:=by rcases hz with rfl | hz <;> simp[*]
   show p z=p (swp a b z)
   rw[Plain.swp_none (fun e=>by subst e;exact hal.1 hzm) (fun e=>by subst e;exact hbl hzm)]
 have hcE:∀ z∈c,z∈E.flatten:=fun z hz=>hpermF.mem_iff.1 (by simp only[List.flatten_cons,List.mem_append,List.mem_flatten];exact Or.inr ⟨c,hc,hz⟩)
 refine (hF.ring c (by simp[hc])).swp_none (fun q=>?_) (fun q=>?_)
 ·exact hnd.2.2 a (by simp) a (hcE a q) rfl
 exact hndF.2.2 b (by simp) b (List.mem_flatten.2 ⟨c,hc,q⟩) rfl
theorem Rings.swap {p:Int→Int} {C:List (List Int)} {a b:Int} (h:Rings p C) (ha:a∈C.flatten) (hb:b∈C.flatten) (hab:a≠b) :
  ∃ D,Rings (fun x=>p (swp a b x)) D∧D.flatten.Perm C.flatten∧(D.length=C.length+1∨D.length+1=C.length):=by
 obtain⟨D,h1,h2,h3⟩:=h.swap2 ha hb hab
 exact⟨D,h1,h2,h3.imp And.left And.left⟩
theorem Trail.det {p:Int→Int} {x:Int}:∀ {l m:List Int} {a:Int},Trail p a l x→Trail p a m x→x ∉ l→x ∉ m→l=m
 | [],[],_,_,_,_,_=>rfl
 | [],y :: m,a,h,k,_,h2=>absurd (k.1.symm.trans h) (fun e=>h2 (by rw[e];simp))
 | y :: l,[],a,h,k,h1,_=>absurd (h.1.symm.trans k) (fun e=>h1 (by rw[e];simp))
 | y :: l,z :: m,a,h,k,h1,h2=>by
  have e:y=z:=h.1.symm.trans k.1
  subst e
  rw[Trail.det h.2 k.2 (fun q=>h1 (by simp[q])) (fun q=>h2 (by simp[q]))]
theorem Rings.count {p:Int→Int}:∀ {C D:List (List Int)},Rings p C→Rings p D→C.flatten.Perm D.flatten→C.length=D.length
 | [],D,_,hD,hp=>by
  cases D with
  | nil=>rfl
  | cons d D =>
   have hd:=hD.ring d (by simp)
   cases d with
   | nil=>exact absurd hd (by simp[Ring])
   | cons x l=>have:=hp.length_eq;simp at this
 | [] :: C,D,hC,_,_=>absurd (hC.ring [] (by simp)) (by simp[Ring])
 | (x :: l) :: C,D,hC,hD,hp=>by
  obtain⟨m,E,hE,hlen,hperm⟩:=hD.front (x:=x) (hp.mem_iff.1 (by simp))
  have n1:=hC.nodup
  have n2:=hE.nodup
  simp only[List.flatten_cons,List.cons_append,List.nodup_cons,List.mem_append,not_or] at n1 n2
  have e:l=m:=Trail.det (hC.ring (x :: l) (by simp)) (hE.ring (x :: m) (by simp)) n1.1.1 n2.1.1
  subst e
  have hp2:=hp.trans hperm.symm
  simp only[List.flatten_cons] at hp2
  have hp3:=(List.perm_append_left_iff _).1 hp2
  have hC2:Rings p C:=⟨fun c hc=>hC.ring c (by simp[hc]),((List.nodup_append.1 n1.2).2).1⟩
  have hE2:Rings p E:=⟨fun c hc=>hE.ring c (by simp[hc]),((List.nodup_append.1 n2.2).2).1⟩
  have:=Rings.count hC2 hE2 hp3
  simp at hlen ⊢
  omega
theorem Trail.map {p:Int→Int} {z:Int}:∀ {l:List Int} {x:Int},Trail p x l z→(x :: l).map p=l++[z]
 | [],x,h=>by show [p x]=[z];rw[show p x=z from h]
 | y :: l,x,h=>by
  rw[List.map_cons,Trail.map h.2,h.1]
  rfl
theorem Ring.map_perm {p:Int→Int} {c:List Int} (h:Ring p c):(c.map p).Perm c:=by
 cases c with
 | nil=>exact absurd h (by simp[Ring])
 | cons x l =>
  rw[Trail.map (show Trail p x l x from h)]
  exact List.perm_append_comm (l₁:=l) (l₂:=[x])
theorem rings_map {p:Int→Int}:∀ {C:List (List Int)},(∀ c∈C,Ring p c)→(C.flatten.map p).Perm C.flatten
 | [],_=>List.Perm.refl _
 | c :: C,h=>by
  rw[List.flatten_cons,List.map_append]
  exact (h c (by simp)).map_perm.append (rings_map fun d hd=>h d (by simp[hd]))
theorem inj_of_map {p:Int→Int}:∀ {l:List Int},(l.map p).Nodup→∀ x∈l,∀ y∈l,p x=p y→x=y
 | [],_,x,hx,_,_,_=>by simp at hx
 | a :: l,h,x,hx,y,hy,e=>by
  rw[List.map_cons,List.nodup_cons] at h
  rcases List.mem_cons.1 hx with e1 | hx <;> rcases List.mem_cons.1 hy with e2 | hy
  ·rw[e1,e2]
  ·exact absurd (List.mem_map.2 ⟨y,hy,by rw[←e,e1]⟩) h.1
  ·exact absurd (List.mem_map.2 ⟨x,hx,by rw[e,e2]⟩) h.1
  exact inj_of_map h.2 x hx y hy e
theorem Rings.inj {p:Int→Int} {C:List (List Int)} (h:Rings p C):∀ x∈C.flatten,∀ y∈C.flatten,p x=p y→x=y :=
 inj_of_map ((rings_map h.ring).nodup_iff.2 h.nodup)
theorem Rings.pred {p:Int→Int} {C:List (List Int)} (h:Rings p C) {x:Int} (hx:x∈C.flatten):∃ y∈C.flatten,p y=x :=
 List.mem_map.1 ((rings_map h.ring).mem_iff.2 hx)
theorem Rings.next {p:Int→Int} {C:List (List Int)} (h:Rings p C) {x:Int} (hx:x∈C.flatten):p x∈C.flatten :=
 (rings_map h.ring).mem_iff.1 (List.mem_map.2 ⟨x,hx,rfl⟩)
theorem Ring.congr {p q:Int→Int} {c:List Int} (h:Ring p c) (e:∀ x∈c,p x=q x):Ring q c:=by
 cases c with
 | nil=>exact h
 | cons x l=>exact Trail.congr (fun y hy=>e y (by rcases hy with rfl | hy <;> simp[*])) (show Trail p x l x from h)
theorem Rings.congr {p q:Int→Int} {C:List (List Int)} (h:Rings p C) (e:∀ x∈C.flatten,p x=q x):Rings q C :=
 ⟨fun c hc=>(h.ring c hc).congr fun x hx=>e x (List.mem_flatten.2 ⟨c,hc,hx⟩),h.nodup⟩
theorem swp_swp (a b x:Int):swp a b (swp a b x)=x:=by
 unfold swp
 repeat' split
 all_goals simp_all
theorem Rings.swap' {p:Int→Int} {C:List (List Int)} {a b:Int} (h:Rings p C) (ha:a∈C.flatten) (hb:b∈C.flatten) (hab:a≠b) :
  ∃ D,Rings (fun x=>swp a b (p x)) D∧D.flatten.Perm C.flatten∧(D.length=C.length+1∨D.length+1=C.length):=by
 obtain⟨a',ha',rfl⟩:=h.pred ha
 obtain⟨b',hb',rfl⟩:=h.pred hb
 obtain⟨D,h1,h2,h3⟩:=h.swap ha' hb' (fun e=>hab (by rw[e]))
 refine⟨D,h1.congr fun x hx=>?_,h2,h3⟩
 have hx':=h2.mem_iff.1 hx
 by_cases e1:x=a'
 ·subst e1;rw[swp_left,swp_left]
 by_cases e2:x=b'
 ·subst e2;rw[swp_right,swp_right]
 rw[Plain.swp_none e1 e2,Plain.swp_none (fun e=>e1 (h.inj x hx' a' ha' e)) (fun e=>e2 (h.inj x hx' b' hb' e))]
theorem Rings.cut {p:Int→Int} {x y:Int} {l:List Int} {R:List (List Int)} (h:Rings p ((x :: y :: l) :: R)):Rings (fun z=>p (swp y x z)) ([y] :: (x :: l) :: R):=by
 have hnd:=h.nodup
 have hr:p x=y∧Trail p y l x:=h.ring (x :: y :: l) (by simp)
 have hp:([y] :: (x :: l) :: R).flatten.Perm ((x :: y :: l) :: R).flatten:=by
  simp only[List.flatten_cons,List.cons_append,List.nil_append]
  exact List.Perm.swap _ _ _
 simp only[List.flatten_cons] at hnd
 rw[List.nodup_append] at hnd
 have hal:=hnd.1
 simp only[List.nodup_cons,List.mem_cons,not_or] at hal
 refine⟨fun c hc=>?_,hp.nodup_iff.2 h.nodup⟩
 rcases List.mem_cons.1 hc with rfl | hc
 ·show p (swp y x y)=y
  rw[swp_left];exact hr.1
 rcases List.mem_cons.1 hc with rfl | hc
 ·show Trail _ x l x
  cases l with
  | nil=>show p (swp y x x)=x;rw[swp_right];exact hr.2
  | cons z l =>
   refine⟨?_,Trail.congr (fun u hu=>?_) hr.2.2⟩
   ·show p (swp y x x)=z
    rw[swp_right];exact hr.2.1
   have hum:u∈z :: l:=by rcases hu with rfl | hu <;> simp[*]
   show p u=p (swp y x u)
   rw[Plain.swp_none (fun e=>by subst e;exact hal.2.1 hum) (fun e=>by subst e;exact hal.1.2 hum)]
 refine (h.ring c (by simp[hc])).swp_none (fun q=>?_) (fun q=>?_)
 ·exact hnd.2.2 y (by simp) y (List.mem_flatten.2 ⟨c,hc,q⟩) rfl
 exact hnd.2.2 x (by simp) x (List.mem_flatten.2 ⟨c,hc,q⟩) rfl
theorem rings_le {p:Int→Int}:∀ {C:List (List Int)},(∀ c∈C,Ring p c)→C.length≤C.flatten.length
 | [],_=>by simp
 | c :: C,h=>by
  have h1:=rings_le (C:=C) fun d hd=>h d (by simp[hd])
  have h2:=h c (by simp)
  cases c with
  | nil=>exact absurd h2 (by simp[Ring])
  | cons x l=>simp only[List.flatten_cons,List.length_append,List.length_cons];omega
theorem lone_or:∀ (C:List (List Int)),(∀ c∈C,c≠[])→(∀ c∈C,c.length=1)∨∃ a b x y l,C=a++(x :: y :: l) :: b
 | [],_=>Or.inl (by simp)
 | c :: C,h=>by
  rcases lone_or C (fun d hd=>h d (by simp[hd])) with h1 | ⟨a,b,x,y,l,rfl⟩
  ·match c,h c (by simp) with
   | [x],_=>exact Or.inl (by simpa using h1)
   | x :: y :: l,_=>exact Or.inr ⟨[],C,x,y,l,rfl⟩
  exact Or.inr ⟨c :: a,b,x,y,l,rfl⟩
theorem lone_length:∀ {C:List (List Int)},(∀ c∈C,c.length=1)→C.flatten.length=C.length
 | [],_=>rfl
 | c :: C,h=>by
  rw[List.flatten_cons,List.length_append,h c (by simp),lone_length fun d hd=>h d (by simp[hd]),List.length_cons]
  omega
theorem Rings.mul (n:Nat):∀ {r a:Int→Int} {R A:List (List Int)},R.flatten.length - R.length=n→Rings r R→Rings a A→A.flatten.Perm R.flatten →
  ∃ C,Rings (fun x=>r (a x)) C∧C.flatten.Perm A.flatten∧(C.length+R.length+A.length) % 2=A.flatten.length % 2:=by
 induction n with
 | zero =>
  intro r a R A hn hR hA hp
  have hle:=rings_le hR.ring
  rcases lone_or R (fun c hc e=>by have:=hR.ring c hc;rw[e] at this;exact this) with h1 | ⟨u,v,x,y,l,rfl⟩
  ·refine⟨A,hA.congr fun x hx=>?_,List.Perm.refl _,?_⟩
   ·have hx2:=hp.mem_iff.1 (hA.next hx)
    obtain⟨c,hc,hxc⟩:=List.mem_flatten.1 hx2
    have hr:=hR.ring c hc
    match c,h1 c hc with
    | [z],_ =>
     have:a x=z:=by simpa using hxc
     rw[this]
     exact (show r z=z from hr).symm
   have:=hp.length_eq
   omega
  have h2:(u++v).length≤(u++v).flatten.length:=rings_le (p:=r) fun c hc=>hR.ring c (by rcases List.mem_append.1 hc with q | q <;> simp[q])
  simp only[List.length_append,List.flatten_append,List.flatten_cons,List.length_cons] at hn h2
  omega
 | succ n ih =>
  intro r a R A hn hR hA hp
  rcases lone_or R (fun c hc e=>by have:=hR.ring c hc;rw[e] at this;exact this) with h1 | ⟨u,v,x,y,l,rfl⟩
  ·have:=lone_length h1
   omega
  have hpm:(u++(x :: y :: l) :: v).Perm ((x :: y :: l) :: (u++v)):=List.perm_middle
  have hR':=hR.perm hpm
  have hcut:=hR'.cut
  have hf1:=hpm.flatten
  have hxy:y≠x:=by
   have:=hR'.nodup
   simp only[List.flatten_cons,List.cons_append,List.nodup_cons,List.mem_cons,not_or] at this
   exact fun e=>this.1.1 e.symm
  obtain⟨A',hA',hpA,hlA⟩:=hA.swap' (a:=y) (b:=x) (hp.mem_iff.2 (hf1.mem_iff.2 (by simp))) (hp.mem_iff.2 (hf1.mem_iff.2 (by simp))) hxy
  have hp2:A'.flatten.Perm ([y] :: (x :: l) :: (u++v)).flatten:=by
   refine (hpA.trans (hp.trans hf1)).trans ?_
   simp only[List.flatten_cons,List.cons_append,List.nil_append]
   exact List.Perm.swap _ _ _
  have hlen1:=hp.length_eq
  have hlen2:=hpA.length_eq
  have hlen3:=hp2.length_eq
  obtain⟨C,hC,hpC,hmod⟩:=ih (R:=[y] :: (x :: l) :: (u++v)) (A:=A') (by
   simp only[List.length_append,List.flatten_append,List.flatten_cons,List.length_cons,List.length_nil] at hn ⊢
   omega) hcut hA' hp2
  refine⟨C,hC.congr fun z _=>?_,hpC.trans hpA,?_⟩
  ·show r (swp y x (swp y x (a z)))=r (a z)
   rw[swp_swp]
  simp only[List.length_append,List.length_cons] at hmod ⊢
  omega
structure Gr where
 n:Int
 e:List (Int × Int)
structure Pt where
 v:List Int
 e:List Int
def Gr.ends (g:Gr) (i:Nat):Int × Int:=g.e.getD i (0,0)
def Gr.at (g:Gr) (i:Int):Int × Int:=g.ends i.toNat
def Gr.okEdge (g:Gr) (i:Nat):Bool:=!(decide ((g.ends i).1<0) || decide (g.n≤(g.ends i).1) || decide ((g.ends i).2<0) || decide (g.n≤(g.ends i).2))
def Gr.err (g:Gr):Int:=if g.n<0 then 3 else if 1024<g.n∨1024 - g.n<(g.e.length:Int) then 2 else if (List.range g.e.length).all g.okEdge then 0 else 3
def risesAt (l:List Int) (n:Int) (i:Nat):Bool:=!(decide (l.getD i 0<0) || decide (n≤l.getD i 0) || (decide (0<i)&&decide (l.getD i 0≤l.getD (i - 1) 0)))
def rises (l:List Int) (n:Int):Bool:=(List.range l.length).all (risesAt l n)
def Pt.okEdge (g:Gr) (p:Pt) (i:Nat):Bool:=decide ((g.ends (p.e.getD i 0).toNat).1∈p.v)&&decide ((g.ends (p.e.getD i 0).toNat).2∈p.v)
def Pt.err (g:Gr) (p:Pt):Int:=if g.err≠0 then g.err else if !(rises p.v g.n&&rises p.e g.e.length) then 4 else if (List.range p.e.length).all (p.okEdge g) then 0 else 4
theorem all_range_succ (p:Nat→Bool) (k:Nat):(List.range (k+1)).all p=((List.range k).all p&&p k):=by
 rw[List.range_succ,List.all_append]
 simp
theorem all_range_false {p:Nat→Bool} {k n:Nat} (hk:k<n) (h:p k=false):(List.range n).all p=false:=by
 rw[List.all_eq_false]
 exact⟨k,List.mem_range.2 hk,by rw[h];decide⟩
theorem Gr.err_ok {g:Gr} (h:g.err=0):0≤g.n∧g.n≤1024∧(g.e.length:Int)≤1024 - g.n∧∀ i,i<g.e.length→0≤(g.ends i).1∧(g.ends i).1<g.n∧0≤(g.ends i).2∧(g.ends i).2<g.n:=by
 unfold Gr.err at h
 split at h
 ·simp at h
 split at h
 ·simp at h
 split at h
 ·rename_i h1 h2 h3
  refine⟨by omega,by omega,by omega,fun i hi=>?_⟩
  have:=List.all_eq_true.1 h3 i (List.mem_range.2 hi)
  simp only[Gr.okEdge,Bool.not_eq_true',Bool.or_eq_false_iff,decide_eq_false_iff_not] at this
  omega
 simp at h
theorem rises_at {l:List Int} {n:Int} (h:rises l n=true) {i:Nat} (hi:i<l.length):0≤l.getD i 0∧l.getD i 0<n∧(0<i→l.getD (i - 1) 0<l.getD i 0):=by
 have:=List.all_eq_true.1 h i (List.mem_range.2 hi)
 simp only[risesAt,Bool.not_eq_true',Bool.or_eq_false_iff,Bool.and_eq_false_iff,decide_eq_false_iff_not] at this
 omega
theorem rises_lt {l:List Int} {n:Int} (h:rises l n=true) {i j:Nat} (hij:i<j) (hj:j<l.length):l.getD i 0<l.getD j 0:=by
 induction j with
 | zero=>omega
 | succ j ih =>
  have h1:=(rises_at h hj).2.2 (by omega)
  simp only[Nat.add_sub_cancel] at h1
  by_cases e:i=j
  ·subst e;exact h1
  have:=ih (by omega) (by omega);omega
theorem rises_pair {l:List Int} {n:Int} (h:rises l n=true):l.Pairwise (·<·):=by
 rw[List.pairwise_iff_getElem]
 intro i j hi hj hij
 have:=rises_lt h hij hj
 simpa[List.getD,hi,hj] using this
theorem rises_nodup {l:List Int} {n:Int} (h:rises l n=true):l.Nodup:=by
 refine (rises_pair h).imp ?_
 intro a b hab e
 omega
theorem Pt.err_ok {g:Gr} {p:Pt} (h:p.err g=0):g.err=0∧rises p.v g.n=true∧rises p.e g.e.length=true∧∀ i,i<p.e.length→(g.ends (p.e.getD i 0).toNat).1∈p.v∧(g.ends (p.e.getD i 0).toNat).2∈p.v:=by
 unfold Pt.err at h
 split at h
 ·rename_i h1;exact absurd h h1
 rename_i h1
 split at h
 ·simp at h
 rename_i h2
 split at h
 ·rename_i h3
  simp only[Bool.not_eq_true',Bool.and_eq_false_iff,not_or,Bool.not_eq_false] at h2
  refine⟨by simpa using h1,h2.1,h2.2,fun i hi=>?_⟩
  have:=List.all_eq_true.1 h3 i (List.mem_range.2 hi)
  simpa[Pt.okEdge] using this
 simp at h
def Near (g:Gr) (p:Pt) (u w:Int):Prop:=∃ e∈p.e,(g.at e=(u,w)∨g.at e=(w,u))
theorem Near.symm {g:Gr} {p:Pt} {u w:Int} (h:Near g p u w):Near g p w u:=by
 obtain⟨e,he,h⟩:=h
 exact⟨e,he,h.symm⟩
inductive Come (g:Gr) (p:Pt) (shut:Int) (a:Int):Int→Prop
 | here:Come g p shut a a
 | step {u w:Int}:Come g p shut a u→Near g p u w→w≠shut→Come g p shut a w
theorem Come.trans {g:Gr} {p:Pt} {s a b c:Int} (h:Come g p s a b) (k:Come g p s b c):Come g p s a c:=by
 induction k with
 | here=>exact h
 | step _ hn hs ih=>exact ih.step hn hs
theorem Come.symm {g:Gr} {p:Pt} {s a b:Int} (ha:a≠s) (h:Come g p s a b):b≠s∧Come g p s b a:=by
 induction h with
 | here=>exact⟨ha,.here⟩
 | step h1 hn hs ih=>exact⟨hs,Come.trans (Come.step .here hn.symm ih.1) ih.2⟩
noncomputable def comp (g:Gr) (p:Pt) (a:Int):List Int:=by
 classical
 exact p.v.filter fun u=>decide (Come g p (-1) a u)
open Classical in
theorem mem_comp {g:Gr} {p:Pt} {a u:Int}:u∈comp g p a↔u∈p.v∧Come g p (-1) a u:=by
 unfold comp
 simp
def Pt.sub (g:Gr) (p:Pt) (l:List Int):Pt:=⟨p.v.filter fun v=>decide (v∈l),p.e.filter fun e=>decide ((g.at e).1∈l)&&decide ((g.at e).2∈l)⟩
noncomputable def roots (g:Gr) (p:Pt):List Int:=by
 classical
 exact p.v.filter fun v=>decide (∀ u∈p.v,Come g p (-1) v u→v≤u)
open Classical in
theorem mem_roots {g:Gr} {p:Pt} {v:Int}:v∈roots g p↔v∈p.v∧∀ u∈p.v,Come g p (-1) v u→v≤u:=by
 unfold roots
 simp
theorem exists_least:∀ {l:List Int},l≠[]→∃ a∈l,∀ b∈l,a≤b
 | [],h=>absurd rfl h
 | [x],_=>⟨x,by simp,by simp⟩
 | x :: y :: l,_=>by
  obtain⟨a,ha,hl⟩:=exists_least (l:=y :: l) (by simp)
  by_cases q:x≤a
  ·exact⟨x,by simp,fun b hb=>by rcases List.mem_cons.1 hb with rfl | hb;omega;have:=hl b hb;omega⟩
  exact⟨a,List.mem_cons_of_mem _ ha,fun b hb=>by rcases List.mem_cons.1 hb with rfl | hb;omega;exact hl b hb⟩
theorem root_of {g:Gr} {p:Pt} (hv:∀ v∈p.v,0≤v) {u:Int} (hu:u∈p.v):∃ r∈roots g p,Come g p (-1) r u:=by
 obtain⟨r,hr,hl⟩:=exists_least (l:=comp g p u) (fun e=>by have:u∈comp g p u:=mem_comp.2 ⟨hu,.here⟩;rw[e] at this;simp at this)
 obtain⟨hr1,hr2⟩:=mem_comp.1 hr
 have hsy:=(hr2.symm (by have:=hv u hu;omega)).2
 exact⟨r,mem_roots.2 ⟨hr1,fun x hx hc=>hl x (mem_comp.2 ⟨hx,hr2.trans hc⟩)⟩,hsy⟩
theorem root_one {g:Gr} {p:Pt} (hv:∀ v∈p.v,0≤v) {u r r':Int} (hr:r∈roots g p) (hr':r'∈roots g p) (h:Come g p (-1) r u) (h':Come g p (-1) r' u):r=r':=by
 obtain⟨h1,h2⟩:=mem_roots.1 hr
 obtain⟨k1,k2⟩:=mem_roots.1 hr'
 have e1:=h2 r' k1 (h.trans (h'.symm (by have:=hv r' k1;omega)).2)
 have e2:=k2 r h1 (h'.trans (h.symm (by have:=hv r h1;omega)).2)
 omega
theorem sum_one {β:Type} (f:β→Bool):∀ {R:List β},R.Nodup→(∃ r∈R,f r=true)→(∀ r∈R,∀ s∈R,f r=true→f s=true→r=s)→(R.map fun r=>if f r then 1 else 0).sum=1
 | [],_,h,_=>by obtain⟨r,hr,_⟩:=h;simp at hr
 | a :: R,hn,h,hu=>by
  rw[List.nodup_cons] at hn
  rw[List.map_cons,List.sum_cons]
  by_cases ha:f a=true
  ·rw[if_pos ha]
   have:(R.map fun r=>if f r then 1 else 0).sum=0:=by
    have hz:∀ r∈R,f r=false:=fun r hr=>by
     cases q:f r with
     | false=>rfl
     | true=>exact absurd hr (fun hr=>hn.1 (by rw[hu a (by simp) r (by simp[hr]) ha q];exact hr))
    have e:(R.map fun r=>if f r then 1 else 0)=R.map fun _=>0:=List.map_congr_left fun r hr=>by rw[hz r hr];rfl
    rw[e]
    clear e hz hu h hn
    induction R with
    | nil=>rfl
    | cons _ _ ih=>rw[List.map_cons,List.sum_cons,ih]
   rw[this]
  rw[if_neg ha,Nat.zero_add]
  obtain⟨r,hr,hf⟩:=h
  refine sum_one f hn.2 ⟨r,?_,hf⟩ (fun r hr s hs=>hu r (by simp[hr]) s (by simp[hs]))
  rcases List.mem_cons.1 hr with rfl | q
  ·exact absurd hf ha
  exact q
theorem sum_add {β:Type} (f g:β→Nat):∀ R:List β,(R.map fun r=>f r+g r).sum=(R.map f).sum+(R.map g).sum
 | []=>rfl
 | a :: R=>by simp only[List.map_cons,List.sum_cons,sum_add f g R];omega
theorem sum_classes {α β:Type} (f:α→β→Bool) {R:List β} (hn:R.Nodup):∀ {L:List α},(∀ x∈L,(∃ r∈R,f x r=true)∧∀ r∈R,∀ s∈R,f x r=true→f x s=true→r=s)→(R.map fun r=>(L.filter fun x=>f x r).length).sum=L.length
 | [],_=>by
  clear hn
  induction R with
  | nil=>rfl
  | cons _ _ ih=>simpa using ih
 | x :: L,h=>by
  have e:(R.map fun r=>((x :: L).filter fun x=>f x r).length)=R.map fun r=>(if f x r then 1 else 0)+(L.filter fun x=>f x r).length:=by
   refine List.map_congr_left fun r _=>?_
   rw[List.filter_cons]
   split <;> simp <;> omega
  rw[e,sum_add,sum_one (f x) hn (h x (by simp)).1 (h x (by simp)).2,sum_classes f hn fun y hy=>h y (by simp[hy])]
  simp
  omega
def twin (d:Int):Int:=if d % 2=0 then d+1 else d - 1
def Gr.tail (g:Gr) (d:Int):Int:=if d % 2=0 then (g.at (d / 2)).1 else (g.at (d / 2)).2
def Gr.head (g:Gr) (d:Int):Int:=if d % 2=0 then (g.at (d / 2)).2 else (g.at (d / 2)).1
def Pt.darts (p:Pt):List Int:=p.e.flatMap fun e=>[2*e,2*e+1]
theorem twin_twin (d:Int):twin (twin d)=d:=by unfold twin;split <;> split <;> omega
theorem twin_div (d:Int):twin d / 2=d / 2:=by unfold twin;split <;> omega
theorem tail_twin (g:Gr) (d:Int):g.tail (twin d)=g.head d:=by
 unfold Gr.tail Gr.head
 rw[twin_div]
 unfold twin
 split
 ·rw[if_neg (by omega)]
 rw[if_pos (by omega)]
theorem mem_darts {p:Pt} {d:Int}:d∈p.darts↔d / 2∈p.e:=by
 unfold Pt.darts
 simp only[List.mem_flatMap,List.mem_cons,List.not_mem_nil,or_false]
 constructor
 ·rintro ⟨e,he,rfl | rfl⟩
  ·rwa[show 2*e / 2=e by omega]
  rwa[show (2*e+1) / 2=e by omega]
 intro h
 exact⟨d / 2,h,by omega⟩
theorem twin_mem {p:Pt} {d:Int} (h:d∈p.darts):twin d∈p.darts:=by rw[mem_darts] at *;rwa[twin_div]
theorem darts_nodup {p:Pt} (h:p.e.Nodup):p.darts.Nodup:=by
 unfold Pt.darts
 generalize p.e=l at *
 induction l with
 | nil=>simp
 | cons e l ih =>
  rw[List.nodup_cons] at h
  rw[List.flatMap_cons,List.nodup_append]
  refine⟨by simp;omega,ih h.2,fun a ha b hb=>?_⟩
  have hb':b / 2∈l:=mem_darts (p:=⟨[],l⟩).1 hb
  rintro rfl
  have:a / 2=e:=by simp at ha;omega
  exact h.1 (this ▸ hb')
theorem darts_length (p:Pt):p.darts.length=2*p.e.length:=by
 unfold Pt.darts
 generalize p.e=l
 induction l with
 | nil=>rfl
 | cons e l ih=>rw[List.flatMap_cons,List.length_append,ih];simp;omega
theorem twin_rings {p:Pt} (h:p.e.Nodup):Rings twin (p.e.map fun e=>[2*e,2*e+1]):=by
 refine⟨fun c hc=>?_,?_⟩
 ·obtain⟨e,_,rfl⟩:=List.mem_map.1 hc
  show twin (2*e)=2*e+1∧twin (2*e+1)=2*e
  unfold twin
  rw[if_pos (by omega),if_neg (by omega)]
  omega
 have:=darts_nodup h
 rwa[Pt.darts,List.flatMap_def] at this
def ahead (l:List Int) (x:Int):Int:=l.getD ((l.idxOf x+l.length - 1) % l.length) 0
def behind (l:List Int) (x:Int):Int:=l.getD ((l.idxOf x+1) % l.length) 0
theorem trail_of {p:Int→Int} {z:Int}:∀ {l:List Int} {x:Int},(∀ i,i<l.length→p ((x :: l).getD i 0)=(x :: l).getD (i+1) 0)→p ((x :: l).getD l.length 0)=z→Trail p x l z
 | [],x,_,h=>by show p x=z;simpa using h
 | y :: l,x,h,hz=>by
  refine⟨by simpa using h 0 (by simp),trail_of (fun i hi=>?_) (by simpa using hz)⟩
  have:=h (i+1) (by simpa using hi)
  simpa using this
theorem idxOf_at {l:List Int} (hn:l.Nodup) {i:Nat} (hi:i<l.length):l.idxOf (l.getD i 0)=i:=by
 have e:l.getD i 0=l[i]:=by simp[List.getD,hi]
 rw[e]
 have h1:l.idxOf l[i]<l.length:=List.idxOf_lt_length_iff.2 (List.getElem_mem hi)
 have h2:l[l.idxOf l[i]]=l[i]:=List.getElem_idxOf h1
 exact (List.getElem_inj hn).1 h2
theorem getD_reverse (l:List Int) (i:Nat) (hi:i<l.length):l.reverse.getD i 0=l.getD (l.length - 1 - i) 0:=by
 simp[List.getD,hi,show l.length - 1 - i<l.length by omega]
theorem ahead_ring {l:List Int} (hn:l.Nodup) (h0:l≠[]):Ring (ahead l) l.reverse:=by
 have hl:0<l.length:=List.length_pos_iff.2 h0
 have key:∀ i,i<l.length→ahead l (l.reverse.getD i 0)=l.reverse.getD (if i+1=l.length then 0 else i+1) 0:=by
  intro i hi
  have e1:ahead l (l.reverse.getD i 0)=l.getD ((l.length - 1 - i+l.length - 1) % l.length) 0:=by
   rw[getD_reverse l i hi]
   unfold ahead
   rw[idxOf_at hn (by omega)]
  rw[e1]
  split
  ·rename_i h
   rw[getD_reverse l 0 hl]
   congr 1
   rw[show l.length - 1 - i+l.length - 1=l.length - 1 by omega,Nat.mod_eq_of_lt (by omega)]
   omega
  rename_i h
  rw[getD_reverse l (i+1) (by omega)]
  congr 1
  rw[show l.length - 1 - i+l.length - 1=(l.length - 1 - (i+1))+l.length by omega,Nat.add_mod_right,Nat.mod_eq_of_lt (by omega)]
 have hlen:l.reverse.length=l.length:=by simp
 generalize l.reverse=r at *
 cases r with
 | nil=>simp at hlen;omega
 | cons x r =>
  simp only[List.length_cons] at hlen
  refine trail_of (fun i hi=>?_) ?_
  ·rw[key i (by omega),if_neg (by omega)]
  rw[key r.length (by omega),if_pos (by omega)]
  rfl
def turnAt (turn:List (List Int)) (v:Int):List Int:=turn.getD v.toNat []
structure TurnsOk (g:Gr) (p:Pt) (turn:List (List Int)):Prop where
 len:(turn.length:Int)=g.n
 nodup:∀ v,(turnAt turn v).Nodup
 mem:∀ v,0≤v→v<g.n→∀ d,d∈turnAt turn v↔d∈p.darts∧g.tail d=v
def before (g:Gr) (turn:List (List Int)) (d:Int):Int:=ahead (turnAt turn (g.tail d)) d
def nextDart (g:Gr) (turn:List (List Int)) (d:Int):Int:=before g turn (twin d)
def leaving (g:Gr) (p:Pt) (U:List Int):List Int:=p.darts.filter fun d=>decide (g.tail d∈U)
def busy (turn:List (List Int)) (U:List Int):List Int:=U.filter fun v=>!(turnAt turn v).isEmpty
theorem before_rings {g:Gr} {p:Pt} {turn:List (List Int)} (h:TurnsOk g p turn) (hp:p.e.Nodup) {U:List Int} (hU:U.Nodup) (hn:∀ v∈U,0≤v∧v<g.n) :
  Rings (before g turn) ((busy turn U).map fun v=>(turnAt turn v).reverse)∧((busy turn U).map fun v=>(turnAt turn v).reverse).flatten.Perm (leaving g p U):=by
 have hB:(busy turn U).Nodup:=List.Pairwise.filter _ hU
 have hBU:∀ v∈busy turn U,v∈U∧turnAt turn v≠[]:=by
  intro v hv
  have:=List.mem_filter.1 hv
  refine⟨this.1,fun e=>?_⟩
  have h2:=this.2
  rw[e] at h2
  simp at h2
 have hnd:∀ {B:List Int},B.Nodup→(∀ v∈B,v∈U)→(B.map fun v=>(turnAt turn v).reverse).flatten.Nodup:=by
  intro B
  induction B with
  | nil=>intro _ _;simp
  | cons v B ih =>
   intro hB hs
   rw[List.nodup_cons] at hB
   rw[List.map_cons,List.flatten_cons,List.nodup_append]
   refine⟨(List.reverse_perm _).nodup_iff.2 (h.nodup v),ih hB.2 (fun u hu=>hs u (by simp[hu])),fun a ha b hb=>?_⟩
   rintro rfl
   have ha:=List.mem_reverse.1 ha
   obtain⟨l,hl,hbl⟩:=List.mem_flatten.1 hb
   obtain⟨u,hu,rfl⟩:=List.mem_map.1 hl
   have hv:=hn v (hs v (by simp))
   have hu':=hn u (hs u (by simp[hu]))
   have e1:=((h.mem v hv.1 hv.2 a).1 ha).2
   have e2:=((h.mem u hu'.1 hu'.2 a).1 (List.mem_reverse.1 hbl)).2
   exact hB.1 (by rw[←e1,e2];exact hu)
 have hnodup:=hnd hB (fun v hv=>(hBU v hv).1)
 refine⟨⟨fun c hc=>?_,hnodup⟩,?_⟩
 ·obtain⟨v,hv,rfl⟩:=List.mem_map.1 hc
  have hv':=hn v (hBU v hv).1
  refine (ahead_ring (h.nodup v) (hBU v hv).2).congr fun x hx=>?_
  have:=((h.mem v hv'.1 hv'.2 x).1 (List.mem_reverse.1 hx)).2
  show ahead (turnAt turn v) x=ahead (turnAt turn (g.tail x)) x
  rw[this]
 refine (List.perm_ext_iff_of_nodup hnodup ((darts_nodup hp).filter _)).2 fun d=>?_
 constructor
 ·intro hd
  obtain⟨l,hl,hdl⟩:=List.mem_flatten.1 hd
  obtain⟨v,hv,rfl⟩:=List.mem_map.1 hl
  have hv':=hn v (hBU v hv).1
  obtain⟨h1,h2⟩:=(h.mem v hv'.1 hv'.2 d).1 (List.mem_reverse.1 hdl)
  exact List.mem_filter.2 ⟨h1,by rw[h2];simpa using (hBU v hv).1⟩
 intro hd
 obtain⟨h1,h2⟩:=List.mem_filter.1 hd
 have h2:g.tail d∈U:=by simpa using h2
 have hv':=hn _ h2
 have hdt:=(h.mem _ hv'.1 hv'.2 d).2 ⟨h1,rfl⟩
 refine List.mem_flatten.2 ⟨_,List.mem_map.2 ⟨g.tail d,List.mem_filter.2 ⟨h2,?_⟩,rfl⟩,List.mem_reverse.2 hdt⟩
 cases hq:turnAt turn (g.tail d) with
 | nil=>rw[hq] at hdt;simp at hdt
 | cons _ _=>simp
abbrev Face:=Int × List Int
structure FacesOk (g:Gr) (p:Pt) (turn:List (List Int)) (W:List Face):Prop where
 rings:Rings (nextDart g turn) ((W.filter fun f=>!f.2.isEmpty).map (·.2))
 all:((W.filter fun f=>!f.2.isEmpty).map (·.2)).flatten.Perm p.darts
 key:∀ f∈W,∀ d l,f.2=d :: l→f.1=d
 lone:((W.filter fun f=>f.2.isEmpty).map (·.1)).Perm ((p.v.filter fun v=>(turnAt turn v).isEmpty).map fun v=>-1 - v)
def Face.corner (g:Gr) (f:Face):Int:=match f.2 with | []=>-1 - f.1 | _ :: _=>g.tail f.1
def Closed (g:Gr) (p:Pt) (U:List Int):Prop:=∀ d∈p.darts,g.tail d∈U→g.head d∈U
theorem next_tail {g:Gr} {p:Pt} {turn:List (List Int)} (h:TurnsOk g p turn) (hd0:∀ d∈p.darts,0≤g.tail d∧g.tail d<g.n) {d:Int} (hd:d∈p.darts):nextDart g turn d∈p.darts∧g.tail (nextDart g turn d)=g.head d:=by
 have ht:=twin_mem hd
 have hv:=hd0 _ ht
 have hm:=(h.mem _ hv.1 hv.2 (twin d)).2 ⟨ht,rfl⟩
 have hlen:0<(turnAt turn (g.tail (twin d))).length:=by
  cases hq:turnAt turn (g.tail (twin d)) with
  | nil=>rw[hq] at hm;simp at hm
  | cons _ _=>simp
 have hin:nextDart g turn d∈turnAt turn (g.tail (twin d)):=by
  unfold nextDart before ahead
  have:=Nat.mod_lt ((turnAt turn (g.tail (twin d))).idxOf (twin d)+(turnAt turn (g.tail (twin d))).length - 1) hlen
  simp[List.getD,this]
 obtain⟨h1,h2⟩:=(h.mem _ hv.1 hv.2 _).1 hin
 exact⟨h1,by rw[h2,tail_twin]⟩
theorem flatten_filter_perm {C:List (List Int)} {D:List Int} {f:Int→Bool} (hp:C.flatten.Perm D) (hf:∀ c∈C,∀ x∈c,∀ y∈c,f x=f y) (hne:∀ c∈C,c≠[]) :
  ((C.filter fun c=>f (c.headD 0)).flatten).Perm (D.filter f):=by
 refine List.Perm.trans (List.Perm.of_eq ?_) (hp.filter f)
 clear hp
 induction C with
 | nil=>rfl
 | cons c C ih =>
  have ih:=ih (fun d hd=>hf d (by simp[hd])) (fun d hd=>hne d (by simp[hd]))
  rw[List.flatten_cons (L:=C),List.filter_append,←ih]
  have hc:=hf c (by simp)
  have hn:=hne c (by simp)
  cases c with
  | nil=>exact absurd rfl hn
  | cons x l =>
   by_cases hx:f x=true
   ·rw[List.filter_cons_of_pos (p:=fun c:List Int=>f (c.headD 0)) (a:=x :: l) (l:=C) (show (fun c:List Int=>f (c.headD 0)) (x :: l)=true from hx),List.flatten_cons,(List.filter_eq_self (p:=f) (l:=x :: l)).2 (fun y hy=>by rw[hc y hy x (by simp)];exact hx)]
   rw[List.filter_cons_of_neg (p:=fun c:List Int=>f (c.headD 0)) (a:=x :: l) (l:=C) (show ¬ (fun c:List Int=>f (c.headD 0)) (x :: l)=true from hx),(List.filter_eq_nil_iff (p:=f) (l:=x :: l)).2 (fun y hy=>by rw[hc y hy x (by simp)];exact hx)]
   rfl
theorem trail_const {p:Int→Int} {f:Int→Bool} {z:Int}:∀ {l:List Int} {x:Int},Trail p x l z→(∀ y∈x :: l,f (p y)=f y)→∀ y∈x :: l,f y=f x
 | [],x,_,_,y,hy=>by simp at hy;rw[hy]
 | a :: l,x,h,hf,y,hy=>by
  have e:f a=f x:=by rw[←h.1];exact hf x (by simp)
  rcases List.mem_cons.1 hy with rfl | hy
  ·rfl
  rw[←e]
  exact trail_const h.2 (fun u hu=>hf u (List.mem_cons_of_mem _ hu)) y hy
theorem ring_const {p:Int→Int} {f:Int→Bool} {c:List Int} (h:Ring p c) (hf:∀ y∈c,f (p y)=f y):∀ x∈c,∀ y∈c,f x=f y:=by
 cases c with
 | nil=>simp
 | cons a l=>exact fun x hx y hy=>(trail_const (show Trail p a l a from h) hf x hx).trans (trail_const (show Trail p a l a from h) hf y hy).symm
theorem closed_back {g:Gr} {p:Pt} {U:List Int} (hC:Closed g p U) {d:Int} (hd:d∈p.darts):g.head d∈U↔g.tail d∈U:=by
 refine⟨fun h=>?_,hC d hd⟩
 have h2:=hC (twin d) (twin_mem hd) (by rw[tail_twin];exact h)
 rwa[←tail_twin,twin_twin] at h2
theorem split_faces {g:Gr}:∀ {W:List Face},(∀ f∈W,∀ d l,f.2=d :: l→f.1=d)→∀ U:List Int,
  (W.filter fun f=>decide (f.corner g∈U)).length=(((W.filter fun f=>!f.2.isEmpty).map (·.2)).filter fun c=>decide (g.tail (c.headD 0)∈U)).length+((W.filter fun f=>f.2.isEmpty).map (·.1)).countP fun k=>decide (-1 - k∈U)
 | [],_,_=>rfl
 | (k,[]) :: W,hk,U=>by
  have ih:=split_faces (g:=g) (W:=W) (fun f hf=>hk f (by simp[hf])) U
  rw[List.filter_cons_of_neg (p:=fun f:Face=>!f.2.isEmpty) (by simp),List.filter_cons_of_pos (p:=fun f:Face=>f.2.isEmpty) (by simp),List.map_cons,List.countP_cons]
  by_cases q:-1 - k∈U
  ·rw[List.filter_cons_of_pos (p:=fun f:Face=>decide (f.corner g∈U)) (show decide (Face.corner g (k,[])∈U)=true from decide_eq_true q),List.length_cons,ih]
   simp only[q,decide_true,if_true]
   omega
  rw[List.filter_cons_of_neg (p:=fun f:Face=>decide (f.corner g∈U)) (Bool.eq_false_iff.1 (show decide (Face.corner g (k,[])∈U)=false from decide_eq_false q)),ih]
  simp only[q,decide_false,if_false,Bool.false_eq_true]
  omega
 | (k,d :: l) :: W,hk,U=>by
  have ih:=split_faces (g:=g) (W:=W) (fun f hf=>hk f (by simp[hf])) U
  have e:k=d:=hk (k,d :: l) (by simp) d l rfl
  subst e
  rw[List.filter_cons_of_pos (p:=fun f:Face=>!f.2.isEmpty) (by simp),List.filter_cons_of_neg (p:=fun f:Face=>f.2.isEmpty) (by simp),List.map_cons]
  by_cases q:g.tail k∈U
  ·rw[List.filter_cons_of_pos (p:=fun f:Face=>decide (f.corner g∈U)) (show decide (Face.corner g (k,k :: l)∈U)=true from decide_eq_true q),List.filter_cons_of_pos (p:=fun c:List Int=>decide (g.tail (c.headD 0)∈U)) (by simpa using q),List.length_cons,List.length_cons,ih]
   omega
  rw[List.filter_cons_of_neg (p:=fun f:Face=>decide (f.corner g∈U)) (Bool.eq_false_iff.1 (show decide (Face.corner g (k,k :: l)∈U)=false from decide_eq_false q)),List.filter_cons_of_neg (p:=fun c:List Int=>decide (g.tail (c.headD 0)∈U)) (by simpa using q),ih]
theorem piece_even {g:Gr} {p:Pt} {turn:List (List Int)} {W:List Face} (h:TurnsOk g p turn) (hp:p.e.Nodup) (hv:p.v.Nodup) (hd0:∀ d∈p.darts,0≤g.tail d∧g.tail d<g.n) (hW:FacesOk g p turn W)
  {U:List Int} (hU:U.Nodup) (hUV:∀ v∈U,v∈p.v∧0≤v∧v<g.n) (hC:Closed g p U) :
  (U.length+(p.e.filter fun e=>decide (g.tail (2*e)∈U)).length+(W.filter fun f=>decide (f.corner g∈U)).length) % 2=0:=by
 obtain⟨hR,hRp⟩:=before_rings h hp hU (fun v hv=>(hUV v hv).2)
 have hEn:(p.e.filter fun e=>decide (g.tail (2*e)∈U)).Nodup:=List.Pairwise.filter _ hp
 have hA:=twin_rings (p:=⟨U,p.e.filter fun e=>decide (g.tail (2*e)∈U)⟩) hEn
 have hAd:((p.e.filter fun e=>decide (g.tail (2*e)∈U)).map fun e=>[2*e,2*e+1]).flatten=Pt.darts ⟨U,p.e.filter fun e=>decide (g.tail (2*e)∈U)⟩:=by rw[Pt.darts,List.flatMap_def]
 have hAp:Pt.darts ⟨U,p.e.filter fun e=>decide (g.tail (2*e)∈U)⟩ |>.Perm (leaving g p U):=by
  refine (List.perm_ext_iff_of_nodup (darts_nodup hEn) ((darts_nodup hp).filter _)).2 fun d=>?_
  show _↔d∈p.darts.filter fun d=>decide (g.tail d∈U)
  rw[mem_darts]
  simp only[List.mem_filter,decide_eq_true_eq,mem_darts]
  refine and_congr_right fun hd=>?_
  by_cases hm:d % 2=0
  ·rw[show 2*(d / 2)=d by omega]
  have e:2*(d / 2)=twin d:=by unfold twin;rw[if_neg hm];omega
  rw[e,tail_twin]
  exact closed_back hC (mem_darts.2 hd)
 obtain⟨C,hCr,hCp,hmod⟩:=Rings.mul _ rfl hR hA (by rw[hAd];exact hAp.trans hRp.symm)
 have hCp2:C.flatten.Perm (leaving g p U):=by rw[hAd] at hCp;exact hCp.trans hAp
 -- the walks of U
 have hWr:=hW.rings
 have hmem:∀ c∈(W.filter fun f=>!f.2.isEmpty).map (·.2),∀ x∈c,x∈p.darts:=fun c hc x hx=>hW.all.mem_iff.1 (List.mem_flatten.2 ⟨c,hc,hx⟩)
 have hconst:∀ c∈(W.filter fun f=>!f.2.isEmpty).map (·.2),∀ x∈c,∀ y∈c,decide (g.tail x∈U)=decide (g.tail y∈U):=by
  intro c hc
  refine ring_const (f:=fun d=>decide (g.tail d∈U)) (hWr.ring c hc) fun y hy=>?_
  have hy':=hmem c hc y hy
  have h2:=(next_tail h hd0 hy').2
  simp only[h2,closed_back hC hy']
 have hne:∀ c∈(W.filter fun f=>!f.2.isEmpty).map (·.2),c≠[]:=by
  intro c hc e
  have:=hWr.ring c hc
  rw[e] at this
  exact this
 have hWp:=flatten_filter_perm (f:=fun d=>decide (g.tail d∈U)) hW.all hconst hne
 have hWU:Rings (nextDart g turn) (((W.filter fun f=>!f.2.isEmpty).map (·.2)).filter fun c=>decide (g.tail (c.headD 0)∈U)) :=
  ⟨fun c hc=>hWr.ring c (List.mem_filter.1 hc).1,hWp.nodup_iff.2 ((darts_nodup hp).filter _)⟩
 have hcount:=Rings.count hWU (hCr.congr fun _ _=>rfl) (hWp.trans hCp2.symm)
 -- the lone ones
 have hlone:=hW.lone.countP_eq fun k=>decide (-1 - k∈U)
 have hsplit:(W.filter fun f=>decide (f.corner g∈U)).length=(((W.filter fun f=>!f.2.isEmpty).map (·.2)).filter fun c=>decide (g.tail (c.headD 0)∈U)).length+((W.filter fun f=>f.2.isEmpty).map (·.1)).countP fun k=>decide (-1 - k∈U):=by
  exact split_faces hW.key U
 have hiso:((p.v.filter fun v=>(turnAt turn v).isEmpty).map fun v=>-1 - v).countP (fun k=>decide (-1 - k∈U))=(U.filter fun v=>(turnAt turn v).isEmpty).length:=by
  rw[List.countP_map,List.countP_eq_length_filter]
  refine List.Perm.length_eq ?_
  refine (List.perm_ext_iff_of_nodup ((hv.filter _).filter _) (hU.filter _)).2 fun v=>?_
  simp only[List.mem_filter,Function.comp,decide_eq_true_eq]
  rw[show -1 - (-1 - v)=v by omega]
  exact⟨fun hh=>⟨hh.2,hh.1.2⟩,fun hh=>⟨⟨(hUV v hh.1).1,hh.2⟩,hh.1⟩⟩
 have hUl:U.length=(busy turn U).length+(U.filter fun v=>(turnAt turn v).isEmpty).length:=by
  unfold busy
  clear hC hRp hR hAp hAd hA hCp2 hCp hmod hCr hWp hWU hcount hconst hsplit hlone hiso hEn hUV hU
  induction U with
  | nil=>rfl
  | cons v U ih =>
   simp only[List.filter_cons,List.length_cons]
   cases (turnAt turn v).isEmpty <;> simp <;> omega
 have hdl:=darts_length ⟨U,p.e.filter fun e=>decide (g.tail (2*e)∈U)⟩
 rw[hAd] at hmod
 simp only[List.length_map] at hmod hdl
 rw[hsplit,hlone,hiso,hcount]
 omega
end Go.Proofs.Ytbkjljffnkdcjaa.Plain
