/- Beside one side of a ui ah that qa together don't cross. No program here. -/
import Derived.Test.YtbkjljffnkdcjaaGreatD9Sm12
open List renaming mem_append→Qa,mem_cons_of_mem→Qb,nodup_append→Qc,append_of_mem→Qd,mem_map→Qe,mem_cons→Qf,mem_flatten→Qh,perm_append_comm→Qi,nodup_cons→Qj,map_append→Qk,map_eq_append_iff→Ql,cons_append→Qm,map_cons→Qn,map_eq_cons_iff→Qo,mem_singleton→Qp,eq_nil_or_concat→Qq,concat_eq_append→Qr
open Or renaming inl→Qg,inr→Qu
open Bool renaming decide_or→Qs,xor_comm→Qt,xor_false→Qv,false_xor→Qw
namespace Go.Proofs.YtbkjljffnkdcjaaGreat.Plain
structure fy (g:Gr) (b:Pt) (on:Int->Bool) (C1 C2:List Int) (x y:Int):Prop where
 l1:eR g x C1 y
 l2:eR g y C2 x
 ne:x≠y
 tn:((C1++C2).map g.tail).Nodup
 en:((C1++C2).map (· / 2)).Nodup
 dr:∀ d∈C1++C2,d∈b.ag
 on:∀ d∈C1++C2,on (g.tail d)=true
variable {g : Gr} {b : Pt} {aa : List (List Int)} {on : Int -> Bool} {C1 C2 : List Int} {x y : Int}
theorem fy.symm (h:fy g b on C1 C2 x y):fy g b on C2 C1 y x:=by
 have hp:(C2++C1).Perm (C1++C2):=Qi;exact⟨h.l2,h.l1,Ne.symm h.ne,(hp.map _).nodup_iff.2 h.tn,(hp.map _).nodup_iff.2 h.en,fun d hd=>h.dr d (hp.mem_iff.1 hd),fun d hd=>h.on d (hp.mem_iff.1 hd)⟩
theorem qh {x:Int} {l:List Int} (h:eR g x l x):(l.map g.head).Perm (l.map g.tail):=by
 cases l with
 | nil=>simp
 | cons d l =>
  rw[dJ h,Qn,h.1];exact Qi (l₁:=l.map g.tail) (l₂:=[x])
theorem fy.link (h:fy g b on C1 C2 x y):eR g x (C1++C2) x:=eR.append.2 ⟨y,h.l1,h.l2⟩
theorem fy.hn (h:fy g b on C1 C2 x y):((C1++C2).map g.head).Nodup:=(qh h.link).nodup_iff.2 h.tn
theorem fy.c1 (h:fy g b on C1 C2 x y):∃ o l,C1=o :: l/\g.tail o=x:=by
 cases hC:C1 with
 | nil=>have:=h.l1;rw[hC] at this;exact absurd this h.ne
 | cons o l=>exact⟨o,l,rfl,by have:=h.l1;rw[hC] at this;exact this.1⟩
theorem l6 {x y:Int} {l:List Int} (h:eR g x l y) (bh:x≠y):∃ m d,l=m++[d]/\g.head d=y:=by
 rcases Qq l with q | ⟨m,d,q⟩
 ·rw[q] at h;exact absurd h bh
 rw[Qr] at q;rw[q] at h ⊢;exact⟨m,d,rfl,gx h⟩
theorem fy.gR (h:fy g b on C1 C2 x y) {d e:Int} (hd:d∈C1++C2) (he:e∈C1++C2) (q:g.tail d=g.tail e):d=e:=dE h.tn d hd e he q
theorem fy.sl (h:fy g b on C1 C2 x y) {d e:Int} (hd:d∈C1++C2) (he:e∈C1++C2) (q:g.head d=g.head e):d=e:=dE h.hn d hd e he q
theorem fy.lS (h:fy g b on C1 C2 x y) {d:Int} (hd:d∈C1++C2):aE d ∉ C1++C2:=fun q=>oP d (dE h.en _ q _ hd (bA d))
theorem fy.nodup (h:fy g b on C1 C2 x y):(C1++C2).Nodup:=du h.tn
theorem fy.n1 (h:fy g b on C1 C2 x y):C1.Nodup:=(Qc.1 h.nodup).1
theorem fy.Md (h:fy g b on C1 C2 x y) {d:Int} (h1:d∈C2):d ∉ C1:=fun q=>(Qc.1 h.nodup).2.2 d q d h1 rfl
theorem m1 {C1 C2:List Int} {d:Int} (h:d∈C1):d∈C1++C2:=Qa.2 (Qg h)
theorem m2 {C1 C2:List Int} {d:Int} (h:d∈C2):d∈C1++C2:=Qa.2 (Qu h)
theorem xl {l:List Int} {x z:Int} (h:eR g x l z) {e:Int} (he:e∈l) (bh:g.tail e≠x):∃ d∈l,g.head d=g.tail e:=by
 obtain⟨A,B,rfl⟩:=Qd he;rcases Qq A with q | ⟨A,d,q⟩
 ·rw[q] at h;exact absurd h.1 bh
 rw[Qr] at q;subst q;have h':eR g x (A++d :: e :: B) z:=by simpa using h
 exact⟨d,by simp,jh h'⟩
theorem lA {f:Int->Bool}:∀ {l:List Int},(∀ U d e V,l=U++d :: e :: V->f d=f e)->∀ d∈l,∀ e∈l,f d=f e
 | [],_,d,hd,_,_=>by simp at hd
 | [a],_,d,hd,e,he=>by rw[Qp.1 hd,Qp.1 he]
 | a :: c :: l,h,d,hd,e,he=>by
  have ih:=lA (l:=c :: l) (fun U d e V q=>h (a :: U) d e V (by rw[q];rfl));have h0:=h [] a c l rfl;rcases Qf.1 hd with q | q <;> rcases Qf.1 he with r | r
  ·rw[q,r]
  ·rw[q,h0];exact ih c (by simp) e r
  ·rw[r,h0];exact ih d q c (by simp)
  exact ih d q e r
theorem fy.at1 (h:fy g b on C1 C2 x y) {u:Int}:hZ C1 (u / 2)=(decide (u∈C1) ^^ decide (aE u∈C1)):=fp h.n1 u
theorem fy.in1 (h:fy g b on C1 C2 x y) {d e u:Int} (hd:d∈C1) (he:e∈C1) (nR:g.head d=g.tail e) (hu:g.tail u=g.tail e):hZ C1 (u / 2)=(decide (u=e) ^^ decide (u=aE d)):=by
 rw[h.at1];have e1:u∈C1↔u=e:=⟨fun q=>h.gR (m1 q) (m1 he) hu,fun q=>q ▸ he⟩;have e2:aE u∈C1↔u=aE d:=⟨fun q=>by
  have:=h.sl (m1 q) (m1 hd) (by rw[<-aA,aS,hu,nR]);rw[<-this,aS],fun q=>by rw[q,aS];exact hd⟩
 rw[decide_eq_decide.2 e1,decide_eq_decide.2 e2]
theorem fy.at_x (h:fy g b on C1 C2 x y) {o u:Int} (ho:o∈C1) (Fp:g.tail o=x) (hu:g.tail u=x):hZ C1 (u / 2)=decide (u=o):=by
 rw[h.at1];have e1:u∈C1↔u=o:=⟨fun q=>h.gR (m1 q) (m1 ho) (hu.trans Fp.symm),fun q=>q ▸ ho⟩;have e2:aE u ∉ C1:=fun q=>by
  obtain⟨m,t,hm,ht⟩:=l6 h.l2 (Ne.symm h.ne);have:aE u=t:=h.sl (m1 q) (m2 (by rw[hm];simp)) (by rw[<-aA,aS,hu,ht]);exact h.Md (by rw[hm];simp) (this ▸ q)
 have e3:decide (u∈C1)=decide (u=o):=decide_eq_decide.2 e1;rw[e3];simp[e2]
theorem fy.in2 (h:fy g b on C1 C2 x y) {d e u:Int} (hd:d∈C2) (he:e∈C2) (nR:g.head d=g.tail e) (hu:g.tail u=g.tail e):hZ C1 (u / 2)=false:=by
 rw[h.at1];have e1:u ∉ C1:=fun q=>h.Md he (h.gR (m1 q) (m2 he) hu ▸ q);have e2:aE u ∉ C1:=fun q=>h.Md hd (h.sl (m1 q) (m2 hd) (by rw[<-aA,aS,hu,nR]) ▸ q);simp[e1,e2]
theorem fy.all (h:fy g b on C1 C2 x y) {d e u:Int} (hd:d∈C1++C2) (he:e∈C1++C2) (nR:g.head d=g.tail e) (hu:g.tail u=g.tail e):hZ (C1++C2) (u / 2)=(decide (u=e) ^^ decide (u=aE d)):=by
 rw[fp h.nodup];have e1:u∈C1++C2↔u=e:=⟨fun q=>h.gR q he hu,fun q=>q ▸ he⟩;have e2:aE u∈C1++C2↔u=aE d:=⟨fun q=>by
  have:=h.sl q hd (by rw[<-aA,aS,hu,nR]);rw[<-this,aS],fun q=>by rw[q,aS];exact hd⟩
 rw[decide_eq_decide.2 e1,decide_eq_decide.2 e2]
theorem fy.side (hp:aH g b) (ht:aT g b aa) (h:fy g b on C1 C2 x y) {χ:Int->Bool} (ns:lL g b aa (hZ (C1++C2)) χ):∀ d∈C1++C2,∀ e∈C1++C2,χ d=χ e:=by
 refine lA fun U d e V hs=>?_;have hd:d∈C1++C2:=by rw[hs];simp
 have he:e∈C1++C2:=by rw[hs];simp
 have hl:=h.link;rw[hs] at hl;have nR:=jh hl;have bh:aE d≠e:=fun q=>h.lS hd (q ▸ he);have hc:hZ (C1++C2) (d / 2)=true:=by rw[fp h.nodup];simp[hd,h.lS hd]
 have h2:=ns.two hp ht (bu (h.dr d hd)) (h.dr e he) (by rw[aA,nR]) bh (fun u hu gI=>by
  rw[aA,nR] at gI;rw[h.all hd he nR gI,Qt])
 rw[h2,ns.aE d (h.dr d hd),hc];cases χ d <;> rfl
theorem fy.oD (hp:aH g b) (ht:aT g b aa) (h:fy g b on C1 C2 x y) {S:List Int} {cS χ ψ:Int->Bool} (ns:lL g b aa (hZ (C1++C2)) χ) (Zj:vu g b aa on S cS x y)
  (MZ:lL g b aa (fun e=>hZ C1 e ^^ cS e) ψ) (jR:∀ d∈C1++C2,d / 2 ∉ S) :
  ∃ κ k α:Bool,(∀ d∈C1++C2,χ d=κ)/\(∀ d∈C1,ψ d=k)/\(∀ d∈C2,ψ d=α)/\(∃ q∈b.ag,q / 2∈S/\((χ q ^^ κ) ^^ (α ^^ k))=true) /\
   (∀ d∈C2,g.tail d≠y->∀ u∈b.ag,g.tail u=g.tail d->ψ u=α)/\∀ d∈C1,g.tail d≠x->∀ u∈b.ag,g.tail u=g.tail d->(χ u ^^ ψ u)=(κ ^^ k):=by
 obtain⟨o,l,hC1,Fp⟩:=h.c1;obtain⟨m,t,UZ,htx⟩:=l6 h.l2 (Ne.symm h.ne);have ho:o∈C1:=by rw[hC1];simp
 have Bp:t∈C2:=by rw[UZ];simp
 have adt:∀ d∈C1++C2,cS (d / 2)=false:=fun d hd=>by
  cases q:cS (d / 2) with
  | false=>rfl
  | true=>exact absurd (Zj.BQ _ q) (jR d hd)
 have xy1:∀ e∈C1,g.tail e≠y:=fun e he q=>by
  obtain⟨o2,l2,hC,hoy⟩:=h.symm.c1;have Es:o2∈C2:=by rw[hC];simp
  exact h.Md Es (h.gR (m1 he) (m2 Es) (q.trans hoy.symm) ▸ he)
 have xy2:∀ e∈C2,g.tail e≠x:=fun e he q=>h.Md he (h.gR (m2 he) (m1 ho) (q.trans Fp.symm) ▸ ho)
 -- inside the first uG
 have in1:∀ d∈C1,∀ e∈C1,g.head d=g.tail e->g.tail e≠x->∀ u∈b.ag,g.tail u=g.tail e->(hZ C1 (u / 2) ^^ cS (u / 2))=(decide (u=e) ^^ decide (u=aE d)):=fun d hd e he nR hex u hu gI=>by
  rw[h.in1 hd he nR gI,Zj.none (g.tail e) (h.on e (m1 he)) hex (xy1 e he) u hu gI,Qv]
 have in2:∀ d∈C2,∀ e∈C2,g.head d=g.tail e->g.tail e≠y->∀ u∈b.ag,g.tail u=g.tail e->(hZ C1 (u / 2) ^^ cS (u / 2))=false:=fun d hd e he nR hey u hu gI=>by
  rw[h.in2 hd he nR gI,Zj.none (g.tail e) (h.on e (m2 he)) (xy2 e he) hey u hu gI];rfl
 have acg:=h.side hp ht ns;have aeb:∀ d∈C1,∀ e∈C1,ψ d=ψ e:=by
  refine lA fun U d e V hs=>?_;have hd:d∈C1:=by rw[hs];simp
  have he:e∈C1:=by rw[hs];simp
  have hl:=h.l1;rw[hs] at hl;have nR:=jh hl;have bh:aE d≠e:=fun q=>h.lS (m1 hd) (q ▸ m1 he);have hex:g.tail e≠x:=fun q=>by
   have e1:e=o:=h.gR (m1 he) (m1 ho) (q.trans Fp.symm);have hn:=h.n1;rw[hs] at hn;rw[hC1] at hs;cases U with
   | nil=>injection hs with s1 s2;rw[<-s1,e1] at hn;simp at hn
   | cons a U =>
    injection hs with s1 s2
    rw[<-s1,e1] at hn;simp at hn
  have hc:(hZ C1 (d / 2) ^^ cS (d / 2))=true:=by
   rw[fp h.n1,adt d (m1 hd)];have:aE d ∉ C1:=fun q=>h.lS (m1 hd) (m1 q);simp[hd,this]
  have h2:=MZ.two hp ht (bu (h.dr d (m1 hd))) (h.dr e (m1 he)) (by rw[aA,nR]) bh (fun u hu gI=>by
   rw[aA,nR] at gI;rw[in1 d hd e he nR hex u hu gI,Qt])
  rw[h2,MZ.aE d (h.dr d (m1 hd)),hc];cases ψ d <;> rfl
 have bG:∀ d∈C2,(hZ C1 (d / 2) ^^ cS (d / 2))=false:=fun d hd=>by
  rw[fp h.n1,adt d (m2 hd)];have:aE d ∉ C1:=fun q=>h.lS (m2 hd) (m1 q);simp[h.Md hd,this]
 have tw2:∀ d∈C2,ψ (aE d)=ψ d:=fun d hd=>by rw[MZ.aE d (h.dr d (m2 hd)),bG d hd,Qv]
 have hey:∀ U d e V,C2=U++d :: e :: V->g.tail e≠y:=fun U d e V hs q=>by
  obtain⟨o2,l2,hC,hoy⟩:=h.symm.c1;have Es:o2∈C2:=by rw[hC];simp
  have he:e∈C2:=by rw[hs];simp
  have e1:e=o2:=h.gR (m2 he) (m2 Es) (q.trans hoy.symm);have hn:=h.symm.n1;rw[hs] at hn;rw[hC] at hs;cases U with
  | nil=>injection hs with s1 s2;rw[<-s1,e1] at hn;simp at hn
  | cons a U =>
   injection hs with s1 s2
   rw[<-s1,e1] at hn;simp at hn
 have agu:∀ d∈C2,∀ e∈C2,ψ d=ψ e:=by
  refine lA fun U d e V hs=>?_;have hd:d∈C2:=by rw[hs];simp
  have he:e∈C2:=by rw[hs];simp
  have hl:=h.l2;rw[hs] at hl;have nR:=jh hl;rw[<-tw2 d hd];exact MZ.same hp ht (bu (h.dr d (m2 hd))) (h.dr e (m2 he)) (by rw[aA,nR]) fun u hu gI=>in2 d hd e he nR (hey U d e V hs) u hu (by rw[gI,aA,nR])
 refine⟨χ o,ψ o,ψ t,fun d hd=>acg d hd o (m1 ho),fun d hd=>aeb d hd o ho,fun d hd=>agu d hd t Bp,?_,fun e he af8 u hu gI=>?_,fun e he hex u hu gI=>?_⟩
 ·obtain⟨q,q1,q2,q3,q4⟩:=Zj.one
  refine⟨q,q1,q3,?_⟩;have anm:g.tail (aE t)=x:=by rw[aA,htx]
  have WG:∀ d∈C1++C2,d / 2≠q / 2:=fun d hd r=>jR d hd (r ▸ q3);have h3:=ns.three MZ hp ht (o:=o) (t:=aE t) (q:=q) (h.dr o (m1 ho)) (bu (h.dr t (m2 Bp))) q1 (anm.trans Fp.symm) (q2.trans Fp.symm) (fun r=>h.lS (m2 Bp) (r ▸ m1 ho)) (fun r=>WG o (m1 ho) (by rw[r])) (fun r=>WG t (m2 Bp) (by rw[<-r,bA]))
   (fun u hu gI=>h.all (m2 Bp) (m1 ho) (htx.trans Fp.symm) gI)
   (fun u hu gI=>by
    rw[Fp] at gI;rw[h.at_x ho Fp gI,q4 u hu gI])
  rw[tw2 t Bp] at h3;exact h3
 ·obtain⟨d,hd,nR⟩:=xl h.l2 he af8
  rw[agu t Bp e he];exact MZ.same hp ht hu (h.dr e (m2 he)) gI fun w hw B8=>in2 d hd e he nR af8 w hw (B8.trans gI)
 obtain⟨d,hd,nR⟩:=xl h.l1 he hex;rw[<-acg e (m1 he) o (m1 ho),<-aeb e he o ho];exact ns.alike MZ hp ht hu (h.dr e (m1 he)) gI fun w hw B8=>by
  have hwe:=B8.trans gI;rw[h.all (m1 hd) (m1 he) nR hwe,in1 d hd e he nR hex w hw hwe]
def bm (L M:List Int):Prop:=∃ U V,L=U++V/\M=V++U
def Crs (L S T:List Int):Prop:=∃ x∈S,∃ y∈S,∃ z∈T,∃ w∈T,∃ A B,bm L (x :: A++y :: B)/\z∈A/\w∈B
def Tri (S T:List Int):Prop:=∃ x y z,(x∈S/\x∈T)/\(y∈S/\y∈T)/\(z∈S/\z∈T)/\x≠y/\y≠z/\x≠z
def iO (L S T:List Int):Prop:=Crs L S T\/Tri S T
theorem bm.refl (L:List Int):bm L L:=⟨[],L,rfl,by simp⟩
theorem bm.symm {L M:List Int}:bm L M->bm M L:=fun ⟨U,V,h,k⟩=>⟨V,U,k,h⟩
theorem bm.perm {L M:List Int}:bm L M->L.Perm M:=fun ⟨U,V,h,k⟩=>by rw[h,k];exact Qi
theorem bm.trans {L M N:List Int}:bm L M->bm M N->bm L N:=fun ⟨U,V,h,k⟩ ⟨X,Y,h2,k2⟩=>by
 rw[k] at h2;rcases List.append_eq_append_iff.1 h2 with ⟨Z,e1,e2⟩ | ⟨Z,e1,e2⟩
 .-- X=V++Z,U=Z++Y
  exact⟨Z,Y++V,by rw[h,e2];simp,by rw[k2,e1];simp⟩
 -- V=X++Z,Y=Z++U
 exact⟨U++X,Z,by rw[h,e1];simp,by rw[k2,e2];simp⟩
theorem iO.symm {L S T:List Int} (h:iO L S T):iO L T S:=by
 rcases h with ⟨x,hx,y,hy,z,hz,w,hw,A,B,hr,hA,hB⟩ | ⟨x,y,z,a,b,c,d⟩
 ·obtain⟨A1,A2,rfl⟩:=Qd hA
  obtain⟨B1,B2,rfl⟩:=Qd hB;refine Qg ⟨z,hz,w,hw,y,hy,x,hx,A2++y :: B1,B2++x :: A1,hr.trans ⟨x :: A1,z :: A2++y :: (B1++w :: B2),by simp,by simp⟩,by simp,by simp⟩
 exact Qu ⟨x,y,z,a.symm,b.symm,c.symm,d⟩
theorem iO.sO {L M S T:List Int} (h:iO L S T) (hr:bm L M):iO M S T:=by
 rcases h with ⟨x,hx,y,hy,z,hz,w,hw,A,B,h,k⟩ | h
 ·exact Qg ⟨x,hx,y,hy,z,hz,w,hw,A,B,hr.symm.trans h,k⟩
 exact Qu h
structure jY (g:Gr) (b:Pt) (on:Int->Bool) (C:List Int):Prop where
 link:∃ x,eR g x C x
 tn:(C.map g.tail).Nodup
 en:(C.map (· / 2)).Nodup
 dr:∀ d∈C,d∈b.ag
 on:∀ d∈C,on (g.tail d)=true
variable {g : Gr} {b : Pt} {aa : List (List Int)} {on : Int -> Bool} {C S T : List Int}
theorem jY.wA (h:jY g b on C) {D:List Int} (hr:bm C D):jY g b on D:=by
 have hp:=hr.perm;obtain⟨U,V,rfl,rfl⟩:=hr;obtain⟨x,hl⟩:=h.link;obtain⟨m,h1,h2⟩:=eR.append.1 hl;exact⟨⟨m,eR.append.2 ⟨x,h2,h1⟩⟩,(hp.map _).nodup_iff.1 h.tn,(hp.map _).nodup_iff.1 h.en,fun d hd=>h.dr d (hp.mem_iff.2 hd),fun d hd=>h.on d (hp.mem_iff.2 hd)⟩
theorem jY.Oi (h:jY g b on C) {C1 C2:List Int} {o t:Int} (e:C=o :: C1++t :: C2):fy g b on (o :: C1) (t :: C2) (g.tail o) (g.tail t):=by
 subst e;obtain⟨x,hl⟩:=h.link;obtain⟨m,h1,h2⟩:=eR.append.1 hl;have e1:g.tail o=x:=h1.1;have e2:g.tail t=m:=h2.1;subst e1 e2;refine⟨h1,h2,fun q=>?_,h.tn,h.en,h.dr,h.on⟩;have:=h.tn;rw[Qk,Qc] at this;exact this.2.2 _ (by simp) _ (by simp) q
theorem jY.I9 (h:jY g b on C) {d:Int} (hd:d∈C):on (g.head d)=true:=by
 obtain⟨x,hl⟩:=h.link;have:g.head d∈C.map g.tail:=(qh hl).mem_iff.1 (Qe.2 ⟨d,hd,rfl⟩);obtain⟨e,he,q⟩:=Qe.1 this;rw[<-q];exact h.on e he
theorem kr {C D:List Int} (h:bm C D):hZ C=hZ D:=by
 obtain⟨U,V,rfl,rfl⟩:=h
 funext e
 rw[ff,ff,Qt]
theorem mM {f:Int->Int} {C M:List Int} (h:bm (C.map f) M):∃ D,bm C D/\D.map f=M:=by
 obtain⟨U,V,h1,h2⟩:=h;obtain⟨U',V',rfl,e1,e2⟩:=Ql.1 h1;exact⟨V'++U',⟨U',V',rfl,rfl⟩,by rw[Qk,e1,e2,h2]⟩
theorem oX {f:Int->Int} {D:List Int} {x y:Int} {A B:List Int} (h:D.map f=x :: A++y :: B):∃ o C1 t C2,D=o :: C1++t :: C2/\f o=x/\C1.map f=A/\f t=y/\C2.map f=B:=by
 obtain⟨D1,D2,rfl,e1,e2⟩:=Ql.1 h;obtain⟨o,C1,rfl,e3,e4⟩:=Qo.1 e1;obtain⟨t,C2,rfl,e5,e6⟩:=Qo.1 e2;exact⟨o,C1,t,C2,rfl,e3,e4,e5,e6⟩
theorem mq.ui (hp:aH g b) (ht:aT g b aa) (hC:jY g b on C) (hT:mq g b on T) (jR:∀ d∈C,d / 2 ∉ T) {χ:Int->Bool} (ns:lL g b aa (hZ C) χ) :
  ∀ d∈b.ag,d / 2∈T->∀ d'∈b.ag,d' / 2∈T->χ d=χ d' :=
 hT.NL hp ht ns (fun e he=>BB fun d hd q=>jR d hd (q ▸ he)) fun v hv _ u _ gI=>by
  rw[fp (du hC.tn)];have e1:u ∉ C:=fun q=>by rw[<-gI,hC.on u q] at hv;cases hv
  have e2:aE u ∉ C:=fun q=>by
   have:=hC.I9 q;rw[<-aA,aS,gI,hv] at this;cases this
  simp[e1,e2]
theorem mq.oD (hp:aH g b) (ht:aT g b aa) {C1 C2:List Int} (hC:jY g b on (C1++C2)) (hT:mq g b on T) (hS:mq g b on S) (YC:∀ e∈S,e ∉ T) (jR:∀ d∈C1++C2,d / 2 ∉ T) {cS ψ:Int->Bool} (Zj:∀ e,cS e=true->e∈S)
  (MZ:lL g b aa (fun e=>hZ C1 e ^^ cS e) ψ):∀ d∈b.ag,d / 2∈T->∀ d'∈b.ag,d' / 2∈T->ψ d=ψ d':=by
 have jQ:∀ e∈T,cS e=false:=fun e he=>by
  cases q:cS e with
  | false=>rfl
  | true=>exact absurd he (YC e (Zj e q))
 refine hT.NL hp ht MZ (fun e he=>?_) fun v hv ⟨e,he,pA⟩ u hu gI=>?_
 ·rw[BB fun d hd q=>jR d (m1 hd) (q ▸ he),jQ e he];rfl
 have h1:hZ C1 (u / 2)=false:=by
  have hn:=du hC.tn;rw[fp (Qc.1 hn).1];have e1:u ∉ C1:=fun q=>by rw[<-gI,hC.on u (m1 q)] at hv;cases hv
  have e2:aE u ∉ C1:=fun q=>by
   have:=hC.I9 (m1 q);rw[<-aA,aS,gI,hv] at this;cases this
  simp[e1,e2]
 have h2:cS (u / 2)=false:=by
  cases q:cS (u / 2) with
  | false=>rfl
  | true =>
   have Cl:=Zj _ q;have:=hS.shut _ Cl e (hT.sub e he) ⟨v,hv,gI ▸ (et g u).1,pA⟩;exact absurd he (YC e this)
 rw[h1,h2];rfl
theorem ph (hR:jC g b aa) (hl:∀ e∈b.e,(g.at e).1≠(g.at e).2) (hC:jY g b on C) {χ:Int->Bool} (ns:lL g b aa (hZ C) χ) (hS:mq g b on S) (hT:mq g b on T) (YC:∀ e∈S,e ∉ T)
  (WG:∀ d∈C,d / 2 ∉ S) (hoT:∀ d∈C,d / 2 ∉ T) {s t:Int} (hs:s∈b.ag) (hsS:s / 2∈S) (Al:t∈b.ag) (htT:t / 2∈T) (uP:χ s=χ t) (dm:∀ v∈br g on S,v∈C.map g.tail) :
  ¬ iO (C.map g.tail) (br g on S) (br g on T):=by
 have hp:=Pt.aF hR.pe;have ht:=hR.js;have cS:=hS.ui hp ht hC WG ns;have cT:=hT.ui hp ht hC hoT ns;obtain⟨cc,jM⟩:=hS.ZC hp ht hl;have CI:∀ v∈br g on T,∃ u∈b.ag,g.tail u=v/\u / 2∈T:=fun v hv=>by
  obtain⟨_,e,he,pA⟩:=bs.1 hv;obtain⟨u,h1,h2,rfl⟩:=iT (hT.sub e he) pA;exact⟨u,h1,h2,he⟩
 have Pv:∀ {C1 C2 x y},fy g b on C1 C2 x y->x∈br g on S->y∈br g on S->∃ ψ,lL g b aa (fun e=>hZ C1 e ^^ (cc x e ^^ cc y e)) ψ:=fun {C1 C2 x y} hA hx hy =>
  hR.Ww fun v hv=>by
   rw[mT,fH hp ht hv hA.l1 (fun d hd=>hA.dr d (m1 hd)),(jM x hx y hy hA.ne).zc v hv];cases decide (x=v) <;> cases decide (y=v) <;> rfl
 rintro (⟨x,hx,y,hy,z,hz,w,hw,A,B,hr,hA,hB⟩ | htri)
 ·obtain⟨D,hD,Yf⟩:=mM hr
  obtain⟨o,C1,t2,C2,rfl,rfl,rfl,rfl,rfl⟩:=oX Yf;have hCD:=hC.wA hD;have He:=hCD.Oi rfl;rw[kr hD] at ns;have jR:∀ {M:List Int},(∀ d∈C,d / 2 ∉ M)->∀ d∈o :: C1++t2 :: C2,d / 2 ∉ M:=fun h d hd=>h d (hD.perm.mem_iff.2 hd);obtain⟨ψ,MZ⟩:=Pv He hx hy;have dI:=jM _ hx _ hy He.ne;obtain⟨κ,k,α,t1,t2',t3,⟨q,q1,q2,q3⟩,t5,t6⟩:=He.oD hp ht ns dI MZ (jR WG);have amO:=mq.oD hp ht hCD hT hS YC (jR hoT) dI.BQ MZ;obtain⟨d1,hd1,e1⟩:=Qe.1 hA;obtain⟨d2,pG,e2⟩:=Qe.1 hB;obtain⟨u1,f1,f2,f3⟩:=CI z hz;obtain⟨u2,f4,f5,f6⟩:=CI w hw;have hzx:g.tail d1≠g.tail o:=fun r=>by
   have:=He.n1;rw[Qj] at this;exact this.1 (He.gR (m1 (Qb _ hd1)) (m1 (by simp)) r ▸ hd1)
  have hwy:g.tail d2≠g.tail t2:=fun r=>by
   have:=He.symm.n1;rw[Qj] at this;exact this.1 (He.gR (m2 (Qb _ pG)) (m2 (by simp)) r ▸ pG)
  have a1:=t6 d1 (Qb _ hd1) hzx u1 f1 (f2.trans e1.symm);have a2:=t5 d2 (Qb _ pG) hwy u2 f4 (f5.trans e2.symm);have a3:=amO u1 f1 f3 u2 f4 f6;have a4:=cT u1 f1 f3 t Al htT;have a5:=cS q q1 q2 s hs hsS;rw[a5,uP,<-a4] at q3;rw[a2] at a3;rw[a3] at a1
  revert q3 a1
  cases χ u1 <;> cases κ <;> cases α <;> cases k <;> simp
 -- three in common,in their order
 have key:∀ {x y z:Int} {P Q R:List Int},bm (C.map g.tail) (x :: P++y :: Q++z :: R)->(x∈br g on S/\x∈br g on T)->(y∈br g on S/\y∈br g on T)->(z∈br g on S/\z∈br g on T)->False:=by
  intro x y z P Q R hr hx hy hz;obtain⟨D,hD,Yf⟩:=mM hr;obtain⟨D1,D2,rfl,e1,e2⟩:=Ql.1 Yf;obtain⟨o1,A1,o2,A2,rfl,rfl,rfl,rfl,rfl⟩:=oX e1;obtain⟨o3,A3,rfl,rfl,rfl⟩:=Qo.1 e2;clear e1 e2;have hCD:=hC.wA hD;have UG:jY g b on (o1 :: A1++o2 :: (A2++o3 :: A3)):=by simpa using hCD
  have cH:bm (o1 :: A1++o2 :: (A2++o3 :: A3)) (o2 :: A2++o3 :: (A3++o1 :: A1)):=⟨o1 :: A1,o2 :: (A2++o3 :: A3),rfl,by simp⟩;have pC:bm (o1 :: A1++o2 :: (A2++o3 :: A3)) (o3 :: A3++o1 :: (A1++o2 :: A2)):=⟨o1 :: A1++o2 :: A2,o3 :: A3,by simp,by simp⟩;have Sx:bm C (o1 :: A1++o2 :: (A2++o3 :: A3)):=by simpa using hD
  have ad7:=UG.wA cH;have af7:=UG.wA pC;have r1:=UG.Oi rfl;have r2:=ad7.Oi rfl;have r3:=af7.Oi rfl;obtain⟨ψ1,h1⟩:=Pv r1 hx.1 hy.1;obtain⟨ψ2,h2⟩:=Pv r2 hy.1 hz.1;have h3:lL g b aa (fun e=>hZ (o3 :: A3) e ^^ (cc (g.tail o3) e ^^ cc (g.tail o1) e)) (fun d=>χ d ^^ (ψ1 d ^^ ψ2 d)):=(ns.xor (h1.xor h2)).congr fun e _=>by
   rw[kr Sx];have:hZ (o1 :: A1++o2 :: (A2++o3 :: A3)) e=(hZ (o1 :: A1) e ^^ (hZ (o2 :: A2) e ^^ hZ (o3 :: A3) e)):=by
    rw[ff,<-ff (o2 :: A2)];rfl
   rw[this];generalize hZ (o1 :: A1) e=a1;generalize hZ (o2 :: A2) e=a2;generalize hZ (o3 :: A3) e=a3;generalize cc (g.tail o1) e=c1;generalize cc (g.tail o2) e=c2;generalize cc (g.tail o3) e=c3;cases a1 <;> cases a2 <;> cases a3 <;> cases c1 <;> cases c2 <;> cases c3 <;> rfl
  have jR:∀ {M D:List Int},bm C D->(∀ d∈C,d / 2 ∉ M)->∀ d∈D,d / 2 ∉ M:=fun k h d hd=>h d (k.perm.mem_iff.2 hd);have c1:=jM _ hx.1 _ hy.1 r1.ne;have c2:=jM _ hy.1 _ hz.1 r2.ne;have c3:=jM _ hz.1 _ hx.1 r3.ne;have k1:lL g b aa (hZ (o1 :: A1++o2 :: (A2++o3 :: A3))) χ:=by rw[<-kr Sx];exact ns
  have k2:lL g b aa (hZ (o2 :: A2++o3 :: (A3++o1 :: A1))) χ:=by rw[<-kr (Sx.trans cH)];exact ns
  have k3:lL g b aa (hZ (o3 :: A3++o1 :: (A1++o2 :: A2))) χ:=by rw[<-kr (Sx.trans pC)];exact ns
  obtain⟨κ,k,α,t1,t2,t3,⟨q,q1,q2,q3⟩,t5,-⟩:=r1.oD hp ht k1 c1 h1 (jR Sx WG);obtain⟨_,_,TJ,-,-,u3,-,u5,-⟩:=r2.oD hp ht k2 c2 h2 (jR (Sx.trans cH) WG);obtain⟨_,_,α3,-,-,v3,-,v5,-⟩:=r3.oD hp ht k3 c3 h3 (jR (Sx.trans pC) WG);have T1:=mq.oD hp ht UG hT hS YC (jR Sx hoT) c1.BQ h1;have T2:=mq.oD hp ht ad7 hT hS YC (jR (Sx.trans cH) hoT) c2.BQ h2;have T3:=mq.oD hp ht af7 hT hS YC (jR (Sx.trans pC) hoT) c3.BQ h3;obtain⟨ux,f1,f2,f3⟩:=CI _ hx.2;obtain⟨uy,f4,f5,f6⟩:=CI _ hy.2;obtain⟨uz,f7,f8,f9⟩:=CI _ hz.2;have b1:=t5 o3 (by simp) (Ne.symm r2.ne) uz f7 f8;have b2:=u5 o1 (by simp) (Ne.symm r3.ne) ux f1 f2;have b3:=v5 o2 (by simp) (Ne.symm r1.ne) uy f4 f5;rw[T1 uz f7 f9 ux f1 f3] at b1;rw[T3 uy f4 f6 ux f1 f3] at b3;have g1:=t1 o1 (by simp);have g2:=t2 o1 (by simp);have g3:=u3 o1 (by simp);have g4:=v3 o1 (by simp);have a4:=cT ux f1 f3 t Al htT;have a5:=cS q q1 q2 s hs hsS;rw[a5,uP,<-a4] at q3;rw[b1,b2] at b3;rw[g1,g2,g3] at g4
  revert q3 b3 g4
  cases χ ux <;> cases κ <;> cases α <;> cases k <;> cases TJ <;> cases α3 <;> simp
 obtain⟨x,y,z,hx,hy,hz,fW,qn,uK⟩:=htri;have IM:=dm x hx.1;have hym:=dm y hy.1;have Kw:=dm z hz.1;obtain⟨U,V,hUV⟩:=Qd IM;have hr:bm (C.map g.tail) (x :: (V++U)):=⟨U,x :: V,hUV,rfl⟩;have hm:∀ v∈C.map g.tail,v≠x->v∈V++U:=fun v hv q=>by
  rcases Qf.1 (hr.perm.mem_iff.1 hv) with r | r
  ·exact absurd r q
  exact r
 have hyV:=hm y hym (Ne.symm fW);have hzV:=hm z Kw (Ne.symm uK);generalize V++U=M at hr hyV hzV;obtain⟨P,Q,rfl⟩:=Qd hyV;rcases Qa.1 hzV with r | r
 ·obtain⟨P1,P2,rfl⟩:=Qd r
  exact key (x:=x) (y:=z) (z:=y) (P:=P1) (Q:=P2) (R:=Q) (by simpa using hr) hx hz hy
 obtain⟨Q1,Q2,rfl⟩:=Qd ((Qf.1 r).resolve_left (Ne.symm qn));exact key (x:=x) (y:=y) (z:=z) (P:=P) (Q:=Q1) (R:=Q2) (by simpa using hr) hx hy hz
variable {g : Gr} {p : Pt} {aa : List (List Int)} {F : List (List Int)} {f k : List Int} {x y : Int}
theorem Ring.wA {q:Int->Int} {L M:List Int} (h:Ring q L) (hr:bm L M):Ring q M:=by
 obtain⟨U,V,rfl,rfl⟩:=hr;cases U with
 | nil=>simpa using h
 | cons a U =>
  cases V with
  | nil=>simpa using h
  | cons c V=>exact Ring.aa h
theorem xj {q:Int->Int} {z:Int}:∀ {l:List Int} {x:Int},Trail q x l z->∀ e∈x :: l,q e∈l\/q e=z
 | [],x,h,e,he=>by rw[Qp.1 he];exact Qu h
 | a :: l,x,h,e,he=>by
  rcases Qf.1 he with r | r
  ·rw[r,h.1];exact Qg (by simp)
  rcases xj h.2 e r with s | s
  ·exact Qg (Qb _ s)
  exact Qu s
theorem DE {q:Int->Int} {o t:Int} {A B:List Int} (h:Ring q (o :: A++t :: B)) {e:Int} (he:e∈o :: A):q e∈o :: A\/q e=t:=by
 have h':Trail q o (A++t :: B) o:=h;rw[Trail.append] at h';rcases xj h'.1 e he with r | r
 ·exact Qg (Qb _ r)
 exact Qu r
theorem vQ (hp:aH g p) (ht:aT g p aa) {z:Int}:∀ {l:List Int} {x:Int},Trail (ay g aa) x l z->(∀ d∈x :: l,d∈p.ag)->eR g (g.tail x) (x :: l) (g.tail z)
 | [],x,h,hd=>by
  have hz:ay g aa x=z:=h;refine⟨rfl,?_⟩;show g.head x=g.tail z;rw[<-hz,(mc ht (fun d hd=>hp.vr _ (hp.aQ hd).1) (hd x (by simp))).2]
 | a :: l,x,h,hd=>by
  have ih:=vQ hp ht h.2 (fun d hm=>hd d (Qb _ hm));have e:=(mc ht (fun d hd=>hp.vr _ (hp.aQ hd).1) (hd x (by simp))).2;rw[h.1] at e;exact⟨rfl,by rw[<-e];exact ih⟩
structure jj (g:Gr) (p:Pt) (aa:List (List Int)) (o:Int) (A:List Int) (t:Int) (B:List Int):Prop where
 ring:Ring (ay g aa) (o :: A++t :: B)
 tn:((o :: A++t :: B).map g.tail).Nodup
 dr:∀ d∈o :: A++t :: B,d∈p.ag
theorem cL.bg (h:cL g p aa F) (hf:f∈F) {o t:Int} {A B:List Int} (hr:bm f (o :: A++t :: B)):jj g p aa o A t B :=
 ⟨(h.rings.ring f hf).wA hr,((hr.perm.map _).nodup_iff).1 (h.simple f hf),fun _d hd=>h.all.mem_iff.1 (Qh.2 ⟨f,hf,hr.perm.mem_iff.2 hd⟩)⟩
theorem jj.symm {o t:Int} {A B:List Int} (h:jj g p aa o A t B):jj g p aa t B o A :=
 ⟨Ring.aa h.ring,((Qi.map _).nodup_iff).1 h.tn,fun d hd=>h.dr d (Qi.mem_iff.1 hd)⟩
theorem jj.link (hp:aH g p) (ht:aT g p aa) {o t:Int} {A B:List Int} (h:jj g p aa o A t B):eR g (g.tail o) (o :: A) (g.tail t):=by
 have h':Trail (ay g aa) o (A++t :: B) o:=h.ring;rw[Trail.append] at h';exact vQ hp ht h'.1 fun d hd=>h.dr d (Qa.2 (Qg hd))
theorem jj.ne {o t:Int} {A B:List Int} (h:jj g p aa o A t B) {d e:Int} (hd:d∈o :: A) (he:e∈t :: B):g.tail d≠g.tail e:=by
 have:=h.tn;rw[Qk,Qc] at this;exact this.2.2 _ (Qe.2 ⟨d,hd,rfl⟩) _ (Qe.2 ⟨e,he,rfl⟩)
theorem jj.step {o t:Int} {A B:List Int} (h:jj g p aa o A t B) {e:Int} (he:e∈o :: A++t :: B) (h1:g.tail (ay g aa e)≠g.tail o) (h2:g.tail (ay g aa e)≠g.tail t) :
  e∈o :: A↔ay g aa e∈o :: A:=by
 constructor
 ·intro q
  rcases DE h.ring q with r | r
  ·exact r
  rw[r] at h2;exact absurd rfl h2
 intro q;rcases Qa.1 he with r | r
 ·exact r
 rcases DE h.symm.ring r with s | s
 ·exact absurd rfl (h.ne q s)
 rw[s] at h1;exact absurd rfl h1
theorem tB {o t:Int} {A B:List Int} (h:jj g p aa o A t B):(o :: A++t :: B).Nodup:=du h.tn
def ij (M K:List Int) (d:Int):Bool:=decide (d∈M) ^^ decide (d∈K)
structure DV (g:Gr) (p:Pt) (aa:List (List Int)) (F:List (List Int)) (M K:List Int) (x y:Int) (φ:Int->Bool):Prop where
 sym:∀ d∈p.ag,φ (aE d)=φ d
 next:∀ d∈p.ag,(φ (ay g aa d) ^^ ij M K (ay g aa d))=(φ d ^^ ij M K d)
theorem EB (h:cL g p aa F) (hf:f∈F) (hk:k∈F) (_hne:f≠k) {o t u v:Int} {A B C D:List Int} (rf:bm f (o :: A++t :: B)) (rk:bm k (u :: C++v :: D)) (hx:g.tail u=g.tail o) (hy:g.tail v=g.tail t) :
  ∃ φ,DV g p aa F (o :: A) (u :: C) (g.tail o) (g.tail t) φ:=by
 have hp:=Pt.aF h.pe;have a1:=h.bg hf rf;have a2:=h.bg hk rk;have l1:=a1.link hp h.js;have l2:=a2.link hp h.js;rw[hx,hy] at l2;have n1:=(Qc.1 (tB a1)).1;have n2:=(Qc.1 (tB a2)).1;obtain⟨χ,ns⟩:=h.EE.Ww (c:=fun e=>hZ (o :: A) e ^^ hZ (u :: C) e) fun w hw=>by
  rw[mT,fH hp h.js hw l1 (fun d hd=>a1.dr d (Qa.2 (Qg hd))),fH hp h.js hw l2 (fun d hd=>a2.dr d (Qa.2 (Qg hd)))];simp
 refine⟨fun d=>χ d ^^ ij (o :: A) (u :: C) d,fun d hd=>?_,fun d hd=>?_⟩
 ·show (χ (aE d) ^^ _)=(χ d ^^ _)
  rw[ns.aE d hd,fp n1,fp n2];unfold ij;cases χ d <;> cases decide (d∈o :: A) <;> cases decide (aE d∈o :: A) <;> cases decide (d∈u :: C) <;> cases decide (aE d∈u :: C) <;> rfl
 show ((χ _ ^^ ij _ _ _) ^^ ij _ _ _)=((χ d ^^ ij _ _ _) ^^ ij _ _ _);rw[ns.next d hd];cases χ d <;> cases ij (o :: A) (u :: C) (ay g aa d) <;> cases ij (o :: A) (u :: C) d <;> rfl
variable {M K : List Int} {φ : Int -> Bool}
theorem DV.sX (h:cL g p aa F) (hc:DV g p aa F M K x y φ) {j:List Int} (hj:j∈F) {d e:Int} (hd:d∈j) (he:e∈j):(φ d ^^ ij M K d)=(φ e ^^ ij M K e) :=
 xk (f:=fun d=>φ d ^^ ij M K d) (h.rings.ring j hj) (fun w hw=>hc.next w (h.all.mem_iff.1 (Qh.2 ⟨j,hj,hw⟩))) d hd e he
theorem xS (h:cL g p aa F) {ψ m:Int->Bool} (h1:∀ d∈p.ag,ψ (aE d)=ψ d) (h2:∀ d∈p.ag,(ψ (ay g aa d) ^^ m (ay g aa d))=(ψ d ^^ m d)) {v:Int}
  (hm:∀ d∈p.ag,g.tail (ay g aa d)=v->m (ay g aa d)=m d) {d e:Int} (hd:d∈p.ag) (he:e∈p.ag) (Y7:g.tail d=v) (pA:g.tail e=v):ψ d=ψ e:=by
 have hp:=Pt.aF h.pe;obtain⟨l,hl,AJ⟩:=at_ring hp h.js hd;have hv:=(hp.aQ hd).1;have dM:∀ w∈d :: l,w∈p.ag/\g.tail w=g.tail d:=fun w hw=>(at_mem hp h.js hv).1 (AJ.mem_iff.1 hw);have:=lg (f:=ψ) hl (fun w hw=>by
  obtain⟨w1,w2⟩:=dM w hw;have hn:=mc h.js (fun d hd=>hp.vr _ (hp.aQ hd).1) (bu w1);have e1:ay g aa (aE w)=before g aa w:=by unfold ay;rw[aS]
  have e2:g.head (aE w)=g.tail w:=by rw[<-aA,aS]
  have k1:=h2 _ (bu w1);rw[hm _ (bu w1) (by rw[hn.2,e2,w2,Y7]),e1,h1 w w1] at k1
  revert k1
  cases ψ (before g aa w) <;> cases ψ w <;> cases m (aE w) <;> simp) e (AJ.mem_iff.2 ((at_mem hp h.js hv).2 ⟨he,pA.trans Y7.symm⟩))
 exact this.symm
theorem AE (h:cL g p aa F) (hf:f∈F) {o t:Int} {A B:List Int} (rf:bm f (o :: A++t :: B)) {d:Int} (hd:d∈p.ag) (h1:g.tail (ay g aa d)≠g.tail o) (h2:g.tail (ay g aa d)≠g.tail t) :
  decide (ay g aa d∈o :: A)=decide (d∈o :: A):=by
 have a1:=h.bg hf rf;obtain⟨j,hj,WY⟩:=Qh.1 (h.all.mem_iff.2 hd);have hnj:ay g aa d∈j:=((h.rings.ring j hj).l8).mem_iff.1 (Qe.2 ⟨d,WY,rfl⟩);by_cases q:j=f
 ·subst q
  exact decide_eq_decide.2 (a1.step (rf.perm.mem_iff.1 WY) h1 h2).symm
 have off:∀ w∈j,w ∉ o :: A:=fun w hw r=>q (dP h.rings.nodup hj hf hw (rf.perm.mem_iff.2 (Qa.2 (Qg r))));simp only[off _ WY,off _ hnj]
theorem DV.iD (h:cL g p aa F) (hf:f∈F) (hk:k∈F) {o t u v:Int} {A B C D:List Int} (rf:bm f (o :: A++t :: B)) (rk:bm k (u :: C++v :: D)) (hx:g.tail u=g.tail o) (hy:g.tail v=g.tail t)
  (hc:DV g p aa F (o :: A) (u :: C) (g.tail o) (g.tail t) φ) {d e:Int} (hd:d∈p.ag) (he:e∈p.ag) (nR:g.tail d=g.tail e) (h1:g.tail d≠g.tail o) (h2:g.tail d≠g.tail t):φ d=φ e :=
 xS h hc.sym hc.next (v:=g.tail d) (fun w hw B8=>by
  unfold ij;rw[AE h hf rf hw (by rw[B8];exact h1) (by rw[B8];exact h2),AE h hk rk hw (by rw[B8,hx];exact h1) (by rw[B8,hy];exact h2)]) hd he rfl nR.symm
theorem ju {L:List Int} {v:Int} (h:v∈L.map g.tail):∃ d∈L,g.tail d=v:=by
 obtain⟨d,h1,h2⟩:=Qe.1 h;exact⟨d,h1,h2⟩
theorem x8 {k:List Int} (hx:x∈k.map g.tail) (hy:y∈k.map g.tail) (bh:x≠y):∃ u C v D,bm k (u :: C++v :: D)/\g.tail u=x/\g.tail v=y:=by
 obtain⟨u,hu,e1⟩:=ju hx;obtain⟨v,hv,e2⟩:=ju hy;obtain⟨U,V,rfl⟩:=Qd hu;have hr:bm (U++u :: V) (u :: (V++U)):=⟨U,u :: V,rfl,rfl⟩;have hm:v∈V++U:=by
  rcases Qf.1 (hr.perm.mem_iff.1 hv) with q | q
  ·rw[q,e1] at e2;exact absurd e2 bh
  exact q
 obtain⟨C,D,e⟩:=Qd hm;exact⟨u,C,v,D,by rw[e] at hr;exact hr,e1,e2⟩
theorem Hz (h:cL g p aa F) (hf:f∈F) (hk:k∈F) {j:List Int} (hj:j∈F) (sW:f≠k) (SJ:f≠j) (M5:k≠j) {z w:Int} {A B:List Int} (hr:bm (f.map g.tail) (x :: A++y :: B)) (hxk:x∈k.map g.tail) (hyk:y∈k.map g.tail)
  (hzj:z∈j.map g.tail) (hwj:w∈j.map g.tail) (hz:z∈A) (hw:w∈B):False:=by
 obtain⟨E,hE,hEm⟩:=mM hr;obtain⟨o,C1,t,C2,rfl,rfl,rfl,rfl,rfl⟩:=oX hEm;have fa:=h.bg hf hE;have bh:g.tail o≠g.tail t:=fa.ne (by simp) (by simp);obtain⟨u,C,v,D,rk,hx,hy⟩:=x8 hxk hyk bh;obtain⟨φ,hc⟩:=EB h hf hk sW hE rk hx hy;obtain⟨d1,b1,rfl⟩:=Qe.1 hz;obtain⟨d2,b2,rfl⟩:=Qe.1 hw;obtain⟨e1,b3,b4⟩:=ju hzj;obtain⟨e2,b5,b6⟩:=ju hwj;have dM:∀ {l d},l∈F->d∈l->d∈p.ag:=fun hl hd=>h.all.mem_iff.1 (Qh.2 ⟨_,hl,hd⟩);have m1:d1∈o :: C1++t :: C2:=by simp[b1]
 have m2:d2∈o :: C1++t :: C2:=by simp[b2]
 have hn:=fa.tn;have ne1:g.tail d1≠g.tail o:=fun q=>by
  simp only[Qm,Qn,Qj] at hn;exact hn.1 (by rw[<-q];simp;exact Qg ⟨d1,b1,rfl⟩)
 have ne2:g.tail d2≠g.tail t:=fun q=>by
  have hn:=fa.symm.tn;simp only[Qm,Qn,Qj] at hn;exact hn.1 (by rw[<-q];simp;exact Qg ⟨d2,b2,rfl⟩)
 have v1:=hc.iD h hf hk hE rk hx hy (fa.dr _ m1) (dM hj b3) b4.symm ne1 (fa.ne (Qb _ b1) (by simp));have v2:=hc.iD h hf hk hE rk hx hy (fa.dr _ m2) (dM hj b5) b6.symm (fun q=>fa.ne (d:=o) (e:=d2) (by simp) (Qb _ b2) q.symm) ne2;have c1:=hc.sX h hj b3 b5;have c2:=hc.sX h hf (hE.perm.mem_iff.2 m1) (hE.perm.mem_iff.2 m2);have Hy:∀ d∈j,ij (o :: C1) (u :: C) d=false:=fun d hd=>by
  have q1:d ∉ o :: C1:=fun r=>SJ (dP h.rings.nodup hf hj (hE.perm.mem_iff.2 (Qa.2 (Qg r))) hd);have q2:d ∉ u :: C:=fun r=>M5 (dP h.rings.nodup hk hj (rk.perm.mem_iff.2 (Qa.2 (Qg r))) hd);unfold ij;simp only[q1,q2];rfl
 have zr:∀ d∈o :: C1++t :: C2,d ∉ u :: C:=fun d hd r=>sW (dP h.rings.nodup hf hk (hE.perm.mem_iff.2 hd) (rk.perm.mem_iff.2 (Qa.2 (Qg r))));have i1:d1∈o :: C1:=Qb _ b1;have i2:d2 ∉ o :: C1:=fun r=>fa.ne r (Qb _ b2) rfl;have k1:ij (o :: C1) (u :: C) d1=true:=by unfold ij;simp only[i1,zr d1 m1];rfl
 have k2:ij (o :: C1) (u :: C) d2=false:=by unfold ij;simp only[i2,zr d2 m2];rfl
 rw[Hy e1 b3,Hy e2 b5,<-v1,<-v2] at c1;rw[k1,k2] at c2
 revert c1 c2
 cases φ d1 <;> cases φ d2 <;> simp
theorem H5 (h:cL g p aa F) (hf:f∈F) (hk:k∈F) (sW:f≠k) {S T:List Int} (hS:∀ v∈S,v∈k.map g.tail) (hT:∀ v∈T,v∈k.map g.tail) (hc:iO (f.map g.tail) S T):iO (k.map g.tail) S T:=by
 rcases hc with ⟨x,hxS,y,hyS,z,hzT,w,hwT,A,B,hr,hz,hw⟩ | htri
 ·obtain⟨E,hE,hEm⟩:=mM hr
  obtain⟨o,C1,t,C2,rfl,rfl,rfl,rfl,rfl⟩:=oX hEm;have fa:=h.bg hf hE;have bh:g.tail o≠g.tail t:=fa.ne (by simp) (by simp);obtain⟨u,C,v,D,rk,hx,hy⟩:=x8 (hS _ hxS) (hS _ hyS) bh;have ka:=h.bg hk rk;obtain⟨φ,hc⟩:=EB h hf hk sW hE rk hx hy;obtain⟨d1,b1,rfl⟩:=Qe.1 hz;obtain⟨d2,b2,rfl⟩:=Qe.1 hw;obtain⟨e1,b3,b4⟩:=ju (hT _ hzT);obtain⟨e2,b5,b6⟩:=ju (hT _ hwT);have dM:∀ {l d},l∈F->d∈l->d∈p.ag:=fun hl hd=>h.all.mem_iff.1 (Qh.2 ⟨_,hl,hd⟩);have m1:d1∈o :: C1++t :: C2:=by simp[b1]
  have m2:d2∈o :: C1++t :: C2:=by simp[b2]
  have hn:=fa.tn;have ne1:g.tail d1≠g.tail o:=fun q=>by
   simp only[Qm,Qn,Qj] at hn;exact hn.1 (by rw[<-q];simp;exact Qg ⟨d1,b1,rfl⟩)
  have ne2:g.tail d2≠g.tail t:=fun q=>by
   have hn:=fa.symm.tn;simp only[Qm,Qn,Qj] at hn;exact hn.1 (by rw[<-q];simp;exact Qg ⟨d2,b2,rfl⟩)
  have ne3:g.tail d1≠g.tail t:=fa.ne (Qb _ b1) (by simp);have ne4:g.tail d2≠g.tail o:=fun q=>fa.ne (d:=o) (e:=d2) (by simp) (Qb _ b2) q.symm;have v1:=hc.iD h hf hk hE rk hx hy (fa.dr _ m1) (dM hk b3) b4.symm ne1 ne3;have v2:=hc.iD h hf hk hE rk hx hy (fa.dr _ m2) (dM hk b5) b6.symm ne4 ne2;have c1:=hc.sX h hk b3 b5;have c2:=hc.sX h hf (hE.perm.mem_iff.2 m1) (hE.perm.mem_iff.2 m2);have agE:∀ d∈k,d ∉ o :: C1:=fun d hd r=>sW (dP h.rings.nodup hf hk (hE.perm.mem_iff.2 (Qa.2 (Qg r))) hd);have zr:∀ d∈o :: C1++t :: C2,d ∉ u :: C:=fun d hd r=>sW (dP h.rings.nodup hf hk (hE.perm.mem_iff.2 hd) (rk.perm.mem_iff.2 (Qa.2 (Qg r))));have i1:d1∈o :: C1:=Qb _ b1;have i2:d2 ∉ o :: C1:=fun r=>fa.ne r (Qb _ b2) rfl;have k1:ij (o :: C1) (u :: C) d1=true:=by unfold ij;simp only[i1,zr d1 m1];rfl
  have k2:ij (o :: C1) (u :: C) d2=false:=by unfold ij;simp only[i2,zr d2 m2];rfl
  have k3:ij (o :: C1) (u :: C) e1=decide (e1∈u :: C):=by unfold ij;simp only[agE e1 b3,decide_false,Qw]
  have k4:ij (o :: C1) (u :: C) e2=decide (e2∈u :: C):=by unfold ij;simp only[agE e2 b5,decide_false,Qw]
  rw[k3,k4,<-v1,<-v2] at c1;rw[k1,k2] at c2;have hx2:decide (e1∈u :: C)=!decide (e2∈u :: C):=by
   revert c1 c2
   cases φ d1 <;> cases φ d2 <;> cases decide (e1∈u :: C) <;> cases decide (e2∈u :: C) <;> simp
  have cV:∀ {e:Int},e∈k->e∈u :: C\/e∈v :: D:=fun he=>Qa.1 (rk.perm.mem_iff.1 he);have hrk:bm (k.map g.tail) (g.tail o :: C.map g.tail++g.tail t :: D.map g.tail):=by
   obtain⟨U,V,r1,r2⟩:=rk;refine⟨U.map g.tail,V.map g.tail,by rw[r1,Qk],?_⟩;rw[<-Qk,<-r2];simp[hx,hy]
  have inC:∀ {e:Int},e∈u :: C->g.tail e≠g.tail o->g.tail e∈C.map g.tail:=fun he q=>by
   rcases Qf.1 he with r | r
   ·rw[r,hx] at q;exact absurd rfl q
   exact Qe.2 ⟨_,r,rfl⟩
  have inD:∀ {e:Int},e∈v :: D->g.tail e≠g.tail t->g.tail e∈D.map g.tail:=fun he q=>by
   rcases Qf.1 he with r | r
   ·rw[r,hy] at q;exact absurd rfl q
   exact Qe.2 ⟨_,r,rfl⟩
  by_cases q1:e1∈u :: C
  ·have q2:e2 ∉ u :: C:=fun q=>by simp[q1,q] at hx2
   refine Qg ⟨_,hxS,_,hyS,_,hzT,_,hwT,_,_,hrk,?_,?_⟩
   ·rw[<-b4];exact inC q1 (by rw[b4];exact ne1)
   rw[<-b6];exact inD ((cV b5).resolve_left q2) (by rw[b6];exact ne2)
  have q2:e2∈u :: C:=Classical.byContradiction fun q=>by
   have z1:decide (e1∈u :: C)=false:=decide_eq_false q1;have z2:decide (e2∈u :: C)=false:=decide_eq_false q;rw[z1,z2] at hx2;cases hx2
  refine Qg ⟨_,hxS,_,hyS,_,hwT,_,hzT,_,_,hrk,?_,?_⟩
  ·rw[<-b6];exact inC q2 (by rw[b6];exact ne4)
  rw[<-b4];exact inD ((cV b3).resolve_left q1) (by rw[b4];exact ne3)
 exact Qu htri
variable {g : Gr} {p : Pt} {aa : List (List Int)} {F : List (List Int)} {f k j : List Int}
theorem Kc (h:cL g p aa F) (hf:f∈F) (hk:k∈F) (hj:j∈F) (sW:f≠k) (SJ:f≠j) (M5:k≠j) {ox oy oz u1 v1 u2 v2 u3 v3:Int} {P Q R C1 D1 C2 D2 C3 D3:List Int} (hr:bm f (ox :: P++oy :: Q++oz :: R))
  (r1:bm k (u1 :: C1++v1 :: D1)) (r2:bm k (u2 :: C2++v2 :: D2)) (r3:bm k (u3 :: C3++v3 :: D3)) (a1:g.tail u1=g.tail ox) (b1:g.tail v1=g.tail oy) (a2:g.tail u2=g.tail oy) (b2:g.tail v2=g.tail oz) (a3:g.tail u3=g.tail oz) (b3:g.tail v3=g.tail ox)
  (s:Bool) (hs:∀ d∈k,(decide (d∈u1 :: C1) ^^ (decide (d∈u2 :: C2) ^^ decide (d∈u3 :: C3)))=s) (jx:g.tail ox∈j.map g.tail) (jy:g.tail oy∈j.map g.tail) (jz:g.tail oz∈j.map g.tail):False:=by
 have f1:bm f (ox :: P++oy :: (Q++oz :: R)):=by simpa using hr
 have f2:bm f (oy :: Q++oz :: (R++ox :: P)):=f1.trans ⟨ox :: P,oy :: (Q++oz :: R),rfl,by simp⟩;have f3:bm f (oz :: R++ox :: (P++oy :: Q)):=f1.trans ⟨ox :: P++oy :: Q,oz :: R,by simp,by simp⟩;obtain⟨Nk,c1⟩:=EB h hf hk sW f1 r1 a1 b1;obtain⟨Si,c2⟩:=EB h hf hk sW f2 r2 a2 b2;obtain⟨MV,c3⟩:=EB h hf hk sW f3 r3 a3 b3;obtain⟨ex,ex1,ex2⟩:=ju jx;obtain⟨ey,ey1,ey2⟩:=ju jy;obtain⟨ez,ez1,ez2⟩:=ju jz;have fa1:=h.bg hf f1;have fa2:=h.bg hf f2;have fa3:=h.bg hf f3;have xy:g.tail ox≠g.tail oy:=fa1.ne (by simp) (by simp);have yz:g.tail oy≠g.tail oz:=fa2.ne (by simp) (by simp);have zx:g.tail oz≠g.tail ox:=fa3.ne (by simp) (by simp);have dM:∀ {l d},l∈F->d∈l->d∈p.ag:=fun hl hd=>h.all.mem_iff.1 (Qh.2 ⟨_,hl,hd⟩);have mx:ox∈f:=f1.perm.mem_iff.2 (by simp);have my:oy∈f:=f1.perm.mem_iff.2 (by simp);have mz:oz∈f:=f1.perm.mem_iff.2 (by simp);have v1':=c1.iD h hf hk f1 r1 a1 b1 (dM hf mz) (dM hj ez1) ez2.symm zx (Ne.symm yz);have v2':=c2.iD h hf hk f2 r2 a2 b2 (dM hf mx) (dM hj ex1) ex2.symm xy (Ne.symm zx);have v3':=c3.iD h hf hk f3 r3 a3 b3 (dM hf my) (dM hj ey1) ey2.symm yz (Ne.symm xy);have inf:∀ {M:List Int} {N:List Int} {d},bm f (M++N)->d∈M->d∈f:=fun hr hd=>hr.perm.mem_iff.2 (Qa.2 (Qg hd));have zr:∀ {d} {C D:List Int},d∈f->bm k (C++D)->d ∉ C:=fun hd hr q=>sW (dP h.rings.nodup hf hk hd (hr.perm.mem_iff.2 (Qa.2 (Qg q))));have Hy:∀ {d} {M N C D:List Int},d∈j->bm f (M++N)->bm k (C++D)->ij M C d=false:=fun hd hr cH=>by
  have q1:=fun q=>SJ (dP h.rings.nodup hf hj (hr.perm.mem_iff.2 (Qa.2 (Qg q))) hd);have q2:=fun q=>M5 (dP h.rings.nodup hk hj (cH.perm.mem_iff.2 (Qa.2 (Qg q))) hd);unfold ij;rw[decide_eq_false q1,decide_eq_false q2];rfl
 have w1:=c1.sX h hf mx mz;have w3:=c3.sX h hf mx my;have k1:ij (ox :: P) (u1 :: C1) ox=true:=by unfold ij;rw[decide_eq_false (zr mx r1)];simp
 have k2:ij (ox :: P) (u1 :: C1) oz=false:=by
  unfold ij;rw[decide_eq_false (zr mz r1),decide_eq_false fun q=>fa1.ne q (e:=oz) (by simp) rfl];rfl
 have k3:ij (oz :: R) (u3 :: C3) ox=false:=by
  unfold ij;rw[decide_eq_false (zr mx r3),decide_eq_false fun q=>fa3.ne q (e:=ox) (by simp) rfl];rfl
 have k4:ij (oz :: R) (u3 :: C3) oy=false:=by
  unfold ij;rw[decide_eq_false (zr my r3),decide_eq_false fun q=>fa3.ne q (e:=oy) (by simp) rfl];rfl
 rw[k1,k2] at w1;rw[k3,k4] at w3;have j1:=c1.sX h hj ez1 ex1;have j3:=c3.sX h hj ey1 ex1;rw[Hy ez1 f1 r1,Hy ex1 f1 r1] at j1;rw[Hy ey1 f3 r3,Hy ex1 f3 r3] at j3
 -- the three together
 have hm:∀ d,(ij (ox :: P) (u1 :: C1) d ^^ (ij (oy :: Q) (u2 :: C2) d ^^ ij (oz :: R) (u3 :: C3) d))=(decide (d∈f) ^^ (s&&decide (d∈k))):=fun d=>by
  have e1:(decide (d∈ox :: P) ^^ (decide (d∈oy :: Q) ^^ decide (d∈oz :: R)))=decide (d∈f):=by
   by_cases hd:d∈f
   ·have Cf:=hr.perm.mem_iff.1 hd
    have n1:d∈ox :: P->d ∉ oy :: Q/\d ∉ oz :: R:=fun q=>⟨fun r=>fa1.ne q (e:=d) (by simp at r ⊢;rcases r with r | r <;> simp[r]) rfl,fun r=>fa1.ne q (e:=d) (by simp at r ⊢;rcases r with r | r <;> simp[r]) rfl⟩;have n2:d∈oy :: Q->d ∉ oz :: R:=fun q r=>fa2.ne q (e:=d) (by simp at r ⊢;rcases r with r | r <;> simp[r]) rfl;rw[decide_eq_true hd];rcases Qa.1 Cf with q | q
    ·rcases Qa.1 q with q | q
     ·rw[decide_eq_true q,decide_eq_false (n1 q).1,decide_eq_false (n1 q).2];rfl
     rw[decide_eq_false fun r=>(n1 r).1 q,decide_eq_true q,decide_eq_false (n2 q)];rfl
    rw[decide_eq_false fun r=>(n1 r).2 q,decide_eq_false fun r=>n2 r q,decide_eq_true q];rfl
   rw[decide_eq_false hd,decide_eq_false fun q=>hd (inf f1 q),decide_eq_false fun q=>hd (inf f2 q),decide_eq_false fun q=>hd (inf f3 q)];rfl
  have e2:(decide (d∈u1 :: C1) ^^ (decide (d∈u2 :: C2) ^^ decide (d∈u3 :: C3)))=(s&&decide (d∈k)):=by
   by_cases hd:d∈k
   ·rw[hs d hd,decide_eq_true hd,Bool.and_true]
   have ik:∀ {M N:List Int},bm k (M++N)->d ∉ M:=fun hr q=>hd (hr.perm.mem_iff.2 (Qa.2 (Qg q)));rw[decide_eq_false hd,decide_eq_false (ik r1),decide_eq_false (ik r2),decide_eq_false (ik r3),Bool.and_false];rfl
  rw[<-e1,<-e2];unfold ij;generalize decide (d∈ox :: P)=z1;generalize decide (d∈oy :: Q)=z2;generalize decide (d∈oz :: R)=z3;generalize decide (d∈u1 :: C1)=z4;generalize decide (d∈u2 :: C2)=z5;generalize decide (d∈u3 :: C3)=z6;cases z1 <;> cases z2 <;> cases z3 <;> cases z4 <;> cases z5 <;> cases z6 <;> rfl
 have same:∀ d∈p.ag,∀ {l},l∈F->(ay g aa d∈l↔d∈l):=fun d hd l hl=>by
  obtain⟨i,hi,hdi⟩:=Qh.1 (h.all.mem_iff.2 hd);have hni:ay g aa d∈i:=((h.rings.ring i hi).l8).mem_iff.1 (Qe.2 ⟨d,hdi,rfl⟩);exact⟨fun q=>(dP h.rings.nodup hi hl hni q) ▸ hdi,fun q=>(dP h.rings.nodup hi hl hdi q) ▸ hni⟩
 have all:=xS h (ψ:=fun d=>Nk d ^^ (Si d ^^ MV d)) (m:=fun d=>ij (ox :: P) (u1 :: C1) d ^^ (ij (oy :: Q) (u2 :: C2) d ^^ ij (oz :: R) (u3 :: C3) d))
  (fun d hd=>by show (Nk _ ^^ (Si _ ^^ MV _))=_;rw[c1.sym d hd,c2.sym d hd,c3.sym d hd])
  (fun d hd=>by
   have q1:=c1.next d hd;have q2:=c2.next d hd;have q3:=c3.next d hd
   revert q1 q2 q3
   show _->_->_->((Nk (ay g aa d) ^^ (Si (ay g aa d) ^^ MV (ay g aa d))) ^^ (ij (ox :: P) (u1 :: C1) (ay g aa d) ^^ (ij (oy :: Q) (u2 :: C2) (ay g aa d) ^^ ij (oz :: R) (u3 :: C3) (ay g aa d))))=((Nk d ^^ (Si d ^^ MV d)) ^^ (ij (ox :: P) (u1 :: C1) d ^^ (ij (oy :: Q) (u2 :: C2) d ^^ ij (oz :: R) (u3 :: C3) d)));generalize ij (ox :: P) (u1 :: C1) (ay g aa d)=m1;generalize ij (oy :: Q) (u2 :: C2) (ay g aa d)=m2;generalize ij (oz :: R) (u3 :: C3) (ay g aa d)=m3;generalize ij (ox :: P) (u1 :: C1) d=m4;generalize ij (oy :: Q) (u2 :: C2) d=m5;generalize ij (oz :: R) (u3 :: C3) d=m6;generalize Nk (ay g aa d)=p1;generalize Si (ay g aa d)=p2;generalize MV (ay g aa d)=p3;intro q1 q2 q3;have e1:p1=((Nk d ^^ m4) ^^ m1):=by rw[<-q1];cases p1 <;> cases m1 <;> rfl
   have e2:p2=((Si d ^^ m5) ^^ m2):=by rw[<-q2];cases p2 <;> cases m2 <;> rfl
   have e3:p3=((MV d ^^ m6) ^^ m3):=by rw[<-q3];cases p3 <;> cases m3 <;> rfl
   rw[e1,e2,e3];generalize Nk d=a;generalize Si d=b;generalize MV d=c;cases m1 <;> cases m2 <;> cases m3 <;> cases m4 <;> cases m5 <;> cases m6 <;> cases a <;> cases b <;> cases c <;> rfl)
  (v:=g.tail ox) (fun d hd _=>by
   show (ij _ _ _ ^^ (ij _ _ _ ^^ ij _ _ _))=(ij _ _ _ ^^ (ij _ _ _ ^^ ij _ _ _));rw[hm,hm,decide_eq_decide.2 (same d hd hf),decide_eq_decide.2 (same d hd hk)]) (dM hf mx) (dM hj ex1) rfl ex2
 have all:(Nk ox ^^ (Si ox ^^ MV ox))=(Nk ex ^^ (Si ex ^^ MV ex)):=all;rw[v2'] at all;rw[v1'] at w1;rw[v3'] at w3
 revert all w1 w3 j1 j3
 cases Nk ox <;> cases Nk ex <;> cases Nk ez <;> cases Si ex <;> cases MV ox <;> cases MV ex <;> cases MV ey <;> simp
theorem xq {k:List Int} {x y z:Int} (hx:x∈k.map g.tail) (hy:y∈k.map g.tail) (hz:z∈k.map g.tail) (fW:x≠y) (qn:y≠z) (uK:x≠z) :
  ∃ ox P oy Q oz R,(bm k (ox :: P++oy :: Q++oz :: R)\/bm k (ox :: P++oz :: Q++oy :: R))/\g.tail ox=x/\g.tail oy=y/\g.tail oz=z:=by
 obtain⟨u,C,v,D,hr,e1,e2⟩:=x8 hx hy fW;obtain⟨w,hw,e3⟩:=ju hz;have hw':=hr.perm.mem_iff.1 hw;have w1:w≠u:=fun q=>uK (by rw[<-e1,<-e3,q]);have w2:w≠v:=fun q=>qn (by rw[<-e2,<-e3,q]);rcases Qa.1 hw' with q | q
 ·obtain⟨C1,C2,rfl⟩:=Qd ((Qf.1 q).resolve_left w1)
  exact⟨u,C1,v,C2,w,D,Qu (by simpa using hr),e1,e2,e3⟩
 obtain⟨D1,D2,rfl⟩:=Qd ((Qf.1 q).resolve_left w2);exact⟨u,C,v,D1,w,D2,Qg (by simpa using hr),e1,e2,e3⟩
theorem Ll (h:cL g p aa F) (hf:f∈F) (hk:k∈F) (hj:j∈F) (sW:f≠k) (SJ:f≠j) (M5:k≠j) {x y z:Int} (fW:x≠y) (qn:y≠z) (uK:x≠z)
  (hx:x∈f.map g.tail/\x∈k.map g.tail/\x∈j.map g.tail) (hy:y∈f.map g.tail/\y∈k.map g.tail/\y∈j.map g.tail) (hz:z∈f.map g.tail/\z∈k.map g.tail/\z∈j.map g.tail):False:=by
 have key:∀ {x y z:Int},x≠y->y≠z->x≠z->x∈k.map g.tail/\x∈j.map g.tail->y∈k.map g.tail/\y∈j.map g.tail->z∈k.map g.tail/\z∈j.map g.tail->∀ {ox P oy Q oz R},bm f (ox :: P++oy :: Q++oz :: R)->g.tail ox=x->g.tail oy=y->g.tail oz=z->False:=by
  intro x y z fW qn uK hx hy hz ox P oy Q oz R hr e1 e2 e3;subst e1 e2 e3;obtain⟨kx,P',ky,Q',kz,R',TD,i1,i2,i3⟩:=xq hx.1 hy.1 hz.1 fW qn uK;have Va:k.Nodup:=du (h.simple k hk);rcases TD with q | q
  ·have r1:bm k (kx :: P'++ky :: (Q'++kz :: R')):=by simpa using q
   have r2:bm k (ky :: Q'++kz :: (R'++kx :: P')):=r1.trans ⟨kx :: P',ky :: (Q'++kz :: R'),rfl,by simp⟩;have r3:bm k (kz :: R'++kx :: (P'++ky :: Q')):=r1.trans ⟨kx :: P'++ky :: Q',kz :: R',by simp,by simp⟩;have n1:=(r1.perm.nodup_iff).1 Va;have n2:=(r2.perm.nodup_iff).1 Va;have g1:∀ d∈kx :: P',d ∉ ky :: Q'/\d ∉ kz :: R':=fun d hd=>⟨fun r=>(Qc.1 n1).2.2 d hd d (by simp at r ⊢;rcases r with r | r <;> simp[r]) rfl,fun r=>(Qc.1 n1).2.2 d hd d (by simp at r ⊢;rcases r with r | r <;> simp[r]) rfl⟩;have g2:∀ d∈ky :: Q',d ∉ kz :: R':=fun d hd r=>(Qc.1 n2).2.2 d hd d (by simp at r ⊢;rcases r with r | r <;> simp[r]) rfl;refine Kc h hf hk hj sW SJ M5 hr r1 r2 r3 i1 i2 i2 i3 i3 i1 true (fun d hd=>?_) hx.2 hy.2 hz.2;rcases Qa.1 (q.perm.mem_iff.1 hd) with w | w
   ·rcases Qa.1 w with w | w
    ·rw[decide_eq_true w,decide_eq_false (g1 d w).1,decide_eq_false (g1 d w).2];rfl
    rw[decide_eq_false fun r=>(g1 d r).1 w,decide_eq_true w,decide_eq_false (g2 d w)];rfl
   rw[decide_eq_false fun r=>(g1 d r).2 w,decide_eq_false fun r=>g2 d r w,decide_eq_true w];rfl
  -- the other order: x,z,y
  have r1:bm k (kx :: (P'++kz :: Q')++ky :: R'):=by simpa using q
  have r2:bm k (ky :: (R'++kx :: P')++kz :: Q'):=r1.trans ⟨kx :: P'++kz :: Q',ky :: R',by simp,by simp⟩;have r3:bm k (kz :: (Q'++ky :: R')++kx :: P'):=r1.trans ⟨kx :: P',kz :: Q'++ky :: R',by simp,by simp⟩;have n1:=(r1.perm.nodup_iff).1 Va;have g1:∀ d∈ky :: R',d ∉ kx :: P'/\d ∉ kz :: Q':=fun d hd=>⟨fun r=>(Qc.1 n1).2.2 d (by simp at r ⊢;rcases r with r | r <;> simp[r]) d hd rfl,fun r=>(Qc.1 n1).2.2 d (by simp at r ⊢;rcases r with r | r <;> simp[r]) d hd rfl⟩;have g2:∀ d∈kx :: P',d ∉ kz :: Q':=fun d hd r=>by
   have n3:(kx :: P'++kz :: Q').Nodup:=(Qc.1 (show (kx :: P'++kz :: Q'++ky :: R').Nodup by simpa using n1)).1;exact (Qc.1 n3).2.2 d hd d r rfl
  have c1:∀ d,decide (d∈kx :: (P'++kz :: Q'))=(decide (d∈kx :: P') || decide (d∈kz :: Q')):=fun d=>by
   rw[<-Qs];exact decide_eq_decide.2 (by rw[<-Qa];rfl)
  have c2:∀ d,decide (d∈ky :: (R'++kx :: P'))=(decide (d∈ky :: R') || decide (d∈kx :: P')):=fun d=>by
   rw[<-Qs];exact decide_eq_decide.2 (by rw[<-Qa];rfl)
  have c3:∀ d,decide (d∈kz :: (Q'++ky :: R'))=(decide (d∈kz :: Q') || decide (d∈ky :: R')):=fun d=>by
   rw[<-Qs];exact decide_eq_decide.2 (by rw[<-Qa];rfl)
  refine Kc h hf hk hj sW SJ M5 hr r1 r2 r3 i1 i2 i2 i3 i3 i1 false (fun d hd=>?_) hx.2 hy.2 hz.2;rw[c1,c2,c3];rcases Qa.1 (q.perm.mem_iff.1 hd) with w | w
  ·rcases Qa.1 w with w | w
   ·rw[decide_eq_true w,decide_eq_false (g2 d w),decide_eq_false fun r=>(g1 d r).1 w];rfl
   rw[decide_eq_false fun r=>g2 d r w,decide_eq_true w,decide_eq_false fun r=>(g1 d r).2 w];rfl
  rw[decide_eq_false (g1 d w).1,decide_eq_false (g1 d w).2,decide_eq_true w];rfl
 obtain⟨ox,P,oy,Q,oz,R,hr,e1,e2,e3⟩:=xq hx.1 hy.1 hz.1 fW qn uK;rcases hr with hr | hr
 ·exact key fW qn uK hx.2 hy.2 hz.2 hr e1 e2 e3
 exact key uK (Ne.symm qn) fW hx.2 hz.2 hy.2 hr e1 e3 e2
theorem UX (h:cL g p aa F) (hf:f∈F) (hk:k∈F) (hj:j∈F) (sW:f≠k) (SJ:f≠j) (M5:k≠j) {S T:List Int} (hSf:∀ v∈S,v∈f.map g.tail) (hS:∀ v∈S,v∈k.map g.tail) (hT:∀ v∈T,v∈j.map g.tail):¬ iO (f.map g.tail) S T:=by
 rintro (⟨x,hx,y,hy,z,hz,w,hw,A,B,hr,hA,hB⟩ | ⟨x,y,z,hx,hy,hz,fW,qn,uK⟩)
 ·exact Hz h hf hk hj sW SJ M5 hr (hS x hx) (hS y hy) (hT z hz) (hT w hw) hA hB
 exact Ll h hf hk hj sW SJ M5 fW qn uK ⟨hSf x hx.1,hS x hx.1,hT x hx.2⟩ ⟨hSf y hy.1,hS y hy.1,hT y hy.2⟩ ⟨hSf z hz.1,hS z hz.1,hT z hz.2⟩
end Go.Proofs.YtbkjljffnkdcjaaGreat.Plain
