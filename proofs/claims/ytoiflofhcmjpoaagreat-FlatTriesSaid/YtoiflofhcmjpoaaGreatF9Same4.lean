/- ref04.Same: contract. Conditions: parts that lie in memory and read so. -/
import Derived.Test.YtoiflofhcmjpoaaGreatF9DropP
set_option maxRecDepth 100000
set_option maxHeartbeats 2000000
open List renaming mem_append→Qa,mem_singleton→Qb,mem_cons_of_mem→Qc,mem_cons→Qd,nodup_append→Qe,filter_cons_of_pos→Qf,mem_append_left→Qg,cons_append→Qj,filter_cons_of_neg→Qk,append_nil→Ql,mem_flatten→Qn,mem_map→Qo,mem_append_right→Qp,perm_ext_iff_of_nodup→Qq,perm_iff_count→Qr,append_assoc→Qs,flatten_nil→Qt,nodup_cons→Qu,length_pos_iff→Qv,length_append→Qw,flatten_cons→Qx,map_cons→Qy,length_eq_zero_iff→Qz,append_eq_nil_iff→QA,map_append→QB,perm_append_comm→QC,flatten_append→QD,count_append→QE,length→QF,take_left'→QG,nil_append→QH
open Or renaming inl→Qh,inr→Qi
open Classical renaming byContradiction→Qm,em→QI
namespace Go.Proofs.YtoiflofhcmjpoaaGreat
open Go.RowKit Go.Maps
theorem NQ (va vb:Value) (a b:Plain.Pt) (w:World) (ha:dt w va a) (hb:dt w vb b) :
  Calls Tryz.prog 113 #[va,vb] w λe w'=>e=.returned (.bool (decide (a.v=b.v)&&decide (a.e=b.e)))/\ai [] w w':=by
 obtain⟨v1,v2,rfl,h1,h2⟩:=ha;obtain⟨u1,u2,rfl,k1,k2⟩:=hb;obtain⟨av,ae⟩:=a;obtain⟨bv,be⟩:=b;have H1:=lh h1;have H2:=lh h2;have K1:=lh k1;have K2:=lh k2;obtain⟨p1,c1,rfl,-⟩:=h1;obtain⟨p2,c2,rfl,-⟩:=h2;obtain⟨p3,c3,rfl,-⟩:=k1;obtain⟨p4,c4,rfl,-⟩:=k2;have gJ:=lh (show ai [] w ((w.alloc (.cells #[.slice p1 av.length c1,.slice p2 ae.length c2] 27)).alloc (.cells #[.slice p3 bv.length c3,.slice p4 be.length c4] 27)) from (show ai [] w ((w.alloc (.cells #[.slice p1 av.length c1,.slice p2 ae.length c2] 27)).alloc (.cells #[.slice p3 bv.length c3,.slice p4 be.length c4] 27)) from (((ai.refl [] w).alloc _).alloc _)));have cf:=heap_alloc_new w (.cells #[.slice p1 av.length c1,.slice p2 ae.length c2] 27);replace cf:=(show ai [] (w.alloc (.cells #[.slice p1 av.length c1,.slice p2 ae.length c2] 27)) ((w.alloc (.cells #[.slice p1 av.length c1,.slice p2 ae.length c2] 27)).alloc (.cells #[.slice p3 bv.length c3,.slice p4 be.length c4] 27)) from ((ai.refl [] (w.alloc (.cells #[.slice p1 av.length c1,.slice p2 ae.length c2] 27))).alloc _)).heap cf (by simp);have ig:=heap_alloc_new (w.alloc (.cells #[.slice p1 av.length c1,.slice p2 ae.length c2] 27)) (.cells #[.slice p3 bv.length c3,.slice p4 be.length c4] 27);rw[show (w.alloc (.cells #[.slice p1 av.length c1,.slice p2 ae.length c2] 27)).heap.size=w.heap.size+1 by simp] at ig;have HX:=lh (λ(w2:World) (dN:ai [] ((w.alloc (.cells #[.slice p1 av.length c1,.slice p2 ae.length c2] 27)).alloc (.cells #[.slice p3 bv.length c3,.slice p4 be.length c4] 27)) w2)=>(⟨dN.c ((cell_of_row _ _ 0 _ _ _ cf).trans rfl),dN.c ((cell_of_row _ _ 1 _ _ _ cf).trans rfl),dN.c ((cell_of_row _ _ 0 _ _ _ ig).trans rfl),dN.c ((cell_of_row _ _ 1 _ _ _ ig).trans rfl),by have hz:=dN.size;simpa using hz⟩:w2.cell? ⟨w.heap.size,0,none⟩=some (.slice p1 av.length c1)/\w2.cell? ⟨w.heap.size,1,none⟩=some (.slice p2 ae.length c2)/\w2.cell? ⟨w.heap.size+1,0,none⟩=some (.slice p3 bv.length c3)/\w2.cell? ⟨w.heap.size+1,1,none⟩=some (.slice p4 be.length c4)/\w.heap.size+2<=w2.heap.size));clear cf ig;have xJ:=lh (show ((w.alloc (.cells #[.slice p1 av.length c1,.slice p2 ae.length c2] 27)).alloc (.cells #[.slice p3 bv.length c3,.slice p4 be.length c4] 27)).heap.size=w.heap.size+2 by simp);obtain⟨x0,x1,y0,y1,bs⟩:=HX.out _ (ai.refl _ _);go_enter Tryz.func113,Tryz.ntmps113;go_wp2_with fail;generalize ((w.alloc (.cells #[.slice p1 av.length c1,.slice p2 ae.length c2] 27)).alloc (.cells #[.slice p3 bv.length c3,.slice p4 be.length c4] 27))=w1 at *;refine (LH _ _ av bv _ (H1.out.fresh gJ.out) (K1.out.fresh gJ.out)).mono ?_;rintro e w2 ⟨rfl,bI⟩;have bU:=lh (gJ.out.t bI);clear x0 x1 y0 y1 bs;obtain⟨x0,x1,y0,y1,bs⟩:=HX.out _ bI;clear bI;by_cases h0:av=bv
 ·have HE:=lh (show decide (av=bv)=true from decide_eq_true h0)
  rw[HE.out];clear h0;go_wp2_with fail;refine (LH _ _ ae be _ (H2.out.fresh bU.out) (K2.out.fresh bU.out)).mono ?_;rintro e w3 ⟨rfl,dK⟩;have b8:=lh (bU.out.t dK);clear x0 x1 y0 y1 bs dK;go_wp2;go_ret;exact⟨aM (by show _=(decide (av=bv)&&decide (ae=be));rw[HE.out];simp),b8.out⟩
 have HE:=lh (show decide (av=bv)=false from decide_eq_false h0);rw[HE.out];clear h0 x0 x1 y0 y1 bs;go_wp2;go_ret;exact⟨aM (by show _=(decide (av=bv)&&decide (ae=be));rw[HE.out];simp),bU.out⟩
end Go.Proofs.YtoiflofhcmjpoaaGreat
namespace Go.Proofs.YtoiflofhcmjpoaaGreat.Plain
variable {x y u a b d e:Int} {l A B w m:List Int} {p q f:Int->Int} {R F F' bl:List (List Int)}
def lW (x y:Int):List Int->List Int
 | []=>[]
 | z :: l=>if z=x then z :: y :: l else z :: lW x y l
theorem lX {x y:Int} {c:List Int}:∀ {a:List Int},x ∉ a->lW x y (a++x :: c)=a++x :: y :: c
 | [],_=>by simp[lW]
 | z :: a,h=>by
  have hz:z≠x:=λe=>h (by rw[e];simp);have ih:=lX (x:=x) (y:=y) (c:=c) (a:=a) λq=>h (Qc _ q);show (if z=x then z :: y :: (a++x :: c) else z :: lW x y (a++x :: c))=z :: (a++x :: y :: c);rw[if_neg hz,ih]
theorem yx (hx:x∈l):(lW x y l).Perm (y :: l):=by
 grind [kf,lX,bw.swap]
theorem rj (hn:l.Nodup) (hx:x∈l) (hy:y ∉ l):ahead (lW x y l) y=x:=by
 obtain⟨a,c,rfl,h⟩:=kf hx;rw[lX h,show a++x :: y :: c=(a++[x])++y :: c by simp,gz (by
  intro q;apply hy;rcases Qa.1 q with r | r
  ·simp[r]
  simp[Qb.1 r])]
 grind
theorem rN (hn:l.Nodup) (hx:x∈l) (hy:y ∉ l) (hu:u∈l):ahead (lW x y l) u=if ahead l u=x then y else ahead l u:=by
 obtain⟨a,c,rfl,h⟩:=kf hx;rw[lX h];have kr:(a++x :: y :: c).Nodup:=by
  grind
 have hun:u∈a++x :: y :: c:=by
  all_goals grind
 rw[<-BR hn hu,<-BR kr hun];have hm:(x :: c++a).Nodup:=(QC.nodup_iff).1 hn;have WC:u∈x :: (c++a):=by simpa using (QC.mem_iff).1 hu
 have huy:u≠y:=λe=>hy (e ▸ hu);rw[Qj] at hm;rw[Qj,Qj,Qj];generalize c++a=m at *;obtain⟨Mz,hmn⟩:=Qu.1 hm;have A0:ahead (x :: m) x=(m.reverse++[x]).getD 0 0:=by have:=gz (a:=[]) (c:=m) (u:=x) (by simp);simpa using this
 have A1:ahead (x :: y :: m) x=(m.reverse++[y,x]).getD 0 0:=by have:=gz (a:=[]) (c:=y :: m) (u:=x) (by simp);simpa using this
 rcases Qd.1 WC with rfl | q
 ·all_goals grind
 obtain⟨b,d,rfl,hb⟩:=kf q;have hux:u≠x:=λe=>Mz (by grind);have e1:=gz (a:=x :: b) (c:=d) (u:=u) (by grind);have e2:=gz (a:=x :: y :: b) (c:=d) (u:=u) (by grind);rw[show x :: (b++u :: d)=x :: b++u :: d by simp,show x :: y :: (b++u :: d)=x :: y :: b++u :: d by simp,e1,e2];rcases List.eq_nil_or_concat b with rfl | ⟨b,z,rfl⟩
 ·simp[List.getD]
 have hz:z≠x:=λe=>Mz (by grind);simp[List.getD,hz]
theorem x' (hn:l.Nodup) (hm:∀ x,x∈l↔x=a\/x=b) (qD:a≠b):ahead l a=b:=by
 match l,hn,hm with
 | [],_,hm=>exact absurd ((hm a).2 (Qh rfl)) (by simp)
 | [x],_,hm =>
  have h1:=(hm a).2 (Qh rfl);have h2:=(hm b).2 (Qi rfl)
  grind
 | [x,y],hn,hm =>
  have jj:x≠y:=by simpa using hn
  rcases (hm x).1 (by simp) with rfl | rfl
  ·rcases (hm y).1 (by simp) with rfl | rfl
   ·exact absurd rfl jj
   simp[ahead]
  all_goals grind [ahead]
 | x :: y :: z :: m,hn,hm =>
  exfalso;have jj:x≠y/\x≠z/\y≠z:=by simp at hn;exact⟨hn.1.1,hn.1.2.1,hn.2.1.1⟩
  have h1:=(hm x).1 (by simp);have h2:=(hm y).1 (by simp);have h3:=(hm z).1 (by simp)
  grind
def twins (w:List Int):List Int:=(w.map aH).reverse
theorem bw.aiS {z c:Int} (h:bw p ((x :: A++z :: B) :: R)) (hw:Trail q c w z) (ht:∃ e t,twins (c :: w)=e :: t/\Trail q e t x) (xp:∀ y∈c :: w,y ∉ ((x :: A++z :: B) :: R).flatten) (xq:∀ y∈twins (c :: w),y ∉ ((x :: A++z :: B) :: R).flatten)
  (gp:(c :: w++twins (c :: w)).Nodup)
  (hx:∀ y∈((x :: A++z :: B) :: R).flatten,p y=x->q y=c) (hz:∀ y∈((x :: A++z :: B) :: R).flatten,p y=z->∀ e t,twins (c :: w)=e :: t->q y=e) (ho:∀ y∈((x :: A++z :: B) :: R).flatten,p y≠x->p y≠z->q y=p y) :
  bw q ((x :: A++twins (c :: w)) :: (c :: w++z :: B) :: R):=by
 obtain⟨e,t,het,ht⟩:=ht;have hr:=h.ring (x :: A++z :: B) (by simp);have cD:Trail p x (A++z :: B) x:=hr;obtain⟨h1,h2⟩:=Trail.append.1 cD;have gV:=h.nodup;have alm:∀ y∈x :: A,y∈((x :: A++z :: B) :: R).flatten:=λy hy=>by
  grind
 have J5:∀ y∈z :: B,y∈((x :: A++z :: B) :: R).flatten:=λy hy=>by
  grind
 have ayQ:∀ y∈R.flatten,y∈((x :: A++z :: B) :: R).flatten:=λy hy=>by
  grind
 have inj:=h.inj;have afr:(x :: A++z :: B).Nodup:=by
  grind
 have FE:∀ y∈x :: A,y∈z :: B->False:=λy a b=>(Qe.1 afr).2.2 y a y b rfl;have hxR:∀ y∈R.flatten,y∈x :: A++z :: B->False:=λy a b=>by
  grind
 -- trails of the old ring,in the new turns
 have step:∀ {l:List Int} {a b k:Int},(b=x/\k=c\/b=z/\k=e)->(∀ y∈a :: l,y∈((x :: A++z :: B) :: R).flatten)->(∀ y∈l,y≠x/\y≠z)->Trail p a l b->Trail q a l k:=by
  intro l
  induction l with
  | nil =>
   intro a b k hb dE _ hp;have hp:p a=b:=hp;show q a=k
   all_goals grind
  | cons y l ih =>
   intro a b k hb dE hl hp;obtain⟨e1,e2⟩:=hp;refine⟨?_,ih hb (λu hu=>dE u (Qc _ hu)) (λu hu=>hl u (Qc _ hu)) e2⟩
   grind
 have hA:Trail q x A e:=step (Qi ⟨rfl,rfl⟩) alm (λy hy=>⟨λq=>by
  rw[q] at hy;have:=(Qe.1 afr).1;exact (Qu.1 this).1 hy,λq=>FE y (Qc _ hy) (by rw[q];simp)⟩) h1
 have hB:Trail q z B c:=step (Qh ⟨rfl,rfl⟩) J5 (λy hy=>⟨λq=>FE y (by grind) (Qc _ hy),λq=>by
  grind⟩) h2
 refine⟨λd hd=>?_,?_⟩
 ·rcases Qd.1 hd with rfl | hd
  ·rw[het]
   show Trail q x (A++e :: t) x
   grind [Trail.append]
  rcases Qd.1 hd with rfl | hd
  ·show Trail q c (w++z :: B) c
   grind [Trail.append]
  refine (h.ring d (Qc _ hd)).congr λy hy=>?_;have hyR:y∈R.flatten:=Qn.2 ⟨d,hd,hy⟩;have hpy:p y∈R.flatten:=Qn.2 ⟨d,hd,(h.ring d (Qc _ hd)).mI.mem_iff.1 (Qo.2 ⟨y,hy,rfl⟩)⟩
  grind
 have hp:((x :: A++twins (c :: w)) :: (c :: w++z :: B) :: R).flatten.Perm ((c :: w++twins (c :: w))++((x :: A++z :: B) :: R).flatten):=by
  rw[Qr];intro y;simp only[Qx,QE];omega
 all_goals grind
theorem dB (h:(l.map f).Nodup):l.Nodup:=(List.pairwise_map.1 h).imp λk e=>k (by rw[e])
theorem CK:l.reverse.Nodup↔l.Nodup:=by grind
structure cQ (g:Gr) (p:Pt) (aa:List (List Int)) (F:List (List Int)):Prop where
 pe:p.err g=0
 iX:aK g p aa
 rings:bw (aA g aa) F
 all:F.flatten.Perm p.ah
 simple:∀ f∈F,(f.map g.tail).Nodup
 full:∀ v∈p.v,∃ d∈p.ah,g.tail d=v
 tZ:p.v.length+F.length=2+p.e.length
 ku:∀ u∈p.v,∀ v∈p.v,bS g p (-1) u v
def fz (g:Gr):Int->List Int->Int->Prop
 | a,[],z=>a=z
 | a,d :: w,z=>g.tail d=a/\fz g (g.head d) w z
theorem fz.append {g:Gr} {z:Int} {m:List Int}:∀ {l:List Int} {a:Int},fz g a (l++m) z↔∃ b,fz g a l b/\fz g b m z
 | [],a=>⟨λh=>⟨a,rfl,h⟩,λ⟨b,h1,h2⟩=>by cases h1;exact h2⟩
 | d :: l,a=>by
  have ih:=fz.append (g:=g) (z:=z) (m:=m) (l:=l) (a:=g.head d);constructor
  ·rintro ⟨h1,h2⟩
   obtain⟨b,h3,h4⟩:=ih.1 h2;exact⟨b,⟨h1,h3⟩,h4⟩
  rintro ⟨b,⟨h1,h3⟩,h4⟩;exact⟨h1,ih.2 ⟨b,h3,h4⟩⟩
structure pK (g:Gr) (p:Pt) (w:List Int) (a z:Int):Prop where
 link:fz g a w z
 ne:a≠z
 av:a∈p.v
 zv:z∈p.v
 KE:∀ d∈w.tail,g.tail d ∉ p.v
 vn:(w.map g.tail).Nodup
 en:(w.map (· / 2)).Nodup
 acN:∀ d∈w,d / 2 ∉ p.e
structure Jd (g:Gr) (p:Pt) (w:List Int) (q:Pt):Prop where
 qe:q.err g=0
 v:∀ u,u∈q.v↔u∈p.v\/u∈w.map g.tail
 e:∀ u,u∈q.e↔u∈p.e\/u∈w.map (· / 2)
structure Fi (g:Gr) (p:Pt) (aa:List (List Int)) (w:List Int) (x y:Int) (gA:List (List Int)):Prop where
 first:∀ d l,w=d :: l->before g gA d=x
 last:∀ d l,w=l++[d]->before g gA (aH d)=y
 old:∀ u∈p.ah,before g gA u=if before g aa u=x then w.headD 0 else if before g aa u=y then aH (w.getLastD 0) else before g aa u
theorem wJ {q:Int->Int} {z:Int}:∀ {w:List Int} {c:Int},(∀ l d e m,c :: w=l++d :: e :: m->q d=e)->(∀ l d,c :: w=l++[d]->q d=z)->Trail q c w z
 | [],c,_,h=>h [] c rfl
 | d :: w,c,h1,h2=>⟨h1 [] c d w rfl,wJ (λl a b m e=>h1 (c :: l) a b m (by rw[e];rfl)) (λl a e=>h2 (c :: l) a (by rw[e];rfl))⟩
theorem vW {q:Int->Int}:∀ {w:List Int} {c x:Int},(∀ l d e m,c :: w=l++d :: e :: m->q (aH e)=aH d)->q (aH c)=x->∃ e t,twins (c :: w)=e :: t/\Trail q e t x
 | [],c,x,_,h=>⟨aH c,[],rfl,h⟩
 | d :: w,c,x,h1,h2=>by
  obtain⟨e,t,h3,h4⟩:=vW (q:=q) (w:=w) (c:=d) (x:=aH c) (λl a b m e=>h1 (c :: l) a b m (by rw[e];rfl)) (h1 [] c d w rfl);refine⟨e,t++[aH c],?_,Trail.append.2 ⟨h4,h2⟩⟩;have:twins (c :: d :: w)=twins (d :: w)++[aH c]:=by simp[twins]
  rw[this,h3];rfl
theorem jC {g:Gr} {z:Int}:∀ {l:List Int} {a d e:Int} {m:List Int},fz g a (l++d :: e :: m) z->g.head d=g.tail e
 | [],_a,_d,_e,_m,h=>h.2.1.symm
 | _c :: l,_a,_d,_e,_m,h=>jC (l:=l) h.2
theorem gO {g:Gr} {z:Int}:∀ {l:List Int} {a d:Int},fz g a (l++[d]) z->g.head d=z
 | [],_a,_d,h=>h.2
 | _c :: l,_a,_d,h=>gO (l:=l) h.2
theorem ff:y∈twins w↔aH y∈w:=by
 all_goals grind [twins,bg]
theorem ti (d:Int):aH d≠d:=by grind [aH]
theorem kZ (h:d / 2=e / 2):d=e\/d=aH e:=by grind [aH]
theorem FH (h:(w.map (· / 2)).Nodup):(w++twins w).Nodup:=by
 have hw:w.Nodup:=dB h
 all_goals grind [twins,CK,bg,ff,aH,dT]
theorem pK.cons {g:Gr} {p:Pt} {w:List Int} {a z:Int} (h:pK g p w a z):∃ c l,w=c :: l:=by
 cases w with
 | nil=>exact absurd h.link h.ne
 | cons c l=>exact⟨c,l,rfl⟩
theorem eh {g:Gr} {z:Int}:∀ {w:List Int} {a c:Int},fz g a (c :: w) z->(c :: w).map g.head=w.map g.tail++[z]
 | [],a,c,h=>by have:g.head c=z:=h.2;simp[this]
 | d :: w,a,c,h=>by
  have ih:=eh (w:=w) h.2;have:g.head c=g.tail d:=h.2.1.symm;rw[Qy,ih,this];rfl
variable {g : Gr} {p q : Pt} {aa gA : List (List Int)} {w : List Int} {a z x y : Int}
theorem pK.te (h:pK g p w a z) (hd:d∈w):d ∉ p.ah/\aH d ∉ p.ah :=
 ⟨λq=>h.acN d hd (au.1 q),λq=>h.acN d hd (by have:=au.1 q;rwa[bJ] at this)⟩
theorem Jd.ah (hq:Jd g p w q) :d∈q.ah↔d∈p.ah\/d∈w\/aH d∈w:=by
 rw[au,au,hq.e,Qo]
 all_goals grind [kZ,bg,aH,bJ]
theorem KC (hw:pK g p w a z) (hq:Jd g p w q) (fR:aD g p) (ht:aK g q gA) (hs:w=l++d :: e :: m):before g gA (aH d)=e/\before g gA e=aH d:=by
 have Eo:=Pt.ax hq.qe;have qn:g.head d=g.tail e:=jC (by have:=hw.link;rwa[hs] at this);have hew:e∈w:=by rw[hs];simp
 have hdw:d∈w:=by rw[hs];simp
 have het:e∈w.tail:=by rw[hs];cases l <;> simp
 have E9:=hw.KE e het;have hvq:g.tail e∈q.v:=(hq.v _).2 (Qi (Qo.2 ⟨e,hew,rfl⟩));obtain⟨r1,r2⟩:=Eo.vr _ hvq;have hm:∀ u,u∈ay gA (g.tail e)↔u=e\/u=aH d:=by
  intro u;rw[ht.mem _ r1 r2 u,hq.ah];constructor
  ·rintro ⟨h1,h2⟩
   rcases h1 with h1 | h1 | h1
   ·grind [aD.aP]
   ·exact Qh (dT hw.vn _ h1 _ hew h2)
   refine Qi ?_;have h3:g.head (aH u)=g.tail u:=by rw[<-az,bg]
   have hz:g.tail e≠z:=λr=>E9 (by rw[r];exact hw.zv);obtain⟨l2,m2,Pd⟩:=List.append_of_mem h1;cases m2 with
   | nil =>
    have:=gO (l:=l2) (by have:=hw.link;rwa[Pd] at this)
    grind
   | cons e2 m2 =>
    have h4:=jC (by have:=hw.link;rwa[Pd] at this);have h5:e2=e:=dT hw.vn _ (by grind) _ hew (by grind);rw[h5] at Pd;have Zc:w.Nodup:=dB hw.vn;have h6:l++[d]=l2++[aH u]:=by
     have e1:w=(l++[d])++e :: m:=by rw[hs];simp
     have e2:w=(l2++[aH u])++e :: m2:=by rw[Pd];simp
     have f1:w.idxOf e=(l++[d]).length:=by
      grind
     have f2:w.idxOf e=(l2++[aH u]).length:=by
      grind
     have t1:w.take (l++[d]).length=l++[d]:=by rw[e1];exact QG rfl
     grind
    have h7:d=aH u:=by
     have:=congrArg List.getLast? h6
     grind
    rw[h7,bg]
  all_goals grind [bg,az]
 have bn:e≠aH d:=λr=>by
  have h1:e / 2=d / 2:=by rw[r,bJ]
  have h2:=dT hw.en _ hew _ hdw h1
  grind [ti]
 have zu:g.tail (aH d)=g.tail e:=by rw[az,qn]
 unfold before;rw[zu];exact⟨x' (ht.nodup _) (λu=>(hm u).trans Or.comm) (Ne.symm bn),x' (ht.nodup _) hm bn⟩
theorem CG (hs:∀ d∈w,d∈q.ah) (Eo:aD g q):∀ {w':List Int} {a z:Int},(∀ d∈w',d∈q.ah)->fz g a w' z->∀ u∈w'.map g.tail,bS g q (-1) a u
 | [],_,_,_,_,u,hu=>by simp at hu
 | d :: w',a,z,hd,h,u,hu=>by
  rcases Qd.1 hu with e | hu
  ·rw[e,h.1];exact .here
  have ih:=CG hs Eo (w':=w') (λd h=>hd d (Qc _ h)) h.2 u hu;have xA:=hd d (by simp);have hn:=fW (g:=g) xA;rw[h.1] at hn;have LS:=(Eo.vr _ (Eo.aP xA).2).1;exact (bS.step .here hn (by omega)).trans ih
theorem cQ.put (h:cQ g p aa F) (hw:pK g p w a z) (hq:Jd g p w q) (ht:aK g q gA) (hp:Fi g p aa w x y gA)
  (hF:F.Perm ((x :: A++y :: B) :: R)) (Xq:F'.Perm ((x :: A++twins w) :: (w++y :: B) :: R)) (hx:g.tail x=a) (hy:g.tail y=z):cQ g q gA F':=by
 have fR:=Pt.ax h.pe;have Eo:=Pt.ax hq.qe;obtain⟨c,l,rfl⟩:=hw.cons;have oR:=h.rings.perm hF;have cX:((x :: A++y :: B) :: R).flatten.Perm p.ah:=hF.symm.flatten.trans h.all;have dE:∀ u,u∈((x :: A++y :: B) :: R).flatten↔u∈p.ah:=λu=>cX.mem_iff;have PZ:∀ l1 d e m,c :: l=l1++d :: e :: m->aA g gA d=e/\aA g gA (aH e)=aH d:=λl1 d e m hs=>by
  grind [KC,aA,bg]
 have Tu:=bw.aiS (q:=aA g gA) oR (c:=c) (w:=l) (wJ (λl1 d e m hs=>(PZ l1 d e m hs).1) (λl1 d hs=>hp.last d l1 hs)) (vW (λl1 d e m hs=>(PZ l1 d e m hs).2) (by
   unfold aA;rw[bg];exact hp.first c l rfl))
  (λu hu hm=>(hw.te hu).1 ((dE u).1 hm)) (λu hu hm=>by
   grind [pK.te,ff,bg]) (FH hw.en)
  (λu hu e=>by
   have hu:=(dE u).1 hu;unfold aA at e ⊢;rw[hp.old _ (bD hu),if_pos e];rfl)
  (λu hu e e2 t het=>by
   have hu:=(dE u).1 hu;unfold aA at e ⊢;have jj:y≠x:=λr=>hw.ne (by grind);rw[hp.old _ (bD hu),if_neg (by grind),if_pos e];have h1:(twins (c :: l)).head?=some e2:=by rw[het];rfl
   grind [twins,bw.inj])
  (λu hu e1 e2=>by
   have hu:=(dE u).1 hu;unfold aA at e1 e2 ⊢;rw[hp.old _ (bD hu),if_neg e1,if_neg e2])
 have hsf:=h.simple (x :: A++y :: B) (hF.mem_iff.2 (by simp));have hfd:∀ u∈x :: A++y :: B,u∈p.ah:=λu hu=>(dE u).1 (by grind);have xN:q.ah.Nodup:=cV Eo.en;have hE:q.e.Perm (p.e++(c :: l).map (· / 2)):=by
  refine (Qq Eo.en ?_).2 λu=>by rw[hq.e,Qa]
  rw[Qe];exact⟨fR.en,hw.en,λu hu v hv e=>by
   obtain⟨d,hd,rfl⟩:=Qo.1 hv;exact hw.acN d hd (e ▸ hu)⟩
 have hV:q.v.Perm (p.v++l.map g.tail):=by
  have Aa:(l.map g.tail).Nodup:=by have:=hw.vn;rw[Qy,Qu] at this;exact this.2
  refine (Qq Eo.vn ?_).2 λu=>?_
  ·rw[Qe]
   exact⟨fR.vn,Aa,λu hu v hv e=>by
    obtain⟨d,hd,rfl⟩:=Qo.1 hv;exact hw.KE d hd (e ▸ hu)⟩
  rw[hq.v,Qa,Qy,Qd];constructor
  ·rintro (r | r | r)
   ·exact Qh r
   ·rw[r,hw.link.1];exact Qh hw.av
   exact Qi r
  all_goals grind
 have hhd:=eh hw.link;have xq:(twins (c :: l)).map g.tail=(l.map g.tail++[z]).reverse:=by
  unfold twins;rw[List.map_reverse,List.map_map,<-hhd];congr 2
  grind [az]
 have hlv:∀ u∈l.map g.tail,u ∉ p.v:=λu hu=>by
  obtain⟨d,hd,rfl⟩:=Qo.1 hu;exact hw.KE d hd
 have Aa:(l.map g.tail).Nodup:=by have:=hw.vn;rw[Qy,Qu] at this;exact this.2
 refine⟨hq.qe,ht,Tu.perm Xq.symm,?_,λf hf=>?_,λv hv=>?_,?_,λu hu v hv=>?_⟩
 ·refine (Qq (Tu.perm Xq.symm).nodup xN).2 λu=>?_
  rw[(Xq.flatten).mem_iff,hq.ah,<-dE u]
  all_goals grind [ff]
 ·rw[QB,Qe] at hsf
  obtain⟨s1,s2,s3⟩:=hsf;rcases Qd.1 (Xq.mem_iff.1 hf) with rfl | hf
  ·rw[QB,xq,Qe,CK]
   refine⟨s1,?_,λu hu v hv e=>?_⟩
   ·rw[Qe]
    exact⟨Aa,by simp,λu hu v hv e=>by
     rw[Qb.1 hv] at e;exact hlv u hu (by rw[e];exact hw.zv)⟩
   all_goals grind [aD.aP]
  rcases Qd.1 hf with rfl | hf
  ·rw[QB,Qe]
   refine⟨hw.vn,s2,λu hu v hv e=>?_⟩;subst e;rcases Qd.1 (by simpa using hu:u∈g.tail c :: l.map g.tail) with r | r
   ·refine s3 a ?_ u hv (by rw[r,hw.link.1])
    simp[hx]
   obtain⟨d,hd,rfl⟩:=Qo.1 hv;exact hlv _ r (fR.aP (hfd d (Qp _ hd))).1
  exact h.simple f (hF.mem_iff.2 (Qc _ hf))
 ·rcases (hq.v v).1 hv with r | r
  ·obtain⟨d,hd,e⟩:=h.full v r
   exact⟨d,hq.ah.2 (Qh hd),e⟩
  obtain⟨d,hd,e⟩:=Qo.1 r;exact⟨d,hq.ah.2 (Qi (Qh hd)),e⟩
 ·have h1:=h.tZ
  have h2:=hE.length_eq;have h3:=hV.length_eq;have h4:=hF.length_eq;have h5:=Xq.length_eq;simp only[Qw,List.length_map,List.length_cons] at h2 h3 h4 h5;omega
 have hwd:∀ d∈c :: l,d∈q.ah:=λd hd=>hq.ah.2 (Qi (Qh hd));have jn:∀ {u v},bS g p (-1) u v->bS g q (-1) u v:=λ{u v} hc=>by
  induction hc with
  | here=>exact .here
  | step _ hn hs ih =>
   obtain⟨e,he,h2⟩:=hn;exact ih.step ⟨e,(hq.e e).2 (Qh he),h2⟩ hs
 have kq:∀ v∈q.v,bS g q (-1) a v:=λv hv=>by
  rcases (hq.v v).1 hv with r | r
  ·exact jn (h.ku a hw.av v r)
  exact CG hwd Eo hwd hw.link v r
 have XX:=(fR.vr a hw.av).1;exact ((kq u hu).symm (by omega)).2.trans (kq v hv)
def Cf (l:List Int):List Int:=l.mergeSort λx y=>decide (x<=y)
theorem eR (l:List Int):(Cf l).Perm l:=List.mergeSort_perm _ _
structure dW where
 met:Int->Int
 low:Int->Int
 et:Int
 ed:List Int
 bl:List (List Int)
def qZ (f:Int->Int) (v x:Int):Int->Int:=λy=>if y=v then x else f y
theorem rV (f:Int->Int) (v x:Int):qZ f v x v=x:=if_pos rfl
theorem pJ {v:Int} (h:y≠v):qZ f v x y=f y:=if_neg h
def mq (l:List Int) (bl:List (List Int)):List (List Int):=if bl.any (λm=>decide (m.getD 0 0=l.getD 0 0)) then bl.map (λm=>if m.getD 0 0=l.getD 0 0 then l else m) else bl++[l]
theorem tl (h:∀ m∈bl,m.getD 0 0≠l.getD 0 0):mq l bl=bl++[l]:=by
 grind [mq]
theorem EM (hx:∃ m∈bl,m.getD 0 0=l.getD 0 0) (h:∀ m∈bl,m.getD 0 0=l.getD 0 0->m=l):mq l bl=bl:=by
 unfold mq;obtain⟨m,hm,e⟩:=hx;rw[if_pos (List.any_eq_true.2 ⟨m,hm,decide_eq_true e⟩)];have:bl.map (λm=>if m.getD 0 0=l.getD 0 0 then l else m)=bl.map id:=List.map_congr_left λk hk=>by
  all_goals grind
 rw[this,List.map_id]
def dW.enter (s:dW) (v:Int):dW:={ s with met:=qZ s.met v (s.et+1),low:=qZ s.low v (s.et+1),et:=s.et+1 }
def dW.push (s:dW) (e:Int):dW:={ s with ed:=s.ed++[e] }
def dW.lower (s:dW) (v x:Int):dW:={ s with low:=qZ s.low v (min (s.low v) x) }
def dW.take (s:dW) (e:Int):dW:={ s with ed:=s.ed.take (s.ed.idxOf e),bl:=mq (Cf (s.ed.drop (s.ed.idxOf e))) s.bl }
def dW.lay (s:dW) (e:Int):dW:={ s with bl:=mq [e] s.bl }
def dW.back (t:dW) (v w e:Int):dW:=if t.met v<=t.low w then (t.lower v (t.low w)).take e else t.lower v (t.low w)
def fS (go:Int->Int->dW->dW) (g:Gr) (v via:Int) (s:dW) (d:Int):dW :=
 if g.head d=v then s.lay (d / 2)
 else if d / 2=via then s
 else if s.met (g.head d)=0 then (go (g.head d) (d / 2) (s.push (d / 2))).back v (g.head d) (d / 2)
 else if s.met (g.head d)<s.met v then (s.push (d / 2)).lower v (s.met (g.head d))
 else s
def visit (g:Gr) (p:Pt):Nat->Int->Int->dW->dW
 | 0,_,_,s=>s
 | n+1,v,via,s=>(aE g p v).foldl (fS (visit g p n) g v via) (s.enter v)
def eI (s t:dW) (x:Int):Prop:=s.met x=0/\t.met x≠0
def lI (g:Gr) (s:dW) (e:Int):Prop:=s.met (g.at e).1≠0/\s.met (g.at e).2≠0
structure DOk (g:Gr) (p:Pt) (s:dW) (A:List Int):Prop where
 et:0<=s.et
 num:∀ x,0<=s.met x/\s.met x<=s.et
 inj:∀ x y,s.met x≠0->s.met x=s.met y->x=y
 act:∀ a∈A,s.met a≠0
 PG:∀ x,s.met x≠0->x∈p.v
 fin:∀ d∈p.ah,s.met (g.tail d)≠0->g.tail d ∉ A->s.met (g.head d)≠0
 AP:∀ l∈s.bl,l≠[]
 PW:∀ l∈s.bl,∀ e∈l,e∈p.e/\lI g s e
 oC:∀ l∈s.bl,∀ e∈l,(g.at e).1=(g.at e).2->l=[e]
structure xD (g:Gr) (p:Pt) (s:dW) (A:List Int) (v via:Int):Prop where
 cd:DOk g p s A
 vV:v∈p.v
 vn:s.met v=0
 par:(A=[]/\via = -1)\/∃ d∈p.ah,d / 2=via/\g.head d=v/\g.tail d∈A
 Pg:∀ e∈s.ed,e=via\/(e∈p.e/\lI g s e)
 LU:∀ e∈s.ed,e∈p.e/\(g.at e).1≠(g.at e).2
def Xe (g:Gr) (p:Pt) (s t:dW) (v via:Int) (pre:List Int) (e:Int):Prop:=e≠via/\∃ d∈p.ah,d / 2=e/\eI s t (g.tail d)/\(g.tail d≠v\/d∈pre)
def Fst (g:Gr) (p:Pt) (B:List Int):Prop:=(∃ e∈p.e,B=[e]/\(g.at e).1=(g.at e).2) \/
 ∃ z∈p.v,∃ Y:Int->Prop,¬ Y z/\(∀ d∈p.ah,Y (g.tail d)->Y (g.head d)\/g.head d=z)/\(∀ e,e∈B↔∃ d∈p.ah,d / 2=e/\Y (g.tail d))
structure cF (g:Gr) (p:Pt) (s t:dW) (A:List Int) (v via:Int) (pre:List Int):Prop where
 cd:DOk g p t (A++[v])
 old:∀ x,s.met x≠0->t.met x=s.met x/\t.low x=s.low x
 me:t.met v=s.et+1
 later:∀ x,eI s t x->s.et<t.met x
 tree:∀ x,eI s t x->∀ z,¬ eI s t z->bS g p z v x
 seen:∀ d∈pre,t.met (g.head d)≠0
 Nh:t.low v<=t.met v
 Fw:t.low v<t.met v->∃ d∈p.ah,eI s t (g.tail d)/\g.head d∈A/\s.met (g.head d)=t.low v/\d / 2≠via
 KO:∀ d∈p.ah,eI s t (g.tail d)->(g.tail d=v->d∈pre)->g.head d∈A->d / 2≠via->t.low v<=s.met (g.head d)
 Pg:∀ e∈t.ed,e∈p.e/\lI g t e
 LU:∀ e∈t.ed,(g.at e).1≠(g.at e).2
 yY:∃ R N,t.ed=s.ed++R/\t.bl=s.bl++N/\(R++N.flatten).Nodup/\∀ e,e∈R++N.flatten↔Xe g p s t v via pre e
 cut:t.bl=s.bl->∀ z x,eI s t z->eI s t x->x≠z->(z≠v/\bS g p z x v)\/∃ y∈A,bS g p z x y
 fst:s.bl=[]->∀ B l,t.bl=B :: l->Fst g p B
 XI:A=[]->t.ed=s.ed
 WO:A=[]->t.bl=s.bl->∀ x,eI s t x->x=v
 aiG:A=[]->t.bl.length<=s.bl.length+1->∀ z x y,eI s t z->eI s t x->eI s t y->x≠z->y≠z->bS g p z x y
def C' (p:Pt) (s:dW):Nat:=(p.v.filter λx=>decide (s.met x=0)).length
variable {g : Gr} {p : Pt} {s t : dW} {A pre : List Int} {v via : Int}
theorem mY {α:Type} {f h:α->Bool}:∀ {l:List α},(∀ x∈l,f x=true->h x=true)->(l.filter f).length<=(l.filter h).length
 | [],_=>Nat.le_refl _
 | x :: l,q=>by
  have ih:=mY (f:=f) (h:=h) (l:=l) λy hy=>q y (Qc _ hy);cases e:f x with
  | true=>rw[Qf e,Qf (q x (by simp) e)];simpa using ih
  | false =>
   rw[Qk (by simp[e])];cases e2:h x with
   | true=>rw[Qf e2];simp;omega
   | false=>rw[Qk (by simp[e2])];exact ih
theorem gQ {α:Type} {f h:α->Bool} {a:α}:∀ {l:List α},(∀ x∈l,f x=true->h x=true)->a∈l->f a=false->h a=true->(l.filter f).length<(l.filter h).length
 | [],_,ha,_,_=>by simp at ha
 | x :: l,q,ha,h1,h2=>by
  have le:=mY (f:=f) (h:=h) (l:=l) λy hy=>q y (Qc _ hy);rcases Qd.1 ha with e | Bz
  ·subst e
   rw[Qk (by simp[h1]),Qf h2];simp;omega
  have ih:=gQ (f:=f) (h:=h) (l:=l) (λy hy=>q y (Qc _ hy)) Bz h1 h2;cases e:f x with
  | true=>rw[Qf e,Qf (q x (by simp) e)];simpa using ih
  | false =>
   rw[Qk (by simp[e])];cases e2:h x with
   | true=>rw[Qf e2];simp;omega
   | false=>rw[Qk (by simp[e2])];exact ih
theorem iQ {n:Nat} (h:n<l.length):l.getD n 0∈l:=by grind
theorem gL (h:d / 2=e / 2):d=e\/e=aH d:=by grind [aH]
theorem iO (g:Gr) (d:Int):(g.tail d=(g.at (d / 2)).1/\g.head d=(g.at (d / 2)).2)\/(g.tail d=(g.at (d / 2)).2/\g.head d=(g.at (d / 2)).1):=by
 all_goals grind [Gr.tail,Gr.head]
theorem fX:lI g s (d / 2)↔s.met (g.tail d)≠0/\s.met (g.head d)≠0:=by
 all_goals grind [lI,iO]
theorem qI:(g.at (d / 2)).1=(g.at (d / 2)).2↔g.tail d=g.head d:=by
 all_goals grind [iO]
theorem CR (he:e∈p.e):∃ d∈p.ah,d / 2=e/\g.tail d=(g.at e).1/\g.head d=(g.at e).2 :=
 ⟨2*e,au.2 (by rwa[show 2*e / 2=e by omega]),by omega,(dP g e).1,(dP g e).2⟩
theorem cF.start (hp:aD g p) (h:xD g p s A v via):cF g p s (s.enter v) A v via []:=by
 have hg:=h.cd;have xp:∀ x,eI s (s.enter v) x↔x=v:=λx=>by
  unfold eI dW.enter;constructor
  ·rintro ⟨h1,h2⟩
   refine Qm λe=>h2 ?_;show qZ s.met v _ x=0;rw[pJ e];exact h1
  rintro rfl;refine⟨h.vn,?_⟩;show qZ s.met x _ x≠0;rw[rV];have:=hg.et;omega
 have oW:∀ x,x≠v->(s.enter v).met x=s.met x:=λx hx=>pJ hx;have UO:(s.enter v).met v=s.et+1:=rV _ _ _;have jn:∀ x,s.met x≠0->(s.enter v).met x≠0:=λx hx=>by
  by_cases e:x=v
  ·rw[e,UO];have:=hg.et;omega
  all_goals grind
 have oJ:∀ e,lI g s e->lI g (s.enter v) e:=λe hb=>⟨jn _ hb.1,jn _ hb.2⟩;have jY:(s.enter v).low v=s.et+1:=rV _ _ _;refine⟨⟨?_,λx=>?_,λx y hx jj=>?_,λa ha=>?_,λx hx=>?_,λd hd ht hn=>?_,hg.AP,λl hl e he=>⟨(hg.PW l hl e he).1,oJ e (hg.PW l hl e he).2⟩,hg.oC⟩,λx hx=>?_,UO,λx hx=>?_,λx hx z hz=>?_,by simp,?_,λq=>?_,λd _ hn FG=>?_,λe he=>?_,λe he=>(h.LU e he).2,⟨[],[],by rw[Ql];rfl,by rw[Ql];rfl,by simp,λe=>?_⟩,λ_ z x hz hx bn=>?_,λhs B l hB=>?_,λ_=>rfl,λ_ _ x hx=>(xp x).1 hx,λ_ _ z x y hz hx _ AG _=>absurd (((xp x).1 hx).trans ((xp z).1 hz).symm) AG⟩
 ·show (0:Int)<=s.et+1
  have:=hg.et;omega
 ·have:=hg.num x
  all_goals grind [dW.enter]
 ·by_cases e1:x=v
  ·by_cases e2:y=v
   ·rw[e1,e2]
   rw[e1,UO,oW y e2] at jj;have:=(hg.num y).2;omega
  by_cases e2:y=v
  ·rw[e2,UO,oW x e1] at jj
   have:=(hg.num x).2;omega
  rw[oW x e1] at hx jj;rw[oW y e2] at jj;exact hg.inj x y hx jj
 ·rcases Qa.1 ha with q | q
  ·exact jn a (hg.act a q)
  rw[Qb.1 q,UO];have:=hg.et;omega
 ·by_cases e:x=v
  ·rw[e];exact h.vV
  rw[oW x e] at hx;exact hg.PG x hx
 ·have uA:g.tail d≠v:=λe=>hn (by grind)
  rw[oW _ uA] at ht;exact jn _ (hg.fin d hd ht λq=>hn (Qg _ q))
 ·have e:x≠v:=λe=>hx (by rw[e];exact h.vn)
  exact⟨oW x e,pJ e⟩
 ·grind
 ·rw[(xp x).1 hx];exact .here
 ·grind
 ·grind
 ·grind
 ·rcases h.Pg e he with q | q
  ·rcases h.par with ⟨-,hm⟩ | ⟨d,hd,oF,hh,ha⟩
   ·have:=hp.er e (h.LU e he).1;omega
   subst q;refine⟨(h.LU e he).1,?_⟩;rw[<-oF,fX,hh,UO];exact⟨jn _ (hg.act _ ha),by have:=hg.et;omega⟩
  all_goals grind
 ·simp only[Qt,Ql,List.not_mem_nil,false_iff]
  rintro ⟨-,d,-,-,hn,q | q⟩
  all_goals grind
 ·exact absurd ((xp x).1 hx |>.trans ((xp z).1 hz).symm) bn
 rw[show (s.enter v).bl=s.bl from rfl,hs] at hB;cases hB
variable {g : Gr} {p : Pt} {s t : dW} {A pre : List Int} {v via : Int}
theorem xD.vA (h:xD g p s A v via):v ∉ A:=λq=>h.cd.act v q h.vn
theorem xD.tx (h:xD g p s A v via) (hp:aD g p) (hd:d∈p.ah) (hv:g.tail d=v) (he:d / 2=via):g.head d∈A:=by
 rcases h.par with ⟨-,q⟩ | ⟨c,hc,bI,hh,ha⟩
 ·have:=hp.er _ (au.1 hd);omega
 rcases gL (bI.trans he.symm) with r | r
 ·exact absurd (by rw[<-hv,<-r];exact ha) h.vA
 have:g.head d=g.tail c:=by rw[r,<-az,bg]
 rw[this];exact ha
theorem cF.mono (h:cF g p s t A v via pre) (hx:s.met x≠0):t.met x≠0:=by rw[(h.old x hx).1];exact hx
theorem cF.sN (hE:xD g p s A v via) (h:cF g p s t A v via pre):eI s t v:=⟨hE.vn,by rw[h.me];have:=hE.cd.et;omega⟩
theorem cF.inA (hE:xD g p s A v via) (_h:cF g p s t A v via pre) (hd:d∈p.ah) (hn:eI s t (g.tail d)) (hm:s.met (g.head d)≠0):g.head d∈A:=by
 refine Qm λq=>?_;have:=hE.cd.fin (aH d) (bD hd) (by grind [az]) (by grind [az]);rw[<-az,bg] at this;exact this hn.1
theorem cF.same (h:cF g p s t A v via pre) (hs:t.met (g.head d)≠0) (jY:g.head d∈A->d / 2≠via->t.low v<=s.met (g.head d)) (afX:d / 2≠via->Xe g p s t v via pre (d / 2)):cF g p s t A v via (pre++[d]):=by
 obtain⟨R,N,e1,e2,e3,e4⟩:=h.yY;refine⟨h.cd,h.old,h.me,h.later,h.tree,λc hc=>?_,h.Nh,h.Fw,λc hc hn FG hA hv=>?_,h.Pg,h.LU,⟨R,N,e1,e2,e3,λe=>?_⟩,h.cut,h.fst,h.XI,h.WO,h.aiG⟩
 ·rcases Qa.1 hc with q | q
  ·exact h.seen c q
  all_goals grind
 ·by_cases q:g.tail c=v/\c ∉ pre
  ·have h1:=FG q.1
   rcases Qa.1 h1 with r | r
   ·exact absurd r q.2
   rw[Qb.1 r] at hA hv ⊢;exact jY hA hv
  exact h.KO c hc hn (λr=>Qm λu=>q ⟨r,u⟩) hA hv
 rw[e4];constructor
 ·rintro ⟨h1,c,hc,h2,h3,h4⟩
  exact⟨h1,c,hc,h2,h3,h4.imp id λq=>Qg _ q⟩
 rintro ⟨h1,c,hc,h2,h3,h4⟩;rcases h4 with q | q
 ·exact⟨h1,c,hc,h2,h3,Qh q⟩
 rcases Qa.1 q with r | r
 ·exact⟨h1,c,hc,h2,h3,Qi r⟩
 all_goals grind
theorem cF.loop (hp:aD g p) (hE:xD g p s A v via) (h:cF g p s t A v via pre) (hd:d∈p.ah) (hv:g.tail d=v) (hh:g.head d=v):cF g p s (t.lay (d / 2)) A v via (pre++[d]):=by
 have jV:(g.at (d / 2)).1=(g.at (d / 2)).2:=qI.2 (hv.trans hh.symm);have YU:t.met v≠0:=(h.sN hE).2;have Nd:d / 2≠via:=λq=>hE.vA (by grind [xD.tx]);by_cases hc:Xe g p s t v via pre (d / 2)
 ·have gZ:(t.lay (d / 2))=t:=by
   obtain⟨R,N,e1,e2,e3,e4⟩:=h.yY;have hm:=(e4 _).2 hc;have hN:d / 2∈N.flatten:=by
    rcases Qa.1 hm with q | q
    ·exact absurd jV (h.LU _ (by grind))
    exact q
   obtain⟨l,hl,iM⟩:=Qn.1 hN;have aW:l∈t.bl:=by rw[e2];exact Qp _ hl
   have hle:=h.cd.oC l aW _ iM jV;unfold dW.lay;rw[EM ⟨l,aW,by rw[hle]⟩ λm hm q=>?_];have ze:d / 2∈m:=by
    have h0:m.getD 0 0∈m:=iQ (Qv.2 (h.cd.AP m hm))
    grind
   exact h.cd.oC m hm _ ze jV
  rw[gZ];exact h.same (by grind) (λq=>absurd (by grind) hE.vA) λ_=>hc
 have Ig:∀ m∈t.bl,d / 2 ∉ m:=λm hm rA=>by
  obtain⟨R,N,e1,e2,e3,e4⟩:=h.yY;rw[e2] at hm;rcases Qa.1 hm with q | q
  ·have:=(fX.1 (hE.cd.PW m q _ rA).2).1
   rw[hv] at this;exact this hE.vn
  exact hc ((e4 _).1 (Qp _ (Qn.2 ⟨m,q,rA⟩)))
 have gZ:(t.lay (d / 2)).bl=t.bl++[[d / 2]]:=tl λm hm q=>by
  have h0:m.getD 0 0∈m:=iQ (Qv.2 (h.cd.AP m hm))
  grind
 obtain⟨t',OJ⟩:∃ t',t.lay (d / 2)=t':=⟨_,rfl⟩;have m1:t'.met=t.met:=by rw[<-OJ];rfl
 have m2:t'.low=t.low:=by rw[<-OJ];rfl
 have m3:t'.ed=t.ed:=by rw[<-OJ];rfl
 have m4:t'.et=t.et:=by rw[<-OJ];rfl
 rw[OJ] at gZ ⊢;have hN:∀ x,eI s t' x↔eI s t x:=λx=>by unfold eI;rw[m1]
 have hB:∀ e,lI g t' e↔lI g t e:=λe=>by unfold lI;rw[m1]
 have hG:=h.cd;have nr:lI g t (d / 2):=fX.2 ⟨by grind,by grind⟩;obtain⟨R,N,e1,e2,e3,e4⟩:=h.yY;refine⟨⟨by rw[m4];exact hG.et,by rw[m1,m4];exact hG.num,by rw[m1];exact hG.inj,by rw[m1];exact hG.act,by rw[m1];exact hG.PG,by rw[m1];exact hG.fin,λl hl=>?_,λl hl e he=>?_,λl hl e he hle=>?_⟩,by rw[m1,m2];exact h.old,by rw[m1];exact h.me,λx hx=>by rw[m1];exact h.later x ((hN x).1 hx),λx hx z hz=>h.tree x ((hN x).1 hx) z λq=>hz ((hN z).2 q),λc hc=>?_,by rw[m1,m2];exact h.Nh,?_,λc hc hn FG hA hv=>?_,λe he=>by rw[m3] at he;exact⟨(h.Pg e he).1,(hB e).2 (h.Pg e he).2⟩,by rw[m3];exact h.LU,⟨R,N++[[d / 2]],by grind,by grind,?_,λe=>?_⟩,λq=>?_,λhs B l hBl=>?_,λq=>by rw[m3];exact h.XI q,λ_ q=>?_,λq1 q=>?_⟩
 ·rw[gZ] at hl
  rcases Qa.1 hl with q | q
  ·exact hG.AP l q
  all_goals grind
 ·rw[gZ] at hl
  rw[hB];rcases Qa.1 hl with q | q
  ·exact hG.PW l q e he
  all_goals grind [au]
 ·rw[gZ] at hl
  rcases Qa.1 hl with q | q
  ·exact hG.oC l q e he hle
  all_goals grind
 ·rw[m1]
  rcases Qa.1 hc with q | q
  ·exact h.seen c q
  all_goals grind
 ·intro q
  rw[m1,m2] at q;obtain⟨c,hc,k1,k2,k3,k4⟩:=h.Fw q
  grind
 ·rw[m2]
  by_cases q:c=d
  ·rw[q,hh] at hA;exact absurd hA hE.vA
  exact h.KO c hc ((hN _).1 hn) (λr=>(Qa.1 (FG r)).resolve_right λu=>q (Qb.1 u)) hA hv
 ·grind
 ·rw[QD,<-Qs,Qa,e4]
  simp only[Qx,Qt,Ql,Qb];constructor
  ·rintro (⟨h1,c,hc,h2,h3,h4⟩ | rfl)
   ·exact⟨h1,c,hc,h2,(hN _).2 h3,h4.imp id λq=>Qg _ q⟩
   exact⟨Nd,d,hd,rfl,(hN _).2 (by grind [cF.sN]),Qi (by simp)⟩
  rintro ⟨h1,c,hc,h2,h3,h4⟩;rcases h4 with q | q
  ·exact Qh ⟨h1,c,hc,h2,(hN _).1 h3,Qh q⟩
  rcases Qa.1 q with r | r
  ·exact Qh ⟨h1,c,hc,h2,(hN _).1 h3,Qi r⟩
  all_goals grind
 ·rw[gZ,e2,Qs] at q
  have:=congrArg QF q;simp at this
 ·rw[gZ] at hBl
  cases hq:t.bl with
  | nil =>
   rw[hq] at hBl;cases hBl;exact Qh ⟨d / 2,au.1 hd,rfl,jV⟩
  | cons B' l' =>
   rw[hq,Qj] at hBl;injection hBl with k1 k2;rw[<-k1];exact h.fst hs B' l' hq
 ·exfalso
  rw[gZ,e2,Qs] at q;have:=congrArg QF q;simp at this
 intro z x y hz hx _ AG _;have H':t.bl=s.bl:=by
  rw[gZ,e2] at q;simp only[Qw,List.length_singleton] at q
  grind
 exact absurd ((h.WO q1 H' x ((hN x).1 hx)).trans (h.WO q1 H' z ((hN z).1 hz)).symm) AG
theorem cF.up (_hp:aD g p) (hE:xD g p s A v via) (h:cF g p s t A v via pre) (hd:d∈p.ah) (hv:g.tail d=v) (Ct:d ∉ pre) (hh:g.head d≠v) (Nd:d / 2≠via) (hm:t.met (g.head d)≠0) (aW:t.met (g.head d)<t.met v) :
  cF g p s ((t.push (d / 2)).lower v (t.met (g.head d))) A v via (pre++[d]):=by
 have uA:=h.sN hE;have fx:s.met (g.head d)≠0:=λq=>by
  have:=h.later _ ⟨q,hm⟩;rw[h.me] at aW;omega
 have hA:g.head d∈A:=h.inA hE hd (by grind) fx;have hold:=(h.old _ fx).1;obtain⟨t',OJ⟩:∃ t',(t.push (d / 2)).lower v (t.met (g.head d))=t':=⟨_,rfl⟩;have m1:t'.met=t.met:=by rw[<-OJ];rfl
 have m2:∀ x,x≠v->t'.low x=t.low x:=λx hx=>by rw[<-OJ];exact pJ hx
 have m3:t'.ed=t.ed++[d / 2]:=by rw[<-OJ];rfl
 have m4:t'.et=t.et:=by rw[<-OJ];rfl
 have m5:t'.bl=t.bl:=by rw[<-OJ];rfl
 have m6:t'.low v=min (t.low v) (t.met (g.head d)):=by rw[<-OJ];exact rV _ _ _
 rw[OJ];have hN:∀ x,eI s t' x↔eI s t x:=λx=>by unfold eI;rw[m1]
 have hB:∀ e,lI g t' e↔lI g t e:=λe=>by unfold lI;rw[m1]
 have hG:=h.cd;have nr:lI g t (d / 2):=fX.2 ⟨by rw[hv];exact uA.2,hm⟩;have Dc:¬ Xe g p s t v via pre (d / 2):=by
  rintro ⟨-,c,hc,h2,h3,h4⟩;rcases gL h2.symm with q | q
  ·rcases h4 with r | r
   ·exact r (by rw[<-q];exact hv)
   exact Ct (by rw[q];exact r)
  have:g.tail c=g.head d:=by rw[q,az]
  rw[this] at h3;exact fx h3.1
 obtain⟨R,N,e1,e2,e3,e4⟩:=h.yY;refine⟨⟨by rw[m4];exact hG.et,by rw[m1,m4];exact hG.num,by rw[m1];exact hG.inj,by rw[m1];exact hG.act,by rw[m1];exact hG.PG,by rw[m1];exact hG.fin,by rw[m5];exact hG.AP,λl hl e he=>?_,by rw[m5];exact hG.oC⟩,λx hx=>?_,by rw[m1];exact h.me,λx hx=>by rw[m1];exact h.later x ((hN x).1 hx),λx hx z hz=>h.tree x ((hN x).1 hx) z λq=>hz ((hN z).2 q),λc hc=>?_,?_,λq=>?_,λc hc hn FG PK Ob=>?_,λe he=>?_,λe he=>?_,⟨R++[d / 2],N,by grind,by grind,?_,λe=>?_⟩,λq z x hz hx bn=>?_,by rw[m5];exact h.fst,λq=>absurd hA (by grind),λq=>absurd hA (by grind),λq=>absurd hA (by grind)⟩
 ·rw[m5] at hl
  rw[hB];exact hG.PW l hl e he
 ·have hxv:x≠v:=λe=>hx (by rw[e];exact hE.vn)
  rw[m1,m2 x hxv];exact h.old x hx
 ·rw[m1]
  rcases Qa.1 hc with q | q
  ·exact h.seen c q
  all_goals grind
 ·grind
 ·rw[m6,m1] at q
  by_cases r:t.low v<=t.met (g.head d)
  ·obtain⟨c,hc,k1,k2,k3,k4⟩:=h.Fw (by omega)
   grind
  all_goals grind
 ·rw[m6]
  by_cases q:c=d
  ·rw[q,<-hold];omega
  have:=h.KO c hc ((hN _).1 hn) (λr=>(Qa.1 (FG r)).resolve_right λu=>q (Qb.1 u)) PK Ob;omega
 ·rw[m3] at he
  rw[hB];rcases Qa.1 he with q | q
  ·exact h.Pg e q
  all_goals grind [au]
 ·rw[m3] at he
  rcases Qa.1 he with q | q
  ·exact h.LU e q
  all_goals grind [qI]
 ·grind
 ·have mD:e∈R++[d / 2]++N.flatten↔e=d / 2\/e∈R++N.flatten:=by
   all_goals grind
  rw[mD,e4];constructor
  ·rintro (rfl | ⟨h1,c,hc,h2,h3,h4⟩)
   ·exact⟨Nd,d,hd,rfl,(hN _).2 (by grind),Qi (by simp)⟩
   exact⟨h1,c,hc,h2,(hN _).2 h3,h4.imp id λq=>Qg _ q⟩
  rintro ⟨h1,c,hc,h2,h3,h4⟩;rcases h4 with q | q
  ·exact Qi ⟨h1,c,hc,h2,(hN _).1 h3,Qh q⟩
  rcases Qa.1 q with r | r
  ·exact Qi ⟨h1,c,hc,h2,(hN _).1 h3,Qi r⟩
  all_goals grind
 rw[m5] at q;exact h.cut q z x ((hN z).1 hz) ((hN x).1 hx) bn
variable {g : Gr} {p : Pt} {s t t2 : dW} {A pre : List Int} {v via : Int}
theorem cF.ent (hp:aD g p) (hE:xD g p s A v via) (h:cF g p s t A v via pre) (hd:d∈p.ah) (hv:g.tail d=v) (hm:t.met (g.head d)=0):xD g p (t.push (d / 2)) (A++[v]) (g.head d) (d / 2):=by
 have hG:=h.cd;have uA:=h.sN hE;refine⟨⟨hG.et,hG.num,hG.inj,hG.act,hG.PG,hG.fin,hG.AP,hG.PW,hG.oC⟩,(hp.aP hd).2,hm,Qi ⟨d,hd,rfl,rfl,by grind⟩,λe he=>?_,λe he=>?_⟩
 ·rcases Qa.1 he with q | q
  ·exact Qi (h.Pg e q)
  all_goals grind
 rcases Qa.1 he with q | q
 ·exact⟨(h.Pg e q).1,h.LU e q⟩
 rw[Qb.1 q];exact⟨au.1 hd,λr=>uA.2 (by grind [qI])⟩
theorem cF.Ad (h:cF g p s t A v via pre) (hm:t.met (g.head d)=0):d / 2 ∉ t.ed:=λq=>(fX.1 (h.Pg _ q).2).2 hm
theorem cF.child (hp:aD g p) (hE:xD g p s A v via) (h:cF g p s t A v via pre) (hd:d∈p.ah) (hv:g.tail d=v) (Ct:d ∉ pre) (Nd:d / 2≠via) (hm:t.met (g.head d)=0)
  (hS:cF g p (t.push (d / 2)) t2 (A++[v]) (g.head d) (d / 2) (aE g p (g.head d))):cF g p s (t2.back v (g.head d) (d / 2)) A v via (pre++[d]):=by
 have uA:=h.sN hE;have Cn:=h.ent hp hE hd hv hm;obtain⟨w,hw⟩:∃ w,g.head d=w:=⟨_,rfl⟩;obtain⟨e,he⟩:∃ e,d / 2=e:=⟨_,rfl⟩;have hfe:=h.Ad hm;have hdE:e∈p.e:=by rw[<-he];exact au.1 hd
 have Dc:¬ Xe g p s t v via pre e:=by
  rintro ⟨-,c,hc,h2,h3,h4⟩;rw[<-he] at h2;rcases gL h2.symm with q | q
  ·rcases h4 with r | r
   ·exact r (by rw[<-q];exact hv)
   exact Ct (by rw[q];exact r)
  have:g.tail c=g.head d:=by rw[q,az]
  rw[this] at h3;exact h3.2 hm
 rw[hw] at hm Cn hS ⊢;rw[he] at Cn hS Nd hfe ⊢;have LX:w≠v:=λq=>uA.2 (q ▸ hm);have f1:∀ x,t.met x≠0->t2.met x=t.met x/\t2.low x=t.low x:=λx hx=>hS.old x hx;have hX:∀ x,eI (t.push e) t2 x↔t.met x=0/\t2.met x≠0:=λx=>Iff.rfl;have f2:∀ x,eI s t2 x↔eI s t x\/eI (t.push e) t2 x:=λx=>by
  constructor
  ·rintro ⟨h1,h2⟩
   by_cases q:t.met x=0
   ·exact Qi ⟨q,h2⟩
   exact Qh ⟨h1,q⟩
  rintro (⟨h1,h2⟩ | ⟨h1,h2⟩)
  ·exact⟨h1,by grind⟩
  exact⟨Classical.byContradiction λq=>h.mono q h1,h2⟩
 have U4:eI (t.push e) t2 w:=hS.sN Cn;have xn:¬ eI (t.push e) t2 v:=λq=>uA.2 q.1;have mv:t2.met v=s.et+1:=by rw[(f1 v uA.2).1,h.me]
 have lv:t2.low v=t.low v:=(f1 v uA.2).2;have pY:om g p v w:=by rw[<-hv,<-hw];exact fW hd
 -- ag out of the new ones
 have eY:∀ c∈p.ah,eI (t.push e) t2 (g.tail c)->t2.met (g.head c)≠0:=λc hc hn=>by
  by_cases q:g.tail c=w
  ·exact hS.seen c (aX.2 ⟨hc,q⟩)
  refine hS.cd.fin c hc hn.2 λr=>?_;rcases Qa.1 r with r | r
  ·exact Cn.cd.act _ r hn.1
  all_goals grind
 obtain⟨R1,N1,a1,a2,a3,a4⟩:=h.yY;obtain⟨R2,N2,b1,b2,b3,b4⟩:=hS.yY;have XW:t2.ed=t.ed++e :: R2:=by rw[b1];show (t.ed++[e])++R2=_;simp
 have gZ:t2.bl=t.bl++N2:=b2;have JZ:∀ x∈e :: R2,¬ lI g t x:=by
  intro x hx hb;rcases Qd.1 hx with q | q
  ·rw[q,<-he,fX,hw] at hb;exact hb.2 hm
  obtain⟨-,c,hc,h2,h3,-⟩:=(b4 x).1 (Qg _ q);rw[<-h2,fX] at hb;exact hb.1 h3.1
 have aaN:∀ x,Xe g p s t v via pre x->Xe g p (t.push e) t2 w e (aE g p w) x->False:=by
  rintro x ⟨-,c',hc',h2',h3',h4'⟩ ⟨-,c,hc,h2,h3,-⟩;rcases gL (h2.trans h2'.symm) with q | q
  ·rw[<-q] at h3';exact h3'.2 h3.1
  have e1:g.head c'=g.tail c:=by rw[q,<-az,bg]
  by_cases r:g.tail c'=v
  ·have:=h.seen c' (h4'.resolve_left λu=>u r)
   grind
  have:=h.cd.fin c' hc' h3'.2 λu=>by
   rcases Qa.1 u with u | u
   ·exact hE.cd.act _ u h3'.1
   all_goals grind
  grind
 have gp:(e :: (R1++N1.flatten)++(R2++N2.flatten)).Nodup:=by
  rw[Qe];refine⟨List.nodup_cons.2 ⟨λq=>Dc ((a4 _).1 q),a3⟩,b3,λx hx y hy q=>?_⟩;subst q;have h2:=(b4 x).1 hy;rcases Qd.1 hx with r | r
  ·exact h2.1 r
  all_goals grind
 have ai2:∀ c∈p.ah,eI (t.push e) t2 (g.tail c)->c / 2≠via:=λc hc hn q=>by
  rcases hE.par with ⟨-,r⟩ | ⟨k,hk,OV,hk3,hk4⟩
  ·have:=hp.er _ (au.1 hc);omega
  rcases gL (q.trans OV.symm) with r | r
  ·rw[r] at hn;exact h.mono (hE.cd.act _ hk4) hn.1
  all_goals grind [az,bg]
 have jA:∀ t3:dW,t3.met=t2.met->∀ x,x∈e :: (R1++N1.flatten)++(R2++N2.flatten)↔Xe g p s t3 v via (pre++[d]) x:=by
  intro t3 h3 x;have f3:∀ y,eI s t3 y↔eI s t y\/eI (t.push e) t2 y:=λy=>by unfold eI;rw[h3];exact f2 y
  rw[Qa,Qd,a4,b4];constructor
  ·rintro ((rfl | ⟨h1,c,hc,h2,h3,h4⟩) | ⟨h1,c,hc,h2,h3,-⟩)
   ·exact⟨Nd,d,hd,he,(f3 _).2 (Qh (by grind)),Qi (by simp)⟩
   ·exact⟨h1,c,hc,h2,(f3 _).2 (Qh h3),h4.imp id λq=>Qg _ q⟩
   exact⟨by grind,c,hc,h2,(f3 _).2 (Qi h3),Qh λq=>xn (q ▸ h3)⟩
  rintro ⟨h1,c,hc,h2,h3,h4⟩;rcases (f3 _).1 h3 with q | q
  ·rcases h4 with r | r
   ·exact Qh (Qi ⟨h1,c,hc,h2,q,Qh r⟩)
   rcases Qa.1 r with r | r
   ·exact Qh (Qi ⟨h1,c,hc,h2,q,Qi r⟩)
   all_goals grind
  by_cases r:x=e
  ·exact Qh (Qh r)
  exact Qi ⟨r,c,hc,h2,q,(QI (g.tail c=w)).elim (λu=>Qi (aX.2 ⟨hc,u⟩)) Qh⟩
 -- what both ways have
 have all:∀ t3:dW,t3.met=t2.met->t3.et=t2.et->(∀ x,x≠v->t3.low x=t2.low x)->t3.low v=min (t.low v) (t2.low w)->(∀ x∈t3.ed,x∈t2.ed) ->
   (∀ l∈t3.bl,l≠[])->(∀ l∈t3.bl,∀ x∈l,x∈p.e/\lI g t2 x)->(∀ l∈t3.bl,∀ x∈l,(g.at x).1=(g.at x).2->l=[x]) ->
   (∃ R N,t3.ed=s.ed++R/\t3.bl=s.bl++N/\(R++N.flatten).Perm (e :: (R1++N1.flatten)++(R2++N2.flatten))) ->
   (t3.bl=s.bl->t.bl=s.bl/\t2.bl=t.bl/\t2.low w<t2.met v)->(s.bl=[]->∀ B l,t3.bl=B :: l->Fst g p B)->(A=[]->t3.ed=s.ed/\t3.bl.length=t2.bl.length+1)->cF g p s t3 A v via (pre++[d]):=by
  intro t3 m1 m4 m2 m6 Sc hbn oJ hbL afX hcut apw aeL;have f3:∀ y,eI s t3 y↔eI s t y\/eI (t.push e) t2 y:=λy=>by unfold eI;rw[m1];exact f2 y
  have hB:∀ x,lI g t3 x↔lI g t2 x:=λx=>by unfold lI;rw[m1]
  have hG:=hS.cd;obtain⟨R,N,c1,c2,c3⟩:=afX;refine⟨⟨by rw[m4];exact hG.et,by rw[m1,m4];exact hG.num,by rw[m1];exact hG.inj,λa ha=>by rw[m1];exact hG.act a (Qg _ ha),by rw[m1];exact hG.PG,λc hc ht hn=>?_,hbn,λl hl x hx=>by grind,hbL⟩,λx hx=>?_,by grind,λx hx=>?_,λx hx z hz=>?_,λc hc=>?_,?_,λq=>?_,λc hc hn FG hA Ob=>?_,λx hx=>?_,λx hx=>?_,⟨R,N,c1,c2,(c3.nodup_iff).2 gp,λx=>(c3.mem_iff).trans (jA t3 m1 x)⟩,λq z x hz hx bn=>?_,apw,λq=>(aeL q).1,λq r=>?_,λq r z x y hz hx hy AG wX=>?_⟩
  ·rw[m1] at ht ⊢
   by_cases q:g.tail c=w
   ·exact hS.seen c (aX.2 ⟨hc,q⟩)
   exact hG.fin c hc ht λr=>(Qa.1 r).elim hn λr=>q (Qb.1 r)
  ·have hxv:x≠v:=λq=>hx (by rw[q];exact hE.vn)
   rw[m1,m2 x hxv,(f1 x (h.mono hx)).1,(f1 x (h.mono hx)).2];exact h.old x hx
  ·rw[m1]
   rcases (f3 x).1 hx with q | q
   ·rw[(f1 x q.2).1];exact h.later x q
   have h1:=hS.later x q;have h2:(t.push e).et=t.et:=rfl;have h3:=(h.cd.num v).2
   grind
  ·have kA:¬ eI s t z:=λq=>hz ((f3 z).2 (Qh q))
   have uC:¬ eI (t.push e) t2 z:=λq=>hz ((f3 z).2 (Qi q));rcases (f3 x).1 hx with q | q
   ·exact h.tree x q z kA
   exact (bS.step .here pY (λr:w=z=>uC (r ▸ U4))).trans (hS.tree x q z uC)
  ·rw[m1]
   rcases Qa.1 hc with q | q
   ·rw[(f1 _ (h.seen c q)).1];exact h.seen c q
   all_goals grind
  ·rw[m6,m1,mv]
   have:=h.Nh
   grind
  ·rw[m6,m1,mv] at q
   by_cases r:t.low v<=t2.low w
   ·obtain⟨c,hc,k1,k2,k3,k4⟩:=h.Fw (by grind)
    grind
   have hwm:t2.low w<t2.met w:=by
    have h1:=hS.me;have h2:(t.push e).et=t.et:=rfl;have h3:=(h.cd.num v).2
    grind
   obtain⟨c,hc,k1,k2,k3,k4⟩:=hS.Fw hwm;have PK:g.head c∈A:=(Qa.1 k2).resolve_right λu=>by
    rw[Qb.1 u] at k3;have:(t.push e).met v=s.et+1:=h.me;omega
   refine⟨c,hc,(f3 _).2 (Qi k1),PK,?_,ai2 c hc k1⟩;rw[m6];have:(t.push e).met (g.head c)=s.met (g.head c):=(h.old _ (hE.cd.act _ PK)).1;omega
  ·rw[m6]
   rcases (f3 _).1 hn with r | r
   ·by_cases u:c=d
    ·rw[u,hw] at hA
     exact absurd hm (h.mono (hE.cd.act _ hA))
    have:=h.KO c hc r (λk=>(Qa.1 (FG k)).resolve_right λy=>u (Qb.1 y)) hA Ob;omega
   have Tc:c / 2≠e:=λk=>by
    rw[<-he] at k;rcases gL k with y | y
    ·rw[y,hv] at r;exact xn r
    have:g.head c=v:=by
     have h1:g.tail d=g.head c:=by rw[y,az]
     rw[<-h1];exact hv
    rw[this] at hA;exact hE.vA hA
   have h1:=hS.KO c hc r (λk=>aX.2 ⟨hc,k⟩) (Qg _ hA) Tc;have h2:(t.push e).met (g.head c)=s.met (g.head c):=(h.old _ (hE.cd.act _ hA)).1;omega
  ·rw[hB];exact hS.Pg x (Sc x hx)
  ·exact hS.LU x (Sc x hx)
  ·obtain⟨k1,k2,k3⟩:=hcut q
   have hup:∃ c∈p.ah,eI (t.push e) t2 (g.tail c)/\g.head c∈A:=by
    have hwm:t2.low w<t2.met w:=by
     have h1:=hS.me;have h2:(t.push e).et=t.et:=rfl;have h3:=(h.cd.num v).2
     grind
    obtain⟨c,hc,j1,j2,j3,-⟩:=hS.Fw hwm;exact⟨c,hc,j1,(Qa.1 j2).resolve_right λu=>by
     rw[Qb.1 u] at j3;have:(t.push e).met v=s.et+1:=h.me;omega⟩
   have ap0:∀ y,eI (t.push e) t2 y->y≠v:=λy hy q=>xn (q ▸ hy);have hNX:∀ y,eI s t y->¬ eI (t.push e) t2 y:=λy hy q=>hy.2 q.1;by_cases qW:eI (t.push e) t2 z
   ·have uG:=ap0 z qW
    by_cases Tv:eI (t.push e) t2 x
    ·rcases hS.cut k2 z x qW Tv bn with ⟨j1,j2⟩ | ⟨y,hy,j2⟩
     ·exact Qh ⟨uG,j2.step pY.symm (Ne.symm uG)⟩
     rcases Qa.1 hy with r | r
     all_goals grind
    have Ay:=((f3 x).1 hx).resolve_right Tv;exact Qh ⟨uG,((h.tree x Ay z λr=>hNX z r qW).symm (Ne.symm uG)).2⟩
   have YL:=((f3 z).1 hz).resolve_right qW;by_cases Tv:eI (t.push e) t2 x
   ·by_cases uG:z=v
    ·subst uG
     obtain⟨c,hc,j1,j2⟩:=hup;have h1:=hS.tree x Tv z qW;have h2:=hS.tree (g.tail c) j1 z qW;have wX:g.head c≠z:=λr=>hE.vA (r ▸ j2);exact Qi ⟨g.head c,j2,((h1.symm LX).2.trans h2).step (fW hc) wX⟩
    have h1:=hS.tree x Tv z qW;have Ie:w≠z:=λr=>qW (r ▸ U4);exact Qh ⟨uG,(h1.symm Ie).2.step pY.symm (Ne.symm uG)⟩
   have Ay:=((f3 x).1 hx).resolve_right Tv;exact h.cut k1 z x YL Ay bn
  ·grind
  have h1:=(aeL q).2;rw[h1,gZ,a2] at r;simp only[Qw] at r;have H':t.bl=s.bl:=by rw[a2,Qz.1 (show N1.length=0 by omega),Ql]
  have gY:t2.bl=(t.push e).bl:=by
   show t2.bl=t.bl;rw[gZ,Qz.1 (show N2.length=0 by omega),Ql]
  have nJ:∀ u,eI s t3 u->u=v\/eI (t.push e) t2 u:=λu hu=>((f3 u).1 hu).imp (λk=>h.WO q H' u k) id;by_cases qW:eI (t.push e) t2 z
  ·have uG:z≠v:=λk=>xn (k ▸ qW)
   have X9:∀ u,eI s t3 u->u≠z->bS g p z u v:=λu hu huz=>by
    rcases nJ u hu with k | k
    ·rw[k];exact .here
    rcases hS.cut gY z u qW k huz with ⟨j1,j2⟩ | ⟨y',hy',j2⟩
    ·exact j2.step pY.symm (Ne.symm uG)
    all_goals grind
   exact (X9 x hx AG).trans ((X9 y hy wX).symm wX).2
  have uG:=(nJ z hz).resolve_right qW;have tow:∀ u,eI s t3 u->u≠z->eI (t.push e) t2 u:=λu hu huz=>(nJ u hu).resolve_left λk=>huz (k.trans uG.symm);have Ie:w≠z:=λk=>qW (k ▸ U4);exact ((hS.tree x (tow x hx AG) z qW).symm Ie).2.trans (hS.tree y (tow y hy wX) z qW)
 have YJ:∀ l∈t2.bl,∀ x∈l,x∈p.e/\lI g t2 x:=hS.cd.PW;unfold dW.back;by_cases YO:t2.met v<=t2.low w
 ·rw[if_pos YO]
  have xo:t2.ed.idxOf e=t.ed.length:=by
   grind
  have Gb:t2.ed.take (t2.ed.idxOf e)=t.ed:=by rw[xo,XW];exact QG rfl
  have Th:t2.ed.drop (t2.ed.idxOf e)=e :: R2:=by rw[xo,XW];exact List.drop_left' rfl
  have E5:mq (Cf (e :: R2)) t2.bl=t2.bl++[Cf (e :: R2)]:=tl λm mD q=>by
   have h0:m.getD 0 0∈m:=iQ (Qv.2 (hS.cd.AP m mD));have h1:(Cf (e :: R2)).getD 0 0∈e :: R2:=(eR _).mem_iff.1 (iQ (by rw[(eR _).length_eq];simp));rw[<-q] at h1;rw[gZ] at mD;rcases Qa.1 mD with r | r
   ·exact JZ _ h1 (h.cd.PW m r _ h0).2
   have h2:m.getD 0 0∈R2++N2.flatten:=Qp _ (Qn.2 ⟨m,r,h0⟩);rcases Qd.1 h1 with u | u
   ·exact ((b4 _).1 h2).1 u
   exact (Qe.1 b3).2.2 _ u _ (Qn.2 ⟨m,r,h0⟩) rfl
  have OQ:((t2.lower v (t2.low w)).take e).ed=t.ed/\((t2.lower v (t2.low w)).take e).bl=t2.bl++[Cf (e :: R2)]:=by
   refine⟨Gb,?_⟩;show mq (Cf (t2.ed.drop (t2.ed.idxOf e))) t2.bl=_;rw[Th,E5]
  have heR:∀ x∈Cf (e :: R2),x∈t2.ed:=λx hx=>by
   grind [eR]
  refine all _ rfl rfl (λx hx=>pJ hx) (by show qZ t2.low v _ v=_;rw[rV,lv]) (λx hx=>by grind) (λl hl=>?_) (λl hl x hx=>?_) (λl hl x hx AI=>?_) ⟨R1,N1++N2++[Cf (e :: R2)],by grind,by grind,?_⟩ (λq=>?_) (λhs B l hB=>?_) (λq=>⟨by rw[OQ.1];exact h.XI q,by rw[OQ.2];simp⟩)
  ·rw[OQ.2] at hl
   rcases Qa.1 hl with r | r
   ·exact hS.cd.AP l r
   rw[Qb.1 r];exact List.ne_nil_of_length_pos (by rw[(eR _).length_eq];simp)
  ·rw[OQ.2] at hl
   rcases Qa.1 hl with r | r
   ·exact YJ l r x hx
   rw[Qb.1 r] at hx;exact hS.Pg x (heR x hx)
  ·rw[OQ.2] at hl
   rcases Qa.1 hl with r | r
   ·exact hS.cd.oC l r x hx AI
   rw[Qb.1 r] at hx;exact absurd AI (hS.LU x (heR x hx))
  ·rw[Qr]
   intro x;have:=Qr.1 (eR (e :: R2)) x;simp only[QD,Qx,Qt,Ql,QE,List.count_cons] at this ⊢;omega
  ·rw[OQ.2,gZ,a2] at q
   have:=congrArg QF q;simp at this
  rw[OQ.2] at hB;cases hq:t2.bl with
  | cons B' l' =>
   rw[hq,Qj] at hB;injection hB with k1 k2;rw[<-k1];cases tX:t.bl with
   | nil=>exact hS.fst tX B' l' hq
   | cons B2 l2 =>
    rw[gZ,tX,Qj] at hq;injection hq with k3 k4;rw[<-k3];exact h.fst hs B2 l2 tX
  | nil =>
   rw[hq,QH] at hB;injection hB with k1 k2;have hN2:N2=[]:=by
    rw[gZ] at hq;exact (QA.1 hq).2
   rw[<-k1];refine Qi ⟨v,hE.vV,eI (t.push e) t2,xn,λc hc hn=>?_,λx=>?_⟩
   ·by_cases r:t.met (g.head c)=0
    ·grind
    refine Qi ?_;have PK:=hS.inA Cn hc hn r;rcases Qa.1 PK with u | u
    ·exfalso
     have Tc:c / 2≠e:=λk=>by
      rw[<-he] at k;rcases gL k with y | y
      ·rw[y,hv] at hn;exact xn hn
      have h1:g.tail d=g.head c:=by rw[y,az]
      rw[<-h1,hv] at u;exact hE.vA u
     have h1:=hS.KO c hc hn (λk=>aX.2 ⟨hc,k⟩) PK Tc;have h2:(t.push e).met (g.head c)=s.met (g.head c):=(h.old _ (hE.cd.act _ u)).1;have h3:=(hE.cd.num (g.head c)).2;omega
    all_goals grind
   rw[(eR _).mem_iff,Qd];have h4:=b4 x;rw[hN2,Qt,Ql] at h4;rw[h4];constructor
   ·rintro (r | ⟨-,c,hc,h2,h3,-⟩)
    ·exact⟨aH d,bD hd,by grind [bJ],by grind [az]⟩
    all_goals grind
   rintro ⟨c,hc,h2,h3⟩;by_cases r:x=e
   ·exact Qh r
   exact Qi ⟨r,c,hc,h2,h3,(QI (g.tail c=w)).elim (λu=>Qi (aX.2 ⟨hc,u⟩)) Qh⟩
 rw[if_neg YO];refine all _ rfl rfl (λx hx=>pJ hx) (by show qZ t2.low v _ v=_;rw[rV,lv]) (λx hx=>hx) hS.cd.AP YJ hS.cd.oC ⟨R1++e :: R2,N1++N2,by show t2.ed=_;rw[XW,a1];simp,by show t2.bl=_;rw[gZ,a2];simp,?_⟩ (λq=>?_) (λhs B l hB=>?_) (λq=>absurd ?_ YO)
 ·rw[Qr]
  grind
 ·have q:t2.bl=s.bl:=q
  have h1:t.bl=s.bl/\N2=[]:=by
   rw[gZ,a2,Qs] at q;have h2:=List.append_cancel_left (show s.bl++(N1++N2)=s.bl++[] by grind);obtain⟨h3,h4⟩:=QA.1 h2
   grind
  grind
 ·have hB:t2.bl=B :: l:=hB
  cases tX:t.bl with
  | nil=>exact hS.fst tX B l hB
  | cons B2 l2 =>
   rw[gZ,tX,Qj] at hB;injection hB with k3 k4;rw[<-k3];exact h.fst hs B2 l2 tX
 refine Qm λk=>?_;have hwm:t2.low w<t2.met w:=by
  have h1:=hS.me;have h2:(t.push e).et=t.et:=rfl;have h3:=(h.cd.num v).2
  grind
 obtain⟨c,hc,j1,j2,j3,-⟩:=hS.Fw hwm;rw[q,QH,Qb] at j2;rw[j2] at j3;have:(t.push e).met v=s.et+1:=h.me;omega
