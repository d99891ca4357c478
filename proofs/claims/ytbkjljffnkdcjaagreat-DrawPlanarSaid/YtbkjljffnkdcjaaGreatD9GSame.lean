/- graph.Same: contract. Conditions: parts that lie in memory and read so. -/
import Derived.Test.YtbkjljffnkdcjaaGreatD9PtP
open List renaming mem_singleton→Qa,mem_append→Qb,nodup_append→Qc,mem_cons_of_mem→Qd,mem_append_left→Qf,filter_cons_of_pos→Qh,flatten_cons→Qi,mem_append_right→Qj,mem_cons→Qk,append_assoc→Ql,filter_cons_of_neg→Qm,mem_map→Qn,nodup_cons→Qo,perm_append_comm→Qp,perm_ext_iff_of_nodup→Qq,cons_append→Qr,append_nil→Qt,mem_flatten→Qu,map_cons→Qv,getD→Qw,map_append→Qx,eq_nil_or_concat→Qy,length_pos_iff→Qz,flatten_append→QA,length_append→QB,mem_reverse→QC,any_eq_true→QD,flatten_nil→QE,take_left'→QF,length→QG
open Or renaming inl→Qe,inr→Qg
open Classical renaming byContradiction→Qs
namespace Go.Proofs.YtbkjljffnkdcjaaGreat
open Go.RowKit Go.Maps
set_option maxRecDepth 100000 in
set_option maxHeartbeats 2000000 in
theorem LG (va vb:Value) (a b:Plain.Pt) (w:World) (ha:gD w va a) (hb:gD w vb b) :
  Calls Tryz.prog 81 #[va,vb] w fun e w'=>e=.returned (.bool (decide (a.v=b.v)&&decide (a.e=b.e)))/\ai [] w w':=by
 obtain⟨v1,v2,rfl,h1,h2⟩:=ha;obtain⟨u1,u2,rfl,k1,k2⟩:=hb;obtain⟨av,ae⟩:=a;obtain⟨bv,be⟩:=b;have H1:=lh h1;have H2:=lh h2;have K1:=lh k1;have K2:=lh k2;obtain⟨p1,c1,rfl,-⟩:=h1;obtain⟨p2,c2,rfl,-⟩:=h2;obtain⟨p3,c3,rfl,-⟩:=k1;obtain⟨p4,c4,rfl,-⟩:=k2;have eV:=lh (show ai [] w ((w.alloc (.cells #[.slice p1 av.length c1,.slice p2 ae.length c2] 27)).alloc (.cells #[.slice p3 bv.length c3,.slice p4 be.length c4] 27)) from (show ai [] w ((w.alloc (.cells #[.slice p1 av.length c1,.slice p2 ae.length c2] 27)).alloc (.cells #[.slice p3 bv.length c3,.slice p4 be.length c4] 27)) from (((ai.refl [] w).alloc _).alloc _)));have cK:=heap_alloc_new w (.cells #[.slice p1 av.length c1,.slice p2 ae.length c2] 27);replace cK:=(show ai [] (w.alloc (.cells #[.slice p1 av.length c1,.slice p2 ae.length c2] 27)) ((w.alloc (.cells #[.slice p1 av.length c1,.slice p2 ae.length c2] 27)).alloc (.cells #[.slice p3 bv.length c3,.slice p4 be.length c4] 27)) from ((ai.refl [] (w.alloc (.cells #[.slice p1 av.length c1,.slice p2 ae.length c2] 27))).alloc _)).heap cK (by simp);have eN:=heap_alloc_new (w.alloc (.cells #[.slice p1 av.length c1,.slice p2 ae.length c2] 27)) (.cells #[.slice p3 bv.length c3,.slice p4 be.length c4] 27);rw[show (w.alloc (.cells #[.slice p1 av.length c1,.slice p2 ae.length c2] 27)).heap.size=w.heap.size+1 by simp] at eN;have HX:=lh (fun (w2:World) (dL:ai [] ((w.alloc (.cells #[.slice p1 av.length c1,.slice p2 ae.length c2] 27)).alloc (.cells #[.slice p3 bv.length c3,.slice p4 be.length c4] 27)) w2)=>(⟨dL.c ((cell_of_row _ _ 0 _ _ _ cK).trans rfl),dL.c ((cell_of_row _ _ 1 _ _ _ cK).trans rfl),dL.c ((cell_of_row _ _ 0 _ _ _ eN).trans rfl),dL.c ((cell_of_row _ _ 1 _ _ _ eN).trans rfl),by have hz:=dL.size;simpa using hz⟩:w2.cell? ⟨w.heap.size,0,none⟩=some (.slice p1 av.length c1)/\w2.cell? ⟨w.heap.size,1,none⟩=some (.slice p2 ae.length c2)/\w2.cell? ⟨w.heap.size+1,0,none⟩=some (.slice p3 bv.length c3)/\w2.cell? ⟨w.heap.size+1,1,none⟩=some (.slice p4 be.length c4)/\w.heap.size+2<=w2.heap.size));clear cK eN;have CK:=lh (show ((w.alloc (.cells #[.slice p1 av.length c1,.slice p2 ae.length c2] 27)).alloc (.cells #[.slice p3 bv.length c3,.slice p4 be.length c4] 27)).heap.size=w.heap.size+2 by simp);obtain⟨x0,x1,y0,y1,di⟩:=HX.out _ (ai.refl _ _)
 go_enter Tryz.func81,Tryz.ntmps81
 go_wp2_with fail
 generalize ((w.alloc (.cells #[.slice p1 av.length c1,.slice p2 ae.length c2] 27)).alloc (.cells #[.slice p3 bv.length c3,.slice p4 be.length c4] 27))=w1 at *;refine (Ju _ _ av bv _ (H1.out.fresh eV.out) (K1.out.fresh eV.out)).mono ?_;rintro e w2 ⟨rfl,bG⟩;have cA:=lh (eV.out.t bG);clear x0 x1 y0 y1 di;obtain⟨x0,x1,y0,y1,di⟩:=HX.out _ bG;clear bG;by_cases h0:av=bv
 ·have HE:=lh (show decide (av=bv)=true from decide_eq_true h0)
  rw[HE.out];clear h0
  go_wp2_with fail
  refine (Ju _ _ ae be _ (H2.out.fresh cA.out) (K2.out.fresh cA.out)).mono ?_;rintro e w3 ⟨rfl,dB⟩;have dD:=lh (cA.out.t dB);clear x0 x1 y0 y1 di dB;go_wp2;go_ret;exact⟨bB (by show _=(decide (av=bv)&&decide (ae=be));rw[HE.out];simp),dD.out⟩
 have HE:=lh (show decide (av=bv)=false from decide_eq_false h0);rw[HE.out];clear h0 x0 x1 y0 y1 di;go_wp2;go_ret;exact⟨bB (by show _=(decide (av=bv)&&decide (ae=be));rw[HE.out];simp),cA.out⟩
end Go.Proofs.YtbkjljffnkdcjaaGreat
namespace Go.Proofs.YtbkjljffnkdcjaaGreat.Plain
def lu (x y:Int):List Int->List Int
 | []=>[]
 | z :: l=>if z=x then z :: y :: l else z :: lu x y l
theorem jw {x y:Int} {c:List Int}:∀ {a:List Int},x ∉ a->lu x y (a++x :: c)=a++x :: y :: c
 | [],_=>by simp[lu]
 | z :: a,h=>by
  have hz:z≠x:=fun e=>h (by rw[e];simp);have ih:=jw (x:=x) (y:=y) (c:=c) (a:=a) fun q=>h (Qd _ q);show (if z=x then z :: y :: (a++x :: c) else z :: lu x y (a++x :: c))=z :: (a++x :: y :: c);rw[if_neg hz,ih]
theorem qp {x y:Int} {l:List Int} (hx:x∈l):(lu x y l).Perm (y :: l):=by
 obtain⟨a,c,rfl,h⟩:=jF hx;rw[jw h];have h1:(a++x :: y :: c).Perm ((x :: y :: c)++a):=Qp;have h2:(a++x :: c).Perm ((x :: c)++a):=Qp;exact h1.trans ((List.Perm.swap y x _).trans (h2.symm.cons y))
theorem pP {x y:Int} {l:List Int} (hn:l.Nodup) (hx:x∈l) (hy:y ∉ l):ahead (lu x y l) y=x:=by
 obtain⟨a,c,rfl,h⟩:=jF hx;rw[jw h,show a++x :: y :: c=(a++[x])++y :: c by simp,fK (by
  intro q;apply hy;rcases Qb.1 q with r | r
  ·simp[r]
  simp[Qa.1 r])]
 simp[Qw]
theorem pM {x y:Int} {l:List Int} (hn:l.Nodup) (hx:x∈l) (hy:y ∉ l) {u:Int} (hu:u∈l):ahead (lu x y l) u=if ahead l u=x then y else ahead l u:=by
 obtain⟨a,c,rfl,h⟩:=jF hx;rw[jw h];have gL:(a++x :: y :: c).Nodup:=by
  have:=qp (y:=y) hx;rw[jw h] at this;exact this.nodup_iff.2 (Qo.2 ⟨hy,hn⟩)
 have hun:u∈a++x :: y :: c:=by
  rcases Qb.1 hu with q | q
  ·simp[q]
  rcases Qk.1 q with q | q <;> simp[q]
 rw[<-th hn hu,<-th gL hun];have hm:(x :: c++a).Nodup:=(Qp.nodup_iff).1 hn;have Cl:u∈x :: (c++a):=by simpa using (Qp.mem_iff).1 hu
 have huy:u≠y:=fun e=>hy (e ▸ hu);rw[Qr] at hm;rw[Qr,Qr,Qr];generalize c++a=m at *;obtain⟨IM,YX⟩:=Qo.1 hm;have A0:ahead (x :: m) x=(m.reverse++[x]).getD 0 0:=by have:=fK (a:=[]) (c:=m) (u:=x) (by simp);simpa using this
 have A1:ahead (x :: y :: m) x=(m.reverse++[y,x]).getD 0 0:=by have:=fK (a:=[]) (c:=y :: m) (u:=x) (by simp);simpa using this
 rcases Qk.1 Cl with rfl | q
 ·rw[A0,A1]
  rcases Qy m with rfl | ⟨m,z,rfl⟩
  ·simp[Qw]
  have hz:z≠u:=fun e=>IM (by rw[e];simp);simp[Qw,hz]
 obtain⟨b,d,rfl,hb⟩:=jF q;have hux:u≠x:=fun e=>IM (by rw[<-e];simp);have e1:=fK (a:=x :: b) (c:=d) (u:=u) (by simp[hux,hb]);have e2:=fK (a:=x :: y :: b) (c:=d) (u:=u) (by simp[hux,huy,hb]);rw[show x :: (b++u :: d)=x :: b++u :: d by simp,show x :: y :: (b++u :: d)=x :: y :: b++u :: d by simp,e1,e2];rcases Qy b with rfl | ⟨b,z,rfl⟩
 ·simp[Qw]
 have hz:z≠x:=fun e=>IM (by rw[e];simp);simp[Qw,hz]
theorem yi {l:List Int} {a b:Int} (hn:l.Nodup) (hm:∀ x,x∈l↔x=a\/x=b) (lT:a≠b):ahead l a=b:=by
 match l,hn,hm with
 | [],_,hm=>exact absurd ((hm a).2 (Qe rfl)) (by simp)
 | [x],_,hm =>
  have h1:=(hm a).2 (Qe rfl);have h2:=(hm b).2 (Qg rfl);simp at h1 h2;exact absurd (h1.trans h2.symm) lT
 | [x,y],hn,hm =>
  have fW:x≠y:=by simpa using hn
  rcases (hm x).1 (by simp) with rfl | rfl
  ·rcases (hm y).1 (by simp) with rfl | rfl
   ·exact absurd rfl fW
   simp[ahead]
  rcases (hm y).1 (by simp) with rfl | rfl
  ·have hb:(x==y)=false:=by simpa using fW
   unfold ahead;rw[List.idxOf_cons,hb];simp
  exact absurd rfl fW
 | x :: y :: z :: m,hn,hm =>
  exfalso;have fW:x≠y/\x≠z/\y≠z:=by simp at hn;exact⟨hn.1.1,hn.1.2.1,hn.2.1.1⟩
  have h1:=(hm x).1 (by simp);have h2:=(hm y).1 (by simp);have h3:=(hm z).1 (by simp);rcases h1 with rfl | rfl <;> rcases h2 with rfl | rfl <;> rcases h3 with h3 | h3 <;> simp_all
def twins (w:List Int):List Int:=(w.map aE).reverse
theorem bC.aeV {p q:Int->Int} {x z c:Int} {A B w:List Int} {R:List (List Int)} (h:bC p ((x :: A++z :: B) :: R)) (hw:Trail q c w z) (ht:∃ e t,twins (c :: w)=e :: t/\Trail q e t x) (pw:∀ y∈c :: w,y ∉ ((x :: A++z :: B) :: R).flatten) (q9:∀ y∈twins (c :: w),y ∉ ((x :: A++z :: B) :: R).flatten)
  (fs:(c :: w++twins (c :: w)).Nodup)
  (hx:∀ y∈((x :: A++z :: B) :: R).flatten,p y=x->q y=c) (hz:∀ y∈((x :: A++z :: B) :: R).flatten,p y=z->∀ e t,twins (c :: w)=e :: t->q y=e) (ho:∀ y∈((x :: A++z :: B) :: R).flatten,p y≠x->p y≠z->q y=p y) :
  bC q ((x :: A++twins (c :: w)) :: (c :: w++z :: B) :: R):=by
 obtain⟨e,t,het,ht⟩:=ht;have hr:=h.ring (x :: A++z :: B) (by simp);have cH:Trail p x (A++z :: B) x:=hr;obtain⟨h1,h2⟩:=Trail.append.1 cH;have gM:=h.nodup;have alC:∀ y∈x :: A,y∈((x :: A++z :: B) :: R).flatten:=fun y hy=>by
  rw[Qi];exact Qf _ (Qf _ hy)
 have akk:∀ y∈z :: B,y∈((x :: A++z :: B) :: R).flatten:=fun y hy=>by
  rw[Qi];exact Qf _ (Qj _ hy)
 have akc:∀ y∈R.flatten,y∈((x :: A++z :: B) :: R).flatten:=fun y hy=>by
  rw[Qi];exact Qj _ hy
 have inj:=h.inj;have Y':(x :: A++z :: B).Nodup:=by
  rw[Qi,Qc] at gM;exact gM.1
 have DA:∀ y∈x :: A,y∈z :: B->False:=fun y a b=>(Qc.1 Y').2.2 y a y b rfl;have hxR:∀ y∈R.flatten,y∈x :: A++z :: B->False:=fun y a b=>by
  rw[Qi,Qc] at gM;exact gM.2.2 y b y a rfl
 -- trails of the old ring,in the new turns
 have step:∀ {l:List Int} {a b k:Int},(b=x/\k=c\/b=z/\k=e)->(∀ y∈a :: l,y∈((x :: A++z :: B) :: R).flatten)->(∀ y∈l,y≠x/\y≠z)->Trail p a l b->Trail q a l k:=by
  intro l
  induction l with
  | nil =>
   intro a b k hb dM _ hp;have hp:p a=b:=hp;show q a=k;rcases hb with ⟨rfl,rfl⟩ | ⟨rfl,rfl⟩
   ·exact hx a (dM a (by simp)) hp
   exact hz a (dM a (by simp)) hp _ _ het
  | cons y l ih =>
   intro a b k hb dM hl hp;obtain⟨e1,e2⟩:=hp;refine⟨?_,ih hb (fun u hu=>dM u (Qd _ hu)) (fun u hu=>hl u (Qd _ hu)) e2⟩;have:=hl y (by simp);rw[<-e1];exact ho a (dM a (by simp)) (by rw[e1];exact this.1) (by rw[e1];exact this.2)
 have hA:Trail q x A e:=step (Qg ⟨rfl,rfl⟩) alC (fun y hy=>⟨fun q=>by
  rw[q] at hy;have:=(Qc.1 Y').1;exact (Qo.1 this).1 hy,fun q=>DA y (Qd _ hy) (by rw[q];simp)⟩) h1
 have hB:Trail q z B c:=step (Qe ⟨rfl,rfl⟩) akk (fun y hy=>⟨fun q=>DA y (by rw[q];simp) (Qd _ hy),fun q=>by
  rw[q] at hy;have:=(Qc.1 Y').2.1;exact (Qo.1 this).1 hy⟩) h2
 refine⟨fun d hd=>?_,?_⟩
 ·rcases Qk.1 hd with rfl | hd
  ·rw[het]
   show Trail q x (A++e :: t) x;exact Trail.append.2 ⟨hA,ht⟩
  rcases Qk.1 hd with rfl | hd
  ·show Trail q c (w++z :: B) c
   exact Trail.append.2 ⟨hw,hB⟩
  refine (h.ring d (Qd _ hd)).congr fun y hy=>?_;have hyR:y∈R.flatten:=Qu.2 ⟨d,hd,hy⟩;have hpy:p y∈R.flatten:=Qu.2 ⟨d,hd,(h.ring d (Qd _ hd)).l8.mem_iff.1 (Qn.2 ⟨y,hy,rfl⟩)⟩;exact (ho y (akc y hyR) (fun q=>hxR _ hpy (by rw[q];simp)) (fun q=>hxR _ hpy (by rw[q];simp))).symm
 have hp:((x :: A++twins (c :: w)) :: (c :: w++z :: B) :: R).flatten.Perm ((c :: w++twins (c :: w))++((x :: A++z :: B) :: R).flatten):=by
  rw[List.perm_iff_count];intro y;simp only[Qi,List.count_append];omega
 rw[hp.nodup_iff,Qc];refine⟨fs,gM,fun a ha b hb q=>?_⟩;subst q;rcases Qb.1 ha with r | r
 ·exact pw a r hb
 exact q9 a r hb
theorem du {f:Int->Int} {l:List Int} (h:(l.map f).Nodup):l.Nodup:=(List.pairwise_map.1 h).imp fun k e=>k (by rw[e])
theorem zF {l:List Int}:l.reverse.Nodup↔l.Nodup:=(List.reverse_perm l).nodup_iff
structure cL (g:Gr) (p:Pt) (aa:List (List Int)) (F:List (List Int)):Prop where
 pe:p.err g=0
 js:aT g p aa
 rings:bC (ay g aa) F
 all:F.flatten.Perm p.ag
 simple:∀ f∈F,(f.map g.tail).Nodup
 full:∀ v∈p.v,∃ d∈p.ag,g.tail d=v
 pZ:p.v.length+F.length=2+p.e.length
 ou:∀ u∈p.v,∀ v∈p.v,bP g p (-1) u v
def eR (g:Gr):Int->List Int->Int->Prop
 | a,[],z=>a=z
 | a,d :: w,z=>g.tail d=a/\eR g (g.head d) w z
theorem eR.append {g:Gr} {z:Int} {m:List Int}:∀ {l:List Int} {a:Int},eR g a (l++m) z↔∃ b,eR g a l b/\eR g b m z
 | [],a=>⟨fun h=>⟨a,rfl,h⟩,fun ⟨b,h1,h2⟩=>by cases h1;exact h2⟩
 | d :: l,a=>by
  have ih:=eR.append (g:=g) (z:=z) (m:=m) (l:=l) (a:=g.head d);constructor
  ·rintro ⟨h1,h2⟩
   obtain⟨b,h3,h4⟩:=ih.1 h2;exact⟨b,⟨h1,h3⟩,h4⟩
  rintro ⟨b,⟨h1,h3⟩,h4⟩;exact⟨h1,ih.2 ⟨b,h3,h4⟩⟩
structure pT (g:Gr) (p:Pt) (w:List Int) (a z:Int):Prop where
 link:eR g a w z
 ne:a≠z
 av:a∈p.v
 zv:z∈p.v
 E4:∀ d∈w.tail,g.tail d ∉ p.v
 vn:(w.map g.tail).Nodup
 en:(w.map (· / 2)).Nodup
 XS:∀ d∈w,d / 2 ∉ p.e
structure Hi (g:Gr) (p:Pt) (w:List Int) (q:Pt):Prop where
 qe:q.err g=0
 v:∀ u,u∈q.v↔u∈p.v\/u∈w.map g.tail
 e:∀ u,u∈q.e↔u∈p.e\/u∈w.map (· / 2)
structure Cz (g:Gr) (p:Pt) (aa:List (List Int)) (w:List Int) (x y:Int) (fQ:List (List Int)):Prop where
 first:∀ d l,w=d :: l->before g fQ d=x
 last:∀ d l,w=l++[d]->before g fQ (aE d)=y
 old:∀ u∈p.ag,before g fQ u=if before g aa u=x then w.headD 0 else if before g aa u=y then aE (w.getLastD 0) else before g aa u
theorem uD {q:Int->Int} {z:Int}:∀ {w:List Int} {c:Int},(∀ l d e m,c :: w=l++d :: e :: m->q d=e)->(∀ l d,c :: w=l++[d]->q d=z)->Trail q c w z
 | [],c,_,h=>h [] c rfl
 | d :: w,c,h1,h2=>⟨h1 [] c d w rfl,uD (fun l a b m e=>h1 (c :: l) a b m (by rw[e];rfl)) (fun l a e=>h2 (c :: l) a (by rw[e];rfl))⟩
theorem tu {q:Int->Int}:∀ {w:List Int} {c x:Int},(∀ l d e m,c :: w=l++d :: e :: m->q (aE e)=aE d)->q (aE c)=x->∃ e t,twins (c :: w)=e :: t/\Trail q e t x
 | [],c,x,_,h=>⟨aE c,[],rfl,h⟩
 | d :: w,c,x,h1,h2=>by
  obtain⟨e,t,h3,h4⟩:=tu (q:=q) (w:=w) (c:=d) (x:=aE c) (fun l a b m e=>h1 (c :: l) a b m (by rw[e];rfl)) (h1 [] c d w rfl);refine⟨e,t++[aE c],?_,Trail.append.2 ⟨h4,h2⟩⟩;have:twins (c :: d :: w)=twins (d :: w)++[aE c]:=by simp[twins]
  rw[this,h3];rfl
theorem jh {g:Gr} {z:Int}:∀ {l:List Int} {a d e:Int} {m:List Int},eR g a (l++d :: e :: m) z->g.head d=g.tail e
 | [],_a,_d,_e,_m,h=>h.2.1.symm
 | _c :: l,_a,_d,_e,_m,h=>jh (l:=l) h.2
theorem gx {g:Gr} {z:Int}:∀ {l:List Int} {a d:Int},eR g a (l++[d]) z->g.head d=z
 | [],_a,_d,h=>h.2
 | _c :: l,_a,_d,h=>gx (l:=l) h.2
theorem eO {w:List Int} {y:Int}:y∈twins w↔aE y∈w:=by
 unfold twins;rw[QC,Qn];constructor
 ·rintro ⟨d,h,rfl⟩;rw[aS];exact h
 intro h;exact⟨_,h,aS y⟩
theorem oP (d:Int):aE d≠d:=by unfold aE;split <;> omega
theorem kJ {d e:Int} (h:d / 2=e / 2):d=e\/d=aE e:=by unfold aE;split <;> omega
theorem EO {w:List Int} (h:(w.map (· / 2)).Nodup):(w++twins w).Nodup:=by
 have hw:w.Nodup:=du h;rw[Qc];refine⟨hw,?_,fun a ha b hb e=>?_⟩
 ·unfold twins
  rw[zF];exact List.Pairwise.map _ (fun a b lT e=>lT (by rw[<-aS a,e,aS])) hw
 subst e;have hb:=eO.1 hb;have:aE a=a:=dE h _ hb _ ha (bA a);exact oP a this
theorem pT.cons {g:Gr} {p:Pt} {w:List Int} {a z:Int} (h:pT g p w a z):∃ c l,w=c :: l:=by
 cases w with
 | nil=>exact absurd h.link h.ne
 | cons c l=>exact⟨c,l,rfl⟩
theorem dJ {g:Gr} {z:Int}:∀ {w:List Int} {a c:Int},eR g a (c :: w) z->(c :: w).map g.head=w.map g.tail++[z]
 | [],a,c,h=>by have:g.head c=z:=h.2;simp[this]
 | d :: w,a,c,h=>by
  have ih:=dJ (w:=w) h.2;have:g.head c=g.tail d:=h.2.1.symm;rw[Qv,ih,this];rfl
variable {g : Gr} {p q : Pt} {aa fQ : List (List Int)} {w : List Int} {a z x y : Int}
theorem pT.rj (h:pT g p w a z) {d:Int} (hd:d∈w):d ∉ p.ag/\aE d ∉ p.ag :=
 ⟨fun q=>h.XS d hd (aw.1 q),fun q=>h.XS d hd (by have:=aw.1 q;rwa[bA] at this)⟩
theorem Hi.ag (hq:Hi g p w q) {d:Int}:d∈q.ag↔d∈p.ag\/d∈w\/aE d∈w:=by
 rw[aw,aw,hq.e,Qn];constructor
 ·rintro (h | ⟨b,hb,e⟩)
  ·exact Qe h
  rcases kJ e.symm with r | r
  ·rw[r];exact Qg (Qe hb)
  rw[r,aS];exact Qg (Qg hb)
 rintro (h | h | h)
 ·exact Qe h
 ·exact Qg ⟨d,h,rfl⟩
 exact Qg ⟨aE d,h,bA d⟩
theorem H' (hw:pT g p w a z) (hq:Hi g p w q) (ig:aH g p) (ht:aT g q fQ) {l m:List Int} {d e:Int} (hs:w=l++d :: e :: m):before g fQ (aE d)=e/\before g fQ e=aE d:=by
 have Hn:=Pt.aF hq.qe;have nR:g.head d=g.tail e:=jh (by have:=hw.link;rwa[hs] at this);have hew:e∈w:=by rw[hs];simp
 have hdw:d∈w:=by rw[hs];simp
 have het:e∈w.tail:=by rw[hs];cases l <;> simp
 have Ck:=hw.E4 e het;have hvq:g.tail e∈q.v:=(hq.v _).2 (Qg (Qn.2 ⟨e,hew,rfl⟩));obtain⟨r1,r2⟩:=Hn.vr _ hvq;have hm:∀ u,u∈aI fQ (g.tail e)↔u=e\/u=aE d:=by
  intro u;rw[ht.mem _ r1 r2 u,hq.ag];constructor
  ·rintro ⟨h1,h2⟩
   rcases h1 with h1 | h1 | h1
   ·exact absurd (h2 ▸ (ig.aQ h1).1) Ck
   ·exact Qe (dE hw.vn _ h1 _ hew h2)
   refine Qg ?_;have h3:g.head (aE u)=g.tail u:=by rw[<-aA,aS]
   have hz:g.tail e≠z:=fun r=>Ck (by rw[r];exact hw.zv);obtain⟨l2,m2,FC⟩:=List.append_of_mem h1;cases m2 with
   | nil =>
    have:=gx (l:=l2) (by have:=hw.link;rwa[FC] at this);rw[h3,h2] at this;exact absurd this hz
   | cons e2 m2 =>
    have h4:=jh (by have:=hw.link;rwa[FC] at this);have h5:e2=e:=dE hw.vn _ (by rw[FC];simp) _ hew (by rw[<-h4,h3,h2]);rw[h5] at FC;have LZ:w.Nodup:=du hw.vn;have h6:l++[d]=l2++[aE u]:=by
     have e1:w=(l++[d])++e :: m:=by rw[hs];simp
     have e2:w=(l2++[aE u])++e :: m2:=by rw[FC];simp
     have f1:w.idxOf e=(l++[d]).length:=by
      rw[e1] at LZ ⊢;exact jD fun r=>(Qc.1 LZ).2.2 e r e (by simp) rfl
     have f2:w.idxOf e=(l2++[aE u]).length:=by
      rw[e2] at LZ ⊢;exact jD fun r=>(Qc.1 LZ).2.2 e r e (by simp) rfl
     have t1:w.take (l++[d]).length=l++[d]:=by rw[e1];exact QF rfl
     have t2:w.take (l2++[aE u]).length=l2++[aE u]:=by rw[e2];exact QF rfl
     rw[<-t1,<-t2,<-f1,<-f2]
    have h7:d=aE u:=by
     have:=congrArg List.getLast? h6;simpa using this
    rw[h7,aS]
  rintro (rfl | rfl)
  ·exact⟨Or.inr (Qe hew),rfl⟩
  exact⟨Or.inr (Qg (by rw[aS];exact hdw)),by rw[aA,nR]⟩
 have bh:e≠aE d:=fun r=>by
  have h1:e / 2=d / 2:=by rw[r,bA]
  have h2:=dE hw.en _ hew _ hdw h1;rw[h2] at r;exact oP d r.symm
 have Al:g.tail (aE d)=g.tail e:=by rw[aA,nR]
 unfold before;rw[Al];exact⟨yi (ht.nodup _) (fun u=>(hm u).trans Or.comm) (Ne.symm bh),yi (ht.nodup _) hm bh⟩
theorem zO (hs:∀ d∈w,d∈q.ag) (Hn:aH g q):∀ {w':List Int} {a z:Int},(∀ d∈w',d∈q.ag)->eR g a w' z->∀ u∈w'.map g.tail,bP g q (-1) a u
 | [],_,_,_,_,u,hu=>by simp at hu
 | d :: w',a,z,hd,h,u,hu=>by
  rcases Qk.1 hu with e | hu
  ·rw[e,h.1];exact .here
  have ih:=zO hs Hn (w':=w') (fun d h=>hd d (Qd _ h)) h.2 u hu;have mj:=hd d (by simp);have hn:=eK (g:=g) mj;rw[h.1] at hn;have Jd:=(Hn.vr _ (Hn.aQ mj).2).1;exact (bP.step .here hn (by omega)).trans ih
theorem cL.put {A B:List Int} {R F F':List (List Int)} (h:cL g p aa F) (hw:pT g p w a z) (hq:Hi g p w q) (ht:aT g q fQ) (hp:Cz g p aa w x y fQ)
  (hF:F.Perm ((x :: A++y :: B) :: R)) (Tw:F'.Perm ((x :: A++twins w) :: (w++y :: B) :: R)) (hx:g.tail x=a) (hy:g.tail y=z):cL g q fQ F':=by
 have ig:=Pt.aF h.pe;have Hn:=Pt.aF hq.qe;obtain⟨c,l,rfl⟩:=hw.cons;have nw:=h.rings.perm hF;have cU:((x :: A++y :: B) :: R).flatten.Perm p.ag:=hF.symm.flatten.trans h.all;have dM:∀ u,u∈((x :: A++y :: B) :: R).flatten↔u∈p.ag:=fun u=>cU.mem_iff;have Ry:∀ l1 d e m,c :: l=l1++d :: e :: m->ay g fQ d=e/\ay g fQ (aE e)=aE d:=fun l1 d e m hs=>by
  obtain⟨h1,h2⟩:=H' hw hq ig ht hs;exact⟨h1,by unfold ay;rw[aS];exact h2⟩
 have O4:=bC.aeV (q:=ay g fQ) nw (c:=c) (w:=l) (uD (fun l1 d e m hs=>(Ry l1 d e m hs).1) (fun l1 d hs=>hp.last d l1 hs)) (tu (fun l1 d e m hs=>(Ry l1 d e m hs).2) (by
   unfold ay;rw[aS];exact hp.first c l rfl))
  (fun u hu hm=>(hw.rj hu).1 ((dM u).1 hm)) (fun u hu hm=>by
   have:=(hw.rj (eO.1 hu)).2;rw[aS] at this;exact this ((dM u).1 hm)) (EO hw.en)
  (fun u hu e=>by
   have hu:=(dM u).1 hu;unfold ay at e ⊢;rw[hp.old _ (bu hu),if_pos e];rfl)
  (fun u hu e e2 t het=>by
   have hu:=(dM u).1 hu;unfold ay at e ⊢;have fW:y≠x:=fun r=>hw.ne (by rw[<-hx,<-hy,r]);rw[hp.old _ (bu hu),if_neg (by rw[e];exact fW),if_pos e];have h1:(twins (c :: l)).head?=some e2:=by rw[het];rfl
   unfold twins at h1;rw[List.head?_reverse,List.getLast?_map] at h1;have h2:(c :: l).getLast?=some ((c :: l).getLastD 0):=by
    rw[List.getLastD_eq_getLast?];cases Mk:(c :: l).getLast? with
    | none=>simp at Mk
    | some v=>rfl
   rw[h2] at h1;exact Option.some.inj h1)
  (fun u hu e1 e2=>by
   have hu:=(dM u).1 hu;unfold ay at e1 e2 ⊢;rw[hp.old _ (bu hu),if_neg e1,if_neg e2])
 have hsf:=h.simple (x :: A++y :: B) (hF.mem_iff.2 (by simp));have hfd:∀ u∈x :: A++y :: B,u∈p.ag:=fun u hu=>(dM u).1 (by rw[Qi];exact Qf _ hu);have nv:q.ag.Nodup:=cP Hn.en;have hE:q.e.Perm (p.e++(c :: l).map (· / 2)):=by
  refine (Qq Hn.en ?_).2 fun u=>by rw[hq.e,Qb]
  rw[Qc];exact⟨ig.en,hw.en,fun u hu v hv e=>by
   obtain⟨d,hd,rfl⟩:=Qn.1 hv;exact hw.XS d hd (e ▸ hu)⟩
 have hV:q.v.Perm (p.v++l.map g.tail):=by
  have yV:(l.map g.tail).Nodup:=by have:=hw.vn;rw[Qv,Qo] at this;exact this.2
  refine (Qq Hn.vn ?_).2 fun u=>?_
  ·rw[Qc]
   exact⟨ig.vn,yV,fun u hu v hv e=>by
    obtain⟨d,hd,rfl⟩:=Qn.1 hv;exact hw.E4 d hd (e ▸ hu)⟩
  rw[hq.v,Qb,Qv,Qk];constructor
  ·rintro (r | r | r)
   ·exact Qe r
   ·rw[r,hw.link.1];exact Qe hw.av
   exact Qg r
  rintro (r | r)
  ·exact Qe r
  exact Qg (Qg r)
 have hhd:=dJ hw.link;have q9:(twins (c :: l)).map g.tail=(l.map g.tail++[z]).reverse:=by
  unfold twins;rw[List.map_reverse,List.map_map,<-hhd]
  congr 2
  funext d
  exact aA g d
 have YJ:∀ u∈l.map g.tail,u ∉ p.v:=fun u hu=>by
  obtain⟨d,hd,rfl⟩:=Qn.1 hu;exact hw.E4 d hd
 have yV:(l.map g.tail).Nodup:=by have:=hw.vn;rw[Qv,Qo] at this;exact this.2
 refine⟨hq.qe,ht,O4.perm Tw.symm,?_,fun f hf=>?_,fun v hv=>?_,?_,fun u hu v hv=>?_⟩
 ·refine (Qq (O4.perm Tw.symm).nodup nv).2 fun u=>?_
  rw[(Tw.flatten).mem_iff,hq.ag,<-dM u];simp only[Qi,Qb,eO];constructor
  ·rintro ((r | r) | (r | r) | r)
   ·exact Qe (Qe (Qe r))
   ·exact Qg (Qg r)
   ·exact Qg (Qe r)
   ·exact Qe (Qe (Qg r))
   exact Qe (Qg r)
  rintro (((r | r) | r) | r | r)
  ·exact Qe (Qe r)
  ·exact Qg (Qe (Qg r))
  ·exact Qg (Qg r)
  ·exact Qg (Qe (Qe r))
  exact Qe (Qg r)
 ·rw[Qx,Qc] at hsf
  obtain⟨s1,s2,s3⟩:=hsf;rcases Qk.1 (Tw.mem_iff.1 hf) with rfl | hf
  ·rw[Qx,q9,Qc,zF]
   refine⟨s1,?_,fun u hu v hv e=>?_⟩
   ·rw[Qc]
    exact⟨yV,by simp,fun u hu v hv e=>by
     rw[Qa.1 hv] at e;exact YJ u hu (by rw[e];exact hw.zv)⟩
   subst e;rcases Qb.1 (QC.1 hv) with r | r
   ·obtain⟨d,hd,rfl⟩:=Qn.1 hu
    exact YJ _ r (ig.aQ (hfd d (Qf _ hd))).1
   exact s3 u hu z (by simp[hy]) (Qa.1 r)
  rcases Qk.1 hf with rfl | hf
  ·rw[Qx,Qc]
   refine⟨hw.vn,s2,fun u hu v hv e=>?_⟩;subst e;rcases Qk.1 (by simpa using hu:u∈g.tail c :: l.map g.tail) with r | r
   ·refine s3 a ?_ u hv (by rw[r,hw.link.1])
    simp[hx]
   obtain⟨d,hd,rfl⟩:=Qn.1 hv;exact YJ _ r (ig.aQ (hfd d (Qj _ hd))).1
  exact h.simple f (hF.mem_iff.2 (Qd _ hf))
 ·rcases (hq.v v).1 hv with r | r
  ·obtain⟨d,hd,e⟩:=h.full v r
   exact⟨d,hq.ag.2 (Qe hd),e⟩
  obtain⟨d,hd,e⟩:=Qn.1 r;exact⟨d,hq.ag.2 (Qg (Qe hd)),e⟩
 ·have h1:=h.pZ
  have h2:=hE.length_eq;have h3:=hV.length_eq;have h4:=hF.length_eq;have h5:=Tw.length_eq;simp only[QB,List.length_map,List.length_cons] at h2 h3 h4 h5;omega
 have hwd:∀ d∈c :: l,d∈q.ag:=fun d hd=>hq.ag.2 (Qg (Qe hd));have iS:∀ {u v},bP g p (-1) u v->bP g q (-1) u v:=fun {u v} hc=>by
  induction hc with
  | here=>exact .here
  | step _ hn hs ih =>
   obtain⟨e,he,h2⟩:=hn;exact ih.step ⟨e,(hq.e e).2 (Qe he),h2⟩ hs
 have uE:∀ v∈q.v,bP g q (-1) a v:=fun v hv=>by
  rcases (hq.v v).1 hv with r | r
  ·exact iS (h.ou a hw.av v r)
  exact zO hwd Hn hwd hw.link v r
 have Tj:=(ig.vr a hw.av).1;exact ((uE u hu).symm (by omega)).2.trans (uE v hv)
def Ak (l:List Int):List Int:=l.mergeSort fun x y=>decide (x<=y)
theorem eh (l:List Int):(Ak l).Perm l:=List.mergeSort_perm _ _
structure dG where
 met:Int->Int
 low:Int->Int
 dK:Int
 ed:List Int
 bl:List (List Int)
def pS (f:Int->Int) (v x:Int):Int->Int:=fun y=>if y=v then x else f y
theorem qd (f:Int->Int) (v x:Int):pS f v x v=x:=if_pos rfl
theorem nT {f:Int->Int} {v x y:Int} (h:y≠v):pS f v x y=f y:=if_neg h
def lG (l:List Int) (bl:List (List Int)):List (List Int):=if bl.any (fun m=>decide (m.getD 0 0=l.getD 0 0)) then bl.map (fun m=>if m.getD 0 0=l.getD 0 0 then l else m) else bl++[l]
theorem rB {l:List Int} {bl:List (List Int)} (h:∀ m∈bl,m.getD 0 0≠l.getD 0 0):lG l bl=bl++[l]:=by
 unfold lG;rw[if_neg];intro q;obtain⟨m,hm,e⟩:=QD.1 q;exact h m hm (of_decide_eq_true e)
theorem Cw {l:List Int} {bl:List (List Int)} (hx:∃ m∈bl,m.getD 0 0=l.getD 0 0) (h:∀ m∈bl,m.getD 0 0=l.getD 0 0->m=l):lG l bl=bl:=by
 unfold lG;obtain⟨m,hm,e⟩:=hx;rw[if_pos (QD.2 ⟨m,hm,decide_eq_true e⟩)];have:bl.map (fun m=>if m.getD 0 0=l.getD 0 0 then l else m)=bl.map id:=List.map_congr_left fun k hk=>by
  by_cases q:k.getD 0 0=l.getD 0 0
  ·rw[if_pos q];exact (h k hk q).symm
  rw[if_neg q];rfl
 rw[this,List.map_id]
def dG.enter (s:dG) (v:Int):dG:={ s with met:=pS s.met v (s.dK+1),low:=pS s.low v (s.dK+1),dK:=s.dK+1 }
def dG.push (s:dG) (e:Int):dG:={ s with ed:=s.ed++[e] }
def dG.lower (s:dG) (v x:Int):dG:={ s with low:=pS s.low v (min (s.low v) x) }
def dG.take (s:dG) (e:Int):dG:={ s with ed:=s.ed.take (s.ed.idxOf e),bl:=lG (Ak (s.ed.drop (s.ed.idxOf e))) s.bl }
def dG.lay (s:dG) (e:Int):dG:={ s with bl:=lG [e] s.bl }
def dG.back (t:dG) (v w e:Int):dG:=if t.met v<=t.low w then (t.lower v (t.low w)).take e else t.lower v (t.low w)
def fg (go:Int->Int->dG->dG) (g:Gr) (v via:Int) (s:dG) (d:Int):dG :=
 if g.head d=v then s.lay (d / 2)
 else if d / 2=via then s
 else if s.met (g.head d)=0 then (go (g.head d) (d / 2) (s.push (d / 2))).back v (g.head d) (d / 2)
 else if s.met (g.head d)<s.met v then (s.push (d / 2)).lower v (s.met (g.head d))
 else s
def visit (g:Gr) (p:Pt):Nat->Int->Int->dG->dG
 | 0,_,_,s=>s
 | n+1,v,via,s=>(a8 g p v).foldl (fg (visit g p n) g v via) (s.enter v)
def dO (s t:dG) (x:Int):Prop:=s.met x=0/\t.met x≠0
def kT (g:Gr) (s:dG) (e:Int):Prop:=s.met (g.at e).1≠0/\s.met (g.at e).2≠0
structure DOk (g:Gr) (p:Pt) (s:dG) (A:List Int):Prop where
 dK:0<=s.dK
 num:∀ x,0<=s.met x/\s.met x<=s.dK
 inj:∀ x y,s.met x≠0->s.met x=s.met y->x=y
 act:∀ a∈A,s.met a≠0
 OT:∀ x,s.met x≠0->x∈p.v
 fin:∀ d∈p.ag,s.met (g.tail d)≠0->g.tail d ∉ A->s.met (g.head d)≠0
 Ap:∀ l∈s.bl,l≠[]
 OB:∀ l∈s.bl,∀ e∈l,e∈p.e/\kT g s e
 nk:∀ l∈s.bl,∀ e∈l,(g.at e).1=(g.at e).2->l=[e]
structure vm (g:Gr) (p:Pt) (s:dG) (A:List Int) (v via:Int):Prop where
 bV:DOk g p s A
 vV:v∈p.v
 vn:s.met v=0
 par:(A=[]/\via = -1)\/∃ d∈p.ag,d / 2=via/\g.head d=v/\g.tail d∈A
 M1:∀ e∈s.ed,e=via\/(e∈p.e/\kT g s e)
 Ji:∀ e∈s.ed,e∈p.e/\(g.at e).1≠(g.at e).2
def Uf (g:Gr) (p:Pt) (s t:dG) (v via:Int) (pre:List Int) (e:Int):Prop:=e≠via/\∃ d∈p.ag,d / 2=e/\dO s t (g.tail d)/\(g.tail d≠v\/d∈pre)
def Fst (g:Gr) (p:Pt) (B:List Int):Prop:=(∃ e∈p.e,B=[e]/\(g.at e).1=(g.at e).2) \/
 ∃ z∈p.v,∃ Y:Int->Prop,¬ Y z/\(∀ d∈p.ag,Y (g.tail d)->Y (g.head d)\/g.head d=z)/\(∀ e,e∈B↔∃ d∈p.ag,d / 2=e/\Y (g.tail d))
structure cB (g:Gr) (p:Pt) (s t:dG) (A:List Int) (v via:Int) (pre:List Int):Prop where
 bV:DOk g p t (A++[v])
 old:∀ x,s.met x≠0->t.met x=s.met x/\t.low x=s.low x
 me:t.met v=s.dK+1
 later:∀ x,dO s t x->s.dK<t.met x
 tree:∀ x,dO s t x->∀ z,¬ dO s t z->bP g p z v x
 seen:∀ d∈pre,t.met (g.head d)≠0
 Hm:t.low v<=t.met v
 E3:t.low v<t.met v->∃ d∈p.ag,dO s t (g.tail d)/\g.head d∈A/\s.met (g.head d)=t.low v/\d / 2≠via
 Ii:∀ d∈p.ag,dO s t (g.tail d)->(g.tail d=v->d∈pre)->g.head d∈A->d / 2≠via->t.low v<=s.met (g.head d)
 M1:∀ e∈t.ed,e∈p.e/\kT g t e
 Ji:∀ e∈t.ed,(g.at e).1≠(g.at e).2
 yk:∃ R N,t.ed=s.ed++R/\t.bl=s.bl++N/\(R++N.flatten).Nodup/\∀ e,e∈R++N.flatten↔Uf g p s t v via pre e
 cut:t.bl=s.bl->∀ z x,dO s t z->dO s t x->x≠z->(z≠v/\bP g p z x v)\/∃ y∈A,bP g p z x y
 fst:s.bl=[]->∀ B l,t.bl=B :: l->Fst g p B
 Tk:A=[]->t.ed=s.ed
 U2:A=[]->t.bl=s.bl->∀ x,dO s t x->x=v
 abW:A=[]->t.bl.length<=s.bl.length+1->∀ z x y,dO s t z->dO s t x->dO s t y->x≠z->y≠z->bP g p z x y
def BS (p:Pt) (s:dG):Nat:=(p.v.filter fun x=>decide (s.met x=0)).length
variable {g : Gr} {p : Pt} {s t : dG} {A pre : List Int} {v via : Int}
theorem mg {α:Type} {f h:α->Bool}:∀ {l:List α},(∀ x∈l,f x=true->h x=true)->(l.filter f).length<=(l.filter h).length
 | [],_=>Nat.le_refl _
 | x :: l,q=>by
  have ih:=mg (f:=f) (h:=h) (l:=l) fun y hy=>q y (Qd _ hy);cases e:f x with
  | true=>rw[Qh e,Qh (q x (by simp) e)];simpa using ih
  | false =>
   rw[Qm (by simp[e])];cases e2:h x with
   | true=>rw[Qh e2];simp;omega
   | false=>rw[Qm (by simp[e2])];exact ih
theorem fV {α:Type} {f h:α->Bool} {a:α}:∀ {l:List α},(∀ x∈l,f x=true->h x=true)->a∈l->f a=false->h a=true->(l.filter f).length<(l.filter h).length
 | [],_,ha,_,_=>by simp at ha
 | x :: l,q,ha,h1,h2=>by
  have le:=mg (f:=f) (h:=h) (l:=l) fun y hy=>q y (Qd _ hy);rcases Qk.1 ha with e | yJ
  ·subst e
   rw[Qm (by simp[h1]),Qh h2];simp;omega
  have ih:=fV (f:=f) (h:=h) (l:=l) (fun y hy=>q y (Qd _ hy)) yJ h1 h2;cases e:f x with
  | true=>rw[Qh e,Qh (q x (by simp) e)];simpa using ih
  | false =>
   rw[Qm (by simp[e])];cases e2:h x with
   | true=>rw[Qh e2];simp;omega
   | false=>rw[Qm (by simp[e2])];exact ih
theorem iJ {l:List Int} {n:Nat} (h:n<l.length):l.getD n 0∈l:=by simp[Qw,h]
theorem ga {d e:Int} (h:d / 2=e / 2):d=e\/e=aE d:=by unfold aE;split <;> omega
theorem iC (g:Gr) (d:Int):(g.tail d=(g.at (d / 2)).1/\g.head d=(g.at (d / 2)).2)\/(g.tail d=(g.at (d / 2)).2/\g.head d=(g.at (d / 2)).1):=by
 unfold Gr.tail Gr.head;by_cases h:d % 2=0
 ·rw[if_pos h,if_pos h];exact Qe ⟨rfl,rfl⟩
 rw[if_neg h,if_neg h];exact Qg ⟨rfl,rfl⟩
theorem fu {d:Int}:kT g s (d / 2)↔s.met (g.tail d)≠0/\s.met (g.head d)≠0:=by
 unfold kT;rcases iC g d with ⟨h1,h2⟩ | ⟨h1,h2⟩
 ·rw[h1,h2]
 rw[h1,h2,and_comm]
theorem oI {d:Int}:(g.at (d / 2)).1=(g.at (d / 2)).2↔g.tail d=g.head d:=by
 rcases iC g d with ⟨h1,h2⟩ | ⟨h1,h2⟩
 ·rw[h1,h2]
 rw[h1,h2];exact eq_comm
theorem zP {e:Int} (he:e∈p.e):∃ d∈p.ag,d / 2=e/\g.tail d=(g.at e).1/\g.head d=(g.at e).2 :=
 ⟨2*e,aw.2 (by rwa[show 2*e / 2=e by omega]),by omega,(dV g e).1,(dV g e).2⟩
theorem cB.start (hp:aH g p) (h:vm g p s A v via):cB g p s (s.enter v) A v via []:=by
 have hg:=h.bV;have pw:∀ x,dO s (s.enter v) x↔x=v:=fun x=>by
  unfold dO dG.enter;constructor
  ·rintro ⟨h1,h2⟩
   refine Qs fun e=>h2 ?_;show pS s.met v _ x=0;rw[nT e];exact h1
  rintro rfl;refine⟨h.vn,?_⟩;show pS s.met x _ x≠0;rw[qd];have:=hg.dK;omega
 have vh:∀ x,x≠v->(s.enter v).met x=s.met x:=fun x hx=>nT hx;have J7:(s.enter v).met v=s.dK+1:=qd _ _ _;have iS:∀ x,s.met x≠0->(s.enter v).met x≠0:=fun x hx=>by
  by_cases e:x=v
  ·rw[e,J7];have:=hg.dK;omega
  rw[vh x e];exact hx
 have vD:∀ e,kT g s e->kT g (s.enter v) e:=fun e hb=>⟨iS _ hb.1,iS _ hb.2⟩;have fD:(s.enter v).low v=s.dK+1:=qd _ _ _;refine⟨⟨?_,fun x=>?_,fun x y hx fW=>?_,fun a ha=>?_,fun x hx=>?_,fun d hd ht hn=>?_,hg.Ap,fun l hl e he=>⟨(hg.OB l hl e he).1,vD e (hg.OB l hl e he).2⟩,hg.nk⟩,fun x hx=>?_,J7,fun x hx=>?_,fun x hx z hz=>?_,by simp,?_,fun q=>?_,fun d _ hn Bq=>?_,fun e he=>?_,fun e he=>(h.Ji e he).2,⟨[],[],by rw[Qt];rfl,by rw[Qt];rfl,by simp,fun e=>?_⟩,fun _ z x hz hx bh=>?_,fun hs B l hB=>?_,fun _=>rfl,fun _ _ x hx=>(pw x).1 hx,fun _ _ z x y hz hx _ uK _=>absurd (((pw x).1 hx).trans ((pw z).1 hz).symm) uK⟩
 ·show (0:Int)<=s.dK+1
  have:=hg.dK;omega
 ·have:=hg.num x
  have hc:=hg.dK;show 0<=(s.enter v).met x/\(s.enter v).met x<=s.dK+1;by_cases e:x=v
  ·rw[e,J7];omega
  rw[vh x e];omega
 ·by_cases e1:x=v
  ·by_cases e2:y=v
   ·rw[e1,e2]
   rw[e1,J7,vh y e2] at fW;have:=(hg.num y).2;omega
  by_cases e2:y=v
  ·rw[e2,J7,vh x e1] at fW
   have:=(hg.num x).2;omega
  rw[vh x e1] at hx fW;rw[vh y e2] at fW;exact hg.inj x y hx fW
 ·rcases Qb.1 ha with q | q
  ·exact iS a (hg.act a q)
  rw[Qa.1 q,J7];have:=hg.dK;omega
 ·by_cases e:x=v
  ·rw[e];exact h.vV
  rw[vh x e] at hx;exact hg.OT x hx
 ·have qj:g.tail d≠v:=fun e=>hn (by rw[e];simp)
  rw[vh _ qj] at ht;exact iS _ (hg.fin d hd ht fun q=>hn (Qf _ q))
 ·have e:x≠v:=fun e=>hx (by rw[e];exact h.vn)
  exact⟨vh x e,nT e⟩
 ·rw[(pw x).1 hx,J7];omega
 ·rw[(pw x).1 hx];exact .here
 ·rw[fD,J7];exact Int.le_refl _
 ·rw[fD,J7] at q;omega
 ·intro _ _
  have:=Bq ((pw _).1 hn);simp at this
 ·rcases h.M1 e he with q | q
  ·rcases h.par with ⟨-,hm⟩ | ⟨d,hd,pG,hh,ha⟩
   ·have:=hp.er e (h.Ji e he).1;omega
   subst q;refine⟨(h.Ji e he).1,?_⟩;rw[<-pG,fu,hh,J7];exact⟨iS _ (hg.act _ ha),by have:=hg.dK;omega⟩
  exact⟨q.1,vD e q.2⟩
 ·simp only[QE,Qt,List.not_mem_nil,false_iff]
  rintro ⟨-,d,-,-,hn,q | q⟩
  ·exact q ((pw _).1 hn)
  cases q
 ·exact absurd ((pw x).1 hx |>.trans ((pw z).1 hz).symm) bh
 rw[show (s.enter v).bl=s.bl from rfl,hs] at hB;cases hB
variable {g : Gr} {p : Pt} {s t : dG} {A pre : List Int} {v via : Int}
theorem vm.vA (h:vm g p s A v via):v ∉ A:=fun q=>h.bV.act v q h.vn
theorem vm.q8 (h:vm g p s A v via) (hp:aH g p) {d:Int} (hd:d∈p.ag) (hv:g.tail d=v) (he:d / 2=via):g.head d∈A:=by
 rcases h.par with ⟨-,q⟩ | ⟨c,hc,bG,hh,ha⟩
 ·have:=hp.er _ (aw.1 hd);omega
 rcases ga (bG.trans he.symm) with r | r
 ·exact absurd (by rw[<-hv,<-r];exact ha) h.vA
 have:g.head d=g.tail c:=by rw[r,<-aA,aS]
 rw[this];exact ha
theorem cB.mono (h:cB g p s t A v via pre) {x:Int} (hx:s.met x≠0):t.met x≠0:=by rw[(h.old x hx).1];exact hx
theorem cB.rH (hE:vm g p s A v via) (h:cB g p s t A v via pre):dO s t v:=⟨hE.vn,by rw[h.me];have:=hE.bV.dK;omega⟩
theorem cB.inA (hE:vm g p s A v via) (_h:cB g p s t A v via pre) {d:Int} (hd:d∈p.ag) (hn:dO s t (g.tail d)) (hm:s.met (g.head d)≠0):g.head d∈A:=by
 refine Qs fun q=>?_;have:=hE.bV.fin (aE d) (bu hd) (by rw[aA];exact hm) (by rw[aA];exact q);rw[<-aA,aS] at this;exact this hn.1
theorem cB.same (h:cB g p s t A v via pre) {d:Int} (hs:t.met (g.head d)≠0) (fD:g.head d∈A->d / 2≠via->t.low v<=s.met (g.head d)) (XM:d / 2≠via->Uf g p s t v via pre (d / 2)):cB g p s t A v via (pre++[d]):=by
 obtain⟨R,N,e1,e2,e3,e4⟩:=h.yk;refine⟨h.bV,h.old,h.me,h.later,h.tree,fun c hc=>?_,h.Hm,h.E3,fun c hc hn Bq hA hv=>?_,h.M1,h.Ji,⟨R,N,e1,e2,e3,fun e=>?_⟩,h.cut,h.fst,h.Tk,h.U2,h.abW⟩
 ·rcases Qb.1 hc with q | q
  ·exact h.seen c q
  rw[Qa.1 q];exact hs
 ·by_cases q:g.tail c=v/\c ∉ pre
  ·have h1:=Bq q.1
   rcases Qb.1 h1 with r | r
   ·exact absurd r q.2
   rw[Qa.1 r] at hA hv ⊢;exact fD hA hv
  exact h.Ii c hc hn (fun r=>Qs fun u=>q ⟨r,u⟩) hA hv
 rw[e4];constructor
 ·rintro ⟨h1,c,hc,h2,h3,h4⟩
  exact⟨h1,c,hc,h2,h3,h4.imp id fun q=>Qf _ q⟩
 rintro ⟨h1,c,hc,h2,h3,h4⟩;rcases h4 with q | q
 ·exact⟨h1,c,hc,h2,h3,Qe q⟩
 rcases Qb.1 q with r | r
 ·exact⟨h1,c,hc,h2,h3,Qg r⟩
 rw[Qa.1 r] at h2;rw[<-h2];exact XM (by rw[h2];exact h1)
theorem cB.loop (hp:aH g p) (hE:vm g p s A v via) (h:cB g p s t A v via pre) {d:Int} (hd:d∈p.ag) (hv:g.tail d=v) (hh:g.head d=v):cB g p s (t.lay (d / 2)) A v via (pre++[d]):=by
 have jB:(g.at (d / 2)).1=(g.at (d / 2)).2:=oI.2 (hv.trans hh.symm);have DY:t.met v≠0:=(h.rH hE).2;have GR:d / 2≠via:=fun q=>hE.vA (by have:=hE.q8 hp hd hv q;rwa[hh] at this);by_cases hc:Uf g p s t v via pre (d / 2)
 ·have fT:(t.lay (d / 2))=t:=by
   obtain⟨R,N,e1,e2,e3,e4⟩:=h.yk;have hm:=(e4 _).2 hc;have hN:d / 2∈N.flatten:=by
    rcases Qb.1 hm with q | q
    ·exact absurd jB (h.Ji _ (by rw[e1];exact Qj _ q))
    exact q
   obtain⟨l,hl,nz⟩:=Qu.1 hN;have aU:l∈t.bl:=by rw[e2];exact Qj _ hl
   have hle:=h.bV.nk l aU _ nz jB;unfold dG.lay;rw[Cw ⟨l,aU,by rw[hle]⟩ fun m hm q=>?_];have nq:d / 2∈m:=by
    have h0:m.getD 0 0∈m:=iJ (Qz.2 (h.bV.Ap m hm));rw[q] at h0;exact h0
   exact h.bV.nk m hm _ nq jB
  rw[fT];exact h.same (by rw[hh];exact DY) (fun q=>absurd (by rwa[hh] at q) hE.vA) fun _=>hc
 have R8:∀ m∈t.bl,d / 2 ∉ m:=fun m hm ry=>by
  obtain⟨R,N,e1,e2,e3,e4⟩:=h.yk;rw[e2] at hm;rcases Qb.1 hm with q | q
  ·have:=(fu.1 (hE.bV.OB m q _ ry).2).1
   rw[hv] at this;exact this hE.vn
  exact hc ((e4 _).1 (Qj _ (Qu.2 ⟨m,q,ry⟩)))
 have fT:(t.lay (d / 2)).bl=t.bl++[[d / 2]]:=rB fun m hm q=>by
  have h0:m.getD 0 0∈m:=iJ (Qz.2 (h.bV.Ap m hm));rw[q] at h0;exact R8 m hm h0
 obtain⟨t',Ma⟩:∃ t',t.lay (d / 2)=t':=⟨_,rfl⟩;have m1:t'.met=t.met:=by rw[<-Ma];rfl
 have m2:t'.low=t.low:=by rw[<-Ma];rfl
 have m3:t'.ed=t.ed:=by rw[<-Ma];rfl
 have m4:t'.dK=t.dK:=by rw[<-Ma];rfl
 rw[Ma] at fT ⊢;have hN:∀ x,dO s t' x↔dO s t x:=fun x=>by unfold dO;rw[m1]
 have hB:∀ e,kT g t' e↔kT g t e:=fun e=>by unfold kT;rw[m1]
 have hG:=h.bV;have lM:kT g t (d / 2):=fu.2 ⟨by rw[hv];exact DY,by rw[hh];exact DY⟩;obtain⟨R,N,e1,e2,e3,e4⟩:=h.yk;refine⟨⟨by rw[m4];exact hG.dK,by rw[m1,m4];exact hG.num,by rw[m1];exact hG.inj,by rw[m1];exact hG.act,by rw[m1];exact hG.OT,by rw[m1];exact hG.fin,fun l hl=>?_,fun l hl e he=>?_,fun l hl e he hle=>?_⟩,by rw[m1,m2];exact h.old,by rw[m1];exact h.me,fun x hx=>by rw[m1];exact h.later x ((hN x).1 hx),fun x hx z hz=>h.tree x ((hN x).1 hx) z fun q=>hz ((hN z).2 q),fun c hc=>?_,by rw[m1,m2];exact h.Hm,?_,fun c hc hn Bq hA hv=>?_,fun e he=>by rw[m3] at he;exact⟨(h.M1 e he).1,(hB e).2 (h.M1 e he).2⟩,by rw[m3];exact h.Ji,⟨R,N++[[d / 2]],by rw[m3];exact e1,by rw[fT,e2,Ql],?_,fun e=>?_⟩,fun q=>?_,fun hs B l hBl=>?_,fun q=>by rw[m3];exact h.Tk q,fun _ q=>?_,fun q1 q=>?_⟩
 ·rw[fT] at hl
  rcases Qb.1 hl with q | q
  ·exact hG.Ap l q
  rw[Qa.1 q];simp
 ·rw[fT] at hl
  rw[hB];rcases Qb.1 hl with q | q
  ·exact hG.OB l q e he
  rw[Qa.1 q,Qa] at he;rw[he];exact⟨aw.1 hd,lM⟩
 ·rw[fT] at hl
  rcases Qb.1 hl with q | q
  ·exact hG.nk l q e he hle
  rw[Qa.1 q] at he ⊢;rw[Qa.1 he]
 ·rw[m1]
  rcases Qb.1 hc with q | q
  ·exact h.seen c q
  rw[Qa.1 q,hh];exact DY
 ·intro q
  rw[m1,m2] at q;obtain⟨c,hc,k1,k2,k3,k4⟩:=h.E3 q;exact⟨c,hc,(hN _).2 k1,k2,by rw[m2];exact k3,k4⟩
 ·rw[m2]
  by_cases q:c=d
  ·rw[q,hh] at hA;exact absurd hA hE.vA
  exact h.Ii c hc ((hN _).1 hn) (fun r=>(Qb.1 (Bq r)).resolve_right fun u=>q (Qa.1 u)) hA hv
 ·rw[QA,<-Ql,Qc]
  exact⟨e3,by simp,fun a ha b hb e=>by
   have hb:b=d / 2:=by simpa using hb
   exact hc ((e4 _).1 (by rw[<-hb,<-e];exact ha))⟩
 ·rw[QA,<-Ql,Qb,e4]
  simp only[Qi,QE,Qt,Qa];constructor
  ·rintro (⟨h1,c,hc,h2,h3,h4⟩ | rfl)
   ·exact⟨h1,c,hc,h2,(hN _).2 h3,h4.imp id fun q=>Qf _ q⟩
   exact⟨GR,d,hd,rfl,(hN _).2 (by rw[hv];exact h.rH hE),Qg (by simp)⟩
  rintro ⟨h1,c,hc,h2,h3,h4⟩;rcases h4 with q | q
  ·exact Qe ⟨h1,c,hc,h2,(hN _).1 h3,Qe q⟩
  rcases Qb.1 q with r | r
  ·exact Qe ⟨h1,c,hc,h2,(hN _).1 h3,Qg r⟩
  rw[Qa.1 r] at h2;exact Qg h2.symm
 ·rw[fT,e2,Ql] at q
  have:=congrArg QG q;simp at this
 ·rw[fT] at hBl
  cases hq:t.bl with
  | nil =>
   rw[hq] at hBl;cases hBl;exact Qe ⟨d / 2,aw.1 hd,rfl,jB⟩
  | cons B' l' =>
   rw[hq,Qr] at hBl;injection hBl with k1 k2
   rw[<-k1];exact h.fst hs B' l' hq
 ·exfalso
  rw[fT,e2,Ql] at q;have:=congrArg QG q;simp at this
 intro z x y hz hx _ uK _;have Cd:t.bl=s.bl:=by
  rw[fT,e2] at q;simp only[QB,List.length_singleton] at q;rw[e2,List.length_eq_zero_iff.1 (show N.length=0 by omega),Qt]
 exact absurd ((h.U2 q1 Cd x ((hN x).1 hx)).trans (h.U2 q1 Cd z ((hN z).1 hz)).symm) uK
theorem cB.up (_hp:aH g p) (hE:vm g p s A v via) (h:cB g p s t A v via pre) {d:Int} (hd:d∈p.ag) (hv:g.tail d=v) (zm:d ∉ pre) (hh:g.head d≠v) (GR:d / 2≠via) (hm:t.met (g.head d)≠0) (aU:t.met (g.head d)<t.met v) :
  cB g p s ((t.push (d / 2)).lower v (t.met (g.head d))) A v via (pre++[d]):=by
 have qj:=h.rH hE;have dS:s.met (g.head d)≠0:=fun q=>by
  have:=h.later _ ⟨q,hm⟩;rw[h.me] at aU;omega
 have hA:g.head d∈A:=h.inA hE hd (by rw[hv];exact qj) dS;have hold:=(h.old _ dS).1;obtain⟨t',Ma⟩:∃ t',(t.push (d / 2)).lower v (t.met (g.head d))=t':=⟨_,rfl⟩;have m1:t'.met=t.met:=by rw[<-Ma];rfl
 have m2:∀ x,x≠v->t'.low x=t.low x:=fun x hx=>by rw[<-Ma];exact nT hx
 have m3:t'.ed=t.ed++[d / 2]:=by rw[<-Ma];rfl
 have m4:t'.dK=t.dK:=by rw[<-Ma];rfl
 have m5:t'.bl=t.bl:=by rw[<-Ma];rfl
 have m6:t'.low v=min (t.low v) (t.met (g.head d)):=by rw[<-Ma];exact qd _ _ _
 rw[Ma];have hN:∀ x,dO s t' x↔dO s t x:=fun x=>by unfold dO;rw[m1]
 have hB:∀ e,kT g t' e↔kT g t e:=fun e=>by unfold kT;rw[m1]
 have hG:=h.bV;have lM:kT g t (d / 2):=fu.2 ⟨by rw[hv];exact qj.2,hm⟩;have tI:¬ Uf g p s t v via pre (d / 2):=by
  rintro ⟨-,c,hc,h2,h3,h4⟩;rcases ga h2.symm with q | q
  ·rcases h4 with r | r
   ·exact r (by rw[<-q];exact hv)
   exact zm (by rw[q];exact r)
  have:g.tail c=g.head d:=by rw[q,aA]
  rw[this] at h3;exact dS h3.1
 obtain⟨R,N,e1,e2,e3,e4⟩:=h.yk;refine⟨⟨by rw[m4];exact hG.dK,by rw[m1,m4];exact hG.num,by rw[m1];exact hG.inj,by rw[m1];exact hG.act,by rw[m1];exact hG.OT,by rw[m1];exact hG.fin,by rw[m5];exact hG.Ap,fun l hl e he=>?_,by rw[m5];exact hG.nk⟩,fun x hx=>?_,by rw[m1];exact h.me,fun x hx=>by rw[m1];exact h.later x ((hN x).1 hx),fun x hx z hz=>h.tree x ((hN x).1 hx) z fun q=>hz ((hN z).2 q),fun c hc=>?_,?_,fun q=>?_,fun c hc hn Bq Mm yI=>?_,fun e he=>?_,fun e he=>?_,⟨R++[d / 2],N,by rw[m3,e1,Ql],by rw[m5];exact e2,?_,fun e=>?_⟩,fun q z x hz hx bh=>?_,by rw[m5];exact h.fst,fun q=>absurd hA (by rw[q];simp),fun q=>absurd hA (by rw[q];simp),fun q=>absurd hA (by rw[q];simp)⟩
 ·rw[m5] at hl
  rw[hB];exact hG.OB l hl e he
 ·have hxv:x≠v:=fun e=>hx (by rw[e];exact hE.vn)
  rw[m1,m2 x hxv];exact h.old x hx
 ·rw[m1]
  rcases Qb.1 hc with q | q
  ·exact h.seen c q
  rw[Qa.1 q];exact hm
 ·rw[m6,m1]
  have:=h.Hm;omega
 ·rw[m6,m1] at q
  by_cases r:t.low v<=t.met (g.head d)
  ·obtain⟨c,hc,k1,k2,k3,k4⟩:=h.E3 (by omega)
   exact⟨c,hc,(hN _).2 k1,k2,by rw[m6,k3];omega,k4⟩
  exact⟨d,hd,(hN _).2 (by rw[hv];exact qj),hA,by rw[m6,<-hold];omega,GR⟩
 ·rw[m6]
  by_cases q:c=d
  ·rw[q,<-hold];omega
  have:=h.Ii c hc ((hN _).1 hn) (fun r=>(Qb.1 (Bq r)).resolve_right fun u=>q (Qa.1 u)) Mm yI;omega
 ·rw[m3] at he
  rw[hB];rcases Qb.1 he with q | q
  ·exact h.M1 e q
  rw[Qa.1 q];exact⟨aw.1 hd,lM⟩
 ·rw[m3] at he
  rcases Qb.1 he with q | q
  ·exact h.Ji e q
  rw[Qa.1 q];exact fun r=>hh (by have:=oI.1 r;rw[<-this,hv])
 ·have yE:(R++[d / 2]++N.flatten).Perm ((d / 2) :: (R++N.flatten)):=by
   rw[Ql];exact List.perm_middle
  rw[yE.nodup_iff];exact Qo.2 ⟨fun q=>tI ((e4 _).1 q),e3⟩
 ·have jS:e∈R++[d / 2]++N.flatten↔e=d / 2\/e∈R++N.flatten:=by
   simp only[Qb,Qa];constructor
   ·rintro ((q | q) | q)
    ·exact Qg (Qe q)
    ·exact Qe q
    exact Qg (Qg q)
   rintro (q | q | q)
   ·exact Qe (Qg q)
   ·exact Qe (Qe q)
   exact Qg q
  rw[jS,e4];constructor
  ·rintro (rfl | ⟨h1,c,hc,h2,h3,h4⟩)
   ·exact⟨GR,d,hd,rfl,(hN _).2 (by rw[hv];exact qj),Qg (by simp)⟩
   exact⟨h1,c,hc,h2,(hN _).2 h3,h4.imp id fun q=>Qf _ q⟩
  rintro ⟨h1,c,hc,h2,h3,h4⟩;rcases h4 with q | q
  ·exact Qg ⟨h1,c,hc,h2,(hN _).1 h3,Qe q⟩
  rcases Qb.1 q with r | r
  ·exact Qg ⟨h1,c,hc,h2,(hN _).1 h3,Qg r⟩
  rw[Qa.1 r] at h2;exact Qe h2.symm
 rw[m5] at q;exact h.cut q z x ((hN z).1 hz) ((hN x).1 hx) bh
end Go.Proofs.YtbkjljffnkdcjaaGreat.Plain
