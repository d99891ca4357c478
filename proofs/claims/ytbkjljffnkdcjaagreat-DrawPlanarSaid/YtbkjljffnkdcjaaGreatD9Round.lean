/- What crosses on a ring of vertices, by places; a ring cut in two. No program here. -/
import Derived.Test.YtbkjljffnkdcjaaGreatD9Side12
open List renaming mem_append→Qa,mem_cons_of_mem→Qc,mem_map→Qe,length_append→Qf,length_cons→Qg,nodup_append→Qh,map_append→Qi,length_nil→Qj,mem_cons→Qk,cons_append→Ql,count_pos_iff→Qm,idxOf_lt_length_of_mem→Qn,map_cons→Qp,nodup_cons→Qq,idxOf_append→Qs,not_mem_nil→Qu,mem_reverse→Qv,nodup_iff_count→Qw,mem_append_left→Qx,count→Qy,getElem_idxOf→Qz,append_of_mem→QA,mem_singleton→QB,reverse_perm→QC,map_reverse→QD,mem_flatMap→QE,map_map→QF
open Or renaming inr→Qb,inl→Qd
open Classical renaming byContradiction→Qo
open Nat renaming pos_of_ne_zero→Qr
open Bool renaming xor_comm→Qt
namespace Go.Proofs.YtbkjljffnkdcjaaGreat.Plain
def yt (L:List Int) (x y u:Int):Prop:=(L.idxOf x<L.idxOf u/\L.idxOf u<L.idxOf y)\/(L.idxOf y<L.idxOf u/\L.idxOf u<L.idxOf x)
def Prt (L:List Int) (x y u v:Int):Prop:=x∈L/\y∈L/\u∈L/\v∈L/\x≠y/\u≠x/\u≠y/\v≠x/\v≠y/\(yt L x y u↔¬ yt L x y v)
theorem mO {P Q:List Int} {x:Int} (h:(P++x :: Q).Nodup):(P++x :: Q).idxOf x=P.length:=jD fun q=>(Qh.1 h).2.2 x q x (by simp) rfl
theorem fL {P Q:List Int} {w:Int} (hw:w∈P):(P++Q).idxOf w<P.length:=by
 rw[Qs,if_pos hw];exact Qn hw
theorem gq {P Q:List Int} {w:Int} (h:(P++Q).Nodup) (hw:w∈Q):P.length<=(P++Q).idxOf w:=by
 rw[Qs,if_neg fun q=>(Qh.1 h).2.2 w q w hw rfl];omega
theorem rW {L:List Int} {x y:Int} (hx:x∈L) (hy:y∈L) (h:L.idxOf x=L.idxOf y):x=y:=by
 have h1:=Qn hx;have h2:=Qn hy;have e1:=Qz h1;have e2:=Qz h2;rw[<-e1,<-e2]
 congr 1
theorem CV {L:List Int} (hn:L.Nodup) {x y u v:Int} {A B:List Int} (hr:bm L (x :: A++y :: B)) (hu:u∈A) (hv:v∈B):Prt L x y u v:=by
 have hp:=hr.perm;have gL:=hp.nodup_iff.1 hn;have mem:∀ w,w∈x :: A++y :: B->w∈L:=fun w h=>hp.mem_iff.2 h;have hd:=Qh.1 gL;have hdA:=Qq.1 hd.1;have hdB:=Qq.1 hd.2.1;refine⟨mem x (by simp),mem y (by simp),mem u (by simp[hu]),mem v (by simp[hv]),hd.2.2 x (by simp) y (by simp),fun q=>hdA.1 (q ▸ hu),hd.2.2 u (Qc _ hu) y (by simp),fun q=>hd.2.2 x (by simp) v (Qc _ hv) q.symm,fun q=>hdB.1 (q ▸ hv),?_⟩;obtain⟨U,V,h1,h2⟩:=hr;unfold yt;rcases List.append_eq_append_iff.1 h2 with ⟨Z,e1,e2⟩ | ⟨Z,e1,e2⟩
 .-- V=(x :: A)++Z,y :: B=Z++U
  cases Z with
  | nil =>
   -- L=y :: B++x :: A
   rw[List.append_nil] at e1;rw[List.nil_append] at e2;have hL:L=y :: B++x :: A:=by rw[h1,<-e2,e1]
   subst hL;have i1:(y :: B++x :: A).idxOf x=(y :: B).length:=mO hn;have i2:(y :: B++x :: A).idxOf y=0:=by simp
   have i3:(y :: B++x :: A).idxOf v<(y :: B).length:=fL (Qc _ hv);have i4:0<(y :: B++x :: A).idxOf v:=Qr fun q=>hdB.1 (rW (mem v (by simp[hv])) (mem y (by simp)) (q.trans i2.symm) ▸ hv);have i5:(y :: B).length<=(y :: B++x :: A).idxOf u:=gq hn (Qc _ hu);omega
  | cons z Z =>
   have e3:z=y:=by injection e2 with a _;exact a.symm
   have e4:B=Z++U:=by injection e2
   subst e3 e4
   -- L=U++x :: A++z :: Z
   have hL:L=U++x :: (A++z :: Z):=by rw[h1,e1];simp
   have FW:L=(U++x :: A)++z :: Z:=by rw[h1,e1];simp
   have i1:L.idxOf x=U.length:=by rw[hL];exact mO (hL ▸ hn)
   have i2:L.idxOf z=(U++x :: A).length:=by rw[FW];exact mO (FW ▸ hn)
   have i3:L.idxOf u<(U++x :: A).length:=by rw[FW];exact fL (by simp[hu])
   have i4:(U++[x]).length<=L.idxOf u:=by
    have Ev:L=(U++[x])++(A++z :: Z):=by rw[hL];simp
    rw[Ev];exact gq (Ev ▸ hn) (by simp[hu])
   simp only[Qf,Qg,Qj] at i2 i3 i4;rcases Qa.1 hv with q | q
   ·have i5:(U++x :: A++[z]).length<=L.idxOf v:=by
     have Ev:L=(U++x :: A++[z])++Z:=by rw[hL];simp
     rw[Ev];exact gq (Ev ▸ hn) q
    simp only[Qf,Qg,Qj] at i5;omega
   have i5:L.idxOf v<U.length:=by rw[hL];exact fL q
   omega
 -- x :: A=V++Z,U=Z++y :: B
 cases V with
 | nil =>
  have e1:Z=x :: A:=by rw[e1];rfl
  have hL:L=x :: A++y :: B:=by rw[h1,e2,e1];simp
  subst hL;have i1:(x :: A++y :: B).idxOf y=(x :: A).length:=mO hn;have i2:(x :: A++y :: B).idxOf x=0:=by simp
  have i3:(x :: A++y :: B).idxOf u<(x :: A).length:=fL (Qc _ hu);have i4:0<(x :: A++y :: B).idxOf u:=Qr fun q=>hdA.1 (rW (mem u (by simp[hu])) (mem x (by simp)) (q.trans i2.symm) ▸ hu);have i5:(x :: A).length<=(x :: A++y :: B).idxOf v:=gq hn (Qc _ hv);omega
 | cons z V =>
  have e3:x=z:=by injection e1
  have e4:A=V++Z:=by injection e1
  subst e3 e4
  -- L=Z++y :: B++x :: V
  have hL:L=Z++y :: (B++x :: V):=by rw[h1,e2];simp
  have FW:L=(Z++y :: B)++x :: V:=by rw[h1,e2]
  have i1:L.idxOf y=Z.length:=by rw[hL];exact mO (hL ▸ hn)
  have i2:L.idxOf x=(Z++y :: B).length:=by rw[FW];exact mO (FW ▸ hn)
  have i3:L.idxOf v<(Z++y :: B).length:=by rw[FW];exact fL (by simp[hv])
  have i4:(Z++[y]).length<=L.idxOf v:=by
   have Ev:L=(Z++[y])++(B++x :: V):=by rw[hL];simp
   rw[Ev];exact gq (Ev ▸ hn) (by simp[hv])
  simp only[Qf,Qg,Qj] at i2 i3 i4;rcases Qa.1 hu with q | q
  ·have i5:(Z++y :: B++[x]).length<=L.idxOf u:=by
    have Ev:L=(Z++y :: B++[x])++V:=by rw[hL];simp
    rw[Ev];exact gq (Ev ▸ hn) q
   simp only[Qf,Qg,Qj] at i5;omega
  have i5:L.idxOf u<Z.length:=by rw[hL];exact fL q
  omega
theorem kF {L S T:List Int} (hn:L.Nodup) {x y u v:Int} (h:Prt L x y u v) (hx:x∈S) (hy:y∈S) (hu:u∈T) (hv:v∈T):Crs L S T:=by
 obtain⟨mx,my,mu,mv,fW,ux,uy,vx,vy,hb⟩:=h;have key:∀ {x y:Int},x∈S->y∈S->x∈L->y∈L->u≠x->u≠y->v≠x->v≠y->(yt L x y u↔¬ yt L x y v)->L.idxOf x<L.idxOf y->Crs L S T:=by
  intro x y hx hy mx my ux uy vx vy hb aU;obtain⟨P,M,rfl⟩:=QA mx;have i1:=mO hn;have hyM:y∈M:=by
   rcases Qa.1 my with q | q
   ·have:=fL (Q:=x :: M) q
    omega
   exact (Qk.1 q).resolve_left fun q=>by rw[q] at aU;omega
  obtain⟨Q,R,rfl⟩:=QA hyM;have FW:P++x :: (Q++y :: R)=(P++x :: Q)++y :: R:=by simp
  have i2:(P++x :: (Q++y :: R)).idxOf y=(P++x :: Q).length:=by rw[FW];exact mO (FW ▸ hn)
  have hr:bm (P++x :: (Q++y :: R)) (x :: Q++y :: (R++P)):=⟨P,x :: (Q++y :: R),rfl,by simp⟩;have cls:∀ w∈P++x :: (Q++y :: R),w≠x->w≠y->(w∈Q/\yt (P++x :: (Q++y :: R)) x y w)\/(w∈R++P/\¬ yt (P++x :: (Q++y :: R)) x y w):=by
   intro w hw wx wy;unfold yt;rw[i1,i2];simp only[Qf,Qg];rcases Qa.1 hw with q | q
   ·have:=fL (Q:=x :: (Q++y :: R)) q
    exact Qb ⟨by simp[q],by omega⟩
   have q:=(Qk.1 q).resolve_left wx;rcases Qa.1 q with q | q
   ·refine Qd ⟨q,?_⟩
    have j1:(P++x :: (Q++y :: R)).idxOf w<(P++x :: Q).length:=by rw[FW];exact fL (by simp[q])
    have j2:(P++[x]).length<=(P++x :: (Q++y :: R)).idxOf w:=by
     have Ev:P++x :: (Q++y :: R)=(P++[x])++(Q++y :: R):=by simp
     rw[Ev];exact gq (Ev ▸ hn) (by simp[q])
    simp only[Qf,Qg,Qj] at j1 j2;omega
   have q:=(Qk.1 q).resolve_left wy;refine Qb ⟨by simp[q],?_⟩;have j2:(P++x :: Q++[y]).length<=(P++x :: (Q++y :: R)).idxOf w:=by
    have Ev:P++x :: (Q++y :: R)=(P++x :: Q++[y])++R:=by simp
    rw[Ev];exact gq (Ev ▸ hn) q
   simp only[Qf,Qg,Qj] at j2;omega
  rcases cls u mu ux uy with ⟨q1,q2⟩ | ⟨q1,q2⟩
  ·rcases cls v mv vx vy with ⟨q3,q4⟩ | ⟨q3,q4⟩
   ·exact absurd q4 (hb.1 q2)
   exact⟨x,hx,y,hy,u,hu,v,hv,Q,R++P,hr,q1,q3⟩
  rcases cls v mv vx vy with ⟨q3,q4⟩ | ⟨q3,q4⟩
  ·exact⟨x,hx,y,hy,v,hv,u,hu,Q,R++P,hr,q3,q1⟩
  exact absurd (hb.2 q4) q2
 rcases Nat.lt_trichotomy (L.idxOf x) (L.idxOf y) with q | q | q
 ·exact key hx hy mx my ux uy vx vy hb q
 ·exact absurd (rW mx my q) fW
 refine key hy hx my mx uy ux vy vx ?_ q;unfold yt at hb ⊢;omega
theorem xA {L S T:List Int} (hn:L.Nodup) (h:Crs L S T):∃ x∈S,∃ y∈S,∃ u∈T,∃ v∈T,Prt L x y u v:=by
 obtain⟨x,hx,y,hy,u,hu,v,hv,A,B,hr,hA,hB⟩:=h;exact⟨x,hx,y,hy,u,hu,v,hv,CV hn hr hA hB⟩
section
variable {a z : Int} {A B I : List Int}
theorem j9 {M N:List Int} {w:Int} (hw:w∈a :: A++[z]):(a :: A++z :: M).idxOf w=(a :: A++z :: N).idxOf w:=by
 have e:∀ K:List Int,(a :: A++z :: K).idxOf w=(a :: A++[z]).idxOf w:=fun K=>by
  have q:a :: A++z :: K=(a :: A++[z])++K:=by simp
  rw[q,Qs,if_pos hw]
 rw[e M,e N]
theorem qv {M:List Int} {w:Int} (hw:w∈a :: A++[z]):(a :: A++z :: M).idxOf w<=A.length+1:=by
 have e:a :: A++z :: M=(a :: A++[z])++M:=by simp
 have:=fL (P:=a :: A++[z]) (Q:=M) hw;rw[e];simp only[Qf,Qg,Qj] at this;omega
theorem sd {M:List Int} {w:Int} (hn:(a :: A++z :: M).Nodup) (hw:w∈M):A.length+2<=(a :: A++z :: M).idxOf w:=by
 have e:a :: A++z :: M=(a :: A++[z])++M:=by simp
 have:=gq (P:=a :: A++[z]) (Q:=M) (e ▸ hn) hw;rw[e];simp only[Qf,Qg,Qj] at this;omega
theorem JT {M:List Int} {w:Int} (hn:(a :: A++z :: M).Nodup) (hw:w∈A):0<(a :: A++z :: M).idxOf w/\(a :: A++z :: M).idxOf w<A.length+1:=by
 constructor
 ·refine Qr fun q=>?_
  have i2:(a :: A++z :: M).idxOf a=0:=by simp
  have:=rW (L:=a :: A++z :: M) (by simp[hw]) (by simp) (q.trans i2.symm);rw[this] at hw;simp only[Ql,Qq] at hn;exact hn.1 (by simp[hw])
 have:=fL (P:=a :: A) (Q:=z :: M) (Qc _ hw);simpa using this
theorem Pw {M:List Int} (hn:(a :: A++z :: M).Nodup):(a :: A++z :: M).idxOf a=0/\(a :: A++z :: M).idxOf z=A.length+1:=⟨by simp,by have:=mO (P:=a :: A) (Q:=M) hn;simpa using this⟩
theorem A4 (hn:(a :: A++z :: B).Nodup) (gL:(a :: A++z :: I).Nodup) {T U:List Int} (hT:∀ v∈T,v∈a :: A++[z]) (hU:∀ v∈U,v∈a :: A++[z]) (h:iO (a :: A++z :: I) T U):iO (a :: A++z :: B) T U:=by
 rcases h with h | h
 ·obtain⟨x,hx,y,hy,u,hu,v,hv,m1,m2,m3,m4,d1,d2,d3,d4,d5,hb⟩:=xA gL h
  have mem:∀ {w},w∈a :: A++[z]->w∈a :: A++z :: B:=fun h=>by
   simp only[Ql,Qk,Qa,Qu,or_false] at h ⊢;rcases h with h | h | h
   ·exact Qd h
   ·exact Qb (Qd h)
   exact Qb (Qb (Qd h))
  refine Qd (kF hn ⟨mem (hT x hx),mem (hT y hy),mem (hU u hu),mem (hU v hv),d1,d2,d3,d4,d5,?_⟩ hx hy hu hv);unfold yt at hb ⊢;rw[j9 (M:=B) (N:=I) (hT x hx),j9 (M:=B) (N:=I) (hT y hy),j9 (M:=B) (N:=I) (hU u hu),j9 (M:=B) (N:=I) (hU v hv)];exact hb
 exact Qb h
theorem yj (hn:(a :: A++z :: B).Nodup) (gL:(a :: A++z :: I).Nodup) {T S S1:List Int} (hT:∀ v∈T,v∈a :: A++[z]) (ha:a∈S) (hz:z∈S) (bD:∀ v∈S1,(v∈S/\v∈a :: A++[z])\/v∈I) (ad9:(∀ v∈T,v ∉ A)->∀ v∈S,v ∉ A)
  (gM:¬ iO (a :: A++z :: B) S T):¬ iO (a :: A++z :: I) T S1:=by
 have mem:∀ {w},w∈a :: A++[z]->w∈a :: A++z :: B:=fun h=>by
  simp only[Ql,Qk,Qa,Qu,or_false] at h ⊢;rcases h with h | h | h
  ·exact Qd h
  ·exact Qb (Qd h)
  exact Qb (Qb (Qd h))
 have ajR:∀ {w},w∈a :: A++[z]->w ∉ I:=fun {w} h q=>by
  have h1:=sd gL q;have h2:=qv (M:=I) h;omega
 obtain⟨ea,ez⟩:=Pw hn;have Z9:a∈a :: A++[z]:=by simp
 have Ym:z∈a :: A++[z]:=by simp
 have haz:a≠z:=fun q=>by
  have q2:(a :: A++z :: B).idxOf a=(a :: A++z :: B).idxOf z:=congrArg (fun w=>(a :: A++z :: B).idxOf w) q;rw[ea,ez] at q2;omega
 rintro (h | ⟨x,y,w,⟨x1,x2⟩,⟨y1,y2⟩,⟨w1,w2⟩,d⟩)
 ·obtain⟨x,hx,y,hy,u,hu,v,hv,m1,m2,m3,m4,d1,d2,d3,d4,d5,hb⟩:=xA gL h
  have px:=hT x hx;have py:=hT y hy;have ix:=j9 (M:=B) (N:=I) px;have iy:=j9 (M:=B) (N:=I) py;have bx:=qv (M:=B) px;have by':=qv (M:=B) py
  -- one of them on the uG
  have mixed:∀ {u v:Int},u∈S1->v∈S1->u∈I->(v∈S/\v∈a :: A++[z])->v≠x->v≠y->(yt (a :: A++z :: I) x y u↔¬ yt (a :: A++z :: I) x y v)->False:=by
   intro u v hu hv uI ⟨vS,pv⟩ vx vy hb;have iu:=sd gL uI;have iv:=j9 (M:=B) (N:=I) pv;unfold yt at hb;rw[<-ix,<-iy,<-iv] at hb;have vb:yt (a :: A++z :: B) x y v:=by unfold yt;omega
   have vb':=vb;unfold yt at vb';have nxy:x≠y:=d1;have Xc:∀ {c:Int},c∈S->c∈a :: A++[z]->c≠x->c≠y->¬ yt (a :: A++z :: B) x y c->False:=fun {c} cS pc cx cy hc =>
    gM (iO.symm (Qd (kF hn ⟨mem px,mem py,mem pv,mem pc,nxy,vx,vy,cx,cy,⟨fun _=>hc,fun _=>vb⟩⟩ hx hy vS cS)))
   have neq:∀ {s t:Int},s∈a :: A++[z]->t∈a :: A++[z]->(a :: A++z :: B).idxOf s=(a :: A++z :: B).idxOf t->s=t:=fun hs ht q=>rW (mem hs) (mem ht) q;by_cases q0:a=x\/a=y
   ·by_cases q1:z=x\/z=y
    .-- T has both ends
     have hT2:a∈T/\z∈T:=by
      rcases q0 with q | q <;> rcases q1 with r | r
      ·exact absurd (q.trans r.symm) haz
      ·exact⟨q ▸ hx,r ▸ hy⟩
      ·exact⟨q ▸ hy,r ▸ hx⟩
      exact absurd (q.trans r.symm) haz
     have va:v≠a:=fun r=>by rcases q0 with q | q;exact vx (r.trans q);exact vy (r.trans q)
     have vz:v≠z:=fun r=>by rcases q1 with q | q;exact vx (r.trans q);exact vy (r.trans q)
     have vA:v∈A:=by
      simp only[Ql,Qk,Qa,Qu,or_false] at pv;exact (pv.resolve_left va).resolve_right vz
     obtain⟨t,tT,tA⟩:∃ t∈T,t∈A:=Qo fun q=>ad9 (fun t ht hA=>q ⟨t,ht,hA⟩) v vS vA;have pt:=hT t tT;obtain⟨v1,v2⟩:=JT hn vA;obtain⟨t1,t2⟩:=JT hn tA;by_cases tv:t=v
     ·exact gM (Qb ⟨a,z,v,⟨ha,hT2.1⟩,⟨hz,hT2.2⟩,⟨vS,tv ▸ tT⟩,haz,Ne.symm vz,Ne.symm va⟩)
     have bh:(a :: A++z :: B).idxOf t≠(a :: A++z :: B).idxOf v:=fun q=>tv (neq pt pv q);have ta:t≠a:=fun r=>by rw[r,ea] at t1;omega
     have tz:t≠z:=fun r=>by rw[r,ez] at t2;omega
     by_cases aU:(a :: A++z :: B).idxOf t<(a :: A++z :: B).idxOf v
     ·refine gM (Qd (kF hn (x:=a) (y:=v) (u:=t) (v:=z) ⟨mem Z9,mem pv,mem pt,mem Ym,Ne.symm va,ta,tv,Ne.symm haz,Ne.symm vz,?_⟩ ha vS tT hT2.2))
      unfold yt;rw[ea,ez];omega
     refine gM (Qd (kF hn (x:=v) (y:=z) (u:=t) (v:=a) ⟨mem pv,mem Ym,mem pt,mem Z9,vz,tv,tz,Ne.symm va,haz,?_⟩ vS hz tT hT2.1));unfold yt;rw[ea,ez];omega
    refine Xc hz Ym (fun r=>q1 (Qd r)) (fun r=>q1 (Qb r)) ?_;unfold yt;rw[ez];omega
   refine Xc ha Z9 (fun r=>q0 (Qd r)) (fun r=>q0 (Qb r)) ?_;unfold yt;rw[ea];omega
  rcases bD u hu with ⟨uS,pu⟩ | uI
  ·rcases bD v hv with ⟨vS,pv⟩ | vI
   ·refine gM (iO.symm (Qd (kF hn ⟨mem px,mem py,mem pu,mem pv,d1,d2,d3,d4,d5,?_⟩ hx hy uS vS)))
    unfold yt at hb ⊢;rw[ix,iy,j9 (M:=B) (N:=I) pu,j9 (M:=B) (N:=I) pv];exact hb
   refine mixed hv hu vI ⟨uS,pu⟩ d2 d3 ?_;constructor
   ·intro q r;exact hb.1 r q
   intro q;exact Qo fun r=>q (hb.2 r)
  rcases bD v hv with ⟨vS,pv⟩ | vI
  ·exact mixed hu hv uI ⟨vS,pv⟩ d4 d5 hb
  have iu:=sd gL uI;have iv:=sd gL vI;unfold yt at hb;rw[<-ix,<-iy] at hb;omega
 have out:∀ {v:Int},v∈T->v∈S1->v∈S:=fun {v} h1 h2=>by
  rcases bD v h2 with r | r
  ·exact r.1
  exact absurd r (ajR (hT v h1))
 exact gM (Qb ⟨x,y,w,⟨out x1 x2,x1⟩,⟨out y1 y2,y1⟩,⟨out w1 w2,w1⟩,d⟩)
theorem Dr {S T:List Int} (ha:a∈S) (hz:z∈S) (gM:¬ iO (a :: A++z :: B) S T) {u v:Int} (hu:u∈T) (hv:v∈T) (huA:u∈A) (hvB:v∈B):False :=
 gM (Qd ⟨a,ha,z,hz,u,hu,v,hv,A,B,bm.refl _,huA,hvB⟩)
end
structure ZJ (g:Gr) (s:Sk) (a:List Int->Int):Prop where
 pos:∀ c∈s.rest,0<=a c.ah/\(a c.ah).toNat<s.aj.length/\∀ v∈c.ends,v∈(bg s.aj (a c.ah)).map g.tail
 Ri:∀ c∈s.rest,∀ d∈s.rest,c.ah≠d.ah->a c.ah=a d.ah->¬ iO ((bg s.aj (a c.ah)).map g.tail) c.ends d.ends
 en:∀ f∈s.aj,(f.map (· / 2)).Nodup
theorem AS (w:List Int):hZ (twins w)=hZ w:=by
 funext e
 unfold hZ twins;rw[Et (QC _)]
 induction w with
 | nil=>rfl
 | cons d w ih=>simp only[Qp,par,bA];rw[ih]
theorem oT {w:List Int}:((twins w).map (· / 2)).Perm (w.map (· / 2)):=by
 unfold twins;rw[QD];refine (QC _).trans ?_;rw[QF];refine List.Perm.of_eq (List.map_congr_left fun d _=>?_);exact bA d
theorem fP {F:List (List Int)} {i:Int} (h:i.toNat<F.length):bg F i∈F:=by
 unfold bg;rw[show F.getD i.toNat []=F[i.toNat] by simp[List.getD,h]];exact List.getElem_mem _
theorem Cx (f:Int->Int) {C D:List Int}:bm C D->bm (C.map f) (D.map f):=fun ⟨U,V,h1,h2⟩=>⟨U.map f,V.map f,by rw[h1,Qi],by rw[h2,Qi]⟩
theorem PX.chain {g:Gr} {b:Pt} {aa:List (List Int)} {on:Int->Bool} {E w:List Int} {a z:Int} (hp:aH g b) (ht:aT g b aa) (h:PX g on ⟨b.v,E⟩ w a z) (hE:∀ e∈E,e∈b.e) (RU:on a=true) :
  vu g b aa on E (hZ w) a z/\vu g b aa on E (hZ w) z a:=by
 have hwE:∀ d∈w,d / 2∈E:=fun d hd=>aw.1 (h.sub d hd);have Cj:∀ d∈w,d∈b.ag:=fun d hd=>aw.2 (hE _ (hwE d hd));have LZ:w.Nodup:=du h.cY;have WD:∀ e,hZ w e=true->e∈E:=fun e he=>Qo fun q=>by
  rw[BB (l:=w) (e:=e) fun d hd r=>q (by rw[<-r];exact hwE d hd)] at he;cases he
 obtain⟨c0,l,hw⟩:∃ c0 l,w=c0 :: l:=by
  cases hw:w with
  | nil=>have:=h.link;rw[hw] at this;exact absurd this h.ne
  | cons c l=>exact⟨c,l,rfl⟩
 have gy:g.tail c0=a:=by have:=h.link;rw[hw] at this;exact this.1
 have yO:∀ d∈w,d=c0\/on (g.tail d)=false:=fun d hd=>by
  rw[hw] at hd;rcases Qk.1 hd with r | r
  ·exact Qd r
  exact Qb (h.inn d (by rw[hw];exact r))
 have hhd:∀ d∈w,g.head d=z\/on (g.head d)=false:=fun d hd=>by
  have h1:=h.link;rw[hw] at h1;have h2:=dJ h1;have h3:g.head d∈(c0 :: l).map g.head:=by rw[<-hw];exact Qe.2 ⟨d,hd,rfl⟩
  rw[h2] at h3;rcases Qa.1 h3 with k | k
  ·obtain⟨d',k1,k2⟩:=Qe.1 k
   exact Qb (by rw[<-k2];exact h.inn d' (by rw[hw];exact k1))
  exact Qd (QB.1 k)
 have WK:∀ v,on v=true->v≠a->v≠z->∀ u∈b.ag,g.tail u=v->hZ w (u / 2)=false:=fun v hv hva hvz u hu gI=>by
  rw[fp LZ];have e1:u ∉ w:=fun q=>by
   rcases yO u q with r | r
   ·rw[r,gy] at gI;exact hva gI.symm
   rw[gI,hv] at r;cases r
  have e2:aE u ∉ w:=fun q=>by
   have hh:g.head (aE u)=v:=by rw[<-aA,aS];exact gI
   rcases hhd _ q with r | r
   ·rw[hh] at r;exact hvz r
   rw[hh,hv] at r;cases r
  simp[e1,e2]
 obtain⟨m,t,hm,hmz⟩:=l6 h.link h.ne;have q9:t∈w:=by rw[hm];simp
 refine⟨⟨WD,fun v hv=>fH hp ht hv h.link Cj,⟨c0,Cj c0 (by rw[hw];simp),gy,hwE c0 (by rw[hw];simp),fun u hu gI=>?_⟩,WK⟩,⟨WD,fun v hv=>by rw[fH hp ht hv h.link Cj,Qt],⟨aE t,bu (Cj t q9),by rw[aA,hmz],by rw[bA];exact hwE t q9,fun u hu gI=>?_⟩,fun v h1 h2 h3=>WK v h1 h3 h2⟩⟩
 ·rw[fp LZ]
  have e2:aE u ∉ w:=fun q=>h.na (Qe.2 ⟨_,q,by rw[<-aA,aS];exact gI⟩);have e1:u∈w↔u=c0:=by
   constructor
   ·intro q
    rcases yO u q with r | r
    ·exact r
    rw[gI,RU] at r;cases r
   intro q;rw[q,hw];simp
  have e3:decide (u∈w)=decide (u=c0):=decide_eq_decide.2 e1;rw[e3];simp[e2]
 rw[fp LZ];have e1:u ∉ w:=fun q=>by
  rcases yO u q with r | r
  ·rw[r,gy] at gI;exact h.ne gI
  rw[gI,h.oz] at r;cases r
 have e2:aE u∈w↔u=aE t:=⟨fun q=>by
  have:=dE h.cY _ q _ q9 (by rw[<-aA,aS,gI,hmz]);rw[<-this,aS],fun q=>by rw[q,aS];exact q9⟩
 have e3:decide (aE u∈w)=decide (u=aE t):=decide_eq_decide.2 e2;rw[e3];simp[e1]
open Classical in
set_option maxHeartbeats 2000000 in
theorem TN {g:Gr} {b:Pt} {rt:List (List Int)} {s:Sk} {p:Pt} {aa:List (List Int)} {i:Nat} {a:List Int->Int} (hR:jC g b rt) (hl:∀ e∈b.e,(g.at e).1≠(g.at e).2) (hS:cg g b) (h:rD g b s p aa) (hi:i<s.rest.length)
  (hf:(s.rest.getD i ⟨[],[],[]⟩).aj≠[]) (hE:ZJ g s a) (uX:a (s.rest.getD i ⟨[],[],[]⟩).ah=(s.rest.getD i ⟨[],[],[]⟩).aj.getD 0 0) :
  ∃ p' fQ a',rD g b (s.put g b.v i) p' fQ/\(s.put g b.v i).left<s.left/\ZJ g (s.put g b.v i) a':=by
 have lM:=hR.pe;obtain⟨p',fQ,h',aU⟩:=Ra lM hS h hi hf;refine⟨p',fQ,?_⟩
 suffices hs:∃ a',ZJ g (s.put g b.v i) a' by
  obtain⟨a',ha'⟩:=hs;exact⟨a',h',aU,ha'⟩
 clear aU;have iM:=Pt.aF lM;have ig:=Pt.aF h.aj.pe;have Ky:=Pt.aF h'.aj.pe;have ht:=hR.js;obtain⟨Sq,Yn⟩:=kH hi (⟨[],[],[]⟩:bj);unfold Sk.put at h' ⊢;dsimp only at h' ⊢;generalize gy:s.rest.getD i ⟨[],[],[]⟩=c at *;generalize Rc:s.rest.take i=R1 at *;generalize hR2:s.rest.drop (i+1)=R2 at *;have lN:c∈s.rest:=by rw[Sq];simp
 have hc:=h.lV c lN;have iQ:=h.part;have ajZ:s.rest.flatMap (·.ah)=R1.flatMap (·.ah)++(c.ah++R2.flatMap (·.ah)):=by
  conv=>lhs;rw[Sq]
  rw[List.flatMap_append,List.flatMap_cons]
 rw[ajZ] at iQ;have fs:=(iQ.nodup_iff).2 iM.en;have jd:∀ x,Qy x p.e+(Qy x (R1.flatMap (·.ah))+(Qy x c.ah+Qy x (R2.flatMap (·.ah))))<=1:=fun x=>by
  have:=Qw.1 fs x;simpa[List.count_append] using this
 have KJ:∀ e∈c.ah,e ∉ p.e:=fun e h1 h2=>by
  have:=jd e;have:=Qm.2 h1;have:=Qm.2 h2;omega
 have hcR:∀ e∈c.ah,∀ r,r∈R1\/r∈R2->e ∉ r.ah:=fun e h1 r hr h2=>by
  have:=jd e;have:=Qm.2 h1;rcases hr with hr | hr
  ·have:=Qm.2 (show e∈R1.flatMap (·.ah) from QE.2 ⟨r,hr,h2⟩)
   omega
  have:=Qm.2 (show e∈R2.flatMap (·.ah) from QE.2 ⟨r,hr,h2⟩);omega
 have pa:∀ e∈p.e,e∈b.e:=fun e he=>iQ.mem_iff.1 (Qx _ he);have oY:c.ah.Nodup:=Qw.2 fun x=>by have:=jd x;omega
 have Zy:aH g ⟨b.v,c.ah⟩:=⟨iM.vn,oY,iM.vr,fun e he=>iM.er e (hc.sub e he),fun e he=>iM.ends e (hc.sub e he)⟩;obtain⟨a0,z0,m,iF⟩:∃ a z0 m,c.ends=a :: z0 :: m:=by
  have:=hc.two
  match hL:c.ends with
  | []=>rw[hL] at this;simp at this
  | [_]=>rw[hL] at this;simp at this
  | a :: z0 :: m=>exact⟨a,z0,m,rfl⟩
 have kQ:(a0 :: z0 :: m).Nodup:=by rw[<-iF,hc.ends];exact gd g s.on c.ah
 have Nn:a0∈c.ends:=by rw[iF];simp
 have Wy:z0∈c.ends:=by rw[iF];simp
 have Bw:=Nn;have jZ:=Wy;rw[hc.ends] at Bw jZ;obtain⟨RU,e0,mn,Jw⟩:=bs.1 Bw;obtain⟨M7,e1,uF,Fi⟩:=bs.1 jZ;have M0:z0≠a0:=fun q=>by rw[q] at kQ;simp at kQ
 have qL:∀ d∈(⟨b.v,c.ah⟩:Pt).ag,0<=d:=fun d hd=>by have:=iM.er _ (hc.sub _ (aw.1 hd));omega
 obtain⟨z,pr⟩:=yw (g:=g) (on:=s.on) Zy qL hc.qa mn Jw uF Fi M7 M0;have Tj:c.ends.getD 0 0=a0:=by rw[iF];rfl
 rw[Tj] at h' ⊢;generalize hw0:l5 g s.on ⟨b.v,c.ah⟩ a0=w at *;have Di:=pr.uG h.on RU KJ;obtain⟨c0,l,Ea⟩:=Di.cons;have yY:w≠[]:=by rw[Ea];simp
 have V6:g.head (w.getLastD 0)=z:=by
  obtain⟨m,t,hm,hmz⟩:=l6 pr.link pr.ne;rw[hm,List.getLastD_eq_getLast?];simpa using hmz
 rw[V6] at h' ⊢;have A5:∀ d∈w,d / 2∈c.ah:=fun d hd=>aw.1 (pr.sub d hd);have Ca:z∈c.ends:=by
  obtain⟨m,t,hm,hmz⟩:=l6 pr.link pr.ne;rw[hc.ends];have h2:=et g t;rw[hmz] at h2;exact bs.2 ⟨pr.oz,t / 2,A5 t (by rw[hm];simp),h2.2⟩
 obtain⟨f,fl,As⟩:∃ f fl,c.aj=f :: fl:=by
  cases hL:c.aj with
  | nil=>exact absurd hL hf
  | cons f fl=>exact⟨f,fl,rfl⟩
 have GQ:c.aj.getD 0 0=f:=by rw[As];rfl
 rw[GQ] at h' uX ⊢;obtain⟨OL,BE,Vh⟩:=(hc.Ns f).1 (by rw[As];simp);have Vv:bg s.aj f∈s.aj:=fP BE;generalize EG:bg s.aj f=old at *;obtain⟨x,y,A,B,U,V,c1,c2,c3,c4,c5⟩:=pY (g:=g) (old:=old) (w:=w) (cX.1 (Vh a0 Nn)) (cX.1 (Vh z Ca)) pr.ne;rw[c5] at h' ⊢;obtain⟨f1,f2,f3,f4⟩:=Fa (F:=s.aj) OL BE (x :: A++twins w) (w++y :: B);generalize Tw:s.aj.set f.toNat (x :: A++twins w)++[w++y :: B]=F' at *;have OE:bm old (x :: A++y :: B):=⟨U,V,c1,c2.symm⟩;have zy:∀ v,eF g s.on w v=true↔s.on v=true\/v∈w.map g.tail:=fun v=>Cy;have aoR:∀ v,eF g s.on w v=false->s.on v=false:=fun v hv=>Bool.eq_false_iff.2 fun r=>by rw[(zy v).2 (Qd r)] at hv;cases hv
 -- the old ui
 have uh:=h.aj.bg Vv OE;have SX:jY g b s.on (x :: A++y :: B):=by
  refine⟨⟨a0,eR.append.2 ⟨z,?_,?_⟩⟩,uh.tn,((OE.perm.map _).nodup_iff).1 (hE.en _ Vv),fun d hd=>aw.2 (pa _ (aw.1 (uh.dr d hd))),fun d hd=>(h.on _).2 (ig.aQ (uh.dr d hd)).1⟩
  ·have:=uh.link ig h.aj.js;rw[c3,c4] at this;exact this
  have:=uh.symm.link ig h.aj.js;rw[c3,c4] at this;exact this
 have G':=SX.Oi rfl;rw[c3,c4] at G';have AB:mq g b s.on c.ah:=⟨hc.qa,hc.shut,hc.sub⟩;have NF:∀ d∈x :: A++y :: B,d / 2 ∉ c.ah:=fun d hd q=>KJ _ q (aw.1 (uh.dr d hd));obtain⟨ch1,ch2⟩:=pr.chain iM ht hc.sub RU;have Cj:∀ d∈w,d∈b.ag:=fun d hd=>aw.2 (hc.sub _ (A5 d hd));obtain⟨Fm,Zz⟩:=hR.Ww (c:=fun e=>hZ (x :: A) e ^^ hZ w e) fun v hv=>by
  rw[mT,fH iM ht hv G'.l1 (fun d hd=>G'.dr d (m1 hd)),fH iM ht hv pr.link Cj];simp
 obtain⟨Nd,Rj⟩:=hR.Ww (c:=fun e=>hZ (y :: B) e ^^ hZ w e) fun v hv=>by
  rw[mT,fH iM ht hv G'.l2 (fun d hd=>G'.dr d (m2 hd)),fH iM ht hv pr.link Cj,Qt (decide (z=v))];simp
 have ns:lL g b rt (hZ (x :: A++y :: B)) (fun d=>Fm d ^^ Nd d):=(Zz.xor Rj).congr fun e _=>by
  rw[ff];cases hZ (x :: A) e <;> cases hZ (y :: B) e <;> cases hZ w e <;> rfl
 have anE:lL g b rt (hZ (y :: B++x :: A)) (fun d=>Fm d ^^ Nd d):=ns.congr fun e _=>by rw[ff,ff,Qt]
 obtain⟨κ,k1,Sn,t1,t2,t3,⟨q,q1,q2,q3⟩,t5,-⟩:=G'.oD iM ht ns ch1 Zz NF;obtain⟨-,k2,TJ,-,-,u3,-,u5,-⟩:=G'.symm.oD iM ht anE ch2 Rj (fun d hd=>NF d (List.perm_append_comm.mem_iff.1 hd));have aca:=AB.ui iM ht SX NF ns;have ad4:∀ d∈b.ag,d / 2∈c.ah->Fm d=Sn->Nd d=!TJ:=fun d hd SR e1=>by
  have k3:(Fm q ^^ Nd q)=(Fm d ^^ Nd d):=aca q q1 q2 d hd SR;have k4:(Fm x ^^ Nd x)=κ:=t1 x (by simp);have k5:Fm x=k1:=t2 x (by simp);have k6:Nd x=TJ:=u3 x (by simp);rw[k3,<-k4,k5,k6,e1] at q3
  revert q3
  cases Sn <;> cases TJ <;> cases k1 <;> cases Nd d <;> simp
 -- the new aj
 have al3:x :: A++twins w∈F':=by rw[<-f2];exact fP (by omega)
 have alL:w++y :: B∈F':=by rw[<-f3];exact fP (by rw[f4];omega)
 obtain⟨t0,W,q9⟩:∃ t0 W,twins w=t0 :: W:=by
  cases hq:twins w with
  | nil=>have:=congrArg List.length hq;unfold twins at this;simp at this;exact absurd this yY
  | cons t0 W=>exact⟨t0,W,rfl⟩
 have wT:jj g p' fQ x A t0 W:=h'.aj.bg al3 (by rw[q9];exact bm.refl _);have wQ:jj g p' fQ c0 l y B:=h'.aj.bg alL (by rw[Ea];exact bm.refl _);have aeL:∀ e∈p'.e,e∈b.e:=fun e he=>h'.part.mem_iff.1 (Qx _ he);have Uv:∀ d∈w,d / 2 ∉ p.e:=fun d hd=>KJ _ (A5 d hd);have Sy:∀ d∈x :: A++y :: B,d / 2∈p.e:=fun d hd=>aw.1 (uh.dr d hd);have Xz:((x :: A++twins w).map (· / 2)).Nodup:=by
  rw[Qi,Qh];have hh:=SX.en;rw[Qi,Qh] at hh;refine⟨hh.1,(oT.nodup_iff).2 Di.en,fun u hu v hv e=>?_⟩;obtain⟨d,hd,rfl⟩:=Qe.1 hu;obtain⟨d',Cf,e'⟩:=Qe.1 (oT.mem_iff.1 hv);exact Uv d' Cf (by rw[e',<-e];exact Sy d (m1 hd))
 have Gf:((w++y :: B).map (· / 2)).Nodup:=by
  rw[Qi,Qh];have hh:=SX.en;rw[Qi,Qh] at hh;refine⟨Di.en,hh.2.1,fun u hu v hv e=>?_⟩;obtain⟨d,hd,rfl⟩:=Qe.1 hu;obtain⟨d',Cf,rfl⟩:=Qe.1 hv;exact Uv d hd (by rw[e];exact Sy d' (m2 Cf))
 have hC1:jY g b (eF g s.on w) (x :: A++twins w):=by
  rw[q9] at Xz ⊢;exact⟨⟨_,eR.append.2 ⟨_,wT.link Ky h'.aj.js,wT.symm.link Ky h'.aj.js⟩⟩,wT.tn,Xz,fun d hd=>aw.2 (aeL _ (aw.1 (wT.dr d hd))),fun d hd=>(h'.on _).2 (Ky.aQ (wT.dr d hd)).1⟩
 have UZ:jY g b (eF g s.on w) (w++y :: B):=by
  rw[Ea] at Gf ⊢;exact⟨⟨_,eR.append.2 ⟨_,wQ.link Ky h'.aj.js,wQ.symm.link Ky h'.aj.js⟩⟩,wQ.tn,Gf,fun d hd=>aw.2 (aeL _ (aw.1 (wQ.dr d hd))),fun d hd=>by
   have:=(h'.on _).2 (Ky.aQ (wQ.dr d hd)).1;rw[<-Ea];exact this⟩
 have VT:lL g b rt (hZ (x :: A++twins w)) Fm:=Zz.congr fun e _=>by rw[ff,AS]
 have W6:lL g b rt (hZ (w++y :: B)) Nd:=Rj.congr fun e _=>by rw[ff,Qt]
 -- their vertices
 have hmA:(x :: A++y :: B).map g.tail=a0 :: A.map g.tail++z :: B.map g.tail:=by rw[Qi,Qp,Qp,c3,c4]
 have Xr:w.map g.tail=a0 :: l.map g.tail:=by
  have:=pr.link;rw[Ea] at this ⊢;rw[Qp,this.1]
 have akO:(twins w).map g.tail=z :: (l.map g.tail).reverse:=by
  have h1:=pr.link;rw[Ea] at h1;have h2:=dJ h1;unfold twins;rw[QD,QF,Ea];have:(g.tail ∘ aE)=g.head:=by funext d;exact aA g d
  rw[this,h2,List.reverse_append];rfl
 have mh:(x :: A++twins w).map g.tail=a0 :: A.map g.tail++z :: (l.map g.tail).reverse:=by rw[Qi,akO,Qp,c3]
 have jS:(w++y :: B).map g.tail=a0 :: l.map g.tail++z :: B.map g.tail:=by rw[Qi,Xr,Qp,c4]
 have KW:bm (old.map g.tail) (a0 :: A.map g.tail++z :: B.map g.tail):=by rw[<-hmA];exact Cx g.tail OE
 have YE:bm (a0 :: A.map g.tail++z :: B.map g.tail) (z :: B.map g.tail++a0 :: A.map g.tail):=⟨_,_,rfl,rfl⟩;have Yi:bm (a0 :: l.map g.tail++z :: B.map g.tail) (z :: B.map g.tail++a0 :: l.map g.tail):=⟨_,_,rfl,rfl⟩;have nL:(a0 :: A.map g.tail++z :: B.map g.tail).Nodup:=by rw[<-hmA];exact uh.tn
 have nL1:(a0 :: A.map g.tail++z :: (l.map g.tail).reverse).Nodup:=by rw[<-mh];exact hC1.tn
 have nL2:(a0 :: l.map g.tail++z :: B.map g.tail).Nodup:=by rw[<-jS];exact UZ.tn
 have nLr:=(YE.perm.nodup_iff).1 nL;have ade:=(Yi.perm.nodup_iff).1 nL2;have Ox:∀ v∈l.map g.tail,s.on v=false:=fun v hv=>by
  obtain⟨d,hd,rfl⟩:=Qe.1 hv;exact pr.inn d (by rw[Ea];exact hd)
 generalize hA':A.map g.tail=A' at *;generalize hB':B.map g.tail=B' at *;generalize hI:l.map g.tail=I at *;have hcL:∀ v∈c.ends,v∈a0 :: A'++z :: B':=fun v hv=>by
  obtain⟨d,hd,e⟩:=cX.1 (Vh v hv);exact KW.perm.mem_iff.1 (Qe.2 ⟨d,hd,e⟩)
 -- the rule
 let k:Int:=s.aj.length
 have sW:f≠k:=fun q=>by have:f=(s.aj.length:Int):=q;omega
 let a':List Int->Int:=fun E =>
  if ∃ e∈E,e∈c.ah then (if Fm (2*E.headD 0)=Sn then k else f)
  else if a E=f then (if ∃ v∈br g s.on E,v∈B' then k else if ∃ v∈br g s.on E,v∈A' then f else if ∃ v∈c.ends,v∈A' then k else f)
  else a E
 -- what is new
 have pw:∀ r∈cr g (eF g s.on w) F' (aY c.ah w) [f,k],(∀ e∈r.ah,e∈c.ah/\∀ d∈w,d / 2≠e):=fun r hr e he=>by
  obtain⟨gl,Mk,rfl⟩:=Qe.1 hr;have uL:=gu g (eF g s.on w) (aY c.ah w);have:=(kB uL.ok Mk).2.1 e he;rw[uL.all,jt (show (aY c.ah w).Nodup from oY.filter _)] at this;exact cE.1 this
 have XQ:∀ r∈(s.rest.eraseIdx i).map (eW g F' f k)++cr g (eF g s.on w) F' (aY c.ah w) [f,k],
   (∃ r0∈s.rest,r.ah=r0.ah/\r.ends=r0.ends/\∀ e∈r0.ah,e ∉ c.ah)\/(wj g b (eF g s.on w) F' r/\∀ e∈r.ah,e∈c.ah/\∀ d∈w,d / 2≠e):=fun r hr=>by
  rcases Qa.1 hr with q | q
  ·obtain⟨r0,nw,rfl⟩:=Qe.1 q
   rw[Yn] at nw;have hrR:r0∈R1\/r0∈R2:=Qa.1 nw;refine Qd ⟨r0,by rw[Sq];rcases hrR with j | j <;> simp[j],(lr g F' f k r0).1,(lr g F' f k r0).2,fun e he q=>hcR e q r0 hrR he⟩
  exact Qb ⟨h'.lV r hr,pw r q⟩
 have lQ:=(h'.part.nodup_iff).2 iM.en;have lQ:=(Qh.1 lQ).2.1;have DA:∀ r∈(s.rest.eraseIdx i).map (eW g F' f k)++cr g (eF g s.on w) F' (aY c.ah w) [f,k],∀ r2∈(s.rest.eraseIdx i).map (eW g F' f k)++cr g (eF g s.on w) F' (aY c.ah w) [f,k],r.ah≠r2.ah->∀ e∈r.ah,e ∉ r2.ah:=fun r hr r2 cH bh e he q =>
  bh (dP lQ (Qe.2 ⟨r,hr,rfl⟩) (Qe.2 ⟨r2,cH,rfl⟩) he q)
 have Jd:∀ r∈(s.rest.eraseIdx i).map (eW g F' f k)++cr g (eF g s.on w) F' (aY c.ah w) [f,k],r.ah.headD 0∈r.ah:=fun r hr=>by
  have hk:=h'.lV r hr;have h2:=hk.two;obtain⟨v,hv⟩:=List.exists_mem_of_length_pos (l:=r.ends) (by omega);rw[hk.ends] at hv;obtain⟨-,e,he,-⟩:=bs.1 hv;cases hq:r.ah with
  | nil=>rw[hq] at he;simp at he
  | cons e l=>simp
 have YK:∀ v,v∈a0 :: A'++[z]↔v=a0\/v∈A'\/v=z:=fun v=>by simp
 have hB1:∀ v,v∈z :: B'++[a0]↔v=z\/v∈B'\/v=a0:=fun v=>by simp
 have hL4:∀ v,v∈a0 :: A'++z :: B'↔v=a0\/v∈A'\/v=z\/v∈B':=fun v=>by simp
 have PE:∀ r0∈s.rest,(∀ e∈r0.ah,e ∉ c.ah)->a r0.ah=f->(∀ v∈r0.ends,v∈a0 :: A'++z :: B')/\¬ iO (a0 :: A'++z :: B') c.ends r0.ends:=fun r0 nw hd ha=>by
  obtain⟨-,-,j3⟩:=hE.pos r0 nw;rw[ha,EG] at j3;refine⟨fun v hv=>KW.perm.mem_iff.1 (j3 v hv),fun q=>?_⟩;have bh:c.ah≠r0.ah:=fun q=>hd e0 (q ▸ mn) mn;have:=hE.Ri c lN r0 nw bh (by rw[uX,ha]);rw[uX,EG] at this;exact this (q.sO KW.symm)
 -- each scrap and its place
 have ya:∀ r∈(s.rest.eraseIdx i).map (eW g F' f k)++cr g (eF g s.on w) F' (aY c.ah w) [f,k],
   (a' r.ah=f/\Fm (2*r.ah.headD 0)=(!Sn)/\(∀ e∈r.ah,e∈c.ah/\∀ d∈w,d / 2≠e)/\∀ v∈r.ends,(v∈c.ends/\v∈a0 :: A'++[z])\/v∈I.reverse) \/
   (a' r.ah=k/\Nd (2*r.ah.headD 0)=(!TJ)/\(∀ e∈r.ah,e∈c.ah/\∀ d∈w,d / 2≠e)/\∀ v∈r.ends,(v∈c.ends/\v∈z :: B'++[a0])\/v∈I) \/
   (∃ r0∈s.rest,r.ah=r0.ah/\r.ends=r0.ends/\(∀ e∈r0.ah,e ∉ c.ah)/\a r0.ah=f/\a' r.ah=f/\(∀ v∈r0.ends,v∈a0 :: A'++[z])/\((∀ v∈r0.ends,v ∉ A')->∀ v∈c.ends,v ∉ A')) \/
   (∃ r0∈s.rest,r.ah=r0.ah/\r.ends=r0.ends/\(∀ e∈r0.ah,e ∉ c.ah)/\a r0.ah=f/\a' r.ah=k/\(∀ v∈r0.ends,v∈z :: B'++[a0])/\((∀ v∈r0.ends,v ∉ B')->∀ v∈c.ends,v ∉ B')) \/
   ∃ r0∈s.rest,r.ah=r0.ah/\r.ends=r0.ends/\a r0.ah≠f/\a' r.ah=a r0.ah:=by
  intro r hr;have hh:=Jd r hr;rcases XQ r hr with ⟨r0,nw,j1,j2,j3⟩ | ⟨j1,j2⟩
  ·have gM:¬ ∃ e∈r.ah,e∈c.ah:=fun ⟨e,he,q⟩=>j3 e (j1 ▸ he) q
   have he':br g s.on r.ah=r0.ends:=by rw[j1,(h.lV r0 nw).ends]
   by_cases Dx:a r0.ah=f
   ·obtain⟨i1,i2⟩:=PE r0 nw j3 Dx
    have ea:a' r.ah=if ∃ v∈r0.ends,v∈B' then k else if ∃ v∈r0.ends,v∈A' then f else if ∃ v∈c.ends,v∈A' then k else f:=by
     show (if _ then _ else if _ then _ else _)=_;rw[if_neg gM,if_pos (by rw[j1];exact Dx),he']
    by_cases p1:∃ v∈r0.ends,v∈B'
    ·refine Qb (Qb (Qb (Qd ⟨r0,nw,j1,j2,j3,Dx,by rw[ea,if_pos p1],fun v hv=>?_,fun q=>?_⟩)))
     ·rw[hB1]
      rcases (hL4 v).1 (i1 v hv) with q | q | q | q
      ·exact Qb (Qb q)
      ·obtain⟨u,hu,huB⟩:=p1
       exact (Dr Nn Ca i2 hv hu q huB).elim
      ·exact Qd q
      exact Qb (Qd q)
     obtain⟨u,hu,huB⟩:=p1;exact absurd huB (q u hu)
    have noB:∀ v∈r0.ends,v∈a0 :: A'++[z]:=fun v hv=>by
     rw[YK];rcases (hL4 v).1 (i1 v hv) with q | q | q | q
     ·exact Qd q
     ·exact Qb (Qd q)
     ·exact Qb (Qb q)
     exact absurd ⟨v,hv,q⟩ p1
    by_cases p2:∃ v∈r0.ends,v∈A'
    ·refine Qb (Qb (Qd ⟨r0,nw,j1,j2,j3,Dx,by rw[ea,if_neg p1,if_pos p2],noB,fun q=>?_⟩))
     obtain⟨u,hu,huA⟩:=p2;exact absurd huA (q u hu)
    by_cases p3:∃ v∈c.ends,v∈A'
    ·have two:∀ v∈r0.ends,v=a0\/v=z:=fun v hv=>by
      rcases (YK v).1 (noB v hv) with q | q | q
      ·exact Qd q
      ·exact absurd ⟨v,hv,q⟩ p2
      exact Qb q
     refine Qb (Qb (Qb (Qd ⟨r0,nw,j1,j2,j3,Dx,by rw[ea,if_neg p1,if_neg p2,if_pos p3],fun v hv=>?_,fun _ v hv hvB=>?_⟩)))
     ·rw[hB1]
      rcases two v hv with q | q
      ·exact Qb (Qb q)
      exact Qd q
     have agJ:=h.lV r0 nw;have XN:r0.ends.Nodup:=by rw[agJ.ends];exact gd g s.on r0.ah
     have Vr:a0∈r0.ends/\z∈r0.ends:=by
      have h2:=agJ.two
      match hL:r0.ends with
      | []=>rw[hL] at h2;simp at h2
      | [_]=>rw[hL] at h2;simp at h2
      | u1 :: u2 :: l2 =>
       rw[hL] at XN two;have WQ:u1≠u2:=fun q=>by rw[q] at XN;simp at XN
       rcases two u1 (by simp) with q | q <;> rcases two u2 (by simp) with r | r
       ·exact absurd (q.trans r.symm) WQ
       ·rw[q,r];simp
       ·rw[q,r];simp
       exact absurd (q.trans r.symm) WQ
     obtain⟨u,hu,huA⟩:=p3;exact Dr Vr.1 Vr.2 (fun q=>i2 q.symm) hu hv huA hvB
    exact Qb (Qb (Qd ⟨r0,nw,j1,j2,j3,Dx,by rw[ea,if_neg p1,if_neg p2,if_neg p3],noB,fun _ v hv q=>p3 ⟨v,hv,q⟩⟩))
   refine Qb (Qb (Qb (Qb ⟨r0,nw,j1,j2,Dx,?_⟩)));show (if _ then _ else if _ then _ else _)=_;rw[if_neg gM,if_neg (by rw[j1];exact Dx),j1]
  have x7:∃ e∈r.ah,e∈c.ah:=⟨_,hh,(j2 _ hh).1⟩;have ea:a' r.ah=if Fm (2*r.ah.headD 0)=Sn then k else f:=by
   show (if _ then _ else _)=_;rw[if_pos x7]
  have Kv:mq g b (eF g s.on w) r.ah:=⟨j1.qa,j1.shut,j1.sub⟩;have MX:∀ d∈x :: A++twins w,d / 2 ∉ r.ah:=fun d hd q=>by
   rcases Qa.1 hd with t | t
   ·exact KJ _ (j2 _ q).1 (Sy d (m1 t))
   have:=(j2 _ q).2 _ (eO.1 t);rw[bA] at this;exact this rfl
  have Es:∀ d∈w++y :: B,d / 2 ∉ r.ah:=fun d hd q=>by
   rcases Qa.1 hd with t | t
   ·exact (j2 _ q).2 d t rfl
   exact KJ _ (j2 _ q).1 (Sy d (m2 t))
  have adA:=Kv.ui iM ht hC1 MX VT;have agy:=Kv.ui iM ht UZ Es W6;have pG:2*r.ah.headD 0 / 2=r.ah.headD 0:=by omega
  have mm:2*r.ah.headD 0∈b.ag:=aw.2 (by rw[pG];exact j1.sub _ hh);have mV:∀ v∈r.ends,(v∈I)\/(v∈c.ends/\∃ u∈b.ag,g.tail u=v/\u / 2∈r.ah):=fun v hv=>by
   rw[j1.ends] at hv;obtain⟨ov,e,he,pA⟩:=bs.1 hv;by_cases os:s.on v=true
   ·refine Qb ⟨by rw[hc.ends];exact bs.2 ⟨os,e,(j2 e he).1,pA⟩,?_⟩
    obtain⟨u,n1,n2,rfl⟩:=iT (j1.sub e he) pA;exact⟨u,n1,n2,he⟩
   rcases (zy v).1 ov with q | q
   ·exact absurd q os
   rw[Xr] at q;rcases Qk.1 q with q | q
   ·rw[q] at os;exact absurd RU os
   exact Qd q
  by_cases cG:Fm (2*r.ah.headD 0)=Sn
  ·have bG:=ad4 _ mm (by rw[pG];exact (j2 _ hh).1) cG
   refine Qb (Qd ⟨by rw[ea,if_pos cG],bG,j2,fun v hv=>?_⟩);rcases mV v hv with q | ⟨q,u,n1,n2,n3⟩
   ·exact Qb q
   refine Qd ⟨q,?_⟩;rw[hB1];rcases (hL4 v).1 (hcL v q) with t | t | t | t
   ·exact Qb (Qb t)
   ·exfalso
    rw[<-hA'] at t;obtain⟨d,d1,d2⟩:=Qe.1 t;have bh:g.tail d≠a0:=fun q=>by
     have:=nL;simp only[Ql,Qq] at this;exact this.1 (by rw[<-q,<-hA'];simp;exact Qd ⟨d,d1,rfl⟩)
    have e1:=u5 d (Qc _ d1) bh u n1 (n2.trans d2.symm);have e2:=agy u n1 n3 _ mm (by rw[pG];exact hh);rw[e1,bG] at e2;cases TJ <;> cases e2
   ·exact Qd t
   exact Qb (Qd t)
  have aiO:Fm (2*r.ah.headD 0)=(!Sn):=by
   revert cG
   cases Fm (2*r.ah.headD 0) <;> cases Sn <;> simp
  refine Qd ⟨by rw[ea,if_neg cG],aiO,j2,fun v hv=>?_⟩;rcases mV v hv with q | ⟨q,u,n1,n2,n3⟩
  ·exact Qb (Qv.2 q)
  refine Qd ⟨q,?_⟩;rw[YK];rcases (hL4 v).1 (hcL v q) with t | t | t | t
  ·exact Qd t
  ·exact Qb (Qd t)
  ·exact Qb (Qb t)
  exfalso;rw[<-hB'] at t;obtain⟨d,d1,d2⟩:=Qe.1 t;have bh:g.tail d≠z:=fun q=>by
   have:=nLr;simp only[Ql,Qq] at this;exact this.1 (by rw[<-q,<-hB'];simp;exact Qd ⟨d,d1,rfl⟩)
  have e1:=t5 d (Qc _ d1) bh u n1 (n2.trans d2.symm);have e2:=adA u n1 n3 _ mm (by rw[pG];exact hh);rw[e1] at e2;exact cG e2.symm
 have U0:bg F' f=x :: A++twins w:=f2;have UB:bg F' k=w++y :: B:=f3;have NU:∀ {v},v∈a0 :: A'++[z]->v∈a0 :: A'++z :: I.reverse:=fun {v} q=>by
  rcases (YK v).1 q with t | t | t
  ·rw[t];simp
  ·simp[t]
  rw[t];simp
 have Rq:∀ {v},v∈z :: B'++[a0]->v∈a0 :: I++z :: B':=fun {v} q=>by
  rcases (hB1 v).1 q with t | t | t
  ·rw[t];simp
  ·simp[t]
  rw[t];simp
 have We:F'.length=s.aj.length+1:=f4;have Kf:∀ r0∈s.rest,a r0.ah≠k:=fun r0 nw q=>by
  have:=(hE.pos r0 nw).2.1;rw[q] at this;have:((s.aj.length:Int)).toNat<s.aj.length:=this;omega
 refine⟨a',fun r hr=>?_,fun r hr r2 cH bh ng=>?_,fun fc pX=>?_⟩
 ·show 0<=a' r.ah/\(a' r.ah).toNat<F'.length/\∀ v∈r.ends,v∈(bg F' (a' r.ah)).map g.tail
  have hk0:(0:Int)<=k/\k.toNat<F'.length:=by
   have:k=(s.aj.length:Int):=rfl;omega
  rcases ya r hr with ⟨e1,-,-,e2⟩ | ⟨e1,-,-,e2⟩ | ⟨r0,nw,-,e3,-,-,e1,e2,-⟩ | ⟨r0,nw,-,e3,-,-,e1,e2,-⟩ | ⟨r0,nw,-,e3,e4,e1⟩
  ·rw[e1,U0,mh]
   refine⟨OL,by omega,fun v hv=>?_⟩;rcases e2 v hv with ⟨-,q⟩ | q
   ·exact NU q
   simp only[Qv] at q;simp[q]
  ·rw[e1,UB,jS]
   refine⟨hk0.1,hk0.2,fun v hv=>?_⟩;rcases e2 v hv with ⟨-,q⟩ | q
   ·exact Rq q
   simp[q]
  ·rw[e1,U0,mh]
   exact⟨OL,by omega,fun v hv=>NU (e2 v (e3 ▸ hv))⟩
  ·rw[e1,UB,jS]
   exact⟨hk0.1,hk0.2,fun v hv=>Rq (e2 v (e3 ▸ hv))⟩
  obtain⟨n1,n2,n3⟩:=hE.pos r0 nw;rw[e1,f1 _ n1 n2 e4,e3];exact⟨n1,by omega,n3⟩
 ·show ¬ iO ((bg F' (a' r.ah)).map g.tail) r.ends r2.ends
  -- new ones
  have bl:∀ r∈(s.rest.eraseIdx i).map (eW g F' f k)++cr g (eF g s.on w) F' (aY c.ah w) [f,k],mq g b (eF g s.on w) r.ah:=fun r hr=>⟨(h'.lV r hr).qa,(h'.lV r hr).shut,(h'.lV r hr).sub⟩;have dh:∀ r∈(s.rest.eraseIdx i).map (eW g F' f k)++cr g (eF g s.on w) F' (aY c.ah w) [f,k],2*r.ah.headD 0∈b.ag/\2*r.ah.headD 0 / 2∈r.ah:=fun r hr=>by
   have pG:2*r.ah.headD 0 / 2=r.ah.headD 0:=by omega
   exact⟨aw.2 (by rw[pG];exact (h'.lV r hr).sub _ (Jd r hr)),by rw[pG];exact Jd r hr⟩
  have MX:∀ {r:bj},(∀ e∈r.ah,e∈c.ah/\∀ d∈w,d / 2≠e)->∀ d∈x :: A++twins w,d / 2 ∉ r.ah:=fun {r} j2 d hd q=>by
   rcases Qa.1 hd with t | t
   ·exact KJ _ (j2 _ q).1 (Sy d (m1 t))
   have:=(j2 _ q).2 _ (eO.1 t);rw[bA] at this;exact this rfl
  have Es:∀ {r:bj},(∀ e∈r.ah,e∈c.ah/\∀ d∈w,d / 2≠e)->∀ d∈w++y :: B,d / 2 ∉ r.ah:=fun {r} j2 d hd q=>by
   rcases Qa.1 hd with t | t
   ·exact (j2 _ q).2 d t rfl
   exact KJ _ (j2 _ q).1 (Sy d (m2 t))
  have nn1:∀ {r r2:bj},r∈(s.rest.eraseIdx i).map (eW g F' f k)++cr g (eF g s.on w) F' (aY c.ah w) [f,k]->r2∈(s.rest.eraseIdx i).map (eW g F' f k)++cr g (eF g s.on w) F' (aY c.ah w) [f,k]->r.ah≠r2.ah ->
    Fm (2*r.ah.headD 0)=(!Sn)->Fm (2*r2.ah.headD 0)=(!Sn)->(∀ e∈r.ah,e∈c.ah/\∀ d∈w,d / 2≠e)->(∀ e∈r2.ah,e∈c.ah/\∀ d∈w,d / 2≠e)->(∀ v∈r.ends,v∈(x :: A++twins w).map g.tail)->¬ iO ((x :: A++twins w).map g.tail) r.ends r2.ends:=fun {r r2} hr cH bh n1 n2 n3 n4 n5=>by
   have q1:=(h'.lV r hr).ends;have q2:=(h'.lV r2 cH).ends;rw[q1] at n5 ⊢;rw[q2];exact ph hR hl hC1 VT (bl r hr) (bl r2 cH) (DA r hr r2 cH bh) (MX n3) (MX n4) (dh r hr).1 (dh r hr).2 (dh r2 cH).1 (dh r2 cH).2 (n1.trans n2.symm) n5
  have nn2:∀ {r r2:bj},r∈(s.rest.eraseIdx i).map (eW g F' f k)++cr g (eF g s.on w) F' (aY c.ah w) [f,k]->r2∈(s.rest.eraseIdx i).map (eW g F' f k)++cr g (eF g s.on w) F' (aY c.ah w) [f,k]->r.ah≠r2.ah ->
    Nd (2*r.ah.headD 0)=(!TJ)->Nd (2*r2.ah.headD 0)=(!TJ)->(∀ e∈r.ah,e∈c.ah/\∀ d∈w,d / 2≠e)->(∀ e∈r2.ah,e∈c.ah/\∀ d∈w,d / 2≠e)->(∀ v∈r.ends,v∈(w++y :: B).map g.tail)->¬ iO ((w++y :: B).map g.tail) r.ends r2.ends:=fun {r r2} hr cH bh n1 n2 n3 n4 n5=>by
   have q1:=(h'.lV r hr).ends;have q2:=(h'.lV r2 cH).ends;rw[q1] at n5 ⊢;rw[q2];exact ph hR hl UZ W6 (bl r hr) (bl r2 cH) (DA r hr r2 cH bh) (Es n3) (Es n4) (dh r hr).1 (dh r hr).2 (dh r2 cH).1 (dh r2 cH).2 (n1.trans n2.symm) n5
  -- old ones
  have oo:∀ {r0 r3:bj},r0∈s.rest->r3∈s.rest->r0.ah≠r3.ah->a r0.ah=f->a r3.ah=f->¬ iO (a0 :: A'++z :: B') r0.ends r3.ends:=fun {r0 r3} n1 n2 n3 n4 n5 q=>by
   have:=hE.Ri r0 n1 r3 n2 n3 (by rw[n4,n5]);rw[n4,EG] at this;exact this (q.sO KW.symm)
  have pf:∀ {r r3:bj},r3∈s.rest->(∀ e∈r3.ah,e ∉ c.ah)->a r3.ah=f->(∀ v∈r.ends,(v∈c.ends/\v∈a0 :: A'++[z])\/v∈I.reverse)->(∀ v∈r3.ends,v∈a0 :: A'++[z])->((∀ v∈r3.ends,v ∉ A')->∀ v∈c.ends,v ∉ A')->¬ iO (a0 :: A'++z :: I.reverse) r3.ends r.ends:=fun {r r3} n1 n2 n3 n4 n5 n6 =>
   yj nL nL1 n5 Nn Ca n4 n6 (PE r3 n1 n2 n3).2
  have pk:∀ {r r3:bj},r3∈s.rest->(∀ e∈r3.ah,e ∉ c.ah)->a r3.ah=f->(∀ v∈r.ends,(v∈c.ends/\v∈z :: B'++[a0])\/v∈I)->(∀ v∈r3.ends,v∈z :: B'++[a0])->((∀ v∈r3.ends,v ∉ B')->∀ v∈c.ends,v ∉ B')->¬ iO (a0 :: I++z :: B') r3.ends r.ends:=fun {r r3} n1 n2 n3 n4 n5 n6 q =>
   yj nLr ade n5 Ca Nn n4 n6 (fun t=>(PE r3 n1 n2 n3).2 (t.sO YE.symm)) (q.sO Yi)
  have akb:∀ {r:bj},(∀ v∈r.ends,(v∈c.ends/\v∈a0 :: A'++[z])\/v∈I.reverse)->∀ v∈r.ends,v∈(x :: A++twins w).map g.tail:=fun {r} n v hv=>by
   rw[mh];rcases n v hv with ⟨-,q⟩ | q
   ·exact NU q
   simp only[Qv] at q;simp[q]
  have al0:∀ {r:bj},(∀ v∈r.ends,(v∈c.ends/\v∈z :: B'++[a0])\/v∈I)->∀ v∈r.ends,v∈(w++y :: B).map g.tail:=fun {r} n v hv=>by
   rw[jS];rcases n v hv with ⟨-,q⟩ | q
   ·exact Rq q
   simp[q]
  rcases ya r hr with ⟨e1,e5,e6,e2⟩ | ⟨e1,e5,e6,e2⟩ | ⟨r0,nw,e7,e3,e5,e6,e1,e2,e4⟩ | ⟨r0,nw,e7,e3,e5,e6,e1,e2,e4⟩ | ⟨r0,nw,e7,e3,e4,e1⟩
  ·rw[e1,U0]
   rcases ya r2 cH with ⟨s1,s5,s6,s2⟩ | ⟨s1,s5,s6,s2⟩ | ⟨r3,pC,s7,s3,s5,s6,s1,s2,s4⟩ | ⟨r3,pC,s7,s3,s5,s6,s1,s2,s4⟩ | ⟨r3,pC,s7,s3,s4,s1⟩ <;> rw[e1,s1] at ng
   ·exact nn1 hr cH bh e5 s5 e6 s6 (akb e2)
   ·exact absurd ng sW
   ·rw[mh,s3]
    exact fun q=>pf pC s5 s6 e2 s2 s4 q.symm
   ·exact absurd ng sW
   exact absurd ng.symm s4
  ·rw[e1,UB]
   rcases ya r2 cH with ⟨s1,s5,s6,s2⟩ | ⟨s1,s5,s6,s2⟩ | ⟨r3,pC,s7,s3,s5,s6,s1,s2,s4⟩ | ⟨r3,pC,s7,s3,s5,s6,s1,s2,s4⟩ | ⟨r3,pC,s7,s3,s4,s1⟩ <;> rw[e1,s1] at ng
   ·exact absurd ng.symm sW
   ·exact nn2 hr cH bh e5 s5 e6 s6 (al0 e2)
   ·exact absurd ng.symm sW
   ·rw[jS,s3]
    exact fun q=>pk pC s5 s6 e2 s2 s4 q.symm
   exact absurd ng.symm (Kf r3 pC)
  ·rw[e1,U0,mh,e3]
   rcases ya r2 cH with ⟨s1,s5,s6,s2⟩ | ⟨s1,s5,s6,s2⟩ | ⟨r3,pC,s7,s3,s5,s6,s1,s2,s4⟩ | ⟨r3,pC,s7,s3,s5,s6,s1,s2,s4⟩ | ⟨r3,pC,s7,s3,s4,s1⟩ <;> rw[e1,s1] at ng
   ·exact pf nw e5 e6 s2 e2 e4
   ·exact absurd ng sW
   ·rw[s3]
    exact fun q=>oo nw pC (by rw[<-e7,<-s7];exact bh) e6 s6 (A4 nL nL1 e2 s2 q)
   ·exact absurd ng sW
   exact absurd ng.symm s4
  ·rw[e1,UB,jS,e3]
   rcases ya r2 cH with ⟨s1,s5,s6,s2⟩ | ⟨s1,s5,s6,s2⟩ | ⟨r3,pC,s7,s3,s5,s6,s1,s2,s4⟩ | ⟨r3,pC,s7,s3,s5,s6,s1,s2,s4⟩ | ⟨r3,pC,s7,s3,s4,s1⟩ <;> rw[e1,s1] at ng
   ·exact absurd ng.symm sW
   ·exact pk nw e5 e6 s2 e2 e4
   ·exact absurd ng.symm sW
   ·rw[s3]
    exact fun q=>oo nw pC (by rw[<-e7,<-s7];exact bh) e6 s6 ((A4 nLr ade e2 s2 (q.sO Yi)).sO YE.symm)
   exact absurd ng.symm (Kf r3 pC)
  obtain⟨n1,n2,-⟩:=hE.pos r0 nw;rw[e1,f1 _ n1 n2 e4,e3];rcases ya r2 cH with ⟨s1,s5,s6,s2⟩ | ⟨s1,s5,s6,s2⟩ | ⟨r3,pC,s7,s3,s5,s6,s1,s2,s4⟩ | ⟨r3,pC,s7,s3,s5,s6,s1,s2,s4⟩ | ⟨r3,pC,s7,s3,s4,s1⟩ <;> rw[e1,s1] at ng
  ·exact absurd ng e4
  ·exact absurd ng (Kf r0 nw)
  ·exact absurd ng e4
  ·exact absurd ng (Kf r0 nw)
  rw[s3];exact hE.Ri r0 nw r3 pC (by rw[<-e7,<-s7];exact bh) ng
 have pX:fc∈F':=pX;rw[<-Tw] at pX;rcases Qa.1 pX with q | q
 ·rcases List.mem_or_eq_of_mem_set q with t | t
  ·exact hE.en fc t
  rw[t];exact Xz
 rw[QB.1 q];exact Gf
end Go.Proofs.YtbkjljffnkdcjaaGreat.Plain
