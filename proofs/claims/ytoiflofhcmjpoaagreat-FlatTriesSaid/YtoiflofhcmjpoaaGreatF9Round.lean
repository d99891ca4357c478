/- What crosses on a ring of vertices, by places; a ring cut in two. No program here. -/
import Derived.Test.YtoiflofhcmjpoaaGreatF9Col
set_option maxHeartbeats 2000000
open List renaming mem_map→Qa,mem_append→Qc,map_append→Qd,nodup_append→Qf,mem_cons_of_mem→Qg,map_cons→Qh,nodup_cons→Qi,idxOf_lt_length_of_mem→Qj,count_pos_iff→Qk,nodup_iff_count→Qn,mem_append_left→Qo,count→Qp,append_of_mem→Qq,reverse_perm→Qr,map_reverse→Qs,mem_flatMap→Qt,cons_append→Qu,mem_reverse→Qv,mem_cons→Qw,map_map→Qx
open Or renaming inr→Qb,inl→Qe
open Classical renaming byContradiction→Ql
open Bool renaming xor_comm→Qm
namespace Go.Proofs.YtoiflofhcmjpoaaGreat.Plain
variable {P Q w L A B S T C D E:List Int} {x y u v i z:Int} {F rt:List (List Int)} {g:Gr} {b p:Pt}
def yS (L:List Int) (x y u:Int):Prop:=(L.idxOf x<L.idxOf u/\L.idxOf u<L.idxOf y)\/(L.idxOf y<L.idxOf u/\L.idxOf u<L.idxOf x)
def Prt (L:List Int) (x y u v:Int):Prop:=x∈L/\y∈L/\u∈L/\v∈L/\x≠y/\u≠x/\u≠y/\v≠x/\v≠y/\(yS L x y u↔¬ yS L x y v)
theorem pW (h:(P++x :: Q).Nodup):(P++x :: Q).idxOf x=P.length:=by grind
theorem lz {w:Int} (hw:w∈P):(P++Q).idxOf w<P.length:=by
 grind
theorem mO {w:Int} (h:(P++Q).Nodup) (hw:w∈Q):P.length<=(P++Q).idxOf w:=by
 grind
theorem xU (hx:x∈L) (hy:y∈L) (h:L.idxOf x=L.idxOf y):x=y:=by
 have h1:=Qj hx;have h2:=Qj hy;have e1:=List.getElem_idxOf h1
 grind
theorem Hv (hn:L.Nodup) (hr:bj L (x :: A++y :: B)) (hu:u∈A) (hv:v∈B):Prt L x y u v:=by
 have hp:=hr.perm;have kr:=hp.nodup_iff.1 hn;have mem:∀ w,w∈x :: A++y :: B->w∈L:=λw h=>hp.mem_iff.2 h;have hd:=Qf.1 kr;have hdA:=Qi.1 hd.1;have hdB:=Qi.1 hd.2.1;refine⟨mem x (by simp),mem y (by simp),mem u (by simp[hu]),mem v (by simp[hv]),hd.2.2 x (by simp) y (by simp),λq=>hdA.1 (q ▸ hu),hd.2.2 u (Qg _ hu) y (by simp),λq=>hd.2.2 x (by simp) v (Qg _ hv) q.symm,λq=>hdB.1 (q ▸ hv),?_⟩;obtain⟨U,V,h1,h2⟩:=hr;unfold yS;rcases List.append_eq_append_iff.1 h2 with ⟨Z,e1,e2⟩ | ⟨Z,e1,e2⟩
 .-- V=(x :: A)++Z,y :: B=Z++U
  cases Z with
  | nil =>
   grind [pW,lz,xU,mO]
  | cons z Z =>
   have e3:z=y:=by injection e2 with a _;exact a.symm
   have e4:B=Z++U:=by injection e2
   subst e3 e4
   -- L=U++x :: A++z :: Z
   have hL:L=U++x :: (A++z :: Z):=by rw[h1,e1];simp
   have KR:L=(U++x :: A)++z :: Z:=by rw[h1,e1];simp
   have i1:L.idxOf x=U.length:=by rw[hL];exact pW (hL ▸ hn)
   have i2:L.idxOf z=(U++x :: A).length:=by rw[KR];exact pW (KR ▸ hn)
   have i3:L.idxOf u<(U++x :: A).length:=by rw[KR];exact lz (by simp[hu])
   have i4:(U++[x]).length<=L.idxOf u:=by
    have hL3:L=(U++[x])++(A++z :: Z):=by rw[hL];simp
    grind
   all_goals grind [mO,lz]
 -- x :: A=V++Z,U=Z++y :: B
 cases V with
 | nil =>
  grind [pW,lz,xU,mO]
 | cons z V =>
  have e3:x=z:=by injection e1
  have e4:A=V++Z:=by injection e1
  subst e3 e4
  -- L=Z++y :: B++x :: V
  have hL:L=Z++y :: (B++x :: V):=by rw[h1,e2];simp
  have KR:L=(Z++y :: B)++x :: V:=by rw[h1,e2]
  have i1:L.idxOf y=Z.length:=by rw[hL];exact pW (hL ▸ hn)
  have i2:L.idxOf x=(Z++y :: B).length:=by rw[KR];exact pW (KR ▸ hn)
  have i3:L.idxOf v<(Z++y :: B).length:=by rw[KR];exact lz (by simp[hv])
  have i4:(Z++[y]).length<=L.idxOf v:=by
   grind [mO]
  all_goals grind [mO,lz]
theorem ly (hn:L.Nodup) (h:Prt L x y u v) (hx:x∈S) (hy:y∈S) (hu:u∈T) (hv:v∈T):Crs L S T:=by
 obtain⟨mx,my,mu,mv,jj,ux,uy,vx,vy,hb⟩:=h;have key:∀ {x y:Int},x∈S->y∈S->x∈L->y∈L->u≠x->u≠y->v≠x->v≠y->(yS L x y u↔¬ yS L x y v)->L.idxOf x<L.idxOf y->Crs L S T:=by
  intro x y hx hy mx my ux uy vx vy hb aW;obtain⟨P,M,rfl⟩:=Qq mx;have i1:=pW hn;have hyM:y∈M:=by
   all_goals grind
  obtain⟨Q,R,rfl⟩:=Qq hyM;have KR:P++x :: (Q++y :: R)=(P++x :: Q)++y :: R:=by simp
  have i2:(P++x :: (Q++y :: R)).idxOf y=(P++x :: Q).length:=by rw[KR];exact pW (KR ▸ hn)
  have hr:bj (P++x :: (Q++y :: R)) (x :: Q++y :: (R++P)):=⟨P,x :: (Q++y :: R),rfl,by simp⟩;have cls:∀ w∈P++x :: (Q++y :: R),w≠x->w≠y->(w∈Q/\yS (P++x :: (Q++y :: R)) x y w)\/(w∈R++P/\¬ yS (P++x :: (Q++y :: R)) x y w):=by
   intro w hw wx wy;unfold yS;rw[i1,i2];simp only[List.length_append,List.length_cons];rcases Qc.1 hw with q | q
   ·grind
   have q:=(Qw.1 q).resolve_left wx;rcases Qc.1 q with q | q
   ·refine Qe ⟨q,?_⟩
    have j1:(P++x :: (Q++y :: R)).idxOf w<(P++x :: Q).length:=by rw[KR];exact lz (by simp[q])
    have j2:(P++[x]).length<=(P++x :: (Q++y :: R)).idxOf w:=by
     have hL3:P++x :: (Q++y :: R)=(P++[x])++(Q++y :: R):=by simp
     grind
    grind
   all_goals grind
  rcases cls u mu ux uy with ⟨q1,q2⟩ | ⟨q1,q2⟩
  ·rcases cls v mv vx vy with ⟨q3,q4⟩ | ⟨q3,q4⟩
   ·exact absurd q4 (hb.1 q2)
   exact⟨x,hx,y,hy,u,hu,v,hv,Q,R++P,hr,q1,q3⟩
  rcases cls v mv vx vy with ⟨q3,q4⟩ | ⟨q3,q4⟩
  ·exact⟨x,hx,y,hy,v,hv,u,hu,Q,R++P,hr,q3,q1⟩
  all_goals grind
 all_goals grind [xU,yS]
theorem za (hn:L.Nodup) (h:Crs L S T):∃ x∈S,∃ y∈S,∃ u∈T,∃ v∈T,Prt L x y u v:=by
 obtain⟨x,hx,y,hy,u,hu,v,hv,A,B,hr,hA,hB⟩:=h
 grind [Hv]
section
variable {M N T U S S1:List Int} {w u v:Int}
variable {a z : Int} {A B I : List Int}
theorem tP (hw:w∈a :: A++[z]):(a :: A++z :: M).idxOf w=(a :: A++z :: N).idxOf w:=by
 grind
theorem zn (hw:w∈a :: A++[z]):(a :: A++z :: M).idxOf w<=A.length+1:=by
 grind
theorem Hk (hn:(a :: A++z :: M).Nodup) (hw:w∈M):A.length+2<=(a :: A++z :: M).idxOf w:=by
 grind
theorem LZ (hn:(a :: A++z :: M).Nodup) (hw:w∈A):0<(a :: A++z :: M).idxOf w/\(a :: A++z :: M).idxOf w<A.length+1:=by
 all_goals grind
theorem T8 (hn:(a :: A++z :: M).Nodup):(a :: A++z :: M).idxOf a=0/\(a :: A++z :: M).idxOf z=A.length+1:=by grind
theorem BC (hn:(a :: A++z :: B).Nodup) (kr:(a :: A++z :: I).Nodup) (hT:∀ v∈T,v∈a :: A++[z]) (hU:∀ v∈U,v∈a :: A++[z]) (h:jh (a :: A++z :: I) T U):jh (a :: A++z :: B) T U:=by
 rcases h with h | h
 ·obtain⟨x,hx,y,hy,u,hu,v,hv,m1,m2,m3,m4,d1,d2,d3,d4,d5,hb⟩:=za kr h
  have mem:∀ {w},w∈a :: A++[z]->w∈a :: A++z :: B:=λh=>by
   all_goals grind
  refine Qe (ly hn ⟨mem (hT x hx),mem (hT y hy),mem (hU u hu),mem (hU v hv),d1,d2,d3,d4,d5,?_⟩ hx hy hu hv)
  grind [yS,tP]
 exact Qb h
theorem zj (hn:(a :: A++z :: B).Nodup) (kr:(a :: A++z :: I).Nodup) (hT:∀ v∈T,v∈a :: A++[z]) (ha:a∈S) (hz:z∈S) (bH:∀ v∈S1,(v∈S/\v∈a :: A++[z])\/v∈I) (aeC:(∀ v∈T,v ∉ A)->∀ v∈S,v ∉ A)
  (gV:¬ jh (a :: A++z :: B) S T):¬ jh (a :: A++z :: I) T S1:=by
 have mem:∀ {w},w∈a :: A++[z]->w∈a :: A++z :: B:=λh=>by
  all_goals grind
 have avW:∀ {w},w∈a :: A++[z]->w ∉ I:=λ{w} h q=>by
  grind
 obtain⟨ea,ez⟩:=T8 hn;have aau:a∈a :: A++[z]:=by simp
 have aeo:z∈a :: A++[z]:=by simp
 have haz:a≠z:=λq=>by
  grind
 rintro (h | ⟨x,y,w,⟨x1,x2⟩,⟨y1,y2⟩,⟨w1,w2⟩,d⟩)
 ·obtain⟨x,hx,y,hy,u,hu,v,hv,m1,m2,m3,m4,d1,d2,d3,d4,d5,hb⟩:=za kr h
  have px:=hT x hx;have py:=hT y hy;have ix:=tP (M:=B) (N:=I) px;have iy:=tP (M:=B) (N:=I) py;have bx:=zn (M:=B) px;have by':=zn (M:=B) py
  -- one of them on the AJ
  have mixed:∀ {u v:Int},u∈S1->v∈S1->u∈I->(v∈S/\v∈a :: A++[z])->v≠x->v≠y->(yS (a :: A++z :: I) x y u↔¬ yS (a :: A++z :: I) x y v)->False:=by
   intro u v hu hv uI ⟨vS,pv⟩ vx vy hb;have iu:=Hk kr uI;have iv:=tP (M:=B) (N:=I) pv;unfold yS at hb;rw[<-ix,<-iy,<-iv] at hb;have vb:yS (a :: A++z :: B) x y v:=by unfold yS;omega
   have vb':=vb;unfold yS at vb';have nxy:x≠y:=d1;have ai8:∀ {c:Int},c∈S->c∈a :: A++[z]->c≠x->c≠y->¬ yS (a :: A++z :: B) x y c->False:=λ{c} cS pc cx cy hc =>
    gV (jh.symm (Qe (ly hn ⟨mem px,mem py,mem pv,mem pc,nxy,vx,vy,cx,cy,⟨λ_=>hc,λ_=>vb⟩⟩ hx hy vS cS)))
   have neq:∀ {s t:Int},s∈a :: A++[z]->t∈a :: A++[z]->(a :: A++z :: B).idxOf s=(a :: A++z :: B).idxOf t->s=t:=λhs ht q=>xU (mem hs) (mem ht) q;by_cases q0:a=x\/a=y
   ·by_cases q1:z=x\/z=y
    .-- T has both ends
     have hT2:a∈T/\z∈T:=by
      all_goals grind
     have va:v≠a:=λr=>by rcases q0 with q | q;exact vx (r.trans q);exact vy (r.trans q)
     have vz:v≠z:=λr=>by rcases q1 with q | q;exact vx (r.trans q);exact vy (r.trans q)
     have vA:v∈A:=by
      grind
     obtain⟨t,tT,tA⟩:∃ t∈T,t∈A:=Ql λq=>aeC (λt ht hA=>q ⟨t,ht,hA⟩) v vS vA;have pt:=hT t tT;obtain⟨v1,v2⟩:=LZ hn vA;obtain⟨t1,t2⟩:=LZ hn tA;by_cases tv:t=v
     ·exact gV (Qb ⟨a,z,v,⟨ha,hT2.1⟩,⟨hz,hT2.2⟩,⟨vS,tv ▸ tT⟩,haz,Ne.symm vz,Ne.symm va⟩)
     have bn:(a :: A++z :: B).idxOf t≠(a :: A++z :: B).idxOf v:=λq=>tv (neq pt pv q);have ta:t≠a:=λr=>by rw[r,ea] at t1;omega
     have tz:t≠z:=λr=>by rw[r,ez] at t2;omega
     by_cases aW:(a :: A++z :: B).idxOf t<(a :: A++z :: B).idxOf v
     ·refine gV (Qe (ly hn (x:=a) (y:=v) (u:=t) (v:=z) ⟨mem aau,mem pv,mem pt,mem aeo,Ne.symm va,ta,tv,Ne.symm haz,Ne.symm vz,?_⟩ ha vS tT hT2.2))
      grind [yS]
     refine gV (Qe (ly hn (x:=v) (y:=z) (u:=t) (v:=a) ⟨mem pv,mem aeo,mem pt,mem aau,vz,tv,tz,Ne.symm va,haz,?_⟩ vS hz tT hT2.1))
     grind [yS]
    all_goals grind [yS]
   refine ai8 ha aau (λr=>q0 (Qe r)) (λr=>q0 (Qb r)) ?_;unfold yS
   grind
  rcases bH u hu with ⟨uS,pu⟩ | uI
  ·rcases bH v hv with ⟨vS,pv⟩ | vI
   ·refine gV (jh.symm (Qe (ly hn ⟨mem px,mem py,mem pu,mem pv,d1,d2,d3,d4,d5,?_⟩ hx hy uS vS)))
    grind [yS,tP]
   all_goals grind
  all_goals grind [Hk,yS]
 have out:∀ {v:Int},v∈T->v∈S1->v∈S:=λ{v} h1 h2=>by
  all_goals grind
 exact gV (Qb ⟨x,y,w,⟨out x1 x2,x1⟩,⟨out y1 y2,y1⟩,⟨out w1 w2,w1⟩,d⟩)
theorem Ho (ha:a∈S) (hz:z∈S) (gV:¬ jh (a :: A++z :: B) S T) (hu:u∈T) (hv:v∈T) (huA:u∈A) (hvB:v∈B):False :=
 gV (Qe ⟨a,ha,z,hz,u,hu,v,hv,A,B,bj.refl _,huA,hvB⟩)
end
structure Emb (g:Gr) (s:Sk) (a:List Int->Int):Prop where
 pos:∀ c∈s.rest,0<=a c.ag/\(a c.ag).toNat<s.ak.length/\∀ v∈c.ends,v∈(bp s.ak (a c.ag)).map g.tail
 Sa:∀ c∈s.rest,∀ d∈s.rest,c.ag≠d.ag->a c.ag=a d.ag->¬ jh ((bp s.ak (a c.ag)).map g.tail) c.ends d.ends
 en:∀ f∈s.ak,(f.map (· / 2)).Nodup
theorem Cc (w:List Int):iF (twins w)=iF w:=by
 funext e
 unfold iF twins;rw[E0 (Qr _)]
 induction w with
 | nil=>rfl
 | cons d w ih=>simp only[Qh,par,bJ];rw[ih]
theorem qG:((twins w).map (· / 2)).Perm (w.map (· / 2)):=by
 unfold twins;rw[Qs];refine (Qr _).trans ?_;rw[Qx];refine List.Perm.of_eq (List.map_congr_left λd _=>?_);exact bJ d
theorem gH (h:i.toNat<F.length):bp F i∈F:=by
 grind [bp]
theorem Gt (f:Int->Int) :bj C D->bj (C.map f) (D.map f):=λ⟨U,V,h1,h2⟩=>⟨U.map f,V.map f,by rw[h1,Qd],by rw[h2,Qd]⟩
theorem P3.chain {aa:List (List Int)} {on:Int->Bool} {a:Int} (hp:aD g b) (ht:aK g b aa) (h:P3 g on ⟨b.v,E⟩ w a z) (hE:∀ e∈E,e∈b.e) (YX:on a=true) :
  xH g b aa on E (iF w) a z/\xH g b aa on E (iF w) z a:=by
 have hwE:∀ d∈w,d / 2∈E:=λd hd=>au.1 (h.sub d hd);have Zr:∀ d∈w,d∈b.ah:=λd hd=>au.2 (hE _ (hwE d hd));have Zc:w.Nodup:=dB h.dq;have X5:∀ e,iF w e=true->e∈E:=λe he=>Ql λq=>by
  grind [DF]
 obtain⟨c0,l,hw⟩:∃ c0 l,w=c0 :: l:=by
  cases hw:w with
  | nil=>have:=h.link;rw[hw] at this;exact absurd this h.ne
  | cons c l=>exact⟨c,l,rfl⟩
 have fs:g.tail c0=a:=by have:=h.link;rw[hw] at this;exact this.1
 have Hq:∀ d∈w,d=c0\/on (g.tail d)=false:=λd hd=>by
  rw[hw] at hd;rcases Qw.1 hd with r | r
  ·exact Qe r
  exact Qb (h.inn d (by rw[hw];exact r))
 have hhd:∀ d∈w,g.head d=z\/on (g.head d)=false:=λd hd=>by
  have h1:=h.link;rw[hw] at h1;have h2:=eh h1;have h3:g.head d∈(c0 :: l).map g.head:=by rw[<-hw];exact Qa.2 ⟨d,hd,rfl⟩
  all_goals grind
 have YY:∀ v,on v=true->v≠a->v≠z->∀ u∈b.ah,g.tail u=v->iF w (u / 2)=false:=λv hv hva hvz u hu jT=>by
  all_goals grind [fU,aH,az,bg]
 obtain⟨m,t,hm,hmz⟩:=mW h.link h.ne;have xq:t∈w:=by rw[hm];simp
 refine⟨⟨X5,λv hv=>gD hp ht hv h.link Zr,⟨c0,Zr c0 (by grind),fs,hwE c0 (by grind),λu hu jT=>?_⟩,YY⟩,⟨X5,λv hv=>by rw[gD hp ht hv h.link Zr,Qm],⟨aH t,bD (Zr t xq),by rw[az,hmz],by grind [bJ],λu hu jT=>?_⟩,λv h1 h2 h3=>YY v h1 h3 h2⟩⟩
 ·rw[fU Zc]
  have e2:aH u ∉ w:=λq=>h.na (Qa.2 ⟨_,q,by grind [az,bg]⟩)
  all_goals grind
 rw[fU Zc];have e1:u ∉ w:=λq=>by
  rcases Hq u q with r | r
  ·rw[r,fs] at jT;exact h.ne jT
  rw[jT,h.oz] at r;cases r
 have e2:aH u∈w↔u=aH t:=⟨λq=>by
  have:=dT h.dq _ q _ xq (by rw[<-az,bg,jT,hmz]);rw[<-this,bg],λq=>by rw[q,bg];exact xq⟩
 grind
open Classical in
theorem Vs {s:Sk} {aa:List (List Int)} {i:Nat} {a:List Int->Int} (hR:ia g b rt) (hl:∀ e∈b.e,(g.at e).1≠(g.at e).2) (hS:cg g b) (h:tV g b s p aa) (hi:i<s.rest.length)
  (hf:(s.rest.getD i ⟨[],[],[]⟩).ak≠[]) (hE:Emb g s a) (vi:a (s.rest.getD i ⟨[],[],[]⟩).ag=(s.rest.getD i ⟨[],[],[]⟩).ak.getD 0 0) :
  ∃ p' gA a',tV g b (s.put g b.v i) p' gA/\(s.put g b.v i).left<s.left/\Emb g (s.put g b.v i) a':=by
 have nr:=hR.pe;obtain⟨p',gA,h',aW⟩:=Uq nr hS h hi hf;refine⟨p',gA,?_⟩
 suffices hs:∃ a',Emb g (s.put g b.v i) a' by
  grind
 clear aW;have jQ:=Pt.ax nr;have fR:=Pt.ax h.ak.pe;have MO:=Pt.ax h'.ak.pe;have ht:=hR.iX;obtain⟨hsp,Sg⟩:=kR hi (⟨[],[],[]⟩:bh);unfold Sk.put at h' ⊢;dsimp only at h' ⊢;generalize fs:s.rest.getD i ⟨[],[],[]⟩=c at *;generalize Ep:s.rest.take i=R1 at *;generalize hR2:s.rest.drop (i+1)=R2 at *;have kB:c∈s.rest:=by rw[hsp];simp
 have hc:=h.mL c kB;have jl:=h.part;have alK:s.rest.flatMap (·.ag)=R1.flatMap (·.ag)++(c.ag++R2.flatMap (·.ag)):=by
  grind
 rw[alK] at jl;have gp:=(jl.nodup_iff).2 jQ.en;have ot:∀ x,Qp x p.e+(Qp x (R1.flatMap (·.ag))+(Qp x c.ag+Qp x (R2.flatMap (·.ag))))<=1:=λx=>by
  have:=Qn.1 gp x
  grind
 have TY:∀ e∈c.ag,e ∉ p.e:=λe h1 h2=>by
  grind
 have hcR:∀ e∈c.ag,∀ r,r∈R1\/r∈R2->e ∉ r.ag:=λe h1 r hr h2=>by
  have:=ot e;have:=Qk.2 h1;rcases hr with hr | hr
  ·have:=Qk.2 (show e∈R1.flatMap (·.ag) from Qt.2 ⟨r,hr,h2⟩)
   omega
  have:=Qk.2 (show e∈R2.flatMap (·.ag) from Qt.2 ⟨r,hr,h2⟩);omega
 have tO:∀ e∈p.e,e∈b.e:=λe he=>jl.mem_iff.1 (Qo _ he);have qw:c.ag.Nodup:=Qn.2 λx=>by have:=ot x;omega
 have Wm:aD g ⟨b.v,c.ag⟩:=⟨jQ.vn,qw,jQ.vr,λe he=>jQ.er e (hc.sub e he),λe he=>jQ.ends e (hc.sub e he)⟩;obtain⟨a0,z0,m,jc⟩:∃ a z0 m,c.ends=a :: z0 :: m:=by
  have:=hc.two
  match hL:c.ends with
  | []=>rw[hL] at this;simp at this
  | [_]=>rw[hL] at this;simp at this
  | a :: z0 :: m=>exact⟨a,z0,m,rfl⟩
 have lJ:(a0 :: z0 :: m).Nodup:=by rw[<-jc,hc.ends];exact gR g s.on c.ag
 have Pn:a0∈c.ends:=by rw[jc];simp
 have PM:z0∈c.ends:=by rw[jc];simp
 have UP:=Pn;have kA:=PM;rw[hc.ends] at UP kA;obtain⟨YX,e0,lZ,AM⟩:=bB.1 UP;obtain⟨Ur,e1,AO,Dx⟩:=bB.1 kA;have KS:z0≠a0:=λq=>by rw[q] at lJ;simp at lJ
 have rH:∀ d∈(⟨b.v,c.ag⟩:Pt).ah,0<=d:=λd hd=>by have:=jQ.er _ (hc.sub _ (au.1 hd));omega
 obtain⟨z,qu⟩:=Ar (g:=g) (on:=s.on) Wm rH hc.sT lZ AM AO Dx Ur KS;have XX:c.ends.getD 0 0=a0:=by rw[jc];rfl
 rw[XX] at h' ⊢;generalize hw0:mU g s.on ⟨b.v,c.ag⟩ a0=w at *;have Ix:=qu.AJ h.on YX TY;obtain⟨c0,l,TR⟩:=Ix.cons;have Du:w≠[]:=by rw[TR];simp
 have Uy:g.head (w.getLastD 0)=z:=by
  obtain⟨m,t,hm,hmz⟩:=mW qu.link qu.ne
  grind
 rw[Uy] at h' ⊢;have Ih:∀ d∈w,d / 2∈c.ag:=λd hd=>au.1 (qu.sub d hd);have DA:z∈c.ends:=by
  obtain⟨m,t,hm,hmz⟩:=mW qu.link qu.ne;rw[hc.ends];have h2:=eM g t;rw[hmz] at h2;exact bB.2 ⟨qu.oz,t / 2,Ih t (by grind),h2.2⟩
 obtain⟨f,fl,uB⟩:∃ f fl,c.ak=f :: fl:=by
  cases hL:c.ak with
  | nil=>exact absurd hL hf
  | cons f fl=>exact⟨f,fl,rfl⟩
 have Xo:c.ak.getD 0 0=f:=by rw[uB];rfl
 rw[Xo] at h' vi ⊢;obtain⟨Ry,yg,VN⟩:=(hc.PJ f).1 (by grind);have Ye:bp s.ak f∈s.ak:=gH yg;generalize FM:bp s.ak f=old at *;obtain⟨x,y,A,B,U,V,c1,c2,c3,c4,c5⟩:=rh (g:=g) (old:=old) (w:=w) (df.1 (VN a0 Pn)) (df.1 (VN z DA)) qu.ne;rw[c5] at h' ⊢;obtain⟨f1,f2,f3,f4⟩:=Gn (F:=s.ak) Ry yg (x :: A++twins w) (w++y :: B);generalize Xq:s.ak.set f.toNat (x :: A++twins w)++[w++y :: B]=F' at *;have SA:bj old (x :: A++y :: B):=⟨U,V,c1,c2.symm⟩;have DQ:∀ v,eX g s.on w v=true↔s.on v=true\/v∈w.map g.tail:=λv=>Hj;have atz:∀ v,eX g s.on w v=false->s.on v=false:=λv hv=>Bool.eq_false_iff.2 λr=>by rw[(DQ v).2 (Qe r)] at hv;cases hv
 -- the old Ci
 have vQ:=h.ak.bp Ye SA;have Xf:ki g b s.on (x :: A++y :: B):=by
  refine⟨⟨a0,fz.append.2 ⟨z,?_,?_⟩⟩,vQ.tn,((SA.perm.map _).nodup_iff).1 (hE.en _ Ye),λd hd=>au.2 (tO _ (au.1 (vQ.dr d hd))),λd hd=>(h.on _).2 (fR.aP (vQ.dr d hd)).1⟩
  ·have:=vQ.link fR h.ak.iX;rw[c3,c4] at this;exact this
  have:=vQ.symm.link fR h.ak.iX;rw[c3,c4] at this;exact this
 have Jz:=Xf.RG rfl;rw[c3,c4] at Jz;have BO:oq g b s.on c.ag:=⟨hc.sT,hc.shut,hc.sub⟩;have RX:∀ d∈x :: A++y :: B,d / 2 ∉ c.ag:=λd hd q=>TY _ q (au.1 (vQ.dr d hd));obtain⟨ch1,ch2⟩:=qu.chain jQ ht hc.sub YX;have Zr:∀ d∈w,d∈b.ah:=λd hd=>au.2 (hc.sub _ (Ih d hd));obtain⟨Im,acA⟩:=hR.V0 (c:=λe=>iF (x :: A) e ^^ iF w e) λv hv=>by
  rw[kJ,gD jQ ht hv Jz.l1 (λd hd=>Jz.dr d (m1 hd)),gD jQ ht hv qu.link Zr];simp
 obtain⟨Px,SQ⟩:=hR.V0 (c:=λe=>iF (y :: B) e ^^ iF w e) λv hv=>by
  rw[kJ,gD jQ ht hv Jz.l2 (λd hd=>Jz.dr d (m2 hd)),gD jQ ht hv qu.link Zr,Qm (decide (z=v))];simp
 have mM:mF g b rt (iF (x :: A++y :: B)) (λd=>Im d ^^ Px d):=(acA.xor SQ).congr λe _=>by
  rw[ir];cases iF (x :: A) e <;> cases iF (y :: B) e <;> cases iF w e <;> rfl
 have aoa:mF g b rt (iF (y :: B++x :: A)) (λd=>Im d ^^ Px d):=mM.congr λe _=>by rw[ir,ir,Qm]
 obtain⟨κ,k1,U2,t1,t2,t3,⟨q,q1,q2,q3⟩,t5,-⟩:=Jz.qd jQ ht mM ch1 acA RX;obtain⟨-,k2,XB,-,-,u3,-,u5,-⟩:=Jz.symm.qd jQ ht aoa ch2 SQ (λd hd=>RX d (List.perm_append_comm.mem_iff.1 hd));have ags:=BO.Ci jQ ht Xf RX mM;have aeu:∀ d∈b.ah,d / 2∈c.ag->Im d=U2->Px d=!XB:=λd hd Lo e1=>by
  have k3:(Im q ^^ Px q)=(Im d ^^ Px d):=ags q q1 q2 d hd Lo;have k4:(Im x ^^ Px x)=κ:=t1 x (by simp);have k5:Im x=k1:=t2 x (by simp);have k6:Px x=XB:=u3 x (by simp);rw[k3,<-k4,k5,k6,e1] at q3
  revert q3
  cases U2 <;> cases XB <;> cases k1 <;> cases Px d <;> simp
 -- the new ak
 have ana:x :: A++twins w∈F':=by rw[<-f2];exact gH (by omega)
 have apg:w++y :: B∈F':=by rw[<-f3];exact gH (by grind)
 obtain⟨t0,W,xq⟩:∃ t0 W,twins w=t0 :: W:=by
  cases hq:twins w with
  | nil=>have:=congrArg List.length hq;unfold twins at this;simp at this;exact absurd this Du
  | cons t0 W=>exact⟨t0,W,rfl⟩
 have zJ:jM g p' gA x A t0 W:=h'.ak.bp ana (by grind [bj.refl]);have Ao:jM g p' gA c0 l y B:=h'.ak.bp apg (by grind [bj.refl]);have agW:∀ e∈p'.e,e∈b.e:=λe he=>h'.part.mem_iff.1 (Qo _ he);have Zj:∀ d∈w,d / 2 ∉ p.e:=λd hd=>TY _ (Ih d hd);have hAp:∀ d∈x :: A++y :: B,d / 2∈p.e:=λd hd=>au.1 (vQ.dr d hd);have abn:((x :: A++twins w).map (· / 2)).Nodup:=by
  rw[Qd,Qf];have hh:=Xf.en;rw[Qd,Qf] at hh;refine⟨hh.1,(qG.nodup_iff).2 Ix.en,λu hu v hv e=>?_⟩;obtain⟨d,hd,rfl⟩:=Qa.1 hu;obtain⟨d',OP,e'⟩:=Qa.1 (qG.mem_iff.1 hv);exact Zj d' OP (by grind)
 have Je:((w++y :: B).map (· / 2)).Nodup:=by
  rw[Qd,Qf];have hh:=Xf.en;rw[Qd,Qf] at hh;refine⟨Ix.en,hh.2.1,λu hu v hv e=>?_⟩;obtain⟨d,hd,rfl⟩:=Qa.1 hu;obtain⟨d',OP,rfl⟩:=Qa.1 hv;exact Zj d hd (by grind)
 have hC1:ki g b (eX g s.on w) (x :: A++twins w):=by
  rw[xq] at abn ⊢;exact⟨⟨_,fz.append.2 ⟨_,zJ.link MO h'.ak.iX,zJ.symm.link MO h'.ak.iX⟩⟩,zJ.tn,abn,λd hd=>au.2 (agW _ (au.1 (zJ.dr d hd))),λd hd=>(h'.on _).2 (MO.aP (zJ.dr d hd)).1⟩
 have WB:ki g b (eX g s.on w) (w++y :: B):=by
  rw[TR] at Je ⊢;exact⟨⟨_,fz.append.2 ⟨_,Ao.link MO h'.ak.iX,Ao.symm.link MO h'.ak.iX⟩⟩,Ao.tn,Je,λd hd=>au.2 (agW _ (au.1 (Ao.dr d hd))),λd hd=>by
   have:=(h'.on _).2 (MO.aP (Ao.dr d hd)).1
   grind⟩
 have YH:mF g b rt (iF (x :: A++twins w)) Im:=acA.congr λe _=>by rw[ir,Cc]
 have Yt:mF g b rt (iF (w++y :: B)) Px:=SQ.congr λe _=>by rw[ir,Qm]
 -- their vertices
 have hmA:(x :: A++y :: B).map g.tail=a0 :: A.map g.tail++z :: B.map g.tail:=by rw[Qd,Qh,Qh,c3,c4]
 have hwt:w.map g.tail=a0 :: l.map g.tail:=by
  have:=qu.link;rw[TR] at this ⊢;rw[Qh,this.1]
 have aoZ:(twins w).map g.tail=z :: (l.map g.tail).reverse:=by
  have h1:=qu.link;rw[TR] at h1;have h2:=eh h1;unfold twins;rw[Qs,Qx,TR];have:(g.tail ∘ aH)=g.head:=by funext d;exact az g d
  grind
 have rX:(x :: A++twins w).map g.tail=a0 :: A.map g.tail++z :: (l.map g.tail).reverse:=by rw[Qd,aoZ,Qh,c3]
 have mD:(w++y :: B).map g.tail=a0 :: l.map g.tail++z :: B.map g.tail:=by rw[Qd,hwt,Qh,c4]
 have Nx:bj (old.map g.tail) (a0 :: A.map g.tail++z :: B.map g.tail):=by rw[<-hmA];exact Gt g.tail SA
 have Z9:bj (a0 :: A.map g.tail++z :: B.map g.tail) (z :: B.map g.tail++a0 :: A.map g.tail):=⟨_,_,rfl,rfl⟩;have abz:bj (a0 :: l.map g.tail++z :: B.map g.tail) (z :: B.map g.tail++a0 :: l.map g.tail):=⟨_,_,rfl,rfl⟩;have nL:(a0 :: A.map g.tail++z :: B.map g.tail).Nodup:=by rw[<-hmA];exact vQ.tn
 have nL1:(a0 :: A.map g.tail++z :: (l.map g.tail).reverse).Nodup:=by rw[<-rX];exact hC1.tn
 have nL2:(a0 :: l.map g.tail++z :: B.map g.tail).Nodup:=by rw[<-mD];exact WB.tn
 have nLr:=(Z9.perm.nodup_iff).1 nL;have ai6:=(abz.perm.nodup_iff).1 nL2;have abk:∀ v∈l.map g.tail,s.on v=false:=λv hv=>by
  obtain⟨d,hd,rfl⟩:=Qa.1 hv;exact qu.inn d (by grind)
 generalize hA':A.map g.tail=A' at *;generalize hB':B.map g.tail=B' at *;generalize hI:l.map g.tail=I at *;have hcL:∀ v∈c.ends,v∈a0 :: A'++z :: B':=λv hv=>by
  obtain⟨d,hd,e⟩:=df.1 (VN v hv);exact Nx.perm.mem_iff.1 (Qa.2 ⟨d,hd,e⟩)
 -- the rule
 let k:Int:=s.ak.length
 have xw:f≠k:=λq=>by have:f=(s.ak.length:Int):=q;omega
 let a':List Int->Int:=λE =>
  if ∃ e∈E,e∈c.ag then (if Im (2*E.headD 0)=U2 then k else f)
  else if a E=f then (if ∃ v∈bC g s.on E,v∈B' then k else if ∃ v∈bC g s.on E,v∈A' then f else if ∃ v∈c.ends,v∈A' then k else f)
  else a E
 -- what is new
 have xp:∀ r∈cw g (eX g s.on w) F' (a8 c.ag w) [f,k],(∀ e∈r.ag,e∈c.ag/\∀ d∈w,d / 2≠e):=λr hr e he=>by
  obtain⟨gl,EX,rfl⟩:=Qa.1 hr;have qU:=gP g (eX g s.on w) (a8 c.ag w);have:=(lk qU.ok EX).2.1 e he;rw[qU.all,jU (show (a8 c.ag w).Nodup from qw.filter _)] at this
  grind [cU]
 have abZ:∀ r∈(s.rest.eraseIdx i).map (fH g F' f k)++cw g (eX g s.on w) F' (a8 c.ag w) [f,k],
   (∃ r0∈s.rest,r.ag=r0.ag/\r.ends=r0.ends/\∀ e∈r0.ag,e ∉ c.ag)\/(y6 g b (eX g s.on w) F' r/\∀ e∈r.ag,e∈c.ag/\∀ d∈w,d / 2≠e):=λr hr=>by
  rcases Qc.1 hr with q | q
  ·obtain⟨r0,oR,rfl⟩:=Qa.1 q
   rw[Sg] at oR;have hrR:r0∈R1\/r0∈R2:=Qc.1 oR;refine Qe ⟨r0,by grind,(lO g F' f k r0).1,(lO g F' f k r0).2,λe he q=>hcR e q r0 hrR he⟩
  exact Qb ⟨h'.mL r hr,xp r q⟩
 have nJ:=(h'.part.nodup_iff).2 jQ.en;have nJ:=(Qf.1 nJ).2.1;have FE:∀ r∈(s.rest.eraseIdx i).map (fH g F' f k)++cw g (eX g s.on w) F' (a8 c.ag w) [f,k],∀ r2∈(s.rest.eraseIdx i).map (fH g F' f k)++cw g (eX g s.on w) F' (a8 c.ag w) [f,k],r.ag≠r2.ag->∀ e∈r.ag,e ∉ r2.ag:=λr hr r2 cD bn e he q =>
  bn (eD nJ (Qa.2 ⟨r,hr,rfl⟩) (Qa.2 ⟨r2,cD,rfl⟩) he q)
 have LS:∀ r∈(s.rest.eraseIdx i).map (fH g F' f k)++cw g (eX g s.on w) F' (a8 c.ag w) [f,k],r.ag.headD 0∈r.ag:=λr hr=>by
  have hk:=h'.mL r hr;have h2:=hk.two;obtain⟨v,hv⟩:=List.exists_mem_of_length_pos (l:=r.ends) (by omega);rw[hk.ends] at hv;obtain⟨-,e,he,-⟩:=bB.1 hv;cases hq:r.ag with
  | nil=>rw[hq] at he;simp at he
  | cons e l=>simp
 have hA1:∀ v,v∈a0 :: A'++[z]↔v=a0\/v∈A'\/v=z:=λv=>by simp
 have hB1:∀ v,v∈z :: B'++[a0]↔v=z\/v∈B'\/v=a0:=λv=>by simp
 have hL4:∀ v,v∈a0 :: A'++z :: B'↔v=a0\/v∈A'\/v=z\/v∈B':=λv=>by simp
 have SE:∀ r0∈s.rest,(∀ e∈r0.ag,e ∉ c.ag)->a r0.ag=f->(∀ v∈r0.ends,v∈a0 :: A'++z :: B')/\¬ jh (a0 :: A'++z :: B') c.ends r0.ends:=λr0 oR hd ha=>by
  obtain⟨-,-,j3⟩:=hE.pos r0 oR;rw[ha,FM] at j3;refine⟨λv hv=>Nx.perm.mem_iff.1 (j3 v hv),λq=>?_⟩;have bn:c.ag≠r0.ag:=λq=>hd e0 (q ▸ lZ) lZ;have:=hE.Sa c kB r0 oR bn (by grind);rw[vi,FM] at this;exact this (q.vh Nx.symm)
 -- each scrap and its place
 have Ag:∀ r∈(s.rest.eraseIdx i).map (fH g F' f k)++cw g (eX g s.on w) F' (a8 c.ag w) [f,k],
   (a' r.ag=f/\Im (2*r.ag.headD 0)=(!U2)/\(∀ e∈r.ag,e∈c.ag/\∀ d∈w,d / 2≠e)/\∀ v∈r.ends,(v∈c.ends/\v∈a0 :: A'++[z])\/v∈I.reverse) \/
   (a' r.ag=k/\Px (2*r.ag.headD 0)=(!XB)/\(∀ e∈r.ag,e∈c.ag/\∀ d∈w,d / 2≠e)/\∀ v∈r.ends,(v∈c.ends/\v∈z :: B'++[a0])\/v∈I) \/
   (∃ r0∈s.rest,r.ag=r0.ag/\r.ends=r0.ends/\(∀ e∈r0.ag,e ∉ c.ag)/\a r0.ag=f/\a' r.ag=f/\(∀ v∈r0.ends,v∈a0 :: A'++[z])/\((∀ v∈r0.ends,v ∉ A')->∀ v∈c.ends,v ∉ A')) \/
   (∃ r0∈s.rest,r.ag=r0.ag/\r.ends=r0.ends/\(∀ e∈r0.ag,e ∉ c.ag)/\a r0.ag=f/\a' r.ag=k/\(∀ v∈r0.ends,v∈z :: B'++[a0])/\((∀ v∈r0.ends,v ∉ B')->∀ v∈c.ends,v ∉ B')) \/
   ∃ r0∈s.rest,r.ag=r0.ag/\r.ends=r0.ends/\a r0.ag≠f/\a' r.ag=a r0.ag:=by
  intro r hr;have hh:=LS r hr;rcases abZ r hr with ⟨r0,oR,j1,j2,j3⟩ | ⟨j1,j2⟩
  ·have gV:¬ ∃ e∈r.ag,e∈c.ag:=λ⟨e,he,q⟩=>j3 e (j1 ▸ he) q
   have he':bC g s.on r.ag=r0.ends:=by rw[j1,(h.mL r0 oR).ends]
   by_cases Ni:a r0.ag=f
   ·obtain⟨i1,i2⟩:=SE r0 oR j3 Ni
    have ea:a' r.ag=if ∃ v∈r0.ends,v∈B' then k else if ∃ v∈r0.ends,v∈A' then f else if ∃ v∈c.ends,v∈A' then k else f:=by
     show (if _ then _ else if _ then _ else _)=_;rw[if_neg gV,if_pos (by grind),he']
    by_cases p1:∃ v∈r0.ends,v∈B'
    ·refine Qb (Qb (Qb (Qe ⟨r0,oR,j1,j2,j3,Ni,by grind,λv hv=>?_,λq=>?_⟩)))
     ·rw[hB1]
      rcases (hL4 v).1 (i1 v hv) with q | q | q | q
      ·exact Qb (Qb q)
      ·obtain⟨u,hu,huB⟩:=p1
       exact (Ho Pn DA i2 hv hu q huB).elim
      ·exact Qe q
      exact Qb (Qe q)
     obtain⟨u,hu,huB⟩:=p1
     grind
    have noB:∀ v∈r0.ends,v∈a0 :: A'++[z]:=λv hv=>by
     all_goals grind
    by_cases p2:∃ v∈r0.ends,v∈A'
    ·refine Qb (Qb (Qe ⟨r0,oR,j1,j2,j3,Ni,by rw[ea,if_neg p1,if_pos p2],noB,λq=>?_⟩))
     obtain⟨u,hu,huA⟩:=p2
     grind
    by_cases p3:∃ v∈c.ends,v∈A'
    ·have two:∀ v∈r0.ends,v=a0\/v=z:=λv hv=>by
      all_goals grind
     refine Qb (Qb (Qb (Qe ⟨r0,oR,j1,j2,j3,Ni,by rw[ea,if_neg p1,if_neg p2,if_pos p3],λv hv=>?_,λ_ v hv hvB=>?_⟩)))
     ·all_goals grind
     have ah9:=h.mL r0 oR;have abi:r0.ends.Nodup:=by rw[ah9.ends];exact gR g s.on r0.ag
     have YA:a0∈r0.ends/\z∈r0.ends:=by
      have h2:=ah9.two
      match hL:r0.ends with
      | []=>rw[hL] at h2;simp at h2
      | [_]=>rw[hL] at h2;simp at h2
      | u1 :: u2 :: l2 =>
       rw[hL] at abi two;have aqO:u1≠u2:=λq=>by rw[q] at abi;simp at abi
       rcases two u1 (by simp) with q | q <;> rcases two u2 (by simp) with r | r
       all_goals grind
     obtain⟨u,hu,huA⟩:=p3;exact Ho YA.1 YA.2 (λq=>i2 q.symm) hu hv huA hvB
    exact Qb (Qb (Qe ⟨r0,oR,j1,j2,j3,Ni,by rw[ea,if_neg p1,if_neg p2,if_neg p3],noB,λ_ v hv q=>p3 ⟨v,hv,q⟩⟩))
   refine Qb (Qb (Qb (Qb ⟨r0,oR,j1,j2,Ni,?_⟩)));show (if _ then _ else if _ then _ else _)=_;rw[if_neg gV,if_neg (by grind),j1]
  have sx:∃ e∈r.ag,e∈c.ag:=⟨_,hh,(j2 _ hh).1⟩;have ea:a' r.ag=if Im (2*r.ag.headD 0)=U2 then k else f:=by
   grind
  have hbr:oq g b (eX g s.on w) r.ag:=⟨j1.sT,j1.shut,j1.sub⟩;have Pb:∀ d∈x :: A++twins w,d / 2 ∉ r.ag:=λd hd q=>by
   rcases Qc.1 hd with t | t
   ·exact TY _ (j2 _ q).1 (hAp d (m1 t))
   have:=(j2 _ q).2 _ (ff.1 t)
   grind [bJ]
  have FU:∀ d∈w++y :: B,d / 2 ∉ r.ag:=λd hd q=>by
   rcases Qc.1 hd with t | t
   all_goals grind
  have aeZ:=hbr.Ci jQ ht hC1 Pb YH;have ahl:=hbr.Ci jQ ht WB FU Yt;have oF:2*r.ag.headD 0 / 2=r.ag.headD 0:=by omega
  have lU:2*r.ag.headD 0∈b.ah:=au.2 (by rw[oF];exact j1.sub _ hh);have qQ:∀ v∈r.ends,(v∈I)\/(v∈c.ends/\∃ u∈b.ah,g.tail u=v/\u / 2∈r.ag):=λv hv=>by
   rw[j1.ends] at hv;obtain⟨ov,e,he,qB⟩:=bB.1 hv;by_cases os:s.on v=true
   ·refine Qb ⟨by rw[hc.ends];exact bB.2 ⟨os,e,(j2 e he).1,qB⟩,?_⟩
    obtain⟨u,n1,n2,rfl⟩:=jK (j1.sub e he) qB
    grind
   all_goals grind
  by_cases dD:Im (2*r.ag.headD 0)=U2
  ·have bI:=aeu _ lU (by grind) dD
   refine Qb (Qe ⟨by grind,bI,j2,λv hv=>?_⟩);rcases qQ v hv with q | ⟨q,u,n1,n2,n3⟩
   ·exact Qb q
   refine Qe ⟨q,?_⟩;rw[hB1];rcases (hL4 v).1 (hcL v q) with t | t | t | t
   ·exact Qb (Qb t)
   ·exfalso
    rw[<-hA'] at t;obtain⟨d,d1,d2⟩:=Qa.1 t;have bn:g.tail d≠a0:=λq=>by
     have:=nL;simp only[Qu,Qi] at this;exact this.1 (by rw[<-q,<-hA'];simp;exact Qe ⟨d,d1,rfl⟩)
    have e1:=u5 d (Qg _ d1) bn u n1 (n2.trans d2.symm);have e2:=ahl u n1 n3 _ lU (by rw[oF];exact hh);rw[e1,bI] at e2;cases XB <;> cases e2
   ·exact Qe t
   exact Qb (Qe t)
  have ano:Im (2*r.ag.headD 0)=(!U2):=by
   revert dD
   cases Im (2*r.ag.headD 0) <;> cases U2 <;> simp
  refine Qe ⟨by grind,ano,j2,λv hv=>?_⟩;rcases qQ v hv with q | ⟨q,u,n1,n2,n3⟩
  ·grind
  refine Qe ⟨q,?_⟩;rw[hA1];rcases (hL4 v).1 (hcL v q) with t | t | t | t
  ·exact Qe t
  ·exact Qb (Qe t)
  ·exact Qb (Qb t)
  exfalso;rw[<-hB'] at t;obtain⟨d,d1,d2⟩:=Qa.1 t;have bn:g.tail d≠z:=λq=>by
   have:=nLr;simp only[Qu,Qi] at this;exact this.1 (by rw[<-q,<-hB'];simp;exact Qe ⟨d,d1,rfl⟩)
  have e1:=t5 d (Qg _ d1) bn u n1 (n2.trans d2.symm);have e2:=aeZ u n1 n3 _ lU (by rw[oF];exact hh);rw[e1] at e2;exact dD e2.symm
 have VB:bp F' f=x :: A++twins w:=f2;have Xu:bp F' k=w++y :: B:=f3;have TG:∀ {v},v∈a0 :: A'++[z]->v∈a0 :: A'++z :: I.reverse:=λ{v} q=>by
  rcases (hA1 v).1 q with t | t | t
  ·rw[t];simp
  ·simp[t]
  rw[t];simp
 have UK:∀ {v},v∈z :: B'++[a0]->v∈a0 :: I++z :: B':=λ{v} q=>by
  rcases (hB1 v).1 q with t | t | t
  ·rw[t];simp
  ·simp[t]
  rw[t];simp
 have ahX:F'.length=s.ak.length+1:=f4;have OU:∀ r0∈s.rest,a r0.ag≠k:=λr0 oR q=>by
  have:=(hE.pos r0 oR).2.1;rw[q] at this;have:((s.ak.length:Int)).toNat<s.ak.length:=this;omega
 refine⟨a',λr hr=>?_,λr hr r2 cD bn rJ=>?_,λfc qL=>?_⟩
 ·show 0<=a' r.ag/\(a' r.ag).toNat<F'.length/\∀ v∈r.ends,v∈(bp F' (a' r.ag)).map g.tail
  have hk0:(0:Int)<=k/\k.toNat<F'.length:=by
   have:k=(s.ak.length:Int):=rfl;omega
  rcases Ag r hr with ⟨e1,-,-,e2⟩ | ⟨e1,-,-,e2⟩ | ⟨r0,oR,-,e3,-,-,e1,e2,-⟩ | ⟨r0,oR,-,e3,-,-,e1,e2,-⟩ | ⟨r0,oR,-,e3,e4,e1⟩
  ·rw[e1,VB,rX]
   refine⟨Ry,by omega,λv hv=>?_⟩;rcases e2 v hv with ⟨-,q⟩ | q
   ·exact TG q
   simp only[Qv] at q;simp[q]
  ·rw[e1,Xu,mD]
   refine⟨hk0.1,hk0.2,λv hv=>?_⟩;rcases e2 v hv with ⟨-,q⟩ | q
   ·exact UK q
   simp[q]
  ·rw[e1,VB,rX]
   exact⟨Ry,by omega,λv hv=>TG (e2 v (e3 ▸ hv))⟩
  ·rw[e1,Xu,mD]
   exact⟨hk0.1,hk0.2,λv hv=>UK (e2 v (e3 ▸ hv))⟩
  obtain⟨n1,n2,n3⟩:=hE.pos r0 oR;rw[e1,f1 _ n1 n2 e4,e3];exact⟨n1,by omega,n3⟩
 ·show ¬ jh ((bp F' (a' r.ag)).map g.tail) r.ends r2.ends
  -- new ones
  have bl:∀ r∈(s.rest.eraseIdx i).map (fH g F' f k)++cw g (eX g s.on w) F' (a8 c.ag w) [f,k],oq g b (eX g s.on w) r.ag:=λr hr=>⟨(h'.mL r hr).sT,(h'.mL r hr).shut,(h'.mL r hr).sub⟩;have dh:∀ r∈(s.rest.eraseIdx i).map (fH g F' f k)++cw g (eX g s.on w) F' (a8 c.ag w) [f,k],2*r.ag.headD 0∈b.ah/\2*r.ag.headD 0 / 2∈r.ag:=λr hr=>by
   have oF:2*r.ag.headD 0 / 2=r.ag.headD 0:=by omega
   exact⟨au.2 (by rw[oF];exact (h'.mL r hr).sub _ (LS r hr)),by rw[oF];exact LS r hr⟩
  have Pb:∀ {r:bh},(∀ e∈r.ag,e∈c.ag/\∀ d∈w,d / 2≠e)->∀ d∈x :: A++twins w,d / 2 ∉ r.ag:=λ{r} j2 d hd q=>by
   rcases Qc.1 hd with t | t
   ·exact TY _ (j2 _ q).1 (hAp d (m1 t))
   have:=(j2 _ q).2 _ (ff.1 t);rw[bJ] at this;exact this rfl
  have FU:∀ {r:bh},(∀ e∈r.ag,e∈c.ag/\∀ d∈w,d / 2≠e)->∀ d∈w++y :: B,d / 2 ∉ r.ag:=λ{r} j2 d hd q=>by
   rcases Qc.1 hd with t | t
   ·exact (j2 _ q).2 d t rfl
   exact TY _ (j2 _ q).1 (hAp d (m2 t))
  have nn1:∀ {r r2:bh},r∈(s.rest.eraseIdx i).map (fH g F' f k)++cw g (eX g s.on w) F' (a8 c.ag w) [f,k]->r2∈(s.rest.eraseIdx i).map (fH g F' f k)++cw g (eX g s.on w) F' (a8 c.ag w) [f,k]->r.ag≠r2.ag ->
    Im (2*r.ag.headD 0)=(!U2)->Im (2*r2.ag.headD 0)=(!U2)->(∀ e∈r.ag,e∈c.ag/\∀ d∈w,d / 2≠e)->(∀ e∈r2.ag,e∈c.ag/\∀ d∈w,d / 2≠e)->(∀ v∈r.ends,v∈(x :: A++twins w).map g.tail)->¬ jh ((x :: A++twins w).map g.tail) r.ends r2.ends:=λ{r r2} hr cD bn n1 n2 n3 n4 n5=>by
   have q1:=(h'.mL r hr).ends;have q2:=(h'.mL r2 cD).ends;rw[q1] at n5 ⊢;rw[q2];exact qz hR hl hC1 YH (bl r hr) (bl r2 cD) (FE r hr r2 cD bn) (Pb n3) (Pb n4) (dh r hr).1 (dh r hr).2 (dh r2 cD).1 (dh r2 cD).2 (n1.trans n2.symm) n5
  have nn2:∀ {r r2:bh},r∈(s.rest.eraseIdx i).map (fH g F' f k)++cw g (eX g s.on w) F' (a8 c.ag w) [f,k]->r2∈(s.rest.eraseIdx i).map (fH g F' f k)++cw g (eX g s.on w) F' (a8 c.ag w) [f,k]->r.ag≠r2.ag ->
    Px (2*r.ag.headD 0)=(!XB)->Px (2*r2.ag.headD 0)=(!XB)->(∀ e∈r.ag,e∈c.ag/\∀ d∈w,d / 2≠e)->(∀ e∈r2.ag,e∈c.ag/\∀ d∈w,d / 2≠e)->(∀ v∈r.ends,v∈(w++y :: B).map g.tail)->¬ jh ((w++y :: B).map g.tail) r.ends r2.ends:=λ{r r2} hr cD bn n1 n2 n3 n4 n5=>by
   have q1:=(h'.mL r hr).ends;have q2:=(h'.mL r2 cD).ends;rw[q1] at n5 ⊢;rw[q2];exact qz hR hl WB Yt (bl r hr) (bl r2 cD) (FE r hr r2 cD bn) (FU n3) (FU n4) (dh r hr).1 (dh r hr).2 (dh r2 cD).1 (dh r2 cD).2 (n1.trans n2.symm) n5
  -- old ones
  have oo:∀ {r0 r3:bh},r0∈s.rest->r3∈s.rest->r0.ag≠r3.ag->a r0.ag=f->a r3.ag=f->¬ jh (a0 :: A'++z :: B') r0.ends r3.ends:=λ{r0 r3} n1 n2 n3 n4 n5 q=>by
   have:=hE.Sa r0 n1 r3 n2 n3 (by rw[n4,n5]);rw[n4,FM] at this;exact this (q.vh Nx.symm)
  have pf:∀ {r r3:bh},r3∈s.rest->(∀ e∈r3.ag,e ∉ c.ag)->a r3.ag=f->(∀ v∈r.ends,(v∈c.ends/\v∈a0 :: A'++[z])\/v∈I.reverse)->(∀ v∈r3.ends,v∈a0 :: A'++[z])->((∀ v∈r3.ends,v ∉ A')->∀ v∈c.ends,v ∉ A')->¬ jh (a0 :: A'++z :: I.reverse) r3.ends r.ends:=λ{r r3} n1 n2 n3 n4 n5 n6 =>
   zj nL nL1 n5 Pn DA n4 n6 (SE r3 n1 n2 n3).2
  have pk:∀ {r r3:bh},r3∈s.rest->(∀ e∈r3.ag,e ∉ c.ag)->a r3.ag=f->(∀ v∈r.ends,(v∈c.ends/\v∈z :: B'++[a0])\/v∈I)->(∀ v∈r3.ends,v∈z :: B'++[a0])->((∀ v∈r3.ends,v ∉ B')->∀ v∈c.ends,v ∉ B')->¬ jh (a0 :: I++z :: B') r3.ends r.ends:=λ{r r3} n1 n2 n3 n4 n5 n6 q =>
   zj nLr ai6 n5 DA Pn n4 n6 (λt=>(SE r3 n1 n2 n3).2 (t.vh Z9.symm)) (q.vh abz)
  have anw:∀ {r:bh},(∀ v∈r.ends,(v∈c.ends/\v∈a0 :: A'++[z])\/v∈I.reverse)->∀ v∈r.ends,v∈(x :: A++twins w).map g.tail:=λ{r} n v hv=>by
   rw[rX];rcases n v hv with ⟨-,q⟩ | q
   ·exact TG q
   simp only[Qv] at q;simp[q]
  have apZ:∀ {r:bh},(∀ v∈r.ends,(v∈c.ends/\v∈z :: B'++[a0])\/v∈I)->∀ v∈r.ends,v∈(w++y :: B).map g.tail:=λ{r} n v hv=>by
   rw[mD];rcases n v hv with ⟨-,q⟩ | q
   ·exact UK q
   simp[q]
  rcases Ag r hr with ⟨e1,e5,e6,e2⟩ | ⟨e1,e5,e6,e2⟩ | ⟨r0,oR,e7,e3,e5,e6,e1,e2,e4⟩ | ⟨r0,oR,e7,e3,e5,e6,e1,e2,e4⟩ | ⟨r0,oR,e7,e3,e4,e1⟩
  ·rw[e1,VB]
   rcases Ag r2 cD with ⟨s1,s5,s6,s2⟩ | ⟨s1,s5,s6,s2⟩ | ⟨r3,sK,s7,s3,s5,s6,s1,s2,s4⟩ | ⟨r3,sK,s7,s3,s5,s6,s1,s2,s4⟩ | ⟨r3,sK,s7,s3,s4,s1⟩ <;> rw[e1,s1] at rJ
   ·exact nn1 hr cD bn e5 s5 e6 s6 (anw e2)
   ·exact absurd rJ xw
   ·rw[rX,s3]
    exact λq=>pf sK s5 s6 e2 s2 s4 q.symm
   ·exact absurd rJ xw
   exact absurd rJ.symm s4
  ·rw[e1,Xu]
   rcases Ag r2 cD with ⟨s1,s5,s6,s2⟩ | ⟨s1,s5,s6,s2⟩ | ⟨r3,sK,s7,s3,s5,s6,s1,s2,s4⟩ | ⟨r3,sK,s7,s3,s5,s6,s1,s2,s4⟩ | ⟨r3,sK,s7,s3,s4,s1⟩ <;> rw[e1,s1] at rJ
   ·exact absurd rJ.symm xw
   ·exact nn2 hr cD bn e5 s5 e6 s6 (apZ e2)
   ·exact absurd rJ.symm xw
   ·rw[mD,s3]
    exact λq=>pk sK s5 s6 e2 s2 s4 q.symm
   exact absurd rJ.symm (OU r3 sK)
  ·rw[e1,VB,rX,e3]
   rcases Ag r2 cD with ⟨s1,s5,s6,s2⟩ | ⟨s1,s5,s6,s2⟩ | ⟨r3,sK,s7,s3,s5,s6,s1,s2,s4⟩ | ⟨r3,sK,s7,s3,s5,s6,s1,s2,s4⟩ | ⟨r3,sK,s7,s3,s4,s1⟩ <;> rw[e1,s1] at rJ
   ·exact pf oR e5 e6 s2 e2 e4
   ·exact absurd rJ xw
   ·rw[s3]
    exact λq=>oo oR sK (by rw[<-e7,<-s7];exact bn) e6 s6 (BC nL nL1 e2 s2 q)
   ·exact absurd rJ xw
   exact absurd rJ.symm s4
  ·rw[e1,Xu,mD,e3]
   rcases Ag r2 cD with ⟨s1,s5,s6,s2⟩ | ⟨s1,s5,s6,s2⟩ | ⟨r3,sK,s7,s3,s5,s6,s1,s2,s4⟩ | ⟨r3,sK,s7,s3,s5,s6,s1,s2,s4⟩ | ⟨r3,sK,s7,s3,s4,s1⟩ <;> rw[e1,s1] at rJ
   ·exact absurd rJ.symm xw
   ·exact pk oR e5 e6 s2 e2 e4
   ·exact absurd rJ.symm xw
   ·rw[s3]
    exact λq=>oo oR sK (by rw[<-e7,<-s7];exact bn) e6 s6 ((BC nLr ai6 e2 s2 (q.vh abz)).vh Z9.symm)
   exact absurd rJ.symm (OU r3 sK)
  obtain⟨n1,n2,-⟩:=hE.pos r0 oR;rw[e1,f1 _ n1 n2 e4,e3];rcases Ag r2 cD with ⟨s1,s5,s6,s2⟩ | ⟨s1,s5,s6,s2⟩ | ⟨r3,sK,s7,s3,s5,s6,s1,s2,s4⟩ | ⟨r3,sK,s7,s3,s5,s6,s1,s2,s4⟩ | ⟨r3,sK,s7,s3,s4,s1⟩ <;> rw[e1,s1] at rJ
  ·exact absurd rJ e4
  ·exact absurd rJ (OU r0 oR)
  ·exact absurd rJ e4
  ·exact absurd rJ (OU r0 oR)
  rw[s3];exact hE.Sa r0 oR r3 sK (by rw[<-e7,<-s7];exact bn) rJ
 have qL:fc∈F':=qL;rw[<-Xq] at qL;rcases Qc.1 qL with q | q
 ·rcases List.mem_or_eq_of_mem_set q with t | t
  ·exact hE.en fc t
  rw[t];exact abn
 rw[List.mem_singleton.1 q];exact Je
