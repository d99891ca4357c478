/- What crosses on a ring of vertices, by places; a ring cut in two. No program here. -/
import Derived.Test.YtbkjljffnkdcjaaS9Side12
namespace Go.Proofs.Ytbkjljffnkdcjaa.Plain
def Btw (L:List Int) (x y u:Int):Prop:=(L.idxOf x<L.idxOf u∧L.idxOf u<L.idxOf y)∨(L.idxOf y<L.idxOf u∧L.idxOf u<L.idxOf x)
def Prt (L:List Int) (x y u v:Int):Prop:=x∈L∧y∈L∧u∈L∧v∈L∧x≠y∧u≠x∧u≠y∧v≠x∧v≠y∧(Btw L x y u↔¬ Btw L x y v)
theorem idx_at {P Q:List Int} {x:Int} (h:(P++x :: Q).Nodup):(P++x :: Q).idxOf x=P.length:=idxOf_split fun q=>(List.nodup_append.1 h).2.2 x q x (by simp) rfl
theorem idx_left {P Q:List Int} {w:Int} (hw:w∈P):(P++Q).idxOf w<P.length:=by
 rw[List.idxOf_append,if_pos hw];exact List.idxOf_lt_length_of_mem hw
theorem idx_right {P Q:List Int} {w:Int} (h:(P++Q).Nodup) (hw:w∈Q):P.length≤(P++Q).idxOf w:=by
 rw[List.idxOf_append,if_neg fun q=>(List.nodup_append.1 h).2.2 w q w hw rfl];omega
theorem idx_inj {L:List Int} {x y:Int} (hx:x∈L) (hy:y∈L) (h:L.idxOf x=L.idxOf y):x=y:=by
 have h1:=List.idxOf_lt_length_of_mem hx
 have h2:=List.idxOf_lt_length_of_mem hy
 have e1:=List.getElem_idxOf h1
 have e2:=List.getElem_idxOf h2
 rw[←e1,←e2]
 congr 1
theorem prt_of_roll {L:List Int} (hn:L.Nodup) {x y u v:Int} {A B:List Int} (hr:Rolled L (x :: A++y :: B)) (hu:u∈A) (hv:v∈B):Prt L x y u v:=by
 have hp:=hr.perm
 have hn2:=hp.nodup_iff.1 hn
 have mem:∀ w,w∈x :: A++y :: B→w∈L:=fun w h=>hp.mem_iff.2 h
 have hd:=List.nodup_append.1 hn2
 have hdA:=List.nodup_cons.1 hd.1
 have hdB:=List.nodup_cons.1 hd.2.1
 refine⟨mem x (by simp),mem y (by simp),mem u (by simp[hu]),mem v (by simp[hv]),hd.2.2 x (by simp) y (by simp),fun q=>hdA.1 (q ▸ hu),hd.2.2 u (List.mem_cons_of_mem _ hu) y (by simp),fun q=>hd.2.2 x (by simp) v (List.mem_cons_of_mem _ hv) q.symm,fun q=>hdB.1 (q ▸ hv),?_⟩
 obtain⟨U,V,h1,h2⟩:=hr
 unfold Btw
 rcases List.append_eq_append_iff.1 h2 with ⟨Z,e1,e2⟩ | ⟨Z,e1,e2⟩
 .-- V=(x :: A)++Z,y :: B=Z++U
  cases Z with
  | nil =>
   -- L=y :: B++x :: A
   rw[List.append_nil] at e1
   rw[List.nil_append] at e2
   have hL:L=y :: B++x :: A:=by rw[h1,←e2,e1]
   subst hL
   have i1:(y :: B++x :: A).idxOf x=(y :: B).length:=idx_at hn
   have i2:(y :: B++x :: A).idxOf y=0:=by simp
   have i3:(y :: B++x :: A).idxOf v<(y :: B).length:=idx_left (List.mem_cons_of_mem _ hv)
   have i4:0<(y :: B++x :: A).idxOf v:=Nat.pos_of_ne_zero fun q=>hdB.1 (idx_inj (mem v (by simp[hv])) (mem y (by simp)) (q.trans i2.symm) ▸ hv)
   have i5:(y :: B).length≤(y :: B++x :: A).idxOf u:=idx_right hn (List.mem_cons_of_mem _ hu)
   omega
  | cons z Z =>
   have e3:z=y:=by injection e2 with a _;exact a.symm
   have e4:B=Z++U:=by injection e2
   subst e3 e4
   -- L=U++x :: A++z :: Z
   have hL:L=U++x :: (A++z :: Z):=by rw[h1,e1];simp
   have hL2:L=(U++x :: A)++z :: Z:=by rw[h1,e1];simp
   have i1:L.idxOf x=U.length:=by rw[hL];exact idx_at (hL ▸ hn)
   have i2:L.idxOf z=(U++x :: A).length:=by rw[hL2];exact idx_at (hL2 ▸ hn)
   have i3:L.idxOf u<(U++x :: A).length:=by rw[hL2];exact idx_left (by simp[hu])
   have i4:(U++[x]).length≤L.idxOf u:=by
    have hL3:L=(U++[x])++(A++z :: Z):=by rw[hL];simp
    rw[hL3];exact idx_right (hL3 ▸ hn) (by simp[hu])
   simp only[List.length_append,List.length_cons,List.length_nil] at i2 i3 i4
   rcases List.mem_append.1 hv with q | q
   ·have i5:(U++x :: A++[z]).length≤L.idxOf v:=by
     have hL3:L=(U++x :: A++[z])++Z:=by rw[hL];simp
     rw[hL3];exact idx_right (hL3 ▸ hn) q
    simp only[List.length_append,List.length_cons,List.length_nil] at i5
    omega
   have i5:L.idxOf v<U.length:=by rw[hL];exact idx_left q
   omega
 -- x :: A=V++Z,U=Z++y :: B
 cases V with
 | nil =>
  have e1:Z=x :: A:=by rw[e1];rfl
  have hL:L=x :: A++y :: B:=by rw[h1,e2,e1];simp
  subst hL
  have i1:(x :: A++y :: B).idxOf y=(x :: A).length:=idx_at hn
  have i2:(x :: A++y :: B).idxOf x=0:=by simp
  have i3:(x :: A++y :: B).idxOf u<(x :: A).length:=idx_left (List.mem_cons_of_mem _ hu)
  have i4:0<(x :: A++y :: B).idxOf u:=Nat.pos_of_ne_zero fun q=>hdA.1 (idx_inj (mem u (by simp[hu])) (mem x (by simp)) (q.trans i2.symm) ▸ hu)
  have i5:(x :: A).length≤(x :: A++y :: B).idxOf v:=idx_right hn (List.mem_cons_of_mem _ hv)
  omega
 | cons z V =>
  have e3:x=z:=by injection e1
  have e4:A=V++Z:=by injection e1
  subst e3 e4
  -- L=Z++y :: B++x :: V
  have hL:L=Z++y :: (B++x :: V):=by rw[h1,e2];simp
  have hL2:L=(Z++y :: B)++x :: V:=by rw[h1,e2]
  have i1:L.idxOf y=Z.length:=by rw[hL];exact idx_at (hL ▸ hn)
  have i2:L.idxOf x=(Z++y :: B).length:=by rw[hL2];exact idx_at (hL2 ▸ hn)
  have i3:L.idxOf v<(Z++y :: B).length:=by rw[hL2];exact idx_left (by simp[hv])
  have i4:(Z++[y]).length≤L.idxOf v:=by
   have hL3:L=(Z++[y])++(B++x :: V):=by rw[hL];simp
   rw[hL3];exact idx_right (hL3 ▸ hn) (by simp[hv])
  simp only[List.length_append,List.length_cons,List.length_nil] at i2 i3 i4
  rcases List.mem_append.1 hu with q | q
  ·have i5:(Z++y :: B++[x]).length≤L.idxOf u:=by
    have hL3:L=(Z++y :: B++[x])++V:=by rw[hL];simp
    rw[hL3];exact idx_right (hL3 ▸ hn) q
   simp only[List.length_append,List.length_cons,List.length_nil] at i5
   omega
  have i5:L.idxOf u<Z.length:=by rw[hL];exact idx_left q
  omega
theorem crs_of_prt {L S T:List Int} (hn:L.Nodup) {x y u v:Int} (h:Prt L x y u v) (hx:x∈S) (hy:y∈S) (hu:u∈T) (hv:v∈T):Crs L S T:=by
 obtain⟨mx,my,mu,mv,hxy,ux,uy,vx,vy,hb⟩:=h
 have key:∀ {x y:Int},x∈S→y∈S→x∈L→y∈L→u≠x→u≠y→v≠x→v≠y→(Btw L x y u↔¬ Btw L x y v)→L.idxOf x<L.idxOf y→Crs L S T:=by
  intro x y hx hy mx my ux uy vx vy hb hlt
  obtain⟨P,M,rfl⟩:=List.append_of_mem mx
  have i1:=idx_at hn
  have hyM:y∈M:=by
   rcases List.mem_append.1 my with q | q
   ·have:=idx_left (Q:=x :: M) q
    omega
   exact (List.mem_cons.1 q).resolve_left fun q=>by rw[q] at hlt;omega
  obtain⟨Q,R,rfl⟩:=List.append_of_mem hyM
  have hL2:P++x :: (Q++y :: R)=(P++x :: Q)++y :: R:=by simp
  have i2:(P++x :: (Q++y :: R)).idxOf y=(P++x :: Q).length:=by rw[hL2];exact idx_at (hL2 ▸ hn)
  have hr:Rolled (P++x :: (Q++y :: R)) (x :: Q++y :: (R++P)):=⟨P,x :: (Q++y :: R),rfl,by simp⟩
  have cls:∀ w∈P++x :: (Q++y :: R),w≠x→w≠y→(w∈Q∧Btw (P++x :: (Q++y :: R)) x y w)∨(w∈R++P∧¬ Btw (P++x :: (Q++y :: R)) x y w):=by
   intro w hw wx wy
   unfold Btw
   rw[i1,i2]
   simp only[List.length_append,List.length_cons]
   rcases List.mem_append.1 hw with q | q
   ·have:=idx_left (Q:=x :: (Q++y :: R)) q
    exact Or.inr ⟨by simp[q],by omega⟩
   have q:=(List.mem_cons.1 q).resolve_left wx
   rcases List.mem_append.1 q with q | q
   ·refine Or.inl ⟨q,?_⟩
    have j1:(P++x :: (Q++y :: R)).idxOf w<(P++x :: Q).length:=by rw[hL2];exact idx_left (by simp[q])
    have j2:(P++[x]).length≤(P++x :: (Q++y :: R)).idxOf w:=by
     have hL3:P++x :: (Q++y :: R)=(P++[x])++(Q++y :: R):=by simp
     rw[hL3];exact idx_right (hL3 ▸ hn) (by simp[q])
    simp only[List.length_append,List.length_cons,List.length_nil] at j1 j2
    omega
   have q:=(List.mem_cons.1 q).resolve_left wy
   refine Or.inr ⟨by simp[q],?_⟩
   have j2:(P++x :: Q++[y]).length≤(P++x :: (Q++y :: R)).idxOf w:=by
    have hL3:P++x :: (Q++y :: R)=(P++x :: Q++[y])++R:=by simp
    rw[hL3];exact idx_right (hL3 ▸ hn) q
   simp only[List.length_append,List.length_cons,List.length_nil] at j2
   omega
  rcases cls u mu ux uy with ⟨q1,q2⟩ | ⟨q1,q2⟩
  ·rcases cls v mv vx vy with ⟨q3,q4⟩ | ⟨q3,q4⟩
   ·exact absurd q4 (hb.1 q2)
   exact⟨x,hx,y,hy,u,hu,v,hv,Q,R++P,hr,q1,q3⟩
  rcases cls v mv vx vy with ⟨q3,q4⟩ | ⟨q3,q4⟩
  ·exact⟨x,hx,y,hy,v,hv,u,hu,Q,R++P,hr,q3,q1⟩
  exact absurd (hb.2 q4) q2
 rcases Nat.lt_trichotomy (L.idxOf x) (L.idxOf y) with q | q | q
 ·exact key hx hy mx my ux uy vx vy hb q
 ·exact absurd (idx_inj mx my q) hxy
 refine key hy hx my mx uy ux vy vx ?_ q
 unfold Btw at hb ⊢
 omega
theorem prt_of_crs {L S T:List Int} (hn:L.Nodup) (h:Crs L S T):∃ x∈S,∃ y∈S,∃ u∈T,∃ v∈T,Prt L x y u v:=by
 obtain⟨x,hx,y,hy,u,hu,v,hv,A,B,hr,hA,hB⟩:=h
 exact⟨x,hx,y,hy,u,hu,v,hv,prt_of_roll hn hr hA hB⟩
section
variable {a z : Int} {A B I : List Int}
theorem idx_pre {M N:List Int} {w:Int} (hw:w∈a :: A++[z]):(a :: A++z :: M).idxOf w=(a :: A++z :: N).idxOf w:=by
 have e:∀ K:List Int,(a :: A++z :: K).idxOf w=(a :: A++[z]).idxOf w:=fun K=>by
  have q:a :: A++z :: K=(a :: A++[z])++K:=by simp
  rw[q,List.idxOf_append,if_pos hw]
 rw[e M,e N]
theorem idx_pre_le {M:List Int} {w:Int} (hw:w∈a :: A++[z]):(a :: A++z :: M).idxOf w≤A.length+1:=by
 have e:a :: A++z :: M=(a :: A++[z])++M:=by simp
 have:=idx_left (P:=a :: A++[z]) (Q:=M) hw
 rw[e]
 simp only[List.length_append,List.length_cons,List.length_nil] at this
 omega
theorem idx_post {M:List Int} {w:Int} (hn:(a :: A++z :: M).Nodup) (hw:w∈M):A.length+2≤(a :: A++z :: M).idxOf w:=by
 have e:a :: A++z :: M=(a :: A++[z])++M:=by simp
 have:=idx_right (P:=a :: A++[z]) (Q:=M) (e ▸ hn) hw
 rw[e]
 simp only[List.length_append,List.length_cons,List.length_nil] at this
 omega
theorem idx_mid {M:List Int} {w:Int} (hn:(a :: A++z :: M).Nodup) (hw:w∈A):0<(a :: A++z :: M).idxOf w∧(a :: A++z :: M).idxOf w<A.length+1:=by
 constructor
 ·refine Nat.pos_of_ne_zero fun q=>?_
  have i2:(a :: A++z :: M).idxOf a=0:=by simp
  have:=idx_inj (L:=a :: A++z :: M) (by simp[hw]) (by simp) (q.trans i2.symm)
  rw[this] at hw
  simp only[List.cons_append,List.nodup_cons] at hn
  exact hn.1 (by simp[hw])
 have:=idx_left (P:=a :: A) (Q:=z :: M) (List.mem_cons_of_mem _ hw)
 simpa using this
theorem idx_ends {M:List Int} (hn:(a :: A++z :: M).Nodup):(a :: A++z :: M).idxOf a=0∧(a :: A++z :: M).idxOf z=A.length+1:=⟨by simp,by have:=idx_at (P:=a :: A) (Q:=M) hn;simpa using this⟩
theorem side_same (hn:(a :: A++z :: B).Nodup) (hn2:(a :: A++z :: I).Nodup) {T U:List Int} (hT:∀ v∈T,v∈a :: A++[z]) (hU:∀ v∈U,v∈a :: A++[z]) (h:Conf (a :: A++z :: I) T U):Conf (a :: A++z :: B) T U:=by
 rcases h with h | h
 ·obtain⟨x,hx,y,hy,u,hu,v,hv,m1,m2,m3,m4,d1,d2,d3,d4,d5,hb⟩:=prt_of_crs hn2 h
  have mem:∀ {w},w∈a :: A++[z]→w∈a :: A++z :: B:=fun h=>by
   simp only[List.cons_append,List.mem_cons,List.mem_append,List.not_mem_nil,or_false] at h ⊢
   rcases h with h | h | h
   ·exact Or.inl h
   ·exact Or.inr (Or.inl h)
   exact Or.inr (Or.inr (Or.inl h))
  refine Or.inl (crs_of_prt hn ⟨mem (hT x hx),mem (hT y hy),mem (hU u hu),mem (hU v hv),d1,d2,d3,d4,d5,?_⟩ hx hy hu hv)
  unfold Btw at hb ⊢
  rw[idx_pre (M:=B) (N:=I) (hT x hx),idx_pre (M:=B) (N:=I) (hT y hy),idx_pre (M:=B) (N:=I) (hU u hu),idx_pre (M:=B) (N:=I) (hU v hv)]
  exact hb
 exact Or.inr h
theorem side_piece (hn:(a :: A++z :: B).Nodup) (hn2:(a :: A++z :: I).Nodup) {T S S1:List Int} (hT:∀ v∈T,v∈a :: A++[z]) (ha:a∈S) (hz:z∈S) (hS1:∀ v∈S1,(v∈S∧v∈a :: A++[z])∨v∈I) (hside:(∀ v∈T,v ∉ A)→∀ v∈S,v ∉ A)
  (hno:¬ Conf (a :: A++z :: B) S T):¬ Conf (a :: A++z :: I) T S1:=by
 have mem:∀ {w},w∈a :: A++[z]→w∈a :: A++z :: B:=fun h=>by
  simp only[List.cons_append,List.mem_cons,List.mem_append,List.not_mem_nil,or_false] at h ⊢
  rcases h with h | h | h
  ·exact Or.inl h
  ·exact Or.inr (Or.inl h)
  exact Or.inr (Or.inr (Or.inl h))
 have offI:∀ {w},w∈a :: A++[z]→w ∉ I:=fun {w} h q=>by
  have h1:=idx_post hn2 q
  have h2:=idx_pre_le (M:=I) h
  omega
 obtain⟨ea,ez⟩:=idx_ends hn
 have preA:a∈a :: A++[z]:=by simp
 have preZ:z∈a :: A++[z]:=by simp
 have haz:a≠z:=fun q=>by
  have q2:(a :: A++z :: B).idxOf a=(a :: A++z :: B).idxOf z:=congrArg (fun w=>(a :: A++z :: B).idxOf w) q
  rw[ea,ez] at q2
  omega
 rintro (h | ⟨x,y,w,⟨x1,x2⟩,⟨y1,y2⟩,⟨w1,w2⟩,d⟩)
 ·obtain⟨x,hx,y,hy,u,hu,v,hv,m1,m2,m3,m4,d1,d2,d3,d4,d5,hb⟩:=prt_of_crs hn2 h
  have px:=hT x hx
  have py:=hT y hy
  have ix:=idx_pre (M:=B) (N:=I) px
  have iy:=idx_pre (M:=B) (N:=I) py
  have bx:=idx_pre_le (M:=B) px
  have by':=idx_pre_le (M:=B) py
  -- one of them on the way
  have mixed:∀ {u v:Int},u∈S1→v∈S1→u∈I→(v∈S∧v∈a :: A++[z])→v≠x→v≠y→(Btw (a :: A++z :: I) x y u↔¬ Btw (a :: A++z :: I) x y v)→False:=by
   intro u v hu hv uI ⟨vS,pv⟩ vx vy hb
   have iu:=idx_post hn2 uI
   have iv:=idx_pre (M:=B) (N:=I) pv
   unfold Btw at hb
   rw[←ix,←iy,←iv] at hb
   have vb:Btw (a :: A++z :: B) x y v:=by unfold Btw;omega
   have vb':=vb
   unfold Btw at vb'
   have nxy:x≠y:=d1
   have case1:∀ {c:Int},c∈S→c∈a :: A++[z]→c≠x→c≠y→¬ Btw (a :: A++z :: B) x y c→False:=fun {c} cS pc cx cy hc =>
    hno (Conf.symm (Or.inl (crs_of_prt hn ⟨mem px,mem py,mem pv,mem pc,nxy,vx,vy,cx,cy,⟨fun _=>hc,fun _=>vb⟩⟩ hx hy vS cS)))
   have neq:∀ {s t:Int},s∈a :: A++[z]→t∈a :: A++[z]→(a :: A++z :: B).idxOf s=(a :: A++z :: B).idxOf t→s=t:=fun hs ht q=>idx_inj (mem hs) (mem ht) q
   by_cases q0:a=x∨a=y
   ·by_cases q1:z=x∨z=y
    .-- T has both ends
     have hT2:a∈T∧z∈T:=by
      rcases q0 with q | q <;> rcases q1 with r | r
      ·exact absurd (q.trans r.symm) haz
      ·exact⟨q ▸ hx,r ▸ hy⟩
      ·exact⟨q ▸ hy,r ▸ hx⟩
      exact absurd (q.trans r.symm) haz
     have va:v≠a:=fun r=>by rcases q0 with q | q;exact vx (r.trans q);exact vy (r.trans q)
     have vz:v≠z:=fun r=>by rcases q1 with q | q;exact vx (r.trans q);exact vy (r.trans q)
     have vA:v∈A:=by
      simp only[List.cons_append,List.mem_cons,List.mem_append,List.not_mem_nil,or_false] at pv
      exact (pv.resolve_left va).resolve_right vz
     obtain⟨t,tT,tA⟩:∃ t∈T,t∈A:=Classical.byContradiction fun q=>hside (fun t ht hA=>q ⟨t,ht,hA⟩) v vS vA
     have pt:=hT t tT
     obtain⟨v1,v2⟩:=idx_mid hn vA
     obtain⟨t1,t2⟩:=idx_mid hn tA
     by_cases tv:t=v
     ·exact hno (Or.inr ⟨a,z,v,⟨ha,hT2.1⟩,⟨hz,hT2.2⟩,⟨vS,tv ▸ tT⟩,haz,Ne.symm vz,Ne.symm va⟩)
     have hne:(a :: A++z :: B).idxOf t≠(a :: A++z :: B).idxOf v:=fun q=>tv (neq pt pv q)
     have ta:t≠a:=fun r=>by rw[r,ea] at t1;omega
     have tz:t≠z:=fun r=>by rw[r,ez] at t2;omega
     by_cases hlt:(a :: A++z :: B).idxOf t<(a :: A++z :: B).idxOf v
     ·refine hno (Or.inl (crs_of_prt hn (x:=a) (y:=v) (u:=t) (v:=z) ⟨mem preA,mem pv,mem pt,mem preZ,Ne.symm va,ta,tv,Ne.symm haz,Ne.symm vz,?_⟩ ha vS tT hT2.2))
      unfold Btw
      rw[ea,ez]
      omega
     refine hno (Or.inl (crs_of_prt hn (x:=v) (y:=z) (u:=t) (v:=a) ⟨mem pv,mem preZ,mem pt,mem preA,vz,tv,tz,Ne.symm va,haz,?_⟩ vS hz tT hT2.1))
     unfold Btw
     rw[ea,ez]
     omega
    refine case1 hz preZ (fun r=>q1 (Or.inl r)) (fun r=>q1 (Or.inr r)) ?_
    unfold Btw
    rw[ez]
    omega
   refine case1 ha preA (fun r=>q0 (Or.inl r)) (fun r=>q0 (Or.inr r)) ?_
   unfold Btw
   rw[ea]
   omega
  rcases hS1 u hu with ⟨uS,pu⟩ | uI
  ·rcases hS1 v hv with ⟨vS,pv⟩ | vI
   ·refine hno (Conf.symm (Or.inl (crs_of_prt hn ⟨mem px,mem py,mem pu,mem pv,d1,d2,d3,d4,d5,?_⟩ hx hy uS vS)))
    unfold Btw at hb ⊢
    rw[ix,iy,idx_pre (M:=B) (N:=I) pu,idx_pre (M:=B) (N:=I) pv]
    exact hb
   refine mixed hv hu vI ⟨uS,pu⟩ d2 d3 ?_
   constructor
   ·intro q r;exact hb.1 r q
   intro q;exact Classical.byContradiction fun r=>q (hb.2 r)
  rcases hS1 v hv with ⟨vS,pv⟩ | vI
  ·exact mixed hu hv uI ⟨vS,pv⟩ d4 d5 hb
  have iu:=idx_post hn2 uI
  have iv:=idx_post hn2 vI
  unfold Btw at hb
  rw[←ix,←iy] at hb
  omega
 have out:∀ {v:Int},v∈T→v∈S1→v∈S:=fun {v} h1 h2=>by
  rcases hS1 v h2 with r | r
  ·exact r.1
  exact absurd r (offI (hT v h1))
 exact hno (Or.inr ⟨x,y,w,⟨out x1 x2,x1⟩,⟨out y1 y2,y1⟩,⟨out w1 w2,w1⟩,d⟩)
theorem side_one {S T:List Int} (ha:a∈S) (hz:z∈S) (hno:¬ Conf (a :: A++z :: B) S T) {u v:Int} (hu:u∈T) (hv:v∈T) (huA:u∈A) (hvB:v∈B):False :=
 hno (Or.inl ⟨a,ha,z,hz,u,hu,v,hv,A,B,Rolled.refl _,huA,hvB⟩)
end
structure Emb (g:Gr) (s:Sk) (a:List Int→Int):Prop where
 pos:∀ c∈s.rest,0≤a c.edges∧(a c.edges).toNat<s.faces.length∧∀ v∈c.ends,v∈(faceAt s.faces (a c.edges)).map g.tail
 conf:∀ c∈s.rest,∀ d∈s.rest,c.edges≠d.edges→a c.edges=a d.edges→¬ Conf ((faceAt s.faces (a c.edges)).map g.tail) c.ends d.ends
 en:∀ f∈s.faces,(f.map (· / 2)).Nodup
theorem chn_twins (w:List Int):chn (twins w)=chn w:=by
 funext e
 unfold chn twins
 rw[par_perm (List.reverse_perm _)]
 induction w with
 | nil=>rfl
 | cons d w ih=>simp only[List.map_cons,par,twin_div];rw[ih]
theorem twins_div {w:List Int}:((twins w).map (· / 2)).Perm (w.map (· / 2)):=by
 unfold twins
 rw[List.map_reverse]
 refine (List.reverse_perm _).trans ?_
 rw[List.map_map]
 refine List.Perm.of_eq (List.map_congr_left fun d _=>?_)
 exact twin_div d
theorem faceAt_mem {F:List (List Int)} {i:Int} (h:i.toNat<F.length):faceAt F i∈F:=by
 unfold faceAt
 rw[show F.getD i.toNat []=F[i.toNat] by simp[List.getD,h]]
 exact List.getElem_mem _
theorem rolled_mapf (f:Int→Int) {C D:List Int}:Rolled C D→Rolled (C.map f) (D.map f):=fun ⟨U,V,h1,h2⟩=>⟨U.map f,V.map f,by rw[h1,List.map_append],by rw[h2,List.map_append]⟩
theorem WayS.chain {g:Gr} {b:Pt} {turn:List (List Int)} {on:Int→Bool} {E w:List Int} {a z:Int} (hp:PartOk g b) (ht:TurnsOk g b turn) (h:WayS g on ⟨b.v,E⟩ w a z) (hE:∀ e∈E,e∈b.e) (hoa:on a=true) :
  ChainAt g b turn on E (chn w) a z∧ChainAt g b turn on E (chn w) z a:=by
 have hwE:∀ d∈w,d / 2∈E:=fun d hd=>mem_darts.1 (h.sub d hd)
 have hwb:∀ d∈w,d∈b.darts:=fun d hd=>mem_darts.2 (hE _ (hwE d hd))
 have hwn:w.Nodup:=nodup_of_map h.heads
 have hsupp:∀ e,chn w e=true→e∈E:=fun e he=>Classical.byContradiction fun q=>by
  rw[chn_off (l:=w) (e:=e) fun d hd r=>q (by rw[←r];exact hwE d hd)] at he;cases he
 obtain⟨c0,l,hw⟩:∃ c0 l,w=c0 :: l:=by
  cases hw:w with
  | nil=>have:=h.link;rw[hw] at this;exact absurd this h.ne
  | cons c l=>exact⟨c,l,rfl⟩
 have hc0:g.tail c0=a:=by have:=h.link;rw[hw] at this;exact this.1
 have htl:∀ d∈w,d=c0∨on (g.tail d)=false:=fun d hd=>by
  rw[hw] at hd
  rcases List.mem_cons.1 hd with r | r
  ·exact Or.inl r
  exact Or.inr (h.inn d (by rw[hw];exact r))
 have hhd:∀ d∈w,g.head d=z∨on (g.head d)=false:=fun d hd=>by
  have h1:=h.link
  rw[hw] at h1
  have h2:=heads_tails h1
  have h3:g.head d∈(c0 :: l).map g.head:=by rw[←hw];exact List.mem_map.2 ⟨d,hd,rfl⟩
  rw[h2] at h3
  rcases List.mem_append.1 h3 with k | k
  ·obtain⟨d',k1,k2⟩:=List.mem_map.1 k
   exact Or.inr (by rw[←k2];exact h.inn d' (by rw[hw];exact k1))
  exact Or.inl (List.mem_singleton.1 k)
 have hnone:∀ v,on v=true→v≠a→v≠z→∀ u∈b.darts,g.tail u=v→chn w (u / 2)=false:=fun v hv hva hvz u hu huv=>by
  rw[chn_dart hwn]
  have e1:u ∉ w:=fun q=>by
   rcases htl u q with r | r
   ·rw[r,hc0] at huv;exact hva huv.symm
   rw[huv,hv] at r;cases r
  have e2:twin u ∉ w:=fun q=>by
   have hh:g.head (twin u)=v:=by rw[←tail_twin,twin_twin];exact huv
   rcases hhd _ q with r | r
   ·rw[hh] at r;exact hvz r
   rw[hh,hv] at r;cases r
  simp[e1,e2]
 obtain⟨m,t,hm,hmz⟩:=last_head h.link h.ne
 have htw:t∈w:=by rw[hm];simp
 refine⟨⟨hsupp,fun v hv=>deg_link hp ht hv h.link hwb,⟨c0,hwb c0 (by rw[hw];simp),hc0,hwE c0 (by rw[hw];simp),fun u hu huv=>?_⟩,hnone⟩,⟨hsupp,fun v hv=>by rw[deg_link hp ht hv h.link hwb,Bool.xor_comm],⟨twin t,twin_mem (hwb t htw),by rw[tail_twin,hmz],by rw[twin_div];exact hwE t htw,fun u hu huv=>?_⟩,fun v h1 h2 h3=>hnone v h1 h3 h2⟩⟩
 ·rw[chn_dart hwn]
  have e2:twin u ∉ w:=fun q=>h.na (List.mem_map.2 ⟨_,q,by rw[←tail_twin,twin_twin];exact huv⟩)
  have e1:u∈w↔u=c0:=by
   constructor
   ·intro q
    rcases htl u q with r | r
    ·exact r
    rw[huv,hoa] at r;cases r
   intro q
   rw[q,hw];simp
  have e3:decide (u∈w)=decide (u=c0):=decide_eq_decide.2 e1
  rw[e3];simp[e2]
 rw[chn_dart hwn]
 have e1:u ∉ w:=fun q=>by
  rcases htl u q with r | r
  ·rw[r,hc0] at huv;exact h.ne huv
  rw[huv,h.oz] at r;cases r
 have e2:twin u∈w↔u=twin t:=⟨fun q=>by
  have:=inj_of_map h.heads _ q _ htw (by rw[←tail_twin,twin_twin,huv,hmz])
  rw[←this,twin_twin],fun q=>by rw[q,twin_twin];exact htw⟩
 have e3:decide (twin u∈w)=decide (u=twin t):=decide_eq_decide.2 e2
 rw[e3];simp[e1]
open Classical in
set_option maxHeartbeats 2000000 in
theorem emb_put {g:Gr} {b:Pt} {rt:List (List Int)} {s:Sk} {p:Pt} {turn:List (List Int)} {i:Nat} {a:List Int→Int} (hR:Globe g b rt) (hl:∀ e∈b.e,(g.at e).1≠(g.at e).2) (hS:SolidP g b) (h:SkOk g b s p turn) (hi:i<s.rest.length)
  (hf:(s.rest.getD i ⟨[],[],[]⟩).faces≠[]) (hE:Emb g s a) (hfa:a (s.rest.getD i ⟨[],[],[]⟩).edges=(s.rest.getD i ⟨[],[],[]⟩).faces.getD 0 0) :
  ∃ p' turn' a',SkOk g b (s.put g b.v i) p' turn'∧(s.put g b.v i).left<s.left∧Emb g (s.put g b.v i) a':=by
 have hbe:=hR.pe
 obtain⟨p',turn',h',hlt⟩:=put_ok hbe hS h hi hf
 refine⟨p',turn',?_⟩
 suffices hs:∃ a',Emb g (s.put g b.v i) a' by
  obtain⟨a',ha'⟩:=hs
  exact⟨a',h',hlt,ha'⟩
 clear hlt
 have hbk:=Pt.ok_of_err hbe
 have hpk:=Pt.ok_of_err h.faces.pe
 have hpk':=Pt.ok_of_err h'.faces.pe
 have ht:=hR.to_
 obtain⟨hsp,hse⟩:=getD_split hi (⟨[],[],[]⟩:Scrap)
 unfold Sk.put at h' ⊢
 dsimp only at h' ⊢
 generalize hc0:s.rest.getD i ⟨[],[],[]⟩=c at *
 generalize hR1:s.rest.take i=R1 at *
 generalize hR2:s.rest.drop (i+1)=R2 at *
 have hcm:c∈s.rest:=by rw[hsp];simp
 have hc:=h.scr c hcm
 have hpart:=h.part
 have hflm:s.rest.flatMap (·.edges)=R1.flatMap (·.edges)++(c.edges++R2.flatMap (·.edges)):=by
  conv=>lhs;rw[hsp]
  rw[List.flatMap_append,List.flatMap_cons]
 rw[hflm] at hpart
 have hnd:=(hpart.nodup_iff).2 hbk.en
 have hcount:∀ x,List.count x p.e+(List.count x (R1.flatMap (·.edges))+(List.count x c.edges+List.count x (R2.flatMap (·.edges))))≤1:=fun x=>by
  have:=List.nodup_iff_count.1 hnd x
  simpa[List.count_append] using this
 have hcp:∀ e∈c.edges,e ∉ p.e:=fun e h1 h2=>by
  have:=hcount e
  have:=List.count_pos_iff.2 h1
  have:=List.count_pos_iff.2 h2
  omega
 have hcR:∀ e∈c.edges,∀ r,r∈R1∨r∈R2→e ∉ r.edges:=fun e h1 r hr h2=>by
  have:=hcount e
  have:=List.count_pos_iff.2 h1
  rcases hr with hr | hr
  ·have:=List.count_pos_iff.2 (show e∈R1.flatMap (·.edges) from List.mem_flatMap.2 ⟨r,hr,h2⟩)
   omega
  have:=List.count_pos_iff.2 (show e∈R2.flatMap (·.edges) from List.mem_flatMap.2 ⟨r,hr,h2⟩)
  omega
 have hpb:∀ e∈p.e,e∈b.e:=fun e he=>hpart.mem_iff.1 (List.mem_append_left _ he)
 have hcn:c.edges.Nodup:=List.nodup_iff_count.2 fun x=>by have:=hcount x;omega
 have hck:PartOk g ⟨b.v,c.edges⟩:=⟨hbk.vn,hcn,hbk.vr,fun e he=>hbk.er e (hc.sub e he),fun e he=>hbk.ends e (hc.sub e he)⟩
 obtain⟨a0,z0,m,hcends⟩:∃ a z0 m,c.ends=a :: z0 :: m:=by
  have:=hc.two
  match hL:c.ends with
  | []=>rw[hL] at this;simp at this
  | [_]=>rw[hL] at this;simp at this
  | a :: z0 :: m=>exact⟨a,z0,m,rfl⟩
 have hen:(a0 :: z0 :: m).Nodup:=by rw[←hcends,hc.ends];exact endsOf_nodup g s.on c.edges
 have hae:a0∈c.ends:=by rw[hcends];simp
 have hze:z0∈c.ends:=by rw[hcends];simp
 have ha1:=hae
 have hz1:=hze
 rw[hc.ends] at ha1 hz1
 obtain⟨hoa,e0,he0,hea⟩:=mem_endsOf.1 ha1
 obtain⟨hoz,e1,he1,hez⟩:=mem_endsOf.1 hz1
 have hza:z0≠a0:=fun q=>by rw[q] at hen;simp at hen
 have hd0:∀ d∈(⟨b.v,c.edges⟩:Pt).darts,0≤d:=fun d hd=>by have:=hbk.er _ (hc.sub _ (mem_darts.1 hd));omega
 obtain⟨z,hws⟩:=wayOf_ok (g:=g) (on:=s.on) hck hd0 hc.hang he0 hea he1 hez hoz hza
 have ha0:c.ends.getD 0 0=a0:=by rw[hcends];rfl
 rw[ha0] at h' ⊢
 generalize hw0:wayOf g s.on ⟨b.v,c.edges⟩ a0=w at *
 have hwi:=hws.way h.on hoa hcp
 obtain⟨c0,l,hwc0⟩:=hwi.cons
 have hwne:w≠[]:=by rw[hwc0];simp
 have hzl:g.head (w.getLastD 0)=z:=by
  obtain⟨m,t,hm,hmz⟩:=last_head hws.link hws.ne
  rw[hm,List.getLastD_eq_getLast?]
  simpa using hmz
 rw[hzl] at h' ⊢
 have hwc:∀ d∈w,d / 2∈c.edges:=fun d hd=>mem_darts.1 (hws.sub d hd)
 have hzin:z∈c.ends:=by
  obtain⟨m,t,hm,hmz⟩:=last_head hws.link hws.ne
  rw[hc.ends]
  have h2:=dart_end g t
  rw[hmz] at h2
  exact mem_endsOf.2 ⟨hws.oz,t / 2,hwc t (by rw[hm];simp),h2.2⟩
 obtain⟨f,fl,hcf⟩:∃ f fl,c.faces=f :: fl:=by
  cases hL:c.faces with
  | nil=>exact absurd hL hf
  | cons f fl=>exact⟨f,fl,rfl⟩
 have hff:c.faces.getD 0 0=f:=by rw[hcf];rfl
 rw[hff] at h' hfa ⊢
 obtain⟨hf0,hfl2,hfh⟩:=(hc.fcs f).1 (by rw[hcf];simp)
 have holdm:faceAt s.faces f∈s.faces:=faceAt_mem hfl2
 generalize hold2:faceAt s.faces f=old at *
 obtain⟨x,y,A,B,U,V,c1,c2,c3,c4,c5⟩:=cutFace_split (g:=g) (old:=old) (w:=w) (hasV_iff.1 (hfh a0 hae)) (hasV_iff.1 (hfh z hzin)) hws.ne
 rw[c5] at h' ⊢
 obtain⟨f1,f2,f3,f4⟩:=face_set (F:=s.faces) hf0 hfl2 (x :: A++twins w) (w++y :: B)
 generalize hF':s.faces.set f.toNat (x :: A++twins w)++[w++y :: B]=F' at *
 have hroll:Rolled old (x :: A++y :: B):=⟨U,V,c1,c2.symm⟩
 have hon':∀ v,onTo g s.on w v=true↔s.on v=true∨v∈w.map g.tail:=fun v=>onTo_iff
 have hoff':∀ v,onTo g s.on w v=false→s.on v=false:=fun v hv=>Bool.eq_false_iff.2 fun r=>by rw[(hon' v).2 (Or.inl r)] at hv;cases hv
 -- the old cycle
 have hface:=h.faces.faceAt holdm hroll
 have hCyc:Cycle g b s.on (x :: A++y :: B):=by
  refine⟨⟨a0,Link.append.2 ⟨z,?_,?_⟩⟩,hface.tn,((hroll.perm.map _).nodup_iff).1 (hE.en _ holdm),fun d hd=>mem_darts.2 (hpb _ (mem_darts.1 (hface.dr d hd))),fun d hd=>(h.on _).2 (hpk.tail_mem (hface.dr d hd)).1⟩
  ·have:=hface.link hpk h.faces.to_;rw[c3,c4] at this;exact this
  have:=hface.symm.link hpk h.faces.to_;rw[c3,c4] at this;exact this
 have harc:=hCyc.arcs rfl
 rw[c3,c4] at harc
 have hblob:Blob g b s.on c.edges:=⟨hc.hang,hc.shut,hc.sub⟩
 have hoffC:∀ d∈x :: A++y :: B,d / 2 ∉ c.edges:=fun d hd q=>hcp _ q (mem_darts.1 (hface.dr d hd))
 obtain⟨ch1,ch2⟩:=hws.chain hbk ht hc.sub hoa
 have hwb:∀ d∈w,d∈b.darts:=fun d hd=>mem_darts.2 (hc.sub _ (hwc d hd))
 obtain⟨χ1,hχ1⟩:=hR.col (c:=fun e=>chn (x :: A) e ^^ chn w e) fun v hv=>by
  rw[deg_xor,deg_link hbk ht hv harc.l1 (fun d hd=>harc.dr d (m1 hd)),deg_link hbk ht hv hws.link hwb]
  simp
 obtain⟨χ2,hχ2⟩:=hR.col (c:=fun e=>chn (y :: B) e ^^ chn w e) fun v hv=>by
  rw[deg_xor,deg_link hbk ht hv harc.l2 (fun d hd=>harc.dr d (m2 hd)),deg_link hbk ht hv hws.link hwb,Bool.xor_comm (decide (z=v))]
  simp
 have hχ:Col g b rt (chn (x :: A++y :: B)) (fun d=>χ1 d ^^ χ2 d):=(hχ1.xor hχ2).congr fun e _=>by
  rw[chn_append]
  cases chn (x :: A) e <;> cases chn (y :: B) e <;> cases chn w e <;> rfl
 have hχ':Col g b rt (chn (y :: B++x :: A)) (fun d=>χ1 d ^^ χ2 d):=hχ.congr fun e _=>by rw[chn_append,chn_append,Bool.xor_comm]
 obtain⟨κ,k1,α1,t1,t2,t3,⟨q,q1,q2,q3⟩,t5,-⟩:=harc.theta hbk ht hχ ch1 hχ1 hoffC
 obtain⟨-,k2,α2,-,-,u3,-,u5,-⟩:=harc.symm.theta hbk ht hχ' ch2 hχ2 (fun d hd=>hoffC d (List.perm_append_comm.mem_iff.1 hd))
 have hcolC:=hblob.cycle hbk ht hCyc hoffC hχ
 have hflip:∀ d∈b.darts,d / 2∈c.edges→χ1 d=α1→χ2 d=!α2:=fun d hd hdc e1=>by
  have k3:(χ1 q ^^ χ2 q)=(χ1 d ^^ χ2 d):=hcolC q q1 q2 d hd hdc
  have k4:(χ1 x ^^ χ2 x)=κ:=t1 x (by simp)
  have k5:χ1 x=k1:=t2 x (by simp)
  have k6:χ2 x=α2:=u3 x (by simp)
  rw[k3,←k4,k5,k6,e1] at q3
  revert q3
  cases α1 <;> cases α2 <;> cases k1 <;> cases χ2 d <;> simp
 -- the new faces
 have hF1m:x :: A++twins w∈F':=by rw[←f2];exact faceAt_mem (by omega)
 have hF2m:w++y :: B∈F':=by rw[←f3];exact faceAt_mem (by rw[f4];omega)
 obtain⟨t0,W,htw⟩:∃ t0 W,twins w=t0 :: W:=by
  cases hq:twins w with
  | nil=>have:=congrArg List.length hq;unfold twins at this;simp at this;exact absurd this hwne
  | cons t0 W=>exact⟨t0,W,rfl⟩
 have hface1:FaceAt g p' turn' x A t0 W:=h'.faces.faceAt hF1m (by rw[htw];exact Rolled.refl _)
 have hface2:FaceAt g p' turn' c0 l y B:=h'.faces.faceAt hF2m (by rw[hwc0];exact Rolled.refl _)
 have hpb':∀ e∈p'.e,e∈b.e:=fun e he=>h'.part.mem_iff.1 (List.mem_append_left _ he)
 have hwp:∀ d∈w,d / 2 ∉ p.e:=fun d hd=>hcp _ (hwc d hd)
 have hAp:∀ d∈x :: A++y :: B,d / 2∈p.e:=fun d hd=>mem_darts.1 (hface.dr d hd)
 have hen1:((x :: A++twins w).map (· / 2)).Nodup:=by
  rw[List.map_append,List.nodup_append]
  have hh:=hCyc.en
  rw[List.map_append,List.nodup_append] at hh
  refine⟨hh.1,(twins_div.nodup_iff).2 hwi.en,fun u hu v hv e=>?_⟩
  obtain⟨d,hd,rfl⟩:=List.mem_map.1 hu
  obtain⟨d',hd',e'⟩:=List.mem_map.1 (twins_div.mem_iff.1 hv)
  exact hwp d' hd' (by rw[e',←e];exact hAp d (m1 hd))
 have hen2:((w++y :: B).map (· / 2)).Nodup:=by
  rw[List.map_append,List.nodup_append]
  have hh:=hCyc.en
  rw[List.map_append,List.nodup_append] at hh
  refine⟨hwi.en,hh.2.1,fun u hu v hv e=>?_⟩
  obtain⟨d,hd,rfl⟩:=List.mem_map.1 hu
  obtain⟨d',hd',rfl⟩:=List.mem_map.1 hv
  exact hwp d hd (by rw[e];exact hAp d' (m2 hd'))
 have hC1:Cycle g b (onTo g s.on w) (x :: A++twins w):=by
  rw[htw] at hen1 ⊢
  exact⟨⟨_,Link.append.2 ⟨_,hface1.link hpk' h'.faces.to_,hface1.symm.link hpk' h'.faces.to_⟩⟩,hface1.tn,hen1,fun d hd=>mem_darts.2 (hpb' _ (mem_darts.1 (hface1.dr d hd))),fun d hd=>(h'.on _).2 (hpk'.tail_mem (hface1.dr d hd)).1⟩
 have hC2:Cycle g b (onTo g s.on w) (w++y :: B):=by
  rw[hwc0] at hen2 ⊢
  exact⟨⟨_,Link.append.2 ⟨_,hface2.link hpk' h'.faces.to_,hface2.symm.link hpk' h'.faces.to_⟩⟩,hface2.tn,hen2,fun d hd=>mem_darts.2 (hpb' _ (mem_darts.1 (hface2.dr d hd))),fun d hd=>by
   have:=(h'.on _).2 (hpk'.tail_mem (hface2.dr d hd)).1
   rw[←hwc0];exact this⟩
 have hχC1:Col g b rt (chn (x :: A++twins w)) χ1:=hχ1.congr fun e _=>by rw[chn_append,chn_twins]
 have hχC2:Col g b rt (chn (w++y :: B)) χ2:=hχ2.congr fun e _=>by rw[chn_append,Bool.xor_comm]
 -- their vertices
 have hmA:(x :: A++y :: B).map g.tail=a0 :: A.map g.tail++z :: B.map g.tail:=by rw[List.map_append,List.map_cons,List.map_cons,c3,c4]
 have hwt:w.map g.tail=a0 :: l.map g.tail:=by
  have:=hws.link
  rw[hwc0] at this ⊢
  rw[List.map_cons,this.1]
 have htwt:(twins w).map g.tail=z :: (l.map g.tail).reverse:=by
  have h1:=hws.link
  rw[hwc0] at h1
  have h2:=heads_tails h1
  unfold twins
  rw[List.map_reverse,List.map_map,hwc0]
  have:(g.tail ∘ twin)=g.head:=by funext d;exact tail_twin g d
  rw[this,h2,List.reverse_append];rfl
 have hm1:(x :: A++twins w).map g.tail=a0 :: A.map g.tail++z :: (l.map g.tail).reverse:=by rw[List.map_append,htwt,List.map_cons,c3]
 have hm2:(w++y :: B).map g.tail=a0 :: l.map g.tail++z :: B.map g.tail:=by rw[List.map_append,hwt,List.map_cons,c4]
 have hrm:Rolled (old.map g.tail) (a0 :: A.map g.tail++z :: B.map g.tail):=by rw[←hmA];exact rolled_mapf g.tail hroll
 have hrq2:Rolled (a0 :: A.map g.tail++z :: B.map g.tail) (z :: B.map g.tail++a0 :: A.map g.tail):=⟨_,_,rfl,rfl⟩
 have hrq3:Rolled (a0 :: l.map g.tail++z :: B.map g.tail) (z :: B.map g.tail++a0 :: l.map g.tail):=⟨_,_,rfl,rfl⟩
 have nL:(a0 :: A.map g.tail++z :: B.map g.tail).Nodup:=by rw[←hmA];exact hface.tn
 have nL1:(a0 :: A.map g.tail++z :: (l.map g.tail).reverse).Nodup:=by rw[←hm1];exact hC1.tn
 have nL2:(a0 :: l.map g.tail++z :: B.map g.tail).Nodup:=by rw[←hm2];exact hC2.tn
 have nLr:=(hrq2.perm.nodup_iff).1 nL
 have nL2r:=(hrq3.perm.nodup_iff).1 nL2
 have hinner:∀ v∈l.map g.tail,s.on v=false:=fun v hv=>by
  obtain⟨d,hd,rfl⟩:=List.mem_map.1 hv
  exact hws.inn d (by rw[hwc0];exact hd)
 generalize hA':A.map g.tail=A' at *
 generalize hB':B.map g.tail=B' at *
 generalize hI:l.map g.tail=I at *
 have hcL:∀ v∈c.ends,v∈a0 :: A'++z :: B':=fun v hv=>by
  obtain⟨d,hd,e⟩:=hasV_iff.1 (hfh v hv)
  exact hrm.perm.mem_iff.1 (List.mem_map.2 ⟨d,hd,e⟩)
 -- the rule
 let k:Int:=s.faces.length
 have hfk:f≠k:=fun q=>by have:f=(s.faces.length:Int):=q;omega
 let a':List Int→Int:=fun E =>
  if ∃ e∈E,e∈c.edges then (if χ1 (2*E.headD 0)=α1 then k else f)
  else if a E=f then (if ∃ v∈endsOf g s.on E,v∈B' then k else if ∃ v∈endsOf g s.on E,v∈A' then f else if ∃ v∈c.ends,v∈A' then k else f)
  else a E
 -- what is new
 have hnew:∀ r∈scraps g (onTo g s.on w) F' (without c.edges w) [f,k],(∀ e∈r.edges,e∈c.edges∧∀ d∈w,d / 2≠e):=fun r hr e he=>by
  obtain⟨gl,hgl,rfl⟩:=List.mem_map.1 hr
  have hso:=scJoin_ok g (onTo g s.on w) (without c.edges w)
  have:=(groups_mem hso.ok hgl).2.1 e he
  rw[hso.all,new_all_nodup (show (without c.edges w).Nodup from hcn.filter _)] at this
  exact mem_without.1 this
 have hclass:∀ r∈(s.rest.eraseIdx i).map (refit g F' f k)++scraps g (onTo g s.on w) F' (without c.edges w) [f,k],
   (∃ r0∈s.rest,r.edges=r0.edges∧r.ends=r0.ends∧∀ e∈r0.edges,e ∉ c.edges)∨(ScrOk g b (onTo g s.on w) F' r∧∀ e∈r.edges,e∈c.edges∧∀ d∈w,d / 2≠e):=fun r hr=>by
  rcases List.mem_append.1 hr with q | q
  ·obtain⟨r0,hr0,rfl⟩:=List.mem_map.1 q
   rw[hse] at hr0
   have hrR:r0∈R1∨r0∈R2:=List.mem_append.1 hr0
   refine Or.inl ⟨r0,by rw[hsp];rcases hrR with j | j <;> simp[j],(refit_edges g F' f k r0).1,(refit_edges g F' f k r0).2,fun e he q=>hcR e q r0 hrR he⟩
  exact Or.inr ⟨h'.scr r hr,hnew r q⟩
 have hone:=(h'.part.nodup_iff).2 hbk.en
 have hone:=(List.nodup_append.1 hone).2.1
 have hdisj:∀ r∈(s.rest.eraseIdx i).map (refit g F' f k)++scraps g (onTo g s.on w) F' (without c.edges w) [f,k],∀ r2∈(s.rest.eraseIdx i).map (refit g F' f k)++scraps g (onTo g s.on w) F' (without c.edges w) [f,k],r.edges≠r2.edges→∀ e∈r.edges,e ∉ r2.edges:=fun r hr r2 hr2 hne e he q =>
  hne (list_one hone (List.mem_map.2 ⟨r,hr,rfl⟩) (List.mem_map.2 ⟨r2,hr2,rfl⟩) he q)
 have hhead:∀ r∈(s.rest.eraseIdx i).map (refit g F' f k)++scraps g (onTo g s.on w) F' (without c.edges w) [f,k],r.edges.headD 0∈r.edges:=fun r hr=>by
  have hk:=h'.scr r hr
  have h2:=hk.two
  obtain⟨v,hv⟩:=List.exists_mem_of_length_pos (l:=r.ends) (by omega)
  rw[hk.ends] at hv
  obtain⟨-,e,he,-⟩:=mem_endsOf.1 hv
  cases hq:r.edges with
  | nil=>rw[hq] at he;simp at he
  | cons e l=>simp
 have hA1:∀ v,v∈a0 :: A'++[z]↔v=a0∨v∈A'∨v=z:=fun v=>by simp
 have hB1:∀ v,v∈z :: B'++[a0]↔v=z∨v∈B'∨v=a0:=fun v=>by simp
 have hL4:∀ v,v∈a0 :: A'++z :: B'↔v=a0∨v∈A'∨v=z∨v∈B':=fun v=>by simp
 have hold0:∀ r0∈s.rest,(∀ e∈r0.edges,e ∉ c.edges)→a r0.edges=f→(∀ v∈r0.ends,v∈a0 :: A'++z :: B')∧¬ Conf (a0 :: A'++z :: B') c.ends r0.ends:=fun r0 hr0 hd ha=>by
  obtain⟨-,-,j3⟩:=hE.pos r0 hr0
  rw[ha,hold2] at j3
  refine⟨fun v hv=>hrm.perm.mem_iff.1 (j3 v hv),fun q=>?_⟩
  have hne:c.edges≠r0.edges:=fun q=>hd e0 (q ▸ he0) he0
  have:=hE.conf c hcm r0 hr0 hne (by rw[hfa,ha])
  rw[hfa,hold2] at this
  exact this (q.rolled hrm.symm)
 -- each scrap and its place
 have hinfo:∀ r∈(s.rest.eraseIdx i).map (refit g F' f k)++scraps g (onTo g s.on w) F' (without c.edges w) [f,k],
   (a' r.edges=f∧χ1 (2*r.edges.headD 0)=(!α1)∧(∀ e∈r.edges,e∈c.edges∧∀ d∈w,d / 2≠e)∧∀ v∈r.ends,(v∈c.ends∧v∈a0 :: A'++[z])∨v∈I.reverse) ∨
   (a' r.edges=k∧χ2 (2*r.edges.headD 0)=(!α2)∧(∀ e∈r.edges,e∈c.edges∧∀ d∈w,d / 2≠e)∧∀ v∈r.ends,(v∈c.ends∧v∈z :: B'++[a0])∨v∈I) ∨
   (∃ r0∈s.rest,r.edges=r0.edges∧r.ends=r0.ends∧(∀ e∈r0.edges,e ∉ c.edges)∧a r0.edges=f∧a' r.edges=f∧(∀ v∈r0.ends,v∈a0 :: A'++[z])∧((∀ v∈r0.ends,v ∉ A')→∀ v∈c.ends,v ∉ A')) ∨
   (∃ r0∈s.rest,r.edges=r0.edges∧r.ends=r0.ends∧(∀ e∈r0.edges,e ∉ c.edges)∧a r0.edges=f∧a' r.edges=k∧(∀ v∈r0.ends,v∈z :: B'++[a0])∧((∀ v∈r0.ends,v ∉ B')→∀ v∈c.ends,v ∉ B')) ∨
   ∃ r0∈s.rest,r.edges=r0.edges∧r.ends=r0.ends∧a r0.edges≠f∧a' r.edges=a r0.edges:=by
  intro r hr
  have hh:=hhead r hr
  rcases hclass r hr with ⟨r0,hr0,j1,j2,j3⟩ | ⟨j1,j2⟩
  ·have hno:¬ ∃ e∈r.edges,e∈c.edges:=fun ⟨e,he,q⟩=>j3 e (j1 ▸ he) q
   have he':endsOf g s.on r.edges=r0.ends:=by rw[j1,(h.scr r0 hr0).ends]
   by_cases hafr:a r0.edges=f
   ·obtain⟨i1,i2⟩:=hold0 r0 hr0 j3 hafr
    have ea:a' r.edges=if ∃ v∈r0.ends,v∈B' then k else if ∃ v∈r0.ends,v∈A' then f else if ∃ v∈c.ends,v∈A' then k else f:=by
     show (if _ then _ else if _ then _ else _)=_
     rw[if_neg hno,if_pos (by rw[j1];exact hafr),he']
    by_cases p1:∃ v∈r0.ends,v∈B'
    ·refine Or.inr (Or.inr (Or.inr (Or.inl ⟨r0,hr0,j1,j2,j3,hafr,by rw[ea,if_pos p1],fun v hv=>?_,fun q=>?_⟩)))
     ·rw[hB1]
      rcases (hL4 v).1 (i1 v hv) with q | q | q | q
      ·exact Or.inr (Or.inr q)
      ·obtain⟨u,hu,huB⟩:=p1
       exact (side_one hae hzin i2 hv hu q huB).elim
      ·exact Or.inl q
      exact Or.inr (Or.inl q)
     obtain⟨u,hu,huB⟩:=p1
     exact absurd huB (q u hu)
    have noB:∀ v∈r0.ends,v∈a0 :: A'++[z]:=fun v hv=>by
     rw[hA1]
     rcases (hL4 v).1 (i1 v hv) with q | q | q | q
     ·exact Or.inl q
     ·exact Or.inr (Or.inl q)
     ·exact Or.inr (Or.inr q)
     exact absurd ⟨v,hv,q⟩ p1
    by_cases p2:∃ v∈r0.ends,v∈A'
    ·refine Or.inr (Or.inr (Or.inl ⟨r0,hr0,j1,j2,j3,hafr,by rw[ea,if_neg p1,if_pos p2],noB,fun q=>?_⟩))
     obtain⟨u,hu,huA⟩:=p2
     exact absurd huA (q u hu)
    by_cases p3:∃ v∈c.ends,v∈A'
    ·have two:∀ v∈r0.ends,v=a0∨v=z:=fun v hv=>by
      rcases (hA1 v).1 (noB v hv) with q | q | q
      ·exact Or.inl q
      ·exact absurd ⟨v,hv,q⟩ p2
      exact Or.inr q
     refine Or.inr (Or.inr (Or.inr (Or.inl ⟨r0,hr0,j1,j2,j3,hafr,by rw[ea,if_neg p1,if_neg p2,if_pos p3],fun v hv=>?_,fun _ v hv hvB=>?_⟩)))
     ·rw[hB1]
      rcases two v hv with q | q
      ·exact Or.inr (Or.inr q)
      exact Or.inl q
     have hr0k:=h.scr r0 hr0
     have hnd0:r0.ends.Nodup:=by rw[hr0k.ends];exact endsOf_nodup g s.on r0.edges
     have hboth:a0∈r0.ends∧z∈r0.ends:=by
      have h2:=hr0k.two
      match hL:r0.ends with
      | []=>rw[hL] at h2;simp at h2
      | [_]=>rw[hL] at h2;simp at h2
      | u1 :: u2 :: l2 =>
       rw[hL] at hnd0 two
       have hne12:u1≠u2:=fun q=>by rw[q] at hnd0;simp at hnd0
       rcases two u1 (by simp) with q | q <;> rcases two u2 (by simp) with r | r
       ·exact absurd (q.trans r.symm) hne12
       ·rw[q,r];simp
       ·rw[q,r];simp
       exact absurd (q.trans r.symm) hne12
     obtain⟨u,hu,huA⟩:=p3
     exact side_one hboth.1 hboth.2 (fun q=>i2 q.symm) hu hv huA hvB
    exact Or.inr (Or.inr (Or.inl ⟨r0,hr0,j1,j2,j3,hafr,by rw[ea,if_neg p1,if_neg p2,if_neg p3],noB,fun _ v hv q=>p3 ⟨v,hv,q⟩⟩))
   refine Or.inr (Or.inr (Or.inr (Or.inr ⟨r0,hr0,j1,j2,hafr,?_⟩)))
   show (if _ then _ else if _ then _ else _)=_
   rw[if_neg hno,if_neg (by rw[j1];exact hafr),j1]
  have hyes:∃ e∈r.edges,e∈c.edges:=⟨_,hh,(j2 _ hh).1⟩
  have ea:a' r.edges=if χ1 (2*r.edges.headD 0)=α1 then k else f:=by
   show (if _ then _ else _)=_
   rw[if_pos hyes]
  have hbr:Blob g b (onTo g s.on w) r.edges:=⟨j1.hang,j1.shut,j1.sub⟩
  have ho1:∀ d∈x :: A++twins w,d / 2 ∉ r.edges:=fun d hd q=>by
   rcases List.mem_append.1 hd with t | t
   ·exact hcp _ (j2 _ q).1 (hAp d (m1 t))
   have:=(j2 _ q).2 _ (twins_mem.1 t)
   rw[twin_div] at this;exact this rfl
  have ho2:∀ d∈w++y :: B,d / 2 ∉ r.edges:=fun d hd q=>by
   rcases List.mem_append.1 hd with t | t
   ·exact (j2 _ q).2 d t rfl
   exact hcp _ (j2 _ q).1 (hAp d (m2 t))
  have hcol1:=hbr.cycle hbk ht hC1 ho1 hχC1
  have hcol2:=hbr.cycle hbk ht hC2 ho2 hχC2
  have hd2:2*r.edges.headD 0 / 2=r.edges.headD 0:=by omega
  have hdb:2*r.edges.headD 0∈b.darts:=mem_darts.2 (by rw[hd2];exact j1.sub _ hh)
  have hend:∀ v∈r.ends,(v∈I)∨(v∈c.ends∧∃ u∈b.darts,g.tail u=v∧u / 2∈r.edges):=fun v hv=>by
   rw[j1.ends] at hv
   obtain⟨ov,e,he,hev⟩:=mem_endsOf.1 hv
   by_cases os:s.on v=true
   ·refine Or.inr ⟨by rw[hc.ends];exact mem_endsOf.2 ⟨os,e,(j2 e he).1,hev⟩,?_⟩
    obtain⟨u,n1,n2,rfl⟩:=end_dart' (j1.sub e he) hev
    exact⟨u,n1,n2,he⟩
   rcases (hon' v).1 ov with q | q
   ·exact absurd q os
   rw[hwt] at q
   rcases List.mem_cons.1 q with q | q
   ·rw[q] at os;exact absurd hoa os
   exact Or.inl q
  by_cases hc1:χ1 (2*r.edges.headD 0)=α1
  ·have hc2:=hflip _ hdb (by rw[hd2];exact (j2 _ hh).1) hc1
   refine Or.inr (Or.inl ⟨by rw[ea,if_pos hc1],hc2,j2,fun v hv=>?_⟩)
   rcases hend v hv with q | ⟨q,u,n1,n2,n3⟩
   ·exact Or.inr q
   refine Or.inl ⟨q,?_⟩
   rw[hB1]
   rcases (hL4 v).1 (hcL v q) with t | t | t | t
   ·exact Or.inr (Or.inr t)
   ·exfalso
    rw[←hA'] at t
    obtain⟨d,d1,d2⟩:=List.mem_map.1 t
    have hne:g.tail d≠a0:=fun q=>by
     have:=nL
     simp only[List.cons_append,List.nodup_cons] at this
     exact this.1 (by rw[←q,←hA'];simp;exact Or.inl ⟨d,d1,rfl⟩)
    have e1:=u5 d (List.mem_cons_of_mem _ d1) hne u n1 (n2.trans d2.symm)
    have e2:=hcol2 u n1 n3 _ hdb (by rw[hd2];exact hh)
    rw[e1,hc2] at e2
    cases α2 <;> cases e2
   ·exact Or.inl t
   exact Or.inr (Or.inl t)
  have hc1':χ1 (2*r.edges.headD 0)=(!α1):=by
   revert hc1
   cases χ1 (2*r.edges.headD 0) <;> cases α1 <;> simp
  refine Or.inl ⟨by rw[ea,if_neg hc1],hc1',j2,fun v hv=>?_⟩
  rcases hend v hv with q | ⟨q,u,n1,n2,n3⟩
  ·exact Or.inr (List.mem_reverse.2 q)
  refine Or.inl ⟨q,?_⟩
  rw[hA1]
  rcases (hL4 v).1 (hcL v q) with t | t | t | t
  ·exact Or.inl t
  ·exact Or.inr (Or.inl t)
  ·exact Or.inr (Or.inr t)
  exfalso
  rw[←hB'] at t
  obtain⟨d,d1,d2⟩:=List.mem_map.1 t
  have hne:g.tail d≠z:=fun q=>by
   have:=nLr
   simp only[List.cons_append,List.nodup_cons] at this
   exact this.1 (by rw[←q,←hB'];simp;exact Or.inl ⟨d,d1,rfl⟩)
  have e1:=t5 d (List.mem_cons_of_mem _ d1) hne u n1 (n2.trans d2.symm)
  have e2:=hcol1 u n1 n3 _ hdb (by rw[hd2];exact hh)
  rw[e1] at e2
  exact hc1 e2.symm
 have hff':faceAt F' f=x :: A++twins w:=f2
 have hfk':faceAt F' k=w++y :: B:=f3
 have hpre1:∀ {v},v∈a0 :: A'++[z]→v∈a0 :: A'++z :: I.reverse:=fun {v} q=>by
  rcases (hA1 v).1 q with t | t | t
  ·rw[t];simp
  ·simp[t]
  rw[t];simp
 have hpre2:∀ {v},v∈z :: B'++[a0]→v∈a0 :: I++z :: B':=fun {v} q=>by
  rcases (hB1 v).1 q with t | t | t
  ·rw[t];simp
  ·simp[t]
  rw[t];simp
 have hlenF:F'.length=s.faces.length+1:=f4
 have hko:∀ r0∈s.rest,a r0.edges≠k:=fun r0 hr0 q=>by
  have:=(hE.pos r0 hr0).2.1
  rw[q] at this
  have:((s.faces.length:Int)).toNat<s.faces.length:=this
  omega
 refine⟨a',fun r hr=>?_,fun r hr r2 hr2 hne haa=>?_,fun fc hfc=>?_⟩
 ·show 0≤a' r.edges∧(a' r.edges).toNat<F'.length∧∀ v∈r.ends,v∈(faceAt F' (a' r.edges)).map g.tail
  have hk0:(0:Int)≤k∧k.toNat<F'.length:=by
   have:k=(s.faces.length:Int):=rfl
   omega
  rcases hinfo r hr with ⟨e1,-,-,e2⟩ | ⟨e1,-,-,e2⟩ | ⟨r0,hr0,-,e3,-,-,e1,e2,-⟩ | ⟨r0,hr0,-,e3,-,-,e1,e2,-⟩ | ⟨r0,hr0,-,e3,e4,e1⟩
  ·rw[e1,hff',hm1]
   refine⟨hf0,by omega,fun v hv=>?_⟩
   rcases e2 v hv with ⟨-,q⟩ | q
   ·exact hpre1 q
   simp only[List.mem_reverse] at q;simp[q]
  ·rw[e1,hfk',hm2]
   refine⟨hk0.1,hk0.2,fun v hv=>?_⟩
   rcases e2 v hv with ⟨-,q⟩ | q
   ·exact hpre2 q
   simp[q]
  ·rw[e1,hff',hm1]
   exact⟨hf0,by omega,fun v hv=>hpre1 (e2 v (e3 ▸ hv))⟩
  ·rw[e1,hfk',hm2]
   exact⟨hk0.1,hk0.2,fun v hv=>hpre2 (e2 v (e3 ▸ hv))⟩
  obtain⟨n1,n2,n3⟩:=hE.pos r0 hr0
  rw[e1,f1 _ n1 n2 e4,e3]
  exact⟨n1,by omega,n3⟩
 ·show ¬ Conf ((faceAt F' (a' r.edges)).map g.tail) r.ends r2.ends
  -- new ones
  have bl:∀ r∈(s.rest.eraseIdx i).map (refit g F' f k)++scraps g (onTo g s.on w) F' (without c.edges w) [f,k],Blob g b (onTo g s.on w) r.edges:=fun r hr=>⟨(h'.scr r hr).hang,(h'.scr r hr).shut,(h'.scr r hr).sub⟩
  have dh:∀ r∈(s.rest.eraseIdx i).map (refit g F' f k)++scraps g (onTo g s.on w) F' (without c.edges w) [f,k],2*r.edges.headD 0∈b.darts∧2*r.edges.headD 0 / 2∈r.edges:=fun r hr=>by
   have hd2:2*r.edges.headD 0 / 2=r.edges.headD 0:=by omega
   exact⟨mem_darts.2 (by rw[hd2];exact (h'.scr r hr).sub _ (hhead r hr)),by rw[hd2];exact hhead r hr⟩
  have ho1:∀ {r:Scrap},(∀ e∈r.edges,e∈c.edges∧∀ d∈w,d / 2≠e)→∀ d∈x :: A++twins w,d / 2 ∉ r.edges:=fun {r} j2 d hd q=>by
   rcases List.mem_append.1 hd with t | t
   ·exact hcp _ (j2 _ q).1 (hAp d (m1 t))
   have:=(j2 _ q).2 _ (twins_mem.1 t)
   rw[twin_div] at this;exact this rfl
  have ho2:∀ {r:Scrap},(∀ e∈r.edges,e∈c.edges∧∀ d∈w,d / 2≠e)→∀ d∈w++y :: B,d / 2 ∉ r.edges:=fun {r} j2 d hd q=>by
   rcases List.mem_append.1 hd with t | t
   ·exact (j2 _ q).2 d t rfl
   exact hcp _ (j2 _ q).1 (hAp d (m2 t))
  have nn1:∀ {r r2:Scrap},r∈(s.rest.eraseIdx i).map (refit g F' f k)++scraps g (onTo g s.on w) F' (without c.edges w) [f,k]→r2∈(s.rest.eraseIdx i).map (refit g F' f k)++scraps g (onTo g s.on w) F' (without c.edges w) [f,k]→r.edges≠r2.edges →
    χ1 (2*r.edges.headD 0)=(!α1)→χ1 (2*r2.edges.headD 0)=(!α1)→(∀ e∈r.edges,e∈c.edges∧∀ d∈w,d / 2≠e)→(∀ e∈r2.edges,e∈c.edges∧∀ d∈w,d / 2≠e)→(∀ v∈r.ends,v∈(x :: A++twins w).map g.tail)→¬ Conf ((x :: A++twins w).map g.tail) r.ends r2.ends:=fun {r r2} hr hr2 hne n1 n2 n3 n4 n5=>by
   have q1:=(h'.scr r hr).ends
   have q2:=(h'.scr r2 hr2).ends
   rw[q1] at n5 ⊢
   rw[q2]
   exact same_side hR hl hC1 hχC1 (bl r hr) (bl r2 hr2) (hdisj r hr r2 hr2 hne) (ho1 n3) (ho1 n4) (dh r hr).1 (dh r hr).2 (dh r2 hr2).1 (dh r2 hr2).2 (n1.trans n2.symm) n5
  have nn2:∀ {r r2:Scrap},r∈(s.rest.eraseIdx i).map (refit g F' f k)++scraps g (onTo g s.on w) F' (without c.edges w) [f,k]→r2∈(s.rest.eraseIdx i).map (refit g F' f k)++scraps g (onTo g s.on w) F' (without c.edges w) [f,k]→r.edges≠r2.edges →
    χ2 (2*r.edges.headD 0)=(!α2)→χ2 (2*r2.edges.headD 0)=(!α2)→(∀ e∈r.edges,e∈c.edges∧∀ d∈w,d / 2≠e)→(∀ e∈r2.edges,e∈c.edges∧∀ d∈w,d / 2≠e)→(∀ v∈r.ends,v∈(w++y :: B).map g.tail)→¬ Conf ((w++y :: B).map g.tail) r.ends r2.ends:=fun {r r2} hr hr2 hne n1 n2 n3 n4 n5=>by
   have q1:=(h'.scr r hr).ends
   have q2:=(h'.scr r2 hr2).ends
   rw[q1] at n5 ⊢
   rw[q2]
   exact same_side hR hl hC2 hχC2 (bl r hr) (bl r2 hr2) (hdisj r hr r2 hr2 hne) (ho2 n3) (ho2 n4) (dh r hr).1 (dh r hr).2 (dh r2 hr2).1 (dh r2 hr2).2 (n1.trans n2.symm) n5
  -- old ones
  have oo:∀ {r0 r3:Scrap},r0∈s.rest→r3∈s.rest→r0.edges≠r3.edges→a r0.edges=f→a r3.edges=f→¬ Conf (a0 :: A'++z :: B') r0.ends r3.ends:=fun {r0 r3} n1 n2 n3 n4 n5 q=>by
   have:=hE.conf r0 n1 r3 n2 n3 (by rw[n4,n5])
   rw[n4,hold2] at this
   exact this (q.rolled hrm.symm)
  have pf:∀ {r r3:Scrap},r3∈s.rest→(∀ e∈r3.edges,e ∉ c.edges)→a r3.edges=f→(∀ v∈r.ends,(v∈c.ends∧v∈a0 :: A'++[z])∨v∈I.reverse)→(∀ v∈r3.ends,v∈a0 :: A'++[z])→((∀ v∈r3.ends,v ∉ A')→∀ v∈c.ends,v ∉ A')→¬ Conf (a0 :: A'++z :: I.reverse) r3.ends r.ends:=fun {r r3} n1 n2 n3 n4 n5 n6 =>
   side_piece nL nL1 n5 hae hzin n4 n6 (hold0 r3 n1 n2 n3).2
  have pk:∀ {r r3:Scrap},r3∈s.rest→(∀ e∈r3.edges,e ∉ c.edges)→a r3.edges=f→(∀ v∈r.ends,(v∈c.ends∧v∈z :: B'++[a0])∨v∈I)→(∀ v∈r3.ends,v∈z :: B'++[a0])→((∀ v∈r3.ends,v ∉ B')→∀ v∈c.ends,v ∉ B')→¬ Conf (a0 :: I++z :: B') r3.ends r.ends:=fun {r r3} n1 n2 n3 n4 n5 n6 q =>
   side_piece nLr nL2r n5 hzin hae n4 n6 (fun t=>(hold0 r3 n1 n2 n3).2 (t.rolled hrq2.symm)) (q.rolled hrq3)
  have endf:∀ {r:Scrap},(∀ v∈r.ends,(v∈c.ends∧v∈a0 :: A'++[z])∨v∈I.reverse)→∀ v∈r.ends,v∈(x :: A++twins w).map g.tail:=fun {r} n v hv=>by
   rw[hm1]
   rcases n v hv with ⟨-,q⟩ | q
   ·exact hpre1 q
   simp only[List.mem_reverse] at q;simp[q]
  have endk:∀ {r:Scrap},(∀ v∈r.ends,(v∈c.ends∧v∈z :: B'++[a0])∨v∈I)→∀ v∈r.ends,v∈(w++y :: B).map g.tail:=fun {r} n v hv=>by
   rw[hm2]
   rcases n v hv with ⟨-,q⟩ | q
   ·exact hpre2 q
   simp[q]
  rcases hinfo r hr with ⟨e1,e5,e6,e2⟩ | ⟨e1,e5,e6,e2⟩ | ⟨r0,hr0,e7,e3,e5,e6,e1,e2,e4⟩ | ⟨r0,hr0,e7,e3,e5,e6,e1,e2,e4⟩ | ⟨r0,hr0,e7,e3,e4,e1⟩
  ·rw[e1,hff']
   rcases hinfo r2 hr2 with ⟨s1,s5,s6,s2⟩ | ⟨s1,s5,s6,s2⟩ | ⟨r3,hr3,s7,s3,s5,s6,s1,s2,s4⟩ | ⟨r3,hr3,s7,s3,s5,s6,s1,s2,s4⟩ | ⟨r3,hr3,s7,s3,s4,s1⟩ <;> rw[e1,s1] at haa
   ·exact nn1 hr hr2 hne e5 s5 e6 s6 (endf e2)
   ·exact absurd haa hfk
   ·rw[hm1,s3]
    exact fun q=>pf hr3 s5 s6 e2 s2 s4 q.symm
   ·exact absurd haa hfk
   exact absurd haa.symm s4
  ·rw[e1,hfk']
   rcases hinfo r2 hr2 with ⟨s1,s5,s6,s2⟩ | ⟨s1,s5,s6,s2⟩ | ⟨r3,hr3,s7,s3,s5,s6,s1,s2,s4⟩ | ⟨r3,hr3,s7,s3,s5,s6,s1,s2,s4⟩ | ⟨r3,hr3,s7,s3,s4,s1⟩ <;> rw[e1,s1] at haa
   ·exact absurd haa.symm hfk
   ·exact nn2 hr hr2 hne e5 s5 e6 s6 (endk e2)
   ·exact absurd haa.symm hfk
   ·rw[hm2,s3]
    exact fun q=>pk hr3 s5 s6 e2 s2 s4 q.symm
   exact absurd haa.symm (hko r3 hr3)
  ·rw[e1,hff',hm1,e3]
   rcases hinfo r2 hr2 with ⟨s1,s5,s6,s2⟩ | ⟨s1,s5,s6,s2⟩ | ⟨r3,hr3,s7,s3,s5,s6,s1,s2,s4⟩ | ⟨r3,hr3,s7,s3,s5,s6,s1,s2,s4⟩ | ⟨r3,hr3,s7,s3,s4,s1⟩ <;> rw[e1,s1] at haa
   ·exact pf hr0 e5 e6 s2 e2 e4
   ·exact absurd haa hfk
   ·rw[s3]
    exact fun q=>oo hr0 hr3 (by rw[←e7,←s7];exact hne) e6 s6 (side_same nL nL1 e2 s2 q)
   ·exact absurd haa hfk
   exact absurd haa.symm s4
  ·rw[e1,hfk',hm2,e3]
   rcases hinfo r2 hr2 with ⟨s1,s5,s6,s2⟩ | ⟨s1,s5,s6,s2⟩ | ⟨r3,hr3,s7,s3,s5,s6,s1,s2,s4⟩ | ⟨r3,hr3,s7,s3,s5,s6,s1,s2,s4⟩ | ⟨r3,hr3,s7,s3,s4,s1⟩ <;> rw[e1,s1] at haa
   ·exact absurd haa.symm hfk
   ·exact pk hr0 e5 e6 s2 e2 e4
   ·exact absurd haa.symm hfk
   ·rw[s3]
    exact fun q=>oo hr0 hr3 (by rw[←e7,←s7];exact hne) e6 s6 ((side_same nLr nL2r e2 s2 (q.rolled hrq3)).rolled hrq2.symm)
   exact absurd haa.symm (hko r3 hr3)
  obtain⟨n1,n2,-⟩:=hE.pos r0 hr0
  rw[e1,f1 _ n1 n2 e4,e3]
  rcases hinfo r2 hr2 with ⟨s1,s5,s6,s2⟩ | ⟨s1,s5,s6,s2⟩ | ⟨r3,hr3,s7,s3,s5,s6,s1,s2,s4⟩ | ⟨r3,hr3,s7,s3,s5,s6,s1,s2,s4⟩ | ⟨r3,hr3,s7,s3,s4,s1⟩ <;> rw[e1,s1] at haa
  ·exact absurd haa e4
  ·exact absurd haa (hko r0 hr0)
  ·exact absurd haa e4
  ·exact absurd haa (hko r0 hr0)
  rw[s3]
  exact hE.conf r0 hr0 r3 hr3 (by rw[←e7,←s7];exact hne) haa
 have hfc:fc∈F':=hfc
 rw[←hF'] at hfc
 rcases List.mem_append.1 hfc with q | q
 ·rcases List.mem_or_eq_of_mem_set q with t | t
  ·exact hE.en fc t
  rw[t];exact hen1
 rw[List.mem_singleton.1 q];exact hen2
end Go.Proofs.Ytbkjljffnkdcjaa.Plain
