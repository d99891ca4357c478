/- ref17.Add at a drawing: contract. Conditions: a graph, a part, a plan that lie in memory and read so, of a bounded size. -/
import Derived.Test.YtkacjmoamgjfpaaGreatA9AddW
import Derived.Test.YtkacjmoamgjfpaaGreatA9Awk17
namespace Go.Proofs.YtkacjmoamgjfpaaGreat
open Go.RowKit Go.Maps
namespace aA
def mT (R:List (List Int)) (n:Nat) (x:Int) (i:Nat):List (List Int):=if i=n then [orL (R.getD i []) [x]] else if 1<(R.getD i []).length then [R.getD i []] else []
def kH (R:List (List Int)) (n:Nat) (x:Int) (k:Nat):List (List Int):=(List.range k).flatMap (mT R n x)
theorem nW (R:List (List Int)) (n:Nat) (x:Int) (k:Nat):kH R n x (k+1)=kH R n x k++mT R n x k:=by
 unfold kH;rw[List.range_succ,List.flatMap_append];simp
theorem qX (R:List (List Int)) (n:Nat) (x:Int):∀ k,(kH R n x k).length≤k
 | 0=>Nat.le_refl 0
 | k+1=>by
  have:=qX R n x k;rw[nW,List.length_append];have h2:(mT R n x k).length≤1:=by
   unfold mT;split
   ·simp
   split <;> simp
  omega
theorem aDv {R:List (List Int)} {n:Nat} {x:Int} {k:Nat} (hk:k≤R.length) {l:List Int} (h:l∈kH R n x k):∃ m∈R,l=m∨l=orL m [x]:=by
 obtain⟨i,hi,h⟩:=List.mem_flatMap.1 h;have hi:i<k:=List.mem_range.1 hi;have hm:R.getD i []∈R:=cO (by omega);unfold mT at h;split at h
 ·exact⟨_,hm,Or.inr (List.mem_singleton.1 h)⟩
 split at h
 ·exact⟨_,hm,Or.inl (List.mem_singleton.1 h)⟩
 simp at h
theorem aEP {R:List (List Int)} {n:Nat} {x:Int} (hr:∀ l∈R,l.Pairwise (·<·)) (hne:∀ l∈R,l≠[]) (hx:∀ l∈R,x ∉ l):kH R n x R.length=jG R n x:=by
 have hor:∀ l∈R,orL l [x]=sorted (l++[x]):=fun l hl=>by
  have hn:(l++[x]).Nodup:=by
   rw[List.nodup_append];exact⟨(hr l hl).imp fun h=>by omega,by simp,fun a ha b hb e=>hx l hl (by rw[←List.mem_singleton.1 hb,←e];exact ha)⟩
  exact (pT hn (mL (hr l hl) (List.pairwise_singleton _ _)) fun y=>by rw[eO,List.mem_append]).symm
 have hso:∀ l∈R,sorted l=l:=fun l hl=>pT ((hr l hl).imp fun h=>by omega) (hr l hl) fun _=>Iff.rfl;have key:∀ k,k≤R.length→kH R n x k=(((R.set n (R.getD n []++[x])).take k).filter fun l=>decide (1<l.length)).map sorted:=by
  intro k
  induction k with
  | zero=>intro _;rfl
  | succ k ih =>
   intro hk;have hkl:k<(R.set n (R.getD n []++[x])).length:=by simp;omega
   rw[nW,ih (by omega),List.take_succ_eq_append_getElem hkl,List.filter_append,List.map_append]
   congr 1
   have hm:R.getD k []∈R:=cO (by omega);have hg:R.getD k []=R[k]'(by omega):=by simp[List.getD,show k<R.length by omega]
   unfold mT;rw[List.getElem_set];by_cases e:k=n
   ·subst e
    have hl:=List.length_pos_iff.2 (hne _ hm);rw[if_pos rfl,if_pos rfl,List.filter_cons_of_pos (by rw[decide_eq_true_eq,List.length_append,List.length_singleton];omega),hor _ hm];rfl
   rw[if_neg e,if_neg (Ne.symm e),←hg];by_cases h1:1<(R.getD k []).length
   ·rw[if_pos h1,List.filter_cons_of_pos (by simpa using h1)]
    show [_]=[sorted _];rw[hso _ hm]
   rw[if_neg h1,List.filter_cons_of_neg (by simpa using h1)];rfl
 have:=key R.length (Nat.le_refl _);rw[this,List.take_of_length_le (by simp)];rfl
def nG (S A:List (List Int)) (m j:Nat):Prop:=m=0∨(S.getD (m - 1) []).getD 0 0<(A.getD j []).getD 0 0
def tU (S A:List (List Int)) (m j:Nat):Bool:=decide (m=0) || decide ((S.getD (m - 1) []).getD 0 0<(A.getD j []).getD 0 0)
theorem yN {S A:List (List Int)} {m j:Nat}:tU S A m j=true↔nG S A m j:=by
 unfold tU nG;rw[Bool.or_eq_true,decide_eq_true_iff,decide_eq_true_iff]
def lA (S A:List (List Int)) (m k:Nat) (b:Int):Prop:=(b = -1∧∀ j,j<k→¬ nG S A m j)∨∃ i:Nat,b=i∧i<k∧nG S A m i∧∀ j,j<k→nG S A m j→(A.getD i []).getD 0 0≤(A.getD j []).getD 0 0
theorem aBP (S A:List (List Int)) (m:Nat):lA S A m 0 (-1):=Or.inl ⟨rfl,fun j hj=>absurd hj (Nat.not_lt_zero j)⟩
theorem aAV {S A:List (List Int)} {m k:Nat} {b:Int} (h:lA S A m k b) (hn:¬ nG S A m k):lA S A m (k+1) b:=by
 rcases h with ⟨h1,h2⟩ | ⟨i,h1,h2,h3,h4⟩
 ·refine Or.inl ⟨h1,fun j hj=>?_⟩
  by_cases e:j=k
  ·rw[e];exact hn
  exact h2 j (by omega)
 refine Or.inr ⟨i,h1,by omega,h3,fun j hj hl=>?_⟩;by_cases e:j=k
 ·exact absurd (e ▸ hl) hn
 exact h4 j (by omega) hl
theorem aAg {S A:List (List Int)} {m k:Nat} {b:Int} (h:lA S A m k b) (hb:b<0) (hl:nG S A m k):lA S A m (k+1) k:=by
 rcases h with ⟨h1,h2⟩ | ⟨i,h1,h2,h3,h4⟩
 ·refine Or.inr ⟨k,rfl,by omega,hl,fun j hj hlj=>?_⟩
  by_cases e:j=k
  ·rw[e];exact Int.le_refl _
  exact absurd hlj (h2 j (by omega))
 omega
theorem aB8 {S A:List (List Int)} {m k i:Nat} (h:lA S A m k i) (hl:nG S A m k) (hlt:(A.getD k []).getD 0 0<(A.getD i []).getD 0 0):lA S A m (k+1) k:=by
 rcases h with ⟨h1,-⟩ | ⟨i',h1,h2,h3,h4⟩
 ·omega
 obtain rfl:i=i':=by omega
 refine Or.inr ⟨k,rfl,by omega,hl,fun j hj hlj=>?_⟩;by_cases e:j=k
 ·rw[e];exact Int.le_refl _
 have:=h4 j (by omega) hlj;omega
theorem aBO {S A:List (List Int)} {m k i:Nat} (h:lA S A m k i) (hge:¬ (A.getD k []).getD 0 0<(A.getD i []).getD 0 0):lA S A m (k+1) i:=by
 rcases h with ⟨h1,-⟩ | ⟨i',h1,h2,h3,h4⟩
 ·omega
 obtain rfl:i=i':=by omega
 refine Or.inr ⟨i,rfl,by omega,h3,fun j hj hlj=>?_⟩;by_cases e:j=k
 ·rw[e];omega
 exact h4 j (by omega) hlj
theorem aDh {S A:List (List Int)} {m:Nat} {b:Int} (hp:S.Perm A) (ho:S.Pairwise fun a b=>a.getD 0 0<b.getD 0 0) (hm:m<A.length) (h:lA S A m A.length b):∃ i:Nat,b=i∧i<A.length∧A.getD i []=S.getD m []:=by
 have hl:=hp.length_eq;have hlt:∀ i j,i<j→j<S.length→(S.getD i []).getD 0 0<(S.getD j []).getD 0 0:=fun i j hij hj=>by
  have:=List.pairwise_iff_getElem.1 ho i j (by omega) hj hij;simpa[List.getD,hj,show i<S.length by omega] using this
 have hat:∀ i,i<A.length→∃ j,j<S.length∧A.getD i []=S.getD j []:=fun i hi=>by
  obtain⟨j,hj,e⟩:=List.mem_iff_getElem.1 (hp.mem_iff.2 (cO hi));exact⟨j,hj,by rw[←e];simp[List.getD,hj]⟩
 obtain⟨i0,hi0,e0⟩:=List.mem_iff_getElem.1 (hp.mem_iff.1 (cO (show m<S.length by omega)));have e0:A.getD i0 []=S.getD m []:=by rw[←e0];simp[List.getD,hi0]
 have hl0:nG S A m i0:=by
  by_cases e:m=0
  ·exact Or.inl e
  refine Or.inr ?_;rw[e0];exact hlt _ _ (by omega) (by omega)
 rcases h with ⟨-,h2⟩ | ⟨i,h1,h2,h3,h4⟩
 ·exact absurd hl0 (h2 i0 hi0)
 refine⟨i,h1,h2,?_⟩;obtain⟨j,hj,ej⟩:=hat i h2;have h5:=h4 i0 hi0 hl0;rw[e0,ej] at h5;have hjm:j≤m:=Nat.le_of_not_lt fun q=>by have:=hlt m j q hj;omega
 have hmj:m≤j:=Nat.le_of_not_lt fun q=>by
  rcases h3 with r | r
  ·omega
  rw[ej] at r;by_cases e:j=m - 1
  ·rw[e] at r;omega
  have:=hlt j (m - 1) (by omega) (by omega);omega
 rw[ej,show j=m by omega]
end aA
theorem cG.head {w:World} {ao:Option Addr} {n c:Nat} {ll:List (List Int)} (h:cG w (.slice ao n c) ll) {k:Nat} (hk:k<ll.length) (hne:ll.getD k []≠[]):∃ b off uc rb roff,ao=some ⟨b,off,none⟩∧w.cell? ⟨b,off+k,none⟩=some (.slice (some ⟨rb,roff,none⟩) (ll.getD k []).length uc)∧w.cell? ⟨rb,roff,none⟩=some (.int .i64 ((ll.getD k []).getD 0 0))∧aL w (.slice (some ⟨rb,roff,none⟩) (ll.getD k []).length uc) (ll.getD k [])∧gI (.slice (some ⟨rb,roff,none⟩) (ll.getD k []).length uc):=by
 obtain⟨ao',c',e,-,h2⟩:=h;simp only[Value.slice.injEq] at e;obtain⟨rfl,-,rfl⟩:=e;obtain⟨b,off,u,rfl,h3,h4,h5⟩:=h2 k hk;have h6:=h5;obtain⟨uo,uc,rfl,-⟩:=h5;obtain⟨rb,roff,rfl,h7⟩:=h6.cellAt (List.length_pos_iff.2 hne);exact⟨b,off,uc,rb,roff,rfl,h3,h7,h6,h4⟩
set_option maxRecDepth 100000 in
set_option maxHeartbeats 8000000 in
theorem aAa (vg vp vx:Value) (g:aA.Gr) (p:aA.Pt) (aB same:List (List Int)) (v:Int) (n:Nat) (S:List (List Int)) (w:World) (hpl:p.e.length≤1000) (hpv:p.v.length≤1000) (hrl:∀ v,(aA.aX aB v).length<4294967296) (hsl:same.length≤10000) (hz:aA.aN g p aB same=0)
  (IX:I64 (-1 - v)) (wx:IntKind.i64.wrap (-1 - v) = -1 - v) (hne:∀ l∈aA.aJ g p aB same,l≠[]) (hRl:(aA.aJ g p aB same).length≤1000) (hRr:∀ l∈aA.aJ g p aB same,l.length≤1000)
  (hS:S.Perm (aA.kH (aA.aJ g p aB same) n (-1 - v) (aA.aJ g p aB same).length)) (hO:S.Pairwise fun a b=>a.getD 0 0<b.getD 0 0) (hg:dW w vg g) (hp:gC w vp p) (hx:jX w vx aB same) :
  Calls Tryz.prog 37 #[vg,vp,vx,.int .i64 v,.int .i64 n] w fun e w'=>∃ ov,e=.returned ov∧cG w' ov S∧Chg [] w w':=by
 have HRL:=lh hrl;have HZ:=lh hz;have HG:=lh hg;have HP:=lh hp;have HX0:=lh hx;obtain⟨eo,cap,rfl,hnI,-⟩:=hg;obtain⟨v1,v2,rfl,⟨ao,ac,rfl,-⟩,⟨bo,bc,rfl,-⟩⟩:=hp;obtain⟨u1,u2,rfl,⟨tno,tc,rfl,-⟩,⟨so,sc,rfl,-⟩⟩:=hx;obtain⟨R,hR⟩:∃ R,aA.aJ g p aB same=R:=⟨_,rfl⟩;have HRE:=lh hR;rw[hR] at hne hRl hRr hS;obtain⟨x,hxv⟩:∃ x,-1 - v=x:=⟨_,rfl⟩;have wv:IntKind.i64.wrap (-1 - v)=x:=by rw[wx,hxv]
 rw[hxv] at IX hS;clear wx;have HNE:=lh hne;have HRR:=lh hRr;have HS:=lh hS;have HO:=lh hO;clear hz hrl hnI hR hne hRr hS hO hxv;have HXC:=lh (show Chg [] w (((w.alloc (.cells #[.int .i64 g.n,.slice eo g.e.length cap] 24)).alloc (.cells #[.slice ao p.v.length ac,.slice bo p.e.length bc] 29)).alloc (.cells #[.slice tno aB.length tc,.slice so same.length sc] 32)) from (show Chg [] w (((w.alloc (.cells #[.int .i64 g.n,.slice eo g.e.length cap] 24)).alloc (.cells #[.slice ao p.v.length ac,.slice bo p.e.length bc] 29)).alloc (.cells #[.slice tno aB.length tc,.slice so same.length sc] 32)) from ((((Chg.refl [] w).alloc _).alloc _).alloc _)));have qbx0:=heap_alloc_new w (.cells #[.int .i64 g.n,.slice eo g.e.length cap] 24);replace qbx0:=(show Chg [] (w.alloc (.cells #[.int .i64 g.n,.slice eo g.e.length cap] 24)) (((w.alloc (.cells #[.int .i64 g.n,.slice eo g.e.length cap] 24)).alloc (.cells #[.slice ao p.v.length ac,.slice bo p.e.length bc] 29)).alloc (.cells #[.slice tno aB.length tc,.slice so same.length sc] 32)) from (((Chg.refl [] (w.alloc (.cells #[.int .i64 g.n,.slice eo g.e.length cap] 24))).alloc _).alloc _)).heap qbx0 (by simp);have qbx1:=heap_alloc_new (w.alloc (.cells #[.int .i64 g.n,.slice eo g.e.length cap] 24)) (.cells #[.slice ao p.v.length ac,.slice bo p.e.length bc] 29);rw[show (w.alloc (.cells #[.int .i64 g.n,.slice eo g.e.length cap] 24)).heap.size=w.heap.size+1 by simp] at qbx1;replace qbx1:=(show Chg [] ((w.alloc (.cells #[.int .i64 g.n,.slice eo g.e.length cap] 24)).alloc (.cells #[.slice ao p.v.length ac,.slice bo p.e.length bc] 29)) (((w.alloc (.cells #[.int .i64 g.n,.slice eo g.e.length cap] 24)).alloc (.cells #[.slice ao p.v.length ac,.slice bo p.e.length bc] 29)).alloc (.cells #[.slice tno aB.length tc,.slice so same.length sc] 32)) from ((Chg.refl [] ((w.alloc (.cells #[.int .i64 g.n,.slice eo g.e.length cap] 24)).alloc (.cells #[.slice ao p.v.length ac,.slice bo p.e.length bc] 29))).alloc _)).heap qbx1 (by simp);have qbx2:=heap_alloc_new ((w.alloc (.cells #[.int .i64 g.n,.slice eo g.e.length cap] 24)).alloc (.cells #[.slice ao p.v.length ac,.slice bo p.e.length bc] 29)) (.cells #[.slice tno aB.length tc,.slice so same.length sc] 32);rw[show ((w.alloc (.cells #[.int .i64 g.n,.slice eo g.e.length cap] 24)).alloc (.cells #[.slice ao p.v.length ac,.slice bo p.e.length bc] 29)).heap.size=w.heap.size+2 by simp] at qbx2;have HX:=lh (fun (w2:World) (hbx:Chg [] (((w.alloc (.cells #[.int .i64 g.n,.slice eo g.e.length cap] 24)).alloc (.cells #[.slice ao p.v.length ac,.slice bo p.e.length bc] 29)).alloc (.cells #[.slice tno aB.length tc,.slice so same.length sc] 32)) w2)=>(⟨hbx.c ((cell_of_row _ _ 0 _ _ _ qbx0).trans rfl),hbx.c ((cell_of_row _ _ 1 _ _ _ qbx0).trans rfl),hbx.c ((cell_of_row _ _ 0 _ _ _ qbx1).trans rfl),hbx.c ((cell_of_row _ _ 1 _ _ _ qbx1).trans rfl),hbx.c ((cell_of_row _ _ 0 _ _ _ qbx2).trans rfl),hbx.c ((cell_of_row _ _ 1 _ _ _ qbx2).trans rfl),by have hz:=hbx.size;simpa using hz⟩:w2.cell? ⟨w.heap.size,0,none⟩=some (.int .i64 g.n)∧w2.cell? ⟨w.heap.size,1,none⟩=some (.slice eo g.e.length cap)∧w2.cell? ⟨w.heap.size+1,0,none⟩=some (.slice ao p.v.length ac)∧w2.cell? ⟨w.heap.size+1,1,none⟩=some (.slice bo p.e.length bc)∧w2.cell? ⟨w.heap.size+2,0,none⟩=some (.slice tno aB.length tc)∧w2.cell? ⟨w.heap.size+2,1,none⟩=some (.slice so same.length sc)∧w.heap.size+3≤w2.heap.size));clear qbx0 qbx1 qbx2;have HXZ:=lh (show (((w.alloc (.cells #[.int .i64 g.n,.slice eo g.e.length cap] 24)).alloc (.cells #[.slice ao p.v.length ac,.slice bo p.e.length bc] 29)).alloc (.cells #[.slice tno aB.length tc,.slice so same.length sc] 32)).heap.size=w.heap.size+3 by simp);obtain⟨x0,x1,y0,y1,z0,z1,hsz⟩:=HX.out _ (Chg.refl _ _)
 go_enter Tryz.func37,Tryz.ntmps37
 go_wp2_with fail
 generalize (((w.alloc (.cells #[.int .i64 g.n,.slice eo g.e.length cap] 24)).alloc (.cells #[.slice ao p.v.length ac,.slice bo p.e.length bc] 29)).alloc (.cells #[.slice tno aB.length tc,.slice so same.length sc] 32))=w1 at *;refine (kE _ _ _ g p aB same _ (by omega) (by omega) HRL.out hsl HZ.out (HG.out.fresh HXC.out) (HP.out.fresh HXC.out) (HX0.out.fresh HXC.out)).mono ?_;rintro e w2 ⟨rv,rfl,hrr,hc2⟩;rw[HRE.out] at hrr;have HR:=lh hrr;have HC2:=lh (HXC.out.t hc2);obtain⟨ro,rc,rfl,-⟩:=hrr;obtain⟨M,hM⟩:∃ M,R.length=M:=⟨_,rfl⟩;have HM:=lh hM;rw[hM] at hRl ⊢;clear hM hc2 x0 x1 y0 y1 z0 z1 hsz HX HXC HXZ;go_wp2
 go_loopw [12,13] (fun av c wi=>∃ (i:Nat) (us:List Value),i≤M∧c=.int .i64 i∧fR wi w2.heap.size av us (aA.kH R n x i)∧Chg [] w2 wi) (fun _ c _=>M - (intOf c).toNat)
 case atStart=>exact⟨0,[],Nat.zero_le _,rfl,fR.nil _ _,Chg.refl _ _⟩
 case round =>
  rename World=>wi;obtain⟨i,us,hi,rfl,hmx,hci⟩:=hrel;have HMX:=lh hmx;have HCI:=lh hci;have HAL:=lh (aA.qX R n x i);have HUL:=lh (show us.length≤i by rw[hmx.len];exact HAL.out);obtain⟨ao2,ac2,rfl⟩:=bR hmx.out;clear hmx hci;by_cases hlt:i<M
  ·have hiR:i<R.length:=by rw[HM.out];exact hlt
   obtain⟨b,off,uc,rb,roff,rfl,rcell2,-,rints2,rcap⟩:=HR.out.head hiR (HNE.out _ (aA.cO hiR));have rcell:=HCI.out.c rcell2;have HRI:=lh (rints2.fresh HCI.out);have HSF:=lh (fun w'=>rints2.zX (List.length_pos_iff.2 (HNE.out _ (aA.cO hiR))) (Nat.le_refl w2.heap.size) w');have HLM:=lh (HRR.out _ (aA.cO hiR));have HCP:=lh rcap;have hst:=aA.nW R n x i;unfold aA.mT at hst;obtain⟨L,hL⟩:∃ L,R.getD i []=L:=⟨_,rfl⟩;obtain⟨T,hT⟩:∃ T,aA.kH R n x i=T:=⟨_,rfl⟩;rw[hL] at rcell HRI HSF HLM HCP hst;rw[hT] at HMX HAL hst;have hll:L.length≤1000:=HLM.out;have hul:us.length≤i:=HUL.out;clear rcell2 rints2 rcap hL hT hiR;by_cases hin:i=n
   ·have bin:((i:Int)==(n:Int))=true:=by rw[beq_iff_eq,hin]
    rw[if_pos hin] at hst;have HST:=lh hst;clear hst hin
    go_wp2_with fail
    have HAX:=lh (show Chg [] wi (wi.alloc (.cells #[.int .i64 x] 3)) from (Chg.refl _ _).alloc _);have HLX:=lh (dH wi IX);refine (vI _ _ L [x] _ (by omega) (by simp) (HRI.out.fresh HAX.out) HLX.out).mono ?_;rintro e w5 ⟨ov,rfl,hov,hc5⟩;have HC5:=lh ((HCI.out.t HAX.out).t hc5);have HMX5:=lh ((HMX.out.fresh HAX.out).fresh hc5);have HOV:=lh hov;obtain⟨oo,oc,rfl⟩:=hov.shape;clear hov hc5 rcell;obtain⟨g8,c8,w9,hrun,hm8,hc8⟩:=vA HMX5.out (show w2.heap.size≤w5.heap.size from HC5.out.size) HOV.out.ints (gI.row HOV.out) HOV.out.safe (by omega) (Or.inl rfl) 30;have HM8:=lh hm8;have HCX:=lh (show Chg [] w2 w9 from HC5.out.trans hc8 (fun j hj=>Or.inr (HMX5.out.out.lt j (by simpa using hj)).1));clear hm8 hc8
    go_wp2_with (at_builtin;refine gB rfl _ _ 30 rfl rfl rfl hrun ?_)
    clear hrun
    go_roundw
    case rel=>exact⟨i+1,_,by omega,by go_num,by rw[HST.out];simpa using HM8.out,HCX.out⟩
    case measure=>simp[intOf];omega
   have bin:((i:Int)==(n:Int))=false:=by rw[beq_eq_false_iff_ne];omega
   rw[if_neg hin] at hst;by_cases h1:1<L.length
   ·have b1:decide ((L.length:Int) > 1)=true:=decide_eq_true (by omega)
    rw[if_pos h1] at hst;have HST:=lh hst;clear hst hin h1;obtain⟨g8,c8,w9,hrun,hm8,hc8⟩:=vA HMX.out (show w2.heap.size≤wi.heap.size from HCI.out.size) HRI.out HCP.out (HSF.out wi) (by omega) (Or.inl rfl) 30;have HM8:=lh hm8;have HCX:=lh (show Chg [] w2 w9 from HCI.out.trans hc8 (fun j hj=>Or.inr (HMX.out.out.lt j (by simpa using hj)).1));clear hm8 hc8
    go_wp2_with (at_builtin;refine gB rfl _ _ 30 rfl rfl rfl hrun ?_)
    clear hrun rcell
    go_roundw
    case rel=>exact⟨i+1,_,by omega,by go_num,by rw[HST.out];simpa using HM8.out,HCX.out⟩
    case measure=>simp[intOf];omega
   have b1:decide ((L.length:Int) > 1)=false:=decide_eq_false (by omega);rw[if_neg h1,List.append_nil] at hst;have HST:=lh hst;clear hst hin h1;go_wp2;clear rcell
   go_roundw
   case rel=>exact⟨i+1,_,by omega,by go_num,by rw[HST.out];exact HMX.out,HCI.out⟩
   case measure=>simp[intOf];omega
  have e:i=M:=by omega
  subst e;obtain⟨A,hA⟩:∃ A,aA.kH R n x R.length=A:=⟨_,rfl⟩;rw[hA] at HS;rw[←HM.out,hA] at HMX;have HRA:=lh HMX.out.read;have HNA:=lh (show ∀ l∈A,l≠[]∧l.length≤1001 from fun l hl=>by
   rw[←hA] at hl;obtain⟨m,hm,q | q⟩:=aA.aDv (Nat.le_refl _) hl
   ·rw[q];exact⟨HNE.out m hm,by have:=HRR.out m hm;omega⟩
   rw[q];refine⟨fun e=>?_,?_⟩
   ·have:x∈aA.orL m [x]:=aA.eO.2 (Or.inr (by simp))
    rw[e] at this;cases this
   have h1:=aA.uX m [x];have h2:=HRR.out m hm;simp at h1;omega)
  have HAN:=lh (show A.length≤1000 by rw[←hA];have:=aA.qX R n x R.length;rw[HM.out] at this;rw[HM.out];omega);have hul:us.length=A.length:=HMX.out.len;have HMF:=lh HMX.out;rw[hul] at HRA HMF ⊢;obtain⟨N,hN⟩:∃ N,A.length=N:=⟨_,rfl⟩;have HN:=lh hN;have hNl:N≤1000:=by rw[←hN];exact HAN.out
  have HSL:=lh (show S.length=N by rw[HS.out.length_eq,hN]);have HSM:=lh (show ∀ j,j<N→∃ i,i<N∧S.getD j []=A.getD i [] from fun j hj=>by
   obtain⟨i,hi,e⟩:=List.mem_iff_getElem.1 (HS.out.mem_iff.1 (aA.cO (show j<S.length by rw[HSL.out];exact hj)));exact⟨i,by omega,by rw[←e];simp[List.getD,hi]⟩)
  rw[hN] at HRA HMF ⊢;clear HMX HUL HAL hul hN hA hlt hi;go_wp2
  go_loopw [14,15,16,17,18] (fun ov c _ _ _ wj=>∃ (m:Nat) (us2:List Value),m≤N∧c=.int .i64 m∧fR wj wi.heap.size ov us2 (S.take m)∧Chg [] wi wj) (fun _ c _ _ _ _=>N - (intOf c).toNat)
  case atStart=>exact⟨0,[],Nat.zero_le _,rfl,fR.nil _ _,Chg.refl _ _⟩
  case round =>
   rename World=>wj;obtain⟨m,us2,hm,rfl,hmx,hcj⟩:=hrel;have HOX:=lh hmx;have HCJ:=lh hcj;have HUM:=lh (show us2.length=m by rw[hmx.len,List.length_take,HSL.out];omega);obtain⟨oo2,oc2,rfl⟩:=bR hmx.out;rw[HUM.out] at HOX ⊢;clear hmx hcj;by_cases hlt:m<N
   ·go_wp2
    go_loopw [16,17,18] (fun bv c _ wk=>∃ (k:Nat) (b:Int),k≤N∧c=.int .i64 k∧bv=.int .i64 b∧-1≤b∧b<N∧aA.lA S A m k b∧Chg [] wj wk) (fun _ c _ _=>N - (intOf c).toNat)
    case atStart=>exact⟨0,-1,Nat.zero_le _,rfl,rfl,by omega,by omega,aA.aBP _ _ _,Chg.refl _ _⟩
    case round =>
     rename World=>wk;obtain⟨k,b,hk,rfl,rfl,hb0,hb1,hbest,hck⟩:=hrel;have HCK:=lh hck;have HBE:=lh hbest;have HAK:=lh (HRA.out.fresh (HCJ.out.t hck));have HOK:=lh (HOX.out.fresh hck).read;clear hck hbest;by_cases hkl:k<N
     ·have hkA:k<A.length:=by rw[HN.out];exact hkl
      obtain⟨ab,aoff,auc,arb,aroff,rfl,acell,ahead,-,-⟩:=HAK.out.head hkA (HNA.out _ (aA.cO hkA)).1;obtain⟨ha,hha⟩:∃ ha,(A.getD k []).getD 0 0=ha:=⟨_,rfl⟩;have HHA:=lh hha;obtain⟨la,hla⟩:∃ la,(A.getD k []).length=la:=⟨_,rfl⟩;have hla0:0<la:=by rw[←hla];exact List.length_pos_iff.2 (HNA.out _ (aA.cO hkA)).1
      rw[hla] at acell;rw[hha] at ahead;clear hkA hha hla
      go_upto_region 18 with fail
      go_cut [18] (fun c18 wc=>c18=.bool (aA.tU S A m k)∧Chg [] wk wc)
      case first =>
       by_cases h0:m=0
       ·have bm:((m:Int)==0)=true:=by rw[h0];rfl
        have HLB:=lh (show aA.tU S A m k=true by unfold aA.tU;rw[decide_eq_true h0];rfl);clear h0;have hS0:Chg [] wk wk.drew:=(Chg.refl [] wk).drew;refine aF (Chg [] wk) [0,1,2,3,4,5,6,7,8,9,10,11,12,13,14,15,16,17,18,19] (Way.line [0,1,2,3,4,5,6,7,8,9,10,11,12,13,14,15,16,17,18,19,20] .done) (by kernel_rfl) (by kernel_rfl) ?_;simp only[Way.line]
        repeat
         first
          | (refine aE rfl (by rfl) (by rfl) (fun _ _ _ h=>h) hS0 ?_;simp only[Act.put,Z1,Z2,Z3,Z4,Z5,Z6])
          | (refine aC (v:=?_) rfl (by rfl) (by rfl) (fun _ _ _ h=>h) hS0 (fun w' hS'=>?_) ?_;rotate_left;(focus (have rd0:=hS'.c acell;have rd1:=hS'.c ahead;clear hS';go_simp;try with_reducible rfl));simp only[Act.put,Z1,Z2,Z3,Z4,Z5,Z6])
          | (refine aD rfl (by rfl) (by rfl) hS0 ?_;simp only[Act.put,Z1,Z2,Z3,Z4,Z5,Z6])
        refine aI rfl (by rfl) (by rfl) (fun K hK=>?_);go_simp;refine hK.out _ _ (fun _=>hS0) ?_;clear hK K
        try simp only[Act.put,Z1,Z2,Z3,Z4,Z5,Z6]
        refine aG ?_;go_wp2
        go_meet
        case rel=>exact⟨by rw[HLB.out],hS0⟩
       have bm:((m:Int)==0)=false:=by rw[beq_eq_false_iff_ne];omega
       have hm1:m - 1<(S.take m).length:=by rw[List.length_take,HSL.out];omega
       have hge:(S.take m).getD (m - 1) []=S.getD (m - 1) []:=by simp[List.getD,show m - 1<m by omega]
       obtain⟨i2,hi2,e2⟩:=HSM.out (m - 1) (by omega);have hne2:(S.take m).getD (m - 1) []≠[]:=by rw[hge,e2];exact (HNA.out _ (aA.cO (by rw[HN.out];exact hi2))).1
       obtain⟨ob,ooff,ouc,orb,oroff,rfl,ocell,ohead,-,-⟩:=HOK.out.head hm1 hne2;have wm:IntKind.i64.wrap ((m:Int) - 1)=((m - 1:Nat):Int):=by rw[IntWalk.i64_in _ (by omega)];omega
       rw[hge] at ocell ohead;obtain⟨hs,hhs⟩:∃ hs,(S.getD (m - 1) []).getD 0 0=hs:=⟨_,rfl⟩;obtain⟨ls,hls⟩:∃ ls,(S.getD (m - 1) []).length=ls:=⟨_,rfl⟩;have hls0:0<ls:=by rw[←hls,←hge];exact List.length_pos_iff.2 hne2
       rw[hls] at ocell;rw[hhs] at ohead;have HLB:=lh (show aA.tU S A m k=decide (hs<ha) by unfold aA.tU;rw[decide_eq_false h0,hhs,HHA.out];rfl);obtain⟨m1,hm1'⟩:∃ m1,m - 1=m1:=⟨_,rfl⟩;have h1m:m1<m:=by omega
       rw[hm1'] at ocell wm;clear h0 hm1 hge hi2 e2 hne2 hhs hls hm1';have hS0:Chg [] wk wk.drew:=(Chg.refl [] wk).drew;refine aF (Chg [] wk) [0,1,2,3,4,5,6,7,8,9,10,11,12,13,14,15,16,17,18,19] (Way.line [0,1,2,3,4,5,6,7,8,9,10,11,12,13,14,15,16,17,18,19,20] .done) (by kernel_rfl) (by kernel_rfl) ?_;simp only[Way.line]
       repeat
        first
         | (refine aE rfl (by rfl) (by rfl) (fun _ _ _ h=>h) hS0 ?_;simp only[Act.put,Z1,Z2,Z3,Z4,Z5,Z6])
         | (refine aC (v:=?_) rfl (by rfl) (by rfl) (fun _ _ _ h=>h) hS0 (fun w' hS'=>?_) ?_;rotate_left;(focus (have rd0:=hS'.c acell;have rd1:=hS'.c ahead;have rd2:=hS'.c ocell;have rd3:=hS'.c ohead;clear hS';go_simp;try with_reducible rfl));simp only[Act.put,Z1,Z2,Z3,Z4,Z5,Z6])
         | (refine aD rfl (by rfl) (by rfl) hS0 ?_;simp only[Act.put,Z1,Z2,Z3,Z4,Z5,Z6])
       refine aI rfl (by rfl) (by rfl) (fun K hK=>?_);go_simp;refine hK.out _ _ (fun _=>hS0) ?_;clear hK K
       try simp only[Act.put,Z1,Z2,Z3,Z4,Z5,Z6]
       refine aG ?_;go_wp2
       go_meet
       case rel=>exact⟨by rw[HLB.out],hS0⟩
      case rest =>
       rename World=>wl;obtain⟨rfl,hcl⟩:=hcut;have HCL:=lh hcl;have HWL:=lh (HCK.out.t hcl);have acell:=hcl.c acell;have ahead:=hcl.c ahead;clear hcl;cases hlate:aA.tU S A m k with
       | false =>
        have HBN:=lh (aA.aAV HBE.out (fun q=>by rw[aA.yN.2 q] at hlate;cases hlate));clear hlate;go_wp2;have hS0:Chg [] wl wl.drew:=(Chg.refl [] wl).drew;refine aF (Chg [] wl) [0,1,2,3,4,5,6,7,8,9,10,11,12,13,14,15,16,17,18,19] (Way.line [0,1,2,3,4,5,6,7,8,9,10,11,12,13,14,15,16,17,18,19] .done) (by kernel_rfl) (by kernel_rfl) ?_;simp only[Way.line]
        repeat
         first
          | (refine aE rfl (by rfl) (by rfl) (fun _ _ _ h=>h) hS0 ?_;simp only[Act.put,Z1,Z2,Z3,Z4,Z5,Z6])
          | (refine aC (v:=?_) rfl (by rfl) (by rfl) (fun _ _ _ h=>h) hS0 (fun w' hS'=>?_) ?_;rotate_left;(focus (have rd0:=hS'.c acell;have rd1:=hS'.c ahead;clear hS';go_simp;try with_reducible rfl));simp only[Act.put,Z1,Z2,Z3,Z4,Z5,Z6])
          | (refine aD rfl (by rfl) (by rfl) hS0 ?_;simp only[Act.put,Z1,Z2,Z3,Z4,Z5,Z6])
        refine aG ?_;have HSL2:=lh (HWL.out.t hS0);clear acell ahead hS0;go_wp2
        go_roundw
        case rel=>exact⟨k+1,b,by omega,by go_num,rfl,hb0,hb1,HBN.out,HSL2.out⟩
        case measure=>simp[intOf];omega
       | true =>
        have hlat:=aA.yN.1 hlate;clear hlate;by_cases hbn:b<0
        ·have bb:decide (b<0)=true:=decide_eq_true hbn
         have HBN:=lh (aA.aAg HBE.out hbn hlat);clear hlat hbn;go_wp2;have hS0:Chg [] wl wl.drew:=(Chg.refl [] wl).drew;refine aF (Chg [] wl) [0,1,2,3,4,5,6,7,8,9,10,11,12,13,14,15,16,17,18,19] (Way.line [0,1,2,3,4,5,6,7,8,9,10,11,12,13,14,15,16,17,18,19] .done) (by kernel_rfl) (by kernel_rfl) ?_;simp only[Way.line]
         repeat
          first
           | (refine aE rfl (by rfl) (by rfl) (fun _ _ _ h=>h) hS0 ?_;simp only[Act.put,Z1,Z2,Z3,Z4,Z5,Z6])
           | (refine aC (v:=?_) rfl (by rfl) (by rfl) (fun _ _ _ h=>h) hS0 (fun w' hS'=>?_) ?_;rotate_left;(focus (have rd0:=hS'.c acell;have rd1:=hS'.c ahead;clear hS';go_simp;try with_reducible rfl));simp only[Act.put,Z1,Z2,Z3,Z4,Z5,Z6])
           | (refine aD rfl (by rfl) (by rfl) hS0 ?_;simp only[Act.put,Z1,Z2,Z3,Z4,Z5,Z6])
         refine aG ?_;have HSL2:=lh (HWL.out.t hS0);clear acell ahead hS0;go_wp2
         go_roundw
         case rel=>exact⟨k+1,k,by omega,by go_num,rfl,by omega,by omega,HBN.out,HSL2.out⟩
         case measure=>simp[intOf];omega
        have bb:decide (b<0)=false:=decide_eq_false hbn;obtain⟨i2,hi2⟩:∃ i2:Nat,b=i2:=⟨b.toNat,by omega⟩;subst hi2;have hi2N:i2<N:=by omega
        obtain⟨ob,ooff,ouc,orb,oroff,e3,ocell,ohead,-,-⟩:=HAK.out.head (k:=i2) (by rw[HN.out];exact hi2N) (HNA.out _ (aA.cO (by rw[HN.out];exact hi2N))).1;cases e3;have ocell:=(show Chg [] wk wl from HCL.out).c ocell;have ohead:=(show Chg [] wk wl from HCL.out).c ohead;have hl0:0<(A.getD i2 []).length:=List.length_pos_iff.2 (HNA.out _ (aA.cO (by rw[HN.out];exact hi2N))).1;have HB1:=lh (fun q=>aA.aB8 HBE.out hlat q);have HB2:=lh (fun q=>aA.aBO HBE.out q);rw[HHA.out] at HB1 HB2;obtain⟨hs,hhs⟩:∃ hs,(A.getD i2 []).getD 0 0=hs:=⟨_,rfl⟩;obtain⟨ls,hls⟩:∃ ls,(A.getD i2 []).length=ls:=⟨_,rfl⟩;rw[hls] at ocell hl0;rw[hhs] at ohead HB1 HB2;clear hlat hhs hls hbn;by_cases hcmp:ha<hs
        ·have bc:decide (ha<hs)=true:=decide_eq_true hcmp
         have HBN:=lh (HB1.out hcmp);clear hcmp;go_wp2;have hS0:Chg [] wl wl.drew:=(Chg.refl [] wl).drew;refine aF (Chg [] wl) [0,1,2,3,4,5,6,7,8,9,10,11,12,13,14,15,16,17,18,19] (Way.line [0,1,2,3,4,5,6,7,8,9,10,11,12,13,14,15,16,17,18,19] .done) (by kernel_rfl) (by kernel_rfl) ?_;simp only[Way.line]
         repeat
          first
           | (refine aE rfl (by rfl) (by rfl) (fun _ _ _ h=>h) hS0 ?_;simp only[Act.put,Z1,Z2,Z3,Z4,Z5,Z6])
           | (refine aC (v:=?_) rfl (by rfl) (by rfl) (fun _ _ _ h=>h) hS0 (fun w' hS'=>?_) ?_;rotate_left;(focus (have rd0:=hS'.c acell;have rd1:=hS'.c ahead;have rd2:=hS'.c ocell;have rd3:=hS'.c ohead;clear hS';go_simp;try with_reducible rfl));simp only[Act.put,Z1,Z2,Z3,Z4,Z5,Z6])
           | (refine aD rfl (by rfl) (by rfl) hS0 ?_;simp only[Act.put,Z1,Z2,Z3,Z4,Z5,Z6])
         refine aG ?_;have HSL2:=lh (HWL.out.t hS0);clear acell ahead ocell ohead hS0;go_wp2
         go_roundw
         case rel=>exact⟨k+1,k,by omega,by go_num,rfl,by omega,by omega,HBN.out,HSL2.out⟩
         case measure=>simp[intOf];omega
        have bc:decide (ha<hs)=false:=decide_eq_false hcmp;have HBN:=lh (HB2.out hcmp);clear hcmp;go_wp2;have hS0:Chg [] wl wl.drew:=(Chg.refl [] wl).drew;refine aF (Chg [] wl) [0,1,2,3,4,5,6,7,8,9,10,11,12,13,14,15,16,17,18,19] (Way.line [0,1,2,3,4,5,6,7,8,9,10,11,12,13,14,15,16,17,18,19] .done) (by kernel_rfl) (by kernel_rfl) ?_;simp only[Way.line]
        repeat
         first
          | (refine aE rfl (by rfl) (by rfl) (fun _ _ _ h=>h) hS0 ?_;simp only[Act.put,Z1,Z2,Z3,Z4,Z5,Z6])
          | (refine aC (v:=?_) rfl (by rfl) (by rfl) (fun _ _ _ h=>h) hS0 (fun w' hS'=>?_) ?_;rotate_left;(focus (have rd0:=hS'.c acell;have rd1:=hS'.c ahead;have rd2:=hS'.c ocell;have rd3:=hS'.c ohead;clear hS';go_simp;try with_reducible rfl));simp only[Act.put,Z1,Z2,Z3,Z4,Z5,Z6])
          | (refine aD rfl (by rfl) (by rfl) hS0 ?_;simp only[Act.put,Z1,Z2,Z3,Z4,Z5,Z6])
        refine aG ?_;have HSL2:=lh (HWL.out.t hS0);clear acell ahead ocell ohead hS0;go_wp2
        go_roundw
        case rel=>exact⟨k+1,i2,by omega,by go_num,rfl,by omega,by omega,HBN.out,HSL2.out⟩
        case measure=>simp[intOf];omega
     have e:k=N:=by omega
     subst e;obtain⟨i2,hbi,hi2,hge⟩:=aA.aDh HS.out HO.out (by rw[HN.out];exact hlt) (by rw[HN.out];exact HBE.out);subst hbi;have HWK:=lh (HCJ.out.t HCK.out);obtain⟨ab,aoff,auc,arb,aroff,rfl,acell2,-,aints2,acap⟩:=HRA.out.head hi2 (HNA.out _ (aA.cO hi2)).1;have acell:=HWK.out.c acell2;have HAI:=lh (aints2.fresh HWK.out);have HSF:=lh (aints2.zX (List.length_pos_iff.2 (HNA.out _ (aA.cO hi2)).1) (Nat.le_refl wi.heap.size) wk);have HAC:=lh acap;have hi3:i2<k:=by rw[←HN.out];exact hi2
     have hsm:S.take (m+1)=S.take m++[A.getD i2 []]:=by
      have hms:m<S.length:=by rw[HSL.out];omega
      rw[List.take_succ_eq_append_getElem hms,hge];simp[List.getD,hms]
     have HSM1:=lh hsm;obtain⟨L,hL⟩:∃ L,A.getD i2 []=L:=⟨_,rfl⟩;rw[hL] at acell HAI HSF HAC HSM1;have HOW:=lh (HOX.out.fresh HCK.out);clear acell2 aints2 acap hi2 hge hsm hL hkl hk;have hum:us2.length=m:=HUM.out;obtain⟨g8,c8,w9,hrun,hm8,hc8⟩:=vA HOW.out (show wi.heap.size≤wk.heap.size from HWK.out.size) HAI.out HAC.out HSF.out (by omega) (Or.inl rfl) 30;have HM8:=lh hm8;have HCX:=lh (show Chg [] wi w9 from HWK.out.trans hc8 (fun j hj=>Or.inr (HOW.out.out.lt j (by simpa using hj)).1));clear hm8 hc8 hum
     go_wp2_with (at_builtin;refine gB rfl _ _ 30 rfl rfl rfl hrun ?_)
     clear hrun acell
     go_roundw
     case rel=>exact⟨m+1,_,by omega,by go_num,by rw[HSM1.out];exact HM8.out,HCX.out⟩
     case measure=>simp[intOf];omega
   have e:m=N:=by omega
   subst e;have HFR:=lh (show cG wj (.slice oo2 m oc2) S by
    have:=HOX.out.read;rwa[List.take_of_length_le (by rw[HSL.out];exact Nat.le_refl _)] at this)
   clear hlt hm;go_wp2;refine bodyPost_ret (v:=.slice oo2 m oc2) (by simp[results,Tryz.results37,go_sem]) rfl ?_;exact⟨_,rfl,HFR.out,(HC2.out.t HCI.out).t HCJ.out⟩
namespace aA
theorem aE3 {g:Gr} {p:Pt} {aB same:List (List Int)} {v r:Int} (h:kF g p aB same v r=0):aN g p aB same=0∧0≤v∧v<g.n∧v ∉ p.v∧∃ n:Nat,r=n∧n<(fE g p aB same).length:=by
 unfold kF at h;by_cases h1:aN g p aB same=0
 ·rw[if_neg (by simp[h1])] at h
  split at h
  ·cases h
  rename_i h2;split at h
  ·cases h
  rename_i h3;refine⟨h1,Int.not_lt.1 fun q=>h2 (Or.inl q),Int.not_le.1 fun q=>h2 (Or.inr (Or.inl q)),fun q=>h2 (Or.inr (Or.inr q)),r.toNat,?_,?_⟩
  ·have:¬ r<0:=fun q=>h3 (Or.inl q)
   omega
  have h4:¬ r<0:=fun q=>h3 (Or.inl q);have h5:¬ ((fE g p aB same).length:Int)≤r:=fun q=>h3 (Or.inr q);omega
 rw[if_pos h1] at h;exact absurd h h1
theorem aAW {A B:List (List Int)} (h:A.Sublist B):A.flatten.Sublist B.flatten:=by
 induction h with
 | slnil=>exact List.Sublist.refl _
 | cons a _ ih=>rw[List.flatten_cons];exact ih.trans (List.sublist_append_right _ _)
 | cons_cons a _ ih=>rw[List.flatten_cons,List.flatten_cons];exact (List.Sublist.refl _).append ih
theorem xG {A:List (List Int)} (hn:A.flatten.Nodup) (hne:∀ l∈A,l≠[]):A.Pairwise fun a b=>a.getD 0 0≠b.getD 0 0:=by
 induction A with
 | nil=>exact List.Pairwise.nil
 | cons l A ih =>
  rw[List.flatten_cons,List.nodup_append] at hn;refine List.pairwise_cons.2 ⟨fun m hm e=>?_,ih hn.2.1 fun m hm=>hne m (List.mem_cons_of_mem _ hm)⟩;have h1:l.getD 0 0∈l:=aZ (List.length_pos_iff.2 (hne l (by simp)));have h2:m.getD 0 0∈m:=aZ (List.length_pos_iff.2 (hne m (List.mem_cons_of_mem _ hm)));exact hn.2.2 _ h1 _ (List.mem_flatten.2 ⟨m,hm,h2⟩) e
theorem aHB {g:Gr} {p:Pt} {aB same:List (List Int)} {v:Int} {n:Nat} {S:List (List Int)} (hz:aN g p aB same=0) (hv0:0≤v) (hvn:v ∉ p.v) (hS:S.Perm (jG (fE g p aB same) n (-1 - v))) (hO:S.Pairwise fun a b=>a.getD 0 0≤b.getD 0 0) (hn:n<(fE g p aB same).length) :
  S.Perm (kH (aJ g p aB same) n (-1 - v) (aJ g p aB same).length)∧S.Pairwise fun a b=>a.getD 0 0<b.getD 0 0:=by
 obtain⟨hpe,hto⟩:=eP hz;have hW:=bS hpe hto;have hpt:=iN hz hW;have hreg:=gY hpt;have hkeys:∀ l∈aJ g p aB same,∀ x∈l,∃ f∈aH g p aB,f.1=x:=fun l hl x hx=>by
  have:x∈(aJ g p aB same).flatten:=List.mem_flatten.2 ⟨l,hl,hx⟩;exact List.mem_map.1 ((hreg.perm.flatten.trans hpt.all).mem_iff.1 this)
 have hxno:∀ l∈aJ g p aB same,(-1 - v) ∉ l:=fun l hl hm=>by
  obtain⟨f,hf,e⟩:=hkeys l hl _ hm;obtain⟨-,k2⟩:=wK hpe hto hf;have hcm:=dG (Pt.aQ hpe) hW.eF f hf;rw[e] at k2;have:f.aY g=v:=by
   rw[←k2];unfold oN;rw[if_pos (by omega)];omega
  rw[this] at hcm;exact hvn hcm
 unfold fE at hS hn;by_cases hpv:p.v=[]
 ·rw[if_pos hpv] at hS hn
  have hn0:n=0:=by simpa using hn
  subst hn0;have hR:aJ g p aB same=[]:=by
   rcases hq:aJ g p aB same with _ | ⟨l,m⟩
   ·rfl
   have hl:l∈aJ g p aB same:=by rw[hq];simp
   obtain⟨x,hx⟩:=List.exists_mem_of_ne_nil _ (lR hz l hl);obtain⟨f,hf,-⟩:=hkeys l hl x hx;have:=dG (Pt.aQ hpe) hW.eF f hf;rw[hpv] at this;simp at this
  have he:jG [[]] 0 (-1 - v)=[]:=rfl;rw[he] at hS;obtain rfl:=List.perm_nil.1 hS;rw[hR];exact⟨List.Perm.refl _,List.Pairwise.nil⟩
 rw[if_neg hpv] at hS hn;have hrise:∀ l∈aJ g p aB same,l.Pairwise (·<·):=fun l hl=>by
  obtain⟨c0,hc0⟩:∃ c,cls g p aB same=c:=⟨_,rfl⟩;have hsg:=zD hz;rw[hc0] at hsg;have hz2:=hz;rw[hsg] at hz2 hl;obtain⟨H,-,eH,-,-⟩:=aBT hz2;rw[eH] at hl;obtain⟨h,-,rfl⟩:=List.mem_map.1 hl;exact eV (dF hpe hW) h
 rw[aEP hrise (lR hz) hxno];refine⟨hS,?_⟩;have hnd:(jG (aJ g p aB same) n (-1 - v)).flatten.Nodup:=by
  have h1:((aJ g p aB same).set n ((aJ g p aB same).getD n []++[-1 - v])).flatten.Perm ((-1 - v) :: (aJ g p aB same).flatten):=by
   have h2:=List.set_eq_take_append_cons_drop (l:=aJ g p aB same) (i:=n) (a:=(aJ g p aB same).getD n []++[-1 - v]);rw[if_pos hn] at h2;have h3:aJ g p aB same=(aJ g p aB same).take n++(aJ g p aB same).getD n [] :: (aJ g p aB same).drop (n+1):=by
    simp[List.getD,hn]
   rw[h2]
   conv=>rhs;rw[h3]
   rw[List.perm_iff_count];intro y;simp only[List.flatten_append,List.flatten_cons,List.count_append,List.count_cons,List.count_nil];omega
  have h4:((-1 - v) :: (aJ g p aB same).flatten).Nodup:=List.nodup_cons.2 ⟨fun q=>by
   obtain⟨l,hl,hx⟩:=List.mem_flatten.1 q;exact hxno l hl hx,vF hpt⟩
  have h5:=h1.nodup_iff.2 h4;unfold jG;have h6:∀ {B:List (List Int)},B.flatten.Nodup→(B.map sorted).flatten.Nodup:=by
   intro B hB;refine (List.Perm.nodup_iff ?_).2 hB
   induction B with
   | nil=>exact List.Perm.refl _
   | cons l B ih=>exact (sorted_perm l).append (ih (List.nodup_append.1 (by rwa[List.flatten_cons] at hB)).2.1)
  refine h6 ?_;exact h5.sublist (aAW List.filter_sublist)
 have hdi:=xG ((hS.flatten.nodup_iff).2 hnd) (fun l hl=>by
  have:=hS.mem_iff.1 hl;obtain⟨m,hm,e⟩:=List.mem_map.1 this;have h1:1<m.length:=of_decide_eq_true (List.mem_filter.1 hm).2;rw[←e];exact List.ne_nil_of_length_pos (by rw[(sorted_perm m).length_eq];omega))
 exact (hO.and hdi).imp fun ⟨a,b⟩=>by omega
theorem sY {g:Gr} {p:Pt} {aB same:List (List Int)} (hz:aN g p aB same=0):((fE g p aB same).length:Int)=max ((aJ g p aB same).length:Int) 1:=by
 obtain⟨hpe,hto⟩:=eP hz;have hW:=bS hpe hto;have hpt:=iN hz hW;have hreg:=gY hpt;unfold fE;by_cases hpv:p.v=[]
 ·rw[if_pos hpv]
  have hR:aJ g p aB same=[]:=by
   rcases hq:aJ g p aB same with _ | ⟨l,m⟩
   ·rfl
   have hl:l∈aJ g p aB same:=by rw[hq];simp
   obtain⟨x,hx⟩:=List.exists_mem_of_ne_nil _ (lR hz l hl);have hm:x∈(aJ g p aB same).flatten:=List.mem_flatten.2 ⟨l,hl,hx⟩;obtain⟨f,hf,-⟩:=List.mem_map.1 ((hreg.perm.flatten.trans hpt.all).mem_iff.1 hm);have:=dG (Pt.aQ hpe) hW.eF f hf;rw[hpv] at this;simp at this
  rw[hR];rfl
 rw[if_neg hpv];have h1:=xQ hz hpv;have h2:=(vT hz).1;have h3:(aJ g p aB same).length≠0:=fun q=>by
  obtain⟨v,hv⟩:=List.exists_mem_of_ne_nil _ hpv;obtain⟨f,hf,-⟩:=aHA hpe hto (aFS (Pt.aQ hpe) hto hv).1;have hm:f.1∈(aJ g p aB same).flatten:=(hreg.perm.flatten.trans hpt.all).mem_iff.2 (List.mem_map.2 ⟨f,hf,rfl⟩);rw[List.length_eq_zero_iff.1 q] at hm;simp at hm
 omega
end aA
set_option maxRecDepth 100000 in
set_option maxHeartbeats 8000000 in
theorem zZ (vc:Value) (g:aA.Gr) (p:aA.Pt) (aB same:List (List Int)) (v r:Int) (w:World) (hc:jK w vc g p aB same) (IV:I64 v) (IR:I64 r) :
  Calls Tryz.prog 6 #[vc,.int .i64 v,.int .i64 r] w fun e w'=>e=.returned (.bool true)∧Chg [] w w':=by
 have HCA:=lh hc;obtain⟨eo,cap,ao,ac,bo,bc,tno,tc,so,sc,rfl,hg,hp,hx⟩:=hc.shape;have HG:=lh hg;have HPC:=lh hp;have HP:=lh hp.at;have HXP:=lh hx;have HPVI:=lh (show aL w (.slice ao p.v.length ac) p.v∧aL w (.slice bo p.e.length bc) p.e by obtain⟨v1,v2,e,he,he2⟩:=hp.at;cases e;exact⟨he,he2⟩);have HTI:=lh (show cG w (.slice tno aB.length tc) aB by obtain⟨u1,u2,e,he,-⟩:=hx;cases e;exact he);clear hg hp hx hc;have HXC:=lh (show Chg [] w (w.alloc (.cells #[.int .i64 g.n,.slice eo g.e.length cap,.slice ao p.v.length ac,.slice bo p.e.length bc,.slice tno aB.length tc,.slice so same.length sc] 34)) from (show Chg [] w (w.alloc (.cells #[.int .i64 g.n,.slice eo g.e.length cap,.slice ao p.v.length ac,.slice bo p.e.length bc,.slice tno aB.length tc,.slice so same.length sc] 34)) from ((Chg.refl [] w).alloc _)));have qbx0:=heap_alloc_new w (.cells #[.int .i64 g.n,.slice eo g.e.length cap,.slice ao p.v.length ac,.slice bo p.e.length bc,.slice tno aB.length tc,.slice so same.length sc] 34);have HX:=lh (fun (w2:World) (hbx:Chg [] (w.alloc (.cells #[.int .i64 g.n,.slice eo g.e.length cap,.slice ao p.v.length ac,.slice bo p.e.length bc,.slice tno aB.length tc,.slice so same.length sc] 34)) w2)=>(⟨hbx.c ((cell_of_row _ _ 0 _ _ _ qbx0).trans rfl),hbx.c ((cell_of_row _ _ 1 _ _ _ qbx0).trans rfl),hbx.c ((cell_of_row _ _ 2 _ _ _ qbx0).trans rfl),hbx.c ((cell_of_row _ _ 3 _ _ _ qbx0).trans rfl),hbx.c ((cell_of_row _ _ 4 _ _ _ qbx0).trans rfl),hbx.c ((cell_of_row _ _ 5 _ _ _ qbx0).trans rfl),by have hz:=hbx.size;simpa using hz⟩:w2.cell? ⟨w.heap.size,0,none⟩=some (.int .i64 g.n)∧w2.cell? ⟨w.heap.size,1,none⟩=some (.slice eo g.e.length cap)∧w2.cell? ⟨w.heap.size,2,none⟩=some (.slice ao p.v.length ac)∧w2.cell? ⟨w.heap.size,3,none⟩=some (.slice bo p.e.length bc)∧w2.cell? ⟨w.heap.size,4,none⟩=some (.slice tno aB.length tc)∧w2.cell? ⟨w.heap.size,5,none⟩=some (.slice so same.length sc)∧w.heap.size+1≤w2.heap.size));clear qbx0;have HXZ:=lh (show (w.alloc (.cells #[.int .i64 g.n,.slice eo g.e.length cap,.slice ao p.v.length ac,.slice bo p.e.length bc,.slice tno aB.length tc,.slice so same.length sc] 34)).heap.size=w.heap.size+1 by simp);obtain⟨c0,c1,c2,c3,c4,c5,hsz⟩:=HX.out _ (Chg.refl _ _)
 go_enter Tryz.func6,Tryz.ntmps6
 go_wp2_with fail
 generalize (w.alloc (.cells #[.int .i64 g.n,.slice eo g.e.length cap,.slice ao p.v.length ac,.slice bo p.e.length bc,.slice tno aB.length tc,.slice so same.length sc] 34))=w1 at *;refine (uI _).mono ?_;rintro e w2 ⟨rfl,hc2⟩;have HC2:=lh hc2;clear c0 c1 c2 c3 c4 c5 hsz hc2;obtain⟨c0,c1,c2,c3,c4,c5,hsz⟩:=HX.out _ HC2.out
 go_wp2_with fail
 refine (aBK _ g p aB same _ (HCA.out.fresh (HXC.out.t HC2.out))).mono ?_;rintro e w3 ⟨rfl,hc3⟩;have HC3:=lh (HC2.out.t hc3);clear c0 c1 c2 c3 c4 c5 hsz hc3;obtain⟨c0,c1,c2,c3,c4,c5,hsz⟩:=HX.out _ HC3.out;cases hb1:aA.iQ g p aB same with
 | false =>
  clear hb1
  go_wp2_with fail
  refine (uI _).mono ?_;rintro e w4 ⟨rfl,hc4⟩;have HC4:=lh ((HXC.out.t HC3.out).t hc4);clear c0 c1 c2 c3 c4 c5 hsz hc4;go_wp2;go_ret;exact⟨rfl,HC4.out⟩
 | true =>
 obtain⟨b1,b2,b3,b4,b5,b6⟩:=aA.aFv hb1;obtain⟨d1,d2,d3⟩:=aA.aE2 (aA.tO hb1).1;have HB4:=lh b4;have HB6:=lh (fun i=>Nat.le_trans (b6 i) (by omega:60≤10000));have HROWS:=lh (aA.tO hb1).2;have HRL:=lh (fun v=>Nat.lt_of_le_of_lt (aA.aBg hb1 v) (by decide:200<4294967296));clear hb1 b4 b6;by_cases hae:aA.kF g p aB same v r=0
 ·obtain⟨hz,hv0,hv1,hvp,n,rfl,hn⟩:=aA.aE3 hae
  have HZ:=lh hz;have HVP:=lh hvp;have HAR:=lh (fun S h1 h2=>aA.aHB (S:=S) hz hv0 hvp h1 h2 hn);have HRT:=lh (fun S h1 h2=>aA.aFl (S:=S) hz hv0 hv1 hvp hn h1 h2);have HHL:=lh (aA.sY hz);have HNH:=lh hn;have hpe:=(aA.eP hz).1;have hgn:=(aA.Gr.aV (aA.Pt.aV hpe).1).2.1;have HKL:=lh (show (aA.eZ p ⟨[v],[]⟩).v.length≤1000∧(aA.eZ p ⟨[v],[]⟩).e.length≤1000∧(aA.eZ p ⟨[v],[]⟩).v=aA.orL p.v [v]∧(aA.eZ p ⟨[v],[]⟩).e=p.e from by
   have h1:=aA.uX p.v [v];have h2:(aA.eZ p ⟨[v],[]⟩).e=p.e:=aA.pN _;refine⟨?_,by rw[h2];omega,rfl,h2⟩;show (aA.orL p.v [v]).length≤1000;simp at h1;omega)
  have HSN:=lh (show ∀ S:List (List Int),S.Perm (aA.jG (aA.fE g p aB same) n (-1 - v))→S.length≤1001∧∀ i,(S.getD i []).length≤1001 from fun S h=>by
   obtain⟨h1,h2⟩:=aA.lO hz b2 b1;refine⟨?_,fun i=>?_⟩
   ·rw[h.length_eq]
    unfold aA.jG;rw[List.length_map];exact Nat.le_trans (List.length_filter_le _ _) (by rw[List.length_set];omega)
   by_cases hi:i<S.length
   ·obtain⟨m,hm,e⟩:=List.mem_map.1 (h.mem_iff.1 (aA.cO hi))
    rw[←e,(aA.sorted_perm m).length_eq];have hm:=(List.mem_filter.1 hm).1;rcases List.mem_or_eq_of_mem_set hm with q | q
    ·have:=(h1 m q).2;omega
    rw[q,List.length_append];have:=(h1 _ (aA.cO hn)).2;simp only[List.length_singleton];omega
   rw[show S.getD i []=[] by simp[List.getD,show S.length≤i by omega]];simp)
  have HRG:=lh (show (∀ l∈aA.aJ g p aB same,l≠[])∧(aA.aJ g p aB same).length≤1000∧∀ l∈aA.aJ g p aB same,l.length≤1000 from by
   obtain⟨h1,h2⟩:=aA.lO hz b2 b1;have h3:=aA.sY hz;refine⟨aA.lR hz,by omega,fun l hl=>?_⟩;by_cases hpv:p.v=[]
   ·have hpt:=aA.iN hz (aA.bS hpe (aA.eP hz).2)
    obtain⟨x,hx⟩:=List.exists_mem_of_ne_nil _ (aA.lR hz l hl);have hm:x∈(aA.aJ g p aB same).flatten:=List.mem_flatten.2 ⟨l,hl,hx⟩;obtain⟨f,hf,-⟩:=List.mem_map.1 (((aA.gY hpt).perm.flatten.trans hpt.all).mem_iff.1 hm);have:=aA.dG (aA.Pt.aQ hpe) (aA.bS hpe (aA.eP hz).2).eF f hf;rw[hpv] at this;simp at this
   exact (h1 l (by unfold aA.fE;rw[if_neg hpv];exact hl)).2)
  have IX:I64 (-1 - v):=I64.mk (by omega) (by omega);have wx:IntKind.i64.wrap (-1 - v) = -1 - v:=IntWalk.i64_in _ (by omega);have HWX:=lh wx;have HRW:=lh (show ∀ v,(aA.aX (aB.map aA.first) v).length<4294967296 from fun v=>by
   have h1:aA.aX (aB.map aA.first) v=aA.first (aA.aX aB v):=by
    unfold aA.aX;simp only[List.getD,List.getElem?_map];cases aB[v.toNat]? <;> rfl
   rw[h1,aA.kW];exact HRL.out v)
  go_wp2_with fail
  refine (aFQ _ _ _ g p aB same v n _ b2 b1 b3 HROWS.out (by have:=HB4.out;omega) (by omega) HB6.out hz hv0 hv1 hvp hn (HG.out.fresh (HXC.out.t HC3.out)) (HPC.out.fresh (HXC.out.t HC3.out)) (HXP.out.fresh (HXC.out.t HC3.out))).mono ?_;rintro e w4 ⟨o1,o2,S,rfl,hSp,hSo,hlow,hc4⟩;have HC4:=lh (HC3.out.t hc4);have HKC:=lh (hlow [] w4 (Chg.refl _ _) (by simp)).1;have HKP:=lh (hlow [] w4 (Chg.refl _ _) (by simp)).2;have HRA:=lh (HAR.out S hSp hSo);have HRZ:=lh (HRT.out S hSp hSo);have HSS:=lh (HSN.out S hSp);obtain⟨Kq,hK⟩:∃ Kq,aA.eZ p ⟨[v],[]⟩=Kq:=⟨_,rfl⟩;rw[hK] at HKC HKL HRZ;obtain⟨TT,hTT⟩:∃ TT,aB.map aA.first=TT:=⟨_,rfl⟩;have HTT:=lh hTT;have htl:TT.length=aB.length:=by rw[←hTT,List.length_map]
  rw[hTT] at HKP HRW;have HTL:=lh htl;obtain⟨g1,x1,g2,x2,rfl⟩:=HKC.out.shape;have HKV:=lh (show aL w4 (.slice g1 Kq.v.length x1) Kq.v∧aL w4 (.slice g2 Kq.e.length x2) Kq.e by obtain⟨v1,v2,e,he,he2⟩:=HKC.out.at;cases e;exact⟨he,he2⟩);obtain⟨u1,u2,rfl,hk1,hk2⟩:=HKP.out;have HK1:=lh hk1;have HK2:=lh hk2;obtain⟨g3,x3,rfl,-⟩:=hk1;obtain⟨g4,x4,rfl,-⟩:=hk2;have b0:decide (v<0)=false:=decide_eq_false (by omega);have b1':decide (v ≥ g.n)=false:=decide_eq_false (by omega);have b2':decide ((n:Int)<0)=false:=decide_eq_false (by omega);clear c0 c1 c2 c3 c4 c5 hsz hc4 hae hz hvp hn hpe HAR HRT HSN hK hTT htl hSp hSo hlow;have HYC:=lh (show Chg [] w4 ((w4.alloc (.cells #[.slice g1 Kq.v.length x1,.slice g2 Kq.e.length x2] 29)).alloc (.cells #[.slice g3 TT.length x3,.slice g4 S.length x4] 32)) from (show Chg [] w4 ((w4.alloc (.cells #[.slice g1 Kq.v.length x1,.slice g2 Kq.e.length x2] 29)).alloc (.cells #[.slice g3 TT.length x3,.slice g4 S.length x4] 32)) from (((Chg.refl [] w4).alloc _).alloc _)));have qbx0:=heap_alloc_new w4 (.cells #[.slice g1 Kq.v.length x1,.slice g2 Kq.e.length x2] 29);replace qbx0:=(show Chg [] (w4.alloc (.cells #[.slice g1 Kq.v.length x1,.slice g2 Kq.e.length x2] 29)) ((w4.alloc (.cells #[.slice g1 Kq.v.length x1,.slice g2 Kq.e.length x2] 29)).alloc (.cells #[.slice g3 TT.length x3,.slice g4 S.length x4] 32)) from ((Chg.refl [] (w4.alloc (.cells #[.slice g1 Kq.v.length x1,.slice g2 Kq.e.length x2] 29))).alloc _)).heap qbx0 (by simp);have qbx1:=heap_alloc_new (w4.alloc (.cells #[.slice g1 Kq.v.length x1,.slice g2 Kq.e.length x2] 29)) (.cells #[.slice g3 TT.length x3,.slice g4 S.length x4] 32);rw[show (w4.alloc (.cells #[.slice g1 Kq.v.length x1,.slice g2 Kq.e.length x2] 29)).heap.size=w4.heap.size+1 by simp] at qbx1;have HY:=lh (fun (w2:World) (hbx:Chg [] ((w4.alloc (.cells #[.slice g1 Kq.v.length x1,.slice g2 Kq.e.length x2] 29)).alloc (.cells #[.slice g3 TT.length x3,.slice g4 S.length x4] 32)) w2)=>(⟨hbx.c ((cell_of_row _ _ 0 _ _ _ qbx0).trans rfl),hbx.c ((cell_of_row _ _ 1 _ _ _ qbx0).trans rfl),hbx.c ((cell_of_row _ _ 0 _ _ _ qbx1).trans rfl),hbx.c ((cell_of_row _ _ 1 _ _ _ qbx1).trans rfl),by have hz:=hbx.size;simpa using hz⟩:w2.cell? ⟨w4.heap.size,0,none⟩=some (.slice g1 Kq.v.length x1)∧w2.cell? ⟨w4.heap.size,1,none⟩=some (.slice g2 Kq.e.length x2)∧w2.cell? ⟨w4.heap.size+1,0,none⟩=some (.slice g3 TT.length x3)∧w2.cell? ⟨w4.heap.size+1,1,none⟩=some (.slice g4 S.length x4)∧w4.heap.size+2≤w2.heap.size));clear qbx0 qbx1;have HYZ:=lh (show ((w4.alloc (.cells #[.slice g1 Kq.v.length x1,.slice g2 Kq.e.length x2] 29)).alloc (.cells #[.slice g3 TT.length x3,.slice g4 S.length x4] 32)).heap.size=w4.heap.size+2 by simp);have HCY:=lh (HC4.out.t HYC.out);obtain⟨c0,c1,c2,c3,c4,c5,hsz⟩:=HX.out _ HCY.out;obtain⟨m0,m1,n0,n1,hsz2⟩:=HY.out _ (Chg.refl _ _)
  go_wp2_with fail
  generalize ((w4.alloc (.cells #[.slice g1 Kq.v.length x1,.slice g2 Kq.e.length x2] 29)).alloc (.cells #[.slice g3 TT.length x3,.slice g4 S.length x4] 32))=w5 at *;have HWY:=lh (HXC.out.t HCY.out);refine (lX _ _ _ g p aB same _ (by omega) (by omega) (by omega) HRL.out (by omega) HB6.out (HG.out.fresh HWY.out) (HP.out.fresh HWY.out) (HXP.out.fresh HWY.out)).mono ?_;rintro e w6 ⟨rfl,hc6⟩;rw[HZ.out];have HC56:=lh hc6;have HCN:=lh (HCY.out.t hc6);clear c0 c1 c2 c3 c4 c5 hsz m0 m1 n0 n1 hsz2 hc6;obtain⟨c0,c1,c2,c3,c4,c5,hsz⟩:=HX.out _ HCN.out;obtain⟨m0,m1,n0,n1,hsz2⟩:=HY.out _ HC56.out
  go_wp2_with fail
  refine (gD _ p.v v _ (HPVI.out.1.fresh (HXC.out.t HCN.out))).mono ?_;rintro e w7 ⟨rfl,hc7⟩;rw[decide_eq_false HVP.out];have HC57:=lh (HC56.out.t hc7);have HC7:=lh (HCN.out.t hc7);clear c0 c1 c2 c3 c4 c5 hsz m0 m1 n0 n1 hsz2 hc7 HCN;obtain⟨c0,c1,c2,c3,c4,c5,hsz⟩:=HX.out _ HC7.out;obtain⟨m0,m1,n0,n1,hsz2⟩:=HY.out _ HC57.out
  go_wp2_with fail
  refine (kE _ _ _ g p aB same _ (by omega) (by omega) HRL.out (by omega) HZ.out (HG.out.fresh (HXC.out.t HC7.out)) (HP.out.fresh (HXC.out.t HC7.out)) (HXP.out.fresh (HXC.out.t HC7.out))).mono ?_;rintro e w8 ⟨rv,rfl,⟨rvo,rvc,rfl,-⟩,hc8⟩;have HC58:=lh (HC57.out.t hc8);have HC8:=lh (HC7.out.t hc8);obtain⟨M,hM⟩:∃ M,(aA.aJ g p aB same).length=M:=⟨_,rfl⟩;have hhl:=HHL.out;have hnh:=HNH.out;rw[hM] at hhl ⊢;have b3':decide ((n:Int) ≥ max (M:Int) 1)=false:=decide_eq_false (by omega);clear c0 c1 c2 c3 c4 c5 hsz m0 m1 n0 n1 hsz2 hc8 hM hhl hnh;obtain⟨c0,c1,c2,c3,c4,c5,hsz⟩:=HX.out _ HC8.out;obtain⟨m0,m1,n0,n1,hsz2⟩:=HY.out _ HC58.out;have HW8:=lh (HXC.out.t HC8.out);have HY8:=lh (HYC.out.t HC58.out);clear wx;go_wp2;have hS0:Chg [] w8 w8.drew:=(Chg.refl [] w8).drew;refine aF (Chg [] w8) [0,1,2,3,4,5,6,7,8,12,13,14,15,16,17,18,20,21,22,23,24,25,26,29,30,31,32,33,34,35,36,37,38,39,40,43,44,45,46,47,48,50,51] (Way.line [0,1,2,3,4,5,6,7,8,9,10,11,12,13,14,15,16,17,18,19,20,21,22,23,24,25,26,27,28,29,30,31,32,33,34,35,36,37,38,39,40,41,42,43,44,45,46,47,48,49,50,51,52] .done) (by kernel_rfl) (by kernel_rfl) ?_;simp only[Way.line]
  repeat
   first
    | (refine aE rfl (by rfl) (by rfl) (fun _ _ _ h=>h) hS0 ?_;simp only[Act.put,Z1,Z2,Z3,Z4,Z5,Z6])
    | (refine aC (v:=?_) rfl (by rfl) (by rfl) (fun _ _ _ h=>h) hS0 (fun w' hS'=>?_) ?_;rotate_left;(focus (have rd0:=hS'.c c0;have rd1:=hS'.c c1;have rd2:=hS'.c c2;have rd3:=hS'.c c3;have rd4:=hS'.c c4;have rd5:=hS'.c c5;have rd6:=hS'.c m0;have rd7:=hS'.c m1;have rd8:=hS'.c n0;have rd9:=hS'.c n1;clear hS';go_simp;try with_reducible rfl));simp only[Act.put,Z1,Z2,Z3,Z4,Z5,Z6])
    | (refine aD rfl (by rfl) (by rfl) hS0 ?_;simp only[Act.put,Z1,Z2,Z3,Z4,Z5,Z6])
  refine aI rfl (by rfl) (by rfl) (fun K0 hK=>?_);go_simp;have HRV:=lh (((mM (w:=w8) (B:=w8.heap.size) (Nat.le_refl _) IV).chg ((Chg.refl [] _).drew) (by simp):aM (w8.alloc (.cells #[.int .i64 v] 3)).drew _ _ _));have hS1:=((Chg.refl [] w8).alloc (.cells #[.int .i64 v] 3)).drew;refine hK.out _ _ (fun _=>hS1) ?_;clear hK K0 hS0;have hS0:=hS1;clear hS1
  try simp only[Act.put,Z1,Z2,Z3,Z4,Z5,Z6]
  obtain⟨vb,hvb⟩:∃ b,w8.heap.size=b:=⟨_,rfl⟩;replace HRV:Hid (aM (w8.alloc (.cells #[.int .i64 v] 3)).drew vb (.slice (some ⟨vb,0,none⟩) 1 1) [v]):=by rw[←hvb];exact HRV
  rw[hvb];clear hvb;generalize (w8.alloc (.cells #[.int .i64 v] 3)).drew=t1 at *
  repeat
   first
    | (refine aE rfl (by rfl) (by rfl) (fun _ _ _ h=>h) hS0 ?_;simp only[Act.put,Z1,Z2,Z3,Z4,Z5,Z6])
    | (refine aC (v:=?_) rfl (by rfl) (by rfl) (fun _ _ _ h=>h) hS0 (fun w' hS'=>?_) ?_;rotate_left;(focus (have rd0:=hS'.c c0;have rd1:=hS'.c c1;have rd2:=hS'.c c2;have rd3:=hS'.c c3;have rd4:=hS'.c c4;have rd5:=hS'.c c5;have rd6:=hS'.c m0;have rd7:=hS'.c m1;have rd8:=hS'.c n0;have rd9:=hS'.c n1;clear hS';go_simp;try with_reducible rfl));simp only[Act.put,Z1,Z2,Z3,Z4,Z5,Z6])
    | (refine aD rfl (by rfl) (by rfl) hS0 ?_;simp only[Act.put,Z1,Z2,Z3,Z4,Z5,Z6])
  refine aI rfl (by rfl) (by rfl) (fun K hK=>?_);go_simp;refine (vI _ _ p.v [v] _ (by omega) (by simp) (HPVI.out.1.fresh (HW8.out.t hS0)) HRV.out.ints).mono ?_;rintro e t2 ⟨ov,rfl,hov,hcx⟩;have hS1:=hS0.t hcx;clear hS0 hcx;have hS0:=hS1;clear hS1;refine hK.out _ _ (fun _=>hS0) ?_;clear hK K
  try simp only[Act.put,Z1,Z2,Z3,Z4,Z5,Z6]
  have HOV:=lh hov;clear hov
  repeat
   first
    | (refine aE rfl (by rfl) (by rfl) (fun _ _ _ h=>h) hS0 ?_;simp only[Act.put,Z1,Z2,Z3,Z4,Z5,Z6])
    | (refine aC (v:=?_) rfl (by rfl) (by rfl) (fun _ _ _ h=>h) hS0 (fun w' hS'=>?_) ?_;rotate_left;(focus (have rd0:=hS'.c c0;have rd1:=hS'.c c1;have rd2:=hS'.c c2;have rd3:=hS'.c c3;have rd4:=hS'.c c4;have rd5:=hS'.c c5;have rd6:=hS'.c m0;have rd7:=hS'.c m1;have rd8:=hS'.c n0;have rd9:=hS'.c n1;clear hS';go_simp;try with_reducible rfl));simp only[Act.put,Z1,Z2,Z3,Z4,Z5,Z6])
    | (refine aD rfl (by rfl) (by rfl) hS0 ?_;simp only[Act.put,Z1,Z2,Z3,Z4,Z5,Z6])
  refine aI rfl (by rfl) (by rfl) (fun K hK=>?_);go_simp;refine (sT _ _ Kq.v (aA.orL p.v [v]) _ (HKV.out.1.fresh (HY8.out.t hS0)) HOV.out.ints).mono ?_;rintro e t3 ⟨rfl,hcx⟩;have hS1:=hS0.t hcx;clear hS0 hcx;have hS0:=hS1;clear hS1;refine hK.out _ _ (fun _=>hS0) ?_;clear hK K
  try simp only[Act.put,Z1,Z2,Z3,Z4,Z5,Z6]
  rw[decide_eq_true HKL.out.2.2.1]
  repeat
   first
    | (refine aE rfl (by rfl) (by rfl) (fun _ _ _ h=>h) hS0 ?_;simp only[Act.put,Z1,Z2,Z3,Z4,Z5,Z6])
    | (refine aC (v:=?_) rfl (by rfl) (by rfl) (fun _ _ _ h=>h) hS0 (fun w' hS'=>?_) ?_;rotate_left;(focus (have rd0:=hS'.c c0;have rd1:=hS'.c c1;have rd2:=hS'.c c2;have rd3:=hS'.c c3;have rd4:=hS'.c c4;have rd5:=hS'.c c5;have rd6:=hS'.c m0;have rd7:=hS'.c m1;have rd8:=hS'.c n0;have rd9:=hS'.c n1;clear hS';go_simp;try with_reducible rfl));simp only[Act.put,Z1,Z2,Z3,Z4,Z5,Z6])
    | (refine aD rfl (by rfl) (by rfl) hS0 ?_;simp only[Act.put,Z1,Z2,Z3,Z4,Z5,Z6])
  refine aI rfl (by rfl) (by rfl) (fun K hK=>?_);go_simp;refine (sT _ _ Kq.e p.e _ (HKV.out.2.fresh (HY8.out.t hS0)) (HPVI.out.2.fresh (HW8.out.t hS0))).mono ?_;rintro e t4 ⟨rfl,hcx⟩;have hS1:=hS0.t hcx;clear hS0 hcx;have hS0:=hS1;clear hS1;refine hK.out _ _ (fun _=>hS0) ?_;clear hK K
  try simp only[Act.put,Z1,Z2,Z3,Z4,Z5,Z6]
  rw[decide_eq_true HKL.out.2.2.2]
  repeat
   first
    | (refine aE rfl (by rfl) (by rfl) (fun _ _ _ h=>h) hS0 ?_;simp only[Act.put,Z1,Z2,Z3,Z4,Z5,Z6])
    | (refine aC (v:=?_) rfl (by rfl) (by rfl) (fun _ _ _ h=>h) hS0 (fun w' hS'=>?_) ?_;rotate_left;(focus (have rd0:=hS'.c c0;have rd1:=hS'.c c1;have rd2:=hS'.c c2;have rd3:=hS'.c c3;have rd4:=hS'.c c4;have rd5:=hS'.c c5;have rd6:=hS'.c m0;have rd7:=hS'.c m1;have rd8:=hS'.c n0;have rd9:=hS'.c n1;clear hS';go_simp;try with_reducible rfl));simp only[Act.put,Z1,Z2,Z3,Z4,Z5,Z6])
    | (refine aD rfl (by rfl) (by rfl) hS0 ?_;simp only[Act.put,Z1,Z2,Z3,Z4,Z5,Z6])
  refine aI rfl (by rfl) (by rfl) (fun K hK=>?_);go_simp;refine (yH _ aB _ (by omega) (fun i=>Nat.lt_of_le_of_lt (HROWS.out i) (by decide)) (HTI.out.fresh (HW8.out.t hS0))).mono ?_;rintro e t5 ⟨fv,-,rfl,-,hfr,hcx⟩;have hS1:=hS0.t hcx;clear hS0 hcx;have hS0:=hS1;clear hS1;refine hK.out _ _ (fun _=>hS0) ?_;clear hK K
  try simp only[Act.put,Z1,Z2,Z3,Z4,Z5,Z6]
  rw[HTT.out] at hfr;have HFR:=lh hfr;clear hfr
  repeat
   first
    | (refine aE rfl (by rfl) (by rfl) (fun _ _ _ h=>h) hS0 ?_;simp only[Act.put,Z1,Z2,Z3,Z4,Z5,Z6])
    | (refine aC (v:=?_) rfl (by rfl) (by rfl) (fun _ _ _ h=>h) hS0 (fun w' hS'=>?_) ?_;rotate_left;(focus (have rd0:=hS'.c c0;have rd1:=hS'.c c1;have rd2:=hS'.c c2;have rd3:=hS'.c c3;have rd4:=hS'.c c4;have rd5:=hS'.c c5;have rd6:=hS'.c m0;have rd7:=hS'.c m1;have rd8:=hS'.c n0;have rd9:=hS'.c n1;clear hS';go_simp;try with_reducible rfl));simp only[Act.put,Z1,Z2,Z3,Z4,Z5,Z6])
    | (refine aD rfl (by rfl) (by rfl) hS0 ?_;simp only[Act.put,Z1,Z2,Z3,Z4,Z5,Z6])
  refine aI rfl (by rfl) (by rfl) (fun K hK=>?_);go_simp;refine (qB _ _ TT TT _ (HK1.out.fresh (HY8.out.t hS0)) HFR.out).mono ?_;rintro e t6 ⟨rfl,hcx⟩;have hS1:=hS0.t hcx;clear hS0 hcx;have hS0:=hS1;clear hS1;refine hK.out _ _ (fun _=>hS0) ?_;clear hK K
  try simp only
  repeat
   first
    | (refine aE rfl (by rfl) (by rfl) (fun _ _ _ h=>h) hS0 ?_;simp only[Act.put,Z1,Z2,Z3,Z4,Z5,Z6])
    | (refine aC (v:=?_) rfl (by rfl) (by rfl) (fun _ _ _ h=>h) hS0 (fun w' hS'=>?_) ?_;rotate_left;(focus (have rd0:=hS'.c c0;have rd1:=hS'.c c1;have rd2:=hS'.c c2;have rd3:=hS'.c c3;have rd4:=hS'.c c4;have rd5:=hS'.c c5;have rd6:=hS'.c m0;have rd7:=hS'.c m1;have rd8:=hS'.c n0;have rd9:=hS'.c n1;clear hS';go_simp;try with_reducible rfl));simp only[Act.put,Z1,Z2,Z3,Z4,Z5,Z6])
    | (refine aD rfl (by rfl) (by rfl) hS0 ?_;simp only[Act.put,Z1,Z2,Z3,Z4,Z5,Z6])
  refine aI rfl (by rfl) (by rfl) (fun K hK=>?_);go_simp;refine (aAa _ _ _ g p aB same v n S _ (by omega) (by omega) HRL.out (by omega) HZ.out IX HWX.out HRG.out.1 HRG.out.2.1 HRG.out.2.2 HRA.out.1 HRA.out.2 (HG.out.fresh (HW8.out.t hS0)) (HP.out.fresh (HW8.out.t hS0)) (HXP.out.fresh (HW8.out.t hS0))).mono ?_;rintro e t7 ⟨av,rfl,har,hcx⟩;have hS1:=hS0.t hcx;clear hS0 hcx;have hS0:=hS1;clear hS1;refine hK.out _ _ (fun _=>hS0) ?_;clear hK K
  try simp only[Act.put,Z1,Z2,Z3,Z4,Z5,Z6]
  have HAR2:=lh har;clear har
  repeat
   first
    | (refine aE rfl (by rfl) (by rfl) (fun _ _ _ h=>h) hS0 ?_;simp only[Act.put,Z1,Z2,Z3,Z4,Z5,Z6])
    | (refine aC (v:=?_) rfl (by rfl) (by rfl) (fun _ _ _ h=>h) hS0 (fun w' hS'=>?_) ?_;rotate_left;(focus (have rd0:=hS'.c c0;have rd1:=hS'.c c1;have rd2:=hS'.c c2;have rd3:=hS'.c c3;have rd4:=hS'.c c4;have rd5:=hS'.c c5;have rd6:=hS'.c m0;have rd7:=hS'.c m1;have rd8:=hS'.c n0;have rd9:=hS'.c n1;clear hS';go_simp;try with_reducible rfl));simp only[Act.put,Z1,Z2,Z3,Z4,Z5,Z6])
    | (refine aD rfl (by rfl) (by rfl) hS0 ?_;simp only[Act.put,Z1,Z2,Z3,Z4,Z5,Z6])
  refine aI rfl (by rfl) (by rfl) (fun K hK=>?_);go_simp;refine (qB _ _ S S _ (HK2.out.fresh (HY8.out.t hS0)) HAR2.out).mono ?_;rintro e t8 ⟨rfl,hcx⟩;have hS1:=hS0.t hcx;clear hS0 hcx;have hS0:=hS1;clear hS1;refine hK.out _ _ (fun _=>hS0) ?_;clear hK K
  try simp only
  repeat
   first
    | (refine aE rfl (by rfl) (by rfl) (fun _ _ _ h=>h) hS0 ?_;simp only[Act.put,Z1,Z2,Z3,Z4,Z5,Z6])
    | (refine aC (v:=?_) rfl (by rfl) (by rfl) (fun _ _ _ h=>h) hS0 (fun w' hS'=>?_) ?_;rotate_left;(focus (have rd0:=hS'.c c0;have rd1:=hS'.c c1;have rd2:=hS'.c c2;have rd3:=hS'.c c3;have rd4:=hS'.c c4;have rd5:=hS'.c c5;have rd6:=hS'.c m0;have rd7:=hS'.c m1;have rd8:=hS'.c n0;have rd9:=hS'.c n1;clear hS';go_simp;try with_reducible rfl));simp only[Act.put,Z1,Z2,Z3,Z4,Z5,Z6])
    | (refine aD rfl (by rfl) (by rfl) hS0 ?_;simp only[Act.put,Z1,Z2,Z3,Z4,Z5,Z6])
  refine aI rfl (by rfl) (by rfl) (fun K hK=>?_);go_simp;refine (lX _ _ _ g Kq TT S _ HKL.out.2.1 HKL.out.1 (by omega) HRW.out (by have:=HSS.out.1;omega) (fun i=>Nat.le_trans (HSS.out.2 i) (by decide)) (HG.out.fresh (HW8.out.t hS0)) (HKC.out.at.fresh (HY8.out.t hS0)) (HKP.out.fresh (HY8.out.t hS0))).mono ?_;rintro e t9 ⟨rfl,hcx⟩;have hS1:=hS0.t hcx;clear hS0 hcx;have hS0:=hS1;clear hS1;refine hK.out _ _ (fun _=>hS0) ?_;clear hK K
  try simp only[Act.put,Z1,Z2,Z3,Z4,Z5,Z6]
  rw[show aA.aN g Kq TT S=0 by rw[←HTT.out,aA.qJ];exact HRZ.out]
  repeat
   first
    | (refine aE rfl (by rfl) (by rfl) (fun _ _ _ h=>h) hS0 ?_;simp only[Act.put,Z1,Z2,Z3,Z4,Z5,Z6])
    | (refine aC (v:=?_) rfl (by rfl) (by rfl) (fun _ _ _ h=>h) hS0 (fun w' hS'=>?_) ?_;rotate_left;(focus (have rd0:=hS'.c c0;have rd1:=hS'.c c1;have rd2:=hS'.c c2;have rd3:=hS'.c c3;have rd4:=hS'.c c4;have rd5:=hS'.c c5;have rd6:=hS'.c m0;have rd7:=hS'.c m1;have rd8:=hS'.c n0;have rd9:=hS'.c n1;clear hS';go_simp;try with_reducible rfl));simp only[Act.put,Z1,Z2,Z3,Z4,Z5,Z6])
    | (refine aD rfl (by rfl) (by rfl) hS0 ?_;simp only[Act.put,Z1,Z2,Z3,Z4,Z5,Z6])
  refine aI rfl (by rfl) (by rfl) (fun K0 hK=>?_);go_simp;refine hK.out _ _ (fun _=>hS0) ?_;clear hK K0
  try simp only[Act.put,Z1,Z2,Z3,Z4,Z5,Z6]
  refine aG ?_;have HS0:=lh hS0;clear hS0 c0 c1 c2 c3 c4 c5 m0 m1 n0 n1 hsz hsz2;go_wp2;go_ret;exact⟨bK (by simp),HW8.out.t HS0.out⟩
 go_wp2_with fail
 refine (aGA _ _ _ g p aB same v r _ b2 b1 b3 (by have:=HB4.out;omega) (by omega) HB6.out hae (HG.out.fresh (HXC.out.t HC3.out)) (HPC.out.fresh (HXC.out.t HC3.out)) (HXP.out.fresh (HXC.out.t HC3.out)) IV IR).mono ?_;rintro e w4 ⟨rfl,hc4⟩;have HC4:=lh (HC3.out.t hc4);have HAE:=lh hae;clear c0 c1 c2 c3 c4 c5 hsz hc4;obtain⟨ae,hae2⟩:∃ ae,aA.kF g p aB same v r=ae:=⟨_,rfl⟩;have HA2:=lh hae2;rw[hae2] at hae ⊢;clear hae2;have HYC:=lh (show Chg [] w4 ((w4.alloc (.cells #[.slice none 0 0,.slice none 0 0] 29)).alloc (.cells #[.slice none 0 0,.slice none 0 0] 32)) from (show Chg [] w4 ((w4.alloc (.cells #[.slice none 0 0,.slice none 0 0] 29)).alloc (.cells #[.slice none 0 0,.slice none 0 0] 32)) from (((Chg.refl [] w4).alloc _).alloc _)));have qbx0:=heap_alloc_new w4 (.cells #[.slice none 0 0,.slice none 0 0] 29);replace qbx0:=(show Chg [] (w4.alloc (.cells #[.slice none 0 0,.slice none 0 0] 29)) ((w4.alloc (.cells #[.slice none 0 0,.slice none 0 0] 29)).alloc (.cells #[.slice none 0 0,.slice none 0 0] 32)) from ((Chg.refl [] (w4.alloc (.cells #[.slice none 0 0,.slice none 0 0] 29))).alloc _)).heap qbx0 (by simp);have qbx1:=heap_alloc_new (w4.alloc (.cells #[.slice none 0 0,.slice none 0 0] 29)) (.cells #[.slice none 0 0,.slice none 0 0] 32);rw[show (w4.alloc (.cells #[.slice none 0 0,.slice none 0 0] 29)).heap.size=w4.heap.size+1 by simp] at qbx1;have HY:=lh (fun (w2:World) (hbx:Chg [] ((w4.alloc (.cells #[.slice none 0 0,.slice none 0 0] 29)).alloc (.cells #[.slice none 0 0,.slice none 0 0] 32)) w2)=>(⟨hbx.c ((cell_of_row _ _ 0 _ _ _ qbx0).trans rfl),hbx.c ((cell_of_row _ _ 1 _ _ _ qbx0).trans rfl),hbx.c ((cell_of_row _ _ 0 _ _ _ qbx1).trans rfl),hbx.c ((cell_of_row _ _ 1 _ _ _ qbx1).trans rfl),by have hz:=hbx.size;simpa using hz⟩:w2.cell? ⟨w4.heap.size,0,none⟩=some (.slice none 0 0)∧w2.cell? ⟨w4.heap.size,1,none⟩=some (.slice none 0 0)∧w2.cell? ⟨w4.heap.size+1,0,none⟩=some (.slice none 0 0)∧w2.cell? ⟨w4.heap.size+1,1,none⟩=some (.slice none 0 0)∧w4.heap.size+2≤w2.heap.size));clear qbx0 qbx1;have HYZ:=lh (show ((w4.alloc (.cells #[.slice none 0 0,.slice none 0 0] 29)).alloc (.cells #[.slice none 0 0,.slice none 0 0] 32)).heap.size=w4.heap.size+2 by simp);have HCY:=lh (HC4.out.t HYC.out);obtain⟨c0,c1,c2,c3,c4,c5,hsz⟩:=HX.out _ HCY.out;obtain⟨m0,m1,n0,n1,hsz2⟩:=HY.out _ (Chg.refl _ _)
 go_wp2_with fail
 generalize ((w4.alloc (.cells #[.slice none 0 0,.slice none 0 0] 29)).alloc (.cells #[.slice none 0 0,.slice none 0 0] 32))=w5 at *;refine (lX _ _ _ g p aB same _ (by omega) (by omega) (by omega) HRL.out (by omega) HB6.out (HG.out.fresh (HXC.out.t HCY.out)) (HP.out.fresh (HXC.out.t HCY.out)) (HXP.out.fresh (HXC.out.t HCY.out))).mono ?_;rintro e w6 ⟨rfl,hc6⟩;have HC56:=lh hc6;have HCN:=lh (HCY.out.t hc6);clear c0 c1 c2 c3 c4 c5 hsz m0 m1 n0 n1 hsz2 hc6;obtain⟨c0,c1,c2,c3,c4,c5,hsz⟩:=HX.out _ HCN.out;obtain⟨m0,m1,n0,n1,hsz2⟩:=HY.out _ HC56.out;by_cases hz:aA.aN g p aB same=0
 ·have HAV:=lh (show ae=if v<0∨g.n≤v∨v∈p.v then 4 else if r<0∨((aA.fE g p aB same).length:Int)≤r then 9 else 0 by rw[←HA2.out];unfold aA.kF;rw[if_neg (by simp[hz])])
  have HZ:=lh hz;rw[hz];clear hz;by_cases hv0:v<0
  ·have b0:decide (v<0)=true:=decide_eq_true hv0
   obtain rfl:ae=4:=HAV.out.trans (if_pos (Or.inl hv0));clear hv0 hae;go_wp2;go_ret;exact⟨bK (by simp),(HXC.out.t HCN.out)⟩
  have b0:decide (v<0)=false:=decide_eq_false hv0;by_cases hv1:g.n≤v
  ·have b1:decide (v ≥ g.n)=true:=decide_eq_true hv1
   obtain rfl:ae=4:=HAV.out.trans (if_pos (Or.inr (Or.inl hv1)));clear hv0 hv1 hae;go_wp2;go_ret;exact⟨bK (by simp),(HXC.out.t HCN.out)⟩
  have b1:decide (v ≥ g.n)=false:=decide_eq_false hv1
  go_wp2_with fail
  refine (gD _ p.v v _ (HPVI.out.1.fresh (HXC.out.t HCN.out))).mono ?_;rintro e w7 ⟨rfl,hc7⟩;have HC57:=lh (HC56.out.t hc7);have HC7:=lh (HCN.out.t hc7);clear c0 c1 c2 c3 c4 c5 hsz m0 m1 n0 n1 hsz2 hc7 HCN;have HCN:=HC7;obtain⟨c0,c1,c2,c3,c4,c5,hsz⟩:=HX.out _ HCN.out;obtain⟨m0,m1,n0,n1,hsz2⟩:=HY.out _ HC57.out;by_cases hvp:v∈p.v
  ·rw[decide_eq_true hvp]
   obtain rfl:ae=4:=HAV.out.trans (if_pos (Or.inr (Or.inr hvp)));clear hv0 hv1 hvp hae;go_wp2;go_ret;exact⟨bK (by simp),(HXC.out.t HCN.out)⟩
  rw[decide_eq_false hvp];have HA3:=lh (HAV.out.trans (if_neg (by rintro (q | q | q);omega;omega;exact hvp q)));have hRn:r<0∨((aA.fE g p aB same).length:Int)≤r:=Classical.byContradiction fun q=>hae (HA3.out.trans (if_neg q));obtain rfl:ae=9:=HA3.out.trans (if_pos hRn);clear hv0 hv1 hvp hae;by_cases hr0:r<0
  ·have b2:decide (r<0)=true:=decide_eq_true hr0
   clear hr0 hRn;go_wp2;go_ret;exact⟨bK (by simp),(HXC.out.t HCN.out)⟩
  have b2:decide (r<0)=false:=decide_eq_false hr0
  go_wp2_with fail
  refine (kE _ _ _ g p aB same _ (by omega) (by omega) HRL.out (by omega) HZ.out (HG.out.fresh (HXC.out.t HCN.out)) (HP.out.fresh (HXC.out.t HCN.out)) (HXP.out.fresh (HXC.out.t HCN.out))).mono ?_;rintro e w8 ⟨rv,rfl,⟨rvo,rvc,rfl,-⟩,hc8⟩;have HC58:=lh (HC57.out.t hc8);have HC8:=lh (HCN.out.t hc8);have hhl:=aA.sY HZ.out;obtain⟨M,hM⟩:∃ M,(aA.aJ g p aB same).length=M:=⟨_,rfl⟩;rw[hM] at hhl ⊢;have hmr:max (M:Int) 1≤r:=by omega
  clear c0 c1 c2 c3 c4 c5 hsz m0 m1 n0 n1 hsz2 hc8 HCN hM hhl hr0 hRn;have HCN:=HC8;obtain⟨c0,c1,c2,c3,c4,c5,hsz⟩:=HX.out _ HCN.out;obtain⟨m0,m1,n0,n1,hsz2⟩:=HY.out _ HC58.out;have b3:decide (r ≥ max (M:Int) 1)=true:=decide_eq_true hmr;go_wp2;go_ret;exact⟨bK (by simp),(HXC.out.t HCN.out)⟩
 obtain⟨er,her⟩:∃ er,aA.aN g p aB same=er:=⟨_,rfl⟩;obtain rfl:ae=er:=by rw[←HA2.out,←her];unfold aA.kF;rw[if_pos hz]
 have bz:(ae != 0)=true:=by simp only[bne_iff_ne];exact hae
 have bz2:(ae==0)=false:=by rw[beq_eq_false_iff_ne];exact hae
 rw[her];clear hz her hae;go_wp2;go_ret;exact⟨bK (by simp),(HXC.out.t HCN.out)⟩
end Go.Proofs.YtkacjmoamgjfpaaGreat
