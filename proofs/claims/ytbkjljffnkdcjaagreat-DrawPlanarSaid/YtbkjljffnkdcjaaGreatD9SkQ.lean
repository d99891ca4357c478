/- draw's sketch: choose: contract. Conditions: cr that lie in memory and read so. -/
import Derived.Test.YtbkjljffnkdcjaaGreatD9SkM
open Go.Act renaming put→Qa
open List renaming getD→Qb,any_eq_true→Qd,mem_filter→Qe,drop_eq_getElem_cons→Qf,drop_length→Qk,getElem_mem→Ql,mem_cons→Qo
open Nat renaming le_trans→Qc,le_refl→Qh,zero_le→Qm
open Or renaming inr→Qg,inl→Qj
open Go.Value renaming int→Qi,slice→Qn
open And renaming intro→Qp
namespace Go.Proofs.YtbkjljffnkdcjaaGreat
open Go.RowKit Go.Maps
namespace Plain
def pick:List bj->Option Nat
 | []=>none
 | c :: l=>if c.aj.length=1 then some 0 else (pick l).map (·+1)
def fx (R:List bj) (j:Nat):Nat:=match pick (R.drop j) with | some k=>j+k | none=>0
def lost (R:List bj):Bool:=R.any fun c=>decide (c.aj.length=0)
def choose (R:List bj):Option Nat:=if lost R then none else some (fx R 0)
theorem DR {R:List bj} {j:Nat} (hj:j<R.length):R.drop j=R.getD j ⟨[],[],[]⟩ :: R.drop (j+1):=by
 rw[Qf hj];simp[Qb,hj]
theorem Ht {R:List bj} {j:Nat} (hj:j<R.length) (h:(R.getD j ⟨[],[],[]⟩).aj.length=1):fx R j=j:=by
 unfold fx;rw[DR hj,pick,if_pos h];rfl
theorem Dg {R:List bj} {j:Nat} (hj:j<R.length) (h:(R.getD j ⟨[],[],[]⟩).aj.length≠1):fx R j=fx R (j+1):=by
 unfold fx;rw[DR hj,pick,if_neg h];cases pick (R.drop (j+1)) with
 | none=>rfl
 | some k=>show j+(k+1)=j+1+k;omega
theorem Hr (R:List bj):fx R R.length=0:=by
 unfold fx;rw[Qk];rfl
theorem Pj {R:List bj} {j:Nat} (hj:j<R.length) (h:(R.getD j ⟨[],[],[]⟩).aj.length=0):choose R=none:=by
 unfold choose lost;rw[show R.getD j ⟨[],[],[]⟩=R[j] by simp[Qb,hj]] at h;exact if_pos (Qd.2 ⟨_,Ql hj,decide_eq_true h⟩)
theorem LN {R:List bj} (h:∀ j,0<=j->j<R.length->(R.getD j ⟨[],[],[]⟩).aj.length≠0):choose R=some (fx R 0):=by
 unfold choose lost;refine if_neg fun q=>?_;obtain⟨c,hc,h2⟩:=Qd.1 q;obtain⟨j,hj,rfl⟩:=List.mem_iff_getElem.1 hc;have:=h j (Qm _) hj;rw[show R.getD j ⟨[],[],[]⟩=R[j] by simp[Qb,hj]] at this;exact this (of_decide_eq_true h2)
theorem JY:∀ {L:List bj} {k:Nat},pick L=some k->k<L.length
 | [],_,h=>by cases h
 | c :: l,k,h=>by
  rw[pick] at h;split at h
  ·cases h;simp
  cases hq:pick l with
  | none=>rw[hq] at h;cases h
  | some m =>
   rw[hq] at h;cases h;have:=JY hq;simp only[List.length_cons];omega
theorem MH {R:List bj} (h:0<R.length) (j:Nat):fx R j<R.length:=by
 unfold fx;cases hq:pick (R.drop j) with
 | none=>exact h
 | some k =>
  have h1:=JY hq;rw[List.length_drop] at h1;show j+k<R.length;omega
theorem uk {R:List bj} {i:Nat} (h0:R≠[]) (h:choose R=some i):i<R.length/\(R.getD i ⟨[],[],[]⟩).aj≠[]:=by
 unfold choose at h;split at h
 ·cases h
 rename_i hn;cases h;have hl:fx R 0<R.length:=MH (List.length_pos_iff.2 h0) 0;refine⟨hl,fun q=>hn ?_⟩;exact Qd.2 ⟨_,by rw[show R.getD (fx R 0) ⟨[],[],[]⟩=R[fx R 0] by simp[Qb,hl]] at q;exact Ql hl,decide_eq_true (by rw[show R.getD (fx R 0) ⟨[],[],[]⟩=R[fx R 0] by simp[Qb,hl]] at q;rw[q];rfl)⟩
end Plain
theorem Br {R:List Plain.bj} {j:Nat} (hj:j<R.length):(dF R)[3*j]?=some (.row (R.getD j ⟨[],[],[]⟩).ah)/\(dF R)[3*j+1]?=some (.row (R.getD j ⟨[],[],[]⟩).ends)/\(dF R)[3*j+2]?=some (.row (R.getD j ⟨[],[],[]⟩).aj):=by
 induction R generalizing j with
 | nil=>simp at hj
 | cons c l ih =>
  have hs:dF (c :: l)=.row c.ah :: .row c.ends :: .row c.aj :: dF l:=by simp[dF]
  rw[hs];cases j with
  | zero=>exact⟨rfl,rfl,rfl⟩
  | succ j =>
   have h:=ih (j:=j) (by simpa using hj);rw[show 3*(j+1)=3*j+1+1+1 by omega];exact h
def sj (R:List Plain.bj):Value:=match Plain.choose R with | some i=>.tuple #[.int .i64 (i:Nat),.bool true] | none=>.tuple #[.int .i64 0,.bool false]
theorem rC {R:List Plain.bj} {i:Nat} (h:Plain.choose R=some i):sj R=.tuple #[.int .i64 (i:Nat),.bool true]:=by unfold sj;rw[h]
theorem sf {R:List Plain.bj} (h:Plain.choose R=none):sj R=.tuple #[.int .i64 0,.bool false]:=by unfold sj;rw[h]
set_option maxRecDepth 100000 in
set_option maxHeartbeats 2000000 in
theorem GP (sb B:Nat) (rv:Value) (ys:List Value) (R:List Plain.bj) (w:World) (hRl:R.length<1000000) (hq:w.cell? ⟨sb,4,none⟩=some rv) (hN:bF w B 151 3 rv R.length ys (dF R)) :
  Calls Tryz.prog 56 #[.pointer (some ⟨sb,0,none⟩)] w fun e w'=>e=.returned (sj R)/\w'=w:=by
 have HQ:=lh hq;have HN:=lh hN;obtain⟨ro,rc,rfl⟩:=hN.shape;clear hN
 go_enter Tryz.func56,Tryz.ntmps56
 go_wp2_with fail
 go_loopw [4,5] (fun c4 c5 wr=>∃ j b:Nat,j<=R.length/\b<1000000/\c4=.int .i64 b/\c5=.int .i64 ((j:Int) - 1)/\Hid (b=Plain.fx R j)/\Hid (∀ i,j<=i->i<R.length->(R.getD i ⟨[],[],[]⟩).aj.length≠0)/\wr=w) (fun _ c _=>(intOf c+1).toNat)
 case atStart=>exact⟨R.length,0,Qh _,by omega,rfl,rfl,lh (Plain.Hr R).symm,lh (by omega),rfl⟩
 case round =>
  obtain⟨j,b,hj,hb,rfl,rfl,HP,HZ,rfl⟩:=hrel;rcases j with _ | j
  ·have Fj:=lh (Plain.LN HZ.out)
   go_wp2;refine bodyPost_ret (v:=.tuple #[.int .i64 b,.bool true]) (by simp[results,Tryz.results56,go_sem]) rfl ?_;refine⟨?_,rfl⟩;rw[rC Fj.out,<-HP.out]
  have Tc:j<R.length:=by omega
  have hjj:(j:Int)<(R.length:Int):=by omega
  rw[show ((j+1:Nat):Int) - 1=(j:Int) by omega];obtain⟨rb,rc2,Wx⟩:=cN HN.out.out (by omega);simp only[Qn.injEq,true_and] at Wx;obtain⟨rfl,rfl⟩:=Wx;have aO:=HN.out.cell (k:=3*j+2) (by rw[HN.out.cells];omega);have bd:=HN.out.row (Br Tc).2.2;obtain⟨uo,uc,eu⟩:=bd.shape;rw[eu] at aO;have uZ:=bd.2.2;have qy:wr.cell? ⟨rb,j*3+2,none⟩=some (.slice uo (R.getD j ⟨[],[],[]⟩).aj.length uc):=by rw[Nat.mul_comm];exact aO
  have H0:=lh (fun h=>Plain.Pj (R:=R) Tc h);have H1:=lh (fun h=>Plain.Ht (R:=R) Tc h);have H2:=lh (fun h=>Plain.Dg (R:=R) Tc h);have HZ2:=lh (fun (h:(R.getD j ⟨[],[],[]⟩).aj.length≠0) i (h1:j<=i) (h2:i<R.length)=>(show (R.getD i ⟨[],[],[]⟩).aj.length≠0 from by
   by_cases e:i=j
   ·rw[e];exact h
   exact HZ.out i (by omega) h2))
  obtain⟨n,hn⟩:∃ n,(R.getD j ⟨[],[],[]⟩).aj.length=n:=⟨_,rfl⟩;rw[hn] at qy uZ H0 H1 H2 HZ2;clear aO bd eu hn;rcases n with _ | _ | n
  ·have Fj:=lh (H0.out rfl)
   go_wp2;refine bodyPost_ret (v:=.tuple #[.int .i64 0,.bool false]) (by simp[results,Tryz.results56,go_sem]) rfl ?_;refine⟨?_,rfl⟩;rw[sf Fj.out]
  ·have Fj:=lh (H1.out rfl)
   have HZ3:=lh (HZ2.out (by omega));go_wp2
   go_roundw
   case rel=>exact⟨j,j,by omega,by omega,rfl,by go_num,lh Fj.out.symm,HZ3,trivial⟩
   case measure=>simp[intOf]
  have Fj:=lh (H2.out (by omega));have HZ3:=lh (HZ2.out (by omega));have hn0:((n+1+1:Nat):Int)≠0:=by omega
  have y8:((n+1+1:Nat):Int)≠1:=by omega
  generalize n+1+1=m at *;go_wp2
  go_roundw
  case rel=>exact⟨j,b,by omega,hb,rfl,by go_num,lh (by rw[HP.out,Fj.out]),HZ3,trivial⟩
  case measure=>simp[intOf]
namespace Plain
def wK (g:Gr) (shut c:Int):List Int->(Int->Option Int) × List Int->(Int->Option Int) × List Int
 | [],s=>s
 | d :: L,s=>wK g shut c L (if (s.1 (g.head d)).isSome=true\/g.head d=shut then s else (fun y=>if y=g.head d then some (c+1) else s.1 y,s.2++[g.head d]))
def yv (g:Gr) (p:Pt) (shut:Int):Nat->(Int->Option Int)->List Int->(Int->Option Int)
 | 0,f,_=>f
 | _+1,f,[]=>f
 | n+1,f,v :: q=>yv g p shut n (wK g shut ((f v).getD 0) (p.ag.filter fun d=>decide (g.tail d=v)) (f,q)).1 (wK g shut ((f v).getD 0) (p.ag.filter fun d=>decide (g.tail d=v)) (f,q)).2
def dR (g:Gr) (p:Pt) (shut a:Int):Int->Option Int:=yv g p shut (2*p.v.length+2) (fun y=>if y=a then some 0 else none) [a]
structure nY (g:Gr) (p:Pt) (a:Int) (f:Int->Option Int):Prop where
 base:f a=some 0
 zero:∀ u c,f u=some c->u≠a->1<=c
 prev:∀ u c,f u=some c->u≠a->∃ d∈p.ag,g.tail d=u/\f (g.head d)=some (c - 1)
 low:∀ u c,f u=some c->0<=c
theorem nY.start (g:Gr) (p:Pt) (a:Int):nY g p a (fun y=>if y=a then some 0 else none):=by
 refine⟨by simp,fun u c h hn=>?_,fun u c h hn=>?_,fun u c h=>?_⟩
 ·simp[hn] at h
 ·simp[hn] at h
 by_cases e:u=a
 ·simp[e] at h;omega
 simp[e] at h
theorem nY.add {g:Gr} {p:Pt} {a v x c d:Int} {f:Int->Option Int} (h:nY g p a f) (hd:d∈p.ag) (ht:g.tail d=v) (hx:g.head d=x) (hv:f v=some c) (hf:f x=none):nY g p a (fun y=>if y=x then some (c+1) else f y):=by
 have hax:a≠x:=fun e=>by rw[<-e,h.base] at hf;cases hf
 have XE:v≠x:=fun e=>by rw[<-e,hv] at hf;cases hf
 have hc:=h.low v c hv;have keep:∀ z e,f z=some e->(if z=x then some (c+1) else f z)=some e:=fun z e he=>by
  rw[if_neg (fun q=>by rw[q,hf] at he;cases he)];exact he
 refine⟨keep _ _ h.base,fun u e hu hn=>?_,fun u e hu hn=>?_,fun u e hu=>?_⟩
 ·by_cases q:u=x
  ·simp[q] at hu;omega
  exact h.zero u e (by simpa[q] using hu) hn
 ·by_cases q:u=x
  ·simp[q] at hu
   subst hu;refine⟨aE d,bu hd,by rw[aA,hx,q],?_⟩;have h1:g.head (aE d)=v:=by rw[<-aA,aS,ht]
   show (if g.head (aE d)=x then some (c+1) else f (g.head (aE d)))=_;rw[h1,keep v c hv]
   congr 1;omega
  obtain⟨d',h1,h2,h3⟩:=h.prev u e (by simpa[q] using hu) hn;exact⟨d',h1,h2,keep _ _ h3⟩
 by_cases q:u=x
 ·simp[q] at hu;omega
 exact h.low u e (by simpa[q] using hu)
def Hd (g:Gr) (p:Pt) (shut a:Int) (f:Int->Option Int) (q:List Int) (fuel:Nat):Prop:=yv g p shut fuel f q=dR g p shut a/\nY g p a f
def MG (g:Gr) (p:Pt) (shut a:Int) (f:Int->Option Int) (v:Int) (c:Int) (q L:List Int) (k fuel:Nat):Prop :=
 f v=some c/\yv g p shut (fuel - 1) (wK g shut c (L.drop k) (f,q)).1 (wK g shut c (L.drop k) (f,q)).2=dR g p shut a/\nY g p a f
theorem Hd.inner {g:Gr} {p:Pt} {shut a v c:Int} {f:Int->Option Int} {q:List Int} {fuel:Nat} (h:Hd g p shut a f (v :: q) fuel) (hv:f v=some c) (h1:1<=fuel):MG g p shut a f v c q (p.ag.filter fun d=>decide (g.tail d=v)) 0 fuel:=by
 obtain⟨n,rfl⟩:∃ n,fuel=n+1:=⟨fuel - 1,by omega⟩;have h2:=h.1;rw[yv,hv] at h2;exact⟨hv,h2,h.2⟩
theorem sR {L:List Int} {k:Nat} (hk:k<L.length):L.drop k=L.getD k 0 :: L.drop (k+1):=by
 rw[Qf hk];simp[Qb,hk]
theorem MG.skip {g:Gr} {p:Pt} {shut a v c:Int} {f:Int->Option Int} {q L:List Int} {k fuel:Nat} (h:MG g p shut a f v c q L k fuel) (hk:k<L.length) (hx:g.head (L.getD k 0)=shut\/f (g.head (L.getD k 0))≠none):MG g p shut a f v c q L (k+1) fuel:=by
 obtain⟨h1,h2,h3⟩:=h;rw[sR hk,wK,if_pos (hx.symm.imp (fun r=>Option.isSome_iff_ne_none.2 r) id)] at h2;exact⟨h1,h2,h3⟩
theorem MG.add {g:Gr} {p:Pt} {shut a v c x:Int} {f:Int->Option Int} {q L:List Int} {k fuel:Nat} (h:MG g p shut a f v c q L k fuel) (hk:k<L.length) (hx:g.head (L.getD k 0)=x) (hd:L.getD k 0∈p.ag) (ht:g.tail (L.getD k 0)=v) (hs:x≠shut) (hf:f x=none):MG g p shut a (fun y=>if y=x then some (c+1) else f y) v c (q++[x]) L (k+1) fuel:=by
 obtain⟨h1,h2,h3⟩:=h;rw[sR hk,wK,hx,if_neg (by simp[hf,hs])] at h2;refine⟨?_,h2,h3.add hd ht hx h1 hf⟩;show (if v=x then some (c+1) else f v)=some c;rw[if_neg (fun e=>by rw[<-e,h1] at hf;cases hf)];exact h1
theorem MG.outer {g:Gr} {p:Pt} {shut a v c:Int} {f:Int->Option Int} {q L:List Int} {fuel:Nat} (h:MG g p shut a f v c q L L.length fuel):Hd g p shut a f q (fuel - 1):=by
 obtain⟨h1,h2,h3⟩:=h;rw[Qk] at h2;exact⟨h2,h3⟩
theorem Hd.last {g:Gr} {p:Pt} {shut a:Int} {f:Int->Option Int} {fuel:Nat} (h:Hd g p shut a f [] fuel):f=dR g p shut a:=by
 rw[<-h.1];cases fuel <;> rfl
end Plain
set_option maxRecDepth 100000 in
set_option maxHeartbeats 2000000 in
theorem MI (vg:Value) (g:Plain.Gr) (p:Plain.Pt) (mb n:Nat) (a shut:Int) (w:World) (hn:n<1000000) (_hV:p.v.length<=1000000) (hr:p.err g=0) (ha:a∈p.v) (WS:bn a) (_hs:bn shut) (hg:dU w vg g) (hd:SMap w mb n (fun v=>p.ag.filter fun d=>decide (g.tail d=v))) :
  Calls Tryz.prog 160 #[vg,.map (some mb),.int .i64 a,.int .i64 shut] w fun e w'=>∃ b m,e=.returned (.map (some b))/\bN w' b m (Plain.dR g p shut a)/\(∀ v,Plain.dR g p shut a v≠none↔Plain.bP g p shut a v)/\Plain.nY g p a (Plain.dR g p shut a)/\(∀ v c,Plain.dR g p shut a v=some c->c<=p.v.length)/\ai [] w w'/\w.heap.size<=b/\m<=p.v.length:=by
 obtain⟨eo,cap,rfl,gL,hm,dS,aO⟩:=id hg;have HG:=lh hg;have HSD:=lh hd;have nq:=@run_makeMap Tryz.prog;have HM:=lh (bN.made (w.alloc (.cells #[.int .i64 g.n,.slice eo g.e.length cap] 24)));have A6:=lh ((ai.refl [] w).alloc (.cells #[.int .i64 g.n,.slice eo g.e.length cap] 24));have DL:=lh (heap_alloc_new w (.cells #[.int .i64 g.n,.slice eo g.e.length cap] 24 (0,0)));clear aO dS hg hd gL;have y5:(w.alloc (.cells #[.int .i64 g.n,.slice eo g.e.length cap] 24)).heap.size=w.heap.size+1:=by simp
 rw[y5] at HM;have XJ:=lh y5;clear y5
 go_enter Tryz.func160,Tryz.ntmps160
 go_wp2_with (refine tq rfl _ _ _ rfl HM.out (by unfold maxLen;omega) rfl WS (bn.mk (by omega) (by omega)) rfl rfl ?_;intro w2 jS Cp;have mD:=lh jS;have FJ:=lh Cp;clear jS Cp)
 have cA:=lh (((A6.out.alloc (.map #[] 0)).grown FJ.out (row:=some (w.heap.size+1)) (fun k hk=>by cases hk;exact Qg (by omega))));have Rz:=lh (show w2.heap[w.heap.size]?=some (.cells #[.int .i64 g.n,.slice eo g.e.length cap] 24 (0,0)) from ((ai.refl [w.heap.size+1] _).grown FJ.out (row:=some (w.heap.size+1)) (fun k hk=>by cases hk;exact Qj (by simp))).heap (((ai.refl [] _).alloc (.map #[] 0)).heap DL.out (by simp)) (by simp));clear HM FJ DL nq XJ;refine (Af w2).mono ?_;rintro e w3 ⟨rfl,Xa,dB⟩;have Nh:=lh Xa;have dD:=lh (cA.out.t dB);have M4:=lh (mD.out.aM dB (by simp));have GA:=lh (dB.heap Rz.out (by simp));have HH:=lh dB.size;have Nt:=lh cA.out.size;clear Xa dB mD Rz cA A6;generalize hHe:w2.heap.size=H at *
 go_wp2_with fail
 refine (qW H H [] a w3 WS HH.out (by simp) Nh.out).mono ?_;rintro e w4 ⟨rfl,hq4,own4,ho4,iW⟩;have HQ4:=lh hq4;have kh:=lh (dD.out.trans iW (fun j hj=>Qg (Qc Nt.out (ho4 j hj).1)));have nm4:w.heap.size+1 ∉ own4:=fun e=>by obtain⟨_,cs,t,r,hh,_⟩:=ho4 _ e;exact M4.out.ne hh rfl
 have ng4:w.heap.size ∉ own4:=fun e=>by obtain⟨_,cs,t,r,hh,ht⟩:=ho4 _ e;rw[GA.out] at hh;simp at hh;obtain⟨_,e2,_⟩:=hh;rcases ht with q | q <;> (rw[<-e2] at q;revert q;decide)
 have YR:=lh (M4.out.aM iW nm4);have Ge:=lh (iW.heap GA.out ng4);clear hq4 ho4 iW nm4 ng4 M4 GA dD Nh
 go_wp2_with fail
 refine (mB H H a [] w4 HQ4.out).mono ?_;rintro e w5 ⟨rfl,hq5,own5,GL,gV⟩;have Sd:=lh hq5;have iP:=lh (kh.out.trans gV (fun j hj=>Qg (Qc Nt.out (GL j hj).1)));have nm5:w.heap.size+1 ∉ own5:=fun e=>by obtain⟨_,cs,t,r,hh,_⟩:=GL _ e;exact YR.out.ne hh rfl
 have ng5:w.heap.size ∉ own5:=fun e=>by obtain⟨_,cs,t,r,hh,ht⟩:=GL _ e;rw[Ge.out] at hh;simp at hh;obtain⟨_,e2,_⟩:=hh;rcases ht with q | q <;> (rw[<-e2] at q;revert q;decide)
 have Jm:=lh (YR.out.aM gV nm5);have NW:=lh (gV.heap Ge.out ng5);clear hq5 GL gV nm5 ng5 YR Ge kh HQ4;go_wp2;have sy:=lh (Plain.Pt.aF hr);have Jf:=lh (Plain.jI (Plain.Pt.aP hr).2.1);have j7:=lh (Plain.Gr.aP (Plain.Pt.aP hr).1);have uV:=lh (Plain.Pt.aP hr).2.2.1;have HAV:=lh ha;have wR:=lh (om.mk (w:=w) (gb:=w.heap.size) (mp:=w.heap.size+1) (H:=H) Sd.out iP.out Jm.out NW.out);have ze:=lh (show BP g p shut a (fun y=>if y=a then some 0 else none) (0+1) [a] (2*p.v.length+2) from⟨Plain.LJ.start sy.out ha,by simp,fun u hu=>Qj (by by_cases e:u=a <;> simp[e] at hu ⊢),by have:=(Plain.LJ.start (g:=g) (shut:=shut) sy.out ha).dK;simp;omega⟩);have T6:=lh (show w.heap.size<=w.heap.size+1 by omega);have xP:∀ u∈p.v,0<=u/\u<1025:=fun u hu=>by have:=sy.out.vr u hu;have:=j7.out.2.1;omega
 have gA:=lh xP;clear hr ha Sd iP Jm NW hHe xP;generalize RY:w.heap.size=gb at *;generalize FA:gb+1=mp at *;have DL:=lh RY;have wP:=lh FA;clear RY FA
 go_loopg [12,13] (2*p.v.length+2) (fun fuel Jz TK wr=>Hid (fuel<=2*p.v.length+2)/\∃ f m,(∃ v q,Jz=.int .i64 v/\TK=.bool true/\om w gb mp H #[.int .i64 g.n,.slice eo g.e.length cap] f m q wr/\Hid (BP g p shut a f m (v :: q) fuel)/\Hid (Plain.Hd g p shut a f (v :: q) fuel))\/(Jz=.int .i64 0/\TK=.bool false/\om w gb mp H #[.int .i64 g.n,.slice eo g.e.length cap] f m [] wr/\Hid (BP g p shut a f m [] fuel)/\Hid (Plain.Hd g p shut a f [] fuel)))
 case atStart=>exact⟨lh (Qh _),_,_,Qj ⟨a,[],rfl,rfl,wR.out,ze,lh ⟨rfl,Plain.nY.start g p a⟩⟩⟩
 case round =>
  obtain⟨ym,f,m,⟨v,q,rfl,rfl,cV,eQ,hbo⟩ | ⟨rfl,rfl,cV,eQ,hbo⟩⟩:=hrel
  ·have sS:=lh cV
   have NS:=eQ.out.1.OT v (eQ.out.2.1 v (by simp));have hvs:=gA.out v NS;have WA:bn v:=bn.mk (by omega) (by omega);have Fj:=lh cV.aM;clear cV NS
   go_wp2_with (at_lookup;refine oG rfl _ _ rfl HSD.out Fj.out (by omega) rfl WA rfl ?_;intro vv r0;obtain⟨vo,vc,rfl⟩:=r0.shape;have R0:=lh r0;clear r0)
   have Yc:=lh (eQ.out.inner (p.ag.filter fun d=>decide (g.tail d=v)));have Vx:=lh (show ∀ d∈p.ag.filter fun d=>decide (g.tail d=v),d∈p.ag/\g.tail d=v from fun d hd=>by have:=Qe.1 hd;exact⟨this.1,by simpa using this.2⟩);have Gt:=lh (fun (f':Int->Option Int) (m':Nat) (q':List Int) (h:BO g p shut a f' m' v q' (p.ag.filter fun d=>decide (g.tail d=v)) (p.ag.filter fun d=>decide (g.tail d=v)).length gk)=>BO.outer sy.out h);obtain⟨c0,gy⟩:=Option.ne_none_iff_exists'.1 (eQ.out.2.1 v (by simp));have HBI:=lh (hbo.out.inner gy (by have:=eQ.out.2.2.2;simp at this;omega));clear eQ hbo gy;generalize (p.ag.filter fun d=>decide (g.tail d=v))=L at *;have hLL:L.length<4294967296:=R0.out.2.2
   go_loopw [44] (fun c wr=>∃ k:Nat,k<=L.length/\c=.int .i64 k/\∃ f m q,om w gb mp H #[.int .i64 g.n,.slice eo g.e.length cap] f m q wr/\Hid (BO g p shut a f m v q L k gk)/\Hid (Plain.MG g p shut a f v c0 q L k gk)) (fun c _=>L.length - (intOf c).toNat)
   case atStart=>exact⟨0,Qm _,rfl,f,m,q,sS.out,Yc,HBI⟩
   case round =>
    obtain⟨k,hk,rfl,f1,m1,q1,cV,dM,Rb⟩:=hrel;have lZ:=lh cV;by_cases aU:k<L.length
    ·obtain⟨gr,hvo,tQ⟩:=R0.out.some (by omega)
     subst hvo;have ck:=cV.aM.c (tQ k aU);have x0:=(cell_of_row _ _ 0 _ _ _ cV.box).trans (show _=some (Qi .i64 g.n) from rfl);have x1:=(cell_of_row _ _ 1 _ _ _ cV.box).trans (show _=some (Qn eo g.e.length cap) from rfl);obtain⟨mj,yN⟩:=Vx.out (L.getD k 0) (by simp[Qb,aU]);have yQ:=(sy.out.aQ mj).2;have tK:=gA.out _ yQ;have ru:bn (g.head (L.getD k 0)):=bn.mk (by omega) (by omega);have kM:=Plain.eK (g:=g) mj;rw[yN] at kM;obtain⟨ee,sC,Hp⟩:∃ ee:Nat,ee<g.e.length/\L.getD k 0 / 2=(ee:Int):=by
      obtain⟨i,hi,e⟩:=Plain.bO (Plain.aw.1 mj);have:=Plain.ct uV.out hi;exact⟨(L.getD k 0 / 2).toNat,by omega,by omega⟩
     obtain⟨dn,nv⟩:∃ dn:Nat,L.getD k 0=(dn:Int):=⟨(L.getD k 0).toNat,by omega⟩;have Zg:dn / 2<g.e.length:=by omega
     have PG:g.e.length<4294967296:=by have:=j7.out.2.2.1;have:=j7.out.1;omega
     have GU:=lh (fun h=>Qp (BO.skip (k:=k) dM.out h) (Plain.MG.skip Rb.out aU h));have adi:=mj;have agw:=yN;have HAD:=lh (fun hs hf=>Qp (BO.add (x:=g.head (L.getD k 0)) (c:=c0) sy.out dM.out rfl yQ kM hs Rb.out.1 hf) (Plain.MG.add Rb.out aU rfl adi agw hs hf));have GS:=lh dM.out.1.dK;have Gc:=lh dM.out.1.val;have yd:=lh dM.out.2.2.2.2.1;obtain⟨cv,Xk⟩:∃ cv,c0=cv:=⟨_,rfl⟩;have yI:=Rb.out.1;rw[Xk] at yI HAD;have Vo:=lh Xk;have HCV:=lh yI;obtain⟨xx,Rm⟩:∃ xx,g.head (L.getD k 0)=xx:=⟨_,rfl⟩;have HHD:=lh (show g.head (dn:Int)=xx by rw[<-nv];exact Rm);rw[Rm] at GU HAD ru;rw[nv] at ck;have rT:=lh sC;clear tQ mj yN yQ tK kM Hp nv Rm dM yI sC adi agw Rb Xk
     go_wp2_with fail
     refine (mE _ g dn _ Zg PG (HG.out.fresh lZ.out.aM)).mono ?_;rw[HHD.out];rintro e w6 ⟨rfl,hc6⟩;have yg:=lh (lZ.out.fresh hc6);clear hc6 cV ck x0 x1;cases mi:f1 xx with
     | some c0 =>
      have HF:=lh mi;have HR:=lh (GU.out (Qg (by rw[mi];simp)));clear mi
      go_wp2_with (at_lookup;refine eT _ rfl _ _ rfl yg.out.map rfl ru rfl HF ?_)
      go_roundw
      case rel=>exact⟨k+1,by omega,by go_num,f1,m1,q1,yg.out,lh HR.out.1,lh HR.out.2⟩
      case measure=>simp[intOf];omega
     | none =>
      have HF:=lh mi;by_cases Mv:xx=shut
      ·have HR:=lh (GU.out (Qj Mv))
       have hb:(xx==shut)=true:=by rw[beq_iff_eq];exact Mv
       clear mi Mv
       go_wp2_with (at_lookup;refine dw _ rfl _ _ rfl yg.out.map rfl ru rfl HF ?_)
       go_roundw
       case rel=>exact⟨k+1,by omega,by go_num,f1,m1,q1,yg.out,lh HR.out.1,lh HR.out.2⟩
       case measure=>simp[intOf];omega
      have HR:=lh (HAD.out Mv mi);have hb:(xx==shut)=false:=by rw[beq_eq_false_iff_ne];exact Mv
      have uO:=Gc.out v cv HCV.out;have am8:0<=cv/\cv<=1000000:=by omega
      have mh:m1<1000001:=by have:=GS.out;omega
      have Lu:q1.length+1<4294967296:=by have:=yd.out;have:=ym.out;omega
      have HGV:=lh (show (f1 v).getD 0=cv by rw[HCV.out];rfl);have Xj:bn (cv+1):=bn.mk (by omega) (by omega);have gH:True:=trivial;clear mi Mv uO
      go_wp2_with (first
       | (at_lookup;have _t:=gH;refine dw _ rfl _ _ rfl yg.out.map rfl ru rfl HF ?_;clear gH)
       | (at_lookup;refine kd _ rfl _ _ rfl yg.out.map rfl WA rfl HGV ?_)
       | (at_mapUpdate;refine iG _ rfl _ _ _ rfl yg.out.map (by unfold maxLen;omega) rfl ru Xj rfl rfl ?_;intro w7 JI Kd;have Ee:=lh (yg.out.met (by rw[DL.out];exact T6.out) JI Kd);clear JI Kd))
      have hH7:H<=w7.heap.size:=by obtain⟨_,U1,_⟩:=Ee.out.queue;exact Nat.le_of_lt (lt_of_block U1)
      refine (qW H H q1 xx w7 ru hH7 Lu Ee.out.queue).mono ?_;rintro e w8 ⟨rfl,hq8,own8,ho8,hc8⟩;have S4:=lh (Ee.out.aa (by rw[DL.out];exact Nt.out) hq8 ho8 hc8);clear hq8 ho8 hc8;go_wp2
      go_roundw
      case rel=>exact⟨k+1,by omega,by go_num,_,_,_,S4.out,lh HR.out.1,lh (by rw[Vo.out];exact HR.out.2)⟩
      case measure=>simp[intOf];omega
    have e:k=L.length:=by omega
    subst e;have HO:=lh (Gt.out f1 m1 q1 dM.out);have W7:=lh dM.out.2.2.2.2.1;have HBO:=lh (Plain.MG.outer Rb.out);clear cV dM Rb;cases q1 with
    | nil =>
     go_wp2_with fail
     refine (wu H H _ lZ.out.queue).mono ?_;rintro e w8 ⟨rfl,rfl⟩;go_wp2
     go_roundg (gk - 1)
     case measure=>have:=W7.out;omega
     case rel=>exact⟨lh (Qc (Nat.sub_le _ _) ym.out),f1,m1,Qg ⟨rfl,rfl,lZ.out,HO,HBO⟩⟩
    | cons x r =>
     go_wp2_with fail
     refine (mB H H x r _ lZ.out.queue).mono ?_;rintro e w8 ⟨rfl,hq8,own8,ho8,hc8⟩;have S4:=lh (lZ.out.aa (by rw[DL.out];exact Nt.out) hq8 ho8 hc8);clear hq8 ho8 hc8;go_wp2
     go_roundg (gk - 1)
     case measure=>have:=W7.out;omega
     case rel=>exact⟨lh (Qc (Nat.sub_le _ _) ym.out),f1,m1,Qj ⟨x,r,rfl,rfl,S4.out,HO,HBO⟩⟩
  have sS:=lh cV;have Zn:=lh (show m<=p.v.length by have:=eQ.out.1.dK;omega);have Le:=lh (fun x=>eQ.out.1.all (fun u hu=>((eQ.out.2.2.1 u hu).resolve_left (by simp))) x);have yT:=lh (fun (u c:Int) (h:f u=some c)=>(show c<=(p.v.length:Int) by have:=(eQ.out.1.val u c h).2;omega));have HBE:=lh hbo.out.last;have Su:=lh hbo.out.2;clear cV eQ hbo;rw[HBE.out] at sS Le Su yT;go_wp2;go_ret;exact⟨mp,m,rfl,sS.out.map,Le.out,Su.out,yT.out,sS.out.aM,by rw[DL.out];exact T6.out,Zn.out⟩
namespace Plain
def lI (g:Gr) (p:Pt) (v:Int):List Int:=p.ag.filter fun d=>decide (g.tail d=v)
def lR (g:Gr) (p:Pt) (f:Int->Option Int) (n:Nat) (v:Int):Int:=(lI g p v).getD (Co (fun d=>decide ((f (g.head d)).getD 0=n)) (lI g p v)).toNat 0
def dx (g:Gr) (p:Pt) (f:Int->Option Int):Nat->Int->List Int
 | 0,_=>[]
 | n+1,v=>lR g p f n v :: dx g p f n (g.head (lR g p f n v))
def iR (g:Gr) (p:Pt) (a b:Int):Option (List Int):=(dR g p (-1) b a).map fun c=>dx g p (dR g p (-1) b) c.toNat a
theorem xW {g:Gr} {p:Pt} {a v:Int} {f:Int->Option Int} {n:Nat} (h:nY g p a f) (hv:f v=some ((n:Int)+1)) (cU:∀ d∈p.ag,g.tail d=v->f (g.head d)≠none) :
  ∃ k:Nat,Co (fun d=>decide ((f (g.head d)).getD 0=(n:Int))) (lI g p v)=(k:Int)/\k<(lI g p v).length/\(lI g p v).getD k 0=lR g p f n v/\lR g p f n v∈p.ag/\g.tail (lR g p f n v)=v/\f (g.head (lR g p f n v))=some (n:Int):=by
 have bh:v≠a:=fun e=>by rw[e,h.base] at hv;simp at hv;omega
 obtain⟨d,hd,ht,hh⟩:=h.prev v _ hv bh;have x9:d∈lI g p v:=Qe.2 ⟨hd,decide_eq_true ht⟩;have amj:(lI g p v).any (fun d=>decide ((f (g.head d)).getD 0=(n:Int)))=true:=Qd.2 ⟨d,x9,decide_eq_true (by rw[hh];simp)⟩;have zt:=IS (P:=fun d=>decide ((f (g.head d)).getD 0=(n:Int))) (l:=lI g p v);rw[amj] at zt;have zt:Co (fun d=>decide ((f (g.head d)).getD 0=(n:Int))) (lI g p v) ≥ 0:=of_decide_eq_true zt;unfold Co at zt;cases hf:(lI g p v).findIdx? (fun d=>decide ((f (g.head d)).getD 0=(n:Int))) with
 | none=>rw[hf] at zt;exact absurd zt (by show ¬ ((-1:Int) ≥ 0);omega)
 | some k =>
  have ru:Co (fun d=>decide ((f (g.head d)).getD 0=(n:Int))) (lI g p v)=(k:Int):=by unfold Co;rw[hf]
  obtain⟨hk,hp,-⟩:=List.findIdx?_eq_some_iff_getElem.1 hf;have uP:(lI g p v).getD k 0=lR g p f n v:=by unfold lR;rw[ru,Int.toNat_natCast]
  have hm:lR g p f n v∈lI g p v:=by rw[<-uP];simp[Qb,hk]
  obtain⟨mh,jS⟩:=Qe.1 hm;have Jp:=of_decide_eq_true jS;refine⟨k,ru,hk,uP,mh,Jp,?_⟩;have yE:=of_decide_eq_true hp;have e:(lI g p v)[k]=lR g p f n v:=by rw[<-uP];simp[Qb,hk]
  rw[e] at yE;cases hq:f (g.head (lR g p f n v)) with
  | none=>exact absurd hq (cU _ mh Jp)
  | some c=>rw[hq] at yE;simp at yE;rw[yE]
end Plain
set_option maxHeartbeats 1000000 in
theorem KV (n i LH gb ib mp m:Nat) (eo:Option Addr) (cap:Nat) (g:Plain.Gr) (f:Int->Option Int) (w:World) (hd:n / 2<g.e.length) (hm:g.e.length<4294967296) (hx:bn (g.head n)) (hi:i<1000000) (hf:∀ c,f (g.head n)=some c->0<=c/\c<=1000000) (c1:w.cell? ⟨LH,0,none⟩=some (.map (some mp)))
  (c2:w.cell? ⟨gb,0,none⟩=some (.int .i64 g.n)) (c3:w.cell? ⟨gb,1,none⟩=some (.slice eo g.e.length cap)) (c4:w.cell? ⟨ib,0,none⟩=some (.int .i64 ((i:Int)+1))) (hM:bN w mp m f) (hg:dU w (.agg #[.int .i64 g.n,.slice eo g.e.length cap]) g) :
  Calls Tryz.prog 161 #[.int .i64 n,.pointer (some ⟨LH,0,none⟩),.pointer (some ⟨gb,0,none⟩),.pointer (some ⟨ib,0,none⟩)] w fun e w'=>e=.returned (.bool (decide ((f (g.head n)).getD 0=i)))/\ai [] w w':=by
 have HM:=lh hM;have HG:=lh hg;have HF:=lh (show 0<=(f (g.head n)).getD 0/\(f (g.head n)).getD 0<=1000000 by
  cases hq:f (g.head n) with
  | none=>simp
  | some c=>exact hf c hq)
 have HLK:=lh (fun (wx:World) (h:ai [] w wx)=>(hM.aM h (by simp)).xR hx);obtain⟨x,Rm⟩:∃ x,g.head n=x:=⟨_,rfl⟩;obtain⟨y,hy⟩:∃ y,(f (g.head n)).getD 0=y:=⟨_,rfl⟩;rw[hy] at HF HLK ⊢;rw[Rm] at HLK;have HX:=lh Rm;obtain⟨hy0,Gq⟩:=HF.out;clear hM hg Rm hy hf hx
 go_enter Tryz.func161,Tryz.ntmps161
 go_wp2_with fail
 have aD:ai [] w w.drew:=(ai.refl [] w).drew;refine au (ai [] w) [0,1,2,4,5,6,7,8] (Way.line [0,1,2,5,6,3,4,7,8] .done) (by kernel_rfl) (by kernel_rfl) ?_;simp only[Way.line]
 repeat
  first
   | (refine ar rfl (by rfl) (by rfl) (fun _ _ _ h=>h) aD ?_;simp only[Qa,Z1,Z2,Z3,Z4,Z5,Z6])
   | (refine aq (v:=?_) rfl (by rfl) (by rfl) (fun _ _ _ h=>h) aD (fun w' aK=>?_) ?_;rotate_left;(focus (have fU:=aK.c c1;have gX:=aK.c c2;have nP:=aK.c c3;have Fx:=aK.c c4;clear aK;go_simp;try with_reducible rfl));simp only[Qa,Z1,Z2,Z3,Z4,Z5,Z6])
   | (refine ak rfl (by rfl) (by rfl) aD ?_;simp only[Qa,Z1,Z2,Z3,Z4,Z5,Z6])
 refine aC rfl (by rfl) (by rfl) (fun K hK=>?_);go_simp;refine (mE _ g n _ hd hm (HG.out.fresh aD)).mono ?_;rw[HX.out];rintro e w3 ⟨rfl,dB⟩;have bD:ai [] w w3:=aD.t dB;refine hK.out _ _ (fun _=>bD) ?_;clear hK K dB aD
 try simp only[Qa,Z1,Z2,Z3,Z4,Z5,Z6]
 repeat
  first
   | (refine ar rfl (by rfl) (by rfl) (fun _ _ _ h=>h) bD ?_;simp only[Qa,Z1,Z2,Z3,Z4,Z5,Z6])
   | (refine aq (v:=?_) rfl (by rfl) (by rfl) (fun _ _ _ h=>h) bD (fun w' aK=>?_) ?_;rotate_left;(focus (have rdl:=HLK.out _ aK;clear aK;go_simp;try with_reducible rfl));simp only[Qa,Z1,Z2,Z3,Z4,Z5,Z6])
   | (refine ak rfl (by rfl) (by rfl) bD ?_;simp only[Qa,Z1,Z2,Z3,Z4,Z5,Z6])
 refine aB ?_;go_wp2;go_ret;exact⟨bB (by rw[show IntKind.i64.wrap (i:Int)=i from IntWalk.i64_in _ (by omega)];rfl),bD⟩
set_option maxRecDepth 100000 in
set_option maxHeartbeats 2000000 in
theorem G9 (i LH gb ib mp m:Nat) (eo:Option Addr) (cap:Nat) (g:Plain.Gr) (f:Int->Option Int) (v:Value) (q:List Int) (w:World) (hq:∀ d∈q,0<=d/\d / 2<g.e.length/\bn (g.head d)) (Lu:q.length<1000000000) (hm:g.e.length<1000000) (hi:i<1000000) (hf:∀ u c,f u=some c->0<=c/\c<=1000000) (hv:aJ w v q) (c1:w.cell? ⟨LH,0,none⟩=some (.map (some mp)))
  (c2:w.cell? ⟨gb,0,none⟩=some (.int .i64 g.n)) (c3:w.cell? ⟨gb,1,none⟩=some (.slice eo g.e.length cap)) (c4:w.cell? ⟨ib,0,none⟩=some (.int .i64 ((i:Int)+1))) (hM:bN w mp m f) (hg:dU w (.agg #[.int .i64 g.n,.slice eo g.e.length cap]) g) :
  Calls Tryz.prog 123 #[v,.func (Fn.func 161) #[] #[.pointer (some ⟨LH,0,none⟩),.pointer (some ⟨gb,0,none⟩),.pointer (some ⟨ib,0,none⟩)]] w fun e w'=>e=.returned (.int .i64 (Plain.Co (fun d=>decide ((f (g.head d)).getD 0=(i:Int))) q))/\ai [] w w':=by
 have HQ:=lh hq;have HV:=lh hv;have HF:=lh hf;have HM:=lh hM;have HG:=lh hg;have H1:=lh c1;have H2:=lh c2;have H3:=lh c3;have H4:=lh c4;obtain⟨ao,ac,rfl,-,-,-⟩:=hv;clear hq c1 c2 c3 c4 hM hg hf;obtain⟨P,hP⟩:∃ P:Int->Bool,(fun d=>decide ((f (g.head d)).getD 0=(i:Int)))=P:=⟨_,rfl⟩;have HP:=lh (fun d=>show decide ((f (g.head d)).getD 0=(i:Int))=P d from congrFun hP d);rw[hP];clear hP
 go_enter Tryz.func123,Tryz.ntmps123
 go_wp2
 go_loopw [8] (fun c wr=>∃ k:Nat,k<=q.length/\c=.int .i64 k/\Hid (∀ j,j<k->P (q.getD j 0)=false)/\ai [] w wr) (fun c _=>q.length - (intOf c).toNat)
 case atStart=>exact⟨0,Qm _,rfl,lh (by omega),ai.refl _ _⟩
 case round =>
  obtain⟨k,hk,rfl,HN,hc⟩:=hrel;have HC:=lh hc;by_cases aU:k<q.length
  ·obtain⟨rb,uR,rfl,rc⟩:=aJ.cellAt HV.out aU
   have cZ:=hc.c rc;have hr:=HQ.out _ (Plain.aZ aU);have zo:=lh (fun (h:P (q.getD k 0)=true)=>Plain.vj (P:=P) aU h HN.out);have sB:=lh (fun (h:P (q.getD k 0)=false) j (hj:j<k+1)=>(show P (q.getD j 0)=false from by
    by_cases e:j=k
    ·rw[e];exact h
    exact HN.out j (by omega)))
   obtain⟨n,e1⟩:∃ n:Nat,q.getD k 0=n:=⟨(q.getD k 0).toNat,by omega⟩;rw[e1] at cZ zo sB hr;have gL:n / 2<g.e.length:=by have:=hr.2.1;omega
   have amY:=lh hr.2.2;clear rc e1 hc hr
   go_wp2_with fail
   refine (KV n i LH gb ib mp m eo cap g f _ gL (by omega) amY.out hi (fun c h=>HF.out _ c h) (HC.out.c H1.out) (HC.out.c H2.out) (HC.out.c H3.out) (HC.out.c H4.out) (HM.out.aM HC.out (by simp)) (HG.out.fresh HC.out)).mono ?_;rintro e w2 ⟨rfl,bG⟩;rw[HP.out];have cA:=lh (HC.out.t bG);clear bG cZ;cases h:P (n:Int) with
   | true =>
    have HI:=lh (zo.out h);clear h;go_wp2;go_ret;exact⟨bS (show ((k:Nat):Int)=_ by rw[HI.out]),cA.out⟩
   | false =>
    have HI:=lh (sB.out h);clear h;go_wp2
    go_roundw
    case rel=>exact⟨k+1,by omega,by go_num,HI,cA.out⟩
    case measure=>simp[intOf];omega
  have e:k=q.length:=by omega
  subst e;have HI:=lh (Plain.si (P:=P) HN.out);clear hc;go_wp2;go_ret;exact⟨bS (show (-1:Int)=_ by rw[HI.out]),HC.out⟩
namespace Plain
theorem mI {g:Gr} {p:Pt} {b:Int} {f:Int->Option Int} (hp:aH g p) (h0:∀ v∈p.v,0<=v) (h:nY g p b f) (hc:∀ v,f v≠none↔bP g p (-1) b v):∀ (n:Nat) (v:Int),f v=some (n:Int)->eR g v (dx g p f n v) b/\(∀ d∈dx g p f n v,d∈p.ag)/\(∀ d∈dx g p f n v,∃ c:Nat,f (g.tail d)=some (c:Int)/\c<=n)/\((dx g p f n v).map g.tail).Nodup
 | 0,v,hv=>by
  have VL:v=b:=by
   by_cases e:v=b
   ·exact e
   have:=h.zero v _ hv e;omega
  subst VL;exact⟨rfl,by simp[dx],by simp[dx],by simp[dx]⟩
 | n+1,v,hv=>by
  obtain⟨k,-,-,-,h4,h5,h6⟩:=xW h (v:=v) (n:=n) (by rw[hv];congr 1) (fun d hd ht=>by
   have h1:=(hc v).1 (by rw[hv];simp);have h2:=eK (g:=g) hd;rw[ht] at h2;have h3:=h0 _ (hp.aQ hd).2;exact (hc _).2 (h1.step h2 (by omega)))
  obtain⟨i1,i2,i3,i4⟩:=mI hp h0 h hc n _ h6;refine⟨⟨h5,i1⟩,fun d hd=>?_,fun d hd=>?_,?_⟩
  ·rcases Qo.1 hd with r | r
   ·rw[r];exact h4
   exact i2 d r
  ·rcases Qo.1 hd with r | r
   ·exact⟨n+1,by rw[r,h5,hv],Qh _⟩
   obtain⟨c,c1,c2⟩:=i3 d r;exact⟨c,c1,by omega⟩
  rw[dx,List.map_cons,List.nodup_cons];refine⟨fun q=>?_,i4⟩;obtain⟨d,hd,e⟩:=List.mem_map.1 q;obtain⟨c,c1,c2⟩:=i3 d hd;rw[e,h5,hv] at c1;simp at c1;omega
end Plain
theorem gD.vs {w:World} {u1 u2:Value} {p:Plain.Pt} (h:gD w (.agg #[u1,u2]) p):aJ w u1 p.v:=by
 obtain⟨v1,v2,e,h1,-⟩:=h;simp only[Value.agg.injEq,Array.mk.injEq,List.cons.injEq,and_true] at e;rw[e.1];exact h1
set_option maxRecDepth 100000 in
set_option maxHeartbeats 4000000 in
theorem PW (vg vp:Value) (g:Plain.Gr) (p:Plain.Pt) (a b:Int) (w:World) (hr:p.err g=0) (ha:a∈p.v) (hb:b∈p.v) (hg:dU w vg g) (hp:gD w vp p) :
  Calls Tryz.prog 113 #[vg,vp,.int .i64 a,.int .i64 b] w fun e w'=>∃ v',e=.returned (.tuple #[v',.bool (Plain.iR g p a b).isSome])/\ax w' w.heap.size v' ((Plain.iR g p a b).getD [])/\(Plain.nY g p b (Plain.dR g p (-1) b)/\∀ v,Plain.dR g p (-1) b v≠none↔Plain.bP g p (-1) b v)/\ai [] w w':=by
 have HR:=lh hr;have HA:=lh ha;have HBV:=lh hb;have sy:=lh (Plain.Pt.aF hr);have j7:=lh (Plain.Gr.aP (Plain.Pt.aP hr).1);have Jf:=lh (Plain.bY (Plain.Pt.aP hr).2.1);have uV:=lh (Plain.Pt.aP hr).2.2.1;have rT:=lh (show p.e.length<=1024 by have:=fY (Plain.Pt.aP hr).2.2.1;have:=(Plain.Gr.aP (Plain.Pt.aP hr).1);omega);have gA:=lh (show ∀ u∈p.v,0<=u/\u<1025 from fun u hu=>by have:=sy.out.vr u hu;have:=j7.out.2.1;omega);have yT:=lh (show p.v.length<=1025 from kX (N:=1025) (Jf.out.imp fun h=>by omega) (fun u hu=>by have:=gA.out u hu;omega));have WS:bn a:=bn.mk (by have:=gA.out a ha;omega) (by have:=gA.out a ha;omega);have hib:bn b:=bn.mk (by have:=gA.out b hb;omega) (by have:=gA.out b hb;omega);have pO:p.v.length<=100000:=by have:=yT.out;omega
 clear hr ha hb;have HG:=lh hg;have HP:=lh hp;obtain⟨eo,cap,rfl,hn,hm,dS,aO⟩:=hg;obtain⟨v1,v2,rfl,hv,he⟩:=hp;obtain⟨ao,ac,rfl,has,KZ,cD⟩:=hv;obtain⟨bo,bc,rfl,la,vD,bT⟩:=he;have IB:=lh cD;have Ci:=lh bT;have VA:=lh has;have Sv:=lh la;obtain⟨-,-,cG⟩:=dq w #[.int .i64 g.n,.slice eo g.e.length cap] #[.slice ao p.v.length ac,.slice bo p.e.length bc] 24 27;have b8:=lh cG;have eE:=lh (fun w2 h=>im w (g:=g) (p:=p) (eo:=eo) (ao:=ao) (bo:=bo) (cap:=cap) (ac:=ac) (bc:=bc) (w2:=w2) h);clear aO cD bT dS has la hn cG;obtain⟨x0,x1,y0,y1,di⟩:=eE.out _ (ai.refl _ _)
 go_enter Tryz.func113,Tryz.ntmps113
 go_wp2_with fail
 obtain⟨w1,sA⟩:∃ w1,((w.alloc (.cells #[.int .i64 g.n,.slice eo g.e.length cap] 24)).alloc (.cells #[.slice ao p.v.length ac,.slice bo p.e.length bc] 27))=w1:=⟨_,rfl⟩;rw[sA] at b8 eE ⊢;clear sA x0 x1 y0 y1 di;refine (fw _ _ g p _ (by omega) (HG.out.fresh b8.out) (HP.out.fresh b8.out)).mono ?_;rintro e w2 ⟨rfl,bG⟩;rw[HR.out];have cA:=lh (b8.out.t bG);have zj:=lh bG;obtain⟨x0,x1,y0,y1,di⟩:=eE.out _ bG;clear bG
 go_wp2_with fail
 refine (vN _ p.v a _ Jf.out (by omega) (HP.out.fresh cA.out).vs).mono ?_;rintro e w3 ⟨rfl,dB⟩;rw[show decide (a∈p.v)=true from decide_eq_true HA.out];have dD:=lh (cA.out.t dB);have ac7:=lh (zj.out.t dB);obtain⟨x0,x1,y0,y1,di⟩:=eE.out _ ac7.out;clear dB
 go_wp2_with fail
 refine (vN _ p.v b _ Jf.out (by omega) (HP.out.fresh dD.out).vs).mono ?_;rintro e w4 ⟨rfl,iW⟩;rw[show decide (b∈p.v)=true from decide_eq_true HBV.out];have kh:=lh (dD.out.t iW);have afL:=lh (ac7.out.t iW);obtain⟨x0,x1,y0,y1,di⟩:=eE.out _ afL.out;clear iW
 go_wp2_with fail
 refine (tZ _ _ g p _ (by have:=rT.out;omega) HR.out (HG.out.fresh kh.out) (HP.out.fresh kh.out)).mono ?_;rintro e w5 ⟨mb,rfl,hm5,gV,Jy⟩;have Jm:=lh (show SMap w5 mb (2*p.e.length) (Plain.lI g p) from hm5);have iP:=lh (kh.out.t gV);have aeA:=lh (afL.out.t gV);obtain⟨x0,x1,y0,y1,di⟩:=eE.out _ aeA.out;clear gV hm5
 go_wp2_with fail
 refine (MI _ g p mb (2*p.e.length) b (-1) _ (by have:=rT.out;omega) (by omega) HR.out HBV.out hib (bn.mk (by omega) (by omega)) (HG.out.fresh iP.out) Jm.out).mono ?_;rintro e w6 ⟨rb,m,rfl,hm6,lN,hprev,uO,hc6,MC,ql⟩;have yg:=lh hm6;have Vq:=lh lN;have VE:=lh hprev;have Gc:=lh uO;have ni:=lh (iP.out.t hc6);have ack:=lh (aeA.out.t hc6);have adw:=lh hc6;obtain⟨x0,x1,y0,y1,di⟩:=eE.out _ ack.out;obtain⟨f,hf⟩:∃ f,Plain.dR g p (-1) b=f:=⟨_,rfl⟩;have HPF:=lh (show Plain.iR g p a b=(f a).map fun c=>Plain.dx g p f c.toNat a by unfold Plain.iR;rw[hf]);have FZ:=lh (Qp VE.out Vq.out);rw[hf] at yg Vq VE Gc;clear hm6 lN hprev uO hc6 hf;have HZ6:=lh di;obtain⟨LH,LB⟩:∃ n,w6.heap.size=n:=⟨_,rfl⟩;have hw6:w.heap.size+2<=LH:=by have:=HZ6.out;omega
 have VY:=lh hw6;have nm:=lh ((ai.refl [] w6).alloc (.cells #[.map (some rb)] 124));have Ee:=lh (yg.out.aM nm.out (by simp));cases uX:f a with
 | none =>
  have AW:=lh uX;have UC:=lh (show Plain.iR g p a b=none by rw[HPF.out,uX];rfl);clear uX LB hw6
  go_wp2_with (at_lookup;refine dw _ rfl _ _ rfl Ee.out rfl WS rfl AW ?_)
  refine bodyPost_ret (v:=.tuple #[.slice none 0 0,.bool false]) (by simp[results,Tryz.results113,go_sem]) rfl ?_;rw[UC.out];exact⟨_,rfl,gp _ _,FZ.out,(ni.out.t nm.out).alloc _⟩
 | some c =>
  have AW:=lh uX;have gy:=VE.out.low a c uX;have cG:=Gc.out a c uX;obtain⟨C,rfl⟩:∃ C:Nat,c=C:=⟨c.toNat,by omega⟩;have UC:=lh (show Plain.iR g p a b=some (Plain.dx g p f C a) by rw[HPF.out,uX];rfl);have GS:=lh (show C<=1025 by have:=yT.out;omega);have awl:bn (C:Int):=bn.mk (by omega) (by omega);clear uX gy cG hw6
  go_wp2_with (at_lookup;refine eT _ rfl _ _ rfl Ee.out rfl WS rfl AW ?_)
  have hba:=heap_alloc_new w6 (.cells #[.map (some rb)] 124);have M0:(w6.alloc (.cells #[.map (some rb)] 124)).heap.size=LH+1:=by rw[<-LB];simp
  have Sj:=heap_alloc_new (w6.alloc (.cells #[.map (some rb)] 124)) (.cells #[.int .i64 (C:Int)] 3);rw[M0] at Sj;have JQ:ai [] (w6.alloc (.cells #[.map (some rb)] 124)) ((w6.alloc (.cells #[.map (some rb)] 124)).alloc (.cells #[.int .i64 (C:Int)] 3)):=(ai.refl [] _).alloc _;have HBA:=lh (JQ.heap hba (by simp));have VH:=lh Sj;have xf:=lh (nm.out.t JQ);clear hba M0 Sj JQ;generalize (w6.alloc (.cells #[.map (some rb)] 124)).alloc (.cells #[.int .i64 (C:Int)] 3)=w8 at *;rw[LB] at HBA;have S4:=lh (yg.out.aM xf.out (by simp));have aez:=lh (adw.out.t xf.out);have Yg:=lh (ni.out.t xf.out);obtain⟨z0,z1,-,-,-⟩:=eE.out _ (ack.out.t xf.out);have XB:=lh z0;have HX1:=lh z1;have HNW:=lh (show ∀ j∈[LH+1],w5.heap.size<=j/\w.heap.size<=j from fun j hj=>by
   have h1:=adw.out.size;have h2:=VY.out;rw[LB] at h1;rw[List.mem_singleton] at hj;omega)
  have ann:=lh (show rb<LH by rw[<-LB];exact yg.out.lt);clear z0 z1 LB nm Ee;obtain⟨ib,ZU⟩:∃ n,LH+1=n:=⟨_,rfl⟩;have HIB:=lh ZU;rw[ZU] at VH HNW ⊢;clear ZU;have HI8:=lh (show ib<w8.heap.size from lt_of_block VH.out);have HVC:=lh (show ∀ u c,f u=some c->0<=c/\c<=1000000 from fun u c h=>⟨VE.out.low u c h,by have:=Gc.out u c h;have:=yT.out;omega⟩);have aeO:=lh (show ∀ v,f v≠none->∀ d∈p.ag,g.tail d=v->f (g.head d)≠none from fun v hv d hd ht=>by
   have h1:=(Vq.out v).1 hv;have h2:=Plain.eK (g:=g) hd;rw[ht] at h2;have h3:=gA.out _ (sy.out.aQ hd).2;exact (Vq.out _).2 (h1.step h2 (by omega)))
  have Wt:=lh (show ∀ d∈p.ag,0<=d/\d / 2<g.e.length/\bn (g.head d) from fun d hd=>by
   have h3:=gA.out _ (sy.out.aQ hd).2;obtain⟨i,hi,e⟩:=Plain.bO (Plain.aw.1 hd);have:=Plain.ct uV.out hi;exact⟨by omega,by omega,bn.mk (by omega) (by omega)⟩)
  go_loopw [14,15,16] (fun c14 c15 _ wr=>∃ (n v:Nat) (M:List Int),n<=C/\c15=.int .i64 v/\ax wr w8.heap.size c14 M/\Hid (M++Plain.dx g p f n v=Plain.dx g p f C a/\f v=some (n:Int)/\M.length+n=C)/\wr.heap[ib]?=some (.cells #[.int .i64 (n:Int)] 3 (0,0))/\ai [ib] w8 wr) (fun _ _ _ wr=>match wr.cell? ⟨ib,0,none⟩ with | some u=>(intOf u).toNat | none=>0)
  case atStart =>
   obtain⟨an,han⟩:∃ n:Nat,a=n:=⟨a.toNat,by have:=gA.out a HA.out;omega⟩;exact⟨C,an,[],Qh _,by rw[han],gp _ _,lh ⟨by rw[han];rfl,by rw[<-han];exact AW.out,by simp⟩,VH.out,ai.refl _ _⟩
  case round =>
   obtain⟨n,v,M,hn,rfl,bd,hinv,dL,hc⟩:=hrel;have mo:=lh dL;have bU:=lh bd;have HC:=lh hc;obtain⟨oo,oc,rfl⟩:=bd.shape;have ci:=(cell_of_row _ _ 0 _ _ _ dL).trans (show _=some (Qi .i64 (n:Int)) from rfl);have fi:=bJ dL 0;have Gp:=lh (aez.out.trans hc (fun j hj=>Qg (HNW.out j hj).1));have nO:=lh (Yg.out.trans hc (fun j hj=>Qg (HNW.out j hj).2));clear bd dL hc;rcases n with _ | n
   ·have HE:=lh (show M=Plain.dx g p f C a by rw[<-hinv.out.1];simp[Plain.dx])
    go_wp2;refine bodyPost_ret (v:=.tuple #[.slice oo M.length oc,.bool true]) (by simp[results,Tryz.results113,go_sem]) rfl ?_;rw[UC.out];exact⟨_,rfl,by rw[Option.getD_some,<-HE.out];exact bU.out.base Yg.out.size,FZ.out,nO.out⟩
   obtain⟨kk,SU,Cg,TD,hk4,hk5,hk6⟩:=Plain.xW VE.out (v:=(v:Int)) (n:=n) (by rw[hinv.out.2.1];congr 1) (aeO.out _ (by rw[hinv.out.2.1];simp));have zt:=Wt.out _ hk4;obtain⟨d,hd⟩:∃ d:Nat,Plain.lR g p f n v=d:=⟨(Plain.lR g p f n v).toNat,by omega⟩;have Rx:(kk:Int)<((Plain.lI g p v).length:Int):=by omega
   have aei:=lh (show M++[(d:Int)]++Plain.dx g p f n (g.head d)=Plain.dx g p f C a/\f (g.head d)=some (n:Int)/\(M++[(d:Int)]).length+n=C by
    refine⟨?_,by rw[<-hd];exact hk6,by have:=hinv.out.2.2;simp;omega⟩;rw[<-hinv.out.1,Plain.dx,hd];simp)
   have HK1:=lh SU;have LK:=lh (show (Plain.lI g p v).length<=2*p.e.length by unfold Plain.lI;have:=List.length_filter_le (fun d=>decide (g.tail d=(v:Int))) p.ag;rw[Plain.cw] at this;exact this);rw[hd] at TD zt;have tK:=gA.out _ (sy.out.aQ hk4).2;rw[hd] at tK;obtain⟨x,hx⟩:∃ x:Nat,g.head d=x:=⟨(g.head d).toNat,by omega⟩;have HX:=lh hx;rw[hx] at aei;have pG:d / 2<g.e.length:=by have:=zt.2.1;omega
   have hng:g.e.length<1000000:=by have:=j7.out.2.2.1;have:=j7.out.1;omega
   have hnC:n<1000000:=by have:=GS.out;omega
   have Gi:bn (v:Int):=by
    have h1:=(sy.out.aQ hk4).1;rw[hk5] at h1;have:=gA.out _ h1;exact bn.mk (by omega) (by omega)
   have KG:bn (d:Int):=bn.mk (by omega) (by omega);have hLD:∀ q∈Plain.lI g p v,0<=q/\q / 2<g.e.length/\bn (g.head q):=fun q hq=>Wt.out q (Qe.1 hq).1;have Vx:=lh hLD;have xt:=lh (show M.length<4294967290 by have:=hinv.out.2.2;have:=GS.out;omega);have cm:=HC.out.cell ((cell_of_row _ _ 0 _ _ _ HBA.out).trans (show _=some (Value.map (some rb)) from rfl)) (by have:=HIB.out;simp;omega);have cg0:=HC.out.cell XB.out (by have:=HIB.out;have:=VY.out;simp;omega);have cg1:=HC.out.cell HX1.out (by have:=HIB.out;have:=VY.out;simp;omega);have anr:=lh cm;have akH:=lh cg0;have aiI:=lh cg1;have akV:=lh ci;have Cb:=lh (HG.out.fresh nO.out);have HMR:=lh (S4.out.aM HC.out (by have:=yg.out.lt;have:=xf.out;have:=HIB.out;have h9:=ann.out;simp;omega));clear SU hk4 hk5 hk6 zt hd hx tK hLD
   go_wp2_with (at_lookup;refine oG rfl _ _ rfl Jm.out Gp.out (by have:=rT.out;omega) rfl Gi rfl ?_;intro vv r0;obtain⟨vo,vc,rfl⟩:=r0.shape;have R0:=lh r0;clear r0)
   have ru:=G9 n LH w.heap.size ib rb m eo cap g f (.slice vo (Plain.lI g p v).length vc) (Plain.lI g p v) wr Vx.out (by have:=rT.out;have:=LK.out;omega) hng hnC HVC.out (R0.out.ints.fresh Gp.out) anr.out akH.out aiI.out akV.out HMR.out Cb.out;rw[HK1.out] at ru;refine ru.mono ?_;rintro e w9 ⟨rfl,hc9⟩;have Fg:=lh hc9;have ZB:=lh (Gp.out.t hc9);have abG:=lh (HC.out.t hc9);have OZ:=lh (bU.out.aM hc9 (by simp));have HS9:=lh (show w8.heap.size<=w9.heap.size from abG.out.size);have ani:=lh (hc9.heap mo.out (by simp));have ql:=xt.out;clear ru hc9 cm cg0 cg1 ci fi
   go_wp2_with (first
    | (at_lookup;refine oG rfl _ _ rfl Jm.out ZB.out (by have:=rT.out;omega) rfl Gi rfl ?_;intro vv r1;obtain⟨v1o,v1c,rfl⟩:=r1.shape;obtain⟨g1,e1,h1⟩:=r1.some (by omega);subst e1;have ck1:=ZB.out.c (h1 kk Cg);rw[TD] at ck1;clear r1 h1)
    | (at_builtin;refine fA rfl _ _ rfl (B:=w8.heap.size) (v:=.slice oo _ oc) rfl rfl OZ.out KG HS9.out ql rfl ?_;intro v6 Ni r6 c6 f6;have R6:=lh r6;have C6:=lh c6;clear r6 c6 f6))
   have A9:=lh (show ∀ j∈aL (Qn oo M.length oc),w8.heap.size<=j from fun j hj=>(OZ.out.low j (by rw[<-OZ.out.aL];exact hj)).1);have WC:=lh (ZB.out.trans C6.out (fun j hj=>Qg (Qc aez.out.size (A9.out j hj))));have aeu:=lh ((nO.out.t Fg.out).trans C6.out (fun j hj=>Qg (Qc Yg.out.size (A9.out j hj))));have RK:=lh (abG.out.trans C6.out (fun j hj=>Qg (A9.out j hj)));have acR:=lh (C6.out.heap ani.out (fun hj=>by have:=A9.out _ hj;have:=HI8.out;omega));have dg0:=RK.out.cell XB.out (by have:=HIB.out;have:=VY.out;simp;omega);have dg1:=RK.out.cell HX1.out (by have:=HIB.out;have:=VY.out;simp;omega);obtain⟨vv,gC,fz⟩:=Jm.out.Ct (WC.out.drew) (by have:=rT.out;omega) Gi;obtain⟨v1o,v1c,rfl⟩:=fz.shape;obtain⟨g1,e1,h1⟩:=fz.some (by omega);subst e1;have ck1:=WC.out.c (h1 kk Cg);rw[TD] at ck1;clear fz h1;have aD:ai [] Ni Ni.drew:=(ai.refl [] Ni).drew;refine au (ai [] Ni) [0,1,2,4,5,6,8] (Way.line [0,1,2,4,3,5,6,7,8] .done) (by kernel_rfl) (by kernel_rfl) ?_;simp only[Way.line]
   repeat
    first
     | (refine ar rfl (by rfl) (by rfl) (fun _ _ _ h=>h) aD ?_;simp only[Qa,Z1,Z2,Z3,Z4,Z5,Z6])
     | (refine aq (v:=?_) rfl (by rfl) (by rfl) (fun _ _ _ h=>h) aD (fun w' aK=>?_) ?_;rotate_left;(focus (have fU:=aK.c dg0;have gX:=aK.c dg1;have nP:=aK.c ck1;clear aK;go_simp;try with_reducible rfl));simp only[Qa,Z1,Z2,Z3,Z4,Z5,Z6])
     | (refine ak rfl (by rfl) (by rfl) aD ?_;simp only[Qa,Z1,Z2,Z3,Z4,Z5,Z6])
   refine aC rfl (by rfl) (by rfl) (fun K hK=>?_);go_simp;refine hK.out _ _ (fun _=>aD) ?_;clear hK K
   try simp only[Qa,Z1,Z2,Z3,Z4,Z5,Z6]
   repeat
    first
     | (refine ar rfl (by rfl) (by rfl) (fun _ _ _ h=>h) aD ?_;simp only[Qa,Z1,Z2,Z3,Z4,Z5,Z6])
     | (refine aq (v:=?_) rfl (by rfl) (by rfl) (fun _ _ _ h=>h) aD (fun w' aK=>?_) ?_;rotate_left;(focus (have fU:=aK.c dg0;have gX:=aK.c dg1;have nP:=aK.c ck1;clear aK;go_simp;try with_reducible rfl));simp only[Qa,Z1,Z2,Z3,Z4,Z5,Z6])
     | (refine ak rfl (by rfl) (by rfl) aD ?_;simp only[Qa,Z1,Z2,Z3,Z4,Z5,Z6])
   refine aC rfl (by rfl) (by rfl) (fun K hK=>?_);go_simp;refine (mE _ g d _ pG (by omega) (HG.out.fresh (aeu.out.t aD))).mono ?_;rw[HX.out];rintro e Fk ⟨rfl,hc11⟩;have bD:ai [] Ni Fk:=aD.t hc11;refine hK.out _ _ (fun _=>bD) ?_;clear hK K hc11 aD gC
   try simp only[Qa,Z1,Z2,Z3,Z4,Z5,Z6]
   repeat
    first
     | (refine ar rfl (by rfl) (by rfl) (fun _ _ _ h=>h) bD ?_;simp only[Qa,Z1,Z2,Z3,Z4,Z5,Z6])
     | (refine aq (v:=?_) rfl (by rfl) (by rfl) (fun _ _ _ h=>h) bD (fun w' aK=>?_) ?_;rotate_left;(focus (have fU:=aK.c dg0;have gX:=aK.c dg1;clear aK;go_simp;try with_reducible rfl));simp only[Qa,Z1,Z2,Z3,Z4,Z5,Z6])
     | (refine ak rfl (by rfl) (by rfl) bD ?_;simp only[Qa,Z1,Z2,Z3,Z4,Z5,Z6])
   refine aB ?_;have SS:=lh bD;have dL:=bD.heap acR.out (by simp);have ci:=(cell_of_row _ _ 0 _ _ _ dL).trans (show _=some (Qi .i64 ((n+1:Nat):Int)) from rfl);have fi:=bJ dL 0;have V5:=lh dL;have R11:=lh (R6.out.aM bD (by simp));have amu:=lh (show ∀ j∈aL v6,j≠ib from fun j hj e=>by have h1:=(R6.out.low j (by rw[<-R6.out.aL];exact hj)).1;have:=HI8.out;omega);clear dL bD dg0 dg1 ck1;go_wp2
   go_roundw
   case rel =>
    have bw:ai [ib] Fk (Fk.setCell ⟨ib,0,none⟩ (.int .i64 (n:Int))):=(ai.refl _ Fk).setCell (Qj (by simp)) _;refine⟨n,x,M++[(d:Int)],by omega,rfl,R11.out.aM bw (fun j hj e=>amu.out j (by rw[R6.out.aL];exact hj) (by simpa using e)),aei,?_,((RK.out.t SS.out).trans bw (fun j hj=>Qj hj))⟩;exact heap_setCell_same V5.out 0 _
   case measure =>
    have e1:=(cell_of_row _ _ 0 _ _ _ mo.out).trans (show _=some (Qi .i64 ((n+1:Nat):Int)) from rfl);have e2:=(cell_of_row _ _ 0 _ _ _ (heap_setCell_same V5.out 0 (.int .i64 (n:Int)))).trans (show _=some (Qi .i64 (n:Int)) from rfl);rw[e1,e2];simp[intOf]
end Go.Proofs.YtbkjljffnkdcjaaGreat
