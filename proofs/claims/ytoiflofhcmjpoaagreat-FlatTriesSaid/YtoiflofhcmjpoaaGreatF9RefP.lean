/- ref05: the contract of Pieces (how many). Conditions: a right part that lies in memory, of at most 1000 vertices. -/
import Derived.Test.YtoiflofhcmjpoaaGreatF9Spread
import Derived.Test.YtoiflofhcmjpoaaGreatF9Sortf
import Derived.ProofKit
import Derived.OpenShut
import Derived.ChangeOld
import Derived.Deep.Strs
import Derived.Lib.SmallJoins
set_option maxRecDepth 100000
set_option maxHeartbeats 4000000
open Go.Value renaming slice→Qa,int→Qo,okWide→Qq
open List renaming range→Qb,mem_cons→Qd,mem_cons_of_mem→Qg,length_append→Qh,length_cons→Qj,length_nil→Ql,getD→Qn
open Go.Act renaming put→Qc
open Or renaming inl→Qe
open Nat renaming zero_le→Qf,zero_add→Qp
open Go.World renaming cells?_some→Qi,cell?_spot→Qk,frozen?→Qm
-- READS ONLY
namespace Go.Proofs.YtoiflofhcmjpoaaGreat
open Plain
open Go.RowKit Go.Maps
namespace Plain
variable {g:Gr} {p:Pt} {k:Nat} {A M:List Int}
def nV (g:Gr) (p:Pt) (k:Nat) (A:List Int):Prop:=∀ u,u∈A↔∃ r∈dg g p k,bS g p (-1) r u
theorem nV.start (g:Gr) (p:Pt):nV g p 0 []:=λu=>by rw[uj];simp
open Classical in
theorem nV.root (hp:aD g p) (hr:p.v.Pairwise (·<·)) (h:nV g p k A) (hk:k<p.v.length) (hf:p.v.getD k 0 ∉ A):p.v.getD k 0∈roots g p:=by
 obtain⟨r,fD,hc⟩:=DL (g:=g) (λv hv=>(hp.vr v hv).1) (aQ hk);have hle:=(fw.1 fD).2 _ (aQ hk) hc;by_cases e:r=p.v.getD k 0
 ·grind
 exfalso;obtain⟨j,hj,hje⟩:=cr (fw.1 fD).1;have hjk:j<k:=by
  rcases Nat.lt_or_ge j k with q | q
  ·exact q
  exfalso;rcases Nat.eq_or_lt_of_le q with q | q
  ·subst q;exact e hje.symm
  have:=List.pairwise_iff_getElem.1 hr k j hk hj q;simp[Qn,hk,hj] at hje hle;omega
 have hm:r∈dg g p k:=by
  unfold dg;refine List.mem_filter.2 ⟨?_,decide_eq_true (fw.1 fD).2⟩;rw[<-hje];have:(p.v.take k)[j]?=some p.v[j]:=by rw[List.getElem?_take,if_pos hjk,List.getElem?_eq_getElem hj]
  grind
 exact hf ((h _).2 ⟨r,hm,hc⟩)
theorem nV.known (hp:aD g p) (h:nV g p k A) (hk:k<p.v.length) (hf:p.v.getD k 0∈A):p.v.getD k 0 ∉ roots g p:=by
 intro hr;obtain⟨r,hm,hc⟩:=(h _).1 hf;have hm:=Ge hm;have e:=zf (λv hv=>(hp.vr v hv).1) hm.1 hr hc .here
 grind [agJ]
theorem nV.skip (hp:aD g p) (h:nV g p k A) (hk:k<p.v.length) (hf:p.v.getD k 0∈A):nV g p (k+1) A:=by
 unfold nV;rw[tH hk (h.known hp hk hf)];exact h
theorem nV.add (hp:aD g p) (hr:p.v.Pairwise (·<·)) (h:nV g p k A) (hk:k<p.v.length) (hf:p.v.getD k 0 ∉ A) (hM:∀ u,u∈M↔bS g p (-1) (p.v.getD k 0) u):nV g p (k+1) (A++M):=by
 intro u;rw[tg hk (h.root hp hr hk hf),List.mem_append,h u,hM u]
 all_goals grind
end Plain
namespace Plain
def g0:Gr:=⟨2,[]⟩
def p0:Pt:=⟨[0,1],[]⟩
def t0:List (List Int):=[[],[]]
def s0:List (List Int):=[[-2,-1]]
def w0:List bP:=[(-2,[]),(-1,[])]
end Plain
variable {w wa w7:World} {B ob:Nat} {u1 u2 v:Value} {V E m:List Int}
theorem BL (n:Nat):mr (n+1)=mr n++[(n:Int)]:=by unfold mr;rw[List.range_succ,List.map_append];rfl
theorem pR (n:Nat):(mr n).length=n:=by simp[mr]
theorem eT.aep (ho:w.heap[ob]?=some (.cells #[u1,u2] 27 (0,0))) (h1:aw w B u1 V) (h2:aw w B u2 E) (fy:∀ j∈aC u1,j ∉ aC u2) (hB:B<=ob) (ca:ai [] w wa) (c7:ai (aC u1) wa w7) (r7:aw w7 B v m) (f7:∀ j∈aC v,j∈aC u1\/wa.heap.size<=j) :
  eT (w7.setCell ⟨ob,0,none⟩ v) B ob m E/\ai (ob :: aC u1) w (w7.setCell ⟨ob,0,none⟩ v):=by
 have nob:∀ {w:World} {u:Value} {q:List Int} {x y:Value},w.heap[ob]?=some (.cells #[x,y] 27 (0,0))->aw w B u q->ob ∉ aC u:=λhh h e=>by
  grind [bu]
 have Vd:=c7.heap (ca.heap ho (by simp)) (nob ho h1);have br:ai [ob] w7 (w7.setCell ⟨ob,0,none⟩ v):=(ai.refl _ w7).setCell (Qe (by simp)) _;have h27:=(h2.aL ca (by simp)).aL c7 (λb hb e=>fy b e (by rw[h2.aC];exact hb));have keep:∀ {u:Value} {q:List Int},aw w7 B u q->aw (w7.setCell ⟨ob,0,none⟩ v) B u q:=λh=>h.aL br (λb hb e=>by
  simp at e;subst e;exact nob Vd h (by rw[h.aC];exact hb))
 refine⟨⟨v,u2,heap_setCell_same Vd 0 v,keep r7,keep h27,λj hj e=>?_,hB⟩,((ca.mono (by simp)).trans (c7.mono (nh:=ob :: aC u1) (λj hj=>Qe (Qg _ hj))) (λj hj=>Qe hj)).trans (br.mono (nh:=ob :: aC u1) (λj hj=>Qe (by grind))) (λj hj=>Qe hj)⟩;rcases f7 j hj with q | q
 ·exact fy j q e
 have:=(h2.low j (by rw[<-h2.aC];exact e)).2;have:=ca.size;omega
theorem eT.ae0 (ho:w.heap[ob]?=some (.cells #[u1,u2] 27 (0,0))) (h1:aw w B u1 V) (h2:aw w B u2 E) (fy:∀ j∈aC u1,j ∉ aC u2) (hB:B<=ob) (ca:ai [] w wa) (c7:ai (aC u2) wa w7) (r7:aw w7 B v m) (f7:∀ j∈aC v,j∈aC u2\/wa.heap.size<=j) :
  eT (w7.setCell ⟨ob,1,none⟩ v) B ob V m/\ai (ob :: aC u2) w (w7.setCell ⟨ob,1,none⟩ v):=by
 have nob:∀ {w:World} {u:Value} {q:List Int} {x y:Value},w.heap[ob]?=some (.cells #[x,y] 27 (0,0))->aw w B u q->ob ∉ aC u:=λhh h e=>by
  grind [bu]
 have Vd:=c7.heap (ca.heap ho (by simp)) (nob ho h2);have br:ai [ob] w7 (w7.setCell ⟨ob,1,none⟩ v):=(ai.refl _ w7).setCell (Qe (by simp)) _;have h27:=(h1.aL ca (by simp)).aL c7 (λb hb e=>fy b (by rw[h1.aC];exact hb) e);have keep:∀ {u:Value} {q:List Int},aw w7 B u q->aw (w7.setCell ⟨ob,1,none⟩ v) B u q:=λh=>h.aL br (λb hb e=>by
  simp at e;subst e;exact nob Vd h (by rw[h.aC];exact hb))
 refine⟨⟨u1,v,heap_setCell_same Vd 1 v,keep h27,keep r7,λj hj e=>?_,hB⟩,((ca.mono (by simp)).trans (c7.mono (nh:=ob :: aC u2) (λj hj=>Qe (Qg _ hj))) (λj hj=>Qe hj)).trans (br.mono (nh:=ob :: aC u2) (λj hj=>Qe (by grind))) (λj hj=>Qe hj)⟩;rcases f7 j e with q | q
 ·exact fy j hj q
 have:=(h1.low j (by rw[<-h1.aC];exact hj)).2;have:=ca.size;omega
theorem OT (vg:Value) (g:Gr) (N:Nat) (w:World) (hN:g.n=(N:Int)) (hNb:N<=100000) (hE:g.e.length<=100000) (hg:cA w vg g) :
  Calls Tryz.prog 46 #[vg] w λe w'=>∃ v1 v2,e=.returned (.agg #[v1,v2])/\aw w' w.heap.size v1 (mr N)/\aw w' w.heap.size v2 (mr g.e.length)/\ai [] w w':=by
 obtain⟨eo,cap,rfl,-,-,-,-⟩:=hg;rw[hN];have X0:=lh ((cell_of_row _ _ 0 _ _ _ (heap_alloc_new w (.cells #[.int .i64 N,.slice eo g.e.length cap] 24))).trans (show _=some (Qo .i64 N) from rfl));have X1:=lh ((cell_of_row _ _ 1 _ _ _ (heap_alloc_new w (.cells #[.int .i64 N,.slice eo g.e.length cap] 24))).trans (show _=some (Qa eo g.e.length cap) from rfl));have UY:=lh (heap_alloc_new w (.cells #[.int .i64 N,.slice eo g.e.length cap] 24));have aY:=lh ((ai.refl [] w).alloc (.cells #[.int .i64 N,.slice eo g.e.length cap] 24));obtain⟨fD,cD,gX⟩:=iW (w.alloc (.cells #[.int .i64 N,.slice eo g.e.length cap] 24)) #[.slice none 0 0,.slice none 0 0] #[.slice none 0 0,.slice none 0 0] 27 27;have bs:(w.alloc (.cells #[.int .i64 N,.slice eo g.e.length cap] 24)).heap.size=w.heap.size+1:=by simp
 rw[bs] at fD cD;have Tm:=lh fD;have eW:=lh gX;have HO:=lh (show eT _ (w.heap.size+1) (w.heap.size+1+1) (mr 0) (mr 0) from⟨_,_,cD,⟨World.ownsRow_nil _ _ _ _,by simp[mr],by simp[mr]⟩,⟨World.ownsRow_nil _ _ _ _,by simp[mr],by simp[mr]⟩,by simp[aC,Value.ownBlock],by omega⟩);have vG:=lh bs;clear fD cD bs gX hN;go_enter Tryz.func46,Tryz.ntmps46;go_wp2;generalize (((w.alloc (.cells #[.int .i64 N,.slice eo g.e.length cap] 24)).alloc (.cells #[.slice none 0 0,.slice none 0 0] 27)).alloc (.cells #[.slice none 0 0,.slice none 0 0] 27))=w4 at *;generalize (w.alloc (.cells #[.int .i64 N,.slice eo g.e.length cap] 24))=w1 at *;obtain⟨E,hEE⟩:∃ E,g.e.length=E:=⟨_,rfl⟩;have ZB:=lh hEE;rw[hEE] at hE X1 UY ⊢;clear hEE;go_loopw [4] (λc wr=>∃ k:Nat,k<=N/\c=.int .i64 k/\eT wr (w.heap.size+1) (w.heap.size+1+1) (mr k) (mr 0)/\ai [] w1 wr/\wr.heap[w.heap.size+1]?=some (.cells #[.slice none 0 0,.slice none 0 0] 27 (0,0))) (λc _=>N - (intOf c).toNat);case atStart=>exact⟨0,Qf _,rfl,HO.out,eW.out,Tm.out⟩
 case round =>
  obtain⟨k,hk,rfl,eY,hc,I8⟩:=hrel;have HC:=lh hc;have tJ:=lh I8;have jg:=lh eY;have xg:=hc.cell X0.out (by grind);clear I8 eY;by_cases aW:k<N
  ·obtain⟨u1,u2,ho,fD,cD,fy,SS⟩:=jg.out
   obtain⟨ua,uc,rfl⟩:=fD.shape;simp only[pR] at ho fD cD fy;have o0:=(cell_of_row _ _ 0 _ _ _ ho).trans (show _=some (Qa ua k uc) from rfl);have n1:w.heap.size+1+1 ∉ aC (.slice ua k uc):=λe=>by grind [bu]
   have IK:bF (k:Int):=by grind [bF.mk]
   have N1:=lh n1;have Pz:=lh ho;have H1:=lh fD;have H2:=lh cD;have tD:=lh fy;have CA:=lh ((ai.refl [] wr).alloc (.cells #[.int .i64 (k:Int)] 3));have qk:=lh (show w.heap.size+1<=(wr.alloc (.cells #[.int .i64 (k:Int)] 3)).heap.size by have:=vG.out;have:=HC.out.size;have:=CA.out.size;omega);have B6:=lh (dI wr IK);have nk:=lh (show (mr k).length+[(k:Int)].length<4294967296 by grind [pR]);clear ho fD cD fy SS n1 hc;go_wp2_with (at_builtin;(refine cH rfl _ _ rfl (B:=w.heap.size+1) (v:=.slice ua k uc) rfl rfl (H1.out.aL CA.out (by simp)) B6.out qk.out nk.out ?_;intro v7 w7 r7 c7 f7;obtain⟨vo,vc,rfl⟩:=r7.shape;have Br:=lh (c7.heap (CA.out.heap Pz.out (by simp)) N1.out);have o7:=(cell_of_row _ _ 0 _ _ _ Br.out).trans (show _=some (Qa ua k uc) from rfl);have z7:w7.frozen? ⟨w.heap.size+1+1,0,none⟩=false:=bE Br.out 0;have R7:=lh r7;have C7:=lh c7;have F7:=lh f7;clear r7 c7 f7 o0));have oN:=eT.aep Pz.out H1.out H2.out tD.out (by omega) CA.out C7.out R7.out F7.out;simp only[Qh,Qj,Ql,Qp] at oN;have bI:=HC.out.trans oN.2 (λj hj=>Or.inr (by
    have:=vG.out;rcases Qd.1 hj with rfl | hj
    ·omega
    have:=(H1.out.low j (by grind [jG])).1;omega))
   have aa4:=oN.2.heap tJ.out (by
    intro e;rcases Qd.1 e with e | e
    ·omega
    obtain⟨cs,r,hh⟩:=bu H1.out _ e;rw[tJ.out] at hh;simp at hh)
   exact⟨⟨k+1,by omega,by go_num,by grind [BL],bI,aa4⟩,by simp[intOf];omega⟩
  have e:N=k:=by omega
  subst e;clear hc;go_wp2;clear xg;go_loopw [5] (λc wr=>∃ k:Nat,k<=E/\c=.int .i64 k/\eT wr (w.heap.size+1) (w.heap.size+1+1) (mr N) (mr k)/\ai [] w1 wr/\wr.heap[w.heap.size+1]?=some (.cells #[.slice none 0 0,.slice none 0 0] 27 (0,0))) (λc _=>E - (intOf c).toNat);case atStart=>exact⟨0,Qf _,rfl,jg.out,HC.out,tJ.out⟩
  case round =>
   obtain⟨k,hk,rfl,eY,hc,I8⟩:=hrel;have HC:=lh hc;have tJ:=lh I8;have jg:=lh eY;have xg:=hc.cell X1.out (by grind);clear I8 eY;by_cases aW:k<E
   ·obtain⟨u1,u2,ho,fD,cD,fy,SS⟩:=jg.out
    obtain⟨ua,uc,rfl⟩:=cD.shape;simp only[pR] at ho fD cD fy;have o0:=(cell_of_row _ _ 1 _ _ _ ho).trans (show _=some (Qa ua k uc) from rfl);have n1:w.heap.size+1+1 ∉ aC (.slice ua k uc):=λe=>by grind [bu]
    have IK:bF (k:Int):=by grind [bF.mk]
    have N1:=lh n1;have Pz:=lh ho;have H1:=lh fD;have H2:=lh cD;have tD:=lh fy;have CA:=lh ((ai.refl [] wr).alloc (.cells #[.int .i64 (k:Int)] 3));have qk:=lh (show w.heap.size+1<=(wr.alloc (.cells #[.int .i64 (k:Int)] 3)).heap.size by have:=vG.out;have:=HC.out.size;have:=CA.out.size;omega);have B6:=lh (dI wr IK);have nk:=lh (show (mr k).length+[(k:Int)].length<4294967296 by grind [pR]);clear ho fD cD fy SS n1 hc;go_wp2_with (at_builtin;(refine cH rfl _ _ rfl (B:=w.heap.size+1) (v:=.slice ua k uc) rfl rfl (H2.out.aL CA.out (by simp)) B6.out qk.out nk.out ?_;intro v7 w7 r7 c7 f7;obtain⟨vo,vc,rfl⟩:=r7.shape;have Br:=lh (c7.heap (CA.out.heap Pz.out (by simp)) N1.out);have o7:=(cell_of_row _ _ 1 _ _ _ Br.out).trans (show _=some (Qa ua k uc) from rfl);have z7:w7.frozen? ⟨w.heap.size+1+1,1,none⟩=false:=bE Br.out 1;have R7:=lh r7;have C7:=lh c7;have F7:=lh f7;clear r7 c7 f7 o0));have oN:=eT.ae0 Pz.out H1.out H2.out tD.out (by omega) CA.out C7.out R7.out F7.out;simp only[Qh,Qj,Ql,Qp] at oN;have bI:=HC.out.trans oN.2 (λj hj=>Or.inr (by
     have:=vG.out;rcases Qd.1 hj with rfl | hj
     ·omega
     have:=(H2.out.low j (by grind [jG])).1;omega))
    have aa4:=oN.2.heap tJ.out (by
     intro e;rcases Qd.1 e with e | e
     ·omega
     obtain⟨cs,r,hh⟩:=bu H2.out _ e;rw[tJ.out] at hh;simp at hh)
    exact⟨⟨k+1,by omega,by go_num,by grind [BL],bI,aa4⟩,by simp[intOf];omega⟩
   have e:E=k:=by omega
   subst e;obtain⟨u1,u2,ho,fD,cD,fy,SS⟩:=jg.out;obtain⟨a1,q1,rfl⟩:=fD.shape;obtain⟨a2,q2,rfl⟩:=cD.shape;simp only[pR] at ho fD cD fy;have o0:=(cell_of_row _ _ 0 _ _ _ ho).trans (show _=some (Qa a1 N q1) from rfl);have o1:=(cell_of_row _ _ 1 _ _ _ ho).trans (show _=some (Qa a2 E q2) from rfl);have r0:=(cell_of_row _ _ 0 _ _ _ tJ.out).trans (show _=some (Qa none 0 0) from rfl);have r1:=(cell_of_row _ _ 1 _ _ _ tJ.out).trans (show _=some (Qa none 0 0) from rfl);have z0:wr.frozen? ⟨w.heap.size+1,0,none⟩=false:=by simp[Qm,tJ.out]
   have z1:wr.frozen? ⟨w.heap.size+1,1,none⟩=false:=by simp[Qm,tJ.out]
   have br:ai [w.heap.size+1] wr ((wr.setCell ⟨w.heap.size+1,0,none⟩ (.slice a1 N q1)).setCell ⟨w.heap.size+1,1,none⟩ (.slice a2 E q2)):=by grind [ai.refl,ai.setCell]
   have iS:=heap_setCell_same (heap_setCell_same tJ.out 0 (.slice a1 N q1)) 1 (.slice a2 E q2);have f0:=(cell_of_row _ _ 0 _ _ _ iS).trans (show _=some (Qa a1 N q1) from rfl);have f1:=(cell_of_row _ _ 1 _ _ _ iS).trans (show _=some (Qa a2 E q2) from rfl);have kind:∀ {v:Value} {q:List Int},aw wr (w.heap.size+1) v q->∀ b∈v.ownBlock.toList,b ∉ [w.heap.size+1]:=λh b hb e=>by
    obtain⟨cs,r,hh⟩:=bu h b (by rw[h.aC];exact hb);simp at e;rw[e,tJ.out] at hh;simp at hh
   have HA:=lh ((fD.aL br (kind fD)).base (show w.heap.size<=w.heap.size+1 by omega));have HB:=lh ((cD.aL br (kind cD)).base (show w.heap.size<=w.heap.size+1 by omega));have gU:=lh (aY.out.t (HC.out.trans br (λj hj=>Or.inr (by rw[vG.out];simp at hj;omega))));have Vl:=lh f0;have Pp:=lh f1;clear ho fD cD fy SS br iS f0 f1 kind hc;go_wp2;refine bodyPost_ret (v:=.agg #[.slice a1 N q1,.slice a2 E q2]) (by have h0:=Vl.out;have h1:=Pp.out;simp[results,Tryz.results46,go_sem,h0,h1]) rfl ?_;exact⟨_,_,rfl,HA.out,by rw[ZB.out];exact HB.out,gU.out⟩
namespace Plain
end Plain
open Go.ChangeShapes Go.WideShapes Go.ChangeAt Go.RowKit Go.Deep Go.Joins
section
variable {H : Type} {enc : TypeId × Value -> H} {w : World} {base : Nat} {held : Bool}
theorem Gf:Tryz.prog.cellsOf 3=1:=by kernel_rfl
theorem TD:Tryz.prog.cellsOf 25=1:=by kernel_rfl
theorem Ot:Tryz.prog.cellsOf 72=2:=by kernel_rfl
theorem vD {fuel:Nat} {u:Value} {x:DataW H × List MemPlace} (h:DataW.trod enc Tryz.prog w base (λ_=>true) held fuel 25 [u]=some x):∃ l,aI w u l/\rE u:=by
 rcases open_ints Tryz.underlying25 Tryz.underlying3 Gf h with ⟨ja,_⟩ | ⟨a,pN,gF,zs,ja,_,hl,hm,hz,_,aS,Ie⟩
 ·simp at ja
  subst ja;exact⟨[],aI.nil w,none,0,0,rfl,by decide,by decide⟩
 simp at ja;subst ja;have hz':zs.length=gF:=by simpa using hz
 have hlen:(zs.take pN).length=pN:=by simp;omega
 unfold maxLen at hm;refine⟨zs.take pN,⟨some a,gF,by rw[hlen],λy hy=>Ie y (List.mem_of_mem_take hy),by grind,λbn=>?_⟩,some a,pN,gF,rfl,hl,by omega⟩;obtain⟨b,off,rfl,hc⟩:=ints_at aS (by
  rcases Nat.eq_zero_or_pos zs.length with q | q
  ·rw[List.length_eq_zero_iff.1 q] at bn;simp at bn
  exact q)
 grind
theorem adD {fuel:Nat} {u:Value} {x:DataW H × List MemPlace} (h:DataW.trod enc Tryz.prog w base (λ_=>true) held fuel 48 [u]=some x):∃ ll,fY w u ll:=by
 rcases open_slice Tryz.underlying48 h with ⟨ja,_⟩ | ⟨a,pN,gF,m,n,D,Pl,ja,_,hl,hm,ze,_,hx⟩
 ·simp at ja
  subst ja;exact⟨[],none,0,rfl,by decide,λi hi=>absurd hi (by simp)⟩
 simp at ja;subst ja;simp only[if_true] at ze;subst ze;have each:∀ i,i<m->∃ l:List Int,∃ u,w.cell? (a.add (i*1))=some u/\aI w u l/\rE u:=by
  intro i hi;obtain⟨JD,hc,ht⟩:=hx i hi;rw[TD] at hc;obtain⟨_,hlen,eJ⟩:=Qi hc
  match JD,hlen with
  | [c0],_ =>
   obtain⟨l,h1,h2⟩:=vD ht;refine⟨l,c0,?_,h1,h2⟩;have:=eJ 0 (by omega);rw[add_add] at this;simpa using this
 obtain⟨f,hf⟩:=choose_lt each;unfold maxLen at hm;refine⟨(Qb pN).map f,some a,m,by simp,by simp;omega,λi hi=>?_⟩;have hi:i<pN:=by simpa using hi
 obtain⟨u,k0,k1,k2⟩:=hf i (by omega);obtain⟨b,off,spot⟩:=a;have hs:spot=none:=by
  obtain⟨u0,z0,-⟩:=hf 0 (by omega);have:=Qk z0;simpa[Addr.add] using this
 subst hs;refine⟨b,off,u,rfl,?_,k2,by simpa[Qn,hi] using k1⟩;have:=k0;rw[add_plain] at this;simpa using this
theorem WR {r:Reach} {b0:Nat} {v:Value} {d:DataW H} {p:List MemPlace} (hv:Qq Tryz.prog w r b0 24 v) (h:DataW.Trod enc Tryz.prog w base (λ_=>true) held 24 v d p):∃ g,cA w v g:=by
 obtain⟨c0,c1,y0,y1,n,rfl,-,-,h0,h1⟩:=open_agg2 Tryz.underlying24 (by kernel_rfl) (by kernel_rfl) hv h;obtain⟨N,e0,_,w0⟩:=DataW.trod_int Tryz.underlying3 h0;simp at e0;subst e0;rcases open_slice Tryz.underlying22 h1 with ⟨ja,_⟩ | ⟨a,pN,gF,m,n',D,Pl,ja,_,hl,hm,ze,_,hx⟩
 ·simp at ja
  subst ja;exact⟨⟨N,[]⟩,none,0,rfl,w0,Qf _,λi hi=>absurd hi (by simp),λi hi=>absurd hi (by simp)⟩
 simp at ja;subst ja;simp only[if_true] at ze;subst ze;have each:∀ i,i<m->∃ y:Int × Int,(bF y.1/\bF y.2)/\w.cell? (a.add (i*2))=some (.int .i64 y.1)/\w.cell? (a.add (i*2+1))=some (.int .i64 y.2):=by
  intro i hi;obtain⟨JD,hc,ht⟩:=hx i hi;rw[Ot] at hc;obtain⟨_,hlen,eJ⟩:=Qi hc;obtain⟨y0,y1,n',_,_,k0,k1⟩:=trod_struct2 Tryz.underlying72 ht
  match JD,hlen with
  | [c0,c1],_ =>
   simp only[Gf,List.drop_zero,List.drop_succ_cons,List.take_succ_cons,List.take_zero] at k0 k1;obtain⟨x0,e0,_,q0⟩:=DataW.trod_int Tryz.underlying3 k0;obtain⟨x1,e1,_,q1⟩:=DataW.trod_int Tryz.underlying3 k1;simp at e0 e1;subst e0 e1;refine⟨(x0,x1),⟨q0,q1⟩,?_,?_⟩
   ·have:=eJ 0 (by omega);rw[add_add] at this;simpa using this
   have:=eJ 1 (by omega);rw[add_add] at this;simpa using this
 obtain⟨f,hf⟩:=choose_lt each;unfold maxLen at hm;have hg:∀ i,i<pN->((Qb pN).map f).getD i (0,0)=f i:=λi hi=>by simp[Qn,hi]
 refine⟨⟨N,(Qb pN).map f⟩,some a,m,by simp,w0,by simp;omega,λi hi=>?_,λi hi=>?_⟩
 ·have hi:i<pN:=by simpa using hi
  show bF (((Qb pN).map f).getD i (0,0)).1/\bF (((Qb pN).map f).getD i (0,0)).2
  grind
 have hi:i<pN:=by simpa using hi
 obtain⟨_,k0,k1⟩:=hf i (by omega);obtain⟨b,off,spot⟩:=a;have hs:spot=none:=by
  have:=Qk (hf 0 (by omega)).2.1;simpa[Addr.add] using this
 subst hs;refine⟨b,off,rfl,?_,?_⟩
 ·show _=some (Qo .i64 (((Qb pN).map f).getD i (0,0)).1)
  rw[hg i hi,<-add_plain];exact k0
 show _=some (Qo .i64 (((Qb pN).map f).getD i (0,0)).2);rw[hg i hi,Nat.add_assoc,<-add_plain];exact k1
theorem XH {r:Reach} {b0:Nat} {v:Value} {d:DataW H} {p:List MemPlace} (hv:Qq Tryz.prog w r b0 27 v) (h:DataW.Trod enc Tryz.prog w base (λ_=>true) held 27 v d p):∃ g,dt w v g:=by
 obtain⟨c0,c1,y0,y1,n,rfl,-,-,h0,h1⟩:=open_agg2 Tryz.underlying27 (by kernel_rfl) (by kernel_rfl) hv h;obtain⟨l0,k0,-⟩:=vD h0;obtain⟨l1,k1,-⟩:=vD h1;exact⟨⟨l0,l1⟩,c0,c1,rfl,k0,k1⟩
end
theorem BA (v:Value) (l:List Int) (n:Int) (w:World) (h:aI w v l) (hl:l.length<4294967296) :
  Calls Tryz.prog 24 #[v,.int .i64 n] w λe w'=>e=.returned (.bool (dG l n))/\ai [] w w':=by
 obtain⟨ao,cap,rfl,fx,hm,aS⟩:=h;have iL:=lh fx;have oe:=lh aS;clear fx aS;go_enter Tryz.func24,Tryz.ntmps24;go_wp2;go_loopw [5] (λc wr=>∃ k:Nat,k<=l.length/\c=.int .i64 k/\ai [] w wr/\Hid ((Qb k).all (eH l n)=true)) (λc _=>l.length - (intOf c).toNat);case atStart=>exact⟨0,Qf _,rfl,ai.refl _ _,rfl⟩
 case round =>
  obtain⟨k,hk,rfl,hc,cX⟩:=hrel;have HC:=lh hc;by_cases aW:k<l.length
  ·obtain⟨b,off,rfl,qL⟩:=oe.out (by intro e;rw[e] at aW;simp at aW)
   have c0:=hc.c (qL k aW);have HF:=lh (λh=>dU (p:=eH l n) aW h);have HS:=lh (eE (eH l n) k);obtain⟨z,hz⟩:∃ z,l.getD k 0=z:=⟨_,rfl⟩;obtain⟨y,hy⟩:∃ y,l.getD (k - 1) 0=y:=⟨_,rfl⟩;have HR:=lh (show eH l n k=!(decide (z<0) || decide (n<=z) || (decide (0<k)&&decide (z<=y))) by unfold eH;rw[hz,hy]);rw[hz] at c0;obtain⟨j,hj⟩:∃ j,k - 1=j:=⟨_,rfl⟩;have c1:wr.cell? ⟨b,off+j,none⟩=some (.int .i64 y):=by rw[<-hy,hj];exact hc.c (qL j (by omega))
   have e1:0<k->IntKind.i64.wrap ((k:Int) - 1)=(j:Int):=λh=>by rw[IntWalk.i64_in _ (by omega)];omega
   have i1:(0:Int)<=(j:Int):=by omega
   have i2:(j:Int)<(l.length:Int):=by omega
   have i7:j<l.length:=by omega
   clear qL hc hz hy hj;go_wp2;have aG:(λw':World=>w'.cell? ⟨b,off+k,none⟩=some (.int .i64 z)/\w'.cell? ⟨b,off+j,none⟩=some (.int .i64 y)) wr.drew:=⟨c0,c1⟩;refine al (λw':World=>w'.cell? ⟨b,off+k,none⟩=some (.int .i64 z)/\w'.cell? ⟨b,off+j,none⟩=some (.int .i64 y)) [0,1,2,3,4,5,6,7,8,9,10,11,12,13,14,15,16,17,18,19,20,21,22,23,24,25,26,27,28] (Way.line [0,1,2,3,4,5,6,7,8,9,10,11,12,13,14,15,16,17,18,19,20,21,22,23,24,25,26,27,28] .done) (by kernel_rfl) (by kernel_rfl) ?_;simp only[Way.line];have Mo:=lh HC.out.drew;by_cases h1:z<0
   ·have b1:decide (z<0)=true:=decide_eq_true h1
    have HE:=lh (show dG l n=false from HF.out (by rw[HR.out,b1];simp));clear h1 e1
    repeat
     first
      | (refine cz rfl (by rfl) (by rfl) (λ_ _ _ h=>h) aG ?_;simp only[Qc,Z1,Z2,Z3,Z4,Z5,Z6])
      | (refine aj (v:=?_) rfl (by rfl) (by rfl) (λ_ _ _ h=>h) aG (λw' aB=>?_) ?_;rotate_left;(focus ((try dsimp only at aB);go_simp;try with_reducible rfl));simp only[Qc,Z1,Z2,Z3,Z4,Z5,Z6])
      | (refine bW rfl (by rfl) (by rfl) aG ?_;simp only[Qc,Z1,Z2,Z3,Z4,Z5,Z6])
    refine ar ?_;clear aG c0 c1;go_wp2;go_ret;exact⟨aM HE.out.symm,Mo.out⟩
   have b1:decide (z<0)=false:=decide_eq_false h1;by_cases h2:n<=z
   ·have b2:decide (z ≥ n)=true:=decide_eq_true h2
    have HE:=lh (show dG l n=false from HF.out (by rw[HR.out,decide_eq_true h2];simp));clear h1 h2 e1
    repeat
     first
      | (refine cz rfl (by rfl) (by rfl) (λ_ _ _ h=>h) aG ?_;simp only[Qc,Z1,Z2,Z3,Z4,Z5,Z6])
      | (refine aj (v:=?_) rfl (by rfl) (by rfl) (λ_ _ _ h=>h) aG (λw' aB=>?_) ?_;rotate_left;(focus ((try dsimp only at aB);go_simp;try with_reducible rfl));simp only[Qc,Z1,Z2,Z3,Z4,Z5,Z6])
      | (refine bW rfl (by rfl) (by rfl) aG ?_;simp only[Qc,Z1,Z2,Z3,Z4,Z5,Z6])
    refine ar ?_;clear aG c0 c1;go_wp2;go_ret;exact⟨aM HE.out.symm,Mo.out⟩
   have b2:decide (z ≥ n)=false:=decide_eq_false h2;have b2':decide (n<=z)=false:=decide_eq_false h2;by_cases h0:0<k
   ·have b3:decide ((k:Int) > 0)=true:=decide_eq_true (by omega)
    have e2:=e1 h0;by_cases h3:z<=y
    ·have b4:decide (z<=y)=true:=decide_eq_true h3
     have HE:=lh (show dG l n=false from HF.out (by rw[HR.out,b4,decide_eq_true h0];simp));clear h1 h2 h3 e1
     repeat (refine aj (v:=?_) rfl (by rfl) (by rfl) (λ_ _ _ h=>h) aG (λw' aB=>?_) ?_;rotate_left;(focus ((try dsimp only at aB);go_simp;try with_reducible rfl));simp only[Qc,Z1,Z2,Z3,Z4,Z5,Z6])
     refine ar ?_;clear aG c0 c1;go_wp2;go_ret;exact⟨aM HE.out.symm,Mo.out⟩
    have b4:decide (z<=y)=false:=decide_eq_false h3;have HE:=lh (show (Qb (k+1)).all (eH l n)=true by rw[HS.out,HR.out,cX.out,b1,b2',b4];simp);clear h1 h2 h3 e1
    repeat (refine aj (v:=?_) rfl (by rfl) (by rfl) (λ_ _ _ h=>h) aG (λw' aB=>?_) ?_;rotate_left;(focus ((try dsimp only at aB);go_simp;try with_reducible rfl));simp only[Qc,Z1,Z2,Z3,Z4,Z5,Z6])
    refine ar ?_;clear aG c0 c1;go_wp2;go_roundw;case rel=>exact⟨k+1,by omega,by go_num,Mo.out,HE⟩
    case measure=>simp[intOf];omega
   have b3:decide ((k:Int) > 0)=false:=decide_eq_false (by omega);have HE:=lh (show (Qb (k+1)).all (eH l n)=true by rw[HS.out,HR.out,cX.out,b1,b2',decide_eq_false h0];simp);have b5:decide (0<k)=false:=decide_eq_false h0;clear h1 h2 e1
   repeat
    first
     | (refine cz rfl (by rfl) (by rfl) (λ_ _ _ h=>h) aG ?_;simp only[Qc,Z1,Z2,Z3,Z4,Z5,Z6])
     | (refine aj (v:=?_) rfl (by rfl) (by rfl) (λ_ _ _ h=>h) aG (λw' aB=>?_) ?_;rotate_left;(focus ((try dsimp only at aB);go_simp;try with_reducible rfl));simp only[Qc,Z1,Z2,Z3,Z4,Z5,Z6])
     | (refine bW rfl (by rfl) (by rfl) aG ?_;simp only[Qc,Z1,Z2,Z3,Z4,Z5,Z6])
   refine ar ?_;clear aG c0 c1;go_wp2;go_roundw;case rel=>exact⟨k+1,by omega,by go_num,Mo.out,HE⟩
   case measure=>simp[intOf];omega
  have e:k=l.length:=by omega
  subst e;have HE:=lh cX.out;clear hc;go_wp2;go_ret;exact⟨aM HE.out.symm,HC.out⟩
