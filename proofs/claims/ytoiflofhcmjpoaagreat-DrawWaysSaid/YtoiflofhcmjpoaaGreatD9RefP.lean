/- ref05: the contract of Pieces (tp many). Conditions: a right part that lies in memory, of at most 1000 vertices. -/
import Derived.Test.YtoiflofhcmjpoaaGreatD9Spread
import Derived.Test.YtoiflofhcmjpoaaGreatD9Sortf
import Derived.ProofKit
import Derived.OpenShut
import Derived.ChangeOld
import Derived.Deep.Strs
import Derived.Lib.SmallJoins
open Go.Value renaming slice→Qa,int→Qm,okWide→Qo
open List renaming range→Qb,mem_cons→Qc,mem_cons_of_mem→Qe,length_append→Qf,length_cons→Qh,length_nil→Qk
open Or renaming inl→Qd
open Go.World renaming cells?_some→Qg,cell?_spot→Qi,frozen?→Ql
open Nat renaming zero_le→Qj,zero_add→Qn
-- READS ONLY
namespace Go.Proofs.YtoiflofhcmjpoaaGreat
open Go.RowKit Go.Maps
namespace Plain
end Plain
end Go.Proofs.YtoiflofhcmjpoaaGreat
namespace Go.Proofs.YtoiflofhcmjpoaaGreat
namespace Plain
def g0:Gr:=⟨2,[]⟩
def p0:Pt:=⟨[0,1],[]⟩
def t0:List (List Int):=[[],[]]
def s0:List (List Int):=[[-2,-1]]
def w0:List bn:=[(-2,[]),(-1,[])]
end Plain
end Go.Proofs.YtoiflofhcmjpoaaGreat
namespace Go.Proofs.YtoiflofhcmjpoaaGreat
open Go.RowKit Go.Maps
theorem Plain.yl (n:Nat):Plain.kj (n+1)=Plain.kj n++[(n:Int)]:=by unfold Plain.kj;rw[List.range_succ,List.map_append];rfl
theorem Plain.mN (n:Nat):(Plain.kj n).length=n:=by simp[Plain.kj]
theorem pA.agr {w wa w7:World} {B ob:Nat} {u1 u2 v:Value} {V E m:List Int} (ho:w.heap[ob]?=some (.cells #[u1,u2] 27 (0,0))) (h1:aj w B u1 V) (h2:aj w B u2 E) (iY:∀ j∈aE u1,j ∉ aE u2) (hB:B<=ob) (ca:ag [] w wa) (c7:ag (aE u1) wa w7) (r7:aj w7 B v m) (f7:∀ j∈aE v,j∈aE u1\/wa.heap.size<=j) :
  pA (w7.setCell ⟨ob,0,none⟩ v) B ob m E/\ag (ob :: aE u1) w (w7.setCell ⟨ob,0,none⟩ v):=by
 have nob:∀ {w:World} {u:Value} {q:List Int} {x y:Value},w.heap[ob]?=some (.cells #[x,y] 27 (0,0))->aj w B u q->ob ∉ aE u:=fun hh h e=>by
  grind [bR]
 have Tv:=c7.heap (ca.heap ho (by simp)) (nob ho h1);have aZ:ag [ob] w7 (w7.setCell ⟨ob,0,none⟩ v):=(ag.refl _ w7).setCell (Qd (by simp)) _;have h27:=(h2.aD ca (by simp)).aD c7 (fun b hb e=>iY b e (by rw[h2.aE];exact hb));have keep:∀ {u:Value} {q:List Int},aj w7 B u q->aj (w7.setCell ⟨ob,0,none⟩ v) B u q:=fun h=>h.aD aZ (fun b hb e=>by
  simp at e;subst e;exact nob Tv h (by rw[h.aE];exact hb))
 refine⟨⟨v,u2,heap_setCell_same Tv 0 v,keep r7,keep h27,fun j hj e=>?_,hB⟩,((ca.mono (by simp)).trans (c7.mono (gH:=ob :: aE u1) (fun j hj=>Qd (Qe _ hj))) (fun j hj=>Qd hj)).trans (aZ.mono (gH:=ob :: aE u1) (fun j hj=>Qd (by grind))) (fun j hj=>Qd hj)⟩;rcases f7 j hj with q | q
 ·exact iY j q e
 have:=(h2.low j (by rw[<-h2.aE];exact e)).2;have:=ca.size;omega
theorem pA.aip {w wa w7:World} {B ob:Nat} {u1 u2 v:Value} {V E m:List Int} (ho:w.heap[ob]?=some (.cells #[u1,u2] 27 (0,0))) (h1:aj w B u1 V) (h2:aj w B u2 E) (iY:∀ j∈aE u1,j ∉ aE u2) (hB:B<=ob) (ca:ag [] w wa) (c7:ag (aE u2) wa w7) (r7:aj w7 B v m) (f7:∀ j∈aE v,j∈aE u2\/wa.heap.size<=j) :
  pA (w7.setCell ⟨ob,1,none⟩ v) B ob V m/\ag (ob :: aE u2) w (w7.setCell ⟨ob,1,none⟩ v):=by
 have nob:∀ {w:World} {u:Value} {q:List Int} {x y:Value},w.heap[ob]?=some (.cells #[x,y] 27 (0,0))->aj w B u q->ob ∉ aE u:=fun hh h e=>by
  grind [bR]
 have Tv:=c7.heap (ca.heap ho (by simp)) (nob ho h2);have aZ:ag [ob] w7 (w7.setCell ⟨ob,1,none⟩ v):=(ag.refl _ w7).setCell (Qd (by simp)) _;have h27:=(h1.aD ca (by simp)).aD c7 (fun b hb e=>iY b (by rw[h1.aE];exact hb) e);have keep:∀ {u:Value} {q:List Int},aj w7 B u q->aj (w7.setCell ⟨ob,1,none⟩ v) B u q:=fun h=>h.aD aZ (fun b hb e=>by
  simp at e;subst e;exact nob Tv h (by rw[h.aE];exact hb))
 refine⟨⟨u1,v,heap_setCell_same Tv 1 v,keep h27,keep r7,fun j hj e=>?_,hB⟩,((ca.mono (by simp)).trans (c7.mono (gH:=ob :: aE u2) (fun j hj=>Qd (Qe _ hj))) (fun j hj=>Qd hj)).trans (aZ.mono (gH:=ob :: aE u2) (fun j hj=>Qd (by grind))) (fun j hj=>Qd hj)⟩;rcases f7 j e with q | q
 ·exact iY j hj q
 have:=(h1.low j (by rw[<-h1.aE];exact hj)).2;have:=ca.size;omega
set_option maxRecDepth 100000 in
set_option maxHeartbeats 4000000 in
theorem xW (vg:Value) (g:Plain.Gr) (N:Nat) (w:World) (hN:g.n=(N:Int)) (hNb:N<=100000) (hE:g.e.length<=100000) (hg:dJ w vg g) :
  Calls Tryz.prog 46 #[vg] w fun e w'=>∃ v1 v2,e=.returned (.agg #[v1,v2])/\aj w' w.heap.size v1 (Plain.kj N)/\aj w' w.heap.size v2 (Plain.kj g.e.length)/\ag [] w w':=by
 obtain⟨eo,cap,rfl,-,-,-,-⟩:=hg;rw[hN];have X0:=lh ((cell_of_row _ _ 0 _ _ _ (heap_alloc_new w (.cells #[.int .i64 N,.slice eo g.e.length cap] 24))).trans (show _=some (Qm .i64 N) from rfl));have X1:=lh ((cell_of_row _ _ 1 _ _ _ (heap_alloc_new w (.cells #[.int .i64 N,.slice eo g.e.length cap] 24))).trans (show _=some (Qa eo g.e.length cap) from rfl));have Ch:=lh (heap_alloc_new w (.cells #[.int .i64 N,.slice eo g.e.length cap] 24));have b8:=lh ((ag.refl [] w).alloc (.cells #[.int .i64 N,.slice eo g.e.length cap] 24));obtain⟨fQ,fh,gR⟩:=eZ (w.alloc (.cells #[.int .i64 N,.slice eo g.e.length cap] 24)) #[.slice none 0 0,.slice none 0 0] #[.slice none 0 0,.slice none 0 0] 27 27;have dj:(w.alloc (.cells #[.int .i64 N,.slice eo g.e.length cap] 24)).heap.size=w.heap.size+1:=by simp
 rw[dj] at fQ fh;have UK:=lh fQ;have iO:=lh gR;have HO:=lh (show pA _ (w.heap.size+1) (w.heap.size+1+1) (Plain.kj 0) (Plain.kj 0) from⟨_,_,fh,⟨World.ownsRow_nil _ _ _ _,by simp[Plain.kj],by simp[Plain.kj]⟩,⟨World.ownsRow_nil _ _ _ _,by simp[Plain.kj],by simp[Plain.kj]⟩,by simp[aE,Value.ownBlock],by omega⟩);have wv:=lh dj;clear fQ fh dj gR hN
 go_enter Tryz.func46,Tryz.ntmps46
 go_wp2;generalize (((w.alloc (.cells #[.int .i64 N,.slice eo g.e.length cap] 24)).alloc (.cells #[.slice none 0 0,.slice none 0 0] 27)).alloc (.cells #[.slice none 0 0,.slice none 0 0] 27))=w4 at *;generalize (w.alloc (.cells #[.int .i64 N,.slice eo g.e.length cap] 24))=w1 at *;obtain⟨E,ZD⟩:∃ E,g.e.length=E:=⟨_,rfl⟩;have HEE:=lh ZD;rw[ZD] at hE X1 Ch ⊢;clear ZD
 go_loopw [4] (fun c wr=>∃ k:Nat,k<=N/\c=.int .i64 k/\pA wr (w.heap.size+1) (w.heap.size+1+1) (Plain.kj k) (Plain.kj 0)/\ag [] w1 wr/\wr.heap[w.heap.size+1]?=some (.cells #[.slice none 0 0,.slice none 0 0] 27 (0,0))) (fun c _=>N - (intOf c).toNat)
 case atStart=>exact⟨0,Qj _,rfl,HO.out,iO.out,UK.out⟩
 case round =>
  obtain⟨k,hk,rfl,fg,hc,Kw⟩:=hrel;have HC:=lh hc;have Aw:=lh Kw;have Od:=lh fg;have xg:=hc.cell X0.out (by grind);clear Kw fg;by_cases aL:k<N
  ·obtain⟨u1,u2,ho,fQ,fh,iY,hBo⟩:=Od.out
   obtain⟨ua,uc,rfl⟩:=fQ.shape;simp only[Plain.mN] at ho fQ fh iY;have o0:=(cell_of_row _ _ 0 _ _ _ ho).trans (show _=some (Qa ua k uc) from rfl);have n1:w.heap.size+1+1 ∉ aE (.slice ua k uc):=fun e=>by grind [bR]
   have IK:aU (k:Int):=by grind [aU.mk]
   have N1:=lh n1;have HOO:=lh ho;have H1:=lh fQ;have H2:=lh fh;have TH:=lh iY;have CA:=lh ((ag.refl [] wr).alloc (.cells #[.int .i64 (k:Int)] 3));have pj:=lh (show w.heap.size+1<=(wr.alloc (.cells #[.int .i64 (k:Int)] 3)).heap.size by have:=wv.out;have:=HC.out.size;have:=CA.out.size;omega);have Rf:=lh (fT wr IK);have ki:=lh (show (Plain.kj k).length+[(k:Int)].length<4294967296 by grind [Plain.mN]);clear ho fQ fh iY hBo n1 hc
   go_wp2_with (at_builtin;(refine bT rfl _ _ rfl (B:=w.heap.size+1) (v:=.slice ua k uc) rfl rfl (H1.out.aD CA.out (by simp)) Rf.out pj.out ki.out ?_;intro v7 w7 r7 c7 f7;obtain⟨vo,vc,rfl⟩:=r7.shape;have RJ:=lh (c7.heap (CA.out.heap HOO.out (by simp)) N1.out);have o7:=(cell_of_row _ _ 0 _ _ _ RJ.out).trans (show _=some (Qa ua k uc) from rfl);have z7:w7.frozen? ⟨w.heap.size+1+1,0,none⟩=false:=bJ RJ.out 0;have R7:=lh r7;have C7:=lh c7;have F7:=lh f7;clear r7 c7 f7 o0))
   have uO:=pA.agr HOO.out H1.out H2.out TH.out (by omega) CA.out C7.out R7.out F7.out;simp only[Qf,Qh,Qk,Qn] at uO;have bA:=HC.out.trans uO.2 (fun j hj=>Or.inr (by
    have:=wv.out;rcases Qc.1 hj with rfl | hj
    ·omega
    have:=(H1.out.low j (by grind [uY])).1;omega))
   have Cp:=uO.2.heap Aw.out (by
    intro e;rcases Qc.1 e with e | e
    ·omega
    obtain⟨cs,r,hh⟩:=bR H1.out _ e;rw[Aw.out] at hh;simp at hh)
   exact⟨⟨k+1,by omega,by go_num,by grind [Plain.yl],bA,Cp⟩,by simp[intOf];omega⟩
  have e:N=k:=by omega
  subst e;clear hc;go_wp2;clear xg
  go_loopw [5] (fun c wr=>∃ k:Nat,k<=E/\c=.int .i64 k/\pA wr (w.heap.size+1) (w.heap.size+1+1) (Plain.kj N) (Plain.kj k)/\ag [] w1 wr/\wr.heap[w.heap.size+1]?=some (.cells #[.slice none 0 0,.slice none 0 0] 27 (0,0))) (fun c _=>E - (intOf c).toNat)
  case atStart=>exact⟨0,Qj _,rfl,Od.out,HC.out,Aw.out⟩
  case round =>
   obtain⟨k,hk,rfl,fg,hc,Kw⟩:=hrel;have HC:=lh hc;have Aw:=lh Kw;have Od:=lh fg;have xg:=hc.cell X1.out (by grind);clear Kw fg;by_cases aL:k<E
   ·obtain⟨u1,u2,ho,fQ,fh,iY,hBo⟩:=Od.out
    obtain⟨ua,uc,rfl⟩:=fh.shape;simp only[Plain.mN] at ho fQ fh iY;have o0:=(cell_of_row _ _ 1 _ _ _ ho).trans (show _=some (Qa ua k uc) from rfl);have n1:w.heap.size+1+1 ∉ aE (.slice ua k uc):=fun e=>by grind [bR]
    have IK:aU (k:Int):=by grind [aU.mk]
    have N1:=lh n1;have HOO:=lh ho;have H1:=lh fQ;have H2:=lh fh;have TH:=lh iY;have CA:=lh ((ag.refl [] wr).alloc (.cells #[.int .i64 (k:Int)] 3));have pj:=lh (show w.heap.size+1<=(wr.alloc (.cells #[.int .i64 (k:Int)] 3)).heap.size by have:=wv.out;have:=HC.out.size;have:=CA.out.size;omega);have Rf:=lh (fT wr IK);have ki:=lh (show (Plain.kj k).length+[(k:Int)].length<4294967296 by grind [Plain.mN]);clear ho fQ fh iY hBo n1 hc
    go_wp2_with (at_builtin;(refine bT rfl _ _ rfl (B:=w.heap.size+1) (v:=.slice ua k uc) rfl rfl (H2.out.aD CA.out (by simp)) Rf.out pj.out ki.out ?_;intro v7 w7 r7 c7 f7;obtain⟨vo,vc,rfl⟩:=r7.shape;have RJ:=lh (c7.heap (CA.out.heap HOO.out (by simp)) N1.out);have o7:=(cell_of_row _ _ 1 _ _ _ RJ.out).trans (show _=some (Qa ua k uc) from rfl);have z7:w7.frozen? ⟨w.heap.size+1+1,1,none⟩=false:=bJ RJ.out 1;have R7:=lh r7;have C7:=lh c7;have F7:=lh f7;clear r7 c7 f7 o0))
    have uO:=pA.aip HOO.out H1.out H2.out TH.out (by omega) CA.out C7.out R7.out F7.out;simp only[Qf,Qh,Qk,Qn] at uO;have bA:=HC.out.trans uO.2 (fun j hj=>Or.inr (by
     have:=wv.out;rcases Qc.1 hj with rfl | hj
     ·omega
     have:=(H2.out.low j (by grind [uY])).1;omega))
    have Cp:=uO.2.heap Aw.out (by
     intro e;rcases Qc.1 e with e | e
     ·omega
     obtain⟨cs,r,hh⟩:=bR H2.out _ e;rw[Aw.out] at hh;simp at hh)
    exact⟨⟨k+1,by omega,by go_num,by grind [Plain.yl],bA,Cp⟩,by simp[intOf];omega⟩
   have e:E=k:=by omega
   subst e;obtain⟨u1,u2,ho,fQ,fh,iY,hBo⟩:=Od.out;obtain⟨a1,q1,rfl⟩:=fQ.shape;obtain⟨a2,q2,rfl⟩:=fh.shape;simp only[Plain.mN] at ho fQ fh iY;have o0:=(cell_of_row _ _ 0 _ _ _ ho).trans (show _=some (Qa a1 N q1) from rfl);have o1:=(cell_of_row _ _ 1 _ _ _ ho).trans (show _=some (Qa a2 E q2) from rfl);have r0:=(cell_of_row _ _ 0 _ _ _ Aw.out).trans (show _=some (Qa none 0 0) from rfl);have r1:=(cell_of_row _ _ 1 _ _ _ Aw.out).trans (show _=some (Qa none 0 0) from rfl);have z0:wr.frozen? ⟨w.heap.size+1,0,none⟩=false:=by simp[Ql,Aw.out]
   have z1:wr.frozen? ⟨w.heap.size+1,1,none⟩=false:=by simp[Ql,Aw.out]
   have aZ:ag [w.heap.size+1] wr ((wr.setCell ⟨w.heap.size+1,0,none⟩ (.slice a1 N q1)).setCell ⟨w.heap.size+1,1,none⟩ (.slice a2 E q2)):=by grind [ag.refl,ag.setCell]
   have jw:=heap_setCell_same (heap_setCell_same Aw.out 0 (.slice a1 N q1)) 1 (.slice a2 E q2);have f0:=(cell_of_row _ _ 0 _ _ _ jw).trans (show _=some (Qa a1 N q1) from rfl);have f1:=(cell_of_row _ _ 1 _ _ _ jw).trans (show _=some (Qa a2 E q2) from rfl);have kind:∀ {v:Value} {q:List Int},aj wr (w.heap.size+1) v q->∀ b∈v.ownBlock.toList,b ∉ [w.heap.size+1]:=fun h b hb e=>by
    obtain⟨cs,r,hh⟩:=bR h b (by rw[h.aE];exact hb);simp at e;rw[e,Aw.out] at hh;simp at hh
   have HA:=lh ((fQ.aD aZ (kind fQ)).base (show w.heap.size<=w.heap.size+1 by omega));have HB:=lh ((fh.aD aZ (kind fh)).base (show w.heap.size<=w.heap.size+1 by omega));have qh:=lh (b8.out.t (HC.out.trans aZ (fun j hj=>Or.inr (by rw[wv.out];simp at hj;omega))));have OV:=lh f0;have UR:=lh f1;clear ho fQ fh iY hBo aZ jw f0 f1 kind hc;go_wp2;refine bodyPost_ret (v:=.agg #[.slice a1 N q1,.slice a2 E q2]) (by have h0:=OV.out;have h1:=UR.out;simp[results,Tryz.results46,go_sem,h0,h1]) rfl ?_;exact⟨_,_,rfl,HA.out,by rw[HEE.out];exact HB.out,qh.out⟩
end Go.Proofs.YtoiflofhcmjpoaaGreat
namespace Go.Proofs.YtoiflofhcmjpoaaGreat
namespace Plain
theorem rJ {T:List (List Int)} {b:Nat} (h:∀ i,(T.getD i []).length<=b):∀ k,bU T k<=k*b
 | 0=>by simp[bU]
 | k+1=>by
  have:=rJ h k;have h1:=h k;have e:bU T (k+1)=bU T k+(T.getD k []).length:=rfl;rw[e,Nat.succ_mul];omega
end Plain
end Go.Proofs.YtoiflofhcmjpoaaGreat
namespace Go.Proofs.YtoiflofhcmjpoaaGreat
open Go.ChangeShapes Go.WideShapes Go.ChangeAt Go.RowKit Go.Deep Go.Joins
section
variable {H : Type} {enc : TypeId × Value -> H} {w : World} {base : Nat} {held : Bool}
theorem Cb:Tryz.prog.cellsOf 3=1:=by kernel_rfl
theorem NF:Tryz.prog.cellsOf 25=1:=by kernel_rfl
theorem Jp:Tryz.prog.cellsOf 72=2:=by kernel_rfl
theorem rz {fuel:Nat} {u:Value} {x:DataW H × List MemPlace} (h:DataW.trod enc Tryz.prog w base (fun _=>true) held fuel 25 [u]=some x):∃ l,al w u l/\gV u:=by
 rcases open_ints Tryz.underlying25 Tryz.underlying3 Cb h with ⟨ja,_⟩ | ⟨a,nm,eP,zs,ja,_,hl,hm,hz,_,aK,UL⟩
 ·simp at ja
  subst ja;exact⟨[],al.nil w,none,0,0,rfl,by decide,by decide⟩
 simp at ja;subst ja;have hz':zs.length=eP:=by simpa using hz
 have hlen:(zs.take nm).length=nm:=by simp;omega
 unfold maxLen at hm;refine⟨zs.take nm,⟨some a,eP,by rw[hlen],fun y hy=>UL y (List.mem_of_mem_take hy),by grind,fun bh=>?_⟩,some a,nm,eP,rfl,hl,by omega⟩;obtain⟨b,off,rfl,hc⟩:=ints_at aK (by
  rcases Nat.eq_zero_or_pos zs.length with q | q
  ·rw[List.length_eq_zero_iff.1 q] at bh;simp at bh
  exact q)
 grind
theorem YG {fuel:Nat} {u:Value} {x:DataW H × List MemPlace} (h:DataW.trod enc Tryz.prog w base (fun _=>true) held fuel 48 [u]=some x):∃ ll,cf w u ll:=by
 rcases open_slice Tryz.underlying48 h with ⟨ja,_⟩ | ⟨a,nm,eP,m,n,D,Pl,ja,_,hl,hm,mY,_,hx⟩
 ·simp at ja
  subst ja;exact⟨[],none,0,rfl,by decide,fun i hi=>absurd hi (by simp)⟩
 simp at ja;subst ja;simp only[if_true] at mY;subst mY;have each:∀ i,i<m->∃ l:List Int,∃ u,w.cell? (a.add (i*1))=some u/\al w u l/\gV u:=by
  intro i hi;obtain⟨AM,hc,ht⟩:=hx i hi;rw[NF] at hc;obtain⟨_,hlen,dU⟩:=Qg hc
  match AM,hlen with
  | [c0],_ =>
   obtain⟨l,h1,h2⟩:=rz ht;refine⟨l,c0,?_,h1,h2⟩;have:=dU 0 (by omega);rw[add_add] at this;simpa using this
 obtain⟨f,hf⟩:=choose_lt each;unfold maxLen at hm;refine⟨(Qb nm).map f,some a,m,by simp,by simp;omega,fun i hi=>?_⟩;have hi:i<nm:=by simpa using hi
 obtain⟨u,k0,k1,k2⟩:=hf i (by omega);obtain⟨b,off,spot⟩:=a;have hs:spot=none:=by
  obtain⟨u0,z0,-⟩:=hf 0 (by omega);have:=Qi z0;simpa[Addr.add] using this
 subst hs;refine⟨b,off,u,rfl,?_,k2,by simpa[List.getD,hi] using k1⟩;have:=k0;rw[add_plain] at this;simpa using this
set_option maxRecDepth 100000 in
theorem SK {r:Reach} {b0:Nat} {v:Value} {d:DataW H} {p:List MemPlace} (hv:Qo Tryz.prog w r b0 24 v) (h:DataW.Trod enc Tryz.prog w base (fun _=>true) held 24 v d p):∃ g,dJ w v g:=by
 obtain⟨c0,c1,y0,y1,n,rfl,-,-,h0,h1⟩:=open_agg2 Tryz.underlying24 (by kernel_rfl) (by kernel_rfl) hv h;obtain⟨N,e0,_,w0⟩:=DataW.trod_int Tryz.underlying3 h0;simp at e0;subst e0;rcases open_slice Tryz.underlying22 h1 with ⟨ja,_⟩ | ⟨a,nm,eP,m,n',D,Pl,ja,_,hl,hm,mY,_,hx⟩
 ·simp at ja
  subst ja;exact⟨⟨N,[]⟩,none,0,rfl,w0,Qj _,fun i hi=>absurd hi (by simp),fun i hi=>absurd hi (by simp)⟩
 simp at ja;subst ja;simp only[if_true] at mY;subst mY;have each:∀ i,i<m->∃ y:Int × Int,(aU y.1/\aU y.2)/\w.cell? (a.add (i*2))=some (.int .i64 y.1)/\w.cell? (a.add (i*2+1))=some (.int .i64 y.2):=by
  intro i hi;obtain⟨AM,hc,ht⟩:=hx i hi;rw[Jp] at hc;obtain⟨_,hlen,dU⟩:=Qg hc;obtain⟨y0,y1,n',_,_,k0,k1⟩:=trod_struct2 Tryz.underlying72 ht
  match AM,hlen with
  | [c0,c1],_ =>
   simp only[Cb,List.drop_zero,List.drop_succ_cons,List.take_succ_cons,List.take_zero] at k0 k1;obtain⟨x0,e0,_,q0⟩:=DataW.trod_int Tryz.underlying3 k0;obtain⟨x1,e1,_,q1⟩:=DataW.trod_int Tryz.underlying3 k1;simp at e0 e1;subst e0 e1;refine⟨(x0,x1),⟨q0,q1⟩,?_,?_⟩
   ·have:=dU 0 (by omega);rw[add_add] at this;simpa using this
   have:=dU 1 (by omega);rw[add_add] at this;simpa using this
 obtain⟨f,hf⟩:=choose_lt each;unfold maxLen at hm;have hg:∀ i,i<nm->((Qb nm).map f).getD i (0,0)=f i:=fun i hi=>by simp[List.getD,hi]
 refine⟨⟨N,(Qb nm).map f⟩,some a,m,by simp,w0,by simp;omega,fun i hi=>?_,fun i hi=>?_⟩
 ·have hi:i<nm:=by simpa using hi
  show aU (((Qb nm).map f).getD i (0,0)).1/\aU (((Qb nm).map f).getD i (0,0)).2
  grind
 have hi:i<nm:=by simpa using hi
 obtain⟨_,k0,k1⟩:=hf i (by omega);obtain⟨b,off,spot⟩:=a;have hs:spot=none:=by
  have:=Qi (hf 0 (by omega)).2.1;simpa[Addr.add] using this
 subst hs;refine⟨b,off,rfl,?_,?_⟩
 ·show _=some (Qm .i64 (((Qb nm).map f).getD i (0,0)).1)
  rw[hg i hi,<-add_plain];exact k0
 show _=some (Qm .i64 (((Qb nm).map f).getD i (0,0)).2);rw[hg i hi,Nat.add_assoc,<-add_plain];exact k1
set_option maxRecDepth 100000 in
theorem Ry {r:Reach} {b0:Nat} {v:Value} {d:DataW H} {p:List MemPlace} (hv:Qo Tryz.prog w r b0 27 v) (h:DataW.Trod enc Tryz.prog w base (fun _=>true) held 27 v d p):∃ g,fL w v g:=by
 obtain⟨c0,c1,y0,y1,n,rfl,-,-,h0,h1⟩:=open_agg2 Tryz.underlying27 (by kernel_rfl) (by kernel_rfl) hv h;obtain⟨l0,k0,-⟩:=rz h0;obtain⟨l1,k1,-⟩:=rz h1;exact⟨⟨l0,l1⟩,c0,c1,rfl,k0,k1⟩
end
end Go.Proofs.YtoiflofhcmjpoaaGreat
namespace Go.Proofs.YtoiflofhcmjpoaaGreat
open Go.RowKit Go.Maps
end Go.Proofs.YtoiflofhcmjpoaaGreat
