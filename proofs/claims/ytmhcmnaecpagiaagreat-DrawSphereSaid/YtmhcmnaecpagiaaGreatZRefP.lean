/- ref05: the contract of Pieces (how many). Conditions: a right part that lies in memory, of at most 1000 vertices. -/
import Derived.Test.YtmhcmnaecpagiaaGreatZSpread
import Derived.Test.YtmhcmnaecpagiaaGreatZGenus
import Derived.ProofKit
import Derived.OpenShut
import Derived.ChangeOld
import Derived.Deep.Strs
import Derived.Lib.SmallJoins
namespace Go.Proofs.YtmhcmnaecpagiaaGreat
open Go.RowKit Go.Maps
namespace Plain
def Gone (g:Gr) (p:Pt) (k:Nat) (A:List Int):Prop:=∀ u,u∈A↔∃ r∈rootsTo g p k,Come g p (-1) r u
theorem Gone.start (g:Gr) (p:Pt):Gone g p 0 []:=fun u=>by rw[rootsTo_zero];simp
open Classical in
theorem Gone.root {g:Gr} {p:Pt} {k:Nat} {A:List Int} (hp:PartOk g p) (hr:p.v.Pairwise (·<·)) (h:Gone g p k A) (hk:k<p.v.length) (hf:p.v.getD k 0 ∉ A):p.v.getD k 0∈roots g p:=by
 obtain⟨r,hr1,hc⟩:=root_of (g:=g) (fun v hv=>(hp.vr v hv).1) (getD_mem hk);have hle:=(mem_roots.1 hr1).2 _ (getD_mem hk) hc;by_cases e:r=p.v.getD k 0
 ·rw[←e];exact hr1
 exfalso;obtain⟨j,hj,hje⟩:=mem_getD (mem_roots.1 hr1).1;have hjk:j<k:=by
  rcases Nat.lt_or_ge j k with q | q
  ·exact q
  exfalso;rcases Nat.eq_or_lt_of_le q with q | q
  ·subst q;exact e hje.symm
  have:=List.pairwise_iff_getElem.1 hr k j hk hj q;simp[List.getD,hk,hj] at hje hle;omega
 have hm:r∈rootsTo g p k:=by
  unfold rootsTo;refine List.mem_filter.2 ⟨?_,decide_eq_true (mem_roots.1 hr1).2⟩;rw[←hje];have:(p.v.take k)[j]?=some p.v[j]:=by rw[List.getElem?_take,if_pos hjk,List.getElem?_eq_getElem hj]
  have e2:p.v.getD j 0=p.v[j]:=by simp[List.getD,hj]
  rw[e2];exact List.mem_of_getElem? this
 exact hf ((h _).2 ⟨r,hm,hc⟩)
theorem Gone.known {g:Gr} {p:Pt} {k:Nat} {A:List Int} (hp:PartOk g p) (h:Gone g p k A) (hk:k<p.v.length) (hf:p.v.getD k 0∈A):p.v.getD k 0 ∉ roots g p:=by
 intro hr;obtain⟨r,hm,hc⟩:=(h _).1 hf;have hm:=rootsTo_mem hm;have e:=root_one (fun v hv=>(hp.vr v hv).1) hm.1 hr hc .here;have h2:=hm.2;rw[e] at h2;exact new_v hp hk h2
theorem Gone.skip {g:Gr} {p:Pt} {k:Nat} {A:List Int} (hp:PartOk g p) (h:Gone g p k A) (hk:k<p.v.length) (hf:p.v.getD k 0∈A):Gone g p (k+1) A:=by
 unfold Gone;rw[rootsTo_same hk (h.known hp hk hf)];exact h
theorem Gone.add {g:Gr} {p:Pt} {k:Nat} {A M:List Int} (hp:PartOk g p) (hr:p.v.Pairwise (·<·)) (h:Gone g p k A) (hk:k<p.v.length) (hf:p.v.getD k 0 ∉ A) (hM:∀ u,u∈M↔Come g p (-1) (p.v.getD k 0) u):Gone g p (k+1) (A++M):=by
 intro u;rw[rootsTo_snoc hk (h.root hp hr hk hf),List.mem_append,h u,hM u];constructor
 ·rintro (⟨r,h1,h2⟩ | h)
  ·exact⟨r,List.mem_append.2 (Or.inl h1),h2⟩
  exact⟨_,List.mem_append.2 (Or.inr (List.mem_singleton.2 rfl)),h⟩
 rintro ⟨r,h1,h2⟩;rcases List.mem_append.1 h1 with h1 | h1
 ·exact Or.inl ⟨r,h1,h2⟩
 rw[List.mem_singleton.1 h1] at h2;exact Or.inr h2
end Plain
end Go.Proofs.YtmhcmnaecpagiaaGreat
namespace Go.Proofs.YtmhcmnaecpagiaaGreat
namespace Plain
def g0:Gr:=⟨2,[]⟩
def p0:Pt:=⟨[0,1],[]⟩
def t0:List (List Int):=[[],[]]
def s0:List (List Int):=[[-2,-1]]
def w0:List Face:=[(-2,[]),(-1,[])]
end Plain
end Go.Proofs.YtmhcmnaecpagiaaGreat
namespace Go.Proofs.YtmhcmnaecpagiaaGreat
open Go.RowKit Go.Maps
theorem Plain.upTo_succ (n:Nat):Plain.upTo (n+1)=Plain.upTo n++[(n:Int)]:=by unfold Plain.upTo;rw[List.range_succ,List.map_append];rfl
theorem Plain.upTo_len (n:Nat):(Plain.upTo n).length=n:=by simp[Plain.upTo]
theorem OutAt.put0 {w wa w7:World} {B ob:Nat} {u1 u2 v:Value} {V E m:List Int} (ho:w.heap[ob]?=some (.cells #[u1,u2] 27 (0,0))) (h1:RowAt w B u1 V) (h2:RowAt w B u2 E) (hap:∀ j∈foot u1,j ∉ foot u2) (hB:B≤ob) (ca:Chg [] w wa) (c7:Chg (foot u1) wa w7) (r7:RowAt w7 B v m) (f7:∀ j∈foot v,j∈foot u1∨wa.heap.size≤j) :
  OutAt (w7.setCell ⟨ob,0,none⟩ v) B ob m E∧Chg (ob :: foot u1) w (w7.setCell ⟨ob,0,none⟩ v):=by
 have nob:∀ {w:World} {u:Value} {q:List Int} {x y:Value},w.heap[ob]?=some (.cells #[x,y] 27 (0,0))→RowAt w B u q→ob ∉ foot u:=fun hh h e=>by
  obtain⟨cs,r,h'⟩:=row_kind h _ e;rw[hh] at h';simp at h'
 have ho7:=c7.heap (ca.heap ho (by simp)) (nob ho h1);have hset:Chg [ob] w7 (w7.setCell ⟨ob,0,none⟩ v):=(Chg.refl _ w7).setCell (Or.inl (by simp)) _;have h27:=(h2.chg ca (by simp)).chg c7 (fun b hb e=>hap b e (by rw[h2.foot];exact hb));have keep:∀ {u:Value} {q:List Int},RowAt w7 B u q→RowAt (w7.setCell ⟨ob,0,none⟩ v) B u q:=fun h=>h.chg hset (fun b hb e=>by
  simp at e;subst e;exact nob ho7 h (by rw[h.foot];exact hb))
 refine⟨⟨v,u2,heap_setCell_same ho7 0 v,keep r7,keep h27,fun j hj e=>?_,hB⟩,((ca.mono (by simp)).trans (c7.mono (own':=ob :: foot u1) (fun j hj=>Or.inl (List.mem_cons_of_mem _ hj))) (fun j hj=>Or.inl hj)).trans (hset.mono (own':=ob :: foot u1) (fun j hj=>Or.inl (by simp at hj;simp[hj]))) (fun j hj=>Or.inl hj)⟩;rcases f7 j hj with q | q
 ·exact hap j q e
 have:=(h2.low j (by rw[←h2.foot];exact e)).2;have:=ca.size;omega
theorem OutAt.put1 {w wa w7:World} {B ob:Nat} {u1 u2 v:Value} {V E m:List Int} (ho:w.heap[ob]?=some (.cells #[u1,u2] 27 (0,0))) (h1:RowAt w B u1 V) (h2:RowAt w B u2 E) (hap:∀ j∈foot u1,j ∉ foot u2) (hB:B≤ob) (ca:Chg [] w wa) (c7:Chg (foot u2) wa w7) (r7:RowAt w7 B v m) (f7:∀ j∈foot v,j∈foot u2∨wa.heap.size≤j) :
  OutAt (w7.setCell ⟨ob,1,none⟩ v) B ob V m∧Chg (ob :: foot u2) w (w7.setCell ⟨ob,1,none⟩ v):=by
 have nob:∀ {w:World} {u:Value} {q:List Int} {x y:Value},w.heap[ob]?=some (.cells #[x,y] 27 (0,0))→RowAt w B u q→ob ∉ foot u:=fun hh h e=>by
  obtain⟨cs,r,h'⟩:=row_kind h _ e;rw[hh] at h';simp at h'
 have ho7:=c7.heap (ca.heap ho (by simp)) (nob ho h2);have hset:Chg [ob] w7 (w7.setCell ⟨ob,1,none⟩ v):=(Chg.refl _ w7).setCell (Or.inl (by simp)) _;have h27:=(h1.chg ca (by simp)).chg c7 (fun b hb e=>hap b (by rw[h1.foot];exact hb) e);have keep:∀ {u:Value} {q:List Int},RowAt w7 B u q→RowAt (w7.setCell ⟨ob,1,none⟩ v) B u q:=fun h=>h.chg hset (fun b hb e=>by
  simp at e;subst e;exact nob ho7 h (by rw[h.foot];exact hb))
 refine⟨⟨u1,v,heap_setCell_same ho7 1 v,keep h27,keep r7,fun j hj e=>?_,hB⟩,((ca.mono (by simp)).trans (c7.mono (own':=ob :: foot u2) (fun j hj=>Or.inl (List.mem_cons_of_mem _ hj))) (fun j hj=>Or.inl hj)).trans (hset.mono (own':=ob :: foot u2) (fun j hj=>Or.inl (by simp at hj;simp[hj]))) (fun j hj=>Or.inl hj)⟩;rcases f7 j e with q | q
 ·exact hap j hj q
 have:=(h1.low j (by rw[←h1.foot];exact hj)).2;have:=ca.size;omega
set_option maxRecDepth 100000 in
set_option maxHeartbeats 4000000 in
theorem whole_any (vg:Value) (g:Plain.Gr) (N:Nat) (w:World) (hN:g.n=(N:Int)) (hNb:N≤100000) (hE:g.e.length≤100000) (hg:GrAt w vg g) :
  Calls Tryz.prog 41 #[vg] w fun e w'=>∃ v1 v2,e=.returned (.agg #[v1,v2])∧RowAt w' w.heap.size v1 (Plain.upTo N)∧RowAt w' w.heap.size v2 (Plain.upTo g.e.length)∧Chg [] w w':=by
 obtain⟨eo,cap,rfl,-,-,-,-⟩:=hg;rw[hN];have X0:=lh ((cell_of_row _ _ 0 _ _ _ (heap_alloc_new w (.cells #[.int .i64 N,.slice eo g.e.length cap] 24))).trans (show _=some (Value.int .i64 N) from rfl));have X1:=lh ((cell_of_row _ _ 1 _ _ _ (heap_alloc_new w (.cells #[.int .i64 N,.slice eo g.e.length cap] 24))).trans (show _=some (Value.slice eo g.e.length cap) from rfl));have HGB:=lh (heap_alloc_new w (.cells #[.int .i64 N,.slice eo g.e.length cap] 24));have HC1:=lh ((Chg.refl [] w).alloc (.cells #[.int .i64 N,.slice eo g.e.length cap] 24));obtain⟨hr1,hr2,hc4⟩:=box_two (w.alloc (.cells #[.int .i64 N,.slice eo g.e.length cap] 24)) #[.slice none 0 0,.slice none 0 0] #[.slice none 0 0,.slice none 0 0] 27 27;have hsz:(w.alloc (.cells #[.int .i64 N,.slice eo g.e.length cap] 24)).heap.size=w.heap.size+1:=by simp
 rw[hsz] at hr1 hr2;have HR1:=lh hr1;have HC4:=lh hc4;have HO:=lh (show OutAt _ (w.heap.size+1) (w.heap.size+1+1) (Plain.upTo 0) (Plain.upTo 0) from⟨_,_,hr2,⟨World.ownsRow_nil _ _ _ _,by simp[Plain.upTo],by simp[Plain.upTo]⟩,⟨World.ownsRow_nil _ _ _ _,by simp[Plain.upTo],by simp[Plain.upTo]⟩,by simp[foot,Value.ownBlock],by omega⟩);have HW1:=lh hsz;clear hr1 hr2 hsz hc4 hN
 go_enter Tryz.func41,Tryz.ntmps41
 go_wp2;generalize (((w.alloc (.cells #[.int .i64 N,.slice eo g.e.length cap] 24)).alloc (.cells #[.slice none 0 0,.slice none 0 0] 27)).alloc (.cells #[.slice none 0 0,.slice none 0 0] 27))=w4 at *;generalize (w.alloc (.cells #[.int .i64 N,.slice eo g.e.length cap] 24))=w1 at *;obtain⟨E,hEE⟩:∃ E,g.e.length=E:=⟨_,rfl⟩;have HEE:=lh hEE;rw[hEE] at hE X1 HGB ⊢;clear hEE
 go_loopw [4] (fun c wr=>∃ k:Nat,k≤N∧c=.int .i64 k∧OutAt wr (w.heap.size+1) (w.heap.size+1+1) (Plain.upTo k) (Plain.upTo 0)∧Chg [] w1 wr∧wr.heap[w.heap.size+1]?=some (.cells #[.slice none 0 0,.slice none 0 0] 27 (0,0))) (fun c _=>N - (intOf c).toNat)
 case atStart=>exact⟨0,Nat.zero_le _,rfl,HO.out,HC4.out,HR1.out⟩
 case round =>
  obtain⟨k,hk,rfl,hout,hc,hrb⟩:=hrel;have HC:=lh hc;have HRB:=lh hrb;have HOUT:=lh hout;have xg:=hc.cell X0.out (by have:=HW1.out;simp);clear hrb hout;by_cases hlt:k<N
  ·obtain⟨u1,u2,ho,hr1,hr2,hap,hBo⟩:=HOUT.out
   obtain⟨ua,uc,rfl⟩:=hr1.shape;simp only[Plain.upTo_len] at ho hr1 hr2 hap;have o0:=(cell_of_row _ _ 0 _ _ _ ho).trans (show _=some (Value.slice ua k uc) from rfl);have n1:w.heap.size+1+1 ∉ foot (.slice ua k uc):=fun e=>by obtain⟨cs,r,hh⟩:=row_kind hr1 _ e;rw[ho] at hh;simp at hh
   have IK:I64 (k:Int):=I64.mk (by omega) (by omega);have N1:=lh n1;have HOO:=lh ho;have H1:=lh hr1;have H2:=lh hr2;have HAP:=lh hap;have CA:=lh ((Chg.refl [] wr).alloc (.cells #[.int .i64 (k:Int)] 3));have HSZ:=lh (show w.heap.size+1≤(wr.alloc (.cells #[.int .i64 (k:Int)] 3)).heap.size by have:=HW1.out;have:=HC.out.size;have:=CA.out.size;omega);have HLI:=lh (lit_ints wr IK);have HLEN:=lh (show (Plain.upTo k).length+[(k:Int)].length<4294967296 by rw[Plain.upTo_len];simp;omega);clear ho hr1 hr2 hap hBo n1 hc
   go_wp2_with (at_builtin;(refine wl_app_read rfl _ _ rfl (B:=w.heap.size+1) (v:=.slice ua k uc) rfl rfl (H1.out.chg CA.out (by simp)) HLI.out HSZ.out HLEN.out ?_;intro v7 w7 r7 c7 f7;obtain⟨vo,vc,rfl⟩:=r7.shape;have HO7:=lh (c7.heap (CA.out.heap HOO.out (by simp)) N1.out);have o7:=(cell_of_row _ _ 0 _ _ _ HO7.out).trans (show _=some (Value.slice ua k uc) from rfl);have z7:w7.frozen? ⟨w.heap.size+1+1,0,none⟩=false:=free_at HO7.out 0;have R7:=lh r7;have C7:=lh c7;have F7:=lh f7;clear r7 c7 f7 o0))
   have hput:=OutAt.put0 HOO.out H1.out H2.out HAP.out (by omega) CA.out C7.out R7.out F7.out;simp only[List.length_append,List.length_cons,List.length_nil,Nat.zero_add] at hput;have hc2:=HC.out.trans hput.2 (fun j hj=>Or.inr (by
    have:=HW1.out;rcases List.mem_cons.1 hj with rfl | hj
    ·omega
    have:=(H1.out.low j (by simpa[foot_slice] using hj)).1;omega))
   have hrb2:=hput.2.heap HRB.out (by
    intro e;rcases List.mem_cons.1 e with e | e
    ·omega
    obtain⟨cs,r,hh⟩:=row_kind H1.out _ e;rw[HRB.out] at hh;simp at hh)
   exact⟨⟨k+1,by omega,by go_num,by rw[Plain.upTo_succ];exact hput.1,hc2,hrb2⟩,by simp[intOf];omega⟩
  have e:N=k:=by omega
  subst e;clear hc;go_wp2;clear xg
  go_loopw [5] (fun c wr=>∃ k:Nat,k≤E∧c=.int .i64 k∧OutAt wr (w.heap.size+1) (w.heap.size+1+1) (Plain.upTo N) (Plain.upTo k)∧Chg [] w1 wr∧wr.heap[w.heap.size+1]?=some (.cells #[.slice none 0 0,.slice none 0 0] 27 (0,0))) (fun c _=>E - (intOf c).toNat)
  case atStart=>exact⟨0,Nat.zero_le _,rfl,HOUT.out,HC.out,HRB.out⟩
  case round =>
   obtain⟨k,hk,rfl,hout,hc,hrb⟩:=hrel;have HC:=lh hc;have HRB:=lh hrb;have HOUT:=lh hout;have xg:=hc.cell X1.out (by have:=HW1.out;simp);clear hrb hout;by_cases hlt:k<E
   ·obtain⟨u1,u2,ho,hr1,hr2,hap,hBo⟩:=HOUT.out
    obtain⟨ua,uc,rfl⟩:=hr2.shape;simp only[Plain.upTo_len] at ho hr1 hr2 hap;have o0:=(cell_of_row _ _ 1 _ _ _ ho).trans (show _=some (Value.slice ua k uc) from rfl);have n1:w.heap.size+1+1 ∉ foot (.slice ua k uc):=fun e=>by obtain⟨cs,r,hh⟩:=row_kind hr2 _ e;rw[ho] at hh;simp at hh
    have IK:I64 (k:Int):=I64.mk (by omega) (by omega);have N1:=lh n1;have HOO:=lh ho;have H1:=lh hr1;have H2:=lh hr2;have HAP:=lh hap;have CA:=lh ((Chg.refl [] wr).alloc (.cells #[.int .i64 (k:Int)] 3));have HSZ:=lh (show w.heap.size+1≤(wr.alloc (.cells #[.int .i64 (k:Int)] 3)).heap.size by have:=HW1.out;have:=HC.out.size;have:=CA.out.size;omega);have HLI:=lh (lit_ints wr IK);have HLEN:=lh (show (Plain.upTo k).length+[(k:Int)].length<4294967296 by rw[Plain.upTo_len];simp;omega);clear ho hr1 hr2 hap hBo n1 hc
    go_wp2_with (at_builtin;(refine wl_app_read rfl _ _ rfl (B:=w.heap.size+1) (v:=.slice ua k uc) rfl rfl (H2.out.chg CA.out (by simp)) HLI.out HSZ.out HLEN.out ?_;intro v7 w7 r7 c7 f7;obtain⟨vo,vc,rfl⟩:=r7.shape;have HO7:=lh (c7.heap (CA.out.heap HOO.out (by simp)) N1.out);have o7:=(cell_of_row _ _ 1 _ _ _ HO7.out).trans (show _=some (Value.slice ua k uc) from rfl);have z7:w7.frozen? ⟨w.heap.size+1+1,1,none⟩=false:=free_at HO7.out 1;have R7:=lh r7;have C7:=lh c7;have F7:=lh f7;clear r7 c7 f7 o0))
    have hput:=OutAt.put1 HOO.out H1.out H2.out HAP.out (by omega) CA.out C7.out R7.out F7.out;simp only[List.length_append,List.length_cons,List.length_nil,Nat.zero_add] at hput;have hc2:=HC.out.trans hput.2 (fun j hj=>Or.inr (by
     have:=HW1.out;rcases List.mem_cons.1 hj with rfl | hj
     ·omega
     have:=(H2.out.low j (by simpa[foot_slice] using hj)).1;omega))
    have hrb2:=hput.2.heap HRB.out (by
     intro e;rcases List.mem_cons.1 e with e | e
     ·omega
     obtain⟨cs,r,hh⟩:=row_kind H2.out _ e;rw[HRB.out] at hh;simp at hh)
    exact⟨⟨k+1,by omega,by go_num,by rw[Plain.upTo_succ];exact hput.1,hc2,hrb2⟩,by simp[intOf];omega⟩
   have e:E=k:=by omega
   subst e;obtain⟨u1,u2,ho,hr1,hr2,hap,hBo⟩:=HOUT.out;obtain⟨a1,q1,rfl⟩:=hr1.shape;obtain⟨a2,q2,rfl⟩:=hr2.shape;simp only[Plain.upTo_len] at ho hr1 hr2 hap;have o0:=(cell_of_row _ _ 0 _ _ _ ho).trans (show _=some (Value.slice a1 N q1) from rfl);have o1:=(cell_of_row _ _ 1 _ _ _ ho).trans (show _=some (Value.slice a2 E q2) from rfl);have r0:=(cell_of_row _ _ 0 _ _ _ HRB.out).trans (show _=some (Value.slice none 0 0) from rfl);have r1:=(cell_of_row _ _ 1 _ _ _ HRB.out).trans (show _=some (Value.slice none 0 0) from rfl);have z0:wr.frozen? ⟨w.heap.size+1,0,none⟩=false:=by simp[World.frozen?,HRB.out]
   have z1:wr.frozen? ⟨w.heap.size+1,1,none⟩=false:=by simp[World.frozen?,HRB.out]
   have hset:Chg [w.heap.size+1] wr ((wr.setCell ⟨w.heap.size+1,0,none⟩ (.slice a1 N q1)).setCell ⟨w.heap.size+1,1,none⟩ (.slice a2 E q2)):=((Chg.refl _ wr).setCell (Or.inl (by simp)) _).setCell (Or.inl (by simp)) _;have hheap:=heap_setCell_same (heap_setCell_same HRB.out 0 (.slice a1 N q1)) 1 (.slice a2 E q2);have f0:=(cell_of_row _ _ 0 _ _ _ hheap).trans (show _=some (Value.slice a1 N q1) from rfl);have f1:=(cell_of_row _ _ 1 _ _ _ hheap).trans (show _=some (Value.slice a2 E q2) from rfl);have kind:∀ {v:Value} {q:List Int},RowAt wr (w.heap.size+1) v q→∀ b∈v.ownBlock.toList,b ∉ [w.heap.size+1]:=fun h b hb e=>by
    obtain⟨cs,r,hh⟩:=row_kind h b (by rw[h.foot];exact hb);simp at e;rw[e,HRB.out] at hh;simp at hh
   have HA:=lh ((hr1.chg hset (kind hr1)).base (show w.heap.size≤w.heap.size+1 by omega));have HB:=lh ((hr2.chg hset (kind hr2)).base (show w.heap.size≤w.heap.size+1 by omega));have HCF:=lh (HC1.out.t (HC.out.trans hset (fun j hj=>Or.inr (by rw[HW1.out];simp at hj;omega))));have HF0:=lh f0;have HF1:=lh f1;clear ho hr1 hr2 hap hBo hset hheap f0 f1 kind hc;go_wp2;refine bodyPost_ret (v:=.agg #[.slice a1 N q1,.slice a2 E q2]) (by have h0:=HF0.out;have h1:=HF1.out;simp[results,Tryz.results41,go_sem,h0,h1]) rfl ?_;exact⟨_,_,rfl,HA.out,by rw[HEE.out];exact HB.out,HCF.out⟩
end Go.Proofs.YtmhcmnaecpagiaaGreat
namespace Go.Proofs.YtmhcmnaecpagiaaGreat
namespace Plain
end Plain
end Go.Proofs.YtmhcmnaecpagiaaGreat
namespace Go.Proofs.YtmhcmnaecpagiaaGreat
open Go.ChangeShapes Go.WideShapes Go.ChangeAt Go.RowKit Go.Deep Go.Joins
section
variable {H : Type} {enc : TypeId × Value → H} {w : World} {base : Nat} {held : Bool}
theorem cellsInt:Tryz.prog.cellsOf 3=1:=by kernel_rfl
theorem cellsRow:Tryz.prog.cellsOf 25=1:=by kernel_rfl
theorem cellsEdge:Tryz.prog.cellsOf 65=2:=by kernel_rfl
theorem ints_open {fuel:Nat} {u:Value} {x:DataW H × List MemPlace} (h:DataW.trod enc Tryz.prog w base (fun _=>true) held fuel 25 [u]=some x):∃ l,IntsAt w u l∧CapOk u:=by
 rcases open_ints Tryz.underlying25 Tryz.underlying3 cellsInt h with ⟨hcs,_⟩ | ⟨a,len',cap',zs,hcs,_,hl,hm,hz,_,hcell,hwz⟩
 ·simp at hcs
  subst hcs;exact⟨[],IntsAt.nil w,none,0,0,rfl,by decide,by decide⟩
 simp at hcs;subst hcs;have hz':zs.length=cap':=by simpa using hz
 have hlen:(zs.take len').length=len':=by simp;omega
 unfold maxLen at hm;refine⟨zs.take len',⟨some a,cap',by rw[hlen],fun y hy=>hwz y (List.mem_of_mem_take hy),by rw[hlen];omega,fun hne=>?_⟩,some a,len',cap',rfl,hl,by omega⟩;obtain⟨b,off,rfl,hc⟩:=ints_at hcell (by
  rcases Nat.eq_zero_or_pos zs.length with q | q
  ·rw[List.length_eq_zero_iff.1 q] at hne;simp at hne
  exact q)
 refine⟨b,off,rfl,fun i hi=>?_⟩;rw[hlen] at hi;rw[hc i (by omega)];simp[List.getD,hi]
theorem rows_open {fuel:Nat} {u:Value} {x:DataW H × List MemPlace} (h:DataW.trod enc Tryz.prog w base (fun _=>true) held fuel 30 [u]=some x):∃ ll,RowsAt w u ll:=by
 rcases open_slice Tryz.underlying30 h with ⟨hcs,_⟩ | ⟨a,len',cap',m,n,D,Pl,hcs,_,hl,hm,hmm,_,hx⟩
 ·simp at hcs
  subst hcs;exact⟨[],none,0,rfl,by decide,fun i hi=>absurd hi (by simp)⟩
 simp at hcs;subst hcs;simp only[if_true] at hmm;subst hmm;have each:∀ i,i<m→∃ l:List Int,∃ u,w.cell? (a.add (i*1))=some u∧IntsAt w u l∧CapOk u:=by
  intro i hi;obtain⟨cs',hc,ht⟩:=hx i hi;rw[cellsRow] at hc;obtain⟨_,hlen,hat⟩:=World.cells?_some hc
  match cs',hlen with
  | [c0],_ =>
   obtain⟨l,h1,h2⟩:=ints_open ht;refine⟨l,c0,?_,h1,h2⟩;have:=hat 0 (by omega);rw[add_add] at this;simpa using this
 obtain⟨f,hf⟩:=choose_lt each;unfold maxLen at hm;refine⟨(List.range len').map f,some a,m,by simp,by simp;omega,fun i hi=>?_⟩;have hi:i<len':=by simpa using hi
 obtain⟨u,k0,k1,k2⟩:=hf i (by omega);obtain⟨b,off,spot⟩:=a;have hs:spot=none:=by
  obtain⟨u0,z0,-⟩:=hf 0 (by omega);have:=World.cell?_spot z0;simpa[Addr.add] using this
 subst hs;refine⟨b,off,u,rfl,?_,k2,by simpa[List.getD,hi] using k1⟩;have:=k0;rw[add_plain] at this;simpa using this
set_option maxRecDepth 100000 in
theorem gr_open {r:Reach} {b0:Nat} {v:Value} {d:DataW H} {p:List MemPlace} (hv:Value.okWide Tryz.prog w r b0 24 v) (h:DataW.Trod enc Tryz.prog w base (fun _=>true) held 24 v d p):∃ g,GrAt w v g:=by
 obtain⟨c0,c1,y0,y1,n,rfl,-,-,h0,h1⟩:=open_agg2 Tryz.underlying24 (by kernel_rfl) (by kernel_rfl) hv h;obtain⟨N,e0,_,w0⟩:=DataW.trod_int Tryz.underlying3 h0;simp at e0;subst e0;rcases open_slice Tryz.underlying22 h1 with ⟨hcs,_⟩ | ⟨a,len',cap',m,n',D,Pl,hcs,_,hl,hm,hmm,_,hx⟩
 ·simp at hcs
  subst hcs;exact⟨⟨N,[]⟩,none,0,rfl,w0,Nat.zero_le _,fun i hi=>absurd hi (by simp),fun i hi=>absurd hi (by simp)⟩
 simp at hcs;subst hcs;simp only[if_true] at hmm;subst hmm;have each:∀ i,i<m→∃ y:Int × Int,(I64 y.1∧I64 y.2)∧w.cell? (a.add (i*2))=some (.int .i64 y.1)∧w.cell? (a.add (i*2+1))=some (.int .i64 y.2):=by
  intro i hi;obtain⟨cs',hc,ht⟩:=hx i hi;rw[cellsEdge] at hc;obtain⟨_,hlen,hat⟩:=World.cells?_some hc;obtain⟨y0,y1,n',_,_,k0,k1⟩:=trod_struct2 Tryz.underlying65 ht
  match cs',hlen with
  | [c0,c1],_ =>
   simp only[cellsInt,List.drop_zero,List.drop_succ_cons,List.take_succ_cons,List.take_zero] at k0 k1;obtain⟨x0,e0,_,q0⟩:=DataW.trod_int Tryz.underlying3 k0;obtain⟨x1,e1,_,q1⟩:=DataW.trod_int Tryz.underlying3 k1;simp at e0 e1;subst e0 e1;refine⟨(x0,x1),⟨q0,q1⟩,?_,?_⟩
   ·have:=hat 0 (by omega);rw[add_add] at this;simpa using this
   have:=hat 1 (by omega);rw[add_add] at this;simpa using this
 obtain⟨f,hf⟩:=choose_lt each;unfold maxLen at hm;have hg:∀ i,i<len'→((List.range len').map f).getD i (0,0)=f i:=fun i hi=>by simp[List.getD,hi]
 refine⟨⟨N,(List.range len').map f⟩,some a,m,by simp,w0,by simp;omega,fun i hi=>?_,fun i hi=>?_⟩
 ·have hi:i<len':=by simpa using hi
  show I64 (((List.range len').map f).getD i (0,0)).1∧I64 (((List.range len').map f).getD i (0,0)).2;rw[hg i hi];exact (hf i (by omega)).1
 have hi:i<len':=by simpa using hi
 obtain⟨_,k0,k1⟩:=hf i (by omega);obtain⟨b,off,spot⟩:=a;have hs:spot=none:=by
  have:=World.cell?_spot (hf 0 (by omega)).2.1;simpa[Addr.add] using this
 subst hs;refine⟨b,off,rfl,?_,?_⟩
 ·show _=some (Value.int .i64 (((List.range len').map f).getD i (0,0)).1)
  rw[hg i hi,←add_plain];exact k0
 show _=some (Value.int .i64 (((List.range len').map f).getD i (0,0)).2);rw[hg i hi,Nat.add_assoc,←add_plain];exact k1
set_option maxRecDepth 100000 in
theorem pt_open {r:Reach} {b0:Nat} {v:Value} {d:DataW H} {p:List MemPlace} (hv:Value.okWide Tryz.prog w r b0 27 v) (h:DataW.Trod enc Tryz.prog w base (fun _=>true) held 27 v d p):∃ g,PtAt w v g:=by
 obtain⟨c0,c1,y0,y1,n,rfl,-,-,h0,h1⟩:=open_agg2 Tryz.underlying27 (by kernel_rfl) (by kernel_rfl) hv h;obtain⟨l0,k0,-⟩:=ints_open h0;obtain⟨l1,k1,-⟩:=ints_open h1;exact⟨⟨l0,l1⟩,c0,c1,rfl,k0,k1⟩
end
end Go.Proofs.YtmhcmnaecpagiaaGreat
namespace Go.Proofs.YtmhcmnaecpagiaaGreat
open Go.RowKit Go.Maps
set_option maxRecDepth 100000 in
set_option maxHeartbeats 2000000 in
theorem rises_any (v:Value) (l:List Int) (n:Int) (w:World) (h:IntsAt w v l) (hl:l.length<4294967296) :
  Calls Tryz.prog 49 #[v,.int .i64 n] w fun e w'=>e=.returned (.bool (Plain.rises l n))∧Chg [] w w':=by
 obtain⟨ao,cap,rfl,hsm,hm,hcell⟩:=h;have HSM:=lh hsm;have HCE:=lh hcell;clear hsm hcell
 go_enter Tryz.func49,Tryz.ntmps49
 go_wp2
 go_loopw [5] (fun c wr=>∃ k:Nat,k≤l.length∧c=.int .i64 k∧Chg [] w wr∧Hid ((List.range k).all (Plain.risesAt l n)=true)) (fun c _=>l.length - (intOf c).toNat)
 case atStart=>exact⟨0,Nat.zero_le _,rfl,Chg.refl _ _,rfl⟩
 case round =>
  obtain⟨k,hk,rfl,hc,hall⟩:=hrel;have HC:=lh hc;by_cases hlt:k<l.length
  ·obtain⟨b,off,rfl,hfc⟩:=HCE.out (by intro e;rw[e] at hlt;simp at hlt)
   have c0:=hc.c (hfc k hlt);have HF:=lh (fun h=>Plain.all_range_false (p:=Plain.risesAt l n) hlt h);have HS:=lh (Plain.all_range_succ (Plain.risesAt l n) k);obtain⟨z,hz⟩:∃ z,l.getD k 0=z:=⟨_,rfl⟩;obtain⟨y,hy⟩:∃ y,l.getD (k - 1) 0=y:=⟨_,rfl⟩;have HR:=lh (show Plain.risesAt l n k=!(decide (z<0) || decide (n≤z) || (decide (0<k)&&decide (z≤y))) by unfold Plain.risesAt;rw[hz,hy]);rw[hz] at c0;obtain⟨j,hj⟩:∃ j,k - 1=j:=⟨_,rfl⟩;have c1:wr.cell? ⟨b,off+j,none⟩=some (.int .i64 y):=by rw[←hy,hj];exact hc.c (hfc j (by omega))
   have e1:0<k→IntKind.i64.wrap ((k:Int) - 1)=(j:Int):=fun h=>by rw[IntWalk.i64_in _ (by omega)];omega
   have i1:(0:Int)≤(j:Int):=by omega
   have i2:(j:Int)<(l.length:Int):=by omega
   have i7:j<l.length:=by omega
   clear hfc hc hz hy hj;go_wp2;have hS0:(fun w':World=>w'.cell? ⟨b,off+k,none⟩=some (.int .i64 z)∧w'.cell? ⟨b,off+j,none⟩=some (.int .i64 y)) wr.drew:=⟨c0,c1⟩;refine wp_region_way (fun w':World=>w'.cell? ⟨b,off+k,none⟩=some (.int .i64 z)∧w'.cell? ⟨b,off+j,none⟩=some (.int .i64 y)) [0,1,2,3,4,5,6,7,8,9,10,11,12,13,14,15,16,17,18,19,20,21,22,23,24,25,26,27,28] (Way.line [0,1,2,3,4,5,6,7,8,9,10,11,12,13,14,15,16,17,18,19,20,21,22,23,24,25,26,27,28] .done) (by kernel_rfl) (by kernel_rfl) ?_;simp only[Way.line];have HCD:=lh HC.out.drew;by_cases h1:z<0
   ·have b1:decide (z<0)=true:=decide_eq_true h1
    have HE:=lh (show Plain.rises l n=false from HF.out (by rw[HR.out,b1];simp));clear h1 e1
    repeat
     first
      | (refine along_off rfl (by rfl) (by rfl) (fun _ _ _ h=>h) hS0 ?_;simp only[Act.put,Z1,Z2,Z3,Z4,Z5,Z6])
      | (refine along_read (v:=?_) rfl (by rfl) (by rfl) (fun _ _ _ h=>h) hS0 (fun w' hS'=>?_) ?_;rotate_left;(focus ((try dsimp only at hS');go_simp;try with_reducible rfl));simp only[Act.put,Z1,Z2,Z3,Z4,Z5,Z6])
      | (refine along_skip rfl (by rfl) (by rfl) hS0 ?_;simp only[Act.put,Z1,Z2,Z3,Z4,Z5,Z6])
    refine along_done ?_;clear hS0 c0 c1;go_wp2;go_ret;exact⟨ret_bool HE.out.symm,HCD.out⟩
   have b1:decide (z<0)=false:=decide_eq_false h1;by_cases h2:n≤z
   ·have b2:decide (z ≥ n)=true:=decide_eq_true h2
    have HE:=lh (show Plain.rises l n=false from HF.out (by rw[HR.out,decide_eq_true h2];simp));clear h1 h2 e1
    repeat
     first
      | (refine along_off rfl (by rfl) (by rfl) (fun _ _ _ h=>h) hS0 ?_;simp only[Act.put,Z1,Z2,Z3,Z4,Z5,Z6])
      | (refine along_read (v:=?_) rfl (by rfl) (by rfl) (fun _ _ _ h=>h) hS0 (fun w' hS'=>?_) ?_;rotate_left;(focus ((try dsimp only at hS');go_simp;try with_reducible rfl));simp only[Act.put,Z1,Z2,Z3,Z4,Z5,Z6])
      | (refine along_skip rfl (by rfl) (by rfl) hS0 ?_;simp only[Act.put,Z1,Z2,Z3,Z4,Z5,Z6])
    refine along_done ?_;clear hS0 c0 c1;go_wp2;go_ret;exact⟨ret_bool HE.out.symm,HCD.out⟩
   have b2:decide (z ≥ n)=false:=decide_eq_false h2;have b2':decide (n≤z)=false:=decide_eq_false h2;by_cases h0:0<k
   ·have b3:decide ((k:Int) > 0)=true:=decide_eq_true (by omega)
    have e2:=e1 h0;by_cases h3:z≤y
    ·have b4:decide (z≤y)=true:=decide_eq_true h3
     have HE:=lh (show Plain.rises l n=false from HF.out (by rw[HR.out,b4,decide_eq_true h0];simp));clear h1 h2 h3 e1
     repeat
      first
       | (refine along_off rfl (by rfl) (by rfl) (fun _ _ _ h=>h) hS0 ?_;simp only[Act.put,Z1,Z2,Z3,Z4,Z5,Z6])
       | (refine along_read (v:=?_) rfl (by rfl) (by rfl) (fun _ _ _ h=>h) hS0 (fun w' hS'=>?_) ?_;rotate_left;(focus ((try dsimp only at hS');go_simp;try with_reducible rfl));simp only[Act.put,Z1,Z2,Z3,Z4,Z5,Z6])
       | (refine along_skip rfl (by rfl) (by rfl) hS0 ?_;simp only[Act.put,Z1,Z2,Z3,Z4,Z5,Z6])
     refine along_done ?_;clear hS0 c0 c1;go_wp2;go_ret;exact⟨ret_bool HE.out.symm,HCD.out⟩
    have b4:decide (z≤y)=false:=decide_eq_false h3;have HE:=lh (show (List.range (k+1)).all (Plain.risesAt l n)=true by rw[HS.out,HR.out,hall.out,b1,b2',b4];simp);clear h1 h2 h3 e1
    repeat
     first
      | (refine along_off rfl (by rfl) (by rfl) (fun _ _ _ h=>h) hS0 ?_;simp only[Act.put,Z1,Z2,Z3,Z4,Z5,Z6])
      | (refine along_read (v:=?_) rfl (by rfl) (by rfl) (fun _ _ _ h=>h) hS0 (fun w' hS'=>?_) ?_;rotate_left;(focus ((try dsimp only at hS');go_simp;try with_reducible rfl));simp only[Act.put,Z1,Z2,Z3,Z4,Z5,Z6])
      | (refine along_skip rfl (by rfl) (by rfl) hS0 ?_;simp only[Act.put,Z1,Z2,Z3,Z4,Z5,Z6])
    refine along_done ?_;clear hS0 c0 c1;go_wp2
    go_roundw
    case rel=>exact⟨k+1,by omega,by go_num,HCD.out,HE⟩
    case measure=>simp[intOf];omega
   have b3:decide ((k:Int) > 0)=false:=decide_eq_false (by omega);have HE:=lh (show (List.range (k+1)).all (Plain.risesAt l n)=true by rw[HS.out,HR.out,hall.out,b1,b2',decide_eq_false h0];simp);have b5:decide (0<k)=false:=decide_eq_false h0;clear h1 h2 e1
   repeat
    first
     | (refine along_off rfl (by rfl) (by rfl) (fun _ _ _ h=>h) hS0 ?_;simp only[Act.put,Z1,Z2,Z3,Z4,Z5,Z6])
     | (refine along_read (v:=?_) rfl (by rfl) (by rfl) (fun _ _ _ h=>h) hS0 (fun w' hS'=>?_) ?_;rotate_left;(focus ((try dsimp only at hS');go_simp;try with_reducible rfl));simp only[Act.put,Z1,Z2,Z3,Z4,Z5,Z6])
     | (refine along_skip rfl (by rfl) (by rfl) hS0 ?_;simp only[Act.put,Z1,Z2,Z3,Z4,Z5,Z6])
   refine along_done ?_;clear hS0 c0 c1;go_wp2
   go_roundw
   case rel=>exact⟨k+1,by omega,by go_num,HCD.out,HE⟩
   case measure=>simp[intOf];omega
  have e:k=l.length:=by omega
  subst e;have HE:=lh hall.out;clear hc;go_wp2;go_ret;exact⟨ret_bool HE.out.symm,HC.out⟩
end Go.Proofs.YtmhcmnaecpagiaaGreat
