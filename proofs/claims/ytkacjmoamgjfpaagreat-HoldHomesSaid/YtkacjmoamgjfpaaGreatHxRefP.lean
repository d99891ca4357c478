/- ref05: the contract of Pieces (how many). Conditions: a right part that lies in memory, of at most 1000 vertices. -/
import Derived.Test.YtkacjmoamgjfpaaGreatHxSpread
import Derived.Test.YtkacjmoamgjfpaaGreatHxSortf
import Derived.ProofKit
import Derived.OpenShut
import Derived.ChangeOld
import Derived.Deep.Strs
import Derived.Lib.SmallJoins
namespace Go.Proofs.YtkacjmoamgjfpaaGreat
open Go.RowKit Go.Maps
namespace Plain
end Plain
end Go.Proofs.YtkacjmoamgjfpaaGreat
namespace Go.Proofs.YtkacjmoamgjfpaaGreat
namespace Plain
def g0:Gr:=⟨2,[]⟩
def p0:Pt:=⟨[0,1],[]⟩
def t0:List (List Int):=[[],[]]
def s0:List (List Int):=[[-2,-1]]
def w0:List Face:=[(-2,[]),(-1,[])]
end Plain
end Go.Proofs.YtkacjmoamgjfpaaGreat
namespace Go.Proofs.YtkacjmoamgjfpaaGreat
open Go.RowKit Go.Maps
theorem Plain.upTo_succ (n:Nat):Plain.upTo (n+1)=Plain.upTo n++[(n:Int)]:=by unfold Plain.upTo;rw[List.range_succ,List.map_append];rfl
theorem Plain.upTo_len (n:Nat):(Plain.upTo n).length=n:=by simp[Plain.upTo]
theorem OutAt.put0 {w wa w7:World} {B ob:Nat} {u1 u2 v:Value} {V E m:List Int} (ho:w.heap[ob]?=some (.cells #[u1,u2] 29 (0,0))) (h1:RowAt w B u1 V) (h2:RowAt w B u2 E) (hap:∀ j∈foot u1,j ∉ foot u2) (hB:B≤ob) (ca:Chg [] w wa) (c7:Chg (foot u1) wa w7) (r7:RowAt w7 B v m) (f7:∀ j∈foot v,j∈foot u1∨wa.heap.size≤j) :
  OutAt (w7.setCell ⟨ob,0,none⟩ v) B ob m E∧Chg (ob :: foot u1) w (w7.setCell ⟨ob,0,none⟩ v):=by
 have nob:∀ {w:World} {u:Value} {q:List Int} {x y:Value},w.heap[ob]?=some (.cells #[x,y] 29 (0,0))→RowAt w B u q→ob ∉ foot u:=fun hh h e=>by
  obtain⟨cs,r,h'⟩:=row_kind h _ e
  rw[hh] at h';simp at h'
 have ho7:=c7.heap (ca.heap ho (by simp)) (nob ho h1)
 have hset:Chg [ob] w7 (w7.setCell ⟨ob,0,none⟩ v):=(Chg.refl _ w7).setCell (Or.inl (by simp)) _
 have h27:=(h2.chg ca (by simp)).chg c7 (fun b hb e=>hap b e (by rw[h2.foot];exact hb))
 have keep:∀ {u:Value} {q:List Int},RowAt w7 B u q→RowAt (w7.setCell ⟨ob,0,none⟩ v) B u q:=fun h=>h.chg hset (fun b hb e=>by
  simp at e;subst e
  exact nob ho7 h (by rw[h.foot];exact hb))
 refine⟨⟨v,u2,heap_setCell_same ho7 0 v,keep r7,keep h27,fun j hj e=>?_,hB⟩,((ca.mono (by simp)).trans (c7.mono (own':=ob :: foot u1) (fun j hj=>Or.inl (List.mem_cons_of_mem _ hj))) (fun j hj=>Or.inl hj)).trans (hset.mono (own':=ob :: foot u1) (fun j hj=>Or.inl (by simp at hj;simp[hj]))) (fun j hj=>Or.inl hj)⟩
 rcases f7 j hj with q | q
 ·exact hap j q e
 have:=(h2.low j (by rw[←h2.foot];exact e)).2
 have:=ca.size
 omega
theorem OutAt.put1 {w wa w7:World} {B ob:Nat} {u1 u2 v:Value} {V E m:List Int} (ho:w.heap[ob]?=some (.cells #[u1,u2] 29 (0,0))) (h1:RowAt w B u1 V) (h2:RowAt w B u2 E) (hap:∀ j∈foot u1,j ∉ foot u2) (hB:B≤ob) (ca:Chg [] w wa) (c7:Chg (foot u2) wa w7) (r7:RowAt w7 B v m) (f7:∀ j∈foot v,j∈foot u2∨wa.heap.size≤j) :
  OutAt (w7.setCell ⟨ob,1,none⟩ v) B ob V m∧Chg (ob :: foot u2) w (w7.setCell ⟨ob,1,none⟩ v):=by
 have nob:∀ {w:World} {u:Value} {q:List Int} {x y:Value},w.heap[ob]?=some (.cells #[x,y] 29 (0,0))→RowAt w B u q→ob ∉ foot u:=fun hh h e=>by
  obtain⟨cs,r,h'⟩:=row_kind h _ e
  rw[hh] at h';simp at h'
 have ho7:=c7.heap (ca.heap ho (by simp)) (nob ho h2)
 have hset:Chg [ob] w7 (w7.setCell ⟨ob,1,none⟩ v):=(Chg.refl _ w7).setCell (Or.inl (by simp)) _
 have h27:=(h1.chg ca (by simp)).chg c7 (fun b hb e=>hap b (by rw[h1.foot];exact hb) e)
 have keep:∀ {u:Value} {q:List Int},RowAt w7 B u q→RowAt (w7.setCell ⟨ob,1,none⟩ v) B u q:=fun h=>h.chg hset (fun b hb e=>by
  simp at e;subst e
  exact nob ho7 h (by rw[h.foot];exact hb))
 refine⟨⟨u1,v,heap_setCell_same ho7 1 v,keep h27,keep r7,fun j hj e=>?_,hB⟩,((ca.mono (by simp)).trans (c7.mono (own':=ob :: foot u2) (fun j hj=>Or.inl (List.mem_cons_of_mem _ hj))) (fun j hj=>Or.inl hj)).trans (hset.mono (own':=ob :: foot u2) (fun j hj=>Or.inl (by simp at hj;simp[hj]))) (fun j hj=>Or.inl hj)⟩
 rcases f7 j e with q | q
 ·exact hap j hj q
 have:=(h1.low j (by rw[←h1.foot];exact hj)).2
 have:=ca.size
 omega
set_option maxRecDepth 100000 in
set_option maxHeartbeats 4000000 in
theorem whole_any (vg:Value) (g:Plain.Gr) (N:Nat) (w:World) (hN:g.n=(N:Int)) (hNb:N≤100000) (hE:g.e.length≤100000) (hg:GrAt w vg g) :
  Calls Tryz.prog 55 #[vg] w fun e w'=>∃ v1 v2,e=.returned (.agg #[v1,v2])∧RowAt w' w.heap.size v1 (Plain.upTo N)∧RowAt w' w.heap.size v2 (Plain.upTo g.e.length)∧Chg [] w w':=by
 obtain⟨eo,cap,rfl,-,-,-,-⟩:=hg
 rw[hN]
 have X0:=lh ((cell_of_row _ _ 0 _ _ _ (heap_alloc_new w (.cells #[.int .i64 N,.slice eo g.e.length cap] 24))).trans (show _=some (Value.int .i64 N) from rfl))
 have X1:=lh ((cell_of_row _ _ 1 _ _ _ (heap_alloc_new w (.cells #[.int .i64 N,.slice eo g.e.length cap] 24))).trans (show _=some (Value.slice eo g.e.length cap) from rfl))
 have HGB:=lh (heap_alloc_new w (.cells #[.int .i64 N,.slice eo g.e.length cap] 24))
 have HC1:=lh ((Chg.refl [] w).alloc (.cells #[.int .i64 N,.slice eo g.e.length cap] 24))
 obtain⟨hr1,hr2,hc4⟩:=box_two (w.alloc (.cells #[.int .i64 N,.slice eo g.e.length cap] 24)) #[.slice none 0 0,.slice none 0 0] #[.slice none 0 0,.slice none 0 0] 29 29
 have hsz:(w.alloc (.cells #[.int .i64 N,.slice eo g.e.length cap] 24)).heap.size=w.heap.size+1:=by simp
 rw[hsz] at hr1 hr2
 have HR1:=lh hr1
 have HC4:=lh hc4
 have HO:=lh (show OutAt _ (w.heap.size+1) (w.heap.size+1+1) (Plain.upTo 0) (Plain.upTo 0) from⟨_,_,hr2,⟨World.ownsRow_nil _ _ _ _,by simp[Plain.upTo],by simp[Plain.upTo]⟩,⟨World.ownsRow_nil _ _ _ _,by simp[Plain.upTo],by simp[Plain.upTo]⟩,by simp[foot,Value.ownBlock],by omega⟩)
 have HW1:=lh hsz
 clear hr1 hr2 hsz hc4 hN
 go_enter Tryz.func55,Tryz.ntmps55
 go_wp2
 generalize (((w.alloc (.cells #[.int .i64 N,.slice eo g.e.length cap] 24)).alloc (.cells #[.slice none 0 0,.slice none 0 0] 29)).alloc (.cells #[.slice none 0 0,.slice none 0 0] 29))=w4 at *
 generalize (w.alloc (.cells #[.int .i64 N,.slice eo g.e.length cap] 24))=w1 at *
 obtain⟨E,hEE⟩:∃ E,g.e.length=E:=⟨_,rfl⟩
 have HEE:=lh hEE
 rw[hEE] at hE X1 HGB ⊢
 clear hEE
 go_loopw [4] (fun c wr=>∃ k:Nat,k≤N∧c=.int .i64 k∧OutAt wr (w.heap.size+1) (w.heap.size+1+1) (Plain.upTo k) (Plain.upTo 0)∧Chg [] w1 wr∧wr.heap[w.heap.size+1]?=some (.cells #[.slice none 0 0,.slice none 0 0] 29 (0,0))) (fun c _=>N - (intOf c).toNat)
 case atStart=>exact⟨0,Nat.zero_le _,rfl,HO.out,HC4.out,HR1.out⟩
 case round =>
  obtain⟨k,hk,rfl,hout,hc,hrb⟩:=hrel
  have HC:=lh hc
  have HRB:=lh hrb
  have HOUT:=lh hout
  have xg:=hc.cell X0.out (by have:=HW1.out;simp)
  clear hrb hout
  by_cases hlt:k<N
  ·obtain⟨u1,u2,ho,hr1,hr2,hap,hBo⟩:=HOUT.out
   obtain⟨ua,uc,rfl⟩:=hr1.shape
   simp only[Plain.upTo_len] at ho hr1 hr2 hap
   have o0:=(cell_of_row _ _ 0 _ _ _ ho).trans (show _=some (Value.slice ua k uc) from rfl)
   have n1:w.heap.size+1+1 ∉ foot (.slice ua k uc):=fun e=>by obtain⟨cs,r,hh⟩:=row_kind hr1 _ e;rw[ho] at hh;simp at hh
   have IK:I64 (k:Int):=I64.mk (by omega) (by omega)
   have N1:=lh n1
   have HOO:=lh ho
   have H1:=lh hr1
   have H2:=lh hr2
   have HAP:=lh hap
   have CA:=lh ((Chg.refl [] wr).alloc (.cells #[.int .i64 (k:Int)] 3))
   have HSZ:=lh (show w.heap.size+1≤(wr.alloc (.cells #[.int .i64 (k:Int)] 3)).heap.size by have:=HW1.out;have:=HC.out.size;have:=CA.out.size;omega)
   have HLI:=lh (lit_ints wr IK)
   have HLEN:=lh (show (Plain.upTo k).length+[(k:Int)].length<4294967296 by rw[Plain.upTo_len];simp;omega)
   clear ho hr1 hr2 hap hBo n1 hc
   go_wp2_with (at_builtin;(refine wl_app_read rfl _ _ rfl (B:=w.heap.size+1) (v:=.slice ua k uc) rfl rfl (H1.out.chg CA.out (by simp)) HLI.out HSZ.out HLEN.out ?_;intro v7 w7 r7 c7 f7;obtain⟨vo,vc,rfl⟩:=r7.shape;have HO7:=lh (c7.heap (CA.out.heap HOO.out (by simp)) N1.out);have o7:=(cell_of_row _ _ 0 _ _ _ HO7.out).trans (show _=some (Value.slice ua k uc) from rfl);have z7:w7.frozen? ⟨w.heap.size+1+1,0,none⟩=false:=free_at HO7.out 0;have R7:=lh r7;have C7:=lh c7;have F7:=lh f7;clear r7 c7 f7 o0))
   have hput:=OutAt.put0 HOO.out H1.out H2.out HAP.out (by omega) CA.out C7.out R7.out F7.out
   simp only[List.length_append,List.length_cons,List.length_nil,Nat.zero_add] at hput
   have hc2:=HC.out.trans hput.2 (fun j hj=>Or.inr (by
    have:=HW1.out
    rcases List.mem_cons.1 hj with rfl | hj
    ·omega
    have:=(H1.out.low j (by simpa[foot_slice] using hj)).1;omega))
   have hrb2:=hput.2.heap HRB.out (by
    intro e
    rcases List.mem_cons.1 e with e | e
    ·omega
    obtain⟨cs,r,hh⟩:=row_kind H1.out _ e
    rw[HRB.out] at hh;simp at hh)
   exact⟨⟨k+1,by omega,by go_num,by rw[Plain.upTo_succ];exact hput.1,hc2,hrb2⟩,by simp[intOf];omega⟩
  have e:N=k:=by omega
  subst e
  clear hc
  go_wp2
  clear xg
  go_loopw [5] (fun c wr=>∃ k:Nat,k≤E∧c=.int .i64 k∧OutAt wr (w.heap.size+1) (w.heap.size+1+1) (Plain.upTo N) (Plain.upTo k)∧Chg [] w1 wr∧wr.heap[w.heap.size+1]?=some (.cells #[.slice none 0 0,.slice none 0 0] 29 (0,0))) (fun c _=>E - (intOf c).toNat)
  case atStart=>exact⟨0,Nat.zero_le _,rfl,HOUT.out,HC.out,HRB.out⟩
  case round =>
   obtain⟨k,hk,rfl,hout,hc,hrb⟩:=hrel
   have HC:=lh hc
   have HRB:=lh hrb
   have HOUT:=lh hout
   have xg:=hc.cell X1.out (by have:=HW1.out;simp)
   clear hrb hout
   by_cases hlt:k<E
   ·obtain⟨u1,u2,ho,hr1,hr2,hap,hBo⟩:=HOUT.out
    obtain⟨ua,uc,rfl⟩:=hr2.shape
    simp only[Plain.upTo_len] at ho hr1 hr2 hap
    have o0:=(cell_of_row _ _ 1 _ _ _ ho).trans (show _=some (Value.slice ua k uc) from rfl)
    have n1:w.heap.size+1+1 ∉ foot (.slice ua k uc):=fun e=>by obtain⟨cs,r,hh⟩:=row_kind hr2 _ e;rw[ho] at hh;simp at hh
    have IK:I64 (k:Int):=I64.mk (by omega) (by omega)
    have N1:=lh n1
    have HOO:=lh ho
    have H1:=lh hr1
    have H2:=lh hr2
    have HAP:=lh hap
    have CA:=lh ((Chg.refl [] wr).alloc (.cells #[.int .i64 (k:Int)] 3))
    have HSZ:=lh (show w.heap.size+1≤(wr.alloc (.cells #[.int .i64 (k:Int)] 3)).heap.size by have:=HW1.out;have:=HC.out.size;have:=CA.out.size;omega)
    have HLI:=lh (lit_ints wr IK)
    have HLEN:=lh (show (Plain.upTo k).length+[(k:Int)].length<4294967296 by rw[Plain.upTo_len];simp;omega)
    clear ho hr1 hr2 hap hBo n1 hc
    go_wp2_with (at_builtin;(refine wl_app_read rfl _ _ rfl (B:=w.heap.size+1) (v:=.slice ua k uc) rfl rfl (H2.out.chg CA.out (by simp)) HLI.out HSZ.out HLEN.out ?_;intro v7 w7 r7 c7 f7;obtain⟨vo,vc,rfl⟩:=r7.shape;have HO7:=lh (c7.heap (CA.out.heap HOO.out (by simp)) N1.out);have o7:=(cell_of_row _ _ 1 _ _ _ HO7.out).trans (show _=some (Value.slice ua k uc) from rfl);have z7:w7.frozen? ⟨w.heap.size+1+1,1,none⟩=false:=free_at HO7.out 1;have R7:=lh r7;have C7:=lh c7;have F7:=lh f7;clear r7 c7 f7 o0))
    have hput:=OutAt.put1 HOO.out H1.out H2.out HAP.out (by omega) CA.out C7.out R7.out F7.out
    simp only[List.length_append,List.length_cons,List.length_nil,Nat.zero_add] at hput
    have hc2:=HC.out.trans hput.2 (fun j hj=>Or.inr (by
     have:=HW1.out
     rcases List.mem_cons.1 hj with rfl | hj
     ·omega
     have:=(H2.out.low j (by simpa[foot_slice] using hj)).1;omega))
    have hrb2:=hput.2.heap HRB.out (by
     intro e
     rcases List.mem_cons.1 e with e | e
     ·omega
     obtain⟨cs,r,hh⟩:=row_kind H2.out _ e
     rw[HRB.out] at hh;simp at hh)
    exact⟨⟨k+1,by omega,by go_num,by rw[Plain.upTo_succ];exact hput.1,hc2,hrb2⟩,by simp[intOf];omega⟩
   have e:E=k:=by omega
   subst e
   obtain⟨u1,u2,ho,hr1,hr2,hap,hBo⟩:=HOUT.out
   obtain⟨a1,q1,rfl⟩:=hr1.shape
   obtain⟨a2,q2,rfl⟩:=hr2.shape
   simp only[Plain.upTo_len] at ho hr1 hr2 hap
   have o0:=(cell_of_row _ _ 0 _ _ _ ho).trans (show _=some (Value.slice a1 N q1) from rfl)
   have o1:=(cell_of_row _ _ 1 _ _ _ ho).trans (show _=some (Value.slice a2 E q2) from rfl)
   have r0:=(cell_of_row _ _ 0 _ _ _ HRB.out).trans (show _=some (Value.slice none 0 0) from rfl)
   have r1:=(cell_of_row _ _ 1 _ _ _ HRB.out).trans (show _=some (Value.slice none 0 0) from rfl)
   have z0:wr.frozen? ⟨w.heap.size+1,0,none⟩=false:=by simp[World.frozen?,HRB.out]
   have z1:wr.frozen? ⟨w.heap.size+1,1,none⟩=false:=by simp[World.frozen?,HRB.out]
   have hset:Chg [w.heap.size+1] wr ((wr.setCell ⟨w.heap.size+1,0,none⟩ (.slice a1 N q1)).setCell ⟨w.heap.size+1,1,none⟩ (.slice a2 E q2)):=((Chg.refl _ wr).setCell (Or.inl (by simp)) _).setCell (Or.inl (by simp)) _
   have hheap:=heap_setCell_same (heap_setCell_same HRB.out 0 (.slice a1 N q1)) 1 (.slice a2 E q2)
   have f0:=(cell_of_row _ _ 0 _ _ _ hheap).trans (show _=some (Value.slice a1 N q1) from rfl)
   have f1:=(cell_of_row _ _ 1 _ _ _ hheap).trans (show _=some (Value.slice a2 E q2) from rfl)
   have kind:∀ {v:Value} {q:List Int},RowAt wr (w.heap.size+1) v q→∀ b∈v.ownBlock.toList,b ∉ [w.heap.size+1]:=fun h b hb e=>by
    obtain⟨cs,r,hh⟩:=row_kind h b (by rw[h.foot];exact hb)
    simp at e
    rw[e,HRB.out] at hh
    simp at hh
   have HA:=lh ((hr1.chg hset (kind hr1)).base (show w.heap.size≤w.heap.size+1 by omega))
   have HB:=lh ((hr2.chg hset (kind hr2)).base (show w.heap.size≤w.heap.size+1 by omega))
   have HCF:=lh (HC1.out.trans (HC.out.trans hset (fun j hj=>Or.inr (by rw[HW1.out];simp at hj;omega))) (by simp))
   have HF0:=lh f0
   have HF1:=lh f1
   clear ho hr1 hr2 hap hBo hset hheap f0 f1 kind hc
   go_wp2
   refine bodyPost_ret (v:=.agg #[.slice a1 N q1,.slice a2 E q2]) (by have h0:=HF0.out;have h1:=HF1.out;simp[results,Tryz.results55,go_sem,h0,h1]) rfl ?_
   exact⟨_,_,rfl,HA.out,by rw[HEE.out];exact HB.out,HCF.out⟩
end Go.Proofs.YtkacjmoamgjfpaaGreat
namespace Go.Proofs.YtkacjmoamgjfpaaGreat
namespace Plain
theorem filter_split {α:Type} (q:α→Bool):∀ l:List α,(l.filter q).length+(l.filter fun x=>!q x).length=l.length
 | []=>rfl
 | x :: l=>by
  have:=filter_split q l
  by_cases h:q x=true
  ·simp[h];omega
  simp[h];omega
theorem left_over {K M:List Int} (hK:K.Nodup) (hM:M.Nodup) (hs:∀ x∈M,x∈K):(K.filter fun x=>decide (x ∉ M)).length+M.length=K.length:=by
 have h1:=filter_split (fun x=>decide (x∈M)) K
 have e:(K.filter fun x=>decide (x ∉ M))=K.filter fun x=>!decide (x∈M):=List.filter_congr fun x _=>by simp
 have h2:=len_le_of_sub (hK.filter (fun x=>decide (x∈M))) (m:=M) (fun x hx=>by simpa using (List.mem_filter.1 hx).2)
 have h3:=len_le_of_sub hM (m:=K.filter fun x=>decide (x∈M)) (fun x hx=>List.mem_filter.2 ⟨hs x hx,by simpa using hx⟩)
 rw[e]
 omega
theorem singles_count {W:List Face} {M:List Int} (hK:(W.map (·.1)).Nodup) (hM:M.Nodup) (hs:∀ x∈M,x∈W.map (·.1)):(singles W M).length+M.length=W.length:=by
 have h:=left_over hK hM hs
 rw[List.length_map] at h
 have:(singles W M).length=((W.map (·.1)).filter fun x=>decide (x ∉ M)).length:=by
  unfold singles
  rw[List.length_map,List.filter_map,List.length_map]
  rfl
 omega
theorem count_pos {s:St} (hs:s.Ok) (h:0<s.grp.length):0<s.count:=by
 unfold St.count
 rw[List.countP_pos_iff]
 refine⟨0,List.mem_range.2 h,?_⟩
 have:=hs.le 0 h
 unfold St.hd at this
 simp
 simp at this
 omega
theorem all_le {n b:Nat} {f:Nat→Nat} (h:((List.range n).all fun i=>decide (f i≤b))=true):∀ i,i<n→f i≤b:=fun i hi=>by
 have:=List.all_eq_true.1 h i (List.mem_range.2 hi)
 exact of_decide_eq_true this
theorem getD_le {T:List (List Int)} {b:Nat} (h:∀ i,i<T.length→(T.getD i []).length≤b):∀ i,(T.getD i []).length≤b:=fun i=>by
 by_cases hi:i<T.length
 ·exact h i hi
 simp[List.getD,Nat.not_lt.1 hi]
theorem sumLen_le {T:List (List Int)} {b:Nat} (h:∀ i,(T.getD i []).length≤b):∀ k,sumLen T k≤k*b
 | 0=>by simp[sumLen]
 | k+1=>by
  have:=sumLen_le h k
  have h1:=h k
  have e:sumLen T (k+1)=sumLen T k+(T.getD k []).length:=rfl
  rw[e,Nat.succ_mul]
  omega
theorem small8_is {g:Gr} {p:Pt} {turn same:List (List Int)} (h:small8 g p turn same=true):p.v.length≤60∧p.e.length≤60∧turn.length≤100∧sumLen turn turn.length≤20000∧same.length≤60∧∀ i,(same.getD i []).length≤60:=by
 unfold small8 small6 small4 at h
 simp only[Bool.and_eq_true] at h
 obtain⟨⟨⟨⟨h4,h5⟩,h6⟩,h7⟩,h8⟩:=h
 have h5:=of_decide_eq_true h5
 have h6:=getD_le (all_le h6)
 have h9:=sumLen_le h6 turn.length
 have:turn.length*200≤100*200:=Nat.mul_le_mul_right _ h5
 exact⟨of_decide_eq_true h4.1.1.2,of_decide_eq_true h4.1.2,h5,by omega,of_decide_eq_true h7,getD_le (all_le h8)⟩
end Plain
end Go.Proofs.YtkacjmoamgjfpaaGreat
namespace Go.Proofs.YtkacjmoamgjfpaaGreat
open Go.ChangeShapes Go.WideShapes Go.ChangeAt Go.RowKit Go.Deep Go.Joins
section
variable {H : Type} {enc : TypeId × Value → H} {w : World} {base : Nat} {held : Bool}
theorem cellsInt:Tryz.prog.cellsOf 3=1:=by kernel_rfl
theorem cellsRow:Tryz.prog.cellsOf 27=1:=by kernel_rfl
theorem cellsEdge:Tryz.prog.cellsOf 82=2:=by kernel_rfl
theorem ints_open {fuel:Nat} {u:Value} {x:DataW H × List MemPlace} (h:DataW.trod enc Tryz.prog w base (fun _=>true) held fuel 27 [u]=some x):∃ l,IntsAt w u l∧CapOk u:=by
 rcases open_ints Tryz.underlying27 Tryz.underlying3 cellsInt h with ⟨hcs,_⟩ | ⟨a,len',cap',zs,hcs,_,hl,hm,hz,_,hcell,hwz⟩
 ·simp at hcs
  subst hcs
  exact⟨[],IntsAt.nil w,none,0,0,rfl,by decide,by decide⟩
 simp at hcs
 subst hcs
 have hz':zs.length=cap':=by simpa using hz
 have hlen:(zs.take len').length=len':=by simp;omega
 unfold maxLen at hm
 refine⟨zs.take len',⟨some a,cap',by rw[hlen],fun y hy=>hwz y (List.mem_of_mem_take hy),by rw[hlen];omega,fun hne=>?_⟩,some a,len',cap',rfl,hl,by omega⟩
 obtain⟨b,off,rfl,hc⟩:=ints_at hcell (by
  rcases Nat.eq_zero_or_pos zs.length with q | q
  ·rw[List.length_eq_zero_iff.1 q] at hne;simp at hne
  exact q)
 refine⟨b,off,rfl,fun i hi=>?_⟩
 rw[hlen] at hi
 rw[hc i (by omega)]
 simp[List.getD,hi]
theorem rows_open {fuel:Nat} {u:Value} {x:DataW H × List MemPlace} (h:DataW.trod enc Tryz.prog w base (fun _=>true) held fuel 30 [u]=some x):∃ ll,RowsAt w u ll:=by
 rcases open_slice Tryz.underlying30 h with ⟨hcs,_⟩ | ⟨a,len',cap',m,n,D,Pl,hcs,_,hl,hm,hmm,_,hx⟩
 ·simp at hcs
  subst hcs
  exact⟨[],none,0,rfl,by decide,fun i hi=>absurd hi (by simp)⟩
 simp at hcs
 subst hcs
 simp only[if_true] at hmm
 subst hmm
 have each:∀ i,i<m→∃ l:List Int,∃ u,w.cell? (a.add (i*1))=some u∧IntsAt w u l∧CapOk u:=by
  intro i hi
  obtain⟨cs',hc,ht⟩:=hx i hi
  rw[cellsRow] at hc
  obtain⟨_,hlen,hat⟩:=World.cells?_some hc
  match cs',hlen with
  | [c0],_ =>
   obtain⟨l,h1,h2⟩:=ints_open ht
   refine⟨l,c0,?_,h1,h2⟩
   have:=hat 0 (by omega);rw[add_add] at this;simpa using this
 obtain⟨f,hf⟩:=choose_lt each
 unfold maxLen at hm
 refine⟨(List.range len').map f,some a,m,by simp,by simp;omega,fun i hi=>?_⟩
 have hi:i<len':=by simpa using hi
 obtain⟨u,k0,k1,k2⟩:=hf i (by omega)
 obtain⟨b,off,spot⟩:=a
 have hs:spot=none:=by
  obtain⟨u0,z0,-⟩:=hf 0 (by omega)
  have:=World.cell?_spot z0
  simpa[Addr.add] using this
 subst hs
 refine⟨b,off,u,rfl,?_,k2,by simpa[List.getD,hi] using k1⟩
 have:=k0
 rw[add_plain] at this
 simpa using this
end
end Go.Proofs.YtkacjmoamgjfpaaGreat
namespace Go.Proofs.YtkacjmoamgjfpaaGreat
open Go.RowKit Go.Maps
end Go.Proofs.YtkacjmoamgjfpaaGreat
