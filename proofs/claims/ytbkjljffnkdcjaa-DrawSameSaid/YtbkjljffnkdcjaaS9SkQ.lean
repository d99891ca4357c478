/- draw's sketch: choose: contract. Conditions: scraps that lie in memory and read so. -/
import Derived.Test.YtbkjljffnkdcjaaS9SkM
namespace Go.Proofs.Ytbkjljffnkdcjaa
open Go.RowKit Go.Maps
namespace Plain
def pick:List Scrap→Option Nat
 | []=>none
 | c :: l=>if c.faces.length=1 then some 0 else (pick l).map (·+1)
def pickAt (R:List Scrap) (j:Nat):Nat:=match pick (R.drop j) with | some k=>j+k | none=>0
def lost (R:List Scrap):Bool:=R.any fun c=>decide (c.faces.length=0)
def choose (R:List Scrap):Option Nat:=if lost R then none else some (pickAt R 0)
theorem drop_get {R:List Scrap} {j:Nat} (hj:j<R.length):R.drop j=R.getD j ⟨[],[],[]⟩ :: R.drop (j+1):=by
 rw[List.drop_eq_getElem_cons hj]
 simp[List.getD,hj]
theorem pickAt_one {R:List Scrap} {j:Nat} (hj:j<R.length) (h:(R.getD j ⟨[],[],[]⟩).faces.length=1):pickAt R j=j:=by
 unfold pickAt
 rw[drop_get hj,pick,if_pos h]
 rfl
theorem pickAt_more {R:List Scrap} {j:Nat} (hj:j<R.length) (h:(R.getD j ⟨[],[],[]⟩).faces.length≠1):pickAt R j=pickAt R (j+1):=by
 unfold pickAt
 rw[drop_get hj,pick,if_neg h]
 cases pick (R.drop (j+1)) with
 | none=>rfl
 | some k=>show j+(k+1)=j+1+k;omega
theorem pickAt_end (R:List Scrap):pickAt R R.length=0:=by
 unfold pickAt
 rw[List.drop_length]
 rfl
theorem lost_hit {R:List Scrap} {j:Nat} (hj:j<R.length) (h:(R.getD j ⟨[],[],[]⟩).faces.length=0):choose R=none:=by
 unfold choose lost
 rw[show R.getD j ⟨[],[],[]⟩=R[j] by simp[List.getD,hj]] at h
 exact if_pos (List.any_eq_true.2 ⟨_,List.getElem_mem hj,decide_eq_true h⟩)
theorem lost_miss {R:List Scrap} (h:∀ j,0≤j→j<R.length→(R.getD j ⟨[],[],[]⟩).faces.length≠0):choose R=some (pickAt R 0):=by
 unfold choose lost
 refine if_neg fun q=>?_
 obtain⟨c,hc,h2⟩:=List.any_eq_true.1 q
 obtain⟨j,hj,rfl⟩:=List.mem_iff_getElem.1 hc
 have:=h j (Nat.zero_le _) hj
 rw[show R.getD j ⟨[],[],[]⟩=R[j] by simp[List.getD,hj]] at this
 exact this (of_decide_eq_true h2)
theorem pick_lt:∀ {L:List Scrap} {k:Nat},pick L=some k→k<L.length
 | [],_,h=>by cases h
 | c :: l,k,h=>by
  rw[pick] at h
  split at h
  ·cases h;simp
  cases hq:pick l with
  | none=>rw[hq] at h;cases h
  | some m =>
   rw[hq] at h
   cases h
   have:=pick_lt hq
   simp only[List.length_cons]
   omega
theorem pickAt_lt {R:List Scrap} (h:0<R.length) (j:Nat):pickAt R j<R.length:=by
 unfold pickAt
 cases hq:pick (R.drop j) with
 | none=>exact h
 | some k =>
  have h1:=pick_lt hq
  rw[List.length_drop] at h1
  show j+k<R.length
  omega
theorem choose_some {R:List Scrap} {i:Nat} (h0:R≠[]) (h:choose R=some i):i<R.length∧(R.getD i ⟨[],[],[]⟩).faces≠[]:=by
 unfold choose at h
 split at h
 ·cases h
 rename_i hn
 cases h
 have hl:pickAt R 0<R.length:=pickAt_lt (List.length_pos_iff.2 h0) 0
 refine⟨hl,fun q=>hn ?_⟩
 exact List.any_eq_true.2 ⟨_,by rw[show R.getD (pickAt R 0) ⟨[],[],[]⟩=R[pickAt R 0] by simp[List.getD,hl]] at q;exact List.getElem_mem hl,decide_eq_true (by rw[show R.getD (pickAt R 0) ⟨[],[],[]⟩=R[pickAt R 0] by simp[List.getD,hl]] at q;rw[q];rfl)⟩
end Plain
theorem scr3_at {R:List Plain.Scrap} {j:Nat} (hj:j<R.length):(scr3 R)[3*j]?=some (.row (R.getD j ⟨[],[],[]⟩).edges)∧(scr3 R)[3*j+1]?=some (.row (R.getD j ⟨[],[],[]⟩).ends)∧(scr3 R)[3*j+2]?=some (.row (R.getD j ⟨[],[],[]⟩).faces):=by
 induction R generalizing j with
 | nil=>simp at hj
 | cons c l ih =>
  have hs:scr3 (c :: l)=.row c.edges :: .row c.ends :: .row c.faces :: scr3 l:=by simp[scr3]
  rw[hs]
  cases j with
  | zero=>exact⟨rfl,rfl,rfl⟩
  | succ j =>
   have h:=ih (j:=j) (by simpa using hj)
   rw[show 3*(j+1)=3*j+1+1+1 by omega]
   exact h
def chooseV (R:List Plain.Scrap):Value:=match Plain.choose R with | some i=>.tuple #[.int .i64 (i:Nat),.bool true] | none=>.tuple #[.int .i64 0,.bool false]
theorem chooseV_some {R:List Plain.Scrap} {i:Nat} (h:Plain.choose R=some i):chooseV R=.tuple #[.int .i64 (i:Nat),.bool true]:=by unfold chooseV;rw[h]
theorem chooseV_none {R:List Plain.Scrap} (h:Plain.choose R=none):chooseV R=.tuple #[.int .i64 0,.bool false]:=by unfold chooseV;rw[h]
set_option maxRecDepth 100000 in
set_option maxHeartbeats 2000000 in
theorem choose_any (sb B:Nat) (rv:Value) (ys:List Value) (R:List Plain.Scrap) (w:World) (hRl:R.length<1000000) (hq:w.cell? ⟨sb,4,none⟩=some rv) (hN:Nest w B 74 3 rv R.length ys (scr3 R)) :
  Calls Try.prog 15 #[.pointer (some ⟨sb,0,none⟩)] w fun e w'=>e=.returned (chooseV R)∧w'=w:=by
 have HQ:=lh hq
 have HN:=lh hN
 obtain⟨ro,rc,rfl⟩:=hN.shape
 clear hN
 go_enter Try.func15,Try.ntmps15
 go_wp2_with fail
 go_loopw [4,5] (fun c4 c5 wr=>∃ j b:Nat,j≤R.length∧b<1000000∧c4=.int .i64 b∧c5=.int .i64 ((j:Int) - 1)∧Hid (b=Plain.pickAt R j)∧Hid (∀ i,j≤i→i<R.length→(R.getD i ⟨[],[],[]⟩).faces.length≠0)∧wr=w) (fun _ c _=>(intOf c+1).toNat)
 case atStart=>exact⟨R.length,0,Nat.le_refl _,by omega,rfl,rfl,lh (Plain.pickAt_end R).symm,lh (by omega),rfl⟩
 case round =>
  obtain⟨j,b,hj,hb,rfl,rfl,HP,HZ,rfl⟩:=hrel
  rcases j with _ | j
  ·have HCH:=lh (Plain.lost_miss HZ.out)
   go_wp2
   refine bodyPost_ret (v:=.tuple #[.int .i64 b,.bool true]) (by simp[results,Try.results15,go_sem]) rfl ?_
   refine⟨?_,rfl⟩
   rw[chooseV_some HCH.out,←HP.out]
  have hjR:j<R.length:=by omega
  have hjj:(j:Int)<(R.length:Int):=by omega
  rw[show ((j+1:Nat):Int) - 1=(j:Int) by omega]
  obtain⟨rb,rc2,erb⟩:=owns_some HN.out.out (by omega)
  simp only[Value.slice.injEq,true_and] at erb
  obtain⟨rfl,rfl⟩:=erb
  have hcell:=HN.out.cell (k:=3*j+2) (by rw[HN.out.cells];omega)
  have hrow:=HN.out.row (scr3_at hjR).2.2
  obtain⟨uo,uc,eu⟩:=hrow.shape
  rw[eu] at hcell
  have hfl:=hrow.2.2
  have hcell2:wr.cell? ⟨rb,j*3+2,none⟩=some (.slice uo (R.getD j ⟨[],[],[]⟩).faces.length uc):=by rw[Nat.mul_comm];exact hcell
  have H0:=lh (fun h=>Plain.lost_hit (R:=R) hjR h)
  have H1:=lh (fun h=>Plain.pickAt_one (R:=R) hjR h)
  have H2:=lh (fun h=>Plain.pickAt_more (R:=R) hjR h)
  have HZ2:=lh (fun (h:(R.getD j ⟨[],[],[]⟩).faces.length≠0) i (h1:j≤i) (h2:i<R.length)=>(show (R.getD i ⟨[],[],[]⟩).faces.length≠0 from by
   by_cases e:i=j
   ·rw[e];exact h
   exact HZ.out i (by omega) h2))
  obtain⟨n,hn⟩:∃ n,(R.getD j ⟨[],[],[]⟩).faces.length=n:=⟨_,rfl⟩
  rw[hn] at hcell2 hfl H0 H1 H2 HZ2
  clear hcell hrow eu hn
  rcases n with _ | _ | n
  ·have HCH:=lh (H0.out rfl)
   go_wp2
   refine bodyPost_ret (v:=.tuple #[.int .i64 0,.bool false]) (by simp[results,Try.results15,go_sem]) rfl ?_
   refine⟨?_,rfl⟩
   rw[chooseV_none HCH.out]
  ·have HCH:=lh (H1.out rfl)
   have HZ3:=lh (HZ2.out (by omega))
   go_wp2
   go_roundw
   case rel=>exact⟨j,j,by omega,by omega,rfl,by go_num,lh HCH.out.symm,HZ3,trivial⟩
   case measure=>simp[intOf]
  have HCH:=lh (H2.out (by omega))
  have HZ3:=lh (HZ2.out (by omega))
  have hn0:((n+1+1:Nat):Int)≠0:=by omega
  have hn1:((n+1+1:Nat):Int)≠1:=by omega
  generalize n+1+1=m at *
  go_wp2
  go_roundw
  case rel=>exact⟨j,b,by omega,hb,rfl,by go_num,lh (by rw[HP.out,HCH.out]),HZ3,trivial⟩
  case measure=>simp[intOf]
namespace Plain
def bfsIn (g:Gr) (shut c:Int):List Int→(Int→Option Int) × List Int→(Int→Option Int) × List Int
 | [],s=>s
 | d :: L,s=>bfsIn g shut c L (if (s.1 (g.head d)).isSome=true∨g.head d=shut then s else (fun y=>if y=g.head d then some (c+1) else s.1 y,s.2++[g.head d]))
def bfsRun (g:Gr) (p:Pt) (shut:Int):Nat→(Int→Option Int)→List Int→(Int→Option Int)
 | 0,f,_=>f
 | _+1,f,[]=>f
 | n+1,f,v :: q=>bfsRun g p shut n (bfsIn g shut ((f v).getD 0) (p.darts.filter fun d=>decide (g.tail d=v)) (f,q)).1 (bfsIn g shut ((f v).getD 0) (p.darts.filter fun d=>decide (g.tail d=v)) (f,q)).2
def reachF (g:Gr) (p:Pt) (shut a:Int):Int→Option Int:=bfsRun g p shut (2*p.v.length+2) (fun y=>if y=a then some 0 else none) [a]
structure Prev (g:Gr) (p:Pt) (a:Int) (f:Int→Option Int):Prop where
 base:f a=some 0
 zero:∀ u c,f u=some c→u≠a→1≤c
 prev:∀ u c,f u=some c→u≠a→∃ d∈p.darts,g.tail d=u∧f (g.head d)=some (c - 1)
 low:∀ u c,f u=some c→0≤c
theorem Prev.start (g:Gr) (p:Pt) (a:Int):Prev g p a (fun y=>if y=a then some 0 else none):=by
 refine⟨by simp,fun u c h hn=>?_,fun u c h hn=>?_,fun u c h=>?_⟩
 ·simp[hn] at h
 ·simp[hn] at h
 by_cases e:u=a
 ·simp[e] at h;omega
 simp[e] at h
theorem Prev.add {g:Gr} {p:Pt} {a v x c d:Int} {f:Int→Option Int} (h:Prev g p a f) (hd:d∈p.darts) (ht:g.tail d=v) (hx:g.head d=x) (hv:f v=some c) (hf:f x=none):Prev g p a (fun y=>if y=x then some (c+1) else f y):=by
 have hax:a≠x:=fun e=>by rw[←e,h.base] at hf;cases hf
 have hvx:v≠x:=fun e=>by rw[←e,hv] at hf;cases hf
 have hc:=h.low v c hv
 have keep:∀ z e,f z=some e→(if z=x then some (c+1) else f z)=some e:=fun z e he=>by
  rw[if_neg (fun q=>by rw[q,hf] at he;cases he)];exact he
 refine⟨keep _ _ h.base,fun u e hu hn=>?_,fun u e hu hn=>?_,fun u e hu=>?_⟩
 ·by_cases q:u=x
  ·simp[q] at hu;omega
  exact h.zero u e (by simpa[q] using hu) hn
 ·by_cases q:u=x
  ·simp[q] at hu
   subst hu
   refine⟨twin d,twin_mem hd,by rw[tail_twin,hx,q],?_⟩
   have h1:g.head (twin d)=v:=by rw[←tail_twin,twin_twin,ht]
   show (if g.head (twin d)=x then some (c+1) else f (g.head (twin d)))=_
   rw[h1,keep v c hv]
   congr 1;omega
  obtain⟨d',h1,h2,h3⟩:=h.prev u e (by simpa[q] using hu) hn
  exact⟨d',h1,h2,keep _ _ h3⟩
 by_cases q:u=x
 ·simp[q] at hu;omega
 exact h.low u e (by simpa[q] using hu)
def BOut (g:Gr) (p:Pt) (shut a:Int) (f:Int→Option Int) (q:List Int) (fuel:Nat):Prop:=bfsRun g p shut fuel f q=reachF g p shut a∧Prev g p a f
def BIn (g:Gr) (p:Pt) (shut a:Int) (f:Int→Option Int) (v:Int) (c:Int) (q L:List Int) (k fuel:Nat):Prop :=
 f v=some c∧bfsRun g p shut (fuel - 1) (bfsIn g shut c (L.drop k) (f,q)).1 (bfsIn g shut c (L.drop k) (f,q)).2=reachF g p shut a∧Prev g p a f
theorem BOut.inner {g:Gr} {p:Pt} {shut a v c:Int} {f:Int→Option Int} {q:List Int} {fuel:Nat} (h:BOut g p shut a f (v :: q) fuel) (hv:f v=some c) (h1:1≤fuel):BIn g p shut a f v c q (p.darts.filter fun d=>decide (g.tail d=v)) 0 fuel:=by
 obtain⟨n,rfl⟩:∃ n,fuel=n+1:=⟨fuel - 1,by omega⟩
 have h2:=h.1
 rw[bfsRun,hv] at h2
 exact⟨hv,h2,h.2⟩
theorem drop_getD {L:List Int} {k:Nat} (hk:k<L.length):L.drop k=L.getD k 0 :: L.drop (k+1):=by
 rw[List.drop_eq_getElem_cons hk]
 simp[List.getD,hk]
theorem BIn.skip {g:Gr} {p:Pt} {shut a v c:Int} {f:Int→Option Int} {q L:List Int} {k fuel:Nat} (h:BIn g p shut a f v c q L k fuel) (hk:k<L.length) (hx:g.head (L.getD k 0)=shut∨f (g.head (L.getD k 0))≠none):BIn g p shut a f v c q L (k+1) fuel:=by
 obtain⟨h1,h2,h3⟩:=h
 rw[drop_getD hk,bfsIn,if_pos (hx.symm.imp (fun r=>Option.isSome_iff_ne_none.2 r) id)] at h2
 exact⟨h1,h2,h3⟩
theorem BIn.add {g:Gr} {p:Pt} {shut a v c x:Int} {f:Int→Option Int} {q L:List Int} {k fuel:Nat} (h:BIn g p shut a f v c q L k fuel) (hk:k<L.length) (hx:g.head (L.getD k 0)=x) (hd:L.getD k 0∈p.darts) (ht:g.tail (L.getD k 0)=v) (hs:x≠shut) (hf:f x=none):BIn g p shut a (fun y=>if y=x then some (c+1) else f y) v c (q++[x]) L (k+1) fuel:=by
 obtain⟨h1,h2,h3⟩:=h
 rw[drop_getD hk,bfsIn,hx,if_neg (by simp[hf,hs])] at h2
 refine⟨?_,h2,h3.add hd ht hx h1 hf⟩
 show (if v=x then some (c+1) else f v)=some c
 rw[if_neg (fun e=>by rw[←e,h1] at hf;cases hf)]
 exact h1
theorem BIn.outer {g:Gr} {p:Pt} {shut a v c:Int} {f:Int→Option Int} {q L:List Int} {fuel:Nat} (h:BIn g p shut a f v c q L L.length fuel):BOut g p shut a f q (fuel - 1):=by
 obtain⟨h1,h2,h3⟩:=h
 rw[List.drop_length] at h2
 exact⟨h2,h3⟩
theorem BOut.last {g:Gr} {p:Pt} {shut a:Int} {f:Int→Option Int} {fuel:Nat} (h:BOut g p shut a f [] fuel):f=reachF g p shut a:=by
 rw[←h.1]
 cases fuel <;> rfl
end Plain
set_option maxRecDepth 100000 in
set_option maxHeartbeats 2000000 in
theorem reach_run (vg:Value) (g:Plain.Gr) (p:Plain.Pt) (mb n:Nat) (a shut:Int) (w:World) (hn:n<1000000) (_hV:p.v.length≤1000000) (hr:p.err g=0) (ha:a∈p.v) (hia:I64 a) (_hs:I64 shut) (hg:GrAt w vg g) (hd:SMap w mb n (fun v=>p.darts.filter fun d=>decide (g.tail d=v))) :
  Calls Try.prog 48 #[vg,.map (some mb),.int .i64 a,.int .i64 shut] w fun e w'=>∃ b m,e=.returned (.map (some b))∧IMap w' b m (Plain.reachF g p shut a)∧(∀ v,Plain.reachF g p shut a v≠none↔Plain.Come g p shut a v)∧Plain.Prev g p a (Plain.reachF g p shut a)∧(∀ v c,Plain.reachF g p shut a v=some c→c≤p.v.length)∧Chg [] w w'∧w.heap.size≤b∧m≤p.v.length:=by
 obtain⟨eo,cap,rfl,hn2,hm,hsm,hcell⟩:=id hg
 have HG:=lh hg
 have HSD:=lh hd
 have hmm:=@run_makeMap Try.prog
 have HM:=lh (IMap.made (w.alloc (.cells #[.int .i64 g.n,.slice eo g.e.length cap] 24)))
 have HC0:=lh ((Chg.refl [] w).alloc (.cells #[.int .i64 g.n,.slice eo g.e.length cap] 24))
 have HGB:=lh (heap_alloc_new w (.cells #[.int .i64 g.n,.slice eo g.e.length cap] 24 (0,0)))
 clear hcell hsm hg hd hn2
 have hsz1:(w.alloc (.cells #[.int .i64 g.n,.slice eo g.e.length cap] 24)).heap.size=w.heap.size+1:=by simp
 rw[hsz1] at HM
 have HSZ1:=lh hsz1
 clear hsz1
 go_enter Try.func48,Try.ntmps48
 go_wp2_with (refine wl_insert rfl _ _ _ rfl HM.out (by unfold maxLen;omega) rfl hia (I64.mk (by omega) (by omega)) rfl rfl ?_;intro w2 hm2 hg2;have HM2:=lh hm2;have HG2:=lh hg2;clear hm2 hg2)
 have HC2:=lh (((HC0.out.alloc (.map #[] 0)).grown HG2.out (row:=some (w.heap.size+1)) (fun k hk=>by cases hk;exact Or.inr (by omega))))
 have HGB2:=lh (show w2.heap[w.heap.size]?=some (.cells #[.int .i64 g.n,.slice eo g.e.length cap] 24 (0,0)) from ((Chg.refl [w.heap.size+1] _).grown HG2.out (row:=some (w.heap.size+1)) (fun k hk=>by cases hk;exact Or.inl (by simp))).heap (((Chg.refl [] _).alloc (.map #[] 0)).heap HGB.out (by simp)) (by simp))
 clear HM HG2 HGB hmm HSZ1
 refine (queue_any w2).mono ?_
 rintro e w3 ⟨rfl,hq3,hc3⟩
 have HQ3:=lh hq3
 have HC3:=lh (HC2.out.trans hc3 (by simp))
 have HM3:=lh (HM2.out.chg hc3 (by simp))
 have HGB3:=lh (hc3.heap HGB2.out (by simp))
 have HH:=lh hc3.size
 have HH0:=lh HC2.out.size
 clear hq3 hc3 HM2 HGB2 HC2 HC0
 generalize hHe:w2.heap.size=H at *
 go_wp2_with fail
 refine (qput_any H H [] a w3 hia HH.out (by simp) HQ3.out).mono ?_
 rintro e w4 ⟨rfl,hq4,own4,ho4,hc4⟩
 have HQ4:=lh hq4
 have HC4:=lh (HC3.out.trans hc4 (fun j hj=>Or.inr (Nat.le_trans HH0.out (ho4 j hj).1)))
 have nm4:w.heap.size+1 ∉ own4:=fun e=>by obtain⟨_,cs,t,r,hh,_⟩:=ho4 _ e;exact HM3.out.ne hh rfl
 have ng4:w.heap.size ∉ own4:=fun e=>by obtain⟨_,cs,t,r,hh,ht⟩:=ho4 _ e;rw[HGB3.out] at hh;simp at hh;obtain⟨_,e2,_⟩:=hh;rcases ht with q | q <;> (rw[←e2] at q;revert q;decide)
 have HM4:=lh (HM3.out.chg hc4 nm4)
 have HGB4:=lh (hc4.heap HGB3.out ng4)
 clear hq4 ho4 hc4 nm4 ng4 HM3 HGB3 HC3 HQ3
 go_wp2_with fail
 refine (qtake_some H H a [] w4 HQ4.out).mono ?_
 rintro e w5 ⟨rfl,hq5,own5,ho5,hc5⟩
 have HQ5:=lh hq5
 have HC5:=lh (HC4.out.trans hc5 (fun j hj=>Or.inr (Nat.le_trans HH0.out (ho5 j hj).1)))
 have nm5:w.heap.size+1 ∉ own5:=fun e=>by obtain⟨_,cs,t,r,hh,_⟩:=ho5 _ e;exact HM4.out.ne hh rfl
 have ng5:w.heap.size ∉ own5:=fun e=>by obtain⟨_,cs,t,r,hh,ht⟩:=ho5 _ e;rw[HGB4.out] at hh;simp at hh;obtain⟨_,e2,_⟩:=hh;rcases ht with q | q <;> (rw[←e2] at q;revert q;decide)
 have HM5:=lh (HM4.out.chg hc5 nm5)
 have HGB5:=lh (hc5.heap HGB4.out ng5)
 clear hq5 ho5 hc5 nm5 ng5 HM4 HGB4 HC4 HQ4
 go_wp2
 have HPK:=lh (Plain.Pt.ok_of_err hr)
 have HVR:=lh (Plain.rises_nodup (Plain.Pt.err_ok hr).2.1)
 have HGE:=lh (Plain.Gr.err_ok (Plain.Pt.err_ok hr).1)
 have HRE:=lh (Plain.Pt.err_ok hr).2.2.1
 have HAV:=lh ha
 have HR5:=lh (RMem.mk (w:=w) (gb:=w.heap.size) (mp:=w.heap.size+1) (H:=H) HQ5.out HC5.out HM5.out HGB5.out)
 have HB5:=lh (show ROut g p shut a (fun y=>if y=a then some 0 else none) (0+1) [a] (2*p.v.length+2) from⟨Plain.Bfs.start HPK.out ha,by simp,fun u hu=>Or.inl (by by_cases e:u=a <;> simp[e] at hu ⊢),by have:=(Plain.Bfs.start (g:=g) (shut:=shut) HPK.out ha).cnt;simp;omega⟩)
 have HMP:=lh (show w.heap.size≤w.heap.size+1 by omega)
 have hsmall:∀ u∈p.v,0≤u∧u<1025:=fun u hu=>by have:=HPK.out.vr u hu;have:=HGE.out.2.1;omega
 have HSMALL:=lh hsmall
 clear hr ha HQ5 HC5 HM5 HGB5 hHe hsmall
 generalize hgb:w.heap.size=gb at *
 generalize hmp:gb+1=mp at *
 have HGB:=lh hgb
 have HFIN:=lh hmp
 clear hgb hmp
 go_loopg [12,13] (2*p.v.length+2) (fun fuel c12 c13 wr=>Hid (fuel≤2*p.v.length+2)∧∃ f m,(∃ v q,c12=.int .i64 v∧c13=.bool true∧RMem w gb mp H #[.int .i64 g.n,.slice eo g.e.length cap] f m q wr∧Hid (ROut g p shut a f m (v :: q) fuel)∧Hid (Plain.BOut g p shut a f (v :: q) fuel))∨(c12=.int .i64 0∧c13=.bool false∧RMem w gb mp H #[.int .i64 g.n,.slice eo g.e.length cap] f m [] wr∧Hid (ROut g p shut a f m [] fuel)∧Hid (Plain.BOut g p shut a f [] fuel)))
 case atStart=>exact⟨lh (Nat.le_refl _),_,_,Or.inl ⟨a,[],rfl,rfl,HR5.out,HB5,lh ⟨rfl,Plain.Prev.start g p a⟩⟩⟩
 case round =>
  obtain⟨hfuel,f,m,⟨v,q,rfl,rfl,hmem,hout,hbo⟩ | ⟨rfl,rfl,hmem,hout,hbo⟩⟩:=hrel
  ·have HMEM:=lh hmem
   have hvin:=hout.out.1.inV v (hout.out.2.1 v (by simp))
   have hvs:=HSMALL.out v hvin
   have hiv:I64 v:=I64.mk (by omega) (by omega)
   have HCH:=lh hmem.chg
   clear hmem hvin
   go_wp2_with (at_lookup;refine wl_sread rfl _ _ rfl HSD.out HCH.out (by omega) rfl hiv rfl ?_;intro vv r0;obtain⟨vo,vc,rfl⟩:=r0.shape;have R0:=lh r0;clear r0)
   have HIN0:=lh (hout.out.inner (p.darts.filter fun d=>decide (g.tail d=v)))
   have HLD:=lh (show ∀ d∈p.darts.filter fun d=>decide (g.tail d=v),d∈p.darts∧g.tail d=v from fun d hd=>by have:=List.mem_filter.1 hd;exact⟨this.1,by simpa using this.2⟩)
   have HEND:=lh (fun (f':Int→Option Int) (m':Nat) (q':List Int) (h:RIn g p shut a f' m' v q' (p.darts.filter fun d=>decide (g.tail d=v)) (p.darts.filter fun d=>decide (g.tail d=v)).length gk)=>RIn.outer HPK.out h)
   obtain⟨c0,hc0⟩:=Option.ne_none_iff_exists'.1 (hout.out.2.1 v (by simp))
   have HBI:=lh (hbo.out.inner hc0 (by have:=hout.out.2.2.2;simp at this;omega))
   clear hout hbo hc0
   generalize (p.darts.filter fun d=>decide (g.tail d=v))=L at *
   have hLL:L.length<4294967296:=R0.out.2.2
   go_loopw [44] (fun c wr=>∃ k:Nat,k≤L.length∧c=.int .i64 k∧∃ f m q,RMem w gb mp H #[.int .i64 g.n,.slice eo g.e.length cap] f m q wr∧Hid (RIn g p shut a f m v q L k gk)∧Hid (Plain.BIn g p shut a f v c0 q L k gk)) (fun c _=>L.length - (intOf c).toNat)
   case atStart=>exact⟨0,Nat.zero_le _,rfl,f,m,q,HMEM.out,HIN0,HBI⟩
   case round =>
    obtain⟨k,hk,rfl,f1,m1,q1,hmem,hin,hbi⟩:=hrel
    have HMEM1:=lh hmem
    by_cases hlt:k<L.length
    ·obtain⟨gr,hvo,hrc⟩:=R0.out.some (by omega)
     subst hvo
     have ck:=hmem.chg.cell (hrc k hlt) (by simp)
     have x0:=(cell_of_row _ _ 0 _ _ _ hmem.box).trans (show _=some (Value.int .i64 g.n) from rfl)
     have x1:=(cell_of_row _ _ 1 _ _ _ hmem.box).trans (show _=some (Value.slice eo g.e.length cap) from rfl)
     obtain⟨hdd,hdt⟩:=HLD.out (L.getD k 0) (by simp[List.getD,hlt])
     have hxin:=(HPK.out.tail_mem hdd).2
     have hxs:=HSMALL.out _ hxin
     have hix:I64 (g.head (L.getD k 0)):=I64.mk (by omega) (by omega)
     have hnear:=Plain.near_dart (g:=g) hdd
     rw[hdt] at hnear
     obtain⟨ee,hee,hed⟩:∃ ee:Nat,ee<g.e.length∧L.getD k 0 / 2=(ee:Int):=by
      obtain⟨i,hi,e⟩:=Plain.mem_getD (Plain.mem_darts.1 hdd)
      have:=Plain.rises_at HRE.out hi
      exact⟨(L.getD k 0 / 2).toNat,by omega,by omega⟩
     obtain⟨dn,hdn⟩:∃ dn:Nat,L.getD k 0=(dn:Int):=⟨(L.getD k 0).toNat,by omega⟩
     have hdlt:dn / 2<g.e.length:=by omega
     have hglen:g.e.length<4294967296:=by have:=HGE.out.2.2.1;have:=HGE.out.1;omega
     have HSK:=lh (fun h=>And.intro (RIn.skip (k:=k) hin.out h) (Plain.BIn.skip hbi.out hlt h))
     have hdd2:=hdd
     have hdt2:=hdt
     have HAD:=lh (fun hs hf=>And.intro (RIn.add (x:=g.head (L.getD k 0)) (c:=c0) HPK.out hin.out rfl hxin hnear hs hbi.out.1 hf) (Plain.BIn.add hbi.out hlt rfl hdd2 hdt2 hs hf))
     have HCN:=lh hin.out.1.cnt
     have HVAL:=lh hin.out.1.val
     have HLE:=lh hin.out.2.2.2.2.1
     obtain⟨cv,hcvc⟩:∃ cv,c0=cv:=⟨_,rfl⟩
     have hcv:=hbi.out.1
     rw[hcvc] at hcv HAD
     have HCC:=lh hcvc
     have HCV:=lh hcv
     obtain⟨xx,hxx⟩:∃ xx,g.head (L.getD k 0)=xx:=⟨_,rfl⟩
     have HHD:=lh (show g.head (dn:Int)=xx by rw[←hdn];exact hxx)
     rw[hxx] at HSK HAD hix
     rw[hdn] at ck
     have HEL:=lh hee
     clear hrc hdd hdt hxin hxs hnear hed hdn hxx hin hcv hee hdd2 hdt2 hbi hcvc
     go_wp2_with fail
     refine (target_any _ g dn _ hdlt hglen (HG.out.fresh HMEM1.out.chg)).mono ?_
     rw[HHD.out]
     rintro e w6 ⟨rfl,hc6⟩
     have HM6:=lh (HMEM1.out.fresh hc6)
     clear hc6 hmem ck x0 x1
     cases hfx:f1 xx with
     | some c0 =>
      have HF:=lh hfx
      have HR:=lh (HSK.out (Or.inr (by rw[hfx];simp)))
      clear hfx
      go_wp2_with (at_lookup;refine wp_look_hit _ rfl _ _ rfl HM6.out.map rfl hix rfl HF ?_)
      go_roundw
      case rel=>exact⟨k+1,by omega,by go_num,f1,m1,q1,HM6.out,lh HR.out.1,lh HR.out.2⟩
      case measure=>simp[intOf];omega
     | none =>
      have HF:=lh hfx
      by_cases hsx:xx=shut
      ·have HR:=lh (HSK.out (Or.inl hsx))
       have hb:(xx==shut)=true:=by rw[beq_iff_eq];exact hsx
       clear hfx hsx
       go_wp2_with (at_lookup;refine wp_look_miss _ rfl _ _ rfl HM6.out.map rfl hix rfl HF ?_)
       go_roundw
       case rel=>exact⟨k+1,by omega,by go_num,f1,m1,q1,HM6.out,lh HR.out.1,lh HR.out.2⟩
       case measure=>simp[intOf];omega
      have HR:=lh (HAD.out hsx hfx)
      have hb:(xx==shut)=false:=by rw[beq_eq_false_iff_ne];exact hsx
      have hval:=HVAL.out v cv HCV.out
      have hcv0:0≤cv∧cv≤1000000:=by omega
      have hm1:m1<1000001:=by have:=HCN.out;omega
      have hql:q1.length+1<4294967296:=by have:=HLE.out;have:=hfuel.out;omega
      have HGV:=lh (show (f1 v).getD 0=cv by rw[HCV.out];rfl)
      have hic:I64 (cv+1):=I64.mk (by omega) (by omega)
      have tok1:True:=trivial
      clear hfx hsx hval
      go_wp2_with (first
       | (at_lookup;have _t:=tok1;refine wp_look_miss _ rfl _ _ rfl HM6.out.map rfl hix rfl HF ?_;clear tok1)
       | (at_lookup;refine wp_look _ rfl _ _ rfl HM6.out.map rfl hiv rfl HGV ?_)
       | (at_mapUpdate;refine wp_store _ rfl _ _ _ rfl HM6.out.map (by unfold maxLen;omega) rfl hix hic rfl rfl ?_;intro w7 hm7 hg7;have HM7:=lh (HM6.out.met (by rw[HGB.out];exact HMP.out) hm7 hg7);clear hm7 hg7))
      have hH7:H≤w7.heap.size:=by obtain⟨_,hb7,_⟩:=HM7.out.queue;exact Nat.le_of_lt (lt_of_block hb7)
      refine (qput_any H H q1 xx w7 hix hH7 hql HM7.out.queue).mono ?_
      rintro e w8 ⟨rfl,hq8,own8,ho8,hc8⟩
      have HM8:=lh (HM7.out.turn (by rw[HGB.out];exact HH0.out) hq8 ho8 hc8)
      clear hq8 ho8 hc8
      go_wp2
      go_roundw
      case rel=>exact⟨k+1,by omega,by go_num,_,_,_,HM8.out,lh HR.out.1,lh (by rw[HCC.out];exact HR.out.2)⟩
      case measure=>simp[intOf];omega
    have e:k=L.length:=by omega
    subst e
    have HO:=lh (HEND.out f1 m1 q1 hin.out)
    have HFU:=lh hin.out.2.2.2.2.1
    have HBO:=lh (Plain.BIn.outer hbi.out)
    clear hmem hin hbi
    cases q1 with
    | nil =>
     go_wp2_with fail
     refine (qtake_none H H _ HMEM1.out.queue).mono ?_
     rintro e w8 ⟨rfl,rfl⟩
     go_wp2
     go_roundg (gk - 1)
     case measure=>have:=HFU.out;omega
     case rel=>exact⟨lh (Nat.le_trans (Nat.sub_le _ _) hfuel.out),f1,m1,Or.inr ⟨rfl,rfl,HMEM1.out,HO,HBO⟩⟩
    | cons x r =>
     go_wp2_with fail
     refine (qtake_some H H x r _ HMEM1.out.queue).mono ?_
     rintro e w8 ⟨rfl,hq8,own8,ho8,hc8⟩
     have HM8:=lh (HMEM1.out.turn (by rw[HGB.out];exact HH0.out) hq8 ho8 hc8)
     clear hq8 ho8 hc8
     go_wp2
     go_roundg (gk - 1)
     case measure=>have:=HFU.out;omega
     case rel=>exact⟨lh (Nat.le_trans (Nat.sub_le _ _) hfuel.out),f1,m1,Or.inl ⟨x,r,rfl,rfl,HM8.out,HO,HBO⟩⟩
  have HMEM:=lh hmem
  have HCNT:=lh (show m≤p.v.length by have:=hout.out.1.cnt;omega)
  have HALL:=lh (fun x=>hout.out.1.all (fun u hu=>((hout.out.2.2.1 u hu).resolve_left (by simp))) x)
  have HVL:=lh (fun (u c:Int) (h:f u=some c)=>(show c≤(p.v.length:Int) by have:=(hout.out.1.val u c h).2;omega))
  have HBE:=lh hbo.out.last
  have HPR:=lh hbo.out.2
  clear hmem hout hbo
  rw[HBE.out] at HMEM HALL HPR HVL
  go_wp2
  go_ret
  exact⟨mp,m,rfl,HMEM.out.map,HALL.out,HPR.out,HVL.out,HMEM.out.chg,by rw[HGB.out];exact HMP.out,HCNT.out⟩
namespace Plain
def leav (g:Gr) (p:Pt) (v:Int):List Int:=p.darts.filter fun d=>decide (g.tail d=v)
def nextD (g:Gr) (p:Pt) (f:Int→Option Int) (n:Nat) (v:Int):Int:=(leav g p v).getD (ixP (fun d=>decide ((f (g.head d)).getD 0=n)) (leav g p v)).toNat 0
def pathRun (g:Gr) (p:Pt) (f:Int→Option Int):Nat→Int→List Int
 | 0,_=>[]
 | n+1,v=>nextD g p f n v :: pathRun g p f n (g.head (nextD g p f n v))
def pathF (g:Gr) (p:Pt) (a b:Int):Option (List Int):=(reachF g p (-1) b a).map fun c=>pathRun g p (reachF g p (-1) b) c.toNat a
theorem nextD_ok {g:Gr} {p:Pt} {a v:Int} {f:Int→Option Int} {n:Nat} (h:Prev g p a f) (hv:f v=some ((n:Int)+1)) (hall:∀ d∈p.darts,g.tail d=v→f (g.head d)≠none) :
  ∃ k:Nat,ixP (fun d=>decide ((f (g.head d)).getD 0=(n:Int))) (leav g p v)=(k:Int)∧k<(leav g p v).length∧(leav g p v).getD k 0=nextD g p f n v∧nextD g p f n v∈p.darts∧g.tail (nextD g p f n v)=v∧f (g.head (nextD g p f n v))=some (n:Int):=by
 have hne:v≠a:=fun e=>by rw[e,h.base] at hv;simp at hv;omega
 obtain⟨d,hd,ht,hh⟩:=h.prev v _ hv hne
 have hdl:d∈leav g p v:=List.mem_filter.2 ⟨hd,decide_eq_true ht⟩
 have hany:(leav g p v).any (fun d=>decide ((f (g.head d)).getD 0=(n:Int)))=true:=List.any_eq_true.2 ⟨d,hdl,decide_eq_true (by rw[hh];simp)⟩
 have hge:=ixP_any (P:=fun d=>decide ((f (g.head d)).getD 0=(n:Int))) (l:=leav g p v)
 rw[hany] at hge
 have hge:ixP (fun d=>decide ((f (g.head d)).getD 0=(n:Int))) (leav g p v) ≥ 0:=of_decide_eq_true hge
 unfold ixP at hge
 cases hf:(leav g p v).findIdx? (fun d=>decide ((f (g.head d)).getD 0=(n:Int))) with
 | none=>rw[hf] at hge;exact absurd hge (by show ¬ ((-1:Int) ≥ 0);omega)
 | some k =>
  have hix:ixP (fun d=>decide ((f (g.head d)).getD 0=(n:Int))) (leav g p v)=(k:Int):=by unfold ixP;rw[hf]
  obtain⟨hk,hp,-⟩:=List.findIdx?_eq_some_iff_getElem.1 hf
  have hst:(leav g p v).getD k 0=nextD g p f n v:=by unfold nextD;rw[hix,Int.toNat_natCast]
  have hm:nextD g p f n v∈leav g p v:=by rw[←hst];simp[List.getD,hk]
  obtain⟨hm1,hm2⟩:=List.mem_filter.1 hm
  have ht2:=of_decide_eq_true hm2
  refine⟨k,hix,hk,hst,hm1,ht2,?_⟩
  have hp2:=of_decide_eq_true hp
  have e:(leav g p v)[k]=nextD g p f n v:=by rw[←hst];simp[List.getD,hk]
  rw[e] at hp2
  cases hq:f (g.head (nextD g p f n v)) with
  | none=>exact absurd hq (hall _ hm1 ht2)
  | some c=>rw[hq] at hp2;simp at hp2;rw[hp2]
end Plain
set_option maxHeartbeats 1000000 in
theorem path1_any (n i mcb gb ib mp m:Nat) (eo:Option Addr) (cap:Nat) (g:Plain.Gr) (f:Int→Option Int) (w:World) (hd:n / 2<g.e.length) (hm:g.e.length<4294967296) (hx:I64 (g.head n)) (hi:i<1000000) (hf:∀ c,f (g.head n)=some c→0≤c∧c≤1000000) (c1:w.cell? ⟨mcb,0,none⟩=some (.map (some mp)))
  (c2:w.cell? ⟨gb,0,none⟩=some (.int .i64 g.n)) (c3:w.cell? ⟨gb,1,none⟩=some (.slice eo g.e.length cap)) (c4:w.cell? ⟨ib,0,none⟩=some (.int .i64 ((i:Int)+1))) (hM:IMap w mp m f) (hg:GrAt w (.agg #[.int .i64 g.n,.slice eo g.e.length cap]) g) :
  Calls Try.prog 49 #[.int .i64 n,.pointer (some ⟨mcb,0,none⟩),.pointer (some ⟨gb,0,none⟩),.pointer (some ⟨ib,0,none⟩)] w fun e w'=>e=.returned (.bool (decide ((f (g.head n)).getD 0=i)))∧Chg [] w w':=by
 have HM:=lh hM
 have HG:=lh hg
 have HF:=lh (show 0≤(f (g.head n)).getD 0∧(f (g.head n)).getD 0≤1000000 by
  cases hq:f (g.head n) with
  | none=>simp
  | some c=>exact hf c hq)
 have HLK:=lh (fun (wx:World) (h:Chg [] w wx)=>(hM.chg h (by simp)).look_run hx)
 obtain⟨x,hxx⟩:∃ x,g.head n=x:=⟨_,rfl⟩
 obtain⟨y,hy⟩:∃ y,(f (g.head n)).getD 0=y:=⟨_,rfl⟩
 rw[hy] at HF HLK ⊢
 rw[hxx] at HLK
 have HX:=lh hxx
 obtain⟨hy0,hy1⟩:=HF.out
 clear hM hg hxx hy hf hx
 go_enter Try.func49,Try.ntmps49
 go_wp2_with fail
 have hS0:Chg [] w w.drew:=(Chg.refl [] w).drew
 refine wp_region_way (Chg [] w) [0,1,2,4,5,6,7,8] (Way.line [0,1,2,5,6,3,4,7,8] .done) (by kernel_rfl) (by kernel_rfl) ?_
 simp only[Way.line]
 repeat
  first
   | (refine along_off rfl (by rfl) (by rfl) (fun _ _ _ h=>h) hS0 ?_;simp only[Act.put,Z1,Z2,Z3,Z4,Z5,Z6])
   | (refine along_read (v:=?_) rfl (by rfl) (by rfl) (fun _ _ _ h=>h) hS0 (fun w' hS'=>?_) ?_;rotate_left;(focus (have rd0:=hS'.cell c1 (by simp);have rd1:=hS'.cell c2 (by simp);have rd2:=hS'.cell c3 (by simp);have rd3:=hS'.cell c4 (by simp);clear hS';go_simp;try with_reducible rfl));simp only[Act.put,Z1,Z2,Z3,Z4,Z5,Z6])
   | (refine along_skip rfl (by rfl) (by rfl) hS0 ?_;simp only[Act.put,Z1,Z2,Z3,Z4,Z5,Z6])
 refine along_op rfl (by rfl) (by rfl) (fun K hK=>?_)
 go_simp
 refine (target_any _ g n _ hd hm (HG.out.fresh hS0)).mono ?_
 rw[HX.out]
 rintro e w3 ⟨rfl,hc3⟩
 have hS1:Chg [] w w3:=hS0.trans hc3 (by simp)
 refine hK.out _ _ (fun _=>hS1) ?_
 clear hK K hc3 hS0
 try simp only[Act.put,Z1,Z2,Z3,Z4,Z5,Z6]
 repeat
  first
   | (refine along_off rfl (by rfl) (by rfl) (fun _ _ _ h=>h) hS1 ?_;simp only[Act.put,Z1,Z2,Z3,Z4,Z5,Z6])
   | (refine along_read (v:=?_) rfl (by rfl) (by rfl) (fun _ _ _ h=>h) hS1 (fun w' hS'=>?_) ?_;rotate_left;(focus (have rdl:=HLK.out _ hS';clear hS';go_simp;try with_reducible rfl));simp only[Act.put,Z1,Z2,Z3,Z4,Z5,Z6])
   | (refine along_skip rfl (by rfl) (by rfl) hS1 ?_;simp only[Act.put,Z1,Z2,Z3,Z4,Z5,Z6])
 refine along_done ?_
 go_wp2
 go_ret
 exact⟨ret_bool (by rw[show IntKind.i64.wrap (i:Int)=i from IntWalk.i64_in _ (by omega)];rfl),hS1⟩
set_option maxRecDepth 100000 in
set_option maxHeartbeats 2000000 in
theorem ixpath_any (i mcb gb ib mp m:Nat) (eo:Option Addr) (cap:Nat) (g:Plain.Gr) (f:Int→Option Int) (v:Value) (q:List Int) (w:World) (hq:∀ d∈q,0≤d∧d / 2<g.e.length∧I64 (g.head d)) (hql:q.length<1000000000) (hm:g.e.length<1000000) (hi:i<1000000) (hf:∀ u c,f u=some c→0≤c∧c≤1000000) (hv:IntsAt w v q) (c1:w.cell? ⟨mcb,0,none⟩=some (.map (some mp)))
  (c2:w.cell? ⟨gb,0,none⟩=some (.int .i64 g.n)) (c3:w.cell? ⟨gb,1,none⟩=some (.slice eo g.e.length cap)) (c4:w.cell? ⟨ib,0,none⟩=some (.int .i64 ((i:Int)+1))) (hM:IMap w mp m f) (hg:GrAt w (.agg #[.int .i64 g.n,.slice eo g.e.length cap]) g) :
  Calls Try.prog 37 #[v,.func (Fn.func 49) #[] #[.pointer (some ⟨mcb,0,none⟩),.pointer (some ⟨gb,0,none⟩),.pointer (some ⟨ib,0,none⟩)]] w fun e w'=>e=.returned (.int .i64 (Plain.ixP (fun d=>decide ((f (g.head d)).getD 0=(i:Int))) q))∧Chg [] w w':=by
 have HQ:=lh hq
 have HV:=lh hv
 have HF:=lh hf
 have HM:=lh hM
 have HG:=lh hg
 have H1:=lh c1
 have H2:=lh c2
 have H3:=lh c3
 have H4:=lh c4
 obtain⟨ao,ac,rfl,-,-,-⟩:=hv
 clear hq c1 c2 c3 c4 hM hg hf
 obtain⟨P,hP⟩:∃ P:Int→Bool,(fun d=>decide ((f (g.head d)).getD 0=(i:Int)))=P:=⟨_,rfl⟩
 have HP:=lh (fun d=>show decide ((f (g.head d)).getD 0=(i:Int))=P d from congrFun hP d)
 rw[hP]
 clear hP
 go_enter Try.func37,Try.ntmps37
 go_wp2
 go_loopw [8] (fun c wr=>∃ k:Nat,k≤q.length∧c=.int .i64 k∧Hid (∀ j,j<k→P (q.getD j 0)=false)∧Chg [] w wr) (fun c _=>q.length - (intOf c).toNat)
 case atStart=>exact⟨0,Nat.zero_le _,rfl,lh (by omega),Chg.refl _ _⟩
 case round =>
  obtain⟨k,hk,rfl,HN,hc⟩:=hrel
  have HC:=lh hc
  by_cases hlt:k<q.length
  ·obtain⟨rb,roff,rfl,rc⟩:=IntsAt.cellAt HV.out hlt
   have rcell:=hc.cell rc (by simp)
   have hr:=HQ.out _ (Plain.getD_mem hlt)
   have HHIT:=lh (fun (h:P (q.getD k 0)=true)=>Plain.ixP_hit (P:=P) hlt h HN.out)
   have HNN:=lh (fun (h:P (q.getD k 0)=false) j (hj:j<k+1)=>(show P (q.getD j 0)=false from by
    by_cases e:j=k
    ·rw[e];exact h
    exact HN.out j (by omega)))
   obtain⟨n,e1⟩:∃ n:Nat,q.getD k 0=n:=⟨(q.getD k 0).toNat,by omega⟩
   rw[e1] at rcell HHIT HNN hr
   have hn2:n / 2<g.e.length:=by have:=hr.2.1;omega
   have HI64:=lh hr.2.2
   clear rc e1 hc hr
   go_wp2_with fail
   refine (path1_any n i mcb gb ib mp m eo cap g f _ hn2 (by omega) HI64.out hi (fun c h=>HF.out _ c h) (HC.out.cell H1.out (by simp)) (HC.out.cell H2.out (by simp)) (HC.out.cell H3.out (by simp)) (HC.out.cell H4.out (by simp)) (HM.out.chg HC.out (by simp)) (HG.out.fresh HC.out)).mono ?_
   rintro e w2 ⟨rfl,hc2⟩
   rw[HP.out]
   have HC2:=lh (HC.out.trans hc2 (by simp))
   clear hc2 rcell
   cases h:P (n:Int) with
   | true =>
    have HI:=lh (HHIT.out h)
    clear h
    go_wp2
    go_ret
    exact⟨ret_int (show ((k:Nat):Int)=_ by rw[HI.out]),HC2.out⟩
   | false =>
    have HI:=lh (HNN.out h)
    clear h
    go_wp2
    go_roundw
    case rel=>exact⟨k+1,by omega,by go_num,HI,HC2.out⟩
    case measure=>simp[intOf];omega
  have e:k=q.length:=by omega
  subst e
  have HI:=lh (Plain.ixP_miss (P:=P) HN.out)
  clear hc
  go_wp2
  go_ret
  exact⟨ret_int (show (-1:Int)=_ by rw[HI.out]),HC.out⟩
namespace Plain
theorem pathRun_ok {g:Gr} {p:Pt} {b:Int} {f:Int→Option Int} (hp:PartOk g p) (h0:∀ v∈p.v,0≤v) (h:Prev g p b f) (hc:∀ v,f v≠none↔Come g p (-1) b v):∀ (n:Nat) (v:Int),f v=some (n:Int)→Link g v (pathRun g p f n v) b∧(∀ d∈pathRun g p f n v,d∈p.darts)∧(∀ d∈pathRun g p f n v,∃ c:Nat,f (g.tail d)=some (c:Int)∧c≤n)∧((pathRun g p f n v).map g.tail).Nodup
 | 0,v,hv=>by
  have hvb:v=b:=by
   by_cases e:v=b
   ·exact e
   have:=h.zero v _ hv e;omega
  subst hvb
  exact⟨rfl,by simp[pathRun],by simp[pathRun],by simp[pathRun]⟩
 | n+1,v,hv=>by
  obtain⟨k,-,-,-,h4,h5,h6⟩:=nextD_ok h (v:=v) (n:=n) (by rw[hv];congr 1) (fun d hd ht=>by
   have h1:=(hc v).1 (by rw[hv];simp)
   have h2:=near_dart (g:=g) hd
   rw[ht] at h2
   have h3:=h0 _ (hp.tail_mem hd).2
   exact (hc _).2 (h1.step h2 (by omega)))
  obtain⟨i1,i2,i3,i4⟩:=pathRun_ok hp h0 h hc n _ h6
  refine⟨⟨h5,i1⟩,fun d hd=>?_,fun d hd=>?_,?_⟩
  ·rcases List.mem_cons.1 hd with r | r
   ·rw[r];exact h4
   exact i2 d r
  ·rcases List.mem_cons.1 hd with r | r
   ·exact⟨n+1,by rw[r,h5,hv],Nat.le_refl _⟩
   obtain⟨c,c1,c2⟩:=i3 d r
   exact⟨c,c1,by omega⟩
  rw[pathRun,List.map_cons,List.nodup_cons]
  refine⟨fun q=>?_,i4⟩
  obtain⟨d,hd,e⟩:=List.mem_map.1 q
  obtain⟨c,c1,c2⟩:=i3 d hd
  rw[e,h5,hv] at c1
  simp at c1
  omega
end Plain
theorem PtAt.vs {w:World} {u1 u2:Value} {p:Plain.Pt} (h:PtAt w (.agg #[u1,u2]) p):IntsAt w u1 p.v:=by
 obtain⟨v1,v2,e,h1,-⟩:=h
 simp only[Value.agg.injEq,Array.mk.injEq,List.cons.injEq,and_true] at e
 rw[e.1];exact h1
set_option maxRecDepth 100000 in
set_option maxHeartbeats 4000000 in
theorem path_any (vg vp:Value) (g:Plain.Gr) (p:Plain.Pt) (a b:Int) (w:World) (hr:p.err g=0) (ha:a∈p.v) (hb:b∈p.v) (hg:GrAt w vg g) (hp:PtAt w vp p) :
  Calls Try.prog 26 #[vg,vp,.int .i64 a,.int .i64 b] w fun e w'=>∃ v',e=.returned (.tuple #[v',.bool (Plain.pathF g p a b).isSome])∧RowAt w' w.heap.size v' ((Plain.pathF g p a b).getD [])∧(Plain.Prev g p b (Plain.reachF g p (-1) b)∧∀ v,Plain.reachF g p (-1) b v≠none↔Plain.Come g p (-1) b v)∧Chg [] w w':=by
 have HR:=lh hr
 have HA:=lh ha
 have HBV:=lh hb
 have HPK:=lh (Plain.Pt.ok_of_err hr)
 have HGE:=lh (Plain.Gr.err_ok (Plain.Pt.err_ok hr).1)
 have HVR:=lh (Plain.rises_pair (Plain.Pt.err_ok hr).2.1)
 have HRE:=lh (Plain.Pt.err_ok hr).2.2.1
 have HEL:=lh (show p.e.length≤1024 by have:=rises_len (Plain.Pt.err_ok hr).2.2.1;have:=(Plain.Gr.err_ok (Plain.Pt.err_ok hr).1);omega)
 have HSMALL:=lh (show ∀ u∈p.v,0≤u∧u<1025 from fun u hu=>by have:=HPK.out.vr u hu;have:=HGE.out.2.1;omega)
 have HVL:=lh (show p.v.length≤1025 from nodup_small (N:=1025) (HVR.out.imp fun h=>by omega) (fun u hu=>by have:=HSMALL.out u hu;omega))
 have hia:I64 a:=I64.mk (by have:=HSMALL.out a ha;omega) (by have:=HSMALL.out a ha;omega)
 have hib:I64 b:=I64.mk (by have:=HSMALL.out b hb;omega) (by have:=HSMALL.out b hb;omega)
 have hpl:p.v.length≤100000:=by have:=HVL.out;omega
 clear hr ha hb
 have HG:=lh hg
 have HP:=lh hp
 obtain⟨eo,cap,rfl,hn,hm,hsm,hcell⟩:=hg
 obtain⟨v1,v2,rfl,hv,he⟩:=hp
 obtain⟨ao,ac,rfl,has,ham,hacell⟩:=hv
 obtain⟨bo,bc,rfl,hbs,hbm,hbcell⟩:=he
 have HAC:=lh hacell
 have HBC:=lh hbcell
 have HAS:=lh has
 have HBS:=lh hbs
 obtain⟨-,-,hc1⟩:=box_two w #[.int .i64 g.n,.slice eo g.e.length cap] #[.slice ao p.v.length ac,.slice bo p.e.length bc] 24 27
 have HC1:=lh hc1
 have HBXS:=lh (fun w2 h=>two_boxes w (g:=g) (p:=p) (eo:=eo) (ao:=ao) (bo:=bo) (cap:=cap) (ac:=ac) (bc:=bc) (w2:=w2) h)
 clear hcell hacell hbcell hsm has hbs hn hc1
 obtain⟨x0,x1,y0,y1,hsz⟩:=HBXS.out _ (Chg.refl _ _)
 go_enter Try.func26,Try.ntmps26
 go_wp2_with fail
 obtain⟨w1,hw1⟩:∃ w1,((w.alloc (.cells #[.int .i64 g.n,.slice eo g.e.length cap] 24)).alloc (.cells #[.slice ao p.v.length ac,.slice bo p.e.length bc] 27))=w1:=⟨_,rfl⟩
 rw[hw1] at HC1 HBXS ⊢
 clear hw1 x0 x1 y0 y1 hsz
 refine (rightPart_any _ _ g p _ (by omega) (HG.out.fresh HC1.out) (HP.out.fresh HC1.out)).mono ?_
 rintro e w2 ⟨rfl,hc2⟩
 rw[HR.out]
 have HC2:=lh (HC1.out.trans hc2 (by simp))
 have HCB:=lh hc2
 obtain⟨x0,x1,y0,y1,hsz⟩:=HBXS.out _ hc2
 clear hc2
 go_wp2_with fail
 refine (has_any _ p.v a _ HVR.out (by omega) (HP.out.fresh HC2.out).vs).mono ?_
 rintro e w3 ⟨rfl,hc3⟩
 rw[show decide (a∈p.v)=true from decide_eq_true HA.out]
 have HC3:=lh (HC2.out.trans hc3 (by simp))
 have HCB3:=lh (HCB.out.trans hc3 (by simp))
 obtain⟨x0,x1,y0,y1,hsz⟩:=HBXS.out _ HCB3.out
 clear hc3
 go_wp2_with fail
 refine (has_any _ p.v b _ HVR.out (by omega) (HP.out.fresh HC3.out).vs).mono ?_
 rintro e w4 ⟨rfl,hc4⟩
 rw[show decide (b∈p.v)=true from decide_eq_true HBV.out]
 have HC4:=lh (HC3.out.trans hc4 (by simp))
 have HCB4:=lh (HCB3.out.trans hc4 (by simp))
 obtain⟨x0,x1,y0,y1,hsz⟩:=HBXS.out _ HCB4.out
 clear hc4
 go_wp2_with fail
 refine (leaving_any _ _ g p _ (by have:=HEL.out;omega) HR.out (HG.out.fresh HC4.out) (HP.out.fresh HC4.out)).mono ?_
 rintro e w5 ⟨mb,rfl,hm5,hc5,hmb⟩
 have HM5:=lh (show SMap w5 mb (2*p.e.length) (Plain.leav g p) from hm5)
 have HC5:=lh (HC4.out.trans hc5 (by simp))
 have HCB5:=lh (HCB4.out.trans hc5 (by simp))
 obtain⟨x0,x1,y0,y1,hsz⟩:=HBXS.out _ HCB5.out
 clear hc5 hm5
 go_wp2_with fail
 refine (reach_run _ g p mb (2*p.e.length) b (-1) _ (by have:=HEL.out;omega) (by omega) HR.out HBV.out hib (I64.mk (by omega) (by omega)) (HG.out.fresh HC5.out) HM5.out).mono ?_
 rintro e w6 ⟨rb,m,rfl,hm6,hcm,hprev,hval,hc6,hrb,hml⟩
 have HM6:=lh hm6
 have HCM:=lh hcm
 have HPV:=lh hprev
 have HVAL:=lh hval
 have HC6:=lh (HC5.out.trans hc6 (by simp))
 have HCB6:=lh (HCB5.out.trans hc6 (by simp))
 have HC56:=lh hc6
 obtain⟨x0,x1,y0,y1,hsz⟩:=HBXS.out _ HCB6.out
 obtain⟨f,hf⟩:∃ f,Plain.reachF g p (-1) b=f:=⟨_,rfl⟩
 have HPF:=lh (show Plain.pathF g p a b=(f a).map fun c=>Plain.pathRun g p f c.toNat a by unfold Plain.pathF;rw[hf])
 have HPC:=lh (And.intro HPV.out HCM.out)
 rw[hf] at HM6 HCM HPV HVAL
 clear hm6 hcm hprev hval hc6 hf
 have HZ6:=lh hsz
 obtain⟨mcb,hmcb⟩:∃ n,w6.heap.size=n:=⟨_,rfl⟩
 have hw6:w.heap.size+2≤mcb:=by have:=HZ6.out;omega
 have HW6:=lh hw6
 have HC7:=lh ((Chg.refl [] w6).alloc (.cells #[.map (some rb)] 95))
 have HM7:=lh (HM6.out.chg HC7.out (by simp))
 cases hfa:f a with
 | none =>
  have HFA:=lh hfa
  have HPN:=lh (show Plain.pathF g p a b=none by rw[HPF.out,hfa];rfl)
  clear hfa hmcb hw6
  go_wp2_with (at_lookup;refine wp_look_miss _ rfl _ _ rfl HM7.out rfl hia rfl HFA ?_)
  refine bodyPost_ret (v:=.tuple #[.slice none 0 0,.bool false]) (by simp[results,Try.results26,go_sem]) rfl ?_
  rw[HPN.out]
  exact⟨_,rfl,rowNil' _ _,HPC.out,(HC6.out.trans HC7.out (by simp)).alloc _⟩
 | some c =>
  have HFA:=lh hfa
  have hc0:=HPV.out.low a c hfa
  have hc1:=HVAL.out a c hfa
  obtain⟨C,rfl⟩:∃ C:Nat,c=C:=⟨c.toNat,by omega⟩
  have HPN:=lh (show Plain.pathF g p a b=some (Plain.pathRun g p f C a) by rw[HPF.out,hfa];rfl)
  have HCN:=lh (show C≤1025 by have:=HVL.out;omega)
  have I64C:I64 (C:Int):=I64.mk (by omega) (by omega)
  clear hfa hc0 hc1 hw6
  go_wp2_with (at_lookup;refine wp_look_hit _ rfl _ _ rfl HM7.out rfl hia rfl HFA ?_)
  have hba:=heap_alloc_new w6 (.cells #[.map (some rb)] 95)
  have hza:(w6.alloc (.cells #[.map (some rb)] 95)).heap.size=mcb+1:=by rw[←hmcb];simp
  have hbb:=heap_alloc_new (w6.alloc (.cells #[.map (some rb)] 95)) (.cells #[.int .i64 (C:Int)] 3)
  rw[hza] at hbb
  have hcb:Chg [] (w6.alloc (.cells #[.map (some rb)] 95)) ((w6.alloc (.cells #[.map (some rb)] 95)).alloc (.cells #[.int .i64 (C:Int)] 3)):=(Chg.refl [] _).alloc _
  have HBA:=lh (hcb.heap hba (by simp))
  have HBB:=lh hbb
  have HC8:=lh (HC7.out.trans hcb (by simp))
  clear hba hza hbb hcb
  generalize (w6.alloc (.cells #[.map (some rb)] 95)).alloc (.cells #[.int .i64 (C:Int)] 3)=w8 at *
  rw[hmcb] at HBA
  have HM8:=lh (HM6.out.chg HC8.out (by simp))
  have HC58:=lh (HC56.out.trans HC8.out (by simp))
  have HC08:=lh (HC6.out.trans HC8.out (by simp))
  obtain⟨z0,z1,-,-,-⟩:=HBXS.out _ (HCB6.out.trans HC8.out (by simp))
  have HX0:=lh z0
  have HX1:=lh z1
  have HNW:=lh (show ∀ j∈[mcb+1],w5.heap.size≤j∧w.heap.size≤j from fun j hj=>by
   have h1:=HC56.out.size
   have h2:=HW6.out
   rw[hmcb] at h1
   rw[List.mem_singleton] at hj
   omega)
  have HW6M:=lh (show rb<mcb by rw[←hmcb];exact HM6.out.lt)
  clear z0 z1 hmcb HC7 HM7
  obtain⟨ib,hib2⟩:∃ n,mcb+1=n:=⟨_,rfl⟩
  have HIB:=lh hib2
  rw[hib2] at HBB HNW ⊢
  clear hib2
  have HI8:=lh (show ib<w8.heap.size from lt_of_block HBB.out)
  have HVC:=lh (show ∀ u c,f u=some c→0≤c∧c≤1000000 from fun u c h=>⟨HPV.out.low u c h,by have:=HVAL.out u c h;have:=HVL.out;omega⟩)
  have HHALL:=lh (show ∀ v,f v≠none→∀ d∈p.darts,g.tail d=v→f (g.head d)≠none from fun v hv d hd ht=>by
   have h1:=(HCM.out v).1 hv
   have h2:=Plain.near_dart (g:=g) hd
   rw[ht] at h2
   have h3:=HSMALL.out _ (HPK.out.tail_mem hd).2
   exact (HCM.out _).2 (h1.step h2 (by omega)))
  have HDART:=lh (show ∀ d∈p.darts,0≤d∧d / 2<g.e.length∧I64 (g.head d) from fun d hd=>by
   have h3:=HSMALL.out _ (HPK.out.tail_mem hd).2
   obtain⟨i,hi,e⟩:=Plain.mem_getD (Plain.mem_darts.1 hd)
   have:=Plain.rises_at HRE.out hi
   exact⟨by omega,by omega,I64.mk (by omega) (by omega)⟩)
  go_loopw [14,15,16] (fun c14 c15 _ wr=>∃ (n v:Nat) (M:List Int),n≤C∧c15=.int .i64 v∧RowAt wr w8.heap.size c14 M∧Hid (M++Plain.pathRun g p f n v=Plain.pathRun g p f C a∧f v=some (n:Int)∧M.length+n=C)∧wr.heap[ib]?=some (.cells #[.int .i64 (n:Int)] 3 (0,0))∧Chg [ib] w8 wr) (fun _ _ _ wr=>match wr.cell? ⟨ib,0,none⟩ with | some u=>(intOf u).toNat | none=>0)
  case atStart =>
   obtain⟨an,han⟩:∃ n:Nat,a=n:=⟨a.toNat,by have:=HSMALL.out a HA.out;omega⟩
   exact⟨C,an,[],Nat.le_refl _,by rw[han],rowNil' _ _,lh ⟨by rw[han];rfl,by rw[←han];exact HFA.out,by simp⟩,HBB.out,Chg.refl _ _⟩
  case round =>
   obtain⟨n,v,M,hn,rfl,hrow,hinv,hbx,hc⟩:=hrel
   have HBX:=lh hbx
   have HROW:=lh hrow
   have HC:=lh hc
   obtain⟨oo,oc,rfl⟩:=hrow.shape
   have ci:=(cell_of_row _ _ 0 _ _ _ hbx).trans (show _=some (Value.int .i64 (n:Int)) from rfl)
   have fi:=free_at hbx 0
   have HC5R:=lh (HC58.out.trans hc (fun j hj=>Or.inr (HNW.out j hj).1))
   have HC0R:=lh (HC08.out.trans hc (fun j hj=>Or.inr (HNW.out j hj).2))
   clear hrow hbx hc
   rcases n with _ | n
   ·have HE:=lh (show M=Plain.pathRun g p f C a by rw[←hinv.out.1];simp[Plain.pathRun])
    go_wp2
    refine bodyPost_ret (v:=.tuple #[.slice oo M.length oc,.bool true]) (by simp[results,Try.results26,go_sem]) rfl ?_
    rw[HPN.out]
    exact⟨_,rfl,by rw[Option.getD_some,←HE.out];exact HROW.out.base HC08.out.size,HPC.out,HC0R.out⟩
   obtain⟨kk,hk1,hk2,hk3,hk4,hk5,hk6⟩:=Plain.nextD_ok HPV.out (v:=(v:Int)) (n:=n) (by rw[hinv.out.2.1];congr 1) (HHALL.out _ (by rw[hinv.out.2.1];simp))
   have hge:=HDART.out _ hk4
   obtain⟨d,hd⟩:∃ d:Nat,Plain.nextD g p f n v=d:=⟨(Plain.nextD g p f n v).toNat,by omega⟩
   have hkk:(kk:Int)<((Plain.leav g p v).length:Int):=by omega
   have HINV:=lh (show M++[(d:Int)]++Plain.pathRun g p f n (g.head d)=Plain.pathRun g p f C a∧f (g.head d)=some (n:Int)∧(M++[(d:Int)]).length+n=C by
    refine⟨?_,by rw[←hd];exact hk6,by have:=hinv.out.2.2;simp;omega⟩
    rw[←hinv.out.1,Plain.pathRun,hd]
    simp)
   have HK1:=lh hk1
   have HLL:=lh (show (Plain.leav g p v).length≤2*p.e.length by unfold Plain.leav;have:=List.length_filter_le (fun d=>decide (g.tail d=(v:Int))) p.darts;rw[Plain.darts_length] at this;exact this)
   rw[hd] at hk3 hge
   have hxs:=HSMALL.out _ (HPK.out.tail_mem hk4).2
   rw[hd] at hxs
   obtain⟨x,hx⟩:∃ x:Nat,g.head d=x:=⟨(g.head d).toNat,by omega⟩
   have HX:=lh hx
   rw[hx] at HINV
   have hd2:d / 2<g.e.length:=by have:=hge.2.1;omega
   have hng:g.e.length<1000000:=by have:=HGE.out.2.2.1;have:=HGE.out.1;omega
   have hnC:n<1000000:=by have:=HCN.out;omega
   have I64v:I64 (v:Int):=by
    have h1:=(HPK.out.tail_mem hk4).1
    rw[hk5] at h1
    have:=HSMALL.out _ h1
    exact I64.mk (by omega) (by omega)
   have I64d:I64 (d:Int):=I64.mk (by omega) (by omega)
   have hLD:∀ q∈Plain.leav g p v,0≤q∧q / 2<g.e.length∧I64 (g.head q):=fun q hq=>HDART.out q (List.mem_filter.1 hq).1
   have HLD:=lh hLD
   have HML:=lh (show M.length<4294967290 by have:=hinv.out.2.2;have:=HCN.out;omega)
   have cm:=HC.out.cell ((cell_of_row _ _ 0 _ _ _ HBA.out).trans (show _=some (Value.map (some rb)) from rfl)) (by have:=HIB.out;simp;omega)
   have cg0:=HC.out.cell HX0.out (by have:=HIB.out;have:=HW6.out;simp;omega)
   have cg1:=HC.out.cell HX1.out (by have:=HIB.out;have:=HW6.out;simp;omega)
   have HCM0:=lh cm
   have HCG0:=lh cg0
   have HCG1:=lh cg1
   have HCI0:=lh ci
   have HGR:=lh (HG.out.fresh HC0R.out)
   have HMR:=lh (HM8.out.chg HC.out (by have:=HM6.out.lt;have:=HC8.out;have:=HIB.out;have h9:=HW6M.out;simp;omega))
   clear hk1 hk4 hk5 hk6 hge hd hx hxs hLD
   go_wp2_with (at_lookup;refine wl_sread rfl _ _ rfl HM5.out HC5R.out (by have:=HEL.out;omega) rfl I64v rfl ?_;intro vv r0;obtain⟨vo,vc,rfl⟩:=r0.shape;have R0:=lh r0;clear r0)
   have hix:=ixpath_any n mcb w.heap.size ib rb m eo cap g f (.slice vo (Plain.leav g p v).length vc) (Plain.leav g p v) wr HLD.out (by have:=HEL.out;have:=HLL.out;omega) hng hnC HVC.out (R0.out.ints.fresh HC5R.out) HCM0.out HCG0.out HCG1.out HCI0.out HMR.out HGR.out
   rw[HK1.out] at hix
   refine hix.mono ?_
   rintro e w9 ⟨rfl,hc9⟩
   have HC9:=lh hc9
   have HC59:=lh (HC5R.out.trans hc9 (by simp))
   have HC89:=lh (HC.out.trans hc9 (by simp))
   have HROW9:=lh (HROW.out.chg hc9 (by simp))
   have HS9:=lh (show w8.heap.size≤w9.heap.size from HC89.out.size)
   have HBX9:=lh (hc9.heap HBX.out (by simp))
   have hml:=HML.out
   clear hix hc9 cm cg0 cg1 ci fi
   go_wp2_with (first
    | (at_lookup;refine wl_sread rfl _ _ rfl HM5.out HC59.out (by have:=HEL.out;omega) rfl I64v rfl ?_;intro vv r1;obtain⟨v1o,v1c,rfl⟩:=r1.shape;obtain⟨g1,e1,h1⟩:=r1.some (by omega);subst e1;have ck1:=HC59.out.cell (h1 kk hk2) (by simp);rw[hk3] at ck1;clear r1 h1)
    | (at_builtin;refine wl_push rfl _ _ rfl (B:=w8.heap.size) (v:=.slice oo _ oc) rfl rfl HROW9.out I64d HS9.out hml rfl ?_;intro v6 w10 r6 c6 f6;have R6:=lh r6;have C6:=lh c6;clear r6 c6 f6))
   have HFT:=lh (show ∀ j∈foot (Value.slice oo M.length oc),w8.heap.size≤j from fun j hj=>(HROW9.out.low j (by rw[←HROW9.out.foot];exact hj)).1)
   have HC510:=lh (HC59.out.trans C6.out (fun j hj=>Or.inr (Nat.le_trans HC58.out.size (HFT.out j hj))))
   have HC010:=lh ((HC0R.out.trans HC9.out (by simp)).trans C6.out (fun j hj=>Or.inr (Nat.le_trans HC08.out.size (HFT.out j hj))))
   have HCB10:=lh (HC89.out.trans C6.out (fun j hj=>Or.inr (HFT.out j hj)))
   have HBX10:=lh (C6.out.heap HBX9.out (fun hj=>by have:=HFT.out _ hj;have:=HI8.out;omega))
   have dg0:=HCB10.out.cell HX0.out (by have:=HIB.out;have:=HW6.out;simp;omega)
   have dg1:=HCB10.out.cell HX1.out (by have:=HIB.out;have:=HW6.out;simp;omega)
   obtain⟨vv,hrun,hr1⟩:=HM5.out.look_old (HC510.out.drew) (by have:=HEL.out;omega) I64v
   obtain⟨v1o,v1c,rfl⟩:=hr1.shape
   obtain⟨g1,e1,h1⟩:=hr1.some (by omega)
   subst e1
   have ck1:=HC510.out.cell (h1 kk hk2) (by simp)
   rw[hk3] at ck1
   clear hr1 h1
   have hS0:Chg [] w10 w10.drew:=(Chg.refl [] w10).drew
   refine wp_region_way (Chg [] w10) [0,1,2,4,5,6,8] (Way.line [0,1,2,4,3,5,6,7,8] .done) (by kernel_rfl) (by kernel_rfl) ?_
   simp only[Way.line]
   repeat
    first
     | (refine along_off rfl (by rfl) (by rfl) (fun _ _ _ h=>h) hS0 ?_;simp only[Act.put,Z1,Z2,Z3,Z4,Z5,Z6])
     | (refine along_read (v:=?_) rfl (by rfl) (by rfl) (fun _ _ _ h=>h) hS0 (fun w' hS'=>?_) ?_;rotate_left;(focus (have rd0:=hS'.cell dg0 (by simp);have rd1:=hS'.cell dg1 (by simp);have rd2:=hS'.cell ck1 (by simp);clear hS';go_simp;try with_reducible rfl));simp only[Act.put,Z1,Z2,Z3,Z4,Z5,Z6])
     | (refine along_skip rfl (by rfl) (by rfl) hS0 ?_;simp only[Act.put,Z1,Z2,Z3,Z4,Z5,Z6])
   refine along_op rfl (by rfl) (by rfl) (fun K hK=>?_)
   go_simp
   refine hK.out _ _ (fun _=>hS0) ?_
   clear hK K
   try simp only[Act.put,Z1,Z2,Z3,Z4,Z5,Z6]
   repeat
    first
     | (refine along_off rfl (by rfl) (by rfl) (fun _ _ _ h=>h) hS0 ?_;simp only[Act.put,Z1,Z2,Z3,Z4,Z5,Z6])
     | (refine along_read (v:=?_) rfl (by rfl) (by rfl) (fun _ _ _ h=>h) hS0 (fun w' hS'=>?_) ?_;rotate_left;(focus (have rd0:=hS'.cell dg0 (by simp);have rd1:=hS'.cell dg1 (by simp);have rd2:=hS'.cell ck1 (by simp);clear hS';go_simp;try with_reducible rfl));simp only[Act.put,Z1,Z2,Z3,Z4,Z5,Z6])
     | (refine along_skip rfl (by rfl) (by rfl) hS0 ?_;simp only[Act.put,Z1,Z2,Z3,Z4,Z5,Z6])
   refine along_op rfl (by rfl) (by rfl) (fun K hK=>?_)
   go_simp
   refine (target_any _ g d _ hd2 (by omega) (HG.out.fresh (HC010.out.trans hS0 (by simp)))).mono ?_
   rw[HX.out]
   rintro e w11 ⟨rfl,hc11⟩
   have hS1:Chg [] w10 w11:=hS0.trans hc11 (by simp)
   refine hK.out _ _ (fun _=>hS1) ?_
   clear hK K hc11 hS0 hrun
   try simp only[Act.put,Z1,Z2,Z3,Z4,Z5,Z6]
   repeat
    first
     | (refine along_off rfl (by rfl) (by rfl) (fun _ _ _ h=>h) hS1 ?_;simp only[Act.put,Z1,Z2,Z3,Z4,Z5,Z6])
     | (refine along_read (v:=?_) rfl (by rfl) (by rfl) (fun _ _ _ h=>h) hS1 (fun w' hS'=>?_) ?_;rotate_left;(focus (have rd0:=hS'.cell dg0 (by simp);have rd1:=hS'.cell dg1 (by simp);clear hS';go_simp;try with_reducible rfl));simp only[Act.put,Z1,Z2,Z3,Z4,Z5,Z6])
     | (refine along_skip rfl (by rfl) (by rfl) hS1 ?_;simp only[Act.put,Z1,Z2,Z3,Z4,Z5,Z6])
   refine along_done ?_
   have HS1:=lh hS1
   have hbx:=hS1.heap HBX10.out (by simp)
   have ci:=(cell_of_row _ _ 0 _ _ _ hbx).trans (show _=some (Value.int .i64 ((n+1:Nat):Int)) from rfl)
   have fi:=free_at hbx 0
   have HBX11:=lh hbx
   have R11:=lh (R6.out.chg hS1 (by simp))
   have HR6L:=lh (show ∀ j∈foot v6,j≠ib from fun j hj e=>by have h1:=(R6.out.low j (by rw[←R6.out.foot];exact hj)).1;have:=HI8.out;omega)
   clear hbx hS1 dg0 dg1 ck1
   go_wp2
   go_roundw
   case rel =>
    have hset:Chg [ib] w11 (w11.setCell ⟨ib,0,none⟩ (.int .i64 (n:Int))):=(Chg.refl _ w11).setCell (Or.inl (by simp)) _
    refine⟨n,x,M++[(d:Int)],by omega,rfl,R11.out.chg hset (fun j hj e=>HR6L.out j (by rw[R6.out.foot];exact hj) (by simpa using e)),HINV,?_,((HCB10.out.trans HS1.out (by simp)).trans hset (fun j hj=>Or.inl hj))⟩
    exact heap_setCell_same HBX11.out 0 _
   case measure =>
    have e1:=(cell_of_row _ _ 0 _ _ _ HBX.out).trans (show _=some (Value.int .i64 ((n+1:Nat):Int)) from rfl)
    have e2:=(cell_of_row _ _ 0 _ _ _ (heap_setCell_same HBX11.out 0 (.int .i64 (n:Int)))).trans (show _=some (Value.int .i64 (n:Int)) from rfl)
    rw[e1,e2]
    simp[intOf]
end Go.Proofs.Ytbkjljffnkdcjaa
