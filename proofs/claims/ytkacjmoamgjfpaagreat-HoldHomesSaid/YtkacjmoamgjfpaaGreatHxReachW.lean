/- package walk: the contract of reach: what can be come to. Conditions: a right part that lies in memory and reads so; of each vertex the darts that leave it; a vertex of the part. -/
import Derived.Test.YtkacjmoamgjfpaaGreatHxRow
import Derived.Deep.LoopGhost
namespace Go.Proofs.YtkacjmoamgjfpaaGreat
open Go.RowKit Go.Maps
theorem SMap.fresh {w w':World} {b n:Nat} {f:Int→List Int} (h:SMap w b n f) (hc:Chg [] w w'):SMap w' b n f:=by
 obtain⟨D,ho,hD⟩:=h
 refine⟨D,?_,hD⟩
 have hb:b<w.heap.size:=SMap.lt ⟨D,ho,hD⟩
 exact ho.kept (hc.grownBy (row:=none) (by simp)) (by simp) (fun es clock he x hx=>by cases x.val.ownBlock <;> simp)
set_option maxHeartbeats 2000000 in
theorem IMap.put_run {w:World} {b n:Nat} {f:Int→Option Int} (h:IMap w b n f) (hn:n<maxLen) {k v:Int} (hk:I64 k) (hv:I64 v) :
  ∃ w',(Instr.mapUpdate 93 (.map (some b)) (.int .i64 k) (.int .i64 v)).run Tryz.prog w=.ok () w'∧IMap w' b (n+1) (fun y=>if y=k then some v else f y)∧w.grownBy w' (some b):=by
 obtain⟨D,hown,hD⟩:=h
 obtain⟨w',hr,h1,h2⟩:=hown.update keyedInt Tryz.underlying93 hn (keyOf_int_mk Tryz.underlying3 hk) (plainElem_int Tryz.underlying3 hv)
 refine⟨w',hr,⟨_,h1,fun y hy=>?_⟩,h2⟩
 by_cases e:y=k
 ·subst e
  have hkl:=keyedInt.key (keyOf_int_mk Tryz.underlying3 hk)
  rw[has_put_same hown.isMap hkl,atKey_put_same hown.isMap hkl]
  simp
 rw[has_put_other (litNe e),atKey_put_other (litNe e)]
 simp only[if_neg e]
 exact hD y hy
theorem wl_insert {ops:Array Oper} {rest:List Oper} {o:Oper} {a:Act} {Q:Exit→Act→World→Prop} {w:World} (hg:o.guard=none) (m x u:Operand) (hop:o.op=Op.insert 93 m x u) {b n:Nat} {f:Int→Option Int} (h:IMap w b n f) (hn:n<maxLen) (hm:a.eval m=.map (some b))
  {k v:Int} (hk:I64 k) (hv:I64 v) (hx:a.eval x=.int .i64 k) (hu:a.eval u=.int .i64 v)
  (hK:∀ w',IMap w' b (n+1) (fun y=>if y=k then some v else f y)→w.grownBy w' (some b)→wpList Tryz.prog ops Q rest (a.put o.dst undef) w'):wpList Tryz.prog ops Q (o :: rest) a w:=by
 refine wpList_plain hg fun K hK'=>?_
 obtain⟨w',hr,h1,h2⟩:=h.put_run hn hk hv
 have hk2:=hK' (a.put o.dst undef) w' (hK w' h1 h2)
 unfold Oper.wp
 simp[execOp,hop,hm,hx,hu,hr,Result.andThen,Oper.upon]
 exact hk2
theorem SMap.look_old {w wr:World} {b n:Nat} {f:Int→List Int} (h:SMap w b n f) (hc:Chg [] w wr) (hn:n<4294967296) {k:Int} (hk:I64 k) :
  ∃ v,(Instr.lookup 119 (.map (some b)) (.int .i64 k) false).run Tryz.prog wr=.ok v wr∧RowAt w (b+1) v (f k):=by
 obtain⟨D,ho,hD⟩:=h
 have hkey:=keyOf_int_mk Tryz.underlying3 hk
 obtain⟨es,clock,hb,F,hs,hDe,hbb,hlen,hap⟩:=ho
 have hb':=hc.heap hb (by simp)
 rcases Maps.fit_look false keyedInt Tryz.underlying119 (zeroRow wr) hb' F hkey with ⟨hrun,_,hat⟩ | ⟨e0,y,hm0,h3,hrun,hR,hat,_⟩
 ·refine⟨_,hrun,?_⟩
  have hat2:=hat .nil
  rw[←hDe] at hat2
  have e:=SMap.list (v:=.slice none 0 0) (zs:=[]) (hD k hk) hat2 (World.ownsInts_nil w (b+1) 3 .i64)
  rw[←e]
  exact owns_row (World.ownsInts_nil _ _ _ _) (by simp)
 obtain⟨zs,hoi,rfl⟩:=rowElem_inv hR
 have hat2:=hat .nil
 rw[←hDe] at hat2
 have e:=SMap.list (hD k hk) hat2 hoi
 subst e
 exact⟨_,hrun,owns_row hoi (by have:=hlen e0 hm0 _ hoi;omega)⟩
theorem wl_sread {ops:Array Oper} {rest:List Oper} {o:Oper} {a:Act} {Q:Exit→Act→World→Prop} {w0 w:World} (hg:o.guard=none) (m x:Operand) (hop:o.op=Op.lookup 119 m x false) {b n:Nat} {f:Int→List Int} (h:SMap w0 b n f) (hc:Chg [] w0 w) (hn:n<4294967296) (hm:a.eval m=.map (some b)) {k:Int} (hk:I64 k) (hx:a.eval x=.int .i64 k)
  (hK:∀ v,RowAt w0 (b+1) v (f k)→wpList Tryz.prog ops Q rest (a.put o.dst v) w):wpList Tryz.prog ops Q (o :: rest) a w:=by
 refine wpList_plain hg fun K' hK'=>?_
 obtain⟨v,hrun,r1⟩:=h.look_old hc hn hk
 unfold Oper.wp
 simp[execOp,hop,hm,hx,hrun,Result.andThen]
 exact hK' _ _ (hK v r1)
structure RMem (w:World) (gb mp H:Nat) (gv:Array Value) (f:Int→Option Int) (m:Nat) (q:List Int) (wr:World):Prop where
 queue:QAt wr H H q
 chg:Chg [] w wr
 map:IMap wr mp m f
 box:wr.heap[gb]?=some (.cells gv 24 (0,0))
section
variable {w wr w' : World} {gb mp H : Nat} {gv : Array Value} {f f' : Int → Option Int} {m m' : Nat} {q q' : List Int}
theorem RMem.turn (h:RMem w gb mp H gv f m q wr) (hH:w.heap.size≤H) {own:List Nat} (hq:QAt w' H H q') (ho:QOwn wr H own) (hc:Chg own wr w'):RMem w gb mp H gv f m q' w':=by
 refine⟨hq,h.chg.trans hc (fun j hj=>Or.inr (Nat.le_trans hH (ho j hj).1)),h.map.chg hc (fun e=>?_),hc.heap h.box (fun e=>?_)⟩
 ·obtain⟨_,cs,t,r,hh,_⟩:=ho _ e
  exact h.map.ne hh rfl
 obtain⟨_,cs,t,r,hh,ht⟩:=ho _ e
 rw[h.box] at hh
 simp at hh
 obtain⟨_,e2,_⟩:=hh
 rcases ht with q | q <;> (rw[←e2] at q;revert q;decide)
theorem RMem.fresh (h:RMem w gb mp H gv f m q wr) (hc:Chg [] wr w'):RMem w gb mp H gv f m q w' :=
 ⟨h.queue.chg hc (by simp),h.chg.trans hc (by simp),h.map.chg hc (by simp),hc.heap h.box (by simp)⟩
theorem RMem.met (h:RMem w gb mp H gv f m q wr) (hmp:w.heap.size≤mp) (hm:IMap w' mp m' f') (hg:wr.grownBy w' (some mp)):RMem w gb mp H gv f' m' q w':=by
 have hc:Chg [mp] wr w':=(Chg.refl _ _).grown hg (fun j hj=>by cases hj;exact Or.inl (by simp))
 refine⟨h.queue.chg hc (fun j hj cs t r hh=>?_),h.chg.trans hc (fun j hj=>Or.inr (by simp at hj;omega)),hm,hc.heap h.box (fun e=>?_)⟩
 ·simp at hj
  subst hj
  exact h.map.ne hh rfl
 simp at e
 exact h.map.ne h.box e
end
def ROut (g:Plain.Gr) (p:Plain.Pt) (shut a:Int) (f:Int→Option Int) (m:Nat) (t:List Int) (fuel:Nat):Prop :=
 Plain.Bfs g p shut a f m∧(∀ u∈t,f u≠none)∧(∀ u,f u≠none→u∈t∨Plain.Done g p shut f u)∧2*Plain.left p f+t.length≤fuel
def RIn (g:Plain.Gr) (p:Plain.Pt) (shut a:Int) (f:Int→Option Int) (m:Nat) (v:Int) (q L:List Int) (k fuel:Nat):Prop :=
 Plain.Bfs g p shut a f m∧f v≠none∧(∀ u∈q,f u≠none)∧(∀ u,f u≠none→u=v∨u∈q∨Plain.Done g p shut f u)∧2*Plain.left p f+q.length+1≤fuel∧∀ i,i<k→g.head (L.getD i 0)=shut∨f (g.head (L.getD i 0))≠none
theorem ROut.inner {g:Plain.Gr} {p:Plain.Pt} {shut a v:Int} {f:Int→Option Int} {m fuel:Nat} {q:List Int} (h:ROut g p shut a f m (v :: q) fuel) (L:List Int):RIn g p shut a f m v q L 0 fuel:=by
 obtain⟨h1,h2,h3,h4⟩:=h
 refine⟨h1,h2 v (by simp),fun u hu=>h2 u (by simp[hu]),fun u hu=>?_,by simp at h4;omega,by simp⟩
 rcases h3 u hu with q | q
 ·rcases List.mem_cons.1 q with q | q
  ·exact Or.inl q
  exact Or.inr (Or.inl q)
 exact Or.inr (Or.inr q)
theorem RIn.outer {g:Plain.Gr} {p:Plain.Pt} (hp:Plain.PartOk g p) {shut a v:Int} {f:Int→Option Int} {m fuel:Nat} {q:List Int} (h:RIn g p shut a f m v q (p.darts.filter fun d=>decide (g.tail d=v)) (p.darts.filter fun d=>decide (g.tail d=v)).length fuel):ROut g p shut a f m q (fuel - 1):=by
 obtain⟨h1,h2,h3,h4,h5,h6⟩:=h
 refine⟨h1,h3,fun u hu=>?_,by omega⟩
 rcases h4 u hu with e | e | e
 ·subst e
  right
  intro x hx hs
  obtain⟨d,hd,rfl⟩:=(Plain.near_iff hp).1 hx
  obtain⟨i,hi,rfl⟩:=Plain.mem_getD hd
  exact (h6 i hi).resolve_left hs
 ·exact Or.inl e
 exact Or.inr e
theorem RIn.skip {g:Plain.Gr} {p:Plain.Pt} {shut a v:Int} {f:Int→Option Int} {m fuel k:Nat} {q L:List Int} (h:RIn g p shut a f m v q L k fuel) (hk:g.head (L.getD k 0)=shut∨f (g.head (L.getD k 0))≠none):RIn g p shut a f m v q L (k+1) fuel:=by
 obtain⟨h1,h2,h3,h4,h5,h6⟩:=h
 refine⟨h1,h2,h3,h4,h5,fun i hi=>?_⟩
 by_cases e:i=k
 ·subst e;exact hk
 exact h6 i (by omega)
theorem RIn.add {g:Plain.Gr} {p:Plain.Pt} (hp:Plain.PartOk g p) {shut a v x c:Int} {f:Int→Option Int} {m fuel k:Nat} {q L:List Int} (h:RIn g p shut a f m v q L k fuel) (hk:g.head (L.getD k 0)=x) (hx:x∈p.v) (hn:Plain.Near g p v x) (hs:x≠shut) (hv:f v=some c) (hf:f x=none) :
  RIn g p shut a (fun y=>if y=x then some (c+1) else f y) (m+1) v (q++[x]) L (k+1) fuel:=by
 obtain⟨h1,h2,h3,h4,h5,h6⟩:=h
 have hl:=Plain.left_put (f:=f) (c:=c+1) hp.vn hx hf
 have up:∀ u,f u≠none→(if u=x then some (c+1) else f u)≠none:=fun u hu=>by by_cases e:u=x <;> simp[e];simpa[e] using hu
 refine⟨h1.add hp hx hn hs hv hf,up v h2,fun u hu=>?_,fun u hu=>?_,by simp;omega,fun i hi=>?_⟩
 ·rcases List.mem_append.1 hu with q | q
  ·exact up u (h3 u q)
  simp at q;subst q;simp
 ·by_cases e:u=x
  ·exact Or.inr (Or.inl (by simp[e]))
  rcases h4 u (by simpa[e] using hu) with q | q | q
  ·exact Or.inl q
  ·exact Or.inr (Or.inl (by simp[q]))
  exact Or.inr (Or.inr q.add)
 by_cases e:i=k
 ·subst e;right;rw[hk];simp
 exact (h6 i (by omega)).imp id (up _)
set_option maxRecDepth 100000 in
set_option maxHeartbeats 2000000 in
theorem reach_any (vg:Value) (g:Plain.Gr) (p:Plain.Pt) (mb n:Nat) (a shut:Int) (w:World) (hn:n<1000000) (_hV:p.v.length≤1000000) (hr:p.err g=0) (ha:a∈p.v) (hia:I64 a) (_hs:I64 shut) (hg:GrAt w vg g) (hd:SMap w mb n (fun v=>p.darts.filter fun d=>decide (g.tail d=v))) :
  Calls Tryz.prog 175 #[vg,.map (some mb),.int .i64 a,.int .i64 shut] w fun e w'=>∃ b m f,e=.returned (.map (some b))∧IMap w' b m f∧(∀ v,f v≠none↔Plain.Come g p shut a v)∧Chg [] w w'∧w.heap.size≤b∧m≤p.v.length:=by
 obtain⟨eo,cap,rfl,hn2,hm,hsm,hcell⟩:=id hg
 have HG:=lh hg
 have HSD:=lh hd
 have hmm:=@run_makeMap Tryz.prog
 have HM:=lh (IMap.made (w.alloc (.cells #[.int .i64 g.n,.slice eo g.e.length cap] 24)))
 have HC0:=lh ((Chg.refl [] w).alloc (.cells #[.int .i64 g.n,.slice eo g.e.length cap] 24))
 have HGB:=lh (heap_alloc_new w (.cells #[.int .i64 g.n,.slice eo g.e.length cap] 24 (0,0)))
 clear hcell hsm hg hd hn2
 have hsz1:(w.alloc (.cells #[.int .i64 g.n,.slice eo g.e.length cap] 24)).heap.size=w.heap.size+1:=by simp
 rw[hsz1] at HM
 have HSZ1:=lh hsz1
 clear hsz1
 go_enter Tryz.func175,Tryz.ntmps175
 go_wp2_with (refine wl_insert rfl _ _ _ rfl HM.out (by unfold maxLen;omega) rfl hia (I64.mk (by omega) (by omega)) rfl rfl ?_;intro w2 hm2 hg2;have HM2:=lh hm2;have HG2:=lh hg2;clear hm2 hg2)
 have HC2:=lh (((HC0.out.alloc (.map #[] 0)).grown HG2.out (row:=some (w.heap.size+1)) (fun k hk=>by cases hk;exact Or.inr (by omega))))
 have HGB2:=lh (show w2.heap[w.heap.size]?=some (.cells #[.int .i64 g.n,.slice eo g.e.length cap] 24 (0,0)) from ((Chg.refl [w.heap.size+1] _).grown HG2.out (row:=some (w.heap.size+1)) (fun k hk=>by cases hk;exact Or.inl (by simp))).heap (((Chg.refl [] _).alloc (.map #[] 0)).heap HGB.out (by simp)) (by simp))
 clear HM HG2 HGB hmm HSZ1
 refine (queue_any w2).mono ?_
 rintro e w3 ⟨rfl,hq3,hc3⟩
 have HQ3:=lh hq3
 have HC3:=lh (HC2.out.trans hc3 (by simp))
 have HM3:=lh (HM2.out.chg hc3 (by simp))
 have HGB3:=lh (hc3.heap HGB2.out (by simp))
 have HH:=lh hc3.size
 have HH0:=lh HC2.out.size
 clear hq3 hc3 HM2 HGB2 HC2 HC0
 generalize hHe:w2.heap.size=H at *
 go_wp2_with fail
 refine (qput_any H H [] a w3 hia HH.out (by simp) HQ3.out).mono ?_
 rintro e w4 ⟨rfl,hq4,own4,ho4,hc4⟩
 have HQ4:=lh hq4
 have HC4:=lh (HC3.out.trans hc4 (fun j hj=>Or.inr (Nat.le_trans HH0.out (ho4 j hj).1)))
 have nm4:w.heap.size+1 ∉ own4:=fun e=>by obtain⟨_,cs,t,r,hh,_⟩:=ho4 _ e;exact HM3.out.ne hh rfl
 have ng4:w.heap.size ∉ own4:=fun e=>by obtain⟨_,cs,t,r,hh,ht⟩:=ho4 _ e;rw[HGB3.out] at hh;simp at hh;obtain⟨_,e2,_⟩:=hh;rcases ht with q | q <;> (rw[←e2] at q;revert q;decide)
 have HM4:=lh (HM3.out.chg hc4 nm4)
 have HGB4:=lh (hc4.heap HGB3.out ng4)
 clear hq4 ho4 hc4 nm4 ng4 HM3 HGB3 HC3 HQ3
 go_wp2_with fail
 refine (qtake_some H H a [] w4 HQ4.out).mono ?_
 rintro e w5 ⟨rfl,hq5,own5,ho5,hc5⟩
 have HQ5:=lh hq5
 have HC5:=lh (HC4.out.trans hc5 (fun j hj=>Or.inr (Nat.le_trans HH0.out (ho5 j hj).1)))
 have nm5:w.heap.size+1 ∉ own5:=fun e=>by obtain⟨_,cs,t,r,hh,_⟩:=ho5 _ e;exact HM4.out.ne hh rfl
 have ng5:w.heap.size ∉ own5:=fun e=>by obtain⟨_,cs,t,r,hh,ht⟩:=ho5 _ e;rw[HGB4.out] at hh;simp at hh;obtain⟨_,e2,_⟩:=hh;rcases ht with q | q <;> (rw[←e2] at q;revert q;decide)
 have HM5:=lh (HM4.out.chg hc5 nm5)
 have HGB5:=lh (hc5.heap HGB4.out ng5)
 clear hq5 ho5 hc5 nm5 ng5 HM4 HGB4 HC4 HQ4
 go_wp2
 have HPK:=lh (Plain.Pt.ok_of_err hr)
 have HVR:=lh (Plain.rises_nodup (Plain.Pt.err_ok hr).2.1)
 have HGE:=lh (Plain.Gr.err_ok (Plain.Pt.err_ok hr).1)
 have HRE:=lh (Plain.Pt.err_ok hr).2.2.1
 have HAV:=lh ha
 have HR5:=lh (RMem.mk (w:=w) (gb:=w.heap.size) (mp:=w.heap.size+1) (H:=H) HQ5.out HC5.out HM5.out HGB5.out)
 have HB5:=lh (show ROut g p shut a (fun y=>if y=a then some 0 else none) (0+1) [a] (2*p.v.length+2) from⟨Plain.Bfs.start HPK.out ha,by simp,fun u hu=>Or.inl (by by_cases e:u=a <;> simp[e] at hu ⊢),by have:=(Plain.Bfs.start (g:=g) (shut:=shut) HPK.out ha).cnt;simp;omega⟩)
 have HMP:=lh (show w.heap.size≤w.heap.size+1 by omega)
 have hsmall:∀ u∈p.v,0≤u∧u<1025:=fun u hu=>by have:=HPK.out.vr u hu;have:=HGE.out.2.1;omega
 have HSMALL:=lh hsmall
 clear hr ha HQ5 HC5 HM5 HGB5 hHe hsmall
 generalize hgb:w.heap.size=gb at *
 generalize hmp:gb+1=mp at *
 have HGB:=lh hgb
 have HFIN:=lh hmp
 clear hgb hmp
 go_loopg [12,13] (2*p.v.length+2) (fun fuel c12 c13 wr=>Hid (fuel≤2*p.v.length+2)∧∃ f m,(∃ v q,c12=.int .i64 v∧c13=.bool true∧RMem w gb mp H #[.int .i64 g.n,.slice eo g.e.length cap] f m q wr∧Hid (ROut g p shut a f m (v :: q) fuel))∨(c12=.int .i64 0∧c13=.bool false∧RMem w gb mp H #[.int .i64 g.n,.slice eo g.e.length cap] f m [] wr∧Hid (ROut g p shut a f m [] fuel)))
 case atStart=>exact⟨lh (Nat.le_refl _),_,_,Or.inl ⟨a,[],rfl,rfl,HR5.out,HB5⟩⟩
 case round =>
  obtain⟨hfuel,f,m,⟨v,q,rfl,rfl,hmem,hout⟩ | ⟨rfl,rfl,hmem,hout⟩⟩:=hrel
  ·have HMEM:=lh hmem
   have hvin:=hout.out.1.inV v (hout.out.2.1 v (by simp))
   have hvs:=HSMALL.out v hvin
   have hiv:I64 v:=I64.mk (by omega) (by omega)
   have HCH:=lh hmem.chg
   clear hmem hvin
   go_wp2_with (at_lookup;refine wl_sread rfl _ _ rfl HSD.out HCH.out (by omega) rfl hiv rfl ?_;intro vv r0;obtain⟨vo,vc,rfl⟩:=r0.shape;have R0:=lh r0;clear r0)
   have HIN0:=lh (hout.out.inner (p.darts.filter fun d=>decide (g.tail d=v)))
   have HLD:=lh (show ∀ d∈p.darts.filter fun d=>decide (g.tail d=v),d∈p.darts∧g.tail d=v from fun d hd=>by have:=List.mem_filter.1 hd;exact⟨this.1,by simpa using this.2⟩)
   have HEND:=lh (fun (f':Int→Option Int) (m':Nat) (q':List Int) (h:RIn g p shut a f' m' v q' (p.darts.filter fun d=>decide (g.tail d=v)) (p.darts.filter fun d=>decide (g.tail d=v)).length gk)=>RIn.outer HPK.out h)
   clear hout
   generalize (p.darts.filter fun d=>decide (g.tail d=v))=L at *
   have hLL:L.length<4294967296:=R0.out.2.2
   go_loopw [44] (fun c wr=>∃ k:Nat,k≤L.length∧c=.int .i64 k∧∃ f m q,RMem w gb mp H #[.int .i64 g.n,.slice eo g.e.length cap] f m q wr∧Hid (RIn g p shut a f m v q L k gk)) (fun c _=>L.length - (intOf c).toNat)
   case atStart=>exact⟨0,Nat.zero_le _,rfl,f,m,q,HMEM.out,HIN0⟩
   case round =>
    obtain⟨k,hk,rfl,f1,m1,q1,hmem,hin⟩:=hrel
    have HMEM1:=lh hmem
    by_cases hlt:k<L.length
    ·obtain⟨gr,hvo,hrc⟩:=R0.out.some (by omega)
     subst hvo
     have ck:=hmem.chg.cell (hrc k hlt) (by simp)
     have x0:=(cell_of_row _ _ 0 _ _ _ hmem.box).trans (show _=some (Value.int .i64 g.n) from rfl)
     have x1:=(cell_of_row _ _ 1 _ _ _ hmem.box).trans (show _=some (Value.slice eo g.e.length cap) from rfl)
     obtain⟨hdd,hdt⟩:=HLD.out (L.getD k 0) (by simp[List.getD,hlt])
     have hxin:=(HPK.out.tail_mem hdd).2
     have hxs:=HSMALL.out _ hxin
     have hix:I64 (g.head (L.getD k 0)):=I64.mk (by omega) (by omega)
     have hnear:=Plain.near_dart (g:=g) hdd
     rw[hdt] at hnear
     obtain⟨ee,hee,hed⟩:∃ ee:Nat,ee<g.e.length∧L.getD k 0 / 2=(ee:Int):=by
      obtain⟨i,hi,e⟩:=Plain.mem_getD (Plain.mem_darts.1 hdd)
      have:=Plain.rises_at HRE.out hi
      exact⟨(L.getD k 0 / 2).toNat,by omega,by omega⟩
     obtain⟨dn,hdn⟩:∃ dn:Nat,L.getD k 0=(dn:Int):=⟨(L.getD k 0).toNat,by omega⟩
     have hdlt:dn / 2<g.e.length:=by omega
     have hglen:g.e.length<4294967296:=by have:=HGE.out.2.2.1;have:=HGE.out.1;omega
     have HSK:=lh (fun h=>RIn.skip (k:=k) hin.out h)
     have HAD:=lh (fun c hs hv hf=>RIn.add (x:=g.head (L.getD k 0)) (c:=c) HPK.out hin.out rfl hxin hnear hs hv hf)
     have HCN:=lh hin.out.1.cnt
     have HVAL:=lh hin.out.1.val
     have HLE:=lh hin.out.2.2.2.2.1
     obtain⟨cv,hcv⟩:=Option.ne_none_iff_exists'.1 hin.out.2.1
     have HCV:=lh hcv
     obtain⟨xx,hxx⟩:∃ xx,g.head (L.getD k 0)=xx:=⟨_,rfl⟩
     have HHD:=lh (show g.head (dn:Int)=xx by rw[←hdn];exact hxx)
     rw[hxx] at HSK HAD hix
     rw[hdn] at ck
     have HEL:=lh hee
     clear hrc hdd hdt hxin hxs hnear hed hdn hxx hin hcv hee
     go_wp2_with fail
     refine (target_any _ g dn _ hdlt hglen (HG.out.fresh HMEM1.out.chg)).mono ?_
     rw[HHD.out]
     rintro e w6 ⟨rfl,hc6⟩
     have HM6:=lh (HMEM1.out.fresh hc6)
     clear hc6 hmem ck x0 x1
     cases hfx:f1 xx with
     | some c0 =>
      have HF:=lh hfx
      have HR:=lh (HSK.out (Or.inr (by rw[hfx];simp)))
      clear hfx
      go_wp2_with (at_lookup;refine wp_look_hit _ rfl _ _ rfl HM6.out.map rfl hix rfl HF ?_)
      go_roundw
      case rel=>exact⟨k+1,by omega,by go_num,f1,m1,q1,HM6.out,HR⟩
      case measure=>simp[intOf];omega
     | none =>
      have HF:=lh hfx
      by_cases hsx:xx=shut
      ·have HR:=lh (HSK.out (Or.inl hsx))
       have hb:(xx==shut)=true:=by rw[beq_iff_eq];exact hsx
       clear hfx hsx
       go_wp2_with (at_lookup;refine wp_look_miss _ rfl _ _ rfl HM6.out.map rfl hix rfl HF ?_)
       go_roundw
       case rel=>exact⟨k+1,by omega,by go_num,f1,m1,q1,HM6.out,HR⟩
       case measure=>simp[intOf];omega
      have HR:=lh (HAD.out cv hsx HCV.out hfx)
      have hb:(xx==shut)=false:=by rw[beq_eq_false_iff_ne];exact hsx
      have hval:=HVAL.out v cv HCV.out
      have hcv0:0≤cv∧cv≤1000000:=by omega
      have hm1:m1<1000001:=by have:=HCN.out;omega
      have hql:q1.length+1<4294967296:=by have:=HLE.out;have:=hfuel.out;omega
      have HGV:=lh (show (f1 v).getD 0=cv by rw[HCV.out];rfl)
      have hic:I64 (cv+1):=I64.mk (by omega) (by omega)
      have tok1:True:=trivial
      clear hfx hsx hval
      go_wp2_with (first
       | (at_lookup;have _t:=tok1;refine wp_look_miss _ rfl _ _ rfl HM6.out.map rfl hix rfl HF ?_;clear tok1)
       | (at_lookup;refine wp_look _ rfl _ _ rfl HM6.out.map rfl hiv rfl HGV ?_)
       | (at_mapUpdate;refine wp_store _ rfl _ _ _ rfl HM6.out.map (by unfold maxLen;omega) rfl hix hic rfl rfl ?_;intro w7 hm7 hg7;have HM7:=lh (HM6.out.met (by rw[HGB.out];exact HMP.out) hm7 hg7);clear hm7 hg7))
      have hH7:H≤w7.heap.size:=by obtain⟨_,hb7,_⟩:=HM7.out.queue;exact Nat.le_of_lt (lt_of_block hb7)
      refine (qput_any H H q1 xx w7 hix hH7 hql HM7.out.queue).mono ?_
      rintro e w8 ⟨rfl,hq8,own8,ho8,hc8⟩
      have HM8:=lh (HM7.out.turn (by rw[HGB.out];exact HH0.out) hq8 ho8 hc8)
      clear hq8 ho8 hc8
      go_wp2
      go_roundw
      case rel=>exact⟨k+1,by omega,by go_num,_,_,_,HM8.out,HR⟩
      case measure=>simp[intOf];omega
    have e:k=L.length:=by omega
    subst e
    have HO:=lh (HEND.out f1 m1 q1 hin.out)
    have HFU:=lh hin.out.2.2.2.2.1
    clear hmem hin
    cases q1 with
    | nil =>
     go_wp2_with fail
     refine (qtake_none H H _ HMEM1.out.queue).mono ?_
     rintro e w8 ⟨rfl,rfl⟩
     go_wp2
     go_roundg (gk - 1)
     case measure=>have:=HFU.out;omega
     case rel=>exact⟨lh (Nat.le_trans (Nat.sub_le _ _) hfuel.out),f1,m1,Or.inr ⟨rfl,rfl,HMEM1.out,HO⟩⟩
    | cons x r =>
     go_wp2_with fail
     refine (qtake_some H H x r _ HMEM1.out.queue).mono ?_
     rintro e w8 ⟨rfl,hq8,own8,ho8,hc8⟩
     have HM8:=lh (HMEM1.out.turn (by rw[HGB.out];exact HH0.out) hq8 ho8 hc8)
     clear hq8 ho8 hc8
     go_wp2
     go_roundg (gk - 1)
     case measure=>have:=HFU.out;omega
     case rel=>exact⟨lh (Nat.le_trans (Nat.sub_le _ _) hfuel.out),f1,m1,Or.inl ⟨x,r,rfl,rfl,HM8.out,HO⟩⟩
  have HMEM:=lh hmem
  have HCNT:=lh (show m≤p.v.length by have:=hout.out.1.cnt;omega)
  have HALL:=lh (fun x=>hout.out.1.all (fun u hu=>((hout.out.2.2.1 u hu).resolve_left (by simp))) x)
  clear hmem hout
  go_wp2
  go_ret
  exact⟨mp,m,f,rfl,HMEM.out.map,HALL.out,HMEM.out.chg,by rw[HGB.out];exact HMP.out,HCNT.out⟩
end Go.Proofs.YtkacjmoamgjfpaaGreat
