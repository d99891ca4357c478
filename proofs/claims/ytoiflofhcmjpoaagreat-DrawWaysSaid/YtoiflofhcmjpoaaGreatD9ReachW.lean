/- package walk: the contract of reach: what can be OC to. Conditions: a right part that lies in memory and reads so; of each vertex the ah that leave it; a vertex of the part. -/
import Derived.Test.YtoiflofhcmjpoaaGreatD9Row
import Derived.Deep.LoopGhost
open Or renaming inr→Qa,inl→Qc
open Nat renaming le_trans→Qb
open Go.World renaming ownsInts_nil→Qd
namespace Go.Proofs.YtoiflofhcmjpoaaGreat
open Go.RowKit Go.Maps
theorem SMap.fresh {w w':World} {b n:Nat} {f:Int->List Int} (h:SMap w b n f) (hc:ag [] w w'):SMap w' b n f:=by
 obtain⟨D,ho,hD⟩:=h;refine⟨D,?_,hD⟩;have hb:b<w.heap.size:=SMap.lt ⟨D,ho,hD⟩;exact ho.kept (hc.grownBy (row:=none) (by simp)) (by simp) (fun es clock he x hx=>by cases x.val.ownBlock <;> simp)
set_option maxHeartbeats 2000000 in
theorem bK.Ru {w:World} {b n:Nat} {f:Int->Option Int} (h:bK w b n f) (hn:n<maxLen) {k v:Int} (hk:aU k) (hv:aU v) :
  ∃ w',(Instr.mapUpdate 124 (.map (some b)) (.int .i64 k) (.int .i64 v)).run Tryz.prog w=.ok () w'/\bK w' b (n+1) (fun y=>if y=k then some v else f y)/\w.grownBy w' (some b):=by
 obtain⟨D,bH,hD⟩:=h;obtain⟨w',hr,h1,h2⟩:=bH.update bI Tryz.underlying124 hn (keyOf_int_mk Tryz.underlying3 hk) (plainElem_int Tryz.underlying3 hv);refine⟨w',hr,⟨_,h1,fun y hy=>?_⟩,h2⟩;by_cases e:y=k
 ·subst e
  have nS:=bI.key (keyOf_int_mk Tryz.underlying3 hk);rw[has_put_same bH.isMap nS,atKey_put_same bH.isMap nS];simp
 rw[has_put_other (kJ e),atKey_put_other (kJ e)];simp only[if_neg e];exact hD y hy
theorem rf {ops:Array Oper} {rest:List Oper} {o:Oper} {a:Act} {Q:Exit->Act->World->Prop} {w:World} (hg:o.guard=none) (m x u:Operand) (jM:o.op=Op.insert 124 m x u) {b n:Nat} {f:Int->Option Int} (h:bK w b n f) (hn:n<maxLen) (hm:a.eval m=.map (some b))
  {k v:Int} (hk:aU k) (hv:aU v) (hx:a.eval x=.int .i64 k) (hu:a.eval u=.int .i64 v)
  (hK:∀ w',bK w' b (n+1) (fun y=>if y=k then some v else f y)->w.grownBy w' (some b)->wpList Tryz.prog ops Q rest (a.put o.dst undef) w'):wpList Tryz.prog ops Q (o :: rest) a w:=by
 refine wpList_plain hg fun K ta=>?_;obtain⟨w',hr,h1,h2⟩:=h.Ru hn hk hv;have Fg:=ta (a.put o.dst undef) w' (hK w' h1 h2);unfold Oper.wp;simp[execOp,jM,hm,hx,hu,hr,Result.andThen,Oper.upon];exact Fg
theorem SMap.Dn {w wr:World} {b n:Nat} {f:Int->List Int} (h:SMap w b n f) (hc:ag [] w wr) (hn:n<4294967296) {k:Int} (hk:aU k) :
  ∃ v,(Instr.lookup 97 (.map (some b)) (.int .i64 k) false).run Tryz.prog wr=.ok v wr/\aj w (b+1) v (f k):=by
 obtain⟨D,ho,hD⟩:=h;have js:=keyOf_int_mk Tryz.underlying3 hk;obtain⟨es,clock,hb,F,hs,hDe,O5,hlen,iY⟩:=ho;have AD:=hc.heap hb (by simp);rcases Maps.fit_look false bI Tryz.underlying97 (Ad wr) AD F js with ⟨fS,_,dU⟩ | ⟨e0,y,S7,h3,fS,hR,dU,_⟩
 ·refine⟨_,fS,?_⟩
  have Bl:=dU .nil;rw[<-hDe] at Bl;have e:=SMap.list (v:=.slice none 0 0) (zs:=[]) (hD k hk) Bl (Qd w (b+1) 3 .i64);rw[<-e];exact pG (Qd _ _ _ _) (by simp)
 obtain⟨zs,V2,rfl⟩:=rowElem_inv hR;have Bl:=dU .nil;rw[<-hDe] at Bl;have e:=SMap.list (hD k hk) Bl V2;subst e;exact⟨_,fS,pG V2 (by have:=hlen e0 S7 _ V2;omega)⟩
theorem ni {ops:Array Oper} {rest:List Oper} {o:Oper} {a:Act} {Q:Exit->Act->World->Prop} {w0 w:World} (hg:o.guard=none) (m x:Operand) (jM:o.op=Op.lookup 97 m x false) {b n:Nat} {f:Int->List Int} (h:SMap w0 b n f) (hc:ag [] w0 w) (hn:n<4294967296) (hm:a.eval m=.map (some b)) {k:Int} (hk:aU k) (hx:a.eval x=.int .i64 k)
  (hK:∀ v,aj w0 (b+1) v (f k)->wpList Tryz.prog ops Q rest (a.put o.dst v) w):wpList Tryz.prog ops Q (o :: rest) a w:=by
 refine wpList_plain hg fun K' ta=>?_;obtain⟨v,fS,r1⟩:=h.Dn hc hn hk;unfold Oper.wp;simp[execOp,jM,hm,hx,fS,Result.andThen];exact ta _ _ (hK v r1)
structure mJ (w:World) (gb mp H:Nat) (gv:Array Value) (f:Int->Option Int) (m:Nat) (q:List Int) (wr:World):Prop where
 queue:J4 wr H H q
 aD:ag [] w wr
 map:bK wr mp m f
 box:wr.heap[gb]?=some (.cells gv 24 (0,0))
section
variable {w wr w' : World} {gb mp H : Nat} {gv : Array Value} {f f' : Int -> Option Int} {m m' : Nat} {q q' : List Int}
theorem mJ.aa (h:mJ w gb mp H gv f m q wr) (hH:w.heap.size<=H) {own:List Nat} (hq:J4 w' H H q') (ho:Kz wr H own) (hc:ag own wr w'):mJ w gb mp H gv f m q' w':=by
 refine⟨hq,h.aD.trans hc (fun j hj=>Qa (Qb hH (ho j hj).1)),h.map.aD hc (fun e=>?_),hc.heap h.box (fun e=>?_)⟩
 ·obtain⟨_,cs,t,r,hh,_⟩:=ho _ e
  exact h.map.ne hh rfl
 obtain⟨_,cs,t,r,hh,ht⟩:=ho _ e;rw[h.box] at hh;simp at hh;obtain⟨_,e2,_⟩:=hh;rcases ht with q | q <;> (rw[<-e2] at q;revert q;decide)
theorem mJ.fresh (h:mJ w gb mp H gv f m q wr) (hc:ag [] wr w'):mJ w gb mp H gv f m q w' :=
 ⟨h.queue.aD hc (by simp),h.aD.t hc,h.map.aD hc (by simp),hc.heap h.box (by simp)⟩
theorem mJ.met (h:mJ w gb mp H gv f m q wr) (EH:w.heap.size<=mp) (hm:bK w' mp m' f') (hg:wr.grownBy w' (some mp)):mJ w gb mp H gv f' m' q w':=by
 have hc:ag [mp] wr w':=(ag.refl _ _).grown hg (fun j hj=>by cases hj;exact Qc (by simp));refine⟨h.queue.aD hc (fun j hj cs t r hh=>?_),h.aD.trans hc (fun j hj=>Qa (by simp at hj;omega)),hm,hc.heap h.box (fun e=>?_)⟩
 ·simp at hj
  subst hj;exact h.map.ne hh rfl
 simp at e;exact h.map.ne h.box e
end
def z' (g:Plain.Gr) (p:Plain.Pt) (shut a:Int) (f:Int->Option Int) (m:Nat) (t:List Int) (fuel:Nat):Prop :=
 Plain.KG g p shut a f m/\(∀ u∈t,f u≠none)/\(∀ u,f u≠none->u∈t\/Plain.Jf g p shut f u)/\2*Plain.left p f+t.length<=fuel
def Ah (g:Plain.Gr) (p:Plain.Pt) (shut a:Int) (f:Int->Option Int) (m:Nat) (v:Int) (q L:List Int) (k fuel:Nat):Prop :=
 Plain.KG g p shut a f m/\f v≠none/\(∀ u∈q,f u≠none)/\(∀ u,f u≠none->u=v\/u∈q\/Plain.Jf g p shut f u)/\2*Plain.left p f+q.length+1<=fuel/\∀ i,i<k->g.head (L.getD i 0)=shut\/f (g.head (L.getD i 0))≠none
theorem z'.inner {g:Plain.Gr} {p:Plain.Pt} {shut a v:Int} {f:Int->Option Int} {m fuel:Nat} {q:List Int} (h:z' g p shut a f m (v :: q) fuel) (L:List Int):Ah g p shut a f m v q L 0 fuel:=by
 obtain⟨h1,h2,h3,h4⟩:=h;refine⟨h1,h2 v (by simp),fun u hu=>h2 u (by simp[hu]),fun u hu=>?_,by simp at h4;omega,by simp⟩;rcases h3 u hu with q | q
 ·rcases List.mem_cons.1 q with q | q
  ·exact Qc q
  exact Qa (Qc q)
 exact Qa (Qa q)
theorem Ah.outer {g:Plain.Gr} {p:Plain.Pt} (hp:Plain.aB g p) {shut a v:Int} {f:Int->Option Int} {m fuel:Nat} {q:List Int} (h:Ah g p shut a f m v q (p.ah.filter fun d=>decide (g.tail d=v)) (p.ah.filter fun d=>decide (g.tail d=v)).length fuel):z' g p shut a f m q (fuel - 1):=by
 obtain⟨h1,h2,h3,h4,h5,h6⟩:=h;refine⟨h1,h3,fun u hu=>?_,by omega⟩;rcases h4 u hu with e | e | e
 ·subst e
  right;intro x hx hs;obtain⟨d,hd,rfl⟩:=(Plain.AY hp).1 hx;obtain⟨i,hi,rfl⟩:=Plain.bN hd;exact (h6 i hi).resolve_left hs
 ·exact Qc e
 exact Qa e
theorem Ah.skip {g:Plain.Gr} {p:Plain.Pt} {shut a v:Int} {f:Int->Option Int} {m fuel k:Nat} {q L:List Int} (h:Ah g p shut a f m v q L k fuel) (hk:g.head (L.getD k 0)=shut\/f (g.head (L.getD k 0))≠none):Ah g p shut a f m v q L (k+1) fuel:=by
 obtain⟨h1,h2,h3,h4,h5,h6⟩:=h;refine⟨h1,h2,h3,h4,h5,fun i hi=>?_⟩;by_cases e:i=k
 ·subst e;exact hk
 exact h6 i (by omega)
theorem Ah.add {g:Plain.Gr} {p:Plain.Pt} (hp:Plain.aB g p) {shut a v x c:Int} {f:Int->Option Int} {m fuel k:Nat} {q L:List Int} (h:Ah g p shut a f m v q L k fuel) (hk:g.head (L.getD k 0)=x) (hx:x∈p.v) (hn:Plain.oI g p v x) (hs:x≠shut) (hv:f v=some c) (hf:f x=none) :
  Ah g p shut a (fun y=>if y=x then some (c+1) else f y) (m+1) v (q++[x]) L (k+1) fuel:=by
 obtain⟨h1,h2,h3,h4,h5,h6⟩:=h;have hl:=Plain.qB (f:=f) (c:=c+1) hp.vn hx hf;have up:∀ u,f u≠none->(if u=x then some (c+1) else f u)≠none:=fun u hu=>by by_cases e:u=x <;> simp[e];simpa[e] using hu
 refine⟨h1.add hp hx hn hs hv hf,up v h2,fun u hu=>?_,fun u hu=>?_,by simp;omega,fun i hi=>?_⟩
 ·rcases List.mem_append.1 hu with q | q
  ·exact up u (h3 u q)
  simp at q;subst q;simp
 ·by_cases e:u=x
  ·exact Qa (Qc (by simp[e]))
  rcases h4 u (by simpa[e] using hu) with q | q | q
  ·exact Qc q
  ·exact Qa (Qc (by simp[q]))
  exact Qa (Qa q.add)
 by_cases e:i=k
 ·subst e;right;rw[hk];simp
 exact (h6 i (by omega)).imp id (up _)
set_option maxRecDepth 100000 in
set_option maxHeartbeats 2000000 in
theorem Ka (vg:Value) (g:Plain.Gr) (p:Plain.Pt) (mb n:Nat) (a shut:Int) (w:World) (hn:n<1000000) (_hV:p.v.length<=1000000) (hr:p.err g=0) (ha:a∈p.v) (Ua:aU a) (_hs:aU shut) (hg:dJ w vg g) (hd:SMap w mb n (fun v=>p.ah.filter fun d=>decide (g.tail d=v))) :
  Calls Tryz.prog 169 #[vg,.map (some mb),.int .i64 a,.int .i64 shut] w fun e w'=>∃ b m f,e=.returned (.map (some b))/\bK w' b m f/\(∀ v,f v≠none↔Plain.b9 g p shut a v)/\ag [] w w'/\w.heap.size<=b/\m<=p.v.length:=by
 obtain⟨eo,cap,rfl,iI,hm,dK,aK⟩:=id hg;have HG:=lh hg;have HSD:=lh hd;have mY:=@run_makeMap Tryz.prog;have HM:=lh (bK.made (w.alloc (.cells #[.int .i64 g.n,.slice eo g.e.length cap] 24)));have Th:=lh ((ag.refl [] w).alloc (.cells #[.int .i64 g.n,.slice eo g.e.length cap] 24));have Ch:=lh (heap_alloc_new w (.cells #[.int .i64 g.n,.slice eo g.e.length cap] 24 (0,0)));clear aK dK hg hd iI;have wJ:(w.alloc (.cells #[.int .i64 g.n,.slice eo g.e.length cap] 24)).heap.size=w.heap.size+1:=by simp
 rw[wJ] at HM;have Cv:=lh wJ;clear wJ
 go_enter Tryz.func169,Tryz.ntmps169
 go_wp2_with (refine rf rfl _ _ _ rfl HM.out (by unfold maxLen;omega) rfl Ua (aU.mk (by omega) (by omega)) rfl rfl ?_;intro w2 jo Cz;have mr:=lh jo;have FM:=lh Cz;clear jo Cz)
 have cB:=lh (((Th.out.alloc (.map #[] 0)).grown FM.out (row:=some (w.heap.size+1)) (fun k hk=>by cases hk;exact Qa (by omega))));have Ml:=lh (show w2.heap[w.heap.size]?=some (.cells #[.int .i64 g.n,.slice eo g.e.length cap] 24 (0,0)) from ((ag.refl [w.heap.size+1] _).grown FM.out (row:=some (w.heap.size+1)) (fun k hk=>by cases hk;exact Qc (by simp))).heap (((ag.refl [] _).alloc (.map #[] 0)).heap Ch.out (by simp)) (by simp));clear HM FM Ch mY Cv;refine (xT w2).mono ?_;rintro e w3 ⟨rfl,TX,cT⟩;have KS:=lh TX;have cU:=lh (cB.out.t cT);have Lf:=lh (mr.out.aD cT (by simp));have FH:=lh (cT.heap Ml.out (by simp));have HH:=lh cT.size;have KY:=lh cB.out.size;clear TX cT mr Ml cB Th;generalize hHe:w2.heap.size=H at *
 go_wp2_with fail
 refine (qq H H [] a w3 Ua HH.out (by simp) KS.out).mono ?_;rintro e w4 ⟨rfl,hq4,own4,ho4,gR⟩;have HQ4:=lh hq4;have iO:=lh (cU.out.trans gR (fun j hj=>Qa (Qb KY.out (ho4 j hj).1)));have nm4:w.heap.size+1 ∉ own4:=fun e=>by obtain⟨_,cs,t,r,hh,_⟩:=ho4 _ e;exact Lf.out.ne hh rfl
 have ng4:w.heap.size ∉ own4:=fun e=>by obtain⟨_,cs,t,r,hh,ht⟩:=ho4 _ e;rw[FH.out] at hh;simp at hh;obtain⟨_,e2,_⟩:=hh;rcases ht with q | q <;> (rw[<-e2] at q;revert q;decide)
 have U8:=lh (Lf.out.aD gR nm4);have E3:=lh (gR.heap FH.out ng4);clear hq4 ho4 gR nm4 ng4 Lf FH cU KS
 go_wp2_with fail
 refine (lP H H a [] w4 HQ4.out).mono ?_;rintro e w5 ⟨rfl,hq5,own5,Gm,eO⟩;have OP:=lh hq5;have ga:=lh (iO.out.trans eO (fun j hj=>Qa (Qb KY.out (Gm j hj).1)));have nm5:w.heap.size+1 ∉ own5:=fun e=>by obtain⟨_,cs,t,r,hh,_⟩:=Gm _ e;exact U8.out.ne hh rfl
 have ng5:w.heap.size ∉ own5:=fun e=>by obtain⟨_,cs,t,r,hh,ht⟩:=Gm _ e;rw[E3.out] at hh;simp at hh;obtain⟨_,e2,_⟩:=hh;rcases ht with q | q <;> (rw[<-e2] at q;revert q;decide)
 have Ia:=lh (U8.out.aD eO nm5);have Nw:=lh (eO.heap E3.out ng5);clear hq5 Gm eO nm5 ng5 U8 E3 iO HQ4;go_wp2;have nN:=lh (Plain.Pt.ay hr);have Hw:=lh (Plain.iK (Plain.Pt.aA hr).2.1);have iE:=lh (Plain.Gr.aA (Plain.Pt.aA hr).1);have s9:=lh (Plain.Pt.aA hr).2.2.1;have HAV:=lh ha;have uk:=lh (mJ.mk (w:=w) (gb:=w.heap.size) (mp:=w.heap.size+1) (H:=H) OP.out ga.out Ia.out Nw.out);have wZ:=lh (show z' g p shut a (fun y=>if y=a then some 0 else none) (0+1) [a] (2*p.v.length+2) from⟨Plain.KG.start nN.out ha,by simp,fun u hu=>Qc (by by_cases e:u=a <;> simp[e] at hu ⊢),by have:=(Plain.KG.start (g:=g) (shut:=shut) nN.out ha).fe;simp;omega⟩);have PL:=lh (show w.heap.size<=w.heap.size+1 by omega);have tT:∀ u∈p.v,0<=u/\u<1025:=fun u hu=>by have:=nN.out.vr u hu;have:=iE.out.2.1;omega
 have fP:=lh tT;clear hr ha OP ga Ia Nw hHe tT;generalize KC:w.heap.size=gb at *;generalize EH:gb+1=mp at *;have Ch:=lh KC;have vf:=lh EH;clear KC EH
 go_loopg [12,13] (2*p.v.length+2) (fun fuel GF KT wr=>Hid (fuel<=2*p.v.length+2)/\∃ f m,(∃ v q,GF=.int .i64 v/\KT=.bool true/\mJ w gb mp H #[.int .i64 g.n,.slice eo g.e.length cap] f m q wr/\Hid (z' g p shut a f m (v :: q) fuel))\/(GF=.int .i64 0/\KT=.bool false/\mJ w gb mp H #[.int .i64 g.n,.slice eo g.e.length cap] f m [] wr/\Hid (z' g p shut a f m [] fuel)))
 case atStart=>exact⟨lh (Nat.le_refl _),_,_,Qc ⟨a,[],rfl,rfl,uk.out,wZ⟩⟩
 case round =>
  obtain⟨tM,f,m,⟨v,q,rfl,rfl,cL,fg⟩ | ⟨rfl,rfl,cL,fg⟩⟩:=hrel
  ·have qS:=lh cL
   have MU:=fg.out.1.Oo v (fg.out.2.1 v (by simp));have hvs:=fP.out v MU;have Iv:aU v:=aU.mk (by omega) (by omega);have DE:=lh cL.aD;clear cL MU
   go_wp2_with (at_lookup;refine ni rfl _ _ rfl HSD.out DE.out (by omega) rfl Iv rfl ?_;intro vv r0;obtain⟨vo,vc,rfl⟩:=r0.shape;have R0:=lh r0;clear r0)
   have Xu:=lh (fg.out.inner (p.ah.filter fun d=>decide (g.tail d=v)));have UE:=lh (show ∀ d∈p.ah.filter fun d=>decide (g.tail d=v),d∈p.ah/\g.tail d=v from fun d hd=>by have:=List.mem_filter.1 hd;exact⟨this.1,by simpa using this.2⟩);have FY:=lh (fun (f':Int->Option Int) (m':Nat) (q':List Int) (h:Ah g p shut a f' m' v q' (p.ah.filter fun d=>decide (g.tail d=v)) (p.ah.filter fun d=>decide (g.tail d=v)).length gk)=>Ah.outer nN.out h);clear fg;generalize (p.ah.filter fun d=>decide (g.tail d=v))=L at *;have VN:L.length<4294967296:=R0.out.2.2
   go_loopw [44] (fun c wr=>∃ k:Nat,k<=L.length/\c=.int .i64 k/\∃ f m q,mJ w gb mp H #[.int .i64 g.n,.slice eo g.e.length cap] f m q wr/\Hid (Ah g p shut a f m v q L k gk)) (fun c _=>L.length - (intOf c).toNat)
   case atStart=>exact⟨0,Nat.zero_le _,rfl,f,m,q,qS.out,Xu⟩
   case round =>
    obtain⟨k,hk,rfl,f1,m1,q1,cL,fp⟩:=hrel;have kH:=lh cL;by_cases aL:k<L.length
    ·obtain⟨gr,Z0,sC⟩:=R0.out.some (by omega)
     subst Z0;have ck:=cL.aD.c (sC k aL);have x0:=(cell_of_row _ _ 0 _ _ _ cL.box).trans (show _=some (Value.int .i64 g.n) from rfl);have x1:=(cell_of_row _ _ 1 _ _ _ cL.box).trans (show _=some (Value.slice eo g.e.length cap) from rfl);obtain⟨lC,Fp⟩:=UE.out (L.getD k 0) (by simp[List.getD,aL]);have xz:=(nN.out.aO lC).2;have A5:=fP.out _ xz;have qN:aU (g.head (L.getD k 0)):=aU.mk (by omega) (by omega);have jI:=Plain.eR (g:=g) lC;rw[Fp] at jI;obtain⟨ee,qO,UP⟩:∃ ee:Nat,ee<g.e.length/\L.getD k 0 / 2=(ee:Int):=by
      obtain⟨i,hi,e⟩:=Plain.bN (Plain.aw.1 lC);have:=Plain.bX s9.out hi;exact⟨(L.getD k 0 / 2).toNat,by omega,by omega⟩
     obtain⟨dn,nP⟩:∃ dn:Nat,L.getD k 0=(dn:Int):=⟨(L.getD k 0).toNat,by omega⟩;have Xv:dn / 2<g.e.length:=by omega
     have Nv:g.e.length<4294967296:=by have:=iE.out.2.2.1;have:=iE.out.1;omega
     have Gp:=lh (fun h=>Ah.skip (k:=k) fp.out h);have Yd:=lh (fun c hs hv hf=>Ah.add (x:=g.head (L.getD k 0)) (c:=c) nN.out fp.out rfl xz jI hs hv hf);have EJ:=lh fp.out.1.fe;have DS:=lh fp.out.1.val;have vy:=lh fp.out.2.2.2.2.1;obtain⟨cv,rX⟩:=Option.ne_none_iff_exists'.1 fp.out.2.1;have Yv:=lh rX;obtain⟨xx,MF⟩:∃ xx,g.head (L.getD k 0)=xx:=⟨_,rfl⟩;have HHD:=lh (show g.head (dn:Int)=xx by rw[<-nP];exact MF);rw[MF] at Gp Yd qN;rw[nP] at ck;have oF:=lh qO;clear sC lC Fp xz A5 jI UP nP MF fp rX qO
     go_wp2_with fail
     refine (lX _ g dn _ Xv Nv (HG.out.fresh kH.out.aD)).mono ?_;rw[HHD.out];rintro e w6 ⟨rfl,hc6⟩;have uK:=lh (kH.out.fresh hc6);clear hc6 cL ck x0 x1;cases xG:f1 xx with
     | some c0 =>
      have HF:=lh xG;have HR:=lh (Gp.out (Qa (by rw[xG];simp)));clear xG
      go_wp2_with (at_lookup;refine eG _ rfl _ _ rfl uK.out.map rfl qN rfl HF ?_)
      go_roundw
      case rel=>exact⟨k+1,by omega,by go_num,f1,m1,q1,uK.out,HR⟩
      case measure=>simp[intOf];omega
     | none =>
      have HF:=lh xG;by_cases AA:xx=shut
      ·have HR:=lh (Gp.out (Qc AA))
       have hb:(xx==shut)=true:=by rw[beq_iff_eq];exact AA
       clear xG AA
       go_wp2_with (at_lookup;refine di _ rfl _ _ rfl uK.out.map rfl qN rfl HF ?_)
       go_roundw
       case rel=>exact⟨k+1,by omega,by go_num,f1,m1,q1,uK.out,HR⟩
       case measure=>simp[intOf];omega
      have HR:=lh (Yd.out cv AA Yv.out xG);have hb:(xx==shut)=false:=by rw[beq_eq_false_iff_ne];exact AA
      have xu:=DS.out v cv Yv.out;have aiK:0<=cv/\cv<=1000000:=by omega
      have nT:m1<1000001:=by have:=EJ.out;omega
      have Ky:q1.length+1<4294967296:=by have:=vy.out;have:=tM.out;omega
      have HGV:=lh (show (f1 v).getD 0=cv by rw[Yv.out];rfl);have Wr:aU (cv+1):=aU.mk (by omega) (by omega);have fM:True:=trivial;clear xG AA xu
      go_wp2_with (first
       | (at_lookup;have _t:=fM;refine di _ rfl _ _ rfl uK.out.map rfl qN rfl HF ?_;clear fM)
       | (at_lookup;refine iZ _ rfl _ _ rfl uK.out.map rfl Iv rfl HGV ?_)
       | (at_mapUpdate;refine gF _ rfl _ _ _ rfl uK.out.map (by unfold maxLen;omega) rfl qN Wr rfl rfl ?_;intro w7 GP Hd;have B9:=lh (uK.out.met (by rw[Ch.out];exact PL.out) GP Hd);clear GP Hd))
      have hH7:H<=w7.heap.size:=by obtain⟨_,O1,_⟩:=B9.out.queue;exact Nat.le_of_lt (lt_of_block O1)
      refine (qq H H q1 xx w7 qN hH7 Ky B9.out.queue).mono ?_;rintro e w8 ⟨rfl,hq8,own8,ho8,hc8⟩;have Sm:=lh (B9.out.aa (by rw[Ch.out];exact KY.out) hq8 ho8 hc8);clear hq8 ho8 hc8;go_wp2
      go_roundw
      case rel=>exact⟨k+1,by omega,by go_num,_,_,_,Sm.out,HR⟩
      case measure=>simp[intOf];omega
    have e:k=L.length:=by omega
    subst e;have HO:=lh (FY.out f1 m1 q1 fp.out);have Ug:=lh fp.out.2.2.2.2.1;clear cL fp;cases q1 with
    | nil =>
     go_wp2_with fail
     refine (vU H H _ kH.out.queue).mono ?_;rintro e w8 ⟨rfl,rfl⟩;go_wp2
     go_roundg (gk - 1)
     case measure=>have:=Ug.out;omega
     case rel=>exact⟨lh (Qb (Nat.sub_le _ _) tM.out),f1,m1,Qa ⟨rfl,rfl,kH.out,HO⟩⟩
    | cons x r =>
     go_wp2_with fail
     refine (lP H H x r _ kH.out.queue).mono ?_;rintro e w8 ⟨rfl,hq8,own8,ho8,hc8⟩;have Sm:=lh (kH.out.aa (by rw[Ch.out];exact KY.out) hq8 ho8 hc8);clear hq8 ho8 hc8;go_wp2
     go_roundg (gk - 1)
     case measure=>have:=Ug.out;omega
     case rel=>exact⟨lh (Qb (Nat.sub_le _ _) tM.out),f1,m1,Qc ⟨x,r,rfl,rfl,Sm.out,HO⟩⟩
  have qS:=lh cL;have VG:=lh (show m<=p.v.length by have:=fg.out.1.fe;omega);have zI:=lh (fun x=>fg.out.1.all (fun u hu=>((fg.out.2.2.1 u hu).resolve_left (by simp))) x);clear cL fg;go_wp2;go_ret;exact⟨mp,m,f,rfl,qS.out.map,zI.out,qS.out.aD,by rw[Ch.out];exact PL.out,VG.out⟩
end Go.Proofs.YtoiflofhcmjpoaaGreat
