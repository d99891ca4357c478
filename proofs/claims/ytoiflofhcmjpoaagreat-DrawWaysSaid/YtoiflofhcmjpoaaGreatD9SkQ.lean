/- draw's sketch: choose: contract. Conditions: dt that lie in memory and read so. -/
import Derived.Test.YtoiflofhcmjpoaaGreatD9SkP
open List renaming drop_eq_getElem_cons→Qa,getD→Qc,drop_length→Qd,any_eq_true→Qe
open Nat renaming le_trans→Qb,le_refl→Qh
open Or renaming inr→Qf,inl→Qg
open Go.Value renaming slice→Qi
namespace Go.Proofs.YtoiflofhcmjpoaaGreat
open Go.RowKit Go.Maps
namespace Plain
def pick:List a8->Option Nat
 | []=>none
 | c :: l=>if c.ak.length=1 then some 0 else (pick l).map (·+1)
def fw (R:List a8) (j:Nat):Nat:=match pick (R.drop j) with | some k=>j+k | none=>0
def lost (R:List a8):Bool:=R.any fun c=>decide (c.ak.length=0)
def choose (R:List a8):Option Nat:=if lost R then none else some (fw R 0)
theorem CO {R:List a8} {j:Nat} (hj:j<R.length):R.drop j=R.getD j ⟨[],[],[]⟩ :: R.drop (j+1):=by
 rw[Qa hj]
 grind
theorem FB {R:List a8} {j:Nat} (hj:j<R.length) (h:(R.getD j ⟨[],[],[]⟩).ak.length=1):fw R j=j:=by
 grind [fw,CO,pick]
theorem B0 {R:List a8} {j:Nat} (hj:j<R.length) (h:(R.getD j ⟨[],[],[]⟩).ak.length≠1):fw R j=fw R (j+1):=by
 grind [fw,CO,pick,al.drop]
theorem E4 (R:List a8):fw R R.length=0:=by
 unfold fw;rw[Qd];rfl
theorem MP {R:List a8} {j:Nat} (hj:j<R.length) (h:(R.getD j ⟨[],[],[]⟩).ak.length=0):choose R=none:=by
 grind [choose,lost]
theorem I' {R:List a8} (h:∀ j,0<=j->j<R.length->(R.getD j ⟨[],[],[]⟩).ak.length≠0):choose R=some (fw R 0):=by
 unfold choose lost;refine if_neg fun q=>?_;obtain⟨c,hc,h2⟩:=Qe.1 q;obtain⟨j,hj,rfl⟩:=List.mem_iff_getElem.1 hc
 grind
theorem GJ:∀ {L:List a8} {k:Nat},pick L=some k->k<L.length
 | [],_,h=>by cases h
 | c :: l,k,h=>by
  rw[pick] at h;split at h
  ·cases h;simp
  cases hq:pick l with
  | none=>rw[hq] at h;cases h
  | some m =>
   rw[hq] at h;cases h;have:=GJ hq;simp only[List.length_cons];omega
theorem Kv {R:List a8} (h:0<R.length) (j:Nat):fw R j<R.length:=by
 unfold fw;cases hq:pick (R.drop j) with
 | none=>exact h
 | some k =>
  have h1:=GJ hq
  grind
theorem De {R:List a8} {i:Nat} (h0:R≠[]) (h:choose R=some i):i<R.length/\(R.getD i ⟨[],[],[]⟩).ak≠[]:=by
 unfold choose at h;split at h
 ·cases h
 rename_i hn;cases h;have hl:fw R 0<R.length:=Kv (List.length_pos_iff.2 h0) 0;refine⟨hl,fun q=>hn ?_⟩;exact Qe.2 ⟨_,by rw[show R.getD (fw R 0) ⟨[],[],[]⟩=R[fw R 0] by simp[Qc,hl]] at q;exact List.getElem_mem hl,decide_eq_true (by rw[show R.getD (fw R 0) ⟨[],[],[]⟩=R[fw R 0] by simp[Qc,hl]] at q;rw[q];rfl)⟩
end Plain
theorem zK {R:List Plain.a8} {j:Nat} (hj:j<R.length):(dF R)[3*j]?=some (.row (R.getD j ⟨[],[],[]⟩).aq)/\(dF R)[3*j+1]?=some (.row (R.getD j ⟨[],[],[]⟩).ends)/\(dF R)[3*j+2]?=some (.row (R.getD j ⟨[],[],[]⟩).ak):=by
 induction R generalizing j with
 | nil=>simp at hj
 | cons c l ih =>
  have hs:dF (c :: l)=.row c.aq :: .row c.ends :: .row c.ak :: dF l:=by simp[dF]
  rw[hs];cases j with
  | zero=>exact⟨rfl,rfl,rfl⟩
  | succ j =>
   grind
def pt (R:List Plain.a8):Value:=match Plain.choose R with | some i=>.tuple #[.int .i64 (i:Nat),.bool true] | none=>.tuple #[.int .i64 0,.bool false]
theorem qw {R:List Plain.a8} {i:Nat} (h:Plain.choose R=some i):pt R=.tuple #[.int .i64 (i:Nat),.bool true]:=by grind [pt]
theorem pS {R:List Plain.a8} (h:Plain.choose R=none):pt R=.tuple #[.int .i64 0,.bool false]:=by grind [pt]
set_option maxRecDepth 100000 in
set_option maxHeartbeats 2000000 in
theorem FU (sb B:Nat) (rv:Value) (ys:List Value) (R:List Plain.a8) (w:World) (hRl:R.length<1000000) (hq:w.cell? ⟨sb,4,none⟩=some rv) (hN:bu w B 162 3 rv R.length ys (dF R)) :
  Calls Tryz.prog 83 #[.pointer (some ⟨sb,0,none⟩)] w fun e w'=>e=.returned (pt R)/\w'=w:=by
 have HQ:=lh hq;have HN:=lh hN;obtain⟨ro,rc,rfl⟩:=hN.shape;clear hN
 go_enter Tryz.func83,Tryz.ntmps83
 go_wp2_with fail
 go_loopw [4,5] (fun c4 c5 wr=>∃ j b:Nat,j<=R.length/\b<1000000/\c4=.int .i64 b/\c5=.int .i64 ((j:Int) - 1)/\Hid (b=Plain.fw R j)/\Hid (∀ i,j<=i->i<R.length->(R.getD i ⟨[],[],[]⟩).ak.length≠0)/\wr=w) (fun _ c _=>(intOf c+1).toNat)
 case atStart=>exact⟨R.length,0,Qh _,by omega,rfl,rfl,lh (Plain.E4 R).symm,lh (by omega),rfl⟩
 case round =>
  obtain⟨j,b,hj,hb,rfl,rfl,HP,HZ,rfl⟩:=hrel;rcases j with _ | j
  ·have DE:=lh (Plain.I' HZ.out)
   go_wp2;refine bodyPost_ret (v:=.tuple #[.int .i64 b,.bool true]) (by simp[results,Tryz.results83,go_sem]) rfl ?_;refine⟨?_,rfl⟩;rw[qw DE.out,<-HP.out]
  have PY:j<R.length:=by omega
  have hjj:(j:Int)<(R.length:Int):=by omega
  rw[show ((j+1:Nat):Int) - 1=(j:Int) by omega];obtain⟨rb,rc2,TE⟩:=cD HN.out.out (by omega);simp only[Qi.injEq,true_and] at TE;obtain⟨rfl,rfl⟩:=TE;have aK:=HN.out.cell (k:=3*j+2) (by rw[HN.out.cells];omega);have aJ:=HN.out.row (zK PY).2.2;obtain⟨uo,uc,eu⟩:=aJ.shape;rw[eu] at aK;have wF:=aJ.2.2;have oZ:wr.cell? ⟨rb,j*3+2,none⟩=some (.slice uo (R.getD j ⟨[],[],[]⟩).ak.length uc):=by grind
  have H0:=lh (fun h=>Plain.MP (R:=R) PY h);have H1:=lh (fun h=>Plain.FB (R:=R) PY h);have H2:=lh (fun h=>Plain.B0 (R:=R) PY h);have HZ2:=lh (fun (h:(R.getD j ⟨[],[],[]⟩).ak.length≠0) i (h1:j<=i) (h2:i<R.length)=>(show (R.getD i ⟨[],[],[]⟩).ak.length≠0 from by
   by_cases e:i=j
   ·rw[e];exact h
   exact HZ.out i (by omega) h2))
  obtain⟨n,hn⟩:∃ n,(R.getD j ⟨[],[],[]⟩).ak.length=n:=⟨_,rfl⟩;rw[hn] at oZ wF H0 H1 H2 HZ2;clear aK aJ eu hn;rcases n with _ | _ | n
  ·have DE:=lh (H0.out rfl)
   go_wp2;refine bodyPost_ret (v:=.tuple #[.int .i64 0,.bool false]) (by simp[results,Tryz.results83,go_sem]) rfl ?_;refine⟨?_,rfl⟩;rw[pS DE.out]
  ·have DE:=lh (H1.out rfl)
   have HZ3:=lh (HZ2.out (by omega));go_wp2
   go_roundw
   case rel=>exact⟨j,j,by omega,by omega,rfl,by go_num,lh DE.out.symm,HZ3,trivial⟩
   case measure=>simp[intOf]
  have DE:=lh (H2.out (by omega));have HZ3:=lh (HZ2.out (by omega));have N5:((n+1+1:Nat):Int)≠0:=by omega
  have xC:((n+1+1:Nat):Int)≠1:=by omega
  generalize n+1+1=m at *;go_wp2
  go_roundw
  case rel=>exact⟨j,b,by omega,hb,rfl,by go_num,lh (by rw[HP.out,DE.out]),HZ3,trivial⟩
  case measure=>simp[intOf]
namespace Plain
def uV (g:Gr) (shut c:Int):List Int->(Int->Option Int) × List Int->(Int->Option Int) × List Int
 | [],s=>s
 | d :: L,s=>uV g shut c L (if (s.1 (g.head d)).isSome=true\/g.head d=shut then s else (fun y=>if y=g.head d then some (c+1) else s.1 y,s.2++[g.head d]))
def uT (g:Gr) (p:Pt) (shut:Int):Nat->(Int->Option Int)->List Int->(Int->Option Int)
 | 0,f,_=>f
 | _+1,f,[]=>f
 | n+1,f,v :: q=>uT g p shut n (uV g shut ((f v).getD 0) (p.ah.filter fun d=>decide (g.tail d=v)) (f,q)).1 (uV g shut ((f v).getD 0) (p.ah.filter fun d=>decide (g.tail d=v)) (f,q)).2
def dD (g:Gr) (p:Pt) (shut a:Int):Int->Option Int:=uT g p shut (2*p.v.length+2) (fun y=>if y=a then some 0 else none) [a]
structure mO (g:Gr) (p:Pt) (a:Int) (f:Int->Option Int):Prop where
 base:f a=some 0
 zero:∀ u c,f u=some c->u≠a->1<=c
 prev:∀ u c,f u=some c->u≠a->∃ d∈p.ah,g.tail d=u/\f (g.head d)=some (c - 1)
 low:∀ u c,f u=some c->0<=c
theorem mO.start (g:Gr) (p:Pt) (a:Int):mO g p a (fun y=>if y=a then some 0 else none):=by
 refine⟨by simp,fun u c h hn=>?_,fun u c h hn=>?_,fun u c h=>?_⟩
 ·simp[hn] at h
 ·simp[hn] at h
 by_cases e:u=a
 ·simp[e] at h;omega
 simp[e] at h
theorem mO.add {g:Gr} {p:Pt} {a v x c d:Int} {f:Int->Option Int} (h:mO g p a f) (hd:d∈p.ah) (ht:g.tail d=v) (hx:g.head d=x) (hv:f v=some c) (hf:f x=none):mO g p a (fun y=>if y=x then some (c+1) else f y):=by
 have YD:a≠x:=fun e=>by rw[<-e,h.base] at hf;cases hf
 have hvx:v≠x:=fun e=>by rw[<-e,hv] at hf;cases hf
 have hc:=h.low v c hv;have keep:∀ z e,f z=some e->(if z=x then some (c+1) else f z)=some e:=fun z e he=>by
  rw[if_neg (fun q=>by rw[q,hf] at he;cases he)];exact he
 refine⟨keep _ _ h.base,fun u e hu hn=>?_,fun u e hu hn=>?_,fun u e hu=>?_⟩
 ·by_cases q:u=x
  ·simp[q] at hu;omega
  exact h.zero u e (by simpa[q] using hu) hn
 ·by_cases q:u=x
  ·simp[q] at hu
   subst hu;refine⟨aT d,bQ hd,by rw[aS,hx,q],?_⟩;have h1:g.head (aT d)=v:=by rw[<-aS,bC,ht]
   show (if g.head (aT d)=x then some (c+1) else f (g.head (aT d)))=_;rw[h1,keep v c hv]
   congr 1;omega
  obtain⟨d',h1,h2,h3⟩:=h.prev u e (by simpa[q] using hu) hn;exact⟨d',h1,h2,keep _ _ h3⟩
 by_cases q:u=x
 ·simp[q] at hu;omega
 exact h.low u e (by simpa[q] using hu)
def DZ (g:Gr) (p:Pt) (shut a:Int) (f:Int->Option Int) (q:List Int) (fuel:Nat):Prop:=uT g p shut fuel f q=dD g p shut a/\mO g p a f
def Kk (g:Gr) (p:Pt) (shut a:Int) (f:Int->Option Int) (v:Int) (c:Int) (q L:List Int) (k fuel:Nat):Prop :=
 f v=some c/\uT g p shut (fuel - 1) (uV g shut c (L.drop k) (f,q)).1 (uV g shut c (L.drop k) (f,q)).2=dD g p shut a/\mO g p a f
theorem DZ.inner {g:Gr} {p:Pt} {shut a v c:Int} {f:Int->Option Int} {q:List Int} {fuel:Nat} (h:DZ g p shut a f (v :: q) fuel) (hv:f v=some c) (h1:1<=fuel):Kk g p shut a f v c q (p.ah.filter fun d=>decide (g.tail d=v)) 0 fuel:=by
 obtain⟨n,rfl⟩:∃ n,fuel=n+1:=⟨fuel - 1,by omega⟩;have h2:=h.1;rw[uT,hv] at h2;exact⟨hv,h2,h.2⟩
theorem rL {L:List Int} {k:Nat} (hk:k<L.length):L.drop k=L.getD k 0 :: L.drop (k+1):=by
 rw[Qa hk];simp[Qc,hk]
theorem Kk.skip {g:Gr} {p:Pt} {shut a v c:Int} {f:Int->Option Int} {q L:List Int} {k fuel:Nat} (h:Kk g p shut a f v c q L k fuel) (hk:k<L.length) (hx:g.head (L.getD k 0)=shut\/f (g.head (L.getD k 0))≠none):Kk g p shut a f v c q L (k+1) fuel:=by
 obtain⟨h1,h2,h3⟩:=h;rw[rL hk,uV,if_pos (hx.symm.imp (fun r=>Option.isSome_iff_ne_none.2 r) id)] at h2;exact⟨h1,h2,h3⟩
theorem Kk.add {g:Gr} {p:Pt} {shut a v c x:Int} {f:Int->Option Int} {q L:List Int} {k fuel:Nat} (h:Kk g p shut a f v c q L k fuel) (hk:k<L.length) (hx:g.head (L.getD k 0)=x) (hd:L.getD k 0∈p.ah) (ht:g.tail (L.getD k 0)=v) (hs:x≠shut) (hf:f x=none):Kk g p shut a (fun y=>if y=x then some (c+1) else f y) v c (q++[x]) L (k+1) fuel:=by
 obtain⟨h1,h2,h3⟩:=h;rw[rL hk,uV,hx,if_neg (by simp[hf,hs])] at h2;refine⟨?_,h2,h3.add hd ht hx h1 hf⟩;show (if v=x then some (c+1) else f v)=some c;rw[if_neg (fun e=>by rw[<-e,h1] at hf;cases hf)];exact h1
theorem Kk.outer {g:Gr} {p:Pt} {shut a v c:Int} {f:Int->Option Int} {q L:List Int} {fuel:Nat} (h:Kk g p shut a f v c q L L.length fuel):DZ g p shut a f q (fuel - 1):=by
 obtain⟨h1,h2,h3⟩:=h;rw[Qd] at h2;exact⟨h2,h3⟩
theorem DZ.last {g:Gr} {p:Pt} {shut a:Int} {f:Int->Option Int} {fuel:Nat} (h:DZ g p shut a f [] fuel):f=dD g p shut a:=by
 rw[<-h.1];cases fuel <;> rfl
end Plain
set_option maxRecDepth 100000 in
set_option maxHeartbeats 2000000 in
theorem Jo (vg:Value) (g:Plain.Gr) (p:Plain.Pt) (mb n:Nat) (a shut:Int) (w:World) (hn:n<1000000) (_hV:p.v.length<=1000000) (hr:p.err g=0) (ha:a∈p.v) (Ua:aU a) (_hs:aU shut) (hg:dJ w vg g) (hd:SMap w mb n (fun v=>p.ah.filter fun d=>decide (g.tail d=v))) :
  Calls Tryz.prog 169 #[vg,.map (some mb),.int .i64 a,.int .i64 shut] w fun e w'=>∃ b m,e=.returned (.map (some b))/\bK w' b m (Plain.dD g p shut a)/\(∀ v,Plain.dD g p shut a v≠none↔Plain.b9 g p shut a v)/\Plain.mO g p a (Plain.dD g p shut a)/\(∀ v c,Plain.dD g p shut a v=some c->c<=p.v.length)/\ag [] w w'/\w.heap.size<=b/\m<=p.v.length:=by
 obtain⟨eo,cap,rfl,iI,hm,dK,aK⟩:=id hg;have HG:=lh hg;have HSD:=lh hd;have mY:=@run_makeMap Tryz.prog;have HM:=lh (bK.made (w.alloc (.cells #[.int .i64 g.n,.slice eo g.e.length cap] 24)));have Th:=lh ((ag.refl [] w).alloc (.cells #[.int .i64 g.n,.slice eo g.e.length cap] 24));have Ch:=lh (heap_alloc_new w (.cells #[.int .i64 g.n,.slice eo g.e.length cap] 24 (0,0)));clear aK dK hg hd iI;have wJ:(w.alloc (.cells #[.int .i64 g.n,.slice eo g.e.length cap] 24)).heap.size=w.heap.size+1:=by simp
 rw[wJ] at HM;have Cv:=lh wJ;clear wJ
 go_enter Tryz.func169,Tryz.ntmps169
 go_wp2_with (refine rf rfl _ _ _ rfl HM.out (by unfold maxLen;omega) rfl Ua (aU.mk (by omega) (by omega)) rfl rfl ?_;intro w2 jo Cz;have mr:=lh jo;have FM:=lh Cz;clear jo Cz)
 have cB:=lh (((Th.out.alloc (.map #[] 0)).grown FM.out (row:=some (w.heap.size+1)) (fun k hk=>by cases hk;exact Qf (by omega))));have Ml:=lh (show w2.heap[w.heap.size]?=some (.cells #[.int .i64 g.n,.slice eo g.e.length cap] 24 (0,0)) from ((ag.refl [w.heap.size+1] _).grown FM.out (row:=some (w.heap.size+1)) (fun k hk=>by cases hk;exact Qg (by simp))).heap (((ag.refl [] _).alloc (.map #[] 0)).heap Ch.out (by simp)) (by simp));clear HM FM Ch mY Cv;refine (xT w2).mono ?_;rintro e w3 ⟨rfl,TX,cT⟩;have KS:=lh TX;have cU:=lh (cB.out.t cT);have Lf:=lh (mr.out.aD cT (by simp));have FH:=lh (cT.heap Ml.out (by simp));have HH:=lh cT.size;have KY:=lh cB.out.size;clear TX cT mr Ml cB Th;generalize hHe:w2.heap.size=H at *
 go_wp2_with fail
 refine (qq H H [] a w3 Ua HH.out (by simp) KS.out).mono ?_;rintro e w4 ⟨rfl,hq4,own4,ho4,gR⟩;have HQ4:=lh hq4;have iO:=lh (cU.out.trans gR (fun j hj=>Qf (Qb KY.out (ho4 j hj).1)));have nm4:w.heap.size+1 ∉ own4:=fun e=>by obtain⟨_,cs,t,r,hh,_⟩:=ho4 _ e;exact Lf.out.ne hh rfl
 have ng4:w.heap.size ∉ own4:=fun e=>by obtain⟨_,cs,t,r,hh,ht⟩:=ho4 _ e;rw[FH.out] at hh;simp at hh;obtain⟨_,e2,_⟩:=hh;rcases ht with q | q <;> (rw[<-e2] at q;revert q;decide)
 have U8:=lh (Lf.out.aD gR nm4);have E3:=lh (gR.heap FH.out ng4);clear hq4 ho4 gR nm4 ng4 Lf FH cU KS
 go_wp2_with fail
 refine (lP H H a [] w4 HQ4.out).mono ?_;rintro e w5 ⟨rfl,hq5,own5,Gm,eO⟩;have OP:=lh hq5;have ga:=lh (iO.out.trans eO (fun j hj=>Qf (Qb KY.out (Gm j hj).1)));have nm5:w.heap.size+1 ∉ own5:=fun e=>by obtain⟨_,cs,t,r,hh,_⟩:=Gm _ e;exact U8.out.ne hh rfl
 have ng5:w.heap.size ∉ own5:=fun e=>by obtain⟨_,cs,t,r,hh,ht⟩:=Gm _ e;rw[E3.out] at hh;simp at hh;obtain⟨_,e2,_⟩:=hh;rcases ht with q | q <;> (rw[<-e2] at q;revert q;decide)
 have Ia:=lh (U8.out.aD eO nm5);have Nw:=lh (eO.heap E3.out ng5);clear hq5 Gm eO nm5 ng5 U8 E3 iO HQ4;go_wp2;have nN:=lh (Plain.Pt.ay hr);have Hw:=lh (Plain.iK (Plain.Pt.aA hr).2.1);have iE:=lh (Plain.Gr.aA (Plain.Pt.aA hr).1);have s9:=lh (Plain.Pt.aA hr).2.2.1;have HAV:=lh ha;have uk:=lh (mJ.mk (w:=w) (gb:=w.heap.size) (mp:=w.heap.size+1) (H:=H) OP.out ga.out Ia.out Nw.out);have wZ:=lh (show z' g p shut a (fun y=>if y=a then some 0 else none) (0+1) [a] (2*p.v.length+2) from⟨Plain.KG.start nN.out ha,by simp,fun u hu=>Qg (by by_cases e:u=a <;> simp[e] at hu ⊢),by have:=(Plain.KG.start (g:=g) (shut:=shut) nN.out ha).fe;simp;omega⟩);have PL:=lh (show w.heap.size<=w.heap.size+1 by omega);have tT:∀ u∈p.v,0<=u/\u<1025:=fun u hu=>by have:=nN.out.vr u hu;have:=iE.out.2.1;omega
 have fP:=lh tT;clear hr ha OP ga Ia Nw hHe tT;generalize KC:w.heap.size=gb at *;generalize EH:gb+1=mp at *;have Ch:=lh KC;have vf:=lh EH;clear KC EH
 go_loopg [12,13] (2*p.v.length+2) (fun fuel GF KT wr=>Hid (fuel<=2*p.v.length+2)/\∃ f m,(∃ v q,GF=.int .i64 v/\KT=.bool true/\mJ w gb mp H #[.int .i64 g.n,.slice eo g.e.length cap] f m q wr/\Hid (z' g p shut a f m (v :: q) fuel)/\Hid (Plain.DZ g p shut a f (v :: q) fuel))\/(GF=.int .i64 0/\KT=.bool false/\mJ w gb mp H #[.int .i64 g.n,.slice eo g.e.length cap] f m [] wr/\Hid (z' g p shut a f m [] fuel)/\Hid (Plain.DZ g p shut a f [] fuel)))
 case atStart=>exact⟨lh (Qh _),_,_,Qg ⟨a,[],rfl,rfl,uk.out,wZ,lh ⟨rfl,Plain.mO.start g p a⟩⟩⟩
 case round =>
  obtain⟨tM,f,m,⟨v,q,rfl,rfl,cL,fg,YR⟩ | ⟨rfl,rfl,cL,fg,YR⟩⟩:=hrel
  ·have qS:=lh cL
   have MU:=fg.out.1.Oo v (fg.out.2.1 v (by simp));have hvs:=fP.out v MU;have Iv:aU v:=aU.mk (by omega) (by omega);have DE:=lh cL.aD;clear cL MU
   go_wp2_with (at_lookup;refine ni rfl _ _ rfl HSD.out DE.out (by omega) rfl Iv rfl ?_;intro vv r0;obtain⟨vo,vc,rfl⟩:=r0.shape;have R0:=lh r0;clear r0)
   have Xu:=lh (fg.out.inner (p.ah.filter fun d=>decide (g.tail d=v)));have UE:=lh (show ∀ d∈p.ah.filter fun d=>decide (g.tail d=v),d∈p.ah/\g.tail d=v from fun d hd=>by have:=List.mem_filter.1 hd;exact⟨this.1,by simpa using this.2⟩);have FY:=lh (fun (f':Int->Option Int) (m':Nat) (q':List Int) (h:Ah g p shut a f' m' v q' (p.ah.filter fun d=>decide (g.tail d=v)) (p.ah.filter fun d=>decide (g.tail d=v)).length gk)=>Ah.outer nN.out h);obtain⟨c0,gO⟩:=Option.ne_none_iff_exists'.1 (fg.out.2.1 v (by simp));have Uy:=lh (YR.out.inner gO (by have:=fg.out.2.2.2;simp at this;omega));clear fg YR gO;generalize (p.ah.filter fun d=>decide (g.tail d=v))=L at *;have VN:L.length<4294967296:=R0.out.2.2
   go_loopw [44] (fun c wr=>∃ k:Nat,k<=L.length/\c=.int .i64 k/\∃ f m q,mJ w gb mp H #[.int .i64 g.n,.slice eo g.e.length cap] f m q wr/\Hid (Ah g p shut a f m v q L k gk)/\Hid (Plain.Kk g p shut a f v c0 q L k gk)) (fun c _=>L.length - (intOf c).toNat)
   case atStart=>exact⟨0,Nat.zero_le _,rfl,f,m,q,qS.out,Xu,Uy⟩
   case round =>
    obtain⟨k,hk,rfl,f1,m1,q1,cL,fp,LF⟩:=hrel;have kH:=lh cL;by_cases aL:k<L.length
    ·obtain⟨gr,Z0,sC⟩:=R0.out.some (by omega)
     subst Z0;have ck:=cL.aD.c (sC k aL);have x0:=(cell_of_row _ _ 0 _ _ _ cL.box).trans (show _=some (Value.int .i64 g.n) from rfl);have x1:=(cell_of_row _ _ 1 _ _ _ cL.box).trans (show _=some (Qi eo g.e.length cap) from rfl);obtain⟨lC,Fp⟩:=UE.out (L.getD k 0) (by simp[Qc,aL]);have xz:=(nN.out.aO lC).2;have A5:=fP.out _ xz;have qN:aU (g.head (L.getD k 0)):=aU.mk (by omega) (by omega);have jI:=Plain.eR (g:=g) lC;rw[Fp] at jI;obtain⟨ee,qO,UP⟩:∃ ee:Nat,ee<g.e.length/\L.getD k 0 / 2=(ee:Int):=by
      obtain⟨i,hi,e⟩:=Plain.bN (Plain.aw.1 lC);have:=Plain.bX s9.out hi;exact⟨(L.getD k 0 / 2).toNat,by omega,by omega⟩
     obtain⟨dn,nP⟩:∃ dn:Nat,L.getD k 0=(dn:Int):=⟨(L.getD k 0).toNat,by omega⟩;have Xv:dn / 2<g.e.length:=by omega
     have Nv:g.e.length<4294967296:=by have:=iE.out.2.2.1;have:=iE.out.1;omega
     have Gp:=lh (fun h=>And.intro (Ah.skip (k:=k) fp.out h) (Plain.Kk.skip LF.out aL h));have acH:=lC;have aaG:=Fp;have Yd:=lh (fun hs hf=>And.intro (Ah.add (x:=g.head (L.getD k 0)) (c:=c0) nN.out fp.out rfl xz jI hs LF.out.1 hf) (Plain.Kk.add LF.out aL rfl acH aaG hs hf));have EJ:=lh fp.out.1.fe;have DS:=lh fp.out.1.val;have vy:=lh fp.out.2.2.2.2.1;obtain⟨cv,Vc⟩:∃ cv,c0=cv:=⟨_,rfl⟩;have rX:=LF.out.1;rw[Vc] at rX Yd;have FC:=lh Vc;have Yv:=lh rX;obtain⟨xx,MF⟩:∃ xx,g.head (L.getD k 0)=xx:=⟨_,rfl⟩;have HHD:=lh (show g.head (dn:Int)=xx by rw[<-nP];exact MF);rw[MF] at Gp Yd qN;rw[nP] at ck;have oF:=lh qO;clear sC lC Fp xz A5 jI UP nP MF fp rX qO acH aaG LF Vc
     go_wp2_with fail
     refine (lX _ g dn _ Xv Nv (HG.out.fresh kH.out.aD)).mono ?_;rw[HHD.out];rintro e w6 ⟨rfl,hc6⟩;have uK:=lh (kH.out.fresh hc6);clear hc6 cL ck x0 x1;cases xG:f1 xx with
     | some c0 =>
      have HF:=lh xG;have HR:=lh (Gp.out (Qf (by rw[xG];simp)));clear xG
      go_wp2_with (at_lookup;refine eG _ rfl _ _ rfl uK.out.map rfl qN rfl HF ?_)
      go_roundw
      case rel=>exact⟨k+1,by omega,by go_num,f1,m1,q1,uK.out,lh HR.out.1,lh HR.out.2⟩
      case measure=>simp[intOf];omega
     | none =>
      have HF:=lh xG;by_cases AA:xx=shut
      ·have HR:=lh (Gp.out (Qg AA))
       have hb:(xx==shut)=true:=by rw[beq_iff_eq];exact AA
       clear xG AA
       go_wp2_with (at_lookup;refine di _ rfl _ _ rfl uK.out.map rfl qN rfl HF ?_)
       go_roundw
       case rel=>exact⟨k+1,by omega,by go_num,f1,m1,q1,uK.out,lh HR.out.1,lh HR.out.2⟩
       case measure=>simp[intOf];omega
      have HR:=lh (Yd.out AA xG);have hb:(xx==shut)=false:=by rw[beq_eq_false_iff_ne];exact AA
      have xu:=DS.out v cv Yv.out;have aiK:0<=cv/\cv<=1000000:=by omega
      have nT:m1<1000001:=by have:=EJ.out;omega
      have Ky:q1.length+1<4294967296:=by have:=vy.out;have:=tM.out;omega
      have HGV:=lh (show (f1 v).getD 0=cv by rw[Yv.out];rfl);have Wr:aU (cv+1):=aU.mk (by omega) (by omega);have fM:True:=trivial;clear xG AA xu
      go_wp2_with (first
       | (at_lookup;have _t:=fM;refine di _ rfl _ _ rfl uK.out.map rfl qN rfl HF ?_;clear fM)
       | (at_lookup;refine iZ _ rfl _ _ rfl uK.out.map rfl Iv rfl HGV ?_)
       | (at_mapUpdate;refine gF _ rfl _ _ _ rfl uK.out.map (by unfold maxLen;omega) rfl qN Wr rfl rfl ?_;intro w7 GP Hd;have B9:=lh (uK.out.met (by rw[Ch.out];exact PL.out) GP Hd);clear GP Hd))
      have hH7:H<=w7.heap.size:=by obtain⟨_,O1,_⟩:=B9.out.queue;exact Nat.le_of_lt (lt_of_block O1)
      refine (qq H H q1 xx w7 qN hH7 Ky B9.out.queue).mono ?_;rintro e w8 ⟨rfl,hq8,own8,ho8,hc8⟩;have Sm:=lh (B9.out.aa (by rw[Ch.out];exact KY.out) hq8 ho8 hc8);clear hq8 ho8 hc8;go_wp2
      go_roundw
      case rel=>exact⟨k+1,by omega,by go_num,_,_,_,Sm.out,lh HR.out.1,lh (by rw[FC.out];exact HR.out.2)⟩
      case measure=>simp[intOf];omega
    have e:k=L.length:=by omega
    subst e;have HO:=lh (FY.out f1 m1 q1 fp.out);have Ug:=lh fp.out.2.2.2.2.1;have HBO:=lh (Plain.Kk.outer LF.out);clear cL fp LF;cases q1 with
    | nil =>
     go_wp2_with fail
     refine (vU H H _ kH.out.queue).mono ?_;rintro e w8 ⟨rfl,rfl⟩;go_wp2
     go_roundg (gk - 1)
     case measure=>have:=Ug.out;omega
     case rel=>exact⟨lh (Qb (Nat.sub_le _ _) tM.out),f1,m1,Qf ⟨rfl,rfl,kH.out,HO,HBO⟩⟩
    | cons x r =>
     go_wp2_with fail
     refine (lP H H x r _ kH.out.queue).mono ?_;rintro e w8 ⟨rfl,hq8,own8,ho8,hc8⟩;have Sm:=lh (kH.out.aa (by rw[Ch.out];exact KY.out) hq8 ho8 hc8);clear hq8 ho8 hc8;go_wp2
     go_roundg (gk - 1)
     case measure=>have:=Ug.out;omega
     case rel=>exact⟨lh (Qb (Nat.sub_le _ _) tM.out),f1,m1,Qg ⟨x,r,rfl,rfl,Sm.out,HO,HBO⟩⟩
  have qS:=lh cL;have VG:=lh (show m<=p.v.length by have:=fg.out.1.fe;omega);have zI:=lh (fun x=>fg.out.1.all (fun u hu=>((fg.out.2.2.1 u hu).resolve_left (by simp))) x);have vH:=lh (fun (u c:Int) (h:f u=some c)=>(show c<=(p.v.length:Int) by have:=(fg.out.1.val u c h).2;omega));have HBE:=lh YR.out.last;have Pe:=lh YR.out.2;clear cL fg YR;rw[HBE.out] at qS zI Pe vH;go_wp2;go_ret;exact⟨mp,m,rfl,qS.out.map,zI.out,Pe.out,vH.out,qS.out.aD,by rw[Ch.out];exact PL.out,VG.out⟩
end Go.Proofs.YtoiflofhcmjpoaaGreat
