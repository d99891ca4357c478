/- draw.leaves, twins, aX: contracts. Conditions: what each theorem says. -/
import Derived.Test.YtoiflofhcmjpoaaGreatD9SkF
open List renaming take_succ_eq_append_getElem→Qa,take_length→Qc,append_nil→Qd,mem_singleton→Qe,length_filter_le→Qh,length_append→Qk,length_take→Ql,length_cons→Qm,length_nil→Qn
open Nat renaming zero_le→Qb,le_refl→Qi
open Go.Value renaming slice→Qf,bool→Qo,int→Qq
open Go.World renaming ownsRow→Qg
open Or renaming inr→Qj
open Go.Act renaming put→Qp
namespace Go.Proofs.YtoiflofhcmjpoaaGreat
open Go.RowKit Go.Maps
theorem cO (v:Value) (g:Plain.Gr) (d:Nat) (w:World) (hd:d / 2<g.e.length) (_hm:g.e.length<4294967296) (h:dJ w v g) :
  Calls Tryz.prog 66 #[v,.int .i64 d] w fun e w'=>e=.returned (.int .i64 (g.tail d))/\ag [] w w':=by
 obtain⟨eo,cap,rfl,-,-,-,aK⟩:=h;obtain⟨b,off,rfl,gO,cY⟩:=aK (d / 2) hd;have b8:=lh ((ag.refl [] w).alloc (.cells #[.int .i64 g.n,.slice (some ⟨b,off,none⟩) g.e.length cap] 24));obtain⟨e,he⟩:∃ e,d / 2=e:=⟨_,rfl⟩;rw[he] at hd gO cY;have c0:=fun o=>bP gO o;have c1:=fun o=>bP cY o;clear aK gO cY;rcases (show d=2*e\/d=2*e+1 by omega) with rfl | rfl
 ·obtain⟨q1,q2⟩:=pB e
  have HE:=lh (jr g e).1;rw[HE.out];clear he;generalize ((2*e:Nat):Int)=dd at *;generalize (g.ends e).1=x at *;generalize (g.ends e).2=y at *
  go_enter Tryz.func66,Tryz.ntmps66
  go_wp2;go_ret;exact⟨rfl,b8.out⟩
 obtain⟨q1,q2⟩:=th e;have HE:=lh (kM g e).1;rw[HE.out];clear he;generalize ((2*e+1:Nat):Int)=dd at *;generalize (g.ends e).1=x at *;generalize (g.ends e).2=y at *
 go_enter Tryz.func66,Tryz.ntmps66
 go_wp2;go_ret;exact⟨rfl,b8.out⟩
namespace Plain
theorem nz (l:List Int):(twins l).length=l.length:=by simp[twins]
theorem FL {l:List Int} {k:Nat} (hk:k<l.length):(twins l).take (k+1)=(twins l).take k++[aT (l.getD (l.length - 1 - k) 0)]:=by
 have Fg:k<(twins l).length:=by rw[nz];exact hk
 rw[Qa Fg]
 congr 2
 unfold twins;have h1:(l.map aT).reverse[k]'(by simpa using hk)=(l.map aT)[l.length - 1 - k]'(by simp;omega):=by rw[List.getElem_reverse];simp
 refine h1.trans ?_;rw[List.getElem_map];simp[List.getD,show l.length - 1 - k<l.length by omega]
end Plain
set_option maxRecDepth 100000 in
set_option maxHeartbeats 2000000 in
theorem xH (v:Value) (l:List Int) (w:World) (hl:l.length<=1000000) (hb:∀ d∈l,0<=d/\d<4294967296) (h:al w v l) :
  Calls Tryz.prog 129 #[v] w fun e w'=>∃ v',e=.returned v'/\aj w' w.heap.size v' (Plain.twins l)/\ag [] w w':=by
 have HI:=lh h;have HB:=lh hb;obtain⟨ao,cap,rfl,-,hm,-⟩:=h;clear hb
 go_enter Tryz.func129,Tryz.ntmps129
 go_wp2_with (at_make;refine kK rfl _ _ rfl (B:=w.heap.size) (n:=l.length) rfl rfl (Qi _) (by omega) ?_;intro v1 w1 r1 c1 f1;obtain⟨o1,k1,rfl⟩:=r1.shape;have R1:=lh r1;have C1:=lh c1;clear r1 c1 f1)
 have HTA:=lh (show (Plain.twins l).take (l.length - l.length)=[] by simp)
 go_loopw [3,4] (fun c3 c4 wr=>∃ i:Nat,i<=l.length/\c4=.int .i64 ((i:Int) - 1)/\aj wr w.heap.size c3 ((Plain.twins l).take (l.length - i))/\ag [] w wr) (fun _ c4 _=>(intOf c4+1).toNat)
 case atStart=>exact⟨l.length,Qi _,by go_num,by rw[HTA.out];exact R1.out,C1.out⟩
 case round =>
  obtain⟨i,hi,gR,aJ,hc⟩:=hrel;have bt:=lh aJ;have HC:=lh hc;obtain⟨oo,oc,rfl⟩:=aJ.shape;have pj:=lh hc.size;clear aJ hc;cases i with
  | succ j =>
   rw[show ((j+1:Nat):Int) - 1=(j:Int) by omega] at gR;subst gR;have rj:j<l.length:=hi;obtain⟨rb,iR,rfl,rc⟩:=al.cellAt HI.out rj;have cz:=HC.out.c rc;have mj:=HB.out _ (Plain.aQ rj);have nL:=lh (show (Plain.twins l).take (l.length - j)=(Plain.twins l).take (l.length - (j+1))++[Plain.aT (l.getD j 0)] by
    have:=Plain.FL (l:=l) (k:=l.length - (j+1)) (by omega);rw[show l.length - (j+1)+1=l.length - j by omega,show l.length - 1 - (l.length - (j+1))=j by omega] at this;exact this)
   obtain⟨d,hd⟩:∃ d:Nat,l.getD j 0=d:=⟨(l.getD j 0).toNat,by omega⟩;rw[hd] at cz mj nL;have Hs:=kP d (by omega);have IT:aU (Plain.aT (d:Int)):=by unfold Plain.aT;split <;> exact aU.mk (by omega) (by omega)
   have nI:((Plain.twins l).take (l.length - (j+1))).length<4294967290:=by rw[Ql];omega
   obtain⟨M,hM⟩:∃ M,(Plain.twins l).take (l.length - (j+1))=M:=⟨_,rfl⟩;rw[hM] at bt nL nI ⊢;have Mq:=lh (show aj wr w.heap.size (.slice oo M.length oc) M from bt.out);have U5:=lh rj;clear rc hd hM bt hi mj hl;generalize Plain.aT (d:Int)=t at *
   go_wp2_with (at_builtin;refine gA rfl _ _ rfl (B:=w.heap.size) (v:=.slice oo _ oc) rfl rfl Mq.out IT pj.out nI rfl ?_;intro v6 w6 r6 c6 f6;have R6:=lh r6;have C6:=lh c6;clear r6 c6 f6)
   go_roundw
   case rel=>exact⟨j,Nat.le_of_lt U5.out,by go_num,by rw[nL.out];exact R6.out,HC.out.trans C6.out (fun j hj=>Qj (Mq.out.low j (by rw[<-Mq.out.aE];exact hj)).1)⟩
   case measure=>simp[intOf]
  | zero =>
   rw[show ((0:Nat):Int) - 1 = -1 by omega] at gR;subst gR;have HF:=lh (show (Plain.twins l).take (l.length - 0)=Plain.twins l by rw[Nat.sub_zero,List.take_of_length_le (by rw[Plain.nz];exact Qi _)]);have yH:=lh (show aj wr w.heap.size (.slice oo (Plain.twins l).length oc) (Plain.twins l) by have:=bt.out;rwa[HF.out] at this);rw[HF.out];clear bt;go_wp2;go_ret;exact⟨_,rfl,yH.out,HC.out⟩
set_option maxRecDepth 100000 in
set_option maxHeartbeats 2000000 in
theorem sa (ve vd:Value) (E l:List Int) (w:World) (hE:E.length<=1000000) (_hl:l.length<=1000000) (hb:∀ e∈E,0<=e/\e<1000000) (h:al w ve E) (h2:al w vd l) :
  Calls Tryz.prog 131 #[ve,vd] w fun e w'=>∃ v',e=.returned v'/\aj w' w.heap.size v' (Plain.aX E l)/\ag [] w w':=by
 have HI:=lh h;have HD:=lh h2;have HB:=lh hb;obtain⟨ao,cap,rfl,-,hm,-⟩:=h;obtain⟨bo,aqt,rfl,-,jo,-⟩:=h2;clear hb
 go_enter Tryz.func131,Tryz.ntmps131
 go_wp2_with fail
 go_loopw [5,7,10] (fun c5 _ c10 wr=>∃ k:Nat,k<=E.length/\c10=.int .i64 k/\aj wr w.heap.size c5 (Plain.aX (E.take k) l)/\ag [] w wr) (fun _ _ c10 _=>E.length - (intOf c10).toNat)
 case atStart=>exact⟨0,Qb _,rfl,eJ _ _,ag.refl _ _⟩
 case round =>
  obtain⟨k,hk,rfl,aJ,hc⟩:=hrel;have bt:=lh aJ;have HC:=lh hc;obtain⟨oo,oc,rfl⟩:=aJ.shape;have pj:=lh hc.size;clear aJ hc;by_cases aL:k<E.length
  ·obtain⟨rb,iR,rfl,rc⟩:=al.cellAt HI.out aL
   have cz:=HC.out.c rc;have mj:=HB.out _ (Plain.aQ aL);have HFK:=lh (show Plain.aX (E.take (k+1)) l=Plain.aX (E.take k) l++(if (!(l.contains (2*E.getD k 0))&&!(l.contains (2*E.getD k 0+1)))=true then [E.getD k 0] else []) from Plain.il _ aL);obtain⟨e,he⟩:∃ e,E.getD k 0=e:=⟨_,rfl⟩;rw[he] at cz mj HFK;have ww0:IntKind.i64.wrap (2*e)=2*e:=IntWalk.i64_in _ (by omega);have ww1:IntKind.i64.wrap (2*e+1)=2*e+1:=IntWalk.i64_in _ (by omega);have IE:aU e:=by grind [aU.mk]
   have nI:(Plain.aX (E.take k) l).length<4294967290:=by grind [Plain.aX]
   obtain⟨M,hM⟩:∃ M,Plain.aX (E.take k) l=M:=⟨_,rfl⟩;rw[hM] at bt HFK nI ⊢;clear rc he hM mj
   go_wp2_with fail
   refine (pP _ l (2*e) _ (HD.out.fresh HC.out)).mono ?_;rintro _ w3 ⟨rfl,rfl⟩;have VI:=bt;have cU:=HC;clear cz;cases h0:decide (2*e∈l) with
   | true =>
    have HK:=lh (HFK.out.trans (by rw[if_neg (by grind),Qd]));clear h0;go_wp2
    go_roundw
    case rel=>exact⟨k+1,by omega,by go_num,by rw[HK.out];exact VI.out,cU.out⟩
    case measure=>simp[intOf];omega
   | false =>
    have H0:=lh (of_decide_eq_false h0);clear h0
    go_wp2_with fail
    refine (pP _ l (2*e+1) _ (HD.out.fresh cU.out)).mono ?_;rintro _ w4 ⟨rfl,rfl⟩;have AG:=VI;have iO:=cU;cases h1:decide (2*e+1∈l) with
    | true =>
     have HK:=lh (HFK.out.trans (by rw[if_neg (by grind),Qd]));clear h1;go_wp2
     go_roundw
     case rel=>exact⟨k+1,by omega,by go_num,by rw[HK.out];exact AG.out,iO.out⟩
     case measure=>simp[intOf];omega
    | false =>
     have HK:=lh (HFK.out.trans (by rw[if_pos (by simp[of_decide_eq_false h1,H0.out])]));have HS4:=lh iO.out.size;clear h1
     go_wp2_with (at_builtin;refine gA rfl _ _ rfl (B:=w.heap.size) (v:=.slice oo _ oc) rfl rfl AG.out IE HS4.out nI rfl ?_;intro v6 w6 r6 c6 f6;have R6:=lh r6;have C6:=lh c6;clear r6 c6 f6)
     go_roundw
     case rel=>exact⟨k+1,by omega,by go_num,by rw[HK.out];exact R6.out,iO.out.trans C6.out (fun j hj=>Qj (AG.out.low j (by rw[<-AG.out.aE];exact hj)).1)⟩
     case measure=>simp[intOf];omega
  have e:k=E.length:=by omega
  subst e;rw[Qc] at bt ⊢;clear hk aL;go_wp2;go_ret;exact⟨_,rfl,bt.out,HC.out⟩
def OJ (n:Nat) (f:Int->Bool):List Value:=(List.range n).map fun i:Nat=>.bool (f i)
def bD (w:World) (B b n:Nat) (f:Int->Bool):Prop:=w.ownsRow B 4 1 (.slice (some ⟨b,0,none⟩) n n) n (OJ n f)
theorem Dl:nh 109 4 (.bool false) 1 1:=⟨Tryz.underlying109,by kernel_rfl,rfl,by decide,by decide⟩
section
variable {w w' : World} {B b n : Nat} {f : Int -> Bool}
theorem bD.aD {own:List Nat} (h:bD w B b n f) (hc:ag own w w') (hb:b ∉ own):bD w' B b n f:=aY h hc (fun j hj=>by
 have e:b=j:=by simpa[Value.ownBlock] using hj
 rw[<-e];exact hb)
theorem bD.base {B':Nat} (h:bD w B' b n f) (hB:B<=B'):bD w B b n f:=jm h hB
theorem bD.lt (h:bD w B b n f):B<=b/\b<w.heap.size:=Qg.lt h b rfl
theorem bD.kind (h:bD w B b n f):∃ cs,w.heap[b]?=some (.cells cs 4 (0,0)):=by
 rcases h.2 with ⟨e,-⟩ | ⟨g',cap,cur,e,-,hh,-⟩
 all_goals grind
theorem bD.cell (h:bD w B b n f) {v:Nat} (hv:v<n):w.cell? ⟨b,v,none⟩=some (.bool (f v)):=by
 have:=Qg.cells h (g:=b) rfl v (.bool (f v)) (by simp[OJ,hv]);have iu:(⟨b,0,none⟩:Addr).add v=⟨b,v,none⟩:=by unfold Addr.add;split <;> simp_all
 grind
theorem bD.free (h:bD w B b n f) (i:Nat):w.frozen? ⟨b,i,none⟩=false:=by
 obtain⟨cs,hh⟩:=h.kind;simp[World.frozen?,hh]
theorem bD.set (h:bD w B b n f) {v:Nat} (x:Bool):bD (w.setCell ⟨b,v,none⟩ (.bool x)) B b n (fun u=>if u=(v:Int) then x else f u):=by
 have hs:=Qg.stored h v (.bool x);unfold bD;have e:(OJ n f).set v (.bool x)=OJ n (fun u=>if u=(v:Int) then x else f u):=by
  refine List.ext_getElem (by simp[OJ]) fun i h1 h2=>?_
  all_goals grind [OJ]
 grind
theorem yw {fb:Nat} (h:w.ownsRow B 4 1 (.slice (some ⟨fb,0,none⟩) n n) n (madeCells (Qo false).cells (n*1)).toList):bD w B fb n (fun _=>false):=by
 have e1:(madeCells (Qo false).cells (n*1)).toList=OJ n (fun _=>false):=by
  show (madeCells #[Qo false] (n*1)).toList=_;rw[Nat.mul_one,toList_madeCells_one];unfold OJ;rw[List.map_const',List.length_range]
 rw[e1] at h;exact h
end
theorem rF {w:World} {B b n:Nat} {f f':Int->Bool} (h:bD w B b n f) (he:∀ i:Nat,i<n->f i=f' i):bD w B b n f':=by
 unfold bD at h ⊢;have e:OJ n f=OJ n f':=List.map_congr_left fun i hi=>by rw[he i (List.mem_range.1 hi)]
 rwa[e] at h
theorem vG {t e:TypeId} {z:Value} {size bytes:Nat} (E:nh t e z size bytes) {ops:Array Oper} {rest:List Oper} {o:Oper} {a:Act} {Q:Exit->Act->World->Prop} {w:World} (hg:o.guard=none) (l c:Operand) (jM:o.op=Op.makeSlice t l c) {B n:Nat} (hl:a.eval l=.int .i64 n) (hc:a.eval c=.int .i64 n) (hB:B<=w.heap.size) (hn:n<68719476736)
  (hK:∀ w',w'.ownsRow B e size (.slice (some ⟨w.heap.size,0,none⟩) n n) n (madeCells z.cells (n*size)).toList->ag [] w w'->wpList Tryz.prog ops Q rest (a.put o.dst (.slice (some ⟨w.heap.size,0,none⟩) n n)) w'):wpList Tryz.prog ops Q (o :: rest) a w :=
 wpList_plain hg fun _ ta=>qd E l c jM hl hc hB hn fun w' h1 h2=>ta _ _ (hK w' h1 h2)
structure mM (w:World) (sb:Nat) (g:Plain.Gr) (vE:Value) (N:Nat):Prop where
 c0:w.cell? ⟨sb,0,none⟩=some (.int .i64 g.n)
 c1:w.cell? ⟨sb,1,none⟩=some vE
 gr:dJ w (.agg #[.int .i64 g.n,vE]) g
 n:g.n=N
 err:g.err=0
theorem mM.fresh {w w':World} {sb:Nat} {g:Plain.Gr} {vE:Value} {N:Nat} (h:mM w sb g vE N) (hc:ag [] w w'):mM w' sb g vE N :=
 ⟨hc.c h.c0,hc.c h.c1,h.gr.fresh hc,h.n,h.err⟩
theorem mM.small {w:World} {sb:Nat} {g:Plain.Gr} {vE:Value} {N:Nat} (h:mM w sb g vE N):N<=1024/\g.e.length<=1024:=by
 obtain⟨h1,h2,h3,-⟩:=Plain.Gr.aA h.err;have:=h.n;omega
theorem mM.Bc {w:World} {sb:Nat} {g:Plain.Gr} {vE:Value} {N:Nat} (h:mM w sb g vE N) {d:Int} (h0:0<=d) (hd:d / 2<g.e.length):∃ n v:Nat,d=n/\n / 2<g.e.length/\g.tail d=v/\v<N/\n<4096:=by
 obtain⟨h1,h2,h3,h4⟩:=Plain.Gr.aA h.err;have hn:=h.n;obtain⟨m,rfl⟩:∃ m:Nat,d=m:=⟨d.toNat,by omega⟩;have hm:m / 2<g.e.length:=by omega
 have he:=h4 _ hm;have ht:g.tail (m:Int)=(g.ends (m / 2)).1\/g.tail (m:Int)=(g.ends (m / 2)).2:=by
  all_goals grind [Plain.Gr.tail,Plain.Gr.at]
 refine⟨m,(g.tail (m:Int)).toNat,rfl,hm,?_,?_,by omega⟩
 all_goals grind
namespace Plain
theorem xU {g:Gr} {l:List Int} {k:Nat} (hk:k<l.length) (v:Int):du g (l.take (k+1)) v=if v=g.tail (l.getD k 0) then true else du g (l.take k) v:=by
 unfold du;have e:l.getD k 0=l[k]:=by simp[List.getD,hk]
 rw[Qa hk,List.any_append,e]
 all_goals grind
end Plain
set_option maxRecDepth 100000 in
set_option maxHeartbeats 2000000 in
theorem lF (sb N:Nat) (vE vl:Value) (g:Plain.Gr) (l:List Int) (w:World) (hG:mM w sb g vE N) (hl:l.length<=1000000) (hd:∀ d∈l,0<=d/\d / 2<g.e.length) (h:al w vl l) :
  Calls Tryz.prog 128 #[.pointer (some ⟨sb,0,none⟩),vl] w fun e w'=>∃ hb,e=.returned (.agg #[vl,.slice (some ⟨hb,0,none⟩) N N])/\bD w' w.heap.size hb N (Plain.du g l)/\ag [] w w':=by
 have HG:=lh hG;have HI:=lh h;have HD:=lh hd;obtain⟨hsN,hsE⟩:=hG.small;have KZ:=lh hG.n;obtain⟨lo,lc,rfl,-,hm,-⟩:=h;have HN:=lh (show g.n=N from hG.n);have iQ:=lh (show ag [] w (w.alloc (.cells #[.slice none 0 0,.slice none 0 0] 158)) from (show ag [] w (w.alloc (.cells #[.slice none 0 0,.slice none 0 0] 158)) from ((ag.refl [] w).alloc _)));have dk:=heap_alloc_new w (.cells #[.slice none 0 0,.slice none 0 0] 158);have HX:=lh (fun (w2:World) (eh:ag [] (w.alloc (.cells #[.slice none 0 0,.slice none 0 0] 158)) w2)=>(⟨eh.heap dk (by simp),by have hz:=eh.size;simpa using hz⟩:w2.heap[w.heap.size]?=some (.cells #[.slice none 0 0,.slice none 0 0] 158 (0,0))/\w.heap.size+1<=w2.heap.size));clear dk;have Gc:=lh (show (w.alloc (.cells #[.slice none 0 0,.slice none 0 0] 158)).heap.size=w.heap.size+1 by simp);have q0:=iQ.out.c hG.c0;clear hd hG
 go_enter Tryz.func128,Tryz.ntmps128
 go_wp2_with (at_make;refine vG Dl rfl _ _ rfl (B:=w.heap.size) (n:=N) (by show Qq .i64 g.n=_;rw[HN.out]) (by show Qq .i64 g.n=_;rw[HN.out]) iQ.out.size (by omega) ?_;intro w2 h2 c2;have H2:=lh (yw h2);have C2:=lh c2;clear h2 c2)
 have jq:(w.alloc (.cells #[.slice none 0 0,.slice none 0 0] 158)).heap.size=w.heap.size+1:=by simp
 rw[jq] at H2;obtain⟨hb,hhb⟩:∃ hb,w.heap.size+1=hb:=⟨_,rfl⟩;have HHB:=lh hhb.symm;rw[hhb] at H2 ⊢;clear jq hhb;have cB:=lh (iQ.out.t C2.out);have HX4:=lh (show ∀ wx,ag [hb] w2 wx->wx.heap[w.heap.size]?=some (.cells #[.slice none 0 0,.slice none 0 0] 158 (0,0)) from fun wx hx=>by
  obtain⟨r4,-⟩:=HX.out w2 C2.out;exact hx.heap r4 (by rw[Qe];have:=HHB.out;omega))
 clear q0 C2
 go_loopw [7,16] (fun _ c wr=>∃ k:Nat,k<=l.length/\c=.int .i64 k/\bD wr w.heap.size hb N (Plain.du g (l.take k))/\ag [hb] w2 wr) (fun _ c _=>l.length - (intOf c).toNat)
 case atStart=>exact⟨0,Qb _,rfl,rF H2.out (fun _ _=>rfl),ag.refl _ _⟩
 case round =>
  obtain⟨k,hk,rfl,sw,hc⟩:=hrel;have HB:=lh sw;have HC:=lh (show ag [] w wr from cB.out.trans hc (fun j hj=>Qj (by rw[Qe] at hj;have:=HHB.out;omega)));have xd:=lh hc;have Ar:=lh (HG.out.fresh HC.out);clear sw hc;by_cases aL:k<l.length
  ·obtain⟨rb,iR,rfl,rc⟩:=al.cellAt HI.out aL
   have cz:=HC.out.c rc;have mj:=HD.out _ (Plain.aQ aL);have HT:=lh (Plain.xU (g:=g) aL);obtain⟨n,v,hn,iI,hv,tq,hn4⟩:=HG.out.Bc mj.1 mj.2;rw[hn] at cz HT;rw[hn] at hv;rw[hv] at HT;have LW:=lh hv;have q0:=Ar.out.c0;have q1:=Ar.out.c1;have bf:=HB.out.free v;have bc:=HB.out.cell tq;have OR:(v:Int)<(N:Int):=by omega
   clear rc mj hn hv
   go_wp2_with fail
   refine (cO _ g n wr iI (by omega) Ar.out.gr).mono ?_;rintro _ w3 ⟨rfl,cT⟩;rw[LW.out];have bf3:=cT.frozen bc bf (by simp);have bc3:=cT.c bc;have Ld:=lh (HB.out.aD cT (by simp));have cU:=lh (xd.out.t cT);clear cT bf bc q0 q1 cz;go_wp2
   go_roundw
   case rel =>
    refine⟨k+1,by omega,by go_num,?_,cU.out.trans ((ag.refl [hb] w3).setCell (Or.inl (by simp)) _) (fun j hj=>Or.inl hj)⟩;have h1:=Ld.out.set (v:=v) true;have e:(fun u=>if u=(v:Int) then true else Plain.du g (l.take k) u)=Plain.du g (l.take (k+1)):=funext fun u=>(HT.out u).symm;rw[e] at h1;exact h1
   case measure=>simp[intOf];omega
  have e:k=l.length:=by omega
  subst e;rw[Qc] at HB;have r4:=HX4.out wr xd.out;have r0:=(cell_of_row _ _ 0 _ _ _ r4).trans (show _=some (Qf none 0 0) from rfl);have r1:=(cell_of_row _ _ 1 _ _ _ r4).trans (show _=some (Qf none 0 0) from rfl);have f0:=bJ r4 0;have f1:=bJ r4 1;have aZ:ag [w.heap.size] wr ((wr.setCell ⟨w.heap.size,0,none⟩ (.slice lo l.length lc)).setCell ⟨w.heap.size,1,none⟩ (.slice (some ⟨hb,0,none⟩) N N)):=by grind [ag.refl,ag.setCell]
  have jw:=heap_setCell_same (heap_setCell_same r4 0 (.slice lo l.length lc)) 1 (.slice (some ⟨hb,0,none⟩) N N);have ZS:=lh ((cell_of_row _ _ 0 _ _ _ jw).trans (show _=some (Qf lo l.length lc) from rfl));have UM:=lh ((cell_of_row _ _ 1 _ _ _ jw).trans (show _=some (Qf (some ⟨hb,0,none⟩) N N) from rfl));have HBF:=lh (HB.out.aD aZ (by rw[Qe];have:=HHB.out;omega));have qh:=lh (HC.out.trans aZ (fun j hj=>Qj (by grind)));clear r4 aZ jw aL hk;go_wp2;refine bodyPost_ret (v:=.agg #[.slice lo l.length lc,.slice (some ⟨hb,0,none⟩) N N]) (by have h0:=ZS.out;have h1:=UM.out;simp[results,Tryz.results128,go_sem,h0,h1]) rfl ?_;exact⟨hb,rfl,HBF.out,qh.out⟩
end Go.Proofs.YtoiflofhcmjpoaaGreat
-- READS ONLY
namespace Go.Proofs.YtoiflofhcmjpoaaGreat
open Go.RowKit Go.Maps
namespace Plain
def n9 (g:Gr) (on:Int->Bool) (E:List Int):List Int:=E.flatMap fun e=>[(g.at e).1,(g.at e).2].filter on
theorem Gu {g:Gr} {on:Int->Bool} {l:List Int} {k:Nat} (hk:k<l.length):n9 g on (l.take (k+1))=n9 g on (l.take k)++[(g.at (l.getD k 0)).1,(g.at (l.getD k 0)).2].filter on:=by
 unfold n9;rw[Qa hk,List.flatMap_append]
 grind
theorem xD (g:Gr) (on:Int->Bool):∀ l:List Int,(n9 g on l).length<=2*l.length
 | []=>Qi _
 | e :: l=>by
  have ih:=xD g on l;unfold n9 at ih ⊢;rw[List.flatMap_cons,Qk];have:=Qh on [(g.at e).1,(g.at e).2];simp only[Qm,Qn] at this ⊢;omega
end Plain
set_option maxRecDepth 100000 in
set_option maxHeartbeats 4000000 in
theorem Nn (sb ob N B:Nat) (vE vl:Value) (g:Plain.Gr) (on:Int->Bool) (E:List Int) (w:World) (hG:mM w sb g vE N) (hq:w.cell? ⟨sb,2,none⟩=some (.slice (some ⟨ob,0,none⟩) N N)) (nJ:bD w B ob N on) (hl:E.length<=100000) (hd:∀ e∈E,0<=e/\e<g.e.length) (h:al w vl E) :
  Calls Tryz.prog 178 #[.pointer (some ⟨sb,0,none⟩),vl] w fun e w'=>∃ v',e=.returned v'/\aj w' w.heap.size v' (Plain.cg g on E)/\ag [] w w':=by
 have HG:=lh hG;have HI:=lh h;have HD:=lh hd;have Ri:=lh nJ;have HQ:=lh hq;have fZ:=lh hG.small;have KZ:=lh hG.n;have iE:=lh (Plain.Gr.aA hG.err);obtain⟨eo,cap,AL,-,-,dK,aK⟩:=hG.gr;have qZ:=lh aK;have HGS:=lh dK;simp only[Value.agg.injEq,Array.mk.injEq,List.cons.injEq,true_and,and_true] at AL;subst AL;obtain⟨lo,lc,rfl,-,hm,-⟩:=h;clear hd hG aK dK nJ hq
 go_enter Tryz.func178,Tryz.ntmps178
 go_wp2_with fail
 go_loopw [5,7,9,12] (fun c5 _ _ c wr=>∃ k:Nat,k<=E.length/\c=.int .i64 k/\aj wr w.heap.size c5 (Plain.n9 g on (E.take k))/\ag [] w wr) (fun _ _ _ c _=>E.length - (intOf c).toNat)
 case atStart=>exact⟨0,Qb _,rfl,eJ _ _,ag.refl _ _⟩
 case round =>
  obtain⟨k,hk,rfl,aJ,hc⟩:=hrel;have bt:=lh aJ;have HC:=lh hc;obtain⟨oo,oc,rfl⟩:=aJ.shape;have zV:=lh (show (Plain.n9 g on (E.take k)).length<=200000 by grind [Plain.xD]);clear aJ hc;by_cases aL:k<E.length
  ·obtain⟨rb,iR,rfl,rc⟩:=al.cellAt HI.out aL
   have cz:=HC.out.c rc;have mj:=HD.out _ (Plain.aQ aL);have Fm:=lh (Plain.Gu (g:=g) (on:=on) aL);obtain⟨en,kD⟩:∃ en:Nat,E.getD k 0=en:=⟨(E.getD k 0).toNat,by omega⟩;rw[kD] at cz mj Fm;have lR:en<g.e.length:=by omega
   have tx:en<2000:=by have:=fZ.out;omega
   obtain⟨eb,dO,rfl,gO,cY⟩:=qZ.out en lR;obtain⟨z1,z2⟩:=HGS.out en lR;have hr:=iE.out.2.2.2 en lR;have c0:=HC.out.c gO;have c1:=HC.out.c cY;have q1:=HC.out.c HG.out.c1;have dU:g.at (en:Int)=g.ends en:=by grind [Plain.Gr.at]
   rw[dU] at Fm;obtain⟨x,hx⟩:∃ x:Nat,(g.ends en).1=x:=⟨(g.ends en).1.toNat,by omega⟩;obtain⟨y,hy⟩:∃ y:Nat,(g.ends en).2=y:=⟨(g.ends en).2.toNat,by omega⟩;rw[hx] at c0 z1 Fm;rw[hy] at c1 z2 Fm;have HXN:=lh (show x<N by rw[KZ.out,hx] at hr;omega);have HYN:=lh (show y<N by rw[KZ.out,hy] at hr;omega);obtain⟨M,hM⟩:∃ M,Plain.n9 g on (E.take k)=M:=⟨_,rfl⟩;rw[hM] at bt Fm zV ⊢;clear rc mj kD gO cY hr dU hx hy hM
   go_wp2_with fail
   have aW:ag [] wr wr.drew:=(ag.refl [] wr).drew;refine ar (ag [] wr) [0,1,2,3,4,5,6,7,8,9,10,11,12,13,14,15,16,17,19,20] (Way.line [0,1,2,3,4,5,6,7,8,9,10,11,12,13,14,15,16,17,20,18,19] .done) (by kernel_rfl) (by kernel_rfl) ?_;simp only[Way.line]
   repeat (refine ai (v:=?_) rfl (by rfl) (by rfl) (fun _ _ _ h=>h) aW (fun w' aI=>?_) ?_;rotate_left;(focus (have gB:=aI.c q1;have gQ:=aI.c c0;have np:=aI.c c1;clear aI;go_simp;try with_reducible rfl));simp only[Qp,Z1,Z2,Z3,Z4,Z5,Z6])
   refine au rfl (by rfl) (by rfl) (fun K hK=>?_);go_simp;have bF:=aW.alloc (.cells #[.int .i64 (x:Int),.int .i64 (y:Int)] 3);refine hK.out _ _ (fun _=>bF) ?_;clear hK K
   try simp only[Qp,Z1,Z2,Z3,Z4,Z5,Z6]
   repeat (refine ai (v:=?_) rfl (by rfl) (by rfl) (fun _ _ _ h=>h) bF (fun w' aI=>?_) ?_;rotate_left;(focus (skip;clear aI;go_simp;try with_reducible rfl));simp only[Qp,Z1,Z2,Z3,Z4,Z5,Z6])
   refine aC ?_;have kF:=lh (show (wr.alloc (.cells #[.int .i64 (x:Int),.int .i64 (y:Int)] 3)).drew.heap[wr.heap.size]?=some (.cells #[.int .i64 (x:Int),.int .i64 (y:Int)] 3 (0,0)) from heap_alloc_new wr _);have cB:=lh (show ag [] wr (wr.alloc (.cells #[.int .i64 (x:Int),.int .i64 (y:Int)] 3)).drew from ((ag.refl [] wr).alloc _).drew);have Tk:=lh (bt.out.aD cB.out (by simp));have HPF:=lh (show wr.heap.size ∉ aE (.slice oo M.length oc) from fun q=>by
    rw[bt.out.aE] at q;have:=(bt.out.low _ q).2;omega)
   clear aW bF q1 c0 c1 cz bt;generalize (wr.alloc (.cells #[.int .i64 (x:Int),.int .i64 (y:Int)] 3)).drew=wd at *;obtain⟨pb,ph⟩:∃ pb,wr.heap.size=pb:=⟨_,rfl⟩;have te:=lh ph;rw[ph] at kF HPF ⊢;have cU:=lh (HC.out.t cB.out);have HWP:=lh (show w.heap.size<=pb by rw[<-ph];exact HC.out.size);clear ph;have HZ:=lh (show ∀ j:Nat,j<2->∃ z:Nat,z<N/\(∀ wx:World,wx.heap[pb]?=some (.cells #[.int .i64 (x:Int),.int .i64 (y:Int)] 3 (0,0))->wx.cell? ⟨pb,j,none⟩=some (.int .i64 (z:Int)))/\aU (z:Int)/\([(x:Int),(y:Int)].take (j+1)).filter on=([(x:Int),(y:Int)].take j).filter on++(if on (z:Int)=true then [(z:Int)] else []) from fun j hj=>by
    rcases (show j=0\/j=1 by omega) with rfl | rfl
    ·refine⟨x,HXN.out,fun wx hx=>(cell_of_row _ _ 0 _ _ _ hx).trans rfl,z1,?_⟩
     grind
    refine⟨y,HYN.out,fun wx hx=>(cell_of_row _ _ 1 _ _ _ hx).trans rfl,z2,?_⟩
    grind)
   rename World=>wo
   go_wp2_with fail
   go_loopw [5,9,36] (fun c5 _ c wr=>∃ j:Nat,j<=2/\c=.int .i64 j/\wr.heap[pb]?=some (.cells #[.int .i64 (x:Int),.int .i64 (y:Int)] 3 (0,0))/\aj wr w.heap.size c5 (M++([(x:Int),(y:Int)].take j).filter on)/\pb ∉ aE c5/\ag [] w wr) (fun _ _ c _=>2 - (intOf c).toNat)
   case atStart=>exact⟨0,Qb _,rfl,kF.out,by simpa using Tk.out,HPF.out,cU.out⟩
   case round =>
    obtain⟨j,hj,rfl,eh,aJ,Lm,vN⟩:=hrel;have Ak:=lh eh;have bt:=lh aJ;have PU:=lh Lm;have j9:=lh vN;obtain⟨oo2,oc2,rfl⟩:=aJ.shape;have wC:=lh (show (M++([(x:Int),(y:Int)].take j).filter on).length<=200002 by
     rw[Qk];have h1:=Qh on ([(x:Int),(y:Int)].take j);rw[Ql] at h1;simp only[Qm,Qn] at h1;have:=zV.out;omega)
    clear eh aJ Lm vN;by_cases EO:j<2
    ·obtain⟨z,hzN,hzc,ND,hzf⟩:=HZ.out j EO
     have pz:=hzc _ Ak.out;have s2:=j9.out.c HQ.out;have bz:=((Ri.out.base (Qb _)).aD j9.out (by simp)).cell hzN;have V4:=lh hzf;have lA:(j:Int)<2:=by omega
     have hzi:(z:Int)<(N:Int):=by omega
     obtain⟨P,hP⟩:∃ P,M++([(x:Int),(y:Int)].take j).filter on=P:=⟨_,rfl⟩;rw[hP] at bt wC PU ⊢;have HP:=lh hP;have nI:P.length<4294967290:=by have:=wC.out;omega
     have HBW:=lh j9.out.size;clear hzc hzf hP;cases hb:on (z:Int) with
     | true =>
      rw[hb] at bz;have HK:=lh (show M++([(x:Int),(y:Int)].take (j+1)).filter on=P++[(z:Int)] by rw[V4.out,<-HP.out,hb,if_pos rfl,List.append_assoc]);clear hb
      go_wp2_with (at_builtin;refine gA rfl _ _ rfl (B:=w.heap.size) (v:=.slice oo2 _ oc2) rfl rfl bt.out ND HBW.out nI rfl ?_;intro v6 w6 r6 c6 f6;have R6:=lh r6;have C6:=lh c6;have F6:=lh f6;clear r6 c6 f6)
      go_roundw
      case rel =>
       refine⟨j+1,by omega,by go_num,C6.out.heap Ak.out PU.out,by rw[HK.out];exact R6.out,fun q=>?_,j9.out.trans C6.out (fun b hb=>Qj (bt.out.low b (by rw[<-bt.out.aE];exact hb)).1)⟩;rcases F6.out pb q with r | r
       ·exact PU.out r
       have:=lt_of_block Ak.out;omega
      case measure=>simp[intOf];omega
     | false =>
      rw[hb] at bz;have HK:=lh (show M++([(x:Int),(y:Int)].take (j+1)).filter on=P by rw[V4.out,<-HP.out,hb,if_neg (by simp),Qd]);clear hb;go_wp2
      go_roundw
      case rel=>exact⟨j+1,by omega,by go_num,Ak.out,by rw[HK.out];exact bt.out,PU.out,j9.out⟩
      case measure=>simp[intOf];omega
    have e2:j=2:=by omega
    subst e2;have HK:=lh (show Plain.n9 g on (E.take (k+1))=M++([(x:Int),(y:Int)].take 2).filter on from Fm.out);have Lo:k<E.length:=aL;obtain⟨P,hP⟩:∃ P,M++([(x:Int),(y:Int)].take 2).filter on=P:=⟨_,rfl⟩;rw[hP] at bt HK ⊢;clear hj EO hP;go_wp2
    go_roundw
    case rel=>exact⟨k+1,by omega,by go_num,by rw[HK.out];exact bt.out,j9.out⟩
    case measure=>simp[intOf];omega
  have e:k=E.length:=by omega
  subst e;rw[Qc] at bt zV ⊢;clear hk aL;obtain⟨M,hM⟩:∃ M,Plain.n9 g on E=M:=⟨_,rfl⟩;have HM:=lh (show Plain.cg g on E=Plain.tidy M by rw[<-hM];rfl);rw[hM] at bt zV ⊢;clear hM
  go_wp2_with fail
  refine (rB _ M _ _ (by have:=zV.out;omega) bt.out).mono ?_;rintro _ w5 ⟨rfl,pf,eO⟩;have U6:=lh (show ag [] w w5 from HC.out.trans eO (fun b hb=>Qj (bt.out.low b hb).1));have AB:(M.mergeSort fun x y=>decide (x<=y)).length=M.length:=(List.mergeSort_perm _ _).length_eq;have HTY:=lh (show Go.Lib.compact (M.mergeSort fun x y=>decide (x<=y))=Plain.tidy M from rfl);obtain⟨S,hS⟩:∃ S,(M.mergeSort fun x y=>decide (x<=y))=S:=⟨_,rfl⟩;rw[hS] at AB pf HTY;have uk:=lh pf;have rn:=lh AB;clear pf eO AB hS
  go_wp2_with fail
  refine (po _ S _ _ (by rw[rn.out];have:=zV.out;omega) uk.out).mono ?_;rintro _ w6 ⟨v6,rfl,hr6,hc6⟩;rw[HTY.out] at hr6;have O6:=lh hr6;have OO:=lh (show ag [] w w6 from U6.out.trans hc6 (fun b hb=>Qj (uk.out.low b hb).1));clear hr6 hc6;go_wp2;go_ret;exact⟨_,rfl,by rw[HM.out];exact O6.out,OO.out⟩
structure cG (g:Plain.Gr) (w:World) (B N:Nat) (fv:Value) (xs:List Value) (F:List (List Int)):Prop where
 out:w.ownsRow B 158 2 fv F.length xs
 len:xs.length=2*F.length
 row:∀ i,i<F.length->aj w B (xs.getD (2*i) undef) (F.getD i [])
 has:∀ i,i<F.length->∃ b,xs.getD (2*i+1) undef=.slice (some ⟨b,0,none⟩) N N/\bD w B b N (Plain.du g (F.getD i []))
theorem cG.aD {g:Plain.Gr} {w w':World} {B N:Nat} {fv:Value} {xs:List Value} {F:List (List Int)} {own:List Nat} (h:cG g w B N fv xs F) (hc:ag own w w') (h1:∀ b,fv.ownBlock=some b->b ∉ own) (h2:∀ k b,k<xs.length->(xs.getD k undef).ownBlock=some b->b ∉ own):cG g w' B N fv xs F:=by
 have hl:=h.len;refine⟨aY h.out hc h1,h.len,fun i hi=>(h.row i hi).aD hc (fun b hb=>h2 (2*i) b (by omega) (by grind)),fun i hi=>?_⟩;obtain⟨b,e,hb⟩:=h.has i hi;exact⟨b,e,hb.aD hc (h2 (2*i+1) b (by omega) (by rw[e];rfl))⟩
theorem cG.fresh {g:Plain.Gr} {w w':World} {B N:Nat} {fv:Value} {xs:List Value} {F:List (List Int)} (h:cG g w B N fv xs F) (hc:ag [] w w'):cG g w' B N fv xs F:=h.aD hc (by simp) (by simp)
theorem cG.cell {g:Plain.Gr} {w:World} {B N fb n c:Nat} {xs:List Value} {F:List (List Int)} (h:cG g w B N (.slice (some ⟨fb,0,none⟩) n c) xs F) {k:Nat} (hk:k<xs.length):w.cell? ⟨fb,k,none⟩=some (xs.getD k undef):=by
 have:=Qg.cells h.out (g:=fb) rfl k (xs.getD k undef) (by grind);have iu:(⟨fb,0,none⟩:Addr).add k=⟨fb,k,none⟩:=by unfold Addr.add;split <;> simp_all
 grind
namespace Plain
def Ay (P:Int->Bool) (l:List Int):Int:=match l.findIdx? P with | some i=>(i:Int) | none=>-1
theorem tk {P:Int->Bool} {l:List Int} {k:Nat} (hk:k<l.length) (h:P (l.getD k 0)=true) (oe:∀ j,j<k->P (l.getD j 0)=false):Ay P l=k:=by
 have e:l.findIdx? P=some k:=by
  rw[List.findIdx?_eq_some_iff_getElem]
  grind
 grind [Ay]
theorem pN {P:Int->Bool} {l:List Int} (oe:∀ j,j<l.length->P (l.getD j 0)=false):Ay P l = -1:=by
 grind [bN,Ay]
theorem G4 (P:Int->Bool) (l:List Int):decide (Ay P l ≥ 0)=l.any P:=by
 cases h:l.any P with
 | true =>
  obtain⟨x,hx,hp⟩:=List.any_eq_true.1 h;refine decide_eq_true ?_;unfold Ay;cases hf:l.findIdx? P with
  | some i=>show (i:Int) ≥ 0;omega
  | none =>
   have:=List.findIdx?_eq_none_iff.1 hf x hx;rw[hp] at this;cases this
 | false =>
  refine decide_eq_false ?_;rw[pN fun j hj=>by
   have:=List.any_eq_false.1 h _ (jU hj);exact Bool.eq_false_iff.2 this]
  omega
end Plain
theorem Nx (v bx hb N B:Nat) (f:Int->Bool) (w:World) (hv:v<N) (hc:w.cell? ⟨bx,0,none⟩=some (.slice (some ⟨hb,0,none⟩) N N)) (h:bD w B hb N f) :
  Calls Tryz.prog 181 #[.int .i64 v,.pointer (some ⟨bx,0,none⟩)] w fun e w'=>e=.returned (.bool (!f v))/\ag [] w w':=by
 have bc:=h.cell hv;have OR:(v:Int)<(N:Int):=by omega
 obtain⟨x,hx⟩:∃ x,f (v:Int)=x:=⟨_,rfl⟩;rw[hx] at bc ⊢;clear h hx
 go_enter Tryz.func181,Tryz.ntmps181
 go_wp2;go_ret;exact⟨rfl,ag.refl _ _⟩
set_option maxRecDepth 100000 in
set_option maxHeartbeats 2000000 in
theorem IH (bx hb N B:Nat) (f:Int->Bool) (v:Value) (q:List Int) (w:World) (hq:∀ d∈q,0<=d/\d<N) (Ky:q.length<1000000000) (hv:al w v q) (hc:w.cell? ⟨bx,0,none⟩=some (.slice (some ⟨hb,0,none⟩) N N)) (h:bD w B hb N f) :
  Calls Tryz.prog 109 #[v,.func (Fn.func 181) #[] #[.pointer (some ⟨bx,0,none⟩)]] w fun e w'=>e=.returned (.int .i64 (Plain.Ay (fun x=>!f x) q))/\ag [] w w':=by
 have HQ:=lh hq;have HV:=lh hv;have FC:=lh hc;have HB:=lh h;obtain⟨ao,ac,rfl,-,-,-⟩:=hv;clear hq hc h
 go_enter Tryz.func109,Tryz.ntmps109
 go_wp2
 go_loopw [8] (fun c wr=>∃ k:Nat,k<=q.length/\c=.int .i64 k/\Hid (∀ j,j<k->(!f (q.getD j 0))=false)/\ag [] w wr) (fun c _=>q.length - (intOf c).toNat)
 case atStart=>exact⟨0,Qb _,rfl,lh (by omega),ag.refl _ _⟩
 case round =>
  obtain⟨k,hk,rfl,HN,hc⟩:=hrel;have HC:=lh hc;by_cases aL:k<q.length
  ·obtain⟨rb,iR,rfl,rc⟩:=al.cellAt HV.out aL
   have cz:=hc.c rc;have hr:=HQ.out _ (Plain.aQ aL);have xc:=lh (fun (h:(!f (q.getD k 0))=true)=>Plain.tk (P:=fun x=>!f x) aL h HN.out);have qH:=lh (fun (h:(!f (q.getD k 0))=false) j (hj:j<k+1)=>(show (!f (q.getD j 0))=false from by
    by_cases e:j=k
    ·rw[e];exact h
    exact HN.out j (by omega)))
   obtain⟨n,e1⟩:∃ n:Nat,q.getD k 0=n:=⟨(q.getD k 0).toNat,by omega⟩;rw[e1] at cz xc qH hr;have hnN:n<N:=by omega
   clear rc e1 hc hr
   go_wp2_with fail
   refine (Nx n bx hb N B f _ hnN (HC.out.c FC.out) (HB.out.aD HC.out (by simp))).mono ?_;rintro e w2 ⟨rfl,bA⟩;have cB:=lh (HC.out.t bA);clear bA cz;cases h:(!f (n:Int)) with
   | true =>
    have HI:=lh (xc.out h);clear h;go_wp2;go_ret;exact⟨bO (show ((k:Nat):Int)=_ by rw[HI.out]),cB.out⟩
   | false =>
    have HI:=lh (qH.out h);clear h;go_wp2
    go_roundw
    case rel=>exact⟨k+1,by omega,by go_num,HI,cB.out⟩
    case measure=>simp[intOf];omega
  have e:k=q.length:=by omega
  subst e;have HI:=lh (Plain.pN (P:=fun x=>!f x) HN.out);clear hc;go_wp2;go_ret;exact⟨bO (show (-1:Int)=_ by rw[HI.out]),HC.out⟩
theorem KD (bx hb N B:Nat) (f:Int->Bool) (v:Value) (q:List Int) (w:World) (hq:∀ d∈q,0<=d/\d<N) (Ky:q.length<1000000000) (hv:al w v q) (hc:w.cell? ⟨bx,0,none⟩=some (.slice (some ⟨hb,0,none⟩) N N)) (h:bD w B hb N f) :
  Calls Tryz.prog 57 #[v,.func (Fn.func 181) #[] #[.pointer (some ⟨bx,0,none⟩)]] w fun e w'=>e=.returned (.bool (!q.all f))/\ag [] w w':=by
 have HI:=lh (IH bx hb N B f v q w hq Ky hv hc h);have HE:=lh (show (!q.all f)=decide (Plain.Ay (fun x=>!f x) q ≥ 0) by rw[Plain.G4,List.any_eq_not_all_not];simp);clear hq hv hc h
 go_enter Tryz.func57,Tryz.ntmps57
 go_wp2_with fail
 refine HI.out.mono ?_;rintro e w2 ⟨rfl,bA⟩;have cB:=lh bA;clear bA;generalize Plain.Ay (fun x=>!f x) q=z at *;go_wp2;go_ret;exact⟨bm (by show _=(!q.all f);rw[HE.out]),cB.out⟩
set_option maxRecDepth 100000 in
set_option maxHeartbeats 4000000 in
theorem rR (sb N B:Nat) (fv vV vK:Value) (g:Plain.Gr) (F:List (List Int)) (xs:List Value) (V ks:List Int) (w:World) (hq:w.cell? ⟨sb,3,none⟩=some fv) (hF:cG g w B N fv xs F) (hVl:V.length<1000000) (nS:ks.length<1000000) (hV:∀ v∈V,0<=v/\v<N) (hk:∀ i∈ks,0<=i/\i<F.length) (T8:F.length<1000000) (h1:al w vV V) (h2:al w vK ks) :
  Calls Tryz.prog 138 #[.pointer (some ⟨sb,0,none⟩),vV,vK] w fun e w'=>∃ v',e=.returned v'/\aj w' w.heap.size v' (Plain.iq g F V ks)/\ag [] w w':=by
 have HF:=lh hF;have HV:=lh hV;have HK:=lh hk;have H1:=lh h1;have H2:=lh h2;have HQ:=lh hq;obtain⟨fo,fc,rfl⟩:=bk hF.out;obtain⟨vo,vc,rfl,-,-,-⟩:=h1;obtain⟨ko,kc,rfl,-,-,-⟩:=h2;clear hF hV hk hq
 go_enter Tryz.func138,Tryz.ntmps138
 go_wp2_with fail
 go_loopw [7,9,10,13] (fun c7 _ _ c wr=>∃ k:Nat,k<=ks.length/\c=.int .i64 k/\aj wr w.heap.size c7 (Plain.iq g F V (ks.take k))/\ag [] w wr) (fun _ _ _ c _=>ks.length - (intOf c).toNat)
 case atStart=>exact⟨0,Qb _,rfl,eJ _ _,ag.refl _ _⟩
 case round =>
  obtain⟨k,hk,rfl,aJ,hc⟩:=hrel;have bt:=lh aJ;have HC:=lh hc;obtain⟨oo,oc,rfl⟩:=aJ.shape;have wC:=lh (show (Plain.iq g F V (ks.take k)).length<1000000 by grind [Plain.du,Plain.cr,Plain.iq]);clear aJ hc;by_cases aL:k<ks.length
  ·obtain⟨rb,iR,rfl,rc⟩:=al.cellAt H2.out aL
   have cz:=HC.out.c rc;have Yz:=HK.out _ (Plain.aQ aL);have zC:=lh (show Plain.iq g F V (ks.take (k+1))=Plain.iq g F V (ks.take k)++(if (V.all fun v=>Plain.du g (Plain.cr F (ks.getD k 0)) v)=true then [ks.getD k 0] else []) from Plain.il _ aL);obtain⟨i,hi⟩:∃ i:Nat,ks.getD k 0=i:=⟨(ks.getD k 0).toNat,by omega⟩;rw[hi] at cz Yz zC;have hiF:i<F.length:=by omega
   have Sh:(i:Int)<(F.length:Int):=by omega
   have yc:=lh (show Plain.cr F (i:Int)=F.getD i [] by grind [Plain.cr]);have HFW:=lh (HF.out.fresh HC.out);obtain⟨fb,V1,efb⟩:=cD HF.out.out (by omega);simp only[Qf.injEq,true_and] at efb;obtain⟨rfl,rfl⟩:=efb;obtain⟨hb,ehb,sw⟩:=HFW.out.has i hiF;have aK:=HFW.out.cell (k:=2*i+1) (by rw[HF.out.len];omega);rw[ehb] at aK;have oZ:wr.cell? ⟨fb,i*2+1,none⟩=some (.slice (some ⟨hb,0,none⟩) N N):=by grind
   have Uy:=lh sw;have q3:=HC.out.c HQ.out;have akL:aU (i:Int):=by grind [aU.mk]
   obtain⟨M,hM⟩:∃ M,Plain.iq g F V (ks.take k)=M:=⟨_,rfl⟩;rw[hM] at bt zC wC ⊢;have nI:M.length<4294967290:=by have:=wC.out;omega
   have kF:=lh (heap_alloc_new wr (.cells #[.slice (some ⟨hb,0,none⟩) N N] 109));have Hc:=lh ((ag.refl [] wr).alloc (.cells #[.slice (some ⟨hb,0,none⟩) N N] 109));clear rc hi Yz ehb sw aK hM
   go_wp2_with fail
   have Rh:=KD wr.heap.size hb N B (Plain.du g (F.getD i [])) (.slice vo V.length vc) V (wr.alloc (.cells #[.slice (some ⟨hb,0,none⟩) N N] 109)) HV.out (by omega) (H1.out.fresh (HC.out.t Hc.out)) ((cell_of_row _ _ 0 _ _ _ kF.out).trans rfl) (Uy.out.aD Hc.out (by simp));refine Rh.mono ?_;rintro _ w3 ⟨rfl,cT⟩;have cU:=lh (Hc.out.t cT);have VI:=lh (bt.out.aD cU.out (by simp));have zB:=lh (HC.out.t cU.out);have HSW:=lh zB.out.size;clear Rh cT oZ q3 cz;cases dH:V.all (Plain.du g (F.getD i [])) with
   | true =>
    have Lj:=lh (show Plain.iq g F V (ks.take (k+1))=M++[(i:Int)] by rw[zC.out,yc.out];congr 1;exact if_pos dH);clear dH
    go_wp2_with (at_builtin;refine gA rfl _ _ rfl (B:=w.heap.size) (v:=.slice oo _ oc) rfl rfl VI.out akL HSW.out nI rfl ?_;intro v6 w6 r6 c6 f6;have R6:=lh r6;have C6:=lh c6;clear r6 c6 f6)
    go_roundw
    case rel=>exact⟨k+1,by omega,by go_num,by rw[Lj.out];exact R6.out,zB.out.trans C6.out (fun j hj=>Qj (VI.out.low j (by rw[<-VI.out.aE];exact hj)).1)⟩
    case measure=>simp[intOf];omega
   | false =>
    have Lj:=lh (show Plain.iq g F V (ks.take (k+1))=M by rw[zC.out,yc.out,if_neg (by grind),Qd]);clear dH;go_wp2
    go_roundw
    case rel=>exact⟨k+1,by omega,by go_num,by rw[Lj.out];exact VI.out,zB.out⟩
    case measure=>simp[intOf];omega
  have e:k=ks.length:=by omega
  subst e;rw[Qc] at bt ⊢;clear hk aL;go_wp2;go_ret;exact⟨_,rfl,bt.out,HC.out⟩
end Go.Proofs.YtoiflofhcmjpoaaGreat
