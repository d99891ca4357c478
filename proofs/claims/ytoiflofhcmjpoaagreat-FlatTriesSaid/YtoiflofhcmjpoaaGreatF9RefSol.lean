/- the document's Solid (of law 12): contract: it tells whether a right part is one block. Conditions: a right part that lies in memory and reads so. -/
import Derived.Test.YtoiflofhcmjpoaaGreatF9Ref11
set_option maxRecDepth 100000
set_option maxHeartbeats 4000000
open List renaming take_succ_eq_append_getElem→Qa,take_length→Qc,append_nil→Qd,mem_singleton→Qe,length_filter_le→Qh,length_append→Qk,length_take→Ql,length_cons→Qm,length_nil→Qn,range→Qp
open Nat renaming zero_le→Qb,le_refl→Qi
open Go.Value renaming slice→Qf,bool→Qo,int→Qr
open Go.World renaming ownsRow→Qg
open Or renaming inr→Qj
open Go.Act renaming put→Qq
namespace Go.Proofs.YtoiflofhcmjpoaaGreat
open Plain
open Go.RowKit Go.Maps
variable {w w':World} {B n bytes sb N:Nat} {z vE:Value} {g:Gr}
namespace Plain
theorem Jg (n:Nat):((Qp n).map λi:Nat=>(i:Int)).Pairwise (·<·):=by
 refine List.pairwise_map.2 (List.pairwise_lt_range.imp λh=>?_);omega
end Plain
theorem dH (v:Value) (g:Gr) (d:Nat) (w:World) (hd:d / 2<g.e.length) (_hm:g.e.length<4294967296) (h:cA w v g) :
  Calls Tryz.prog 66 #[v,.int .i64 d] w λe w'=>e=.returned (.int .i64 (g.tail d))/\ai [] w w':=by
 obtain⟨eo,cap,rfl,-,-,-,aS⟩:=h;obtain⟨b,off,rfl,fs,dD⟩:=aS (d / 2) hd;have aY:=lh ((ai.refl [] w).alloc (.cells #[.int .i64 g.n,.slice (some ⟨b,off,none⟩) g.e.length cap] 24));obtain⟨e,he⟩:∃ e,d / 2=e:=⟨_,rfl⟩;rw[he] at hd fs dD;have c0:=λo=>fO fs o;have c1:=λo=>fO dD o;clear aS fs dD;rcases (show d=2*e\/d=2*e+1 by omega) with rfl | rfl
 ·obtain⟨q1,q2⟩:=pw e
  have HE:=lh (kO g e).1;rw[HE.out];clear he;generalize ((2*e:Nat):Int)=dd at *;generalize (g.ends e).1=x at *;generalize (g.ends e).2=y at *;go_enter Tryz.func66,Tryz.ntmps66;go_wp2;go_ret;exact⟨rfl,aY.out⟩
 obtain⟨q1,q2⟩:=tN e;have HE:=lh (mS g e).1;rw[HE.out];clear he;generalize ((2*e+1:Nat):Int)=dd at *;generalize (g.ends e).1=x at *;generalize (g.ends e).2=y at *;go_enter Tryz.func66,Tryz.ntmps66;go_wp2;go_ret;exact⟨rfl,aY.out⟩
namespace Plain
theorem qj (l:List Int):(twins l).length=l.length:=by simp[twins]
theorem Kw {l:List Int} {k:Nat} (hk:k<l.length):(twins l).take (k+1)=(twins l).take k++[aH (l.getD (l.length - 1 - k) 0)]:=by
 have OV:k<(twins l).length:=by rw[qj];exact hk
 rw[Qa OV];congr 2;unfold twins;have h1:(l.map aH).reverse[k]'(by simpa using hk)=(l.map aH)[l.length - 1 - k]'(by simp;omega):=by rw[List.getElem_reverse];simp
 refine h1.trans ?_;rw[List.getElem_map];simp[List.getD,show l.length - 1 - k<l.length by omega]
end Plain
theorem BX (v:Value) (l:List Int) (w:World) (hl:l.length<=1000000) (hb:∀ d∈l,0<=d/\d<4294967296) (h:aI w v l) :
  Calls Tryz.prog 129 #[v] w λe w'=>∃ v',e=.returned v'/\aw w' w.heap.size v' (twins l)/\ai [] w w':=by
 have HI:=lh h;have HB:=lh hb;obtain⟨ao,cap,rfl,-,hm,-⟩:=h;clear hb;go_enter Tryz.func129,Tryz.ntmps129;go_wp2_with (at_make;refine SR rfl _ _ rfl (B:=w.heap.size) (n:=l.length) rfl rfl (Qi _) (by omega) ?_;intro v1 w1 r1 c1 f1;obtain⟨o1,k1,rfl⟩:=r1.shape;have R1:=lh r1;have C1:=lh c1;clear r1 c1 f1);have HTA:=lh (show (twins l).take (l.length - l.length)=[] by simp);go_loopw [3,4] (λc3 c4 wr=>∃ i:Nat,i<=l.length/\c4=.int .i64 ((i:Int) - 1)/\aw wr w.heap.size c3 ((twins l).take (l.length - i))/\ai [] w wr) (λ_ c4 _=>(intOf c4+1).toNat);case atStart=>exact⟨l.length,Qi _,by go_num,by rw[HTA.out];exact R1.out,C1.out⟩
 case round =>
  obtain⟨i,hi,gX,aT,hc⟩:=hrel;have bA:=lh aT;have HC:=lh hc;obtain⟨oo,oc,rfl⟩:=aT.shape;have qk:=lh hc.size;clear aT hc;cases i with
  | succ j =>
   rw[show ((j+1:Nat):Int) - 1=(j:Int) by omega] at gX;subst gX;have pr:j<l.length:=hi;obtain⟨rb,sy,rfl,rc⟩:=aI.cellAt HI.out pr;have bX:=HC.out.c rc;have lU:=HB.out _ (aQ pr);have uH:=lh (show (twins l).take (l.length - j)=(twins l).take (l.length - (j+1))++[aH (l.getD j 0)] by
    have:=Kw (l:=l) (k:=l.length - (j+1)) (by omega);rw[show l.length - (j+1)+1=l.length - j by omega,show l.length - 1 - (l.length - (j+1))=j by omega] at this;exact this)
   obtain⟨d,hd⟩:∃ d:Nat,l.getD j 0=d:=⟨(l.getD j 0).toNat,by omega⟩;rw[hd] at bX lU uH;have Io:=ql d (by omega);have IT:bF (aH (d:Int)):=by unfold aH;split <;> exact bF.mk (by omega) (by omega)
   have sd:((twins l).take (l.length - (j+1))).length<4294967290:=by rw[Ql];omega
   obtain⟨M,hM⟩:∃ M,(twins l).take (l.length - (j+1))=M:=⟨_,rfl⟩;rw[hM] at bA uH sd ⊢;have oE:=lh (show aw wr w.heap.size (.slice oo M.length oc) M from bA.out);have HJL:=lh pr;clear rc hd hM bA hi lU hl;generalize aH (d:Int)=t at *;go_wp2_with (at_builtin;refine eN rfl _ _ rfl (B:=w.heap.size) (v:=.slice oo _ oc) rfl rfl oE.out IT qk.out sd rfl ?_;intro v6 w6 r6 c6 f6;have R6:=lh r6;have C6:=lh c6;clear r6 c6 f6);go_roundw;case rel=>exact⟨j,Nat.le_of_lt HJL.out,by go_num,by rw[uH.out];exact R6.out,HC.out.trans C6.out (λj hj=>Qj (oE.out.low j (by rw[<-oE.out.aC];exact hj)).1)⟩
   case measure=>simp[intOf]
  | zero =>
   rw[show ((0:Nat):Int) - 1 = -1 by omega] at gX;subst gX;have HF:=lh (show (twins l).take (l.length - 0)=twins l by rw[Nat.sub_zero,List.take_of_length_le (by rw[qj];exact Qi _)]);have Bp:=lh (show aw wr w.heap.size (.slice oo (twins l).length oc) (twins l) by have:=bA.out;rwa[HF.out] at this);rw[HF.out];clear bA;go_wp2;go_ret;exact⟨_,rfl,Bp.out,HC.out⟩
theorem xc (ve vd:Value) (E l:List Int) (w:World) (hE:E.length<=1000000) (_hl:l.length<=1000000) (hb:∀ e∈E,0<=e/\e<1000000) (h:aI w ve E) (h2:aI w vd l) :
  Calls Tryz.prog 131 #[ve,vd] w λe w'=>∃ v',e=.returned v'/\aw w' w.heap.size v' (a8 E l)/\ai [] w w':=by
 have HI:=lh h;have HD:=lh h2;have HB:=lh hb;obtain⟨ao,cap,rfl,-,hm,-⟩:=h;obtain⟨bo,avV,rfl,-,mD,-⟩:=h2;clear hb;go_enter Tryz.func131,Tryz.ntmps131;go_wp2_with fail;go_loopw [5,7,10] (λc5 _ c10 wr=>∃ k:Nat,k<=E.length/\c10=.int .i64 k/\aw wr w.heap.size c5 (a8 (E.take k) l)/\ai [] w wr) (λ_ _ c10 _=>E.length - (intOf c10).toNat);case atStart=>exact⟨0,Qb _,rfl,da _ _,ai.refl _ _⟩
 case round =>
  obtain⟨k,hk,rfl,aT,hc⟩:=hrel;have bA:=lh aT;have HC:=lh hc;obtain⟨oo,oc,rfl⟩:=aT.shape;have qk:=lh hc.size;clear aT hc;by_cases aW:k<E.length
  ·obtain⟨rb,sy,rfl,rc⟩:=aI.cellAt HI.out aW
   have bX:=HC.out.c rc;have lU:=HB.out _ (aQ aW);have Pw:=lh (show a8 (E.take (k+1)) l=a8 (E.take k) l++(if (!(l.contains (2*E.getD k 0))&&!(l.contains (2*E.getD k 0+1)))=true then [E.getD k 0] else []) from dw _ aW);obtain⟨e,he⟩:∃ e,E.getD k 0=e:=⟨_,rfl⟩;rw[he] at bX lU Pw;have ww0:IntKind.i64.wrap (2*e)=2*e:=IntWalk.i64_in _ (by omega);have ww1:IntKind.i64.wrap (2*e+1)=2*e+1:=IntWalk.i64_in _ (by omega);have IE:bF e:=by grind [bF.mk]
   have sd:(a8 (E.take k) l).length<4294967290:=by grind [a8]
   obtain⟨M,hM⟩:∃ M,a8 (E.take k) l=M:=⟨_,rfl⟩;rw[hM] at bA Pw sd ⊢;clear rc he hM lU;go_wp2_with fail;refine (ue _ l (2*e) _ (HD.out.fresh HC.out)).mono ?_;rintro _ w3 ⟨rfl,rfl⟩;have PI:=bA;have b8:=HC;clear bX;cases h0:decide (2*e∈l) with
   | true =>
    have HK:=lh (Pw.out.trans (by rw[if_neg (by grind),Qd]));clear h0;go_wp2;go_roundw;case rel=>exact⟨k+1,by omega,by go_num,by rw[HK.out];exact PI.out,b8.out⟩
    case measure=>simp[intOf];omega
   | false =>
    have H0:=lh (of_decide_eq_false h0);clear h0;go_wp2_with fail;refine (ue _ l (2*e+1) _ (HD.out.fresh b8.out)).mono ?_;rintro _ w4 ⟨rfl,rfl⟩;have Ez:=PI;have eW:=b8;cases h1:decide (2*e+1∈l) with
    | true =>
     have HK:=lh (Pw.out.trans (by rw[if_neg (by grind),Qd]));clear h1;go_wp2;go_roundw;case rel=>exact⟨k+1,by omega,by go_num,by rw[HK.out];exact Ez.out,eW.out⟩
     case measure=>simp[intOf];omega
    | false =>
     have HK:=lh (Pw.out.trans (by rw[if_pos (by simp[of_decide_eq_false h1,H0.out])]));have YP:=lh eW.out.size;clear h1;go_wp2_with (at_builtin;refine eN rfl _ _ rfl (B:=w.heap.size) (v:=.slice oo _ oc) rfl rfl Ez.out IE YP.out sd rfl ?_;intro v6 w6 r6 c6 f6;have R6:=lh r6;have C6:=lh c6;clear r6 c6 f6);go_roundw;case rel=>exact⟨k+1,by omega,by go_num,by rw[HK.out];exact R6.out,eW.out.trans C6.out (λj hj=>Qj (Ez.out.low j (by rw[<-Ez.out.aC];exact hj)).1)⟩
     case measure=>simp[intOf];omega
  have e:k=E.length:=by omega
  subst e;rw[Qc] at bA ⊢;clear hk aW;go_wp2;go_ret;exact⟨_,rfl,bA.out,HC.out⟩
def US (n:Nat) (f:Int->Bool):List Value:=(Qp n).map λi:Nat=>.bool (f i)
def bT (w:World) (B b n:Nat) (f:Int->Bool):Prop:=w.ownsRow B 4 1 (.slice (some ⟨b,0,none⟩) n n) n (US n f)
theorem GF:qg 109 4 (.bool false) 1 1:=⟨Tryz.underlying109,by kernel_rfl,rfl,by decide,by decide⟩
section
variable {B' v fb:Nat}
variable {w w' : World} {B b n : Nat} {f : Int -> Bool}
theorem bT.aL {own:List Nat} (h:bT w B b n f) (hc:ai own w w') (hb:b ∉ own):bT w' B b n f:=bG h hc (λj hj=>by
 have e:b=j:=by simpa[Value.ownBlock] using hj
 rw[<-e];exact hb)
theorem bT.base (h:bT w B' b n f) (hB:B<=B'):bT w B b n f:=kK h hB
theorem bT.lt (h:bT w B b n f):B<=b/\b<w.heap.size:=Qg.lt h b rfl
theorem bT.kind (h:bT w B b n f):∃ cs,w.heap[b]?=some (.cells cs 4 (0,0)):=by
 rcases h.2 with ⟨e,-⟩ | ⟨g',cap,cur,e,-,hh,-⟩
 all_goals grind
theorem bT.cell (h:bT w B b n f) (hv:v<n):w.cell? ⟨b,v,none⟩=some (.bool (f v)):=by
 have:=Qg.cells h (g:=b) rfl v (.bool (f v)) (by simp[US,hv]);have mC:(⟨b,0,none⟩:Addr).add v=⟨b,v,none⟩:=by unfold Addr.add;split <;> simp_all
 grind
theorem bT.free (h:bT w B b n f) (i:Nat):w.frozen? ⟨b,i,none⟩=false:=by
 obtain⟨cs,hh⟩:=h.kind;simp[World.frozen?,hh]
theorem bT.set (h:bT w B b n f) (x:Bool):bT (w.setCell ⟨b,v,none⟩ (.bool x)) B b n (λu=>if u=(v:Int) then x else f u):=by
 have hs:=Qg.stored h v (.bool x);unfold bT;have e:(US n f).set v (.bool x)=US n (λu=>if u=(v:Int) then x else f u):=by
  refine List.ext_getElem (by simp[US]) λi h1 h2=>?_
  all_goals grind [US]
 grind
theorem Cx (h:w.ownsRow B 4 1 (.slice (some ⟨fb,0,none⟩) n n) n (madeCells (Qo false).cells (n*1)).toList):bT w B fb n (λ_=>false):=by
 have e1:(madeCells (Qo false).cells (n*1)).toList=US n (λ_=>false):=by
  show (madeCells #[Qo false] (n*1)).toList=_;rw[Nat.mul_one,toList_madeCells_one];unfold US;rw[List.map_const',List.length_range]
 rw[e1] at h;exact h
end
theorem uY {b:Nat} {f f':Int->Bool} (h:bT w B b n f) (he:∀ i:Nat,i<n->f i=f' i):bT w B b n f':=by
 unfold bT at h ⊢;have e:US n f=US n f':=List.map_congr_left λi hi=>by rw[he i (List.mem_range.1 hi)]
 rwa[e] at h
theorem Lf {t e:TypeId} {size:Nat} (E:qg t e z size bytes) {ops:Array Oper} {rest:List Oper} {o:Oper} {a:Act} {Q:Exit->Act->World->Prop} (hg:o.guard=none) (l c:Operand) (sH:o.op=Op.makeSlice t l c) (hl:a.eval l=.int .i64 n) (hc:a.eval c=.int .i64 n) (hB:B<=w.heap.size) (hn:n<68719476736)
  (hK:∀ w',w'.ownsRow B e size (.slice (some ⟨w.heap.size,0,none⟩) n n) n (madeCells z.cells (n*size)).toList->ai [] w w'->wpList Tryz.prog ops Q rest (a.put o.dst (.slice (some ⟨w.heap.size,0,none⟩) n n)) w'):wpList Tryz.prog ops Q (o :: rest) a w :=
 wpList_plain hg λ_ Bm=>tY E l c sH hl hc hB hn λw' h1 h2=>Bm _ _ (hK w' h1 h2)
structure pn (w:World) (sb:Nat) (g:Gr) (vE:Value) (N:Nat):Prop where
 c0:w.cell? ⟨sb,0,none⟩=some (.int .i64 g.n)
 c1:w.cell? ⟨sb,1,none⟩=some vE
 gr:cA w (.agg #[.int .i64 g.n,vE]) g
 n:g.n=N
 err:g.err=0
theorem pn.fresh (h:pn w sb g vE N) (hc:ai [] w w'):pn w' sb g vE N :=
 ⟨hc.c h.c0,hc.c h.c1,h.gr.fresh hc,h.n,h.err⟩
theorem pn.small (h:pn w sb g vE N):N<=1024/\g.e.length<=1024:=by
 obtain⟨h1,h2,h3,-⟩:=Gr.aF h.err;have:=h.n;omega
theorem pn.Gq (h:pn w sb g vE N) {d:Int} (h0:0<=d) (hd:d / 2<g.e.length):∃ n v:Nat,d=n/\n / 2<g.e.length/\g.tail d=v/\v<N/\n<4096:=by
 obtain⟨h1,h2,h3,h4⟩:=Gr.aF h.err;have hn:=h.n;obtain⟨m,rfl⟩:∃ m:Nat,d=m:=⟨d.toNat,by omega⟩;have hm:m / 2<g.e.length:=by omega
 have he:=h4 _ hm;have ht:g.tail (m:Int)=(g.ends (m / 2)).1\/g.tail (m:Int)=(g.ends (m / 2)).2:=by
  all_goals grind [Gr.tail,Gr.at]
 refine⟨m,(g.tail (m:Int)).toNat,rfl,hm,?_,?_,by omega⟩
 all_goals grind
namespace Plain
theorem Ce {g:Gr} {l:List Int} {k:Nat} (hk:k<l.length) (v:Int):dM g (l.take (k+1)) v=if v=g.tail (l.getD k 0) then true else dM g (l.take k) v:=by
 unfold dM;have e:l.getD k 0=l[k]:=by simp[List.getD,hk]
 rw[Qa hk,List.any_append,e]
 all_goals grind
end Plain
theorem og (sb N:Nat) (vE vl:Value) (g:Gr) (l:List Int) (w:World) (hG:pn w sb g vE N) (hl:l.length<=1000000) (hd:∀ d∈l,0<=d/\d / 2<g.e.length) (h:aI w vl l) :
  Calls Tryz.prog 128 #[.pointer (some ⟨sb,0,none⟩),vl] w λe w'=>∃ hb,e=.returned (.agg #[vl,.slice (some ⟨hb,0,none⟩) N N])/\bT w' w.heap.size hb N (dM g l)/\ai [] w w':=by
 have HG:=lh hG;have HI:=lh h;have HD:=lh hd;obtain⟨hsN,hsE⟩:=hG.small;have Si:=lh hG.n;obtain⟨lo,lc,rfl,-,hm,-⟩:=h;have HN:=lh (show g.n=N from hG.n);have gJ:=lh (show ai [] w (w.alloc (.cells #[.slice none 0 0,.slice none 0 0] 158)) from (show ai [] w (w.alloc (.cells #[.slice none 0 0,.slice none 0 0] 158)) from ((ai.refl [] w).alloc _)));have cf:=heap_alloc_new w (.cells #[.slice none 0 0,.slice none 0 0] 158);have HX:=lh (λ(w2:World) (dN:ai [] (w.alloc (.cells #[.slice none 0 0,.slice none 0 0] 158)) w2)=>(⟨dN.heap cf (by simp),by have hz:=dN.size;simpa using hz⟩:w2.heap[w.heap.size]?=some (.cells #[.slice none 0 0,.slice none 0 0] 158 (0,0))/\w.heap.size+1<=w2.heap.size));clear cf;have xJ:=lh (show (w.alloc (.cells #[.slice none 0 0,.slice none 0 0] 158)).heap.size=w.heap.size+1 by simp);have q0:=gJ.out.c hG.c0;clear hd hG;go_enter Tryz.func128,Tryz.ntmps128;go_wp2_with (at_make;refine Lf GF rfl _ _ rfl (B:=w.heap.size) (n:=N) (by show Qr .i64 g.n=_;rw[HN.out]) (by show Qr .i64 g.n=_;rw[HN.out]) gJ.out.size (by omega) ?_;intro w2 h2 c2;have H2:=lh (Cx h2);have C2:=lh c2;clear h2 c2);have kA:(w.alloc (.cells #[.slice none 0 0,.slice none 0 0] 158)).heap.size=w.heap.size+1:=by simp
 rw[kA] at H2;obtain⟨hb,hhb⟩:∃ hb,w.heap.size+1=hb:=⟨_,rfl⟩;have HHB:=lh hhb.symm;rw[hhb] at H2 ⊢;clear kA hhb;have bU:=lh (gJ.out.t C2.out);have HX4:=lh (show ∀ wx,ai [hb] w2 wx->wx.heap[w.heap.size]?=some (.cells #[.slice none 0 0,.slice none 0 0] 158 (0,0)) from λwx hx=>by
  obtain⟨r4,-⟩:=HX.out w2 C2.out;exact hx.heap r4 (by rw[Qe];have:=HHB.out;omega))
 clear q0 C2;go_loopw [7,16] (λ_ c wr=>∃ k:Nat,k<=l.length/\c=.int .i64 k/\bT wr w.heap.size hb N (dM g (l.take k))/\ai [hb] w2 wr) (λ_ c _=>l.length - (intOf c).toNat);case atStart=>exact⟨0,Qb _,rfl,uY H2.out (λ_ _=>rfl),ai.refl _ _⟩
 case round =>
  obtain⟨k,hk,rfl,wW,hc⟩:=hrel;have HB:=lh wW;have HC:=lh (show ai [] w wr from bU.out.trans hc (λj hj=>Qj (by rw[Qe] at hj;have:=HHB.out;omega)));have nm:=lh hc;have I0:=lh (HG.out.fresh HC.out);clear wW hc;by_cases aW:k<l.length
  ·obtain⟨rb,sy,rfl,rc⟩:=aI.cellAt HI.out aW
   have bX:=HC.out.c rc;have lU:=HD.out _ (aQ aW);have HT:=lh (Ce (g:=g) aW);obtain⟨n,v,hn,kr,hv,AL,hn4⟩:=HG.out.Gq lU.1 lU.2;rw[hn] at bX HT;rw[hn] at hv;rw[hv] at HT;have Iq:=lh hv;have q0:=I0.out.c0;have q1:=I0.out.c1;have bf:=HB.out.free v;have bc:=HB.out.cell AL;have Pf:(v:Int)<(N:Int):=by omega
   clear rc lU hn hv;go_wp2_with fail;refine (dH _ g n wr kr (by omega) I0.out.gr).mono ?_;rintro _ w3 ⟨rfl,dK⟩;rw[Iq.out];have bf3:=dK.frozen bc bf (by simp);have bc3:=dK.c bc;have wK:=lh (HB.out.aL dK (by simp));have b8:=lh (nm.out.t dK);clear dK bf bc q0 q1 bX;go_wp2;go_roundw;case rel =>
    refine⟨k+1,by omega,by go_num,?_,b8.out.trans ((ai.refl [hb] w3).setCell (Or.inl (by simp)) _) (λj hj=>Or.inl hj)⟩;have h1:=wK.out.set (v:=v) true;have e:(λu=>if u=(v:Int) then true else dM g (l.take k) u)=dM g (l.take (k+1)):=funext λu=>(HT.out u).symm;rw[e] at h1;exact h1
   case measure=>simp[intOf];omega
  have e:k=l.length:=by omega
  subst e;rw[Qc] at HB;have r4:=HX4.out wr nm.out;have r0:=(cell_of_row _ _ 0 _ _ _ r4).trans (show _=some (Qf none 0 0) from rfl);have r1:=(cell_of_row _ _ 1 _ _ _ r4).trans (show _=some (Qf none 0 0) from rfl);have f0:=bE r4 0;have f1:=bE r4 1;have br:ai [w.heap.size] wr ((wr.setCell ⟨w.heap.size,0,none⟩ (.slice lo l.length lc)).setCell ⟨w.heap.size,1,none⟩ (.slice (some ⟨hb,0,none⟩) N N)):=by grind [ai.refl,ai.setCell]
  have iS:=heap_setCell_same (heap_setCell_same r4 0 (.slice lo l.length lc)) 1 (.slice (some ⟨hb,0,none⟩) N N);have ZO:=lh ((cell_of_row _ _ 0 _ _ _ iS).trans (show _=some (Qf lo l.length lc) from rfl));have Pc:=lh ((cell_of_row _ _ 1 _ _ _ iS).trans (show _=some (Qf (some ⟨hb,0,none⟩) N N) from rfl));have HBF:=lh (HB.out.aL br (by rw[Qe];have:=HHB.out;omega));have gU:=lh (HC.out.trans br (λj hj=>Qj (by grind)));clear r4 br iS aW hk;go_wp2;refine bodyPost_ret (v:=.agg #[.slice lo l.length lc,.slice (some ⟨hb,0,none⟩) N N]) (by have h0:=ZO.out;have h1:=Pc.out;simp[results,Tryz.results128,go_sem,h0,h1]) rfl ?_;exact⟨hb,rfl,HBF.out,gU.out⟩
end Go.Proofs.YtoiflofhcmjpoaaGreat
-- READS ONLY
namespace Go.Proofs.YtoiflofhcmjpoaaGreat
open Plain
open Go.RowKit Go.Maps
variable {g:Gr} {w w':World} {B N k:Nat} {fv:Value} {xs:List Value} {F:List (List Int)}
namespace Plain
def rq (g:Gr) (on:Int->Bool) (E:List Int):List Int:=E.flatMap λe=>[(g.at e).1,(g.at e).2].filter on
theorem Kp {g:Gr} {on:Int->Bool} {l:List Int} {k:Nat} (hk:k<l.length):rq g on (l.take (k+1))=rq g on (l.take k)++[(g.at (l.getD k 0)).1,(g.at (l.getD k 0)).2].filter on:=by
 unfold rq;rw[Qa hk,List.flatMap_append]
 grind
theorem CW (g:Gr) (on:Int->Bool):∀ l:List Int,(rq g on l).length<=2*l.length
 | []=>Qi _
 | e :: l=>by
  have ih:=CW g on l;unfold rq at ih ⊢;rw[List.flatMap_cons,Qk];have:=Qh on [(g.at e).1,(g.at e).2];simp only[Qm,Qn] at this ⊢;omega
end Plain
theorem UJ (sb ob N B:Nat) (vE vl:Value) (g:Gr) (on:Int->Bool) (E:List Int) (w:World) (hG:pn w sb g vE N) (hq:w.cell? ⟨sb,2,none⟩=some (.slice (some ⟨ob,0,none⟩) N N)) (kP:bT w B ob N on) (hl:E.length<=100000) (hd:∀ e∈E,0<=e/\e<g.e.length) (h:aI w vl E) :
  Calls Tryz.prog 178 #[.pointer (some ⟨sb,0,none⟩),vl] w λe w'=>∃ v',e=.returned v'/\aw w' w.heap.size v' (bC g on E)/\ai [] w w':=by
 have HG:=lh hG;have HI:=lh h;have HD:=lh hd;have Nj:=lh kP;have HQ:=lh hq;have iL:=lh hG.small;have Si:=lh hG.n;have fB:=lh (Gr.aF hG.err);obtain⟨eo,cap,F4,-,-,fx,aS⟩:=hG.gr;have oe:=lh aS;have HGS:=lh fx;simp only[Value.agg.injEq,Array.mk.injEq,List.cons.injEq,true_and,and_true] at F4;subst F4;obtain⟨lo,lc,rfl,-,hm,-⟩:=h;clear hd hG aS fx kP hq;go_enter Tryz.func178,Tryz.ntmps178;go_wp2_with fail;go_loopw [5,7,9,12] (λc5 _ _ c wr=>∃ k:Nat,k<=E.length/\c=.int .i64 k/\aw wr w.heap.size c5 (rq g on (E.take k))/\ai [] w wr) (λ_ _ _ c _=>E.length - (intOf c).toNat);case atStart=>exact⟨0,Qb _,rfl,da _ _,ai.refl _ _⟩
 case round =>
  obtain⟨k,hk,rfl,aT,hc⟩:=hrel;have bA:=lh aT;have HC:=lh hc;obtain⟨oo,oc,rfl⟩:=aT.shape;have Pk:=lh (show (rq g on (E.take k)).length<=200000 by grind [CW]);clear aT hc;by_cases aW:k<E.length
  ·obtain⟨rb,sy,rfl,rc⟩:=aI.cellAt HI.out aW
   have bX:=HC.out.c rc;have lU:=HD.out _ (aQ aW);have AE:=lh (Kp (g:=g) (on:=on) aW);obtain⟨en,lJ⟩:∃ en:Nat,E.getD k 0=en:=⟨(E.getD k 0).toNat,by omega⟩;rw[lJ] at bX lU AE;have iM:en<g.e.length:=by omega
   have mN:en<2000:=by have:=iL.out;omega
   obtain⟨eb,cR,rfl,fs,dD⟩:=oe.out en iM;obtain⟨z1,z2⟩:=HGS.out en iM;have hr:=fB.out.2.2.2 en iM;have c0:=HC.out.c fs;have c1:=HC.out.c dD;have q1:=HC.out.c HG.out.c1;have eJ:g.at (en:Int)=g.ends en:=by grind [Gr.at]
   rw[eJ] at AE;obtain⟨x,hx⟩:∃ x:Nat,(g.ends en).1=x:=⟨(g.ends en).1.toNat,by omega⟩;obtain⟨y,hy⟩:∃ y:Nat,(g.ends en).2=y:=⟨(g.ends en).2.toNat,by omega⟩;rw[hx] at c0 z1 AE;rw[hy] at c1 z2 AE;have HXN:=lh (show x<N by rw[Si.out,hx] at hr;omega);have HYN:=lh (show y<N by rw[Si.out,hy] at hr;omega);obtain⟨M,hM⟩:∃ M,rq g on (E.take k)=M:=⟨_,rfl⟩;rw[hM] at bA AE Pk ⊢;clear rc lU lJ fs dD hr eJ hx hy hM;go_wp2_with fail;have aG:ai [] wr wr.drew:=(ai.refl [] wr).drew;refine al (ai [] wr) [0,1,2,3,4,5,6,7,8,9,10,11,12,13,14,15,16,17,19,20] (Way.line [0,1,2,3,4,5,6,7,8,9,10,11,12,13,14,15,16,17,20,18,19] .done) (by kernel_rfl) (by kernel_rfl) ?_;simp only[Way.line]
   repeat (refine aj (v:=?_) rfl (by rfl) (by rfl) (λ_ _ _ h=>h) aG (λw' aB=>?_) ?_;rotate_left;(focus (have fE:=aB.c q1;have fV:=aB.c c0;have kD:=aB.c c1;clear aB;go_simp;try with_reducible rfl));simp only[Qq,Z1,Z2,Z3,Z4,Z5,Z6])
   refine aq rfl (by rfl) (by rfl) (λK hK=>?_);go_simp;have bH:=aG.alloc (.cells #[.int .i64 (x:Int),.int .i64 (y:Int)] 3);refine hK.out _ _ (λ_=>bH) ?_;clear hK K;try simp only[Qq,Z1,Z2,Z3,Z4,Z5,Z6]
   repeat (refine aj (v:=?_) rfl (by rfl) (by rfl) (λ_ _ _ h=>h) bH (λw' aB=>?_) ?_;rotate_left;(focus (skip;clear aB;go_simp;try with_reducible rfl));simp only[Qq,Z1,Z2,Z3,Z4,Z5,Z6])
   refine ar ?_;have wA:=lh (show (wr.alloc (.cells #[.int .i64 (x:Int),.int .i64 (y:Int)] 3)).drew.heap[wr.heap.size]?=some (.cells #[.int .i64 (x:Int),.int .i64 (y:Int)] 3 (0,0)) from heap_alloc_new wr _);have bU:=lh (show ai [] wr (wr.alloc (.cells #[.int .i64 (x:Int),.int .i64 (y:Int)] 3)).drew from ((ai.refl [] wr).alloc _).drew);have YQ:=lh (bA.out.aL bU.out (by simp));have HPF:=lh (show wr.heap.size ∉ aC (.slice oo M.length oc) from λq=>by
    rw[bA.out.aC] at q;have:=(bA.out.low _ q).2;omega)
   clear aG bH q1 c0 c1 bX bA;generalize (wr.alloc (.cells #[.int .i64 (x:Int),.int .i64 (y:Int)] 3)).drew=wd at *;obtain⟨pb,tO⟩:∃ pb,wr.heap.size=pb:=⟨_,rfl⟩;have uF:=lh tO;rw[tO] at wA HPF ⊢;have b8:=lh (HC.out.t bU.out);have HWP:=lh (show w.heap.size<=pb by rw[<-tO];exact HC.out.size);clear tO;have HZ:=lh (show ∀ j:Nat,j<2->∃ z:Nat,z<N/\(∀ wx:World,wx.heap[pb]?=some (.cells #[.int .i64 (x:Int),.int .i64 (y:Int)] 3 (0,0))->wx.cell? ⟨pb,j,none⟩=some (.int .i64 (z:Int)))/\bF (z:Int)/\([(x:Int),(y:Int)].take (j+1)).filter on=([(x:Int),(y:Int)].take j).filter on++(if on (z:Int)=true then [(z:Int)] else []) from λj hj=>by
    rcases (show j=0\/j=1 by omega) with rfl | rfl
    ·refine⟨x,HXN.out,λwx hx=>(cell_of_row _ _ 0 _ _ _ hx).trans rfl,z1,?_⟩
     grind
    refine⟨y,HYN.out,λwx hx=>(cell_of_row _ _ 1 _ _ _ hx).trans rfl,z2,?_⟩
    grind)
   rename World=>wo;go_wp2_with fail;go_loopw [5,9,36] (λc5 _ c wr=>∃ j:Nat,j<=2/\c=.int .i64 j/\wr.heap[pb]?=some (.cells #[.int .i64 (x:Int),.int .i64 (y:Int)] 3 (0,0))/\aw wr w.heap.size c5 (M++([(x:Int),(y:Int)].take j).filter on)/\pb ∉ aC c5/\ai [] w wr) (λ_ _ c _=>2 - (intOf c).toNat);case atStart=>exact⟨0,Qb _,rfl,wA.out,by simpa using YQ.out,HPF.out,b8.out⟩
   case round =>
    obtain⟨j,hj,rfl,dN,aT,PL,AB⟩:=hrel;have DZ:=lh dN;have bA:=lh aT;have VU:=lh PL;have lY:=lh AB;obtain⟨oo2,oc2,rfl⟩:=aT.shape;have qY:=lh (show (M++([(x:Int),(y:Int)].take j).filter on).length<=200002 by
     rw[Qk];have h1:=Qh on ([(x:Int),(y:Int)].take j);rw[Ql] at h1;simp only[Qm,Qn] at h1;have:=Pk.out;omega)
    clear dN aT PL AB;by_cases Nr:j<2
    ·obtain⟨z,hzN,hzc,SZ,hzf⟩:=HZ.out j Nr
     have pz:=hzc _ DZ.out;have s2:=lY.out.c HQ.out;have bz:=((Nj.out.base (Qb _)).aL lY.out (by simp)).cell hzN;have HZF:=lh hzf;have nC:(j:Int)<2:=by omega
     have hzi:(z:Int)<(N:Int):=by omega
     obtain⟨P,hP⟩:∃ P,M++([(x:Int),(y:Int)].take j).filter on=P:=⟨_,rfl⟩;rw[hP] at bA qY VU ⊢;have HP:=lh hP;have sd:P.length<4294967290:=by have:=qY.out;omega
     have HBW:=lh lY.out.size;clear hzc hzf hP;cases hb:on (z:Int) with
     | true =>
      rw[hb] at bz;have HK:=lh (show M++([(x:Int),(y:Int)].take (j+1)).filter on=P++[(z:Int)] by rw[HZF.out,<-HP.out,hb,if_pos rfl,List.append_assoc]);clear hb;go_wp2_with (at_builtin;refine eN rfl _ _ rfl (B:=w.heap.size) (v:=.slice oo2 _ oc2) rfl rfl bA.out SZ HBW.out sd rfl ?_;intro v6 w6 r6 c6 f6;have R6:=lh r6;have C6:=lh c6;have F6:=lh f6;clear r6 c6 f6);go_roundw;case rel =>
       refine⟨j+1,by omega,by go_num,C6.out.heap DZ.out VU.out,by rw[HK.out];exact R6.out,λq=>?_,lY.out.trans C6.out (λb hb=>Qj (bA.out.low b (by rw[<-bA.out.aC];exact hb)).1)⟩;rcases F6.out pb q with r | r
       ·exact VU.out r
       have:=lt_of_block DZ.out;omega
      case measure=>simp[intOf];omega
     | false =>
      rw[hb] at bz;have HK:=lh (show M++([(x:Int),(y:Int)].take (j+1)).filter on=P by rw[HZF.out,<-HP.out,hb,if_neg (by simp),Qd]);clear hb;go_wp2;go_roundw;case rel=>exact⟨j+1,by omega,by go_num,DZ.out,by rw[HK.out];exact bA.out,VU.out,lY.out⟩
      case measure=>simp[intOf];omega
    have e2:j=2:=by omega
    subst e2;have HK:=lh (show rq g on (E.take (k+1))=M++([(x:Int),(y:Int)].take 2).filter on from AE.out);have RM:k<E.length:=aW;obtain⟨P,hP⟩:∃ P,M++([(x:Int),(y:Int)].take 2).filter on=P:=⟨_,rfl⟩;rw[hP] at bA HK ⊢;clear hj Nr hP;go_wp2;go_roundw;case rel=>exact⟨k+1,by omega,by go_num,by rw[HK.out];exact bA.out,lY.out⟩
    case measure=>simp[intOf];omega
  have e:k=E.length:=by omega
  subst e;rw[Qc] at bA Pk ⊢;clear hk aW;obtain⟨M,hM⟩:∃ M,rq g on E=M:=⟨_,rfl⟩;have HM:=lh (show bC g on E=tidy M by rw[<-hM];rfl);rw[hM] at bA Pk ⊢;clear hM;go_wp2_with fail;refine (qx _ M _ _ (by have:=Pk.out;omega) bA.out).mono ?_;rintro _ w5 ⟨rfl,nf,dV⟩;have HF5:=lh (show ai [] w w5 from HC.out.trans dV (λb hb=>Qj (bA.out.low b hb).1));have AW:(M.mergeSort λx y=>decide (x<=y)).length=M.length:=(List.mergeSort_perm _ _).length_eq;have Zw:=lh (show Go.Lib.compact (M.mergeSort λx y=>decide (x<=y))=tidy M from rfl);obtain⟨S,hS⟩:∃ S,(M.mergeSort λx y=>decide (x<=y))=S:=⟨_,rfl⟩;rw[hS] at AW nf Zw;have rD:=lh nf;have U1:=lh AW;clear nf dV AW hS;go_wp2_with fail;refine (n9 _ S _ _ (by rw[U1.out];have:=Pk.out;omega) rD.out).mono ?_;rintro _ w6 ⟨v6,rfl,hr6,hc6⟩;rw[Zw.out] at hr6;have UR:=lh hr6;have Yl:=lh (show ai [] w w6 from HF5.out.trans hc6 (λb hb=>Qj (rD.out.low b hb).1));clear hr6 hc6;go_wp2;go_ret;exact⟨_,rfl,by rw[HM.out];exact UR.out,Yl.out⟩
structure cW (g:Gr) (w:World) (B N:Nat) (fv:Value) (xs:List Value) (F:List (List Int)):Prop where
 out:w.ownsRow B 158 2 fv F.length xs
 len:xs.length=2*F.length
 row:∀ i,i<F.length->aw w B (xs.getD (2*i) undef) (F.getD i [])
 has:∀ i,i<F.length->∃ b,xs.getD (2*i+1) undef=.slice (some ⟨b,0,none⟩) N N/\bT w B b N (dM g (F.getD i []))
theorem cW.aL {own:List Nat} (h:cW g w B N fv xs F) (hc:ai own w w') (h1:∀ b,fv.ownBlock=some b->b ∉ own) (h2:∀ k b,k<xs.length->(xs.getD k undef).ownBlock=some b->b ∉ own):cW g w' B N fv xs F:=by
 have hl:=h.len;refine⟨bG h.out hc h1,h.len,λi hi=>(h.row i hi).aL hc (λb hb=>h2 (2*i) b (by omega) (by grind)),λi hi=>?_⟩;obtain⟨b,e,hb⟩:=h.has i hi;exact⟨b,e,hb.aL hc (h2 (2*i+1) b (by omega) (by rw[e];rfl))⟩
theorem cW.fresh (h:cW g w B N fv xs F) (hc:ai [] w w'):cW g w' B N fv xs F:=h.aL hc (by simp) (by simp)
theorem cW.cell {fb n c:Nat} (h:cW g w B N (.slice (some ⟨fb,0,none⟩) n c) xs F) (hk:k<xs.length):w.cell? ⟨fb,k,none⟩=some (xs.getD k undef):=by
 have:=Qg.cells h.out (g:=fb) rfl k (xs.getD k undef) (by grind);have mC:(⟨fb,0,none⟩:Addr).add k=⟨fb,k,none⟩:=by unfold Addr.add;split <;> simp_all
 grind
namespace Plain
variable {P:Int->Bool} {l:List Int}
def Ey (P:Int->Bool) (l:List Int):Int:=match l.findIdx? P with | some i=>(i:Int) | none=>-1
theorem xT {k:Nat} (hk:k<l.length) (h:P (l.getD k 0)=true) (gV:∀ j,j<k->P (l.getD j 0)=false):Ey P l=k:=by
 have e:l.findIdx? P=some k:=by
  rw[List.findIdx?_eq_some_iff_getElem]
  grind
 grind [Ey]
theorem tK (gV:∀ j,j<l.length->P (l.getD j 0)=false):Ey P l = -1:=by
 grind [cr,Ey]
theorem Lc (P:Int->Bool) (l:List Int):decide (Ey P l ≥ 0)=l.any P:=by
 cases h:l.any P with
 | true =>
  obtain⟨x,hx,hp⟩:=List.any_eq_true.1 h;refine decide_eq_true ?_;unfold Ey;cases hf:l.findIdx? P with
  | some i=>show (i:Int) ≥ 0;omega
  | none =>
   have:=List.findIdx?_eq_none_iff.1 hf x hx;rw[hp] at this;cases this
 | false =>
  refine decide_eq_false ?_;rw[tK λj hj=>by
   have:=List.any_eq_false.1 h _ (iQ hj);exact Bool.eq_false_iff.2 this]
  omega
end Plain
theorem S7 (v bx hb N B:Nat) (f:Int->Bool) (w:World) (hv:v<N) (hc:w.cell? ⟨bx,0,none⟩=some (.slice (some ⟨hb,0,none⟩) N N)) (h:bT w B hb N f) :
  Calls Tryz.prog 181 #[.int .i64 v,.pointer (some ⟨bx,0,none⟩)] w λe w'=>e=.returned (.bool (!f v))/\ai [] w w':=by
 have bc:=h.cell hv;have Pf:(v:Int)<(N:Int):=by omega
 obtain⟨x,hx⟩:∃ x,f (v:Int)=x:=⟨_,rfl⟩;rw[hx] at bc ⊢;clear h hx;go_enter Tryz.func181,Tryz.ntmps181;go_wp2;go_ret;exact⟨rfl,ai.refl _ _⟩
theorem MX (bx hb N B:Nat) (f:Int->Bool) (v:Value) (q:List Int) (w:World) (hq:∀ d∈q,0<=d/\d<N) (Rk:q.length<1000000000) (hv:aI w v q) (hc:w.cell? ⟨bx,0,none⟩=some (.slice (some ⟨hb,0,none⟩) N N)) (h:bT w B hb N f) :
  Calls Tryz.prog 109 #[v,.func (Fn.func 181) #[] #[.pointer (some ⟨bx,0,none⟩)]] w λe w'=>e=.returned (.int .i64 (Ey (λx=>!f x) q))/\ai [] w w':=by
 have HQ:=lh hq;have HV:=lh hv;have HCC:=lh hc;have HB:=lh h;obtain⟨ao,ac,rfl,-,-,-⟩:=hv;clear hq hc h;go_enter Tryz.func109,Tryz.ntmps109;go_wp2;go_loopw [8] (λc wr=>∃ k:Nat,k<=q.length/\c=.int .i64 k/\Hid (∀ j,j<k->(!f (q.getD j 0))=false)/\ai [] w wr) (λc _=>q.length - (intOf c).toNat);case atStart=>exact⟨0,Qb _,rfl,lh (by omega),ai.refl _ _⟩
 case round =>
  obtain⟨k,hk,rfl,HN,hc⟩:=hrel;have HC:=lh hc;by_cases aW:k<q.length
  ·obtain⟨rb,sy,rfl,rc⟩:=aI.cellAt HV.out aW
   have bX:=hc.c rc;have hr:=HQ.out _ (aQ aW);have nj:=lh (λ(h:(!f (q.getD k 0))=true)=>xT (P:=λx=>!f x) aW h HN.out);have oL:=lh (λ(h:(!f (q.getD k 0))=false) j (hj:j<k+1)=>(show (!f (q.getD j 0))=false from by
    by_cases e:j=k
    ·rw[e];exact h
    exact HN.out j (by omega)))
   obtain⟨n,e1⟩:∃ n:Nat,q.getD k 0=n:=⟨(q.getD k 0).toNat,by omega⟩;rw[e1] at bX nj oL hr;have hnN:n<N:=by omega
   clear rc e1 hc hr;go_wp2_with fail;refine (S7 n bx hb N B f _ hnN (HC.out.c HCC.out) (HB.out.aL HC.out (by simp))).mono ?_;rintro e w2 ⟨rfl,bI⟩;have bU:=lh (HC.out.t bI);clear bI bX;cases h:(!f (n:Int)) with
   | true =>
    have HI:=lh (nj.out h);clear h;go_wp2;go_ret;exact⟨aR (show ((k:Nat):Int)=_ by rw[HI.out]),bU.out⟩
   | false =>
    have HI:=lh (oL.out h);clear h;go_wp2;go_roundw;case rel=>exact⟨k+1,by omega,by go_num,HI,bU.out⟩
    case measure=>simp[intOf];omega
  have e:k=q.length:=by omega
  subst e;have HI:=lh (tK (P:=λx=>!f x) HN.out);clear hc;go_wp2;go_ret;exact⟨aR (show (-1:Int)=_ by rw[HI.out]),HC.out⟩
theorem Ou (bx hb N B:Nat) (f:Int->Bool) (v:Value) (q:List Int) (w:World) (hq:∀ d∈q,0<=d/\d<N) (Rk:q.length<1000000000) (hv:aI w v q) (hc:w.cell? ⟨bx,0,none⟩=some (.slice (some ⟨hb,0,none⟩) N N)) (h:bT w B hb N f) :
  Calls Tryz.prog 57 #[v,.func (Fn.func 181) #[] #[.pointer (some ⟨bx,0,none⟩)]] w λe w'=>e=.returned (.bool (!q.all f))/\ai [] w w':=by
 have HI:=lh (MX bx hb N B f v q w hq Rk hv hc h);have HE:=lh (show (!q.all f)=decide (Ey (λx=>!f x) q ≥ 0) by rw[Lc,List.any_eq_not_all_not];simp);clear hq hv hc h;go_enter Tryz.func57,Tryz.ntmps57;go_wp2_with fail;refine HI.out.mono ?_;rintro e w2 ⟨rfl,bI⟩;have bU:=lh bI;clear bI;generalize Ey (λx=>!f x) q=z at *;go_wp2;go_ret;exact⟨aM (by show _=(!q.all f);rw[HE.out]),bU.out⟩
theorem wC (sb N B:Nat) (fv vV vK:Value) (g:Gr) (F:List (List Int)) (xs:List Value) (V ks:List Int) (w:World) (hq:w.cell? ⟨sb,3,none⟩=some fv) (hF:cW g w B N fv xs F) (hVl:V.length<1000000) (rI:ks.length<1000000) (hV:∀ v∈V,0<=v/\v<N) (hk:∀ i∈ks,0<=i/\i<F.length) (hFl:F.length<1000000) (h1:aI w vV V) (h2:aI w vK ks) :
  Calls Tryz.prog 138 #[.pointer (some ⟨sb,0,none⟩),vV,vK] w λe w'=>∃ v',e=.returned v'/\aw w' w.heap.size v' (jD g F V ks)/\ai [] w w':=by
 have HF:=lh hF;have HV:=lh hV;have HK:=lh hk;have H1:=lh h1;have H2:=lh h2;have HQ:=lh hq;obtain⟨fo,fc,rfl⟩:=bR hF.out;obtain⟨vo,vc,rfl,-,-,-⟩:=h1;obtain⟨ko,kc,rfl,-,-,-⟩:=h2;clear hF hV hk hq;go_enter Tryz.func138,Tryz.ntmps138;go_wp2_with fail;go_loopw [7,9,10,13] (λc7 _ _ c wr=>∃ k:Nat,k<=ks.length/\c=.int .i64 k/\aw wr w.heap.size c7 (jD g F V (ks.take k))/\ai [] w wr) (λ_ _ _ c _=>ks.length - (intOf c).toNat);case atStart=>exact⟨0,Qb _,rfl,da _ _,ai.refl _ _⟩
 case round =>
  obtain⟨k,hk,rfl,aT,hc⟩:=hrel;have bA:=lh aT;have HC:=lh hc;obtain⟨oo,oc,rfl⟩:=aT.shape;have qY:=lh (show (jD g F V (ks.take k)).length<1000000 by grind [dM,bp,jD]);clear aT hc;by_cases aW:k<ks.length
  ·obtain⟨rb,sy,rfl,rc⟩:=aI.cellAt H2.out aW
   have bX:=HC.out.c rc;have hkr:=HK.out _ (aQ aW);have yn:=lh (show jD g F V (ks.take (k+1))=jD g F V (ks.take k)++(if (V.all λv=>dM g (bp F (ks.getD k 0)) v)=true then [ks.getD k 0] else []) from dw _ aW);obtain⟨i,hi⟩:∃ i:Nat,ks.getD k 0=i:=⟨(ks.getD k 0).toNat,by omega⟩;rw[hi] at bX hkr yn;have hiF:i<F.length:=by omega
   have hii:(i:Int)<(F.length:Int):=by omega
   have rZ:=lh (show bp F (i:Int)=F.getD i [] by grind [bp]);have HFW:=lh (HF.out.fresh HC.out);obtain⟨fb,fc2,efb⟩:=dj HF.out.out (by omega);simp only[Qf.injEq,true_and] at efb;obtain⟨rfl,rfl⟩:=efb;obtain⟨hb,ehb,wW⟩:=HFW.out.has i hiF;have aS:=HFW.out.cell (k:=2*i+1) (by rw[HF.out.len];omega);rw[ehb] at aS;have zL:wr.cell? ⟨fb,i*2+1,none⟩=some (.slice (some ⟨hb,0,none⟩) N N):=by grind
   have HBI:=lh wW;have q3:=HC.out.c HQ.out;have alo:bF (i:Int):=by grind [bF.mk]
   obtain⟨M,hM⟩:∃ M,jD g F V (ks.take k)=M:=⟨_,rfl⟩;rw[hM] at bA yn qY ⊢;have sd:M.length<4294967290:=by have:=qY.out;omega
   have wA:=lh (heap_alloc_new wr (.cells #[.slice (some ⟨hb,0,none⟩) N N] 109));have xa:=lh ((ai.refl [] wr).alloc (.cells #[.slice (some ⟨hb,0,none⟩) N N] 109));clear rc hi hkr ehb wW aS hM;go_wp2_with fail;have uB:=Ou wr.heap.size hb N B (dM g (F.getD i [])) (.slice vo V.length vc) V (wr.alloc (.cells #[.slice (some ⟨hb,0,none⟩) N N] 109)) HV.out (by omega) (H1.out.fresh (HC.out.t xa.out)) ((cell_of_row _ _ 0 _ _ _ wA.out).trans rfl) (HBI.out.aL xa.out (by simp));refine uB.mono ?_;rintro _ w3 ⟨rfl,dK⟩;have b8:=lh (xa.out.t dK);have PI:=lh (bA.out.aL b8.out (by simp));have ji:=lh (HC.out.t b8.out);have HSW:=lh ji.out.size;clear uB dK zL q3 bX;cases cX:V.all (dM g (F.getD i [])) with
   | true =>
    have Wq:=lh (show jD g F V (ks.take (k+1))=M++[(i:Int)] by rw[yn.out,rZ.out];congr 1;exact if_pos cX);clear cX;go_wp2_with (at_builtin;refine eN rfl _ _ rfl (B:=w.heap.size) (v:=.slice oo _ oc) rfl rfl PI.out alo HSW.out sd rfl ?_;intro v6 w6 r6 c6 f6;have R6:=lh r6;have C6:=lh c6;clear r6 c6 f6);go_roundw;case rel=>exact⟨k+1,by omega,by go_num,by rw[Wq.out];exact R6.out,ji.out.trans C6.out (λj hj=>Qj (PI.out.low j (by rw[<-PI.out.aC];exact hj)).1)⟩
    case measure=>simp[intOf];omega
   | false =>
    have Wq:=lh (show jD g F V (ks.take (k+1))=M by rw[yn.out,rZ.out,if_neg (by grind),Qd]);clear cX;go_wp2;go_roundw;case rel=>exact⟨k+1,by omega,by go_num,by rw[Wq.out];exact PI.out,ji.out⟩
    case measure=>simp[intOf];omega
  have e:k=ks.length:=by omega
  subst e;rw[Qc] at bA ⊢;clear hk aW;go_wp2;go_ret;exact⟨_,rfl,bA.out,HC.out⟩
