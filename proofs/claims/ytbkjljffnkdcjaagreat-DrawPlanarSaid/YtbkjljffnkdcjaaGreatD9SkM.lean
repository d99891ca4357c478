/- draw's sketch in memory: rows of bools, aj, cr; border: contract. Conditions: what each theorem says. -/
import Derived.Test.YtbkjljffnkdcjaaGreatD9BlkP
open Go.Value renaming slice→Qa,ownBlock→Qr,bool→Qv,int→Qx,agg→Qy
open List renaming take_succ_eq_append_getElem→Qb,mem_singleton→Qc,length_filter_le→Qe,getD→Qg,take_length→Qh,length_append→Qk,findIdx?_eq_none_iff→Ql,length_cons→Qn,length_take→Qo,length_nil→Qp,append_nil→Qs,foldl_cons→Qt,length_map→Qu
open Nat renaming zero_le→Qd,le_trans→Qw
open Go.Act renaming put→Qf
open Or renaming inr→Qi,inl→Qq
open Go.World renaming ownsRow→Qj
open Int renaming toNat_natCast→Qm
namespace Go.Proofs.YtbkjljffnkdcjaaGreat
open Go.RowKit Go.Maps
def Sw (n:Nat) (f:Int->Bool):List Value:=(List.range n).map fun i:Nat=>.bool (f i)
def bK (w:World) (B b n:Nat) (f:Int->Bool):Prop:=w.ownsRow B 4 1 (.slice (some ⟨b,0,none⟩) n n) n (Sw n f)
theorem EX:pD 81 4 (.bool false) 1 1:=⟨Tryz.underlying81,by kernel_rfl,rfl,by decide,by decide⟩
section
variable {w w' : World} {B b n : Nat} {f : Int -> Bool}
theorem bK.aM {own:List Nat} (h:bK w B b n f) (hc:ai own w w') (hb:b ∉ own):bK w' B b n f:=bE h hc (fun j hj=>by
 have e:b=j:=by simpa[Qr] using hj
 rw[<-e];exact hb)
theorem bK.base {B':Nat} (h:bK w B' b n f) (hB:B<=B'):bK w B b n f:=oR h hB
theorem bK.lt (h:bK w B b n f):B<=b/\b<w.heap.size:=Qj.lt h b rfl
theorem bK.kind (h:bK w B b n f):∃ cs,w.heap[b]?=some (.cells cs 4 (0,0)):=by
 rcases h.2 with ⟨e,-⟩ | ⟨g',cap,cur,e,-,hh,-⟩
 ·cases e
 simp only[Qa.injEq,Option.some.injEq,Addr.mk.injEq,and_true] at e;obtain⟨rfl,-⟩:=e;exact⟨cur,hh⟩
theorem bK.cell (h:bK w B b n f) {v:Nat} (hv:v<n):w.cell? ⟨b,v,none⟩=some (.bool (f v)):=by
 have:=Qj.cells h (g:=b) rfl v (.bool (f v)) (by simp[Sw,hv]);have iw:(⟨b,0,none⟩:Addr).add v=⟨b,v,none⟩:=by unfold Addr.add;split <;> simp_all
 rwa[iw] at this
theorem bK.free (h:bK w B b n f) (i:Nat):w.frozen? ⟨b,i,none⟩=false:=by
 obtain⟨cs,hh⟩:=h.kind;simp[World.frozen?,hh]
theorem bK.set (h:bK w B b n f) {v:Nat} (x:Bool):bK (w.setCell ⟨b,v,none⟩ (.bool x)) B b n (fun u=>if u=(v:Int) then x else f u):=by
 have hs:=Qj.stored h v (.bool x);unfold bK;have e:(Sw n f).set v (.bool x)=Sw n (fun u=>if u=(v:Int) then x else f u):=by
  refine List.ext_getElem (by simp[Sw]) fun i h1 h2=>?_;rw[List.getElem_set];simp only[Sw,List.getElem_map,List.getElem_range];by_cases q:v=i
  ·subst q;simp
  rw[if_neg q,if_neg (by omega)]
 rw[e] at hs;exact hs.1
theorem AY {fb:Nat} (h:w.ownsRow B 4 1 (.slice (some ⟨fb,0,none⟩) n n) n (madeCells (Qv false).cells (n*1)).toList):bK w B fb n (fun _=>false):=by
 have e1:(madeCells (Qv false).cells (n*1)).toList=Sw n (fun _=>false):=by
  show (madeCells #[Qv false] (n*1)).toList=_;rw[Nat.mul_one,toList_madeCells_one];unfold Sw;rw[List.map_const',List.length_range]
 rw[e1] at h;exact h
end
theorem tl {w:World} {B b n:Nat} {f f':Int->Bool} (h:bK w B b n f) (he:∀ i:Nat,i<n->f i=f' i):bK w B b n f':=by
 unfold bK at h ⊢;have e:Sw n f=Sw n f':=List.map_congr_left fun i hi=>by rw[he i (List.mem_range.1 hi)]
 rwa[e] at h
theorem JK {t e:TypeId} {z:Value} {size bytes:Nat} (E:pD t e z size bytes) {ops:Array Oper} {rest:List Oper} {o:Oper} {a:Act} {Q:Exit->Act->World->Prop} {w:World} (hg:o.guard=none) (l c:Operand) (kU:o.op=Op.makeSlice t l c) {B n:Nat} (hl:a.eval l=.int .i64 n) (hc:a.eval c=.int .i64 n) (hB:B<=w.heap.size) (hn:n<68719476736)
  (hK:∀ w',w'.ownsRow B e size (.slice (some ⟨w.heap.size,0,none⟩) n n) n (madeCells z.cells (n*size)).toList->ai [] w w'->wpList Tryz.prog ops Q rest (a.put o.dst (.slice (some ⟨w.heap.size,0,none⟩) n n)) w'):wpList Tryz.prog ops Q (o :: rest) a w :=
 wpList_plain hg fun _ uM=>qR E l c kU hl hc hB hn fun w' h1 h2=>uM _ _ (hK w' h1 h2)
structure nN (w:World) (sb:Nat) (g:Plain.Gr) (vE:Value) (N:Nat):Prop where
 c0:w.cell? ⟨sb,0,none⟩=some (.int .i64 g.n)
 c1:w.cell? ⟨sb,1,none⟩=some vE
 gr:dU w (.agg #[.int .i64 g.n,vE]) g
 n:g.n=N
 err:g.err=0
theorem nN.fresh {w w':World} {sb:Nat} {g:Plain.Gr} {vE:Value} {N:Nat} (h:nN w sb g vE N) (hc:ai [] w w'):nN w' sb g vE N :=
 ⟨hc.c h.c0,hc.c h.c1,h.gr.fresh hc,h.n,h.err⟩
theorem nN.small {w:World} {sb:Nat} {g:Plain.Gr} {vE:Value} {N:Nat} (h:nN w sb g vE N):N<=1024/\g.e.length<=1024:=by
 obtain⟨h1,h2,h3,-⟩:=Plain.Gr.aP h.err;have:=h.n;omega
theorem nN.MB {w:World} {sb:Nat} {g:Plain.Gr} {vE:Value} {N:Nat} (h:nN w sb g vE N) {d:Int} (h0:0<=d) (hd:d / 2<g.e.length):∃ n v:Nat,d=n/\n / 2<g.e.length/\g.tail d=v/\v<N/\n<4096:=by
 obtain⟨h1,h2,h3,h4⟩:=Plain.Gr.aP h.err;have hn:=h.n;obtain⟨m,rfl⟩:∃ m:Nat,d=m:=⟨d.toNat,by omega⟩;have hm:m / 2<g.e.length:=by omega
 have he:=h4 _ hm;have ht:g.tail (m:Int)=(g.ends (m / 2)).1\/g.tail (m:Int)=(g.ends (m / 2)).2:=by
  unfold Plain.Gr.tail Plain.Gr.at;have:((m:Int) / 2).toNat=m / 2:=by omega
  rw[this];split
  ·exact Qq rfl
  exact Qi rfl
 refine⟨m,(g.tail (m:Int)).toNat,rfl,hm,?_,?_,by omega⟩
 ·rcases ht with q | q <;> rw[q] <;> omega
 rcases ht with q | q <;> rw[q] <;> omega
namespace Plain
theorem Ax {g:Gr} {l:List Int} {k:Nat} (hk:k<l.length) (v:Int):dt g (l.take (k+1)) v=if v=g.tail (l.getD k 0) then true else dt g (l.take k) v:=by
 unfold dt;have e:l.getD k 0=l[k]:=by simp[Qg,hk]
 rw[Qb hk,List.any_append,e];by_cases q:v=g.tail l[k]
 ·rw[if_pos q,q];simp
 rw[if_neg q];have q2:decide (g.tail l[k]=v)=false:=decide_eq_false fun r=>q r.symm;simp only[List.any_cons,List.any_nil,q2,Bool.or_false]
end Plain
set_option maxRecDepth 100000 in
set_option maxHeartbeats 2000000 in
theorem nc (sb N:Nat) (vE vl:Value) (g:Plain.Gr) (l:List Int) (w:World) (hG:nN w sb g vE N) (hl:l.length<=1000000) (hd:∀ d∈l,0<=d/\d / 2<g.e.length) (h:aJ w vl l) :
  Calls Tryz.prog 115 #[.pointer (some ⟨sb,0,none⟩),vl] w fun e w'=>∃ hb,e=.returned (.agg #[vl,.slice (some ⟨hb,0,none⟩) N N])/\bK w' w.heap.size hb N (Plain.dt g l)/\ai [] w w':=by
 have HG:=lh hG;have HI:=lh h;have HD:=lh hd;obtain⟨hsN,hsE⟩:=hG.small;have Ng:=lh hG.n;obtain⟨lo,lc,rfl,-,hm,-⟩:=h;have HN:=lh (show g.n=N from hG.n);have eV:=lh (show ai [] w (w.alloc (.cells #[.slice none 0 0,.slice none 0 0] 147)) from (show ai [] w (w.alloc (.cells #[.slice none 0 0,.slice none 0 0] 147)) from ((ai.refl [] w).alloc _)));have cK:=heap_alloc_new w (.cells #[.slice none 0 0,.slice none 0 0] 147);have HX:=lh (fun (w2:World) (dL:ai [] (w.alloc (.cells #[.slice none 0 0,.slice none 0 0] 147)) w2)=>(⟨dL.heap cK (by simp),by have hz:=dL.size;simpa using hz⟩:w2.heap[w.heap.size]?=some (.cells #[.slice none 0 0,.slice none 0 0] 147 (0,0))/\w.heap.size+1<=w2.heap.size));clear cK;have CK:=lh (show (w.alloc (.cells #[.slice none 0 0,.slice none 0 0] 147)).heap.size=w.heap.size+1 by simp);have q0:=eV.out.c hG.c0;clear hd hG
 go_enter Tryz.func115,Tryz.ntmps115
 go_wp2_with (at_make;refine JK EX rfl _ _ rfl (B:=w.heap.size) (n:=N) (by show Qx .i64 g.n=_;rw[HN.out]) (by show Qx .i64 g.n=_;rw[HN.out]) eV.out.size (by omega) ?_;intro w2 h2 c2;have H2:=lh (AY h2);have C2:=lh c2;clear h2 c2)
 have jZ:(w.alloc (.cells #[.slice none 0 0,.slice none 0 0] 147)).heap.size=w.heap.size+1:=by simp
 rw[jZ] at H2;obtain⟨hb,hhb⟩:∃ hb,w.heap.size+1=hb:=⟨_,rfl⟩;have HHB:=lh hhb.symm;rw[hhb] at H2 ⊢;clear jZ hhb;have cA:=lh (eV.out.t C2.out);have HX4:=lh (show ∀ wx,ai [hb] w2 wx->wx.heap[w.heap.size]?=some (.cells #[.slice none 0 0,.slice none 0 0] 147 (0,0)) from fun wx hx=>by
  obtain⟨r4,-⟩:=HX.out w2 C2.out;exact hx.heap r4 (by rw[Qc];have:=HHB.out;omega))
 clear q0 C2
 go_loopw [7,16] (fun _ c wr=>∃ k:Nat,k<=l.length/\c=.int .i64 k/\bK wr w.heap.size hb N (Plain.dt g (l.take k))/\ai [hb] w2 wr) (fun _ c _=>l.length - (intOf c).toNat)
 case atStart=>exact⟨0,Qd _,rfl,tl H2.out (fun _ _=>rfl),ai.refl _ _⟩
 case round =>
  obtain⟨k,hk,rfl,uq,hc⟩:=hrel;have HB:=lh uq;have HC:=lh (show ai [] w wr from cA.out.trans hc (fun j hj=>Qi (by rw[Qc] at hj;have:=HHB.out;omega)));have zj:=lh hc;have Cb:=lh (HG.out.fresh HC.out);clear uq hc;by_cases aU:k<l.length
  ·obtain⟨rb,uR,rfl,rc⟩:=aJ.cellAt HI.out aU
   have cZ:=HC.out.c rc;have mm:=HD.out _ (Plain.aZ aU);have HT:=lh (Plain.Ax (g:=g) aU);obtain⟨n,v,hn,gL,hv,zL,hn4⟩:=HG.out.MB mm.1 mm.2;rw[hn] at cZ HT;rw[hn] at hv;rw[hv] at HT;have Oj:=lh hv;have q0:=Cb.out.c0;have q1:=Cb.out.c1;have bf:=HB.out.free v;have bc:=HB.out.cell zL;have Tu:(v:Int)<(N:Int):=by omega
   clear rc mm hn hv
   go_wp2_with fail
   refine (dy _ g n wr gL (by omega) Cb.out.gr).mono ?_;rintro _ w3 ⟨rfl,dB⟩;rw[Oj.out];have bf3:=dB.frozen bc bf (by simp);have bc3:=dB.c bc;have M':=lh (HB.out.aM dB (by simp));have dD:=lh (zj.out.t dB);clear dB bf bc q0 q1 cZ;go_wp2
   go_roundw
   case rel =>
    refine⟨k+1,by omega,by go_num,?_,dD.out.trans ((ai.refl [hb] w3).setCell (Qq (by simp)) _) (fun j hj=>Qq hj)⟩;have h1:=M'.out.set (v:=v) true;have e:(fun u=>if u=(v:Int) then true else Plain.dt g (l.take k) u)=Plain.dt g (l.take (k+1)):=funext fun u=>(HT.out u).symm;rw[e] at h1;exact h1
   case measure=>simp[intOf];omega
  have e:k=l.length:=by omega
  subst e;rw[Qh] at HB;have r4:=HX4.out wr zj.out;have r0:=(cell_of_row _ _ 0 _ _ _ r4).trans (show _=some (Qa none 0 0) from rfl);have r1:=(cell_of_row _ _ 1 _ _ _ r4).trans (show _=some (Qa none 0 0) from rfl);have f0:=bJ r4 0;have f1:=bJ r4 1;have bw:ai [w.heap.size] wr ((wr.setCell ⟨w.heap.size,0,none⟩ (.slice lo l.length lc)).setCell ⟨w.heap.size,1,none⟩ (.slice (some ⟨hb,0,none⟩) N N)):=((ai.refl _ wr).setCell (Qq (by simp)) _).setCell (Qq (by simp)) _;have kD:=heap_setCell_same (heap_setCell_same r4 0 (.slice lo l.length lc)) 1 (.slice (some ⟨hb,0,none⟩) N N);have HQ0:=lh ((cell_of_row _ _ 0 _ _ _ kD).trans (show _=some (Qa lo l.length lc) from rfl));have VI:=lh ((cell_of_row _ _ 1 _ _ _ kD).trans (show _=some (Qa (some ⟨hb,0,none⟩) N N) from rfl));have HBF:=lh (HB.out.aM bw (by rw[Qc];have:=HHB.out;omega));have vL:=lh (HC.out.trans bw (fun j hj=>Qi (by rw[Qc] at hj;omega)));clear r4 bw kD aU hk;go_wp2;refine bodyPost_ret (v:=.agg #[.slice lo l.length lc,.slice (some ⟨hb,0,none⟩) N N]) (by have h0:=HQ0.out;have h1:=VI.out;simp[results,Tryz.results115,go_sem,h0,h1]) rfl ?_;exact⟨hb,rfl,HBF.out,vL.out⟩
namespace Plain
def pL (g:Gr) (on:Int->Bool) (E:List Int):List Int:=E.flatMap fun e=>[(g.at e).1,(g.at e).2].filter on
theorem Gg {g:Gr} {on:Int->Bool} {l:List Int} {k:Nat} (hk:k<l.length):pL g on (l.take (k+1))=pL g on (l.take k)++[(g.at (l.getD k 0)).1,(g.at (l.getD k 0)).2].filter on:=by
 unfold pL;rw[Qb hk,List.flatMap_append];simp[Qg,hk]
theorem zM (g:Gr) (on:Int->Bool):∀ l:List Int,(pL g on l).length<=2*l.length
 | []=>Nat.le_refl _
 | e :: l=>by
  have ih:=zM g on l;unfold pL at ih ⊢;rw[List.flatMap_cons,Qk];have:=Qe on [(g.at e).1,(g.at e).2];simp only[Qn,Qp] at this ⊢;omega
end Plain
set_option maxRecDepth 100000 in
set_option maxHeartbeats 4000000 in
theorem N8 (sb ob N B:Nat) (vE vl:Value) (g:Plain.Gr) (on:Int->Bool) (E:List Int) (w:World) (hG:nN w sb g vE N) (hq:w.cell? ⟨sb,2,none⟩=some (.slice (some ⟨ob,0,none⟩) N N)) (jW:bK w B ob N on) (hl:E.length<=100000) (hd:∀ e∈E,0<=e/\e<g.e.length) (h:aJ w vl E) :
  Calls Tryz.prog 165 #[.pointer (some ⟨sb,0,none⟩),vl] w fun e w'=>∃ v',e=.returned v'/\ax w' w.heap.size v' (Plain.br g on E)/\ai [] w w':=by
 have HG:=lh hG;have HI:=lh h;have HD:=lh hd;have Um:=lh jW;have HQ:=lh hq;have ir:=lh hG.small;have Ng:=lh hG.n;have j7:=lh (Plain.Gr.aP hG.err);obtain⟨eo,cap,DQ,-,-,dS,aO⟩:=hG.gr;have sD:=lh aO;have HGS:=lh dS;simp only[Qy.injEq,Array.mk.injEq,List.cons.injEq,true_and,and_true] at DQ;subst DQ;obtain⟨lo,lc,rfl,-,hm,-⟩:=h;clear hd hG aO dS jW hq
 go_enter Tryz.func165,Tryz.ntmps165
 go_wp2_with fail
 go_loopw [5,7,9,12] (fun c5 _ _ c wr=>∃ k:Nat,k<=E.length/\c=.int .i64 k/\ax wr w.heap.size c5 (Plain.pL g on (E.take k))/\ai [] w wr) (fun _ _ _ c _=>E.length - (intOf c).toNat)
 case atStart=>exact⟨0,Qd _,rfl,gp _ _,ai.refl _ _⟩
 case round =>
  obtain⟨k,hk,rfl,bd,hc⟩:=hrel;have bU:=lh bd;have HC:=lh hc;obtain⟨oo,oc,rfl⟩:=bd.shape;have Vm:=lh (show (Plain.pL g on (E.take k)).length<=200000 by have:=Plain.zM g on (E.take k);rw[Qo] at this;omega);clear bd hc;by_cases aU:k<E.length
  ·obtain⟨rb,uR,rfl,rc⟩:=aJ.cellAt HI.out aU
   have cZ:=HC.out.c rc;have mm:=HD.out _ (Plain.aZ aU);have Hf:=lh (Plain.Gg (g:=g) (on:=on) aU);obtain⟨en,kQ⟩:∃ en:Nat,E.getD k 0=en:=⟨(E.getD k 0).toNat,by omega⟩;rw[kQ] at cZ mm Hf;have nz:en<g.e.length:=by omega
   have vG:en<2000:=by have:=ir.out;omega
   obtain⟨eb,eB,rfl,gy,cG⟩:=sD.out en nz;obtain⟨z1,z2⟩:=HGS.out en nz;have hr:=j7.out.2.2.2 en nz;have c0:=HC.out.c gy;have c1:=HC.out.c cG;have q1:=HC.out.c HG.out.c1;have dN:g.at (en:Int)=g.ends en:=by unfold Plain.Gr.at;rw[Qm]
   rw[dN] at Hf;obtain⟨x,hx⟩:∃ x:Nat,(g.ends en).1=x:=⟨(g.ends en).1.toNat,by omega⟩;obtain⟨y,hy⟩:∃ y:Nat,(g.ends en).2=y:=⟨(g.ends en).2.toNat,by omega⟩;rw[hx] at c0 z1 Hf;rw[hy] at c1 z2 Hf;have HXN:=lh (show x<N by rw[Ng.out,hx] at hr;omega);have HYN:=lh (show y<N by rw[Ng.out,hy] at hr;omega);obtain⟨M,hM⟩:∃ M,Plain.pL g on (E.take k)=M:=⟨_,rfl⟩;rw[hM] at bU Hf Vm ⊢;clear rc mm kQ gy cG hr dN hx hy hM
   go_wp2_with fail
   have aD:ai [] wr wr.drew:=(ai.refl [] wr).drew;refine au (ai [] wr) [0,1,2,3,4,5,6,7,8,9,10,11,12,13,14,15,16,17,19,20] (Way.line [0,1,2,3,4,5,6,7,8,9,10,11,12,13,14,15,16,17,20,18,19] .done) (by kernel_rfl) (by kernel_rfl) ?_;simp only[Way.line]
   repeat
    first
     | (refine ar rfl (by rfl) (by rfl) (fun _ _ _ h=>h) aD ?_;simp only[Qf,Z1,Z2,Z3,Z4,Z5,Z6])
     | (refine aq (v:=?_) rfl (by rfl) (by rfl) (fun _ _ _ h=>h) aD (fun w' aK=>?_) ?_;rotate_left;(focus (have fU:=aK.c q1;have gX:=aK.c c0;have nP:=aK.c c1;clear aK;go_simp;try with_reducible rfl));simp only[Qf,Z1,Z2,Z3,Z4,Z5,Z6])
     | (refine ak rfl (by rfl) (by rfl) aD ?_;simp only[Qf,Z1,Z2,Z3,Z4,Z5,Z6])
   refine aC rfl (by rfl) (by rfl) (fun K hK=>?_);go_simp;have bD:=aD.alloc (.cells #[.int .i64 (x:Int),.int .i64 (y:Int)] 3);refine hK.out _ _ (fun _=>bD) ?_;clear hK K
   try simp only[Qf,Z1,Z2,Z3,Z4,Z5,Z6]
   repeat
    first
     | (refine ar rfl (by rfl) (by rfl) (fun _ _ _ h=>h) bD ?_;simp only[Qf,Z1,Z2,Z3,Z4,Z5,Z6])
     | (refine aq (v:=?_) rfl (by rfl) (by rfl) (fun _ _ _ h=>h) bD (fun w' aK=>?_) ?_;rotate_left;(focus (skip;clear aK;go_simp;try with_reducible rfl));simp only[Qf,Z1,Z2,Z3,Z4,Z5,Z6])
     | (refine ak rfl (by rfl) (by rfl) bD ?_;simp only[Qf,Z1,Z2,Z3,Z4,Z5,Z6])
   refine aB ?_;have mo:=lh (show (wr.alloc (.cells #[.int .i64 (x:Int),.int .i64 (y:Int)] 3)).drew.heap[wr.heap.size]?=some (.cells #[.int .i64 (x:Int),.int .i64 (y:Int)] 3 (0,0)) from heap_alloc_new wr _);have cA:=lh (show ai [] wr (wr.alloc (.cells #[.int .i64 (x:Int),.int .i64 (y:Int)] 3)).drew from ((ai.refl [] wr).alloc _).drew);have VC:=lh (bU.out.aM cA.out (by simp));have HPF:=lh (show wr.heap.size ∉ aL (.slice oo M.length oc) from fun q=>by
    rw[bU.out.aL] at q;have:=(bU.out.low _ q).2;omega)
   clear aD bD q1 c0 c1 cZ bU;generalize (wr.alloc (.cells #[.int .i64 (x:Int),.int .i64 (y:Int)] 3)).drew=wd at *;obtain⟨pb,pa⟩:∃ pb,wr.heap.size=pb:=⟨_,rfl⟩;have rJ:=lh pa;rw[pa] at mo HPF ⊢;have dD:=lh (HC.out.t cA.out);have HWP:=lh (show w.heap.size<=pb by rw[<-pa];exact HC.out.size);clear pa;have HZ:=lh (show ∀ j:Nat,j<2->∃ z:Nat,z<N/\(∀ wx:World,wx.heap[pb]?=some (.cells #[.int .i64 (x:Int),.int .i64 (y:Int)] 3 (0,0))->wx.cell? ⟨pb,j,none⟩=some (.int .i64 (z:Int)))/\bn (z:Int)/\([(x:Int),(y:Int)].take (j+1)).filter on=([(x:Int),(y:Int)].take j).filter on++(if on (z:Int)=true then [(z:Int)] else []) from fun j hj=>by
    rcases (show j=0\/j=1 by omega) with rfl | rfl
    ·refine⟨x,HXN.out,fun wx hx=>(cell_of_row _ _ 0 _ _ _ hx).trans rfl,z1,?_⟩
     cases h1:on (x:Int) <;> simp[h1]
    refine⟨y,HYN.out,fun wx hx=>(cell_of_row _ _ 1 _ _ _ hx).trans rfl,z2,?_⟩;cases h1:on (x:Int) <;> cases h2:on (y:Int) <;> simp[h1,h2])
   rename World=>wo
   go_wp2_with fail
   go_loopw [5,9,36] (fun c5 _ c wr=>∃ j:Nat,j<=2/\c=.int .i64 j/\wr.heap[pb]?=some (.cells #[.int .i64 (x:Int),.int .i64 (y:Int)] 3 (0,0))/\ax wr w.heap.size c5 (M++([(x:Int),(y:Int)].take j).filter on)/\pb ∉ aL c5/\ai [] w wr) (fun _ _ c _=>2 - (intOf c).toNat)
   case atStart=>exact⟨0,Qd _,rfl,mo.out,by simpa using VC.out,HPF.out,dD.out⟩
   case round =>
    obtain⟨j,hj,rfl,dL,bd,MY,FH⟩:=hrel;have B0:=lh dL;have bU:=lh bd;have T0:=lh MY;have kR:=lh FH;obtain⟨oo2,oc2,rfl⟩:=bd.shape;have xt:=lh (show (M++([(x:Int),(y:Int)].take j).filter on).length<=200002 by
     rw[Qk];have h1:=Qe on ([(x:Int),(y:Int)].take j);rw[Qo] at h1;simp only[Qn,Qp] at h1;have:=Vm.out;omega)
    clear dL bd MY FH;by_cases Mi:j<2
    ·obtain⟨z,hzN,hzc,RP,hzf⟩:=HZ.out j Mi
     have pz:=hzc _ B0.out;have s2:=kR.out.c HQ.out;have bz:=((Um.out.base (Qd _)).aM kR.out (by simp)).cell hzN;have Xl:=lh hzf;have lp:(j:Int)<2:=by omega
     have hzi:(z:Int)<(N:Int):=by omega
     obtain⟨P,hP⟩:∃ P,M++([(x:Int),(y:Int)].take j).filter on=P:=⟨_,rfl⟩;rw[hP] at bU xt T0 ⊢;have HP:=lh hP;have ql:P.length<4294967290:=by have:=xt.out;omega
     have HBW:=lh kR.out.size;clear hzc hzf hP;cases hb:on (z:Int) with
     | true =>
      rw[hb] at bz;have HK:=lh (show M++([(x:Int),(y:Int)].take (j+1)).filter on=P++[(z:Int)] by rw[Xl.out,<-HP.out,hb,if_pos rfl,List.append_assoc]);clear hb
      go_wp2_with (at_builtin;refine fA rfl _ _ rfl (B:=w.heap.size) (v:=.slice oo2 _ oc2) rfl rfl bU.out RP HBW.out ql rfl ?_;intro v6 w6 r6 c6 f6;have R6:=lh r6;have C6:=lh c6;have F6:=lh f6;clear r6 c6 f6)
      go_roundw
      case rel =>
       refine⟨j+1,by omega,by go_num,C6.out.heap B0.out T0.out,by rw[HK.out];exact R6.out,fun q=>?_,kR.out.trans C6.out (fun b hb=>Qi (bU.out.low b (by rw[<-bU.out.aL];exact hb)).1)⟩;rcases F6.out pb q with r | r
       ·exact T0.out r
       have:=lt_of_block B0.out;omega
      case measure=>simp[intOf];omega
     | false =>
      rw[hb] at bz;have HK:=lh (show M++([(x:Int),(y:Int)].take (j+1)).filter on=P by rw[Xl.out,<-HP.out,hb,if_neg (by simp),Qs]);clear hb;go_wp2
      go_roundw
      case rel=>exact⟨j+1,by omega,by go_num,B0.out,by rw[HK.out];exact bU.out,T0.out,kR.out⟩
      case measure=>simp[intOf];omega
    have e2:j=2:=by omega
    subst e2;have HK:=lh (show Plain.pL g on (E.take (k+1))=M++([(x:Int),(y:Int)].take 2).filter on from Hf.out);have Rx:k<E.length:=aU;obtain⟨P,hP⟩:∃ P,M++([(x:Int),(y:Int)].take 2).filter on=P:=⟨_,rfl⟩;rw[hP] at bU HK ⊢;clear hj Mi hP;go_wp2
    go_roundw
    case rel=>exact⟨k+1,by omega,by go_num,by rw[HK.out];exact bU.out,kR.out⟩
    case measure=>simp[intOf];omega
  have e:k=E.length:=by omega
  subst e;rw[Qh] at bU Vm ⊢;clear hk aU;obtain⟨M,hM⟩:∃ M,Plain.pL g on E=M:=⟨_,rfl⟩;have HM:=lh (show Plain.br g on E=Plain.tidy M by rw[<-hM];rfl);rw[hM] at bU Vm ⊢;clear hM
  go_wp2_with fail
  refine (sY _ M _ _ (by have:=Vm.out;omega) bU.out).mono ?_;rintro _ w5 ⟨rfl,AA,gV⟩;have YL:=lh (show ai [] w w5 from HC.out.trans gV (fun b hb=>Qi (bU.out.low b hb).1));have Fo:(M.mergeSort fun x y=>decide (x<=y)).length=M.length:=(List.mergeSort_perm _ _).length_eq;have HTY:=lh (show Go.Lib.compact (M.mergeSort fun x y=>decide (x<=y))=Plain.tidy M from rfl);obtain⟨S,hS⟩:∃ S,(M.mergeSort fun x y=>decide (x<=y))=S:=⟨_,rfl⟩;rw[hS] at Fo AA HTY;have wR:=lh AA;have yH:=lh Fo;clear AA gV Fo hS
  go_wp2_with fail
  refine (rG _ S _ _ (by rw[yH.out];have:=Vm.out;omega) wR.out).mono ?_;rintro _ w6 ⟨v6,rfl,hr6,hc6⟩;rw[HTY.out] at hr6;have VV:=lh hr6;have RX:=lh (show ai [] w w6 from YL.out.trans hc6 (fun b hb=>Qi (wR.out.low b hb).1));clear hr6 hc6;go_wp2;go_ret;exact⟨_,rfl,by rw[HM.out];exact VV.out,RX.out⟩
structure cR (g:Plain.Gr) (w:World) (B N:Nat) (fv:Value) (xs:List Value) (F:List (List Int)):Prop where
 out:w.ownsRow B 147 2 fv F.length xs
 len:xs.length=2*F.length
 row:∀ i,i<F.length->ax w B (xs.getD (2*i) undef) (F.getD i [])
 has:∀ i,i<F.length->∃ b,xs.getD (2*i+1) undef=.slice (some ⟨b,0,none⟩) N N/\bK w B b N (Plain.dt g (F.getD i []))
theorem cR.aM {g:Plain.Gr} {w w':World} {B N:Nat} {fv:Value} {xs:List Value} {F:List (List Int)} {own:List Nat} (h:cR g w B N fv xs F) (hc:ai own w w') (h1:∀ b,fv.ownBlock=some b->b ∉ own) (h2:∀ k b,k<xs.length->(xs.getD k undef).ownBlock=some b->b ∉ own):cR g w' B N fv xs F:=by
 have hl:=h.len;refine⟨bE h.out hc h1,h.len,fun i hi=>(h.row i hi).aM hc (fun b hb=>h2 (2*i) b (by omega) (by simpa using hb)),fun i hi=>?_⟩;obtain⟨b,e,hb⟩:=h.has i hi;exact⟨b,e,hb.aM hc (h2 (2*i+1) b (by omega) (by rw[e];rfl))⟩
theorem cR.fresh {g:Plain.Gr} {w w':World} {B N:Nat} {fv:Value} {xs:List Value} {F:List (List Int)} (h:cR g w B N fv xs F) (hc:ai [] w w'):cR g w' B N fv xs F:=h.aM hc (by simp) (by simp)
theorem cR.cell {g:Plain.Gr} {w:World} {B N fb n c:Nat} {xs:List Value} {F:List (List Int)} (h:cR g w B N (.slice (some ⟨fb,0,none⟩) n c) xs F) {k:Nat} (hk:k<xs.length):w.cell? ⟨fb,k,none⟩=some (xs.getD k undef):=by
 have:=Qj.cells h.out (g:=fb) rfl k (xs.getD k undef) (by simp[Qg,hk]);have iw:(⟨fb,0,none⟩:Addr).add k=⟨fb,k,none⟩:=by unfold Addr.add;split <;> simp_all
 rwa[iw] at this
namespace Plain
def Co (P:Int->Bool) (l:List Int):Int:=match l.findIdx? P with | some i=>(i:Int) | none=>-1
theorem vj {P:Int->Bool} {l:List Int} {k:Nat} (hk:k<l.length) (h:P (l.getD k 0)=true) (gM:∀ j,j<k->P (l.getD j 0)=false):Co P l=k:=by
 have e:l.findIdx? P=some k:=by
  rw[List.findIdx?_eq_some_iff_getElem];refine⟨hk,by simpa[Qg,hk] using h,fun j hj=>?_⟩;have:=gM j hj;simpa[Qg,Nat.lt_trans hj hk] using this
 unfold Co;rw[e]
theorem si {P:Int->Bool} {l:List Int} (gM:∀ j,j<l.length->P (l.getD j 0)=false):Co P l = -1:=by
 have e:l.findIdx? P=none:=by
  rw[Ql];intro x hx;obtain⟨i,hi,rfl⟩:=bO hx;exact gM i hi
 unfold Co;rw[e]
theorem IS (P:Int->Bool) (l:List Int):decide (Co P l ≥ 0)=l.any P:=by
 cases h:l.any P with
 | true =>
  obtain⟨x,hx,hp⟩:=List.any_eq_true.1 h;refine decide_eq_true ?_;unfold Co;cases hf:l.findIdx? P with
  | some i=>show (i:Int) ≥ 0;omega
  | none =>
   have:=Ql.1 hf x hx;rw[hp] at this;cases this
 | false =>
  refine decide_eq_false ?_;rw[si fun j hj=>by
   have:=List.any_eq_false.1 h _ (iJ hj);exact Bool.eq_false_iff.2 this]
  omega
end Plain
theorem Oc (v bx hb N B:Nat) (f:Int->Bool) (w:World) (hv:v<N) (hc:w.cell? ⟨bx,0,none⟩=some (.slice (some ⟨hb,0,none⟩) N N)) (h:bK w B hb N f) :
  Calls Tryz.prog 168 #[.int .i64 v,.pointer (some ⟨bx,0,none⟩)] w fun e w'=>e=.returned (.bool (!f v))/\ai [] w w':=by
 have bc:=h.cell hv;have Tu:(v:Int)<(N:Int):=by omega
 obtain⟨x,hx⟩:∃ x,f (v:Int)=x:=⟨_,rfl⟩;rw[hx] at bc ⊢;clear h hx
 go_enter Tryz.func168,Tryz.ntmps168
 go_wp2;go_ret;exact⟨rfl,ai.refl _ _⟩
set_option maxRecDepth 100000 in
set_option maxHeartbeats 2000000 in
theorem Mo (bx hb N B:Nat) (f:Int->Bool) (v:Value) (q:List Int) (w:World) (hq:∀ d∈q,0<=d/\d<N) (Lu:q.length<1000000000) (hv:aJ w v q) (hc:w.cell? ⟨bx,0,none⟩=some (.slice (some ⟨hb,0,none⟩) N N)) (h:bK w B hb N f) :
  Calls Tryz.prog 123 #[v,.func (Fn.func 168) #[] #[.pointer (some ⟨bx,0,none⟩)]] w fun e w'=>e=.returned (.int .i64 (Plain.Co (fun x=>!f x) q))/\ai [] w w':=by
 have HQ:=lh hq;have HV:=lh hv;have Vo:=lh hc;have HB:=lh h;obtain⟨ao,ac,rfl,-,-,-⟩:=hv;clear hq hc h
 go_enter Tryz.func123,Tryz.ntmps123
 go_wp2
 go_loopw [8] (fun c wr=>∃ k:Nat,k<=q.length/\c=.int .i64 k/\Hid (∀ j,j<k->(!f (q.getD j 0))=false)/\ai [] w wr) (fun c _=>q.length - (intOf c).toNat)
 case atStart=>exact⟨0,Qd _,rfl,lh (by omega),ai.refl _ _⟩
 case round =>
  obtain⟨k,hk,rfl,HN,hc⟩:=hrel;have HC:=lh hc;by_cases aU:k<q.length
  ·obtain⟨rb,uR,rfl,rc⟩:=aJ.cellAt HV.out aU
   have cZ:=hc.c rc;have hr:=HQ.out _ (Plain.aZ aU);have zo:=lh (fun (h:(!f (q.getD k 0))=true)=>Plain.vj (P:=fun x=>!f x) aU h HN.out);have sB:=lh (fun (h:(!f (q.getD k 0))=false) j (hj:j<k+1)=>(show (!f (q.getD j 0))=false from by
    by_cases e:j=k
    ·rw[e];exact h
    exact HN.out j (by omega)))
   obtain⟨n,e1⟩:∃ n:Nat,q.getD k 0=n:=⟨(q.getD k 0).toNat,by omega⟩;rw[e1] at cZ zo sB hr;have hnN:n<N:=by omega
   clear rc e1 hc hr
   go_wp2_with fail
   refine (Oc n bx hb N B f _ hnN (HC.out.c Vo.out) (HB.out.aM HC.out (by simp))).mono ?_;rintro e w2 ⟨rfl,bG⟩;have cA:=lh (HC.out.t bG);clear bG cZ;cases h:(!f (n:Int)) with
   | true =>
    have HI:=lh (zo.out h);clear h;go_wp2;go_ret;exact⟨bS (show ((k:Nat):Int)=_ by rw[HI.out]),cA.out⟩
   | false =>
    have HI:=lh (sB.out h);clear h;go_wp2
    go_roundw
    case rel=>exact⟨k+1,by omega,by go_num,HI,cA.out⟩
    case measure=>simp[intOf];omega
  have e:k=q.length:=by omega
  subst e;have HI:=lh (Plain.si (P:=fun x=>!f x) HN.out);clear hc;go_wp2;go_ret;exact⟨bS (show (-1:Int)=_ by rw[HI.out]),HC.out⟩
theorem Mx (bx hb N B:Nat) (f:Int->Bool) (v:Value) (q:List Int) (w:World) (hq:∀ d∈q,0<=d/\d<N) (Lu:q.length<1000000000) (hv:aJ w v q) (hc:w.cell? ⟨bx,0,none⟩=some (.slice (some ⟨hb,0,none⟩) N N)) (h:bK w B hb N f) :
  Calls Tryz.prog 108 #[v,.func (Fn.func 168) #[] #[.pointer (some ⟨bx,0,none⟩)]] w fun e w'=>e=.returned (.bool (!q.all f))/\ai [] w w':=by
 have HI:=lh (Mo bx hb N B f v q w hq Lu hv hc h);have HE:=lh (show (!q.all f)=decide (Plain.Co (fun x=>!f x) q ≥ 0) by rw[Plain.IS,List.any_eq_not_all_not];simp);clear hq hv hc h
 go_enter Tryz.func108,Tryz.ntmps108
 go_wp2_with fail
 refine HI.out.mono ?_;rintro e w2 ⟨rfl,bG⟩;have cA:=lh bG;clear bG;generalize Plain.Co (fun x=>!f x) q=z at *;go_wp2;go_ret;exact⟨bB (by show _=(!q.all f);rw[HE.out]),cA.out⟩
set_option maxRecDepth 100000 in
set_option maxHeartbeats 4000000 in
theorem tE (sb N B:Nat) (fv vV vK:Value) (g:Plain.Gr) (F:List (List Int)) (xs:List Value) (V ks:List Int) (w:World) (hq:w.cell? ⟨sb,3,none⟩=some fv) (hF:cR g w B N fv xs F) (hVl:V.length<1000000) (qN:ks.length<1000000) (hV:∀ v∈V,0<=v/\v<N) (hk:∀ i∈ks,0<=i/\i<F.length) (VB:F.length<1000000) (h1:aJ w vV V) (h2:aJ w vK ks) :
  Calls Tryz.prog 126 #[.pointer (some ⟨sb,0,none⟩),vV,vK] w fun e w'=>∃ v',e=.returned v'/\ax w' w.heap.size v' (Plain.ic g F V ks)/\ai [] w w':=by
 have HF:=lh hF;have HV:=lh hV;have HK:=lh hk;have H1:=lh h1;have H2:=lh h2;have HQ:=lh hq;obtain⟨fo,fc,rfl⟩:=cM hF.out;obtain⟨vo,vc,rfl,-,-,-⟩:=h1;obtain⟨ko,kc,rfl,-,-,-⟩:=h2;clear hF hV hk hq
 go_enter Tryz.func126,Tryz.ntmps126
 go_wp2_with fail
 go_loopw [7,9,10,13] (fun c7 _ _ c wr=>∃ k:Nat,k<=ks.length/\c=.int .i64 k/\ax wr w.heap.size c7 (Plain.ic g F V (ks.take k))/\ai [] w wr) (fun _ _ _ c _=>ks.length - (intOf c).toNat)
 case atStart=>exact⟨0,Qd _,rfl,gp _ _,ai.refl _ _⟩
 case round =>
  obtain⟨k,hk,rfl,bd,hc⟩:=hrel;have bU:=lh bd;have HC:=lh hc;obtain⟨oo,oc,rfl⟩:=bd.shape;have xt:=lh (show (Plain.ic g F V (ks.take k)).length<1000000 by have h1:=Qe (fun i=>V.all fun v=>Plain.dt g (Plain.bg F i) v) (ks.take k);rw[Qo] at h1;unfold Plain.ic;omega);clear bd hc;by_cases aU:k<ks.length
  ·obtain⟨rb,uR,rfl,rc⟩:=aJ.cellAt H2.out aU
   have cZ:=HC.out.c rc;have hkr:=HK.out _ (Plain.aZ aU);have A9:=lh (show Plain.ic g F V (ks.take (k+1))=Plain.ic g F V (ks.take k)++(if (V.all fun v=>Plain.dt g (Plain.bg F (ks.getD k 0)) v)=true then [ks.getD k 0] else []) from Plain.jb _ aU);obtain⟨i,hi⟩:∃ i:Nat,ks.getD k 0=i:=⟨(ks.getD k 0).toNat,by omega⟩;rw[hi] at cZ hkr A9;have hiF:i<F.length:=by omega
   have hii:(i:Int)<(F.length:Int):=by omega
   have AW:=lh (show Plain.bg F (i:Int)=F.getD i [] by unfold Plain.bg;rw[Qm]);have HFW:=lh (HF.out.fresh HC.out);obtain⟨fb,Xx,efb⟩:=cN HF.out.out (by omega);simp only[Qa.injEq,true_and] at efb;obtain⟨rfl,rfl⟩:=efb;obtain⟨hb,ehb,uq⟩:=HFW.out.has i hiF;have aO:=HFW.out.cell (k:=2*i+1) (by rw[HF.out.len];omega);rw[ehb] at aO;have qy:wr.cell? ⟨fb,i*2+1,none⟩=some (.slice (some ⟨hb,0,none⟩) N N):=by rw[Nat.mul_comm];exact aO
   have HBI:=lh uq;have q3:=HC.out.c HQ.out;have akq:bn (i:Int):=bn.mk (by omega) (by omega);obtain⟨M,hM⟩:∃ M,Plain.ic g F V (ks.take k)=M:=⟨_,rfl⟩;rw[hM] at bU A9 xt ⊢;have ql:M.length<4294967290:=by have:=xt.out;omega
   have mo:=lh (heap_alloc_new wr (.cells #[.slice (some ⟨hb,0,none⟩) N N] 81));have Na:=lh ((ai.refl [] wr).alloc (.cells #[.slice (some ⟨hb,0,none⟩) N N] 81));clear rc hi hkr ehb uq aO hM
   go_wp2_with fail
   have As:=Mx wr.heap.size hb N B (Plain.dt g (F.getD i [])) (.slice vo V.length vc) V (wr.alloc (.cells #[.slice (some ⟨hb,0,none⟩) N N] 81)) HV.out (by omega) (H1.out.fresh (HC.out.t Na.out)) ((cell_of_row _ _ 0 _ _ _ mo.out).trans rfl) (HBI.out.aM Na.out (by simp));refine As.mono ?_;rintro _ w3 ⟨rfl,dB⟩;have dD:=lh (Na.out.t dB);have Xw:=lh (bU.out.aM dD.out (by simp));have xo:=lh (HC.out.t dD.out);have HSW:=lh xo.out.size;clear As dB qy q3 cZ;cases cU:V.all (Plain.dt g (F.getD i [])) with
   | true =>
    have Nf:=lh (show Plain.ic g F V (ks.take (k+1))=M++[(i:Int)] by rw[A9.out,AW.out];congr 1;exact if_pos cU);clear cU
    go_wp2_with (at_builtin;refine fA rfl _ _ rfl (B:=w.heap.size) (v:=.slice oo _ oc) rfl rfl Xw.out akq HSW.out ql rfl ?_;intro v6 w6 r6 c6 f6;have R6:=lh r6;have C6:=lh c6;clear r6 c6 f6)
    go_roundw
    case rel=>exact⟨k+1,by omega,by go_num,by rw[Nf.out];exact R6.out,xo.out.trans C6.out (fun j hj=>Qi (Xw.out.low j (by rw[<-Xw.out.aL];exact hj)).1)⟩
    case measure=>simp[intOf];omega
   | false =>
    have Nf:=lh (show Plain.ic g F V (ks.take (k+1))=M by rw[A9.out,AW.out,if_neg (by rw[show (V.all fun v=>Plain.dt g (F.getD i []) v)=V.all (Plain.dt g (F.getD i [])) from rfl,cU];simp),Qs]);clear cU;go_wp2
    go_roundw
    case rel=>exact⟨k+1,by omega,by go_num,by rw[Nf.out];exact Xw.out,xo.out⟩
    case measure=>simp[intOf];omega
  have e:k=ks.length:=by omega
  subst e;rw[Qh] at bU ⊢;clear hk aU;go_wp2;go_ret;exact⟨_,rfl,bU.out,HC.out⟩
theorem lO:pD 83 151 (.agg #[.slice none 0 0,.slice none 0 0,.slice none 0 0]) 3 72:=⟨Tryz.underlying83,by kernel_rfl,rfl,by decide,by decide⟩
def dF (L:List Plain.bj):List Cell:=L.flatMap fun c=>[.row c.ah,.row c.ends,.row c.aj]
theorem K0 (L:List Plain.bj) (c:Plain.bj):dF (L++[c])=dF L++[.row c.ah,.row c.ends,.row c.aj]:=by simp[dF]
namespace Plain
def BX (g:Gr) (on:Int->Bool) (E:List Int) (k:Nat):St × (Int->Option Int):=(E.take k).foldl (Bt g on) (St.new E,fun _=>none)
theorem O0 (g:Gr) (on:Int->Bool) (E:List Int):BX g on E E.length=gG g on E:=by unfold BX gG;rw[Qh]
def iV (on:Int->Bool) (e:Int) (S:St × (Int->Option Int)) (x y:Int):Nat->St × (Int->Option Int)
 | 0=>S
 | 1=>kG on e S x
 | _=>kG on e (kG on e S x) y
theorem L8 {g:Gr} {on:Int->Bool} {E:List Int} {k:Nat} (hk:k<E.length):BX g on E (k+1)=iV on (E.getD k 0) (BX g on E k) (g.at (E.getD k 0)).1 (g.at (E.getD k 0)).2 2:=by
 unfold BX;rw[Qb hk,List.foldl_append];simp[Qg,hk,iV,Bt]
theorem qx {on:Int->Bool} {E:List Int} {H:Int->Int->Prop} {s:St × (Int->Option Int)} (h:AG on E H s):s.1.all.length<=E.length:=by rw[h.all];exact St.Je E
def pj (g:Gr) (on:Int->Bool) (F:List (List Int)) (ks l:List Int):bj:=⟨l,br g on l,ic g F (br g on l) ks⟩
theorem Gl (g:Gr) (on:Int->Bool) (F:List (List Int)) (E ks:List Int):cr g on F E ks=(gG g on E).1.groups.map (pj g on F ks):=rfl
end Plain
theorem UA (l:List Int):(St.new l).all.Sublist l:=by
 unfold St.new;have h:∀ (l:List Int) (s:St),∃ m,(l.foldl St.put s).all=s.all++m/\m.Sublist l:=by
  intro l
  induction l with
  | nil=>intro s;exact⟨[],by simp,by simp⟩
  | cons x l ih =>
   intro s;obtain⟨m,h1,h2⟩:=ih (s.put x);by_cases hx:x∈s.all
   ·rw[St.jo hx] at h1
    exact⟨m,by rw[Qt,St.jo hx];exact h1,h2.cons x⟩
   rw[St.eH hx] at h1;exact⟨x :: m,by rw[Qt,St.eH hx,h1];simp,h2.cons_cons x⟩
 obtain⟨m,h1,h2⟩:=h l ⟨[],[]⟩;rw[h1];simpa using h2
set_option maxRecDepth 100000 in
set_option maxHeartbeats 8000000 in
theorem yo (sb ob N B:Nat) (vE fv vl vK:Value) (g:Plain.Gr) (on:Int->Bool) (F:List (List Int)) (xs0:List Value) (E ks:List Int) (w:World) (hG:nN w sb g vE N) (hq:w.cell? ⟨sb,2,none⟩=some (.slice (some ⟨ob,0,none⟩) N N)) (jW:bK w B ob N on)
  (Xa:w.cell? ⟨sb,3,none⟩=some fv) (hF:cR g w B N fv xs0 F) (VB:F.length<1000000) (hl:E.length<=1024) (hd:∀ e∈E,0<=e/\e<g.e.length) (h:aJ w vl E) (qN:ks.length<1000000) (hk:∀ i∈ks,0<=i/\i<F.length) (h2:aJ w vK ks) :
  Calls Tryz.prog 117 #[.pointer (some ⟨sb,0,none⟩),vl,vK] w fun e w'=>∃ ov xs,e=.returned ov/\bF w' w.heap.size 151 3 ov (Plain.cr g on F E ks).length xs (dF (Plain.cr g on F E ks))/\ai [] w w':=by
 have HG:=lh hG;have HI:=lh h;have HD:=lh hd;have Um:=lh jW;have HQ:=lh hq;have Nh:=lh Xa;have HF:=lh hF;have HK:=lh hk;have HKI:=lh h2;have ir:=lh hG.small;have Ng:=lh hG.n;have j7:=lh (Plain.Gr.aP hG.err);obtain⟨eo,cap,DQ,-,-,dS,aO⟩:=hG.gr;have sD:=lh aO;have HGS:=lh dS;simp only[Qy.injEq,Array.mk.injEq,List.cons.injEq,true_and,and_true] at DQ;subst DQ;obtain⟨lo,lc,rfl,-,hm,-⟩:=h;obtain⟨ko,kc,rfl,-,hkm,-⟩:=h2;have FE:=lh (fun (k:Nat)=>Plain.AG.fold (g:=g) (on:=on) (E:=E) (E.take k) (Plain.AG.start on E) (fun _ h=>List.mem_of_mem_take h));clear hd hG aO dS jW hq Xa hF hk
 go_enter Tryz.func117,Tryz.ntmps117
 go_wp2_with fail
 refine (SK _ E w (by omega) HI.out).mono ?_;rintro _ w2 ⟨pb,own,rfl,uL,bG,fD⟩;have BC:=lh uL;have cA:=lh bG;have wL:=lh fD;have nq:=@run_makeMap Tryz.prog;clear uL bG fD
 go_wp2_with fail
 clear nq;have T6:=lh (bN.made w2);have dD:=lh ((ai.refl [] w2).alloc (.map #[] 0));have HOL:=lh (show ∀ j∈own,j<w2.heap.size from BC.out.lt);have agb:=lh (BC.out.aM dD.out (by simp));have HW2:=lh cA.out.size;generalize w2.alloc (.map #[] 0)=w3 at *;obtain⟨mp,FA⟩:∃ mp,w2.heap.size=mp:=⟨_,rfl⟩;rw[FA] at T6 HOL HW2 ⊢;have afE:=lh (cA.out.t dD.out);clear FA BC dD
 go_loopw [10,12,13,14,24] (fun _ _ _ _ c wr=>∃ k:Nat,k<=E.length/\c=.int .i64 k/\∃ own,cF wr pb own (Plain.BX g on E k).1/\bN wr mp (2*k) (Plain.BX g on E k).2/\Hid (mp ∉ own)/\Hid (∀ j∈own,w.heap.size<=j)/\ai [] w wr) (fun _ _ _ _ c _=>E.length - (intOf c).toNat)
 case atStart=>exact⟨0,Qd _,rfl,own,agb.out,T6.out,lh (fun q=>by have:=HOL.out _ q;omega),wL,afE.out⟩
 case round =>
  obtain⟨k,hk,rfl,NO,uL,qu,ajT,fD,hc⟩:=hrel;have SS:=lh uL;have Bb:=lh qu;have HC:=lh hc;clear uL qu hc agb T6 afE HOL wL cA;by_cases aU:k<E.length
  ·obtain⟨rb,uR,rfl,rc⟩:=aJ.cellAt HI.out aU
   have cZ:=HC.out.c rc;have mm:=HD.out _ (Plain.aZ aU);have Hf:=lh (Plain.L8 (g:=g) (on:=on) aU);have ry:=Plain.aZ aU;have HEM:=lh ry;obtain⟨en,kQ⟩:∃ en:Nat,E.getD k 0=en:=⟨(E.getD k 0).toNat,by omega⟩;rw[kQ] at cZ mm Hf HEM;have nz:en<g.e.length:=by omega
   have vG:en<2000:=by have:=ir.out;omega
   obtain⟨eb,eB,rfl,gy,cG⟩:=sD.out en nz;obtain⟨z1,z2⟩:=HGS.out en nz;have hr:=j7.out.2.2.2 en nz;have c0:=HC.out.c gy;have c1:=HC.out.c cG;have q1:=HC.out.c HG.out.c1;have dN:g.at (en:Int)=g.ends en:=by unfold Plain.Gr.at;rw[Qm]
   rw[dN] at Hf;obtain⟨x,hx⟩:∃ x:Nat,(g.ends en).1=x:=⟨(g.ends en).1.toNat,by omega⟩;obtain⟨y,hy⟩:∃ y:Nat,(g.ends en).2=y:=⟨(g.ends en).2.toNat,by omega⟩;rw[hx] at c0 z1 Hf;rw[hy] at c1 z2 Hf;have HXN:=lh (show x<N by rw[Ng.out,hx] at hr;omega);have HYN:=lh (show y<N by rw[Ng.out,hy] at hr;omega);have IEN:bn (en:Int):=bn.mk (by omega) (by omega);have yH:=lh (Plain.qx (FE.out k));have HIK:=lh (FE.out k);obtain⟨S,hS⟩:∃ S,Plain.BX g on E k=S:=⟨_,rfl⟩;have HSS:=lh hS;have YD:=lh (show Plain.AG on E _ S by rw[<-hS];exact HIK.out);rw[hS] at SS Bb Hf;clear rc mm kQ gy cG hr dN hx hy hS ry HIK yH
   go_wp2_with fail
   have aD:ai [] wr wr.drew:=(ai.refl [] wr).drew;refine au (ai [] wr) [0,1,2,3,4,5,6,7,8,9,10,11,12,13,14,15,16,17,19,20] (Way.line [0,1,2,3,4,5,6,7,8,9,10,11,12,13,14,15,16,17,20,18,19] .done) (by kernel_rfl) (by kernel_rfl) ?_;simp only[Way.line]
   repeat
    first
     | (refine ar rfl (by rfl) (by rfl) (fun _ _ _ h=>h) aD ?_;simp only[Qf,Z1,Z2,Z3,Z4,Z5,Z6])
     | (refine aq (v:=?_) rfl (by rfl) (by rfl) (fun _ _ _ h=>h) aD (fun w' aK=>?_) ?_;rotate_left;(focus (have fU:=aK.c q1;have gX:=aK.c c0;have nP:=aK.c c1;clear aK;go_simp;try with_reducible rfl));simp only[Qf,Z1,Z2,Z3,Z4,Z5,Z6])
     | (refine ak rfl (by rfl) (by rfl) aD ?_;simp only[Qf,Z1,Z2,Z3,Z4,Z5,Z6])
   refine aC rfl (by rfl) (by rfl) (fun K hK=>?_);go_simp;have bD:=aD.alloc (.cells #[.int .i64 (x:Int),.int .i64 (y:Int)] 3);refine hK.out _ _ (fun _=>bD) ?_;clear hK K
   try simp only[Qf,Z1,Z2,Z3,Z4,Z5,Z6]
   repeat
    first
     | (refine ar rfl (by rfl) (by rfl) (fun _ _ _ h=>h) bD ?_;simp only[Qf,Z1,Z2,Z3,Z4,Z5,Z6])
     | (refine aq (v:=?_) rfl (by rfl) (by rfl) (fun _ _ _ h=>h) bD (fun w' aK=>?_) ?_;rotate_left;(focus (skip;clear aK;go_simp;try with_reducible rfl));simp only[Qf,Z1,Z2,Z3,Z4,Z5,Z6])
     | (refine ak rfl (by rfl) (by rfl) bD ?_;simp only[Qf,Z1,Z2,Z3,Z4,Z5,Z6])
   refine aB ?_;have mo:=lh (show (wr.alloc (.cells #[.int .i64 (x:Int),.int .i64 (y:Int)] 3)).drew.heap[wr.heap.size]?=some (.cells #[.int .i64 (x:Int),.int .i64 (y:Int)] 3 (0,0)) from heap_alloc_new wr _);have kh:=lh (show ai [] wr (wr.alloc (.cells #[.int .i64 (x:Int),.int .i64 (y:Int)] 3)).drew from ((ai.refl [] wr).alloc _).drew);have Zf:=lh (SS.out.aM kh.out (by simp));have HMA:=lh (Bb.out.aM kh.out (by simp));have HOL:=lh SS.out.lt;clear aD bD q1 c0 c1 cZ SS Bb;generalize (wr.alloc (.cells #[.int .i64 (x:Int),.int .i64 (y:Int)] 3)).drew=wd at *;obtain⟨pl,pO⟩:∃ pl,wr.heap.size=pl:=⟨_,rfl⟩;rw[pO] at mo HOL ⊢;have iP:=lh (HC.out.t kh.out);have HWP:=lh (show w.heap.size<=pl by rw[<-pO];exact HC.out.size);clear pO;have HZ:=lh (show ∀ j:Nat,j<2->∃ z:Nat,z<N/\(∀ wx:World,wx.heap[pl]?=some (.cells #[.int .i64 (x:Int),.int .i64 (y:Int)] 3 (0,0))->wx.cell? ⟨pl,j,none⟩=some (.int .i64 (z:Int)))/\bn (z:Int)/\Plain.iV on en S x y (j+1)=Plain.kG on en (Plain.iV on en S x y j) z from fun j hj=>by
    rcases (show j=0\/j=1 by omega) with rfl | rfl
    ·exact⟨x,HXN.out,fun wx hx=>(cell_of_row _ _ 0 _ _ _ hx).trans rfl,z1,rfl⟩
    exact⟨y,HYN.out,fun wx hx=>(cell_of_row _ _ 1 _ _ _ hx).trans rfl,z2,rfl⟩)
   have HHI:=lh (show ∀ j:Nat,∃ H,Plain.AG on E H (Plain.iV on en S x y j) from fun j=>by
    match j with
    | 0=>exact⟨_,YD.out⟩
    | 1=>exact⟨_,YD.out.step HEM.out⟩
    | j+2=>exact⟨_,(YD.out.step HEM.out).step HEM.out⟩)
   rename World=>wo
   go_wp2_with fail
   go_loopw [12,13,14,48] (fun _ _ _ c wr=>∃ j:Nat,j<=2/\c=.int .i64 j/\wr.heap[pl]?=some (.cells #[.int .i64 (x:Int),.int .i64 (y:Int)] 3 (0,0))/\∃ own,cF wr pb own (Plain.iV on en S x y j).1/\bN wr mp (2*k+j) (Plain.iV on en S x y j).2/\Hid (mp ∉ own)/\Hid (pl ∉ own)/\Hid (∀ j∈own,w.heap.size<=j)/\ai [] w wr) (fun _ _ _ c _=>2 - (intOf c).toNat)
   case atStart=>exact⟨0,Qd _,rfl,mo.out,NO,Zf.out,HMA.out,ajT,lh (fun q=>by have:=HOL.out _ q;omega),fD,iP.out⟩
   case round =>
    obtain⟨j,hj,rfl,dL,BF,uL,qu,zY,Uw,EA,FH⟩:=hrel;have B0:=lh dL;have uQ:=lh uL;have mD:=lh qu;have kR:=lh FH;clear dL uL qu FH Zf HMA iP;by_cases Mi:j<2
    ·obtain⟨z,hzN,hzc,RP,hzf⟩:=HZ.out j Mi
     have pz:=hzc _ B0.out;have s2:=kR.out.c HQ.out;have bz:=((Um.out.base (Qd _)).aM kR.out (by simp)).cell hzN;have Xl:=lh hzf;have lp:(j:Int)<2:=by omega
     have hzi:(z:Int)<(N:Int):=by omega
     obtain⟨H,hH⟩:=HHI.out j;have HH:=lh hH;obtain⟨T,hT⟩:∃ T,Plain.iV on en S x y j=T:=⟨_,rfl⟩;rw[hT] at uQ mD Xl HH;have Va:2*k+j<100000:=by omega
     clear hzc hzf hT hH;cases hb:on (z:Int) with
     | true =>
      rw[hb] at bz;have Nf:=lh (show Plain.iV on en S x y (j+1)=T by rw[Xl.out];unfold Plain.kG;rw[hb];simp);clear hb;go_wp2
      go_roundw
      case rel=>exact⟨j+1,by omega,by go_num,B0.out,BF,by rw[Nf.out];exact uQ.out,by rw[Nf.out];exact mD.out.mono (by omega),zY,Uw,EA,kR.out⟩
      case measure=>simp[intOf];omega
     | false =>
      rw[hb] at bz;have VH:=lh hb;clear hb;cases WO:T.2 (z:Int) with
      | some f =>
       have WH:=lh WO;have CS:=lh (show Plain.iV on en S x y (j+1)=(T.1.join f en,T.2) by rw[Xl.out];unfold Plain.kG;rw[VH.out,WO];rfl);have Vg:=(HH.out.src (z:Int) f WO).1;have sF:=HD.out f Vg;have IF:bn f:=bn.mk (by omega) (by have:=ir.out;omega);have ZK:=lh (Plain.qx HH.out);clear WO Vg sF
       go_wp2_with (at_lookup;refine eT _ rfl _ _ rfl mD.out rfl RP rfl WH ?_)
       refine (O9 pb BF T.1 f en wr IF IEN (by have:=ZK.out;omega) uQ.out).mono ?_;rintro _ w6 ⟨rfl,own3,hso3,hc6,gB⟩;have HS3:=lh hso3;have ni:=lh hc6;have ZR:=lh gB;have xt:=lh mD.out.lt;clear hso3 hc6 gB;go_wp2
       go_roundw
       case rel =>
        refine⟨j+1,by omega,by go_num,ni.out.heap B0.out Uw.out,own3,by rw[CS.out];exact HS3.out,by rw[CS.out];exact (mD.out.aM ni.out zY.out).mono (by omega),lh (fun q=>?_),lh (fun q=>?_),lh (fun b hb=>?_),kR.out.trans ni.out (fun b hb=>Qi (EA.out b hb))⟩
        ·rcases ZR.out _ q with r | r
         ·exact zY.out r
         have:=xt.out;omega
        ·rcases ZR.out _ q with r | r
         ·exact Uw.out r
         have:=lt_of_block B0.out;omega
        rcases ZR.out _ hb with r | r
        ·exact EA.out _ r
        have:=kR.out.size;omega
       case measure=>simp[intOf];omega
      | none =>
       have WH:=lh WO;have CS:=lh (show Plain.iV on en S x y (j+1)=(T.1,fun u=>if u=(z:Int) then some (en:Int) else T.2 u) by rw[Xl.out];unfold Plain.kG;rw[VH.out,WO];rfl);clear WO
       go_wp2_with (first
        | (at_lookup;refine dw _ rfl _ _ rfl mD.out rfl RP rfl WH ?_)
        | (at_mapUpdate;refine iG _ rfl _ _ _ rfl mD.out (by unfold maxLen;omega) rfl RP IEN rfl rfl ?_;intro w7 JI Kd;have Ee:=lh JI;have HG7:=lh ((ai.refl [mp] wr).grown Kd (fun j hj=>by cases hj;exact Qq (by simp)));clear JI Kd))
       go_roundw
       case rel =>
        refine⟨j+1,by omega,by go_num,HG7.out.heap B0.out (by rw[Qc];exact mD.out.ne B0.out),BF,by rw[CS.out];exact uQ.out.aM HG7.out (fun b hb q=>zY.out (by rw[Qc] at q;rw[<-q];exact hb)),by rw[CS.out];exact Ee.out,zY,Uw,EA,kR.out.trans HG7.out (fun b hb=>Qi (by rw[Qc] at hb;have:=HW2.out;omega))⟩
       case measure=>simp[intOf];omega
    have e2:j=2:=by omega
    subst e2;have Nf:=lh (show Plain.BX g on E (k+1)=Plain.iV on en S x y 2 from Hf.out);have Rx:k<E.length:=aU;have al7:=lh (show bN wr mp (2*(k+1)) (Plain.iV on en S x y 2).2 from mD.out);clear hj Mi;go_wp2
    go_roundw
    case rel=>exact⟨k+1,by omega,by go_num,BF,by rw[Nf.out];exact uQ.out,by rw[Nf.out];exact al7.out,zY,EA,kR.out⟩
    case measure=>simp[intOf];omega
  have e:k=E.length:=by omega
  subst e;rw[Plain.O0] at SS;have yH:=lh (show (Plain.gG g on E).1.all.length<=E.length from Plain.qx (Plain.gu g on E));have HOK:=lh (Plain.gu g on E);clear hk aU Bb
  go_wp2_with fail
  refine (DT pb NO (Plain.gG g on E).1 wr (by have:=yH.out;omega) SS.out).mono ?_;rintro _ wG ⟨ov,vs,rfl,hrows,-,hcg⟩;have uN:=lh hrows;have HCG:=lh (show ai [] w wG from HC.out.trans hcg (fun j hj=>Qi (fD.out j hj)));have HWR:=lh HC.out.size;obtain⟨Gs,hGs⟩:∃ Gs,(Plain.gG g on E).1.groups=Gs:=⟨_,rfl⟩;have atl:=lh hGs;have abS:∀ l∈Gs,l.Sublist E:=fun l hl=>by
   rw[<-hGs] at hl;have h1:=Plain.FR hl;rw[HOK.out.all] at h1;exact h1.trans (UA E)
  have HGI:=lh abS;have HGL:=lh (show Gs.length<=1024 by
   rw[<-hGs];have h1:(Plain.gG g on E).1.groups.length<=(Plain.gG g on E).1.all.length:=by
    unfold St.groups St.gr St.cY;rw[Qu];exact Qw (Qe _ _) (by simp)
   have:=yH.out;omega)
  rw[hGs] at uN;obtain⟨vo,vc,rfl⟩:=cM hrows.out;have EF:vs.length=Gs.length:=uN.out.len;rw[EF];have yT:=lh EF;have HSC:=lh (show Plain.cr g on F E ks=Gs.map (Plain.pj g on F ks) by rw[Plain.Gl,hGs]);obtain⟨bq,hbq⟩:∃ b,wr.heap.size=b:=⟨_,rfl⟩;rw[hbq] at uN HWR;clear hrows hcg abS hGs EF SS HC hbq
  go_wp2_with fail
  go_loopw [15,17,18,78] (fun c15 _ _ c wr=>∃ i:Nat,i<=Gs.length/\c=.int .i64 i/\∃ xs,bF wr w.heap.size 151 3 c15 i xs (dF ((Gs.take i).map (Plain.pj g on F ks)))/\Hid (∀ k b,k<xs.length->(xs.getD k undef).ownBlock=some b->(∃ j,j<i/\(vs.getD j undef).ownBlock=some b)\/wG.heap.size<=b)/\Hid (∀ b,c15.ownBlock=some b->wG.heap.size<=b)/\ai [] wG wr) (fun _ _ _ c _=>Gs.length - (intOf c).toNat)
  case atStart=>exact⟨0,Qd _,rfl,[],bF.nil _ _ _ _,lh (by simp),lh (by simp[Qr]),ai.refl _ _⟩
  case round =>
   obtain⟨i,hi,rfl,xs,bh,fT,MD,FH⟩:=hrel;have lK:=lh bh;have kR:=lh FH;have xo:=lh (HCG.out.t FH);obtain⟨uo,uc,rfl⟩:=bh.shape;clear bh FH;by_cases aU:i<Gs.length
   ·obtain⟨gb,gc,egb⟩:=cN uN.out.out (by rw[yT.out];omega)
    simp only[Qa.injEq] at egb;obtain⟨rfl,-,rfl⟩:=egb;have RO:=uN.out.rows i (by rw[yT.out];exact aU);have B3:=Qj.cells uN.out.out (g:=gb) rfl i (vs.getD i undef) (by simp[Qg,show i<vs.length by rw[yT.out];exact aU]);rw[show (⟨gb,0,none⟩:Addr).add i=⟨gb,i,none⟩ by unfold Addr.add;split <;> simp_all] at B3;have aev:=lh (show (Gs.take (i+1)).map (Plain.pj g on F ks)=(Gs.take i).map (Plain.pj g on F ks)++[Plain.pj g on F ks (Gs.getD i [])] by
     rw[Qb aU,List.map_append];simp[Qg,aU])
    have hLm:Gs.getD i []∈Gs:=by simp[Qg,aU]
    have gB:=HGI.out _ hLm;obtain⟨L,hL⟩:∃ L,Gs.getD i []=L:=⟨_,rfl⟩;rw[hL] at RO aev gB;have hLl:L.length<=1024:=Qw gB.length_le hl;have hLe:∀ e∈L,0<=e/\e<g.e.length:=fun e he=>HD.out e (gB.subset he);have Jj:ax wG bq (vs.getD i undef) L:=⟨RO,fun x hx=>by have:=hLe x hx;exact bn.mk (by omega) (by have:=ir.out;omega),by omega⟩;obtain⟨u,hu⟩:∃ u,vs.getD i undef=u:=⟨_,rfl⟩;have HU:=lh hu;rw[hu] at Jj B3;obtain⟨uo2,uc2,rfl⟩:=Jj.shape;have ck:=kR.out.c B3;have RD:=lh Jj;have yd:=lh hLe;clear RO B3 hLm gB hL hu Jj hLe;have hub:∀ b,(Qa uo2 L.length uc2).ownBlock=some b->bq<=b/\b<wG.heap.size:=fun b hb=>RD.out.low b (by rw[hb];simp);have HUB:=lh hub;have HUX:=lh (show ∀ k b,k<xs.length->(xs.getD k undef).ownBlock=some b->(Qa uo2 L.length uc2).ownBlock≠some b from fun k b hk hb e=>by
     rcases fT.out k b hk hb with ⟨j,hj,q⟩ | q
     ·rcases uN.out.apart j i (by rw[yT.out];omega) (by rw[yT.out];omega) (by omega) with r | r
      ·rw[r] at q;cases q
      exact r (by rw[q,HU.out];exact e.symm)
     have:=(hub b e).2;omega)
    have HVN:=lh (show ∀ v∈Plain.br g on L,0<=v/\v<N from fun v hv=>by
     obtain⟨-,e,he,pA⟩:=Plain.bs.1 hv;have hr:=yd.out e he;have h4:=j7.out.2.2.2 e.toNat (by omega);have hn:=Ng.out;have dN:g.at e=g.ends e.toNat:=rfl;rcases pA with q | q <;> (rw[dN] at q;omega))
    have ajj:=lh (show (Plain.br g on L).length<1000000 by have:=kX (Plain.gd g on L) HVN.out;have:=ir.out;omega);have HG':=lh (HG.out.fresh xo.out);have HQ':=lh (xo.out.c HQ.out);have akD:=lh (xo.out.c Nh.out);have anp:=lh (Um.out.aM xo.out (by simp));have HF':=lh (HF.out.fresh xo.out);have agm:=lh (RD.out.aM kR.out (by simp));have CS:=lh ((aJ.aM HKI.out xo.out (by simp)));clear hub
    go_wp2_with fail
    refine (N8 sb ob N B _ _ g on L _ HG'.out HQ'.out anp.out (by omega) yd.out agm.out.ints).mono ?_;rintro _ w6 ⟨v6,rfl,h6,hc6⟩;obtain⟨o6,c6,rfl⟩:=h6.shape;have VV:=lh h6;have ni:=lh hc6;clear h6 hc6
    go_wp2_with fail
    refine (tE sb N B fv _ _ g F xs0 (Plain.br g on L) ks _ (ni.out.c akD.out) (HF'.out.fresh ni.out) ajj.out qN HVN.out HK.out VB VV.out.ints (CS.out.aM ni.out (by simp))).mono ?_;rintro _ w8 ⟨v8,rfl,h8,hc8⟩;obtain⟨o8,c8,rfl⟩:=h8.shape;have ae8:=lh ((lK.out.fresh ni.out).fresh hc8);have xf:=lh ((kR.out.t ni.out).t hc8);have Sa:=lh (show wG.heap.size<=wr.heap.size/\wr.heap.size<=w6.heap.size/\w6.heap.size<=w8.heap.size/\w.heap.size<=w8.heap.size from⟨kR.out.size,ni.out.size,hc8.size,(HCG.out.t xf.out).size⟩);have H1:=lh (((agm.out.aM ni.out (by simp)).aM hc8 (by simp)).base (B:=w.heap.size) HWR.out);have H2:=lh ((VV.out.aM hc8 (by simp)).base (B:=w.heap.size) xo.out.size);have H3:=lh (h8.base (B:=w.heap.size) (by have:=Sa.out;have:=xo.out.size;omega));have H2L:=lh (show ∀ b,(Qa o6 (Plain.br g on L).length c6).ownBlock=some b->wr.heap.size<=b/\b<w6.heap.size from fun b hb=>VV.out.low b (by rw[hb];simp));have H3L:=lh (show ∀ b,(Qa o8 (Plain.ic g F (Plain.br g on L) ks).length c8).ownBlock=some b->w6.heap.size<=b from fun b hb=>(h8.low b (by rw[hb];simp)).1);have HXL:=lh (show ∀ k b,k<xs.length->(xs.getD k undef).ownBlock=some b->b<wr.heap.size from fun k b hk hb=>(lK.out.kind hk hb).2.1);have BA:=lh (show ∀ u∈(#[Qa uo2 L.length uc2,Qa o6 (Plain.br g on L).length c6,Qa o8 (Plain.ic g F (Plain.br g on L) ks).length c8]:Array Value).toList,u.oneCell'=true from fun u hu=>by
     simp at hu;rcases hu with rfl | rfl | rfl <;> rfl)
    have HI:=lh (show i<68719476736 by have:=HGL.out;omega);have Mk:=HGL.out;clear h8 hc8 ck
    go_wp2_with (at_builtin;refine qA lO rfl _ _ rfl (v:=.slice uo i uc) rfl rfl rfl ae8.out.out Sa.out.2.2.2 rfl BA.out HI.out ?_;intro g4 adI w9 r9 c9 l9;have R9:=lh r9;have C9:=lh c9;have L9:=lh l9;clear r9 c9 l9)
    go_roundw
    case rel =>
     have iw:=ae8.out.add (us:=[.slice uo2 L.length uc2,.slice o6 (Plain.br g on L).length c6,.slice o8 (Plain.ic g F (Plain.br g on L) ks).length c8]) (ds:=[.row L,.row (Plain.br g on L),.row (Plain.ic g F (Plain.br g on L) ks)]) (by decide) rfl rfl (fun j d hj=>by
      rcases j with _ | _ | _ | j
      ·simp at hj;subst hj;exact H1.out
      ·simp at hj;subst hj;exact H2.out
      ·simp at hj;subst hj;exact H3.out
      ·simp at hj) (fun a b ha hb bh=>by
      cases hq:([Qa uo2 L.length uc2,.slice o6 (Plain.br g on L).length c6,.slice o8 (Plain.ic g F (Plain.br g on L) ks).length c8].getD a undef).ownBlock with
      | none=>exact Qq rfl
      | some q =>
       refine Qi fun e=>?_;have s8:=Sa.out;have u1:=HUB.out q;have u2:=H2L.out q;have u3:=H3L.out q;simp at ha hb;rcases (show a=0\/a=1\/a=2 by omega) with rfl | rfl | rfl <;> rcases (show b=0\/b=1\/b=2 by omega) with rfl | rfl | rfl <;>
        first
        | exact bh rfl
        | (
          have hq:=hq;have e:=e.symm;simp only[Qg,List.getElem?_cons_zero,List.getElem?_cons_succ,Option.getD_some] at hq e
          first
          | (have:=u1 hq;have:=u2 e;omega)
          | (have:=u1 hq;have:=u3 e;omega)
          | (have:=u2 hq;have:=u1 e;omega)
          | (have:=u2 hq;have:=u3 e;omega)
          | (have:=u3 hq;have:=u1 e;omega)
          | (have:=u3 hq;have:=u2 e;omega))) (fun a b q ha hb hq e=>by
      have h0:=HXL.out a q ha hq;have s8:=Sa.out;simp at hb;rcases b with _ | _ | _ | b
      ·exact HUX.out a q ha hq e
      ·have:=(H2L.out q e).1
       omega
      ·have:=H3L.out q e
       omega
      omega) R9.out C9.out
     refine⟨i+1,by omega,by go_num,_,by rw[aev.out,K0];exact iw,lh (fun k b hk hb=>?_),lh (fun b hb=>?_),xf.out.trans C9.out fun j hj=>Qi ?_⟩
     ·by_cases e1:k<xs.length
      ·rw[cQ e1] at hb
       rcases fT.out k b e1 hb with ⟨j,hj,q⟩ | q
       ·exact Qq ⟨j,by omega,q⟩
       exact Qi q
      rw[cd (by omega)] at hb;have s8:=Sa.out;rw[Qk] at hk;simp only[Qn,Qp] at hk;rcases (show k - xs.length=0\/k - xs.length=1\/k - xs.length=2 by omega) with r | r | r <;> rw[r] at hb
      ·exact Qq ⟨i,by omega,by rw[HU.out];exact hb⟩
      ·exact Qi (by have:=(H2L.out b hb).1;omega)
      exact Qi (by have:=H3L.out b hb;omega)
     ·have s8:=Sa.out
      have Cc:b=g4:=by simp[Qr] at hb;exact hb.symm
      subst Cc;rcases L9.out with r | r
      ·exact MD.out _ r
      omega
     exact MD.out j (by simpa using hj)
    case measure=>simp[intOf];omega
   have e:i=Gs.length:=by omega
   subst e;rw[Qh] at lK;have uJ:=lh (show (Plain.cr g on F E ks).length=Gs.length by rw[HSC.out,Qu]);clear hi aU;go_wp2;go_ret;exact⟨_,xs,rfl,by rw[uJ.out,HSC.out];exact lK.out,xo.out⟩
end Go.Proofs.YtbkjljffnkdcjaaGreat
