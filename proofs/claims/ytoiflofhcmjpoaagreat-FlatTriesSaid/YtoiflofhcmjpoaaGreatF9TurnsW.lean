/- draw's turns: contract. Conditions: a sketch that is drawn whole, its block, that lie in memory and read so. -/
import Derived.Test.YtoiflofhcmjpoaaGreatF9RingOk
set_option maxRecDepth 100000
set_option maxHeartbeats 8000000
open List renaming mem_singleton→Qa,replicate→Qc,getElem_range→Qd,ext_getElem→Qf,getElem_map→Qg,getD→Qh,getElem_set→Qj
open Int renaming toNat_natCast→Qb
open Nat renaming le_refl→Qe,zero_le→Qk,mod_lt→Ql,zero_add→Qm
open Go.Value renaming int→Qi,slice→Qn
open Option renaming some→Qo
open Or renaming inr→Qp
-- READS ONLY
namespace Go.Proofs.YtoiflofhcmjpoaaGreat
open Plain
open Go.RowKit Go.Maps
variable {g:Gr} {b:Pt} {N j v:Nat}
def gG (g:Gr) (b:Pt) (aa:List (List Int)) (N j:Nat):List Cell:=(List.range N).map λv:Nat=>Cell.row (if bQ g b v j=[] then [] else first (ay aa v))
theorem JH (g:Gr) (b:Pt) (aa:List (List Int)) (N:Nat):gG g b aa N 0=Qc N (Cell.row []):=by
 unfold gG;have:(λv:Nat=>Cell.row (if bQ g b v 0=[] then [] else first (ay aa v)))=λ_=>Cell.row []:=by funext v;rw[nt,if_pos rfl]
 rw[this,List.map_const',List.length_range]
theorem Hz {aa:List (List Int)} (hv:v<N):(gG g b aa N j)[v]?=some (.row (if bQ g b v j=[] then [] else first (ay aa v))):=by
 unfold gG;rw[List.getElem?_map,List.getElem?_range hv];rfl
theorem Cq {aa:List (List Int)} (hj:j<b.ah.length) (_hv:v<N) (ht:g.tail (b.ah.getD j 0)=v):(gG g b aa N j).set v (.row (first (ay aa v)))=gG g b aa N (j+1):=by
 refine Qf (by simp[gG]) λi h1 h2=>?_;have hi:i<N:=by simpa[gG] using h2
 rw[Qj];simp only[gG,Qg,Qd];rw[nX hj,ht];by_cases e1:v=i
 ·subst e1
  rw[if_pos rfl,if_pos rfl,if_neg (by simp)]
 have Pf:¬ (v:Int)=(i:Int):=by omega
 rw[if_neg e1,if_neg Pf]
theorem Kh {aa:List (List Int)} (hj:j<b.ah.length) (hv:v<N) (ht:g.tail (b.ah.getD j 0)=v) (h:bQ g b v j≠[]):gG g b aa N j=gG g b aa N (j+1):=by
 rw[<-Cq hj hv ht];refine Qf (by simp[gG]) λi h1 h2=>?_;rw[Qj];by_cases e1:v=i
 ·subst e1
  rw[if_pos rfl];simp only[gG,Qg,Qd];rw[if_neg h]
 rw[if_neg e1]
theorem O7 {aa:List (List Int)} (ht:aK g b aa) (hN:g.n=N):gG g b aa N b.ah.length=(aa.map first).map Cell.row:=by
 have hl:=ht.len;refine Qf (by simp[gG];omega) λi h1 h2=>?_;have hi:i<N:=by simpa[gG] using h1
 have hit:i<aa.length:=by omega
 simp only[gG,Qg,Qd];have UL:ay aa (i:Int)=aa[i]:=by unfold ay;rw[Qb];simp[Qh,hit]
 rw[lN,UL];by_cases e:aE g b i=[]
 ·rw[if_pos e]
  have:aa[i]=[]:=by
   refine List.eq_nil_iff_forall_not_mem.2 λd hd=>?_;have h3:=(ht.mem i (by omega) (by omega) d).1 (by rw[UL];exact hd);have:d∈aE g b i:=aX.2 h3;rw[e] at this;cases this
  rw[this];rfl
 rw[if_neg e]
namespace Plain
theorem W0 {F:List (List Int)} {k:Nat} (_hk:k<F.length) (L:List Int):nO F (k+1) L=qh (F.getD k []) (F.getD k []).length (nO F k L):=rfl
end Plain
theorem Ch {w:World} {tb:Nat} {ts:List Value} {cs:List Cell} {l:List Int} {x:Int} (h:bN w tb 25 1 (.slice (some ⟨tb,0,none⟩) N N) N ts cs) (hv:v<N) (hc:cs[v]?=some (.row l)) (hx:bF x) (hl:l.length+1<4294967296) :
  ∃ va vc zz yR w2,w.cell? ⟨tb,v,none⟩=some (.slice va l.length vc)/\(Builtin.append_ #[25,25] 25 #[.slice va l.length vc,.slice (some ⟨w.heap.size,0,none⟩) 1 1]).run Tryz.prog (w.alloc (.cells #[.int .i64 x] 3))=.ok (.slice zz (l.length+1) yR) w2 /\
   w2.cell? ⟨tb,v,none⟩=some (.slice va l.length vc)/\w2.frozen? ⟨tb,v,none⟩=false /\
   (∃ ts',bN (w2.setCell ⟨tb,v,none⟩ (.slice zz (l.length+1) yR)) tb 25 1 (.slice (some ⟨tb,0,none⟩) N N) N ts' (cs.set v (.row (l++[x])))) /\
   ∀ w0:World,ai [] w0 w->w0.heap.size=tb->ai [] w0 (w2.setCell ⟨tb,v,none⟩ (.slice zz (l.length+1) yR)):=by
 have AI:=h.cells;obtain⟨va,vc,zz,yR,w2,p1,p2,p3,p4,p5,p6,p7,p8,-⟩:=qi (q:=v) (x:=x) h (by decide) (Nat.le_of_lt (h.out.lt tb rfl).2) (by rw[AI];omega) hc hx hl;refine⟨va,vc,zz,yR,w2,p1,p2,p3,p4,⟨_,p5⟩,λw0 h0 hs=>h0.trans p8 λb hb=>Qp ?_⟩;rw[hs];rcases List.mem_cons.1 hb with q | q
 ·rw[q];exact Qe _
 exact (h.kind (k:=v) (by rw[AI];omega) (by rw[p7];simpa[aC] using q)).1
theorem Sd {α:Type} (l:List α) (i:Nat) (a c:α):(l.set i a).set i c=l.set i c:=by simp
theorem Ov (w0 w:World) (sb ob N:Nat) (vE fv rv vb:Value) (xs ys:List Value) (g:Gr) (b:Pt) (s:Sk) (aa:List (List Int)) (hO:GU w0 w sb ob N g vE fv rv xs ys s) (hF:cQ g b aa s.ak) (hp:dt w vb b) :
  Calls Tryz.prog 85 #[.pointer (some ⟨sb,0,none⟩),vb] w λe w'=>∃ tb ts,e=.returned (.slice (some ⟨tb,0,none⟩) N N)/\bN w' w.heap.size 25 1 (.slice (some ⟨tb,0,none⟩) N N) N ts ((aa.map first).map Cell.row)/\ai [] w w':=by
 have HB:=lh hO.base;have rZ:=lh hO.ak;have HF:=lh hF;have HGI:=lh hO.base.A6;have iL:=lh hO.base.A6.small;have q0:=hO.base.A6.c0;have q1:=hO.base.A6.c1;have q3:=hO.base.q3;obtain⟨eo,ag7,F4,-⟩:=HGI.out.gr;simp only[Value.agg.injEq,Array.mk.injEq,List.cons.injEq,true_and,and_true] at F4;subst F4;obtain⟨fo,fc,hfv⟩:=hO.ak.out |> bR;subst hfv;obtain⟨pv,pe,rfl,Dl,dk⟩:=hp;have uu:=lh dk;have LQ:=lh Dl;obtain⟨bo,bc,rfl,-,-,oG⟩:=dk;obtain⟨ao,ac,rfl,-,-,-⟩:=Dl;have gJ:=lh (show ai [] w (w.alloc (.cells #[.slice ao b.v.length ac,.slice bo b.e.length bc] 27)) from (show ai [] w (w.alloc (.cells #[.slice ao b.v.length ac,.slice bo b.e.length bc] 27)) from ((ai.refl [] w).alloc _)));have cf:=heap_alloc_new w (.cells #[.slice ao b.v.length ac,.slice bo b.e.length bc] 27);have HX:=lh (λ(w2:World) (dN:ai [] (w.alloc (.cells #[.slice ao b.v.length ac,.slice bo b.e.length bc] 27)) w2)=>(⟨dN.c ((cell_of_row _ _ 0 _ _ _ cf).trans rfl),dN.c ((cell_of_row _ _ 1 _ _ _ cf).trans rfl),by have hz:=dN.size;simpa using hz⟩:w2.cell? ⟨w.heap.size,0,none⟩=some (.slice ao b.v.length ac)/\w2.cell? ⟨w.heap.size,1,none⟩=some (.slice bo b.e.length bc)/\w.heap.size+1<=w2.heap.size));clear cf;have xJ:=lh (show (w.alloc (.cells #[.slice ao b.v.length ac,.slice bo b.e.length bc] 27)).heap.size=w.heap.size+1 by simp);obtain⟨x0,x1,-⟩:=HX.out _ (ai.refl _ _);have iM:g.e.length<=1024:=iL.out.2;have hNN:N<=1024:=iL.out.1;have hFl:s.ak.length<=1026:=by
  have h1:=hF.tZ;have h2:=Pt.ax hF.pe;have h3:=ep (Pt.aF hF.pe).2.2.1;omega
 have hn0:0<=g.n:=by rw[hO.base.n];omega
 clear hO hF;replace q0:=gJ.out.c q0;replace q1:=gJ.out.c q1;replace q3:=gJ.out.c q3;go_enter Tryz.func85,Tryz.ntmps85;go_wp2_with (at_make;refine Lf cM rfl _ _ rfl (B:=w.heap.size) (n:=2*g.e.length) (by show Qi .i64 (2*(g.e.length:Int))=_;congr 1) (by show Qi .i64 (2*(g.e.length:Int))=_;congr 1) gJ.out.size (by omega) ?_;intro w2 h2 c2;have H2:=lh (tL h2 (by omega));have C2:=lh c2;clear h2 c2;replace q0:=C2.out.c q0;replace q3:=C2.out.c q3;clear q1);have kA:=gJ.out.size;have uC:(w.alloc (.cells #[.slice ao b.v.length ac,.slice bo b.e.length bc] 27)).heap.size=w.heap.size+1:=by simp
 obtain⟨ab,qD⟩:∃ n,w.heap.size+1=n:=⟨_,rfl⟩;have Iw:=lh qD;rw[uC,qD] at H2;rw[qD];have HXB:=lh (λwr (h:ai [] _ wr)=>HX.out wr h);have AS:=gJ.out;have HZ:=lh (uC.trans qD);clear x0 x1 kA uC HX gJ;have gJ:=lh AS;generalize w.alloc (.cells #[.slice ao b.v.length ac,.slice bo b.e.length bc] 27)=w1 at *;obtain⟨M,hM⟩:∃ M,2*g.e.length=M:=⟨_,rfl⟩;rw[hM] at H2 ⊢;have q9:=lh (rZ.out.fresh (AS.t C2.out));have sd:M<=2048:=by omega
 have HDM:=lh (show ∀ d∈b.ah,0<=d/\d.toNat<M from λd hd=>by
  obtain⟨i,hi,e⟩:=cr (au.1 hd);have:=cG (Pt.aF HF.out.pe).2.2.1 hi;omega)
 have Fu:=lh (show ∀ wr,ai [ab] w2 wr->∀ i,i<s.ak.length->∃ u0 iz c1,wr.cell? ⟨(fo.getD ⟨0,0,none⟩).block,i*2,none⟩=some (.slice u0 (s.ak.getD i []).length c1)/\wr.cell? ⟨(fo.getD ⟨0,0,none⟩).block,i*2+1,none⟩=some (.slice (some ⟨iz,0,none⟩) N N)/\fo=some ⟨(fo.getD ⟨0,0,none⟩).block,0,none⟩/\aw wr w0.heap.size (.slice u0 (s.ak.getD i []).length c1) (s.ak.getD i [])/\∀ b∈(Qn u0 (s.ak.getD i []).length c1).ownBlock.toList,b≠ab from λwr hw i hi=>by
  have CU:=rZ.out.fresh AS;have AI:=CU.len;obtain⟨fb,fcc,efv⟩:=dj CU.out (by omega);simp only[Qn.injEq,true_and] at efv;obtain⟨rfl,rfl⟩:=efv;have apc:∀ b,bL w1 b 158->b ∉ [ab]:=λb hb=>by
   rw[Qa];intro e;have:=hb.lt;rw[HZ.out] at this;omega
  have aeQ:∀ {v:Value} {l:List Int},aw w1 w0.heap.size v l->∀ b∈v.ownBlock.toList,b ∉ [ab]:=λhr b hb=>by
   rw[Qa];intro e;have:=(hr.low b hb).2;rw[HZ.out] at this;omega
  have Mm:ai [ab] w1 wr:=(C2.out.mono (by simp)).trans hw (λj hj=>Or.inl hj);have hr:=CU.row i hi;obtain⟨iz,e1,-⟩:=CU.has i hi;have k0:=CU.cell (k:=2*i) (by omega);have k1:=CU.cell (k:=2*i+1) (by omega);rw[e1] at k1;obtain⟨u0,c1,e0⟩:=hr.shape;rw[e0] at k0 hr;have afF:=apc fb (bM CU.out rfl);rw[Nat.mul_comm 2 i] at k0 k1;exact⟨u0,iz,c1,Mm.cell k0 afF,Mm.cell k1 afF,rfl,hr.aL Mm (aeQ hr),λb hb e=>aeQ hr b hb (by simp[e])⟩)
 have YD:=lh (show ∀ i,i<s.ak.length->∀ d∈s.ak.getD i [],0<=d/\d.toNat<M from λi hi d hd=>HDM.out d (HF.out.all.mem_iff.1 (List.mem_flatten.2 ⟨_,by simp[Qh,hi],hd⟩)));have Eu:=lh (show ∀ i,i<s.ak.length->(s.ak.getD i []).length<=2048 from λi hi=>by
  have h1:=dB (HF.out.simple (s.ak.getD i []) (by simp[Qh,hi]));have:=iI (N:=2048) h1 λu hu=>by
   have:=YD.out i hi u hu;omega
  exact this)
 clear AS qD;go_loopw [29] (λc wr=>∃ k:Nat,k<=s.ak.length/\c=.int .i64 k/\aw wr w.heap.size (.slice (some ⟨ab,0,none⟩) M M) (nO s.ak k (Qc M 0))/\ai [ab] w2 wr) (λc _=>s.ak.length - (intOf c).toNat);case atStart=>exact⟨0,Qk _,rfl,H2.out,ai.refl _ _⟩
 case round =>
  obtain⟨k,hk,rfl,aT,hc⟩:=hrel;have bA:=lh aT;have HC:=lh hc;by_cases aW:k<s.ak.length
  ·obtain⟨u0,iz,c1,k0,k1,efo,hrw,acF⟩:=Fu.out wr hc k aW
   obtain⟨fb,Ps⟩:∃ fb,(fo.getD ⟨0,0,none⟩).block=fb:=⟨_,rfl⟩;rw[Ps] at k0 k1 efo;obtain⟨q,hq⟩:∃ q,s.ak.getD k []=q:=⟨_,rfl⟩;have HQ:=lh hq;have Rk:=Eu.out k aW;have HQD:=lh (YD.out k aW);rw[hq] at k0 hrw acF Rk HQD;have YQ:=lh hrw;have hki:(k:Int)<(s.ak.length:Int):=by omega
   have Vy:=lh (show ai [] wr (wr.alloc (.cells #[.slice u0 q.length c1,.slice (some ⟨iz,0,none⟩) N N] 158)) from (show ai [] wr (wr.alloc (.cells #[.slice u0 q.length c1,.slice (some ⟨iz,0,none⟩) N N] 158)) from ((ai.refl [] wr).alloc _)));have cf:=heap_alloc_new wr (.cells #[.slice u0 q.length c1,.slice (some ⟨iz,0,none⟩) N N] 158);have HY:=lh (λ(w2:World) (dN:ai [] (wr.alloc (.cells #[.slice u0 q.length c1,.slice (some ⟨iz,0,none⟩) N N] 158)) w2)=>(⟨dN.c ((cell_of_row _ _ 0 _ _ _ cf).trans rfl),dN.c ((cell_of_row _ _ 1 _ _ _ cf).trans rfl),by have hz:=dN.size;simpa using hz⟩:w2.cell? ⟨wr.heap.size,0,none⟩=some (.slice u0 q.length c1)/\w2.cell? ⟨wr.heap.size,1,none⟩=some (.slice (some ⟨iz,0,none⟩) N N)/\wr.heap.size+1<=w2.heap.size));clear cf;have HYZ:=lh (show (wr.alloc (.cells #[.slice u0 q.length c1,.slice (some ⟨iz,0,none⟩) N N] 158)).heap.size=wr.heap.size+1 by simp);obtain⟨y0,y1,-⟩:=HY.out _ (ai.refl _ _);have hyr:=aT.aL Vy.out (by simp);have awi:ab<wr.heap.size:=(aT.low ab (by simp[Value.ownBlock])).2;obtain⟨A,hA⟩:∃ A,nO s.ak k (Qc M 0)=A:=⟨_,rfl⟩;have HA:=lh (show nO s.ak (k+1) (Qc M 0)=qh q q.length A by rw[W0 aW,hq,hA]);rw[hA] at hyr;have HYR:=lh hyr;have JX:=lh (hrw.aL Vy.out (by simp));have aoH:=lh acF;clear Ps hq hrw acF aT hyr hA;go_wp2_with fail;clear y0 y1 efo k0 k1;have HYB:=lh (λwx (h:ai [ab] _ wx)=>(show wx.cell? ⟨wr.heap.size,0,none⟩=some (.slice u0 q.length c1) from h.cell (HY.out _ (ai.refl _ _)).1 (by simp;omega)));clear HY;generalize (wr.alloc (.cells #[.slice u0 q.length c1,.slice (some ⟨iz,0,none⟩) N N] 158))=w3 at *;have hxb:wr.heap.size≠ab:=by omega
   obtain⟨xb,alE⟩:∃ xb,wr.heap.size=xb:=⟨_,rfl⟩;rw[alE] at HYB hxb ⊢;go_loopw [8,9,36] (λ_ _ c wx=>∃ i:Nat,i<=q.length/\c=.int .i64 i/\aw wx w.heap.size (.slice (some ⟨ab,0,none⟩) M M) (qh q i A)/\ai [ab] w3 wx) (λ_ _ c _=>q.length - (intOf c).toNat);case atStart=>exact⟨0,Qk _,rfl,HYR.out,ai.refl _ _⟩
   case round =>
    obtain⟨i,hi,rfl,U0,Is⟩:=hrel;have Wz:=lh U0;have Ys:=lh Is;by_cases lK:i<q.length
    ·have y0:=HYB.out wr Is
     have hqr:=JX.out.aL Is (λb hb=>by
      rw[Qa];intro e;exact aoH.out b (by simpa using hb) e)
     obtain⟨rb,Y',xK⟩:=hqr.some (by omega);subst Y';have Kn:(i+1) % q.length<q.length:=Ql _ (by omega);have d0:=xK i lK;have d1:=xK _ Kn;obtain⟨n,hn⟩:∃ n:Nat,q.getD i 0=n:=⟨(q.getD i 0).toNat,by have:=HQD.out _ (aQ lK);omega⟩;obtain⟨m,hm⟩:∃ m:Nat,q.getD ((i+1) % q.length) 0=m:=⟨(q.getD ((i+1) % q.length) 0).toNat,by have:=HQD.out _ (aQ Kn);omega⟩;have hnM:=HQD.out _ (aQ lK);have hmM:=HQD.out _ (aQ Kn);rw[hn] at d0 hnM;rw[hm] at d1 hmM;have Io:=ql n (by omega);obtain⟨t,ht⟩:∃ t:Nat,aH (n:Int)=t:=⟨(aH (n:Int)).toNat,by unfold aH;split <;> omega⟩;rw[ht] at Io;have qO:=lh (show qh q (i+1) A=(qh q i A).set m (t:Int) by
      show (qh q i A).set _ _=_;rw[hm,hn,ht,Qb])
     have apk:Int.tmod ((i:Int)+1) (q.length:Int)=(((i+1) % q.length:Nat):Int):=by
      rw[Int.tmod_eq_emod_of_nonneg (by omega)]
      push_cast
      rfl
     obtain⟨j,hj⟩:∃ j,(i+1) % q.length=j:=⟨_,rfl⟩;rw[hj] at apk Kn d1;have ay9:m<M:=by omega
     have UQ:(m:Int)<(M:Int):=by omega
     have nC:(j:Int)<(q.length:Int):=by omega
     have hii:(i:Int)<(q.length:Int):=by omega
     have hq0:¬ (q.length:Int)=0:=by omega
     have EC:¬ q.length=0:=by omega
     have wi:IntKind.i64.wrap ((i:Int)+1)=(i:Int)+1:=IntWalk.i64_in _ (by omega);have it:bF (t:Int):=bF.mk (by omega) (by unfold aH at ht;split at ht <;> omega);obtain⟨Yh,-⟩:=qt U0;obtain⟨gg,eg,xQ⟩:=U0.some (by omega);simp only[Qo.injEq,Addr.mk.injEq,and_true] at eg;subst eg;have a0:=xQ m (by omega);obtain⟨acs,ahp⟩:=GG U0.1;have af:=bE ahp m;clear xQ ahp Yh;clear hn hm ht xK hnM hmM hqr;go_wp2_with fail;have aG:ai [] wr wr.drew:=(ai.refl [] wr).drew;refine al (ai [] wr) [0,1,2,3,4,5,6,7,8,9,10,11,12,13] (Way.line [0,1,2,3,4,5,6,7,8,9,10,11,12,13,14] .done) (by kernel_rfl) (by kernel_rfl) ?_;simp only[Way.line]
     repeat (refine aj (v:=?_) rfl (by rfl) (by rfl) (λ_ _ _ h=>h) aG (λw' aB=>?_) ?_;rotate_left;(focus (have fE:=aB.c y0;have fV:=aB.c d0;have kD:=aB.c d1;clear aB;go_simp;try with_reducible rfl));simp only[Act.put,Z1,Z2,Z3,Z4,Z5,Z6])
     have a1:=aG.c a0;have f1:=(show wr.drew.frozen? ⟨ab,m,none⟩=false from af);refine aq rfl (by rfl) (by rfl) (λK hK=>?_);go_simp;refine hK.out _ _ (λh=>absurd h (Bool.eq_false_iff.1 (by kernel_rfl))) ?_;clear hK K;try simp only[Act.put,Z1,Z2,Z3,Z4,Z5,Z6]
     refine ar ?_;have Bp:=lh (show aw (wr.setCell ⟨ab,m,none⟩ (.int .i64 (t:Int))).drew w.heap.size (.slice (some ⟨ab,0,none⟩) M M) (qh q (i+1) A) by rw[qO.out];exact (Wz.out.set m (t:Int) it).aL (ai.refl [] _).drew (by simp));have bU:=lh (show ai [ab] w3 (wr.setCell ⟨ab,m,none⟩ (.int .i64 (t:Int))).drew from (Ys.out.setCell (p:=⟨ab,m,none⟩) (Or.inl (by simp)) (.int .i64 (t:Int))).drew);clear aG a1 f1 a0 af d0 d1 y0 U0 Is;generalize (wr.setCell ⟨ab,m,none⟩ (.int .i64 (t:Int))).drew=w9 at *;go_wp2;go_roundw;case rel=>exact⟨i+1,by omega,by go_num,Bp.out,bU.out⟩
     case measure=>simp[intOf];omega
    have e:i=q.length:=by omega
    subst e;clear lK hi;go_wp2_with fail;refine⟨⟨k+1,by omega,by go_num,by rw[HA.out];exact Wz.out,?_⟩,by simp[intOf];omega⟩;exact (HC.out.t Vy.out).trans Ys.out (λj hj=>Or.inl hj)
  have e:k=s.ak.length:=by omega
  subst e;have s0:=HC.out.cell q0 (show sb ∉ [ab] from by
   rw[Qa];intro e;have:=HB.out.kind.lt;have:=Iw.out;omega)
  clear aW hk;have HAF:=lh (show aw wr w.heap.size (.slice (some ⟨ab,0,none⟩) M M) (zW M s.ak) from bA.out);have Mm:ai [] w1 wr:=(C2.out.trans HC.out (λj hj=>Qp (by rw[Qa.1 hj,HZ.out];exact Qe _)));have vG:=lh Mm;obtain⟨x0,x1,-⟩:=HXB.out wr Mm;have oL:=lh HB.out.n;have gZ:b.e.length<=1024:=by
   have:=ep (Pt.aF HF.out.pe).2.2.1;omega
  clear Mm aT hc bA;go_wp2_with (at_make;refine Lf qq rfl _ _ rfl (B:=wr.heap.size) (n:=N) (by show Qi .i64 g.n=_;rw[oL.out]) (by show Qi .i64 g.n=_;rw[oL.out]) (Qe _) (by omega) ?_;intro w4 h4 c4;have H4:=lh (uM h4);have C4:=lh c4;clear h4 c4;clear s0;replace x0:=C4.out.c x0;replace x1:=C4.out.c x1);obtain⟨tb,TK⟩:∃ tb,wr.heap.size=tb:=⟨_,rfl⟩;have HTB:=lh TK;rw[TK] at H4 ⊢;clear TK;generalize wr=wz at *;obtain⟨A,hA⟩:∃ A,zW M s.ak=A:=⟨_,rfl⟩;have HAR:=lh (λ(v:Nat) (hv:v<N) (k:Nat) (hk:k<(first (ay aa v)).length)=>(show A.getD ((first (ay aa v)).getD k 0).toNat 0=(first (ay aa v)).getD ((k+1) % (first (ay aa v)).length) 0 from by
   rw[<-hA];exact NK HF.out HDM.out (by rw[oL.out];omega) hk))
  rw[hA] at HAF;clear hA;have DY:=lh (ct b);go_loopw [12,13,14,15,66] (λ_ _ _ _ c wx=>∃ k:Nat,k<=b.e.length/\c=.int .i64 k/\∃ ts,bN wx tb 25 1 (.slice (some ⟨tb,0,none⟩) N N) N ts (gG g b aa N (2*k))/\ai [] wz wx) (λ_ _ _ _ c _=>b.e.length - (intOf c).toNat);case atStart=>exact⟨0,Qk _,rfl,_,by rw[Nat.mul_zero,JH];exact H4.out,C4.out⟩
  case round =>
   obtain⟨k,hk,rfl,ts,bn,eV⟩:=hrel;have jq:=lh bn;have xS:=lh eV;by_cases aW:k<b.e.length
   ·have hww:=(gJ.out.t vG.out).t eV
    have HWW:=lh hww;obtain⟨eb,cR,ebo,RD⟩:=oG (by intro q;rw[q] at aW;simp at aW);have ec:=hww.c (RD k aW);have qT:=cG (Pt.aF HF.out.pe).2.2.1 aW;obtain⟨en,lJ⟩:∃ en:Nat,b.e.getD k 0=en:=⟨(b.e.getD k 0).toNat,by omega⟩;rw[lJ] at ec qT;have HDJ:=lh (show ∀ j,j<2->b.ah.getD (2*k+j) 0=((2*en+j:Nat):Int) from λj hj=>by
     rw[lB aW j hj,lJ];omega)
    have pr:∀ j,j<2->2*k+j<b.ah.length:=λj hj=>by have:=DY.out;omega
    have HJL:=lh pr;have WD:en<g.e.length:=by omega
    have hki:(k:Int)<(b.e.length:Int):=by omega
    have Je:(en:Int)<=1024:=by omega
    obtain⟨x0,x1,-⟩:=HXB.out wr (vG.out.t eV);clear RD qT lJ pr hww x0 x1;subst ebo;go_wp2_with fail;clear ec;go_loopw [13,14,15] (λc _ _ wx=>∃ j:Nat,j<=2/\c=.int .i64 ((2*en+j:Nat):Int)/\∃ ts,bN wx tb 25 1 (.slice (some ⟨tb,0,none⟩) N N) N ts (gG g b aa N (2*k+j))/\ai [] wz wx) (λc _ _ _=>2*en+2 - (intOf c).toNat);case atStart=>exact⟨0,by omega,by go_num,ts,jq.out,xS.out⟩
    case round =>
     obtain⟨j,hj,rfl,ts,bn,T9⟩:=hrel;have HNJ:=lh bn;have U3:=lh T9;have HCT:=lh T9;by_cases Nr:j<2
     ·have Mm:=(gJ.out.t vG.out).t T9
      have hgi:=HB.out.A6.fresh Mm;have s0:=hgi.c0;have s1:=hgi.c1;have I0:=lh hgi.gr;obtain⟨d,hd⟩:∃ d:Nat,2*en+j=d:=⟨_,rfl⟩;have hJ:=HJL.out j Nr;have hdJ:=HDJ.out j Nr;rw[hd] at hdJ ⊢;obtain⟨J,hJe⟩:∃ J,2*k+j=J:=⟨_,rfl⟩;rw[hJe] at hJ hdJ HNJ;have oF:d / 2<g.e.length:=by omega
      obtain⟨v,hv,AL⟩:=pd HB.out.err oL.out oF;have hdM:=HDM.out _ (aQ hJ);rw[hdJ] at hdM;have aoB:d<M:=by omega
      have Iq:=lh hv;have HJE:=lh (show 2*k+(j+1)=J+1 by omega);have VF:=lh (show 2*en+(j+1)=d+1 by omega);have Hq:g.tail (b.ah.getD J 0)=v:=by rw[hdJ];exact hv
      have aw0:(d:Int)<=2*(en:Int)+1:=by omega
      have Pf:(v:Int)<(N:Int):=by omega
      have WA:(d:Int)<(M:Int):=by omega
      have hj3:j+1<=2:=by omega
      have hms:2*en+2 - (d+1)<2*en+2 - d:=by omega
      have j6:=HNJ.out.cell (k:=v) (by rw[HNJ.out.cells];omega);have RK:=HNJ.out.row (Hz AL);obtain⟨R,hR⟩:∃ R,first (ay aa v)=R:=⟨_,rfl⟩;have EX:g.e.length<4294967296:=by omega
      by_cases hT:bQ g b v J=[]
      ·rw[if_pos hT] at RK
       obtain⟨l,hl⟩:=Ga HF.out.iX (Pt.ax HF.out.pe) (bK (Pt.aF HF.out.pe).2.2.1) (v:=v) (by rw[oL.out];omega) hJ Hq hT;rw[hdJ,hR] at hl;have XL:=lh (show R.Nodup by rw[<-hR];exact (di _).nodup_iff.2 (HF.out.iX.nodup _));have ZT:=lh (show ∀ x∈R,0<=x/\x.toNat<M from λx hx=>by
        rw[<-hR] at hx;exact HDM.out x ((HF.out.iX.mem v (by omega) (by rw[oL.out];omega) x).1 ((di _).mem_iff.1 hx)).1)
       have hRA:=HAR.out v AL;rw[hR] at hRA;have Il:=lh hRA;have hRl:R.length<=2048:=by
        have:=iI (N:=2048) XL.out λx hx=>by
         have:=ZT.out x hx;omega
        exact this
       have Vc:R.getD 0 0=d:=by rw[hl];rfl
       have MH:=lh Vc;have hRp:0<R.length:=by rw[hl];simp
       have Tm:=lh (show R.take 1=[(d:Int)] by rw[hl];rfl);have Fc:=lh (show (gG g b aa N J).set v (.row R)=gG g b aa N (J+1) by rw[<-hR];exact Cq hJ AL Hq);have pU:=lh (show ∀ wx,ai [] w wx\/True->∀ x:Nat,x<M->aw wx w.heap.size (.slice (some ⟨ab,0,none⟩) M M) A->wx.cell? ⟨ab,x,none⟩=some (.int .i64 (A.getD x 0)) from λwx _ x hx hr=>by
        obtain⟨Yh,-⟩:=qt hr;obtain⟨gg,eg,xQ⟩:=hr.some (by omega);simp only[Qo.injEq,Addr.mk.injEq,and_true] at eg;subst eg;exact xQ x (by omega))
       obtain⟨e1,AO⟩:∃ e1:Nat,R.getD (1 % R.length) 0=e1:=⟨(R.getD (1 % R.length) 0).toNat,by have:=ZT.out _ (aQ (show 1 % R.length<R.length from Ql _ hRp));omega⟩;have HE1:=lh AO;have hA1:A.getD d 0=(e1:Int):=by
        have h:=hRA 0 hRp;rw[Vc,Qb,Qm,AO] at h;exact h
       have HA1:=lh hA1;have idx:bF (d:Int):=bF.mk (by omega) (by omega);clear hv hJ hdJ hdM Hq hR RK hJe hgi Mm bn T9 hd hl Vc hRA AO hA1 j6;go_wp2_with fail;refine (dH _ g d _ oF EX I0.out).mono ?_;rw[Iq.out];rintro e w9 ⟨rfl,hc9⟩;obtain⟨va,vc,zz,yR,Uz,p1,p2,p3,p4,⟨ts1,p5⟩,p6⟩:=Ch (l:=[]) (x:=(d:Int)) (HNJ.out.fresh hc9) AL (by rw[Hz AL,if_pos hT]) idx (by simp);simp only[List.length_nil,Qm,List.nil_append] at p1 p2 p3 p4 p5 p6;have Ik:=lh p2;have VJ:=lh (p6 _ (HCT.out.t hc9) HTB.out);have hrA:=HAF.out.aL VJ.out (by simp);have ac:=pU.out _ (Qp trivial) d aoB hrA;rw[HA1.out] at ac;have apU:=lh p5;clear p2 p5 p6 hrA s0 s1 hc9;go_wp2_with (at_builtin;refine mK rfl _ _ 25 rfl rfl rfl Ik.out ?_);clear ac p1 p3 p4 Ik;generalize Uz.setCell ⟨tb,v,none⟩ (.slice zz 1 yR)=Mr at *;go_loopg [15] (R.length+1) (λfuel c wx=>∃ kk:Nat,1<=kk/\kk<=R.length/\c=.int .i64 (R.getD (kk % R.length) 0)/\(∃ ts,bN wx tb 25 1 (.slice (some ⟨tb,0,none⟩) N N) N ts ((gG g b aa N J).set v (.row (R.take kk))))/\ai [] wz wx/\R.length<fuel+kk/\fuel<=R.length+1)
       case atStart=>exact⟨1,Qe _,by omega,by rw[HE1.out],⟨ts1,by rw[Tm.out];exact apU.out⟩,VJ.out,by omega,Qe _⟩
       case round =>
        obtain⟨kk,hk1,hkR,rfl,⟨ts2,kr⟩,UN,hfu,A8⟩:=hrel;have HN2:=lh kr;have Yu:=lh UN;by_cases rI:kk<R.length
        ·have ES:kk % R.length=kk:=Nat.mod_eq_of_lt rI
         obtain⟨xm,Mz⟩:∃ xm:Nat,R.getD kk 0=xm:=⟨(R.getD kk 0).toNat,by have:=ZT.out _ (aQ rI);omega⟩;have hxM:=ZT.out _ (aQ rI);rw[Mz] at hxM;have amN:xm<M:=by omega
         have P6:¬ (xm:Int)=(d:Int):=by
          intro e;have h1:=iR XL.out rI;have h2:=iR XL.out hRp;rw[Mz,e,<-MH.out,h2] at h1;omega
         have auP:((xm:Int)==(d:Int))=false:=by rw[beq_eq_false_iff_ne];exact P6
         have Vq:(kk+1) % R.length<R.length:=Ql _ hRp;obtain⟨e2,Es⟩:∃ e2:Nat,R.getD ((kk+1) % R.length) 0=e2:=⟨(R.getD ((kk+1) % R.length) 0).toNat,by have:=ZT.out _ (aQ Vq);omega⟩;have hA2:A.getD xm 0=(e2:Int):=by
          have h:=Il.out kk rI;rw[Mz,Qb,Es] at h;exact h
         have HA2:=lh hA2;have Iu:=lh Es;have ixx:bF (xm:Int):=bF.mk (by omega) (by omega);have nn:(R.take kk).length=kk:=by rw[List.length_take];omega
         have uH:=lh (show R.take kk++[(xm:Int)]=R.take (kk+1) by
          rw[List.take_add_one,<-Mz];simp[Qh,rI])
         obtain⟨va,vc,zz,yR,OD,p1,p2,p3,p4,⟨ts3,p5⟩,p6⟩:=Ch (l:=R.take kk) (x:=(xm:Int)) kr AL (by rw[List.getElem?_set_self (by simp[gG];exact AL)]) ixx (by rw[nn];omega);rw[nn] at p1 p2 p3 p5 p6;rw[uH.out,Sd] at p5;have Ik:=lh p2;have Dw:=lh (p6 _ UN HTB.out);have hrA:=HAF.out.aL Dw.out (by simp);have ac:=pU.out _ (Qp trivial) xm amN hrA;rw[HA2.out] at ac;have Wh:=lh p5;have hxi:(xm:Int)<(M:Int):=by omega
         have hgp:0<gk:=by omega
         have Od:R.length<gk - 1+(kk+1):=by omega
         have Lg:gk - 1<=R.length+1:=by omega
         rw[ES,Mz];clear p2 p5 p6 hrA kr UN Mz hxM ES nn Es hA2 hfu A8 P6;go_wp2_with (at_builtin;refine mK rfl _ _ 25 rfl rfl rfl Ik.out ?_);go_roundg (gk - 1)
         case measure=>omega
         case rel=>exact⟨kk+1,by omega,by omega,by rw[Iu.out],⟨ts3,Wh.out⟩,Dw.out,Od,Lg⟩
        have e:kk=R.length:=by omega
        subst e;have ES:R.length % R.length=0:=Nat.mod_self _;rw[ES,MH.out];rw[List.take_length] at HN2;clear ES kr UN hfu A8 rI;go_wp2;exact⟨⟨j+1,hj3,by have:=VF.out;congr 1;omega,ts2,by rw[HJE.out,<-Fc.out];exact HN2.out,Yu.out⟩,by simp[intOf];omega⟩
      have PN:=lh (Kh (aa:=aa) (N:=N) hJ AL Hq hT);rw[if_neg hT,hR] at RK;have hRl:0<R.length:=by
       obtain⟨y,hy⟩:=List.exists_mem_of_ne_nil _ hT;unfold bQ at hy;obtain⟨Ko,LP⟩:=List.mem_filter.1 hy;have h3:=(HF.out.iX.mem v (by omega) (by rw[oL.out];omega) y).2 ⟨List.mem_of_mem_take Ko,of_decide_eq_true LP⟩;rw[<-hR];exact List.length_pos_of_mem ((di _).mem_iff.2 h3)
      obtain⟨ro,rcc,er⟩:=RK.shape;rw[er] at j6;clear hv hJ hdJ hdM Hq hT hR RK er hJe hgi Mm bn T9 hd;go_wp2_with fail;refine (dH _ g d _ oF EX I0.out).mono ?_;rw[Iq.out];rintro e w9 ⟨rfl,hc9⟩;have t9:=hc9.c j6;have Ll:=lh (U3.out.t hc9);have HN9:=lh (HNJ.out.fresh hc9);clear hc9 j6 s0 s1;go_wp2;exact⟨⟨j+1,hj3,by have:=VF.out;congr 1;omega,_,by rw[HJE.out,<-PN.out];exact HN9.out,Ll.out⟩,by simp[intOf];omega⟩
     have e2:j=2:=by omega
     subst e2;have xA:¬ ((2*en+2:Nat):Int)<=2*(en:Int)+1:=by omega
     go_wp2;refine⟨⟨k+1,by omega,by go_num,_,by rw[show 2*(k+1)=2*k+2 by omega];exact HNJ.out,HCT.out⟩,by simp[intOf];omega⟩
   have e:k=b.e.length:=by omega
   subst e;clear aW hk;go_wp2;go_ret;have Dt:=jq.out;rw[<-DY.out,O7 HF.out.iX oL.out] at Dt;exact⟨tb,ts,rfl,Dt.base (by rw[<-HTB.out];exact Nat.le_trans gJ.out.size vG.out.size),(gJ.out.t vG.out).t xS.out⟩
